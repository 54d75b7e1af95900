/-
  The calls of functions of the program answer as their plain forms say, part 1. Printed by a program.
-/
import Derived.Test.YtknenggmdnpimaaRows
import Derived.Test.YtknenggmdnpimaaMA
import Derived.Test.YtknenggmdnpimaaK1
import Derived.Test.YtknenggmdnpimaaWv
import Derived.Test.YtknenggmdnpimaaIt
set_option linter.unusedVariables false
set_option linter.unusedSimpArgs false
namespace Go.Proofs.Ytknenggmdnpimaa
open Go Go.RowKit Go.Wk
theorem ck5 : CallOk Try.prog 5 := ⟨_, _, Try.func5, rfl, by kernel_rfl⟩
theorem ck6 : CallOk Try.prog 6 := ⟨_, _, Try.func6, rfl, by kernel_rfl⟩
theorem ck7 : CallOk Try.prog 7 := ⟨_, _, Try.func7, rfl, by kernel_rfl⟩
theorem ck8 : CallOk Try.prog 8 := ⟨_, _, Try.func8, rfl, by kernel_rfl⟩
theorem ck9 : CallOk Try.prog 9 := ⟨_, _, Try.func9, rfl, by kernel_rfl⟩
theorem ck10 : CallOk Try.prog 10 := ⟨_, _, Try.func10, rfl, by kernel_rfl⟩
theorem ck11 : CallOk Try.prog 11 := ⟨_, _, Try.func11, rfl, by kernel_rfl⟩
theorem ck12 : CallOk Try.prog 12 := ⟨_, _, Try.func12, rfl, by kernel_rfl⟩
theorem ck13 : CallOk Try.prog 13 := ⟨_, _, Try.func13, rfl, by kernel_rfl⟩
theorem ck15 : CallOk Try.prog 15 := ⟨_, _, Try.func15, rfl, by kernel_rfl⟩
theorem ck16 : CallOk Try.prog 16 := ⟨_, _, Try.func16, rfl, by kernel_rfl⟩
theorem ck17 : CallOk Try.prog 17 := ⟨_, _, Try.func17, rfl, by kernel_rfl⟩
theorem ck18 : CallOk Try.prog 18 := ⟨_, _, Try.func18, rfl, by kernel_rfl⟩
theorem ck19 : CallOk Try.prog 19 := ⟨_, _, Try.func19, rfl, by kernel_rfl⟩
theorem ck20 : CallOk Try.prog 20 := ⟨_, _, Try.func20, rfl, by kernel_rfl⟩
theorem ck21 : CallOk Try.prog 21 := ⟨_, _, Try.func21, rfl, by kernel_rfl⟩
theorem ck23 : CallOk Try.prog 23 := ⟨_, _, Try.func23, rfl, by kernel_rfl⟩
theorem ck26 : CallOk Try.prog 26 := ⟨_, _, Try.func26, rfl, by kernel_rfl⟩
theorem ck27 : CallOk Try.prog 27 := ⟨_, _, Try.func27, rfl, by kernel_rfl⟩
theorem ck28 : CallOk Try.prog 28 := ⟨_, _, Try.func28, rfl, by kernel_rfl⟩
theorem ck29 : CallOk Try.prog 29 := ⟨_, _, Try.func29, rfl, by kernel_rfl⟩
theorem ck30 : CallOk Try.prog 30 := ⟨_, _, Try.func30, rfl, by kernel_rfl⟩
theorem ck31 : CallOk Try.prog 31 := ⟨_, _, Try.func31, rfl, by kernel_rfl⟩
theorem ck34 : CallOk Try.prog 34 := ⟨_, _, Try.func34, rfl, by kernel_rfl⟩
theorem ck35 : CallOk Try.prog 35 := ⟨_, _, Try.func35, rfl, by kernel_rfl⟩
theorem ck38 : CallOk Try.prog 38 := ⟨_, _, Try.func38, rfl, by kernel_rfl⟩
theorem ck39 : CallOk Try.prog 39 := ⟨_, _, Try.func39, rfl, by kernel_rfl⟩
theorem ck40 : CallOk Try.prog 40 := ⟨_, _, Try.func40, rfl, by kernel_rfl⟩
theorem ck41 : CallOk Try.prog 41 := ⟨_, _, Try.func41, rfl, by kernel_rfl⟩
theorem ck42 : CallOk Try.prog 42 := ⟨_, _, Try.func42, rfl, by kernel_rfl⟩
theorem ck43 : CallOk Try.prog 43 := ⟨_, _, Try.func43, rfl, by kernel_rfl⟩
theorem ck44 : CallOk Try.prog 44 := ⟨_, _, Try.func44, rfl, by kernel_rfl⟩
theorem ck45 : CallOk Try.prog 45 := ⟨_, _, Try.func45, rfl, by kernel_rfl⟩
theorem ck46 : CallOk Try.prog 46 := ⟨_, _, Try.func46, rfl, by kernel_rfl⟩
theorem ck47 : CallOk Try.prog 47 := ⟨_, _, Try.func47, rfl, by kernel_rfl⟩
theorem ck48 : CallOk Try.prog 48 := ⟨_, _, Try.func48, rfl, by kernel_rfl⟩
theorem ck49 : CallOk Try.prog 49 := ⟨_, _, Try.func49, rfl, by kernel_rfl⟩
theorem ck50 : CallOk Try.prog 50 := ⟨_, _, Try.func50, rfl, by kernel_rfl⟩
theorem ck53 : CallOk Try.prog 53 := ⟨_, _, Try.func53, rfl, by kernel_rfl⟩
theorem ck57 : CallOk Try.prog 57 := ⟨_, _, Try.func57, rfl, by kernel_rfl⟩
theorem ck58 : CallOk Try.prog 58 := ⟨_, _, Try.func58, rfl, by kernel_rfl⟩
theorem ck59 : CallOk Try.prog 59 := ⟨_, _, Try.func59, rfl, by kernel_rfl⟩
theorem ck60 : CallOk Try.prog 60 := ⟨_, _, Try.func60, rfl, by kernel_rfl⟩
theorem ck61 : CallOk Try.prog 61 := ⟨_, _, Try.func61, rfl, by kernel_rfl⟩
theorem ck62 : CallOk Try.prog 62 := ⟨_, _, Try.func62, rfl, by kernel_rfl⟩
theorem ck63 : CallOk Try.prog 63 := ⟨_, _, Try.func63, rfl, by kernel_rfl⟩
theorem ck64 : CallOk Try.prog 64 := ⟨_, _, Try.func64, rfl, by kernel_rfl⟩
theorem ck66 : CallOk Try.prog 66 := ⟨_, _, Try.func66, rfl, by kernel_rfl⟩
theorem ck70 : CallOk Try.prog 70 := ⟨_, _, Try.func70, rfl, by kernel_rfl⟩
theorem ck83 : CallOk Try.prog 83 := ⟨_, _, Try.func83, rfl, by kernel_rfl⟩
theorem st47 : StOk Try.prog 47 [.slice none 0 0, .bool false, .int .i64 0] [(0, 1), (1, 1), (2, 1)] := ⟨Try.zeroValue47, _, Try.underlying47, fun w => by kernel_rfl⟩
theorem st52 : StOk Try.prog 52 [.slice none 0 0, .int .i64 0, .bool false, .int .i64 0, .int .i64 0, .int .i64 0, .int .i64 0] [(0, 1), (1, 1), (2, 1), (3, 1), (4, 1), (5, 1), (6, 1)] := ⟨Try.zeroValue52, _, Try.underlying52, fun w => by kernel_rfl⟩
theorem st87 : StOk Try.prog 87 [Str [], .slice none 0 0, .int .i64 0] [(0, 1), (1, 1), (2, 1)] := ⟨Try.zeroValue87, _, Try.underlying87, fun w => by kernel_rfl⟩
theorem st89 : StOk Try.prog 89 [.slice none 0 0, .int .i64 0, .int .i64 0] [(0, 1), (1, 1), (2, 1)] := ⟨Try.zeroValue89, _, Try.underlying89, fun w => by kernel_rfl⟩
theorem el87 : ElOk Try.prog 87 3 48 := elOk_of (by kernel_rfl) (by decide)
set_option maxRecDepth 20000 in
theorem clone_25 {Z0 : Nat → Prop} (w : World) (A : Option Addr) (c : Nat) (l : List UInt8) {r : List UInt8} (h : (slR A c byteR l).H Z0 w) (hM : appL [] l = some r) :
    Calls Try.prog 25 #[.slice A l.length c] w fun x w' => ∃ A' c', x = .returned (.slice A' r.length c') ∧ Hp Z0 No w w' [ownR 5 A' c' byteR r] := by
  have hm0 := Hp.nil Z0 No w
  have hm1 := hm0.know (slR A c byteR l) (fun _ h => h) (hm0.in0 Calm.nil h)
  refine Rn.enter Try.func25 rfl rfl (Nat.le_of_ble_eq_true rfl) ?_
  refine Rn.seq (Rn.reg (Rn.v rfl rfl rfl rfl (V.as rfl) (Rn.regEnd (Rn.seq (Rn.seq (Rn.reg (Rn.v rfl rfl rfl rfl (V.mv rfl) (Rn.v rfl rfl rfl rfl (V.eqlV Try.underlying22 rfl rfl) (Rn.regEnd ?_)))))))))
  cases A with
  | none =>
    obtain rfl := clone_get h
    obtain ⟨_, rfl⟩ := appE hM
    refine Rn.condT rfl (Rn.seq (Rn.reg (Rn.v rfl rfl rfl rfl (V.as rfl) (Rn.regEnd ?_))))
    refine Rn.retG1 Try.func25 rfl (rvT rfl) ?_
    exact ⟨none, 0, rfl, (hm0.addNil 5 byteR)⟩
  | some a =>
    refine Rn.condF rfl (Rn.skip (Rn.seq (Rn.reg ?_)))
    refine Rn.bslS (ps := []) (us := []) rfl rfl rfl Try.underlying22 el5 rfl rfl rfl rfl (by simp) (by decide) ?_
    intro b2 w2 hb2 m2 e2
    have hm2 := hm1.addLit (rep := byteR) (xs := ([] : List UInt8)) (vss := []) hb2 e2 m2 rfl rfl rfl rels0
    refine Rn.v rfl rfl rfl rfl (V.mv rfl) (Rn.appH hm2 1 rfl hM rfl rfl rfl Try.underlying22 el5 rfl rfl rfl rfl (hm2.src 0 rfl) ?_)
    intro A3 c3 w3 hm3
    refine Rn.v rfl rfl rfl rfl (V.as rfl) (Rn.regEnd ?_)
    refine Rn.retG1 Try.func25 rfl (rvT rfl) ?_
    exact ⟨A3, c3, rfl, hm3.pick [1] rfl (by decide)⟩

set_option maxRecDepth 20000 in
theorem m_disk_New_sim {Z0 : Nat → Prop} (w : World) (A0 : Option Addr) (c0 : Nat) (x0 : (List T_api_File)) (x1 : Int) {r : (Option PD)} (f0 : (slR A0 c0 T_api_File.rep x0).H Z0 w) (hM : m_disk_New x0 x1 = some r) :
    Calls Try.prog 6 #[.slice A0 (x0).length c0, .int .i64 (x1)] w fun x w' => ∃ F_0 b_0, x = .returned (.pointer (optP b_0 r)) ∧ Hp Z0 No w w' [optR r (fun z => diskO 61 68 5 F_0 b_0 z)] := by
  unfold m_disk_New at hM
  split at hM
  · rename_i hg
    obtain rfl := someE hM
    refine (dnew_spec (D := All) A0 c0 _ (x0.map fun f : T_api_File => (f.Name, f.Data)) x1 w (by simp; omega) (by simp) (sl_map (g := fun f : T_api_File => (f.Name, f.Data)) (slR_all f0).2.2)).mono ?_
    rintro x w' ⟨h, hx⟩
    rcases h with ⟨rfl, hn⟩ | ⟨s, b, F, hn, rfl, hd, hF⟩
    · rw [hn]; exact ⟨No, 0, rfl, (Hp.nil Z0 No w).ext hx |>.addNone _⟩
    · rw [hn]; exact ⟨F, b, rfl, ((Hp.nil Z0 No w).add (diskO 61 68 5 F b s) hx hF fun _ _ => hd).toSome (R := fun z => diskO 61 68 5 F b z) 0 rfl⟩
  · cases hM

set_option maxRecDepth 20000 in
theorem m_frame_four_sim {Z0 : Nat → Prop} (w : World) (x0 : UInt32) {r : (List UInt8)}  (hM : m_frame_four x0 = some r) :
    Calls Try.prog 48 #[.int .u32 (((x0).toNat : Nat) : Int)] w fun x w' => ∃ A_0_0 c_0_0, x = .returned (.slice A_0_0 (r).length c_0_0) ∧ Hp Z0 No w w' [ownR 5 A_0_0 c_0_0 byteR r] := by
  have hm0 := Hp.nil Z0 No w
  have hc0 := Calm.nil
  refine Rn.enter Try.func48 rfl rfl (Nat.le_of_ble_eq_true rfl) ?_
  refine Rn.seq (Rn.reg (Rn.v rfl rfl rfl rfl (V.as rfl) (Rn.regEnd (Rn.seq (Rn.reg (Rn.v rfl rfl rfl rfl (V.mv rfl) (Rn.v rfl rfl rfl rfl (V.cv8 Try.underlying92 Try.underlying5 rfl) (Rn.v rfl rfl rfl rfl (V.mv rfl) (Rn.v rfl rfl rfl rfl (V.sh32 rfl rfl _ 8 rfl rfl (b32_shr _ _ _ 8 (by decide))) (Rn.v rfl rfl rfl rfl (V.cv8 Try.underlying92 Try.underlying5 rfl) (Rn.v rfl rfl rfl rfl (V.mv rfl) (Rn.v rfl rfl rfl rfl (V.sh32 rfl rfl _ 16 rfl rfl (b32_shr _ _ _ 16 (by decide))) (Rn.v rfl rfl rfl rfl (V.cv8 Try.underlying92 Try.underlying5 rfl) (Rn.v rfl rfl rfl rfl (V.mv rfl) (Rn.v rfl rfl rfl rfl (V.sh32 rfl rfl _ 24 rfl rfl (b32_shr _ _ _ 24 (by decide))) (Rn.v rfl rfl rfl rfl (V.cv8 Try.underlying92 Try.underlying5 rfl) (Rn.bslS rfl rfl rfl Try.underlying22 el5 rfl rfl rfl rfl (by first | exact szs rfl | (simp [Value.cells]; done)) (by decide) ?_)))))))))))))))))
  intro b1 w1 hb1 m1 e1
  have hm2 := hm0.addLit (rep := byteR) (xs := ([toU8 ((x0).toNat : Int), toU8 ((x0 >>> UInt32.ofNat 8).toNat : Int), toU8 ((x0 >>> UInt32.ofNat 16).toNat : Int), toU8 ((x0 >>> UInt32.ofNat 24).toNat : Int)] : List UInt8)) (vss := [[.int .u8 (((toU8 ((x0).toNat : Int)).toNat : Nat) : Int)], [.int .u8 (((toU8 ((x0 >>> UInt32.ofNat 8).toNat : Int)).toNat : Nat) : Int)], [.int .u8 (((toU8 ((x0 >>> UInt32.ofNat 16).toNat : Int)).toNat : Nat) : Int)], [.int .u8 (((toU8 ((x0 >>> UInt32.ofNat 24).toNat : Int)).toNat : Nat) : Int)]]) hb1 e1 m1 rfl rfl rfl ((rels_cons (fun _ _ => ⟨rfl, trivial⟩) (rels_cons (fun _ _ => ⟨rfl, trivial⟩) (rels_cons (fun _ _ => ⟨rfl, trivial⟩) (rels_cons (fun _ _ => ⟨rfl, trivial⟩) rels0)))))
  refine Rn.v rfl rfl rfl rfl (V.as rfl) (Rn.regEnd ?_)
  refine Rn.retG1 Try.func48 rfl (rvT rfl) ?_
  obtain rfl := someE hM
  exact ⟨(some ⟨b1, 0, none⟩), 4, rfl, hm2.pick [0] rfl (by decide)⟩

set_option maxRecDepth 20000 in
theorem m_crc_Of_sim {Z0 : Nat → Prop} (w : World) (A0 : Option Addr) (c0 : Nat) (x0 : (List UInt8)) {r : UInt32} (f0 : (slR A0 c0 byteR x0).H Z0 w) (hM : m_crc_Of x0 = some r) :
    Calls Try.prog 66 #[.slice A0 (x0).length c0] w fun x w' => x = .returned (.int .u32 (((r).toNat : Nat) : Int)) ∧ Hp Z0 No w w' [] := by
  unfold m_crc_Of at hM
  split at hM
  · rename_i hg
    obtain rfl := someE hM
    refine (of_spec A0 c0 x0 w (by omega) (slR_all f0).2.2).mono ?_
    rintro x w' ⟨rfl, hx⟩
    exact ⟨rfl, (Hp.nil Z0 No w).ext hx⟩
  · cases hM

set_option maxRecDepth 20000 in
theorem m_crc_More_sim {Z0 : Nat → Prop} (w : World) (x0 : UInt32) (A1 : Option Addr) (c1 : Nat) (x1 : (List UInt8)) {r : UInt32} (f0 : (slR A1 c1 byteR x1).H Z0 w) (hM : m_crc_More x0 x1 = some r) :
    Calls Try.prog 65 #[.int .u32 (((x0).toNat : Nat) : Int), .slice A1 (x1).length c1] w fun x w' => x = .returned (.int .u32 (((r).toNat : Nat) : Int)) ∧ Hp Z0 No w w' [] := by
  unfold m_crc_More at hM
  split at hM
  · rename_i hg
    obtain rfl := someE hM
    refine (more_spec x0 A1 c1 x1 w (by omega) (slR_all f0).2.2).mono ?_
    rintro x w' ⟨rfl, hx⟩
    exact ⟨rfl, (Hp.nil Z0 No w).ext hx⟩
  · cases hM

set_option maxRecDepth 20000 in
theorem m_frame_sum_sim {Z0 : Nat → Prop} (w : World) (A0 : Option Addr) (c0 : Nat) (x0 : (List UInt8)) (A1 : Option Addr) (c1 : Nat) (x1 : (List UInt8)) {r : UInt32} (f0 : (slR A0 c0 byteR x0).H Z0 w) (f1 : (slR A1 c1 byteR x1).H Z0 w) (hM : m_frame_sum x0 x1 = some r) :
    Calls Try.prog 49 #[.slice A0 (x0).length c0, .slice A1 (x1).length c1] w fun x w' => x = .returned (.int .u32 (((r).toNat : Nat) : Int)) ∧ Hp Z0 No w w' [] := by
  have hm0 := Hp.nil Z0 No w
  have hc0 := Calm.nil
  have hm3 := hm0.know (slR A0 c0 byteR x0) (fun _ h => h) (hm0.in0 hc0 f0)
  replace hc0 := hc0.snoc (r := slR A0 c0 byteR x0) (fun _ h => h)
  have hm4 := hm3.know (slR A1 c1 byteR x1) (fun _ h => h) (hm3.in0 hc0 f1)
  replace hc0 := hc0.snoc (r := slR A1 c1 byteR x1) (fun _ h => h)
  refine Rn.enter Try.func49 rfl rfl (Nat.le_of_ble_eq_true rfl) ?_
  refine Rn.seq (Rn.reg (Rn.v rfl rfl rfl rfl (V.as rfl) (Rn.regEnd (Rn.seq (Rn.reg (Rn.v rfl rfl rfl rfl (V.mv rfl) ?_))))))
  obtain ⟨p5, e5, hM⟩ := bindE hM
  refine Rn.cl ck66 rfl rfl rfl rfl (m_crc_Of_sim (Z0 := All) _ A0 c0 x0 (slR_all (hm4.get 0 rfl)) e5) ?_
  rintro _ w5 ⟨rfl, hq5⟩
  refine ⟨_, rfl, ?_⟩
  have hm6 := hm4.call0 hq5
  refine Rn.v rfl rfl rfl rfl (V.mv rfl) ?_
  obtain ⟨p7, e7, hM⟩ := bindE hM
  refine Rn.cl ck65 rfl rfl rfl rfl (m_crc_More_sim (Z0 := All) _ p5 A1 c1 x1 (slR_all (hm6.get 1 rfl)) e7) ?_
  rintro _ w7 ⟨rfl, hq7⟩
  refine ⟨_, rfl, ?_⟩
  have hm8 := hm6.call0 hq7
  refine Rn.v rfl rfl rfl rfl (V.as rfl) (Rn.regEnd ?_)
  refine Rn.retG1 Try.func49 rfl (rvT rfl) ?_
  obtain rfl := someE hM
  exact ⟨rfl, hm8.pick [] rfl (by decide)⟩

set_option maxRecDepth 20000 in
theorem m_frame_Wrap_sim {Z0 : Nat → Prop} (w : World) (A0 : Option Addr) (c0 : Nat) (x0 : (List UInt8)) {r : ((List UInt8) × Int)} (f0 : (slR A0 c0 byteR x0).H Z0 w) (hM : m_frame_Wrap x0 = some r) :
    Calls Try.prog 26 #[.slice A0 (x0).length c0] w fun x w' => ∃ A_0_0 c_0_0, x = .returned (.tuple #[.slice A_0_0 (r.1).length c_0_0, .int .i64 (r.2)]) ∧ Hp Z0 No w w' [ownR 5 A_0_0 c_0_0 byteR r.1] := by
  have hm0 := Hp.nil Z0 No w
  have hc0 := Calm.nil
  have hm2 := hm0.know (slR A0 c0 byteR x0) (fun _ h => h) (hm0.in0 hc0 f0)
  replace hc0 := hc0.snoc (r := slR A0 c0 byteR x0) (fun _ h => h)
  refine Rn.enter Try.func26 rfl rfl (Nat.le_of_ble_eq_true rfl) ?_
  refine Rn.seq (Rn.reg (Rn.v rfl rfl rfl rfl (V.as rfl) (Rn.v rfl rfl rfl rfl (V.as rfl) (Rn.regEnd (Rn.seq (Rn.seq (Rn.reg (Rn.v rfl rfl rfl rfl (V.mv rfl) (Rn.v rfl rfl rfl rfl (V.lenV Try.underlying22 rfl) (Rn.v rfl rfl rfl rfl (V.gtr rfl rfl) (Rn.regEnd ?_)))))))))))
  refine Rn.condD rfl (fun h3 => ?_) (fun h3 => ?_)
  · replace hM := iteT h3 hM
    refine Rn.seq (Rn.reg (Rn.v rfl rfl rfl rfl (V.as rfl) (Rn.v rfl rfl rfl rfl (V.as rfl) (Rn.regEnd ?_))))
    have hm4 := hm2.addNil 5 byteR
    refine Rn.retG2 Try.func26 rfl (rvT rfl) (rvT rfl) ?_
    obtain rfl := someE hM
    exact ⟨none, 0, rfl, hm4.pick [1] rfl (by decide)⟩
  · replace hM := iteF h3 hM
    refine Rn.skip (Rn.seq (Rn.reg (Rn.bslS rfl rfl rfl Try.underlying22 el5 rfl rfl rfl rfl (by first | exact szs rfl | (simp [Value.cells]; done)) (by decide) ?_)))
    intro b6 w6 hb6 m6 e6
    have hm7 := hm2.addLit (rep := byteR) (xs := ([(165 : UInt8)] : List UInt8)) (vss := [[.int .u8 ((((165 : UInt8)).toNat : Nat) : Int)]]) hb6 e6 m6 rfl rfl rfl ((rels_cons (fun _ _ => ⟨rfl, trivial⟩) rels0))
    refine Rn.v rfl rfl rfl rfl (V.mv rfl) (Rn.v rfl rfl rfl rfl (V.lenV Try.underlying22 rfl) (Rn.v rfl rfl rfl rfl (V.cv32 Try.underlying3 Try.underlying92 rfl) ?_))
    obtain ⟨p9, e9, hM⟩ := bindE hM
    refine Rn.cl ck48 rfl rfl rfl rfl (m_frame_four_sim (Z0 := All) _ (toU32 (x0.length : Int))  e9) ?_
    rintro _ w9 ⟨A9_0_0, c9_0_0, rfl, hq9⟩
    refine ⟨_, rfl, ?_⟩
    have hm11 : Hp Z0 No w w9 [slR A0 c0 byteR x0, ownR 5 (some ⟨b6, 0, none⟩) 1 byteR ([(165 : UInt8)] : List UInt8), ownR 5 A9_0_0 c9_0_0 byteR p9] := hm7.callF (flC (ownR_flat byte_flat _ _ _ _) fl0) hq9
    obtain ⟨z12, e12, hM⟩ := bindE hM
    refine Rn.appH hm11 1 rfl e12 rfl rfl rfl Try.underlying22 el5 rfl rfl rfl rfl (hm11.srcO 2 rfl) ?_
    intro A12 c12 w12 hm12
    refine Rn.v rfl rfl rfl rfl (V.as rfl) (Rn.regEnd (Rn.seq (Rn.reg (Rn.v rfl rfl rfl rfl (V.mv rfl) (Rn.v rfl rfl rfl rfl (V.mv rfl) (Rn.v rfl rfl rfl rfl (V.mv rfl) ?_))))))
    obtain ⟨p14, e14, hM⟩ := bindE hM
    refine Rn.cl ck49 rfl rfl rfl rfl (m_frame_sum_sim (Z0 := All) _ A12 c12 z12 A0 c0 x0 (own_slR (hm12.get 1 rfl)) (slR_all (hm12.get 0 rfl)) e14) ?_
    rintro _ w14 ⟨rfl, hq14⟩
    refine ⟨_, rfl, ?_⟩
    have hm15 := hm12.call0 hq14
    obtain ⟨p16, e16, hM⟩ := bindE hM
    refine Rn.cl ck48 rfl rfl rfl rfl (m_frame_four_sim (Z0 := All) _ p14  e16) ?_
    rintro _ w16 ⟨A16_0_0, c16_0_0, rfl, hq16⟩
    refine ⟨_, rfl, ?_⟩
    have hm18 : Hp Z0 No w w16 [slR A0 c0 byteR x0, ownR 5 A12 c12 byteR z12, ownR 5 A9_0_0 c9_0_0 byteR p9, ownR 5 A16_0_0 c16_0_0 byteR p16] := hm15.callF (flC (ownR_flat byte_flat _ _ _ _) fl0) hq16
    obtain ⟨z19, e19, hM⟩ := bindE hM
    refine Rn.appH hm18 1 rfl e19 rfl rfl rfl Try.underlying22 el5 rfl rfl rfl rfl (hm18.srcO 3 rfl) ?_
    intro A19 c19 w19 hm19
    refine Rn.v rfl rfl rfl rfl (V.as rfl) (Rn.regEnd (Rn.seq (Rn.reg (Rn.v rfl rfl rfl rfl (V.mv rfl) (Rn.v rfl rfl rfl rfl (V.mv rfl) ?_)))))
    obtain ⟨z21, e21, hM⟩ := bindE hM
    refine Rn.appH hm19 1 rfl e21 rfl rfl rfl Try.underlying22 el5 rfl rfl rfl rfl (hm19.src 0 rfl) ?_
    intro A21 c21 w21 hm21
    refine Rn.v rfl rfl rfl rfl (V.as rfl) (Rn.v rfl rfl rfl rfl (V.as rfl) (Rn.regEnd ?_))
    refine Rn.retG2 Try.func26 rfl (rvT rfl) (rvT rfl) ?_
    obtain rfl := someE hM
    exact ⟨A21, c21, rfl, hm21.pick [1] rfl (by decide)⟩

set_option maxRecDepth 20000 in
theorem m_disk_Disk_Size_sim {Z0 : Nat → Prop} (w : World) (F0 : Nat → Prop) (b0 : Nat) (x0 : PD) (x1 : (List UInt8)) {r : (Int × Int × Int)} (f0 : (fzR (diskO 61 68 5 F0 b0 x0)).H Z0 w) (hM : m_disk_Disk_Size x0 x1 = some r) :
    Calls Try.prog 50 #[.pointer (some ⟨b0, 0, none⟩), Str (x1)] w fun x w' => x = .returned (.tuple #[.int .i64 (r.1), .int .i64 (r.2.1), .int .i64 (r.2.2)]) ∧ Hp Z0 No w w' [] := by
  obtain rfl := someE hM
  refine (size_spec x1 w f0.1).mono ?_
  rintro x w' ⟨hx, h⟩
  have h2 := (Hp.nil Z0 No w).ext hx
  rcases h with ⟨hd, rfl⟩ | ⟨hd, hf, rfl⟩ | ⟨f, hd, hf, rfl⟩
  · rw [hd]; exact ⟨rfl, h2⟩
  · rw [hd, hf]; exact ⟨rfl, h2⟩
  · rw [hd, hf]; exact ⟨rfl, h2⟩

set_option maxRecDepth 20000 in
theorem m_snap_there_sim {Z0 : Nat → Prop} (w : World) (F0 : Nat → Prop) (b0 : Nat) (x0 : PD) (x1 : (List UInt8)) {r : Bool} (f0 : (fzR (diskO 61 68 5 F0 b0 x0)).H Z0 w) (hM : m_snap_there x0 x1 = some r) :
    Calls Try.prog 27 #[.pointer (some ⟨b0, 0, none⟩), Str (x1)] w fun x w' => x = .returned (.bool (r)) ∧ Hp Z0 No w w' [] := by
  have hm0 := Hp.nil Z0 No w
  have hc0 := Calm.nil
  have hm2 := hm0.know (fzR (diskO 61 68 5 F0 b0 x0)) (fun _ h => h) (hm0.in0 hc0 f0)
  replace hc0 := hc0.snoc (r := fzR (diskO 61 68 5 F0 b0 x0)) (fun _ h => h)
  refine Rn.enter Try.func27 rfl rfl (Nat.le_of_ble_eq_true rfl) ?_
  refine Rn.seq (Rn.reg (Rn.v rfl rfl rfl rfl (V.as rfl) (Rn.regEnd (Rn.seq (Rn.reg (Rn.v rfl rfl rfl rfl (V.mv rfl) (Rn.v rfl rfl rfl rfl (V.mv rfl) ?_)))))))
  obtain ⟨p3, e3, hM⟩ := bindE hM
  refine Rn.cl ck50 rfl rfl rfl rfl (m_disk_Disk_Size_sim (Z0 := All) _ F0 b0 x0 x1 (fz_fz (hm2.get 0 rfl)) e3) ?_
  rintro _ w3 ⟨rfl, hq3⟩
  refine ⟨_, rfl, ?_⟩
  have hm4 := hm2.call0 hq3
  refine Rn.v rfl rfl rfl rfl (V.mv rfl) (Rn.v rfl rfl rfl rfl (V.ext rfl rfl) (Rn.v rfl rfl rfl rfl (V.ext rfl rfl) (Rn.v rfl rfl rfl rfl (V.ext rfl rfl) (Rn.v rfl rfl rfl rfl (V.as rfl) (Rn.v rfl rfl rfl rfl (V.as rfl) (Rn.v rfl rfl rfl rfl (V.as rfl) (Rn.regEnd (Rn.seq (Rn.reg (Rn.v rfl rfl rfl rfl (V.mv rfl) (Rn.v rfl rfl rfl rfl (V.eql rfl rfl) (Rn.v rfl rfl rfl rfl (V.as rfl) (Rn.regEnd ?_)))))))))))))
  refine Rn.retG1 Try.func27 rfl (rvT rfl) ?_
  obtain rfl := someE hM
  exact ⟨rfl, hm4.pick [] rfl (by decide)⟩

set_option maxRecDepth 20000 in
theorem m_disk_Disk_Remove_sim {Z0 : Nat → Prop} (w : World) (F0 : Nat → Prop) (b0 : Nat) (x0 : PD) (x1 : (List UInt8)) {r : (Int × PD)} (hL : Lent Z0 w [diskO 61 68 5 F0 b0 x0]) (hM : m_disk_Disk_Remove x0 x1 = some r) :
    Calls Try.prog 28 #[.pointer (some ⟨b0, 0, none⟩), Str (x1)] w fun x w' => ∃ F_p0, x = .returned (.int .i64 (r.1)) ∧ Hp Z0 (LS [diskO 61 68 5 F0 b0 x0]) w w' [diskO 61 68 5 F_p0 b0 r.2] := by
  unfold m_disk_Disk_Remove at hM
  split at hM
  · rename_i hg
    obtain rfl := someE hM
    have hd : DkAt 61 68 5 w b0 F0 x0 := hL.1 0 _ rfl
    refine (remove_spec x1 w hg hd).mono ?_
    rintro x w' ⟨rfl, F', d, hx, hF⟩
    exact ⟨F', rfl, hL.turn1 hx hF fun _ => d⟩
  · cases hM

set_option maxRecDepth 20000 in
theorem m_disk_Disk_Create_sim {Z0 : Nat → Prop} (w : World) (F0 : Nat → Prop) (b0 : Nat) (x0 : PD) (x1 : (List UInt8)) {r : (Int × PD)} (hL : Lent Z0 w [diskO 61 68 5 F0 b0 x0]) (hM : m_disk_Disk_Create x0 x1 = some r) :
    Calls Try.prog 29 #[.pointer (some ⟨b0, 0, none⟩), Str (x1)] w fun x w' => ∃ F_p0, x = .returned (.int .i64 (r.1)) ∧ Hp Z0 (LS [diskO 61 68 5 F0 b0 x0]) w w' [diskO 61 68 5 F_p0 b0 r.2] := by
  unfold m_disk_Disk_Create at hM
  split at hM
  · rename_i hg
    obtain rfl := someE hM
    have hd : DkAt 61 68 5 w b0 F0 x0 := hL.1 0 _ rfl
    refine (create_spec x1 w hg hd).mono ?_
    rintro x w' ⟨rfl, F', d, hx, hF⟩
    exact ⟨F', rfl, hL.turn1 hx hF fun _ => d⟩
  · cases hM

set_option maxRecDepth 20000 in
theorem m_disk_Disk_Append_sim {Z0 : Nat → Prop} (w : World) (F0 : Nat → Prop) (b0 : Nat) (x0 : PD) (x1 : (List UInt8)) (A2 : Option Addr) (c2 : Nat) (x2 : (List UInt8)) {r : (Int × PD)} (hL : Lent Z0 w [diskO 61 68 5 F0 b0 x0, slR A2 c2 byteR x2]) (hM : m_disk_Disk_Append x0 x1 x2 = some r) :
    Calls Try.prog 30 #[.pointer (some ⟨b0, 0, none⟩), Str (x1), .slice A2 (x2).length c2] w fun x w' => ∃ F_p0, x = .returned (.int .i64 (r.1)) ∧ Hp Z0 (LS [diskO 61 68 5 F0 b0 x0, slR A2 c2 byteR x2]) w w' [diskO 61 68 5 F_p0 b0 r.2] := by
  unfold m_disk_Disk_Append at hM
  split at hM
  · rename_i hg
    obtain rfl := someE hM
    have hd : DkAt 61 68 5 w b0 F0 x0 := hL.1 0 _ rfl
    have hs := hL.1 1 _ rfl
    refine (append_spec x1 x2 A2 c2 _ w hg.1 hg.2.1 (by omega) rfl hs.2.2 (fun b hb hF => hb.2 0 _ rfl hF) hd).mono ?_
    rintro x w' ⟨rfl, F', d, hx, hF⟩
    exact ⟨F', rfl, hL.turn1 hx hF fun _ => d⟩
  · cases hM

set_option maxRecDepth 20000 in
theorem m_disk_Disk_Sync_sim {Z0 : Nat → Prop} (w : World) (F0 : Nat → Prop) (b0 : Nat) (x0 : PD) (x1 : (List UInt8)) {r : (Int × PD)} (hL : Lent Z0 w [diskO 61 68 5 F0 b0 x0]) (hM : m_disk_Disk_Sync x0 x1 = some r) :
    Calls Try.prog 11 #[.pointer (some ⟨b0, 0, none⟩), Str (x1)] w fun x w' => ∃ F_p0, x = .returned (.int .i64 (r.1)) ∧ Hp Z0 (LS [diskO 61 68 5 F0 b0 x0]) w w' [diskO 61 68 5 F_p0 b0 r.2] := by
  unfold m_disk_Disk_Sync at hM
  split at hM
  · rename_i hg
    obtain rfl := someE hM
    have hd : DkAt 61 68 5 w b0 F0 x0 := hL.1 0 _ rfl
    refine (sync_spec x1 w hg hd).mono ?_
    rintro x w' ⟨rfl, F', d, hx, hF⟩
    exact ⟨F', rfl, hL.turn1 hx hF fun _ => d⟩
  · cases hM

set_option maxRecDepth 20000 in
theorem m_disk_Disk_Rename_sim {Z0 : Nat → Prop} (w : World) (F0 : Nat → Prop) (b0 : Nat) (x0 : PD) (x1 : (List UInt8)) (x2 : (List UInt8)) {r : (Int × PD)} (hL : Lent Z0 w [diskO 61 68 5 F0 b0 x0]) (hM : m_disk_Disk_Rename x0 x1 x2 = some r) :
    Calls Try.prog 31 #[.pointer (some ⟨b0, 0, none⟩), Str (x1), Str (x2)] w fun x w' => ∃ F_p0, x = .returned (.int .i64 (r.1)) ∧ Hp Z0 (LS [diskO 61 68 5 F0 b0 x0]) w w' [diskO 61 68 5 F_p0 b0 r.2] := by
  unfold m_disk_Disk_Rename at hM
  split at hM
  · rename_i hg
    obtain rfl := someE hM
    have hd : DkAt 61 68 5 w b0 F0 x0 := hL.1 0 _ rfl
    refine (rename_spec x1 x2 w hg hd).mono ?_
    rintro x w' ⟨rfl, F', d, hx, hF⟩
    exact ⟨F', rfl, hL.turn1 hx hF fun _ => d⟩
  · cases hM

set_option maxRecDepth 20000 in
theorem m_snap_Save_sim {Z0 : Nat → Prop} (w : World) (F0 : Nat → Prop) (b0 : Nat) (x0 : PD) (x1 : (List UInt8)) (A2 : Option Addr) (c2 : Nat) (x2 : (List UInt8)) {r : (Int × PD)} (hL : Lent Z0 w [diskO 61 68 5 F0 b0 x0, slR A2 c2 byteR x2]) (hM : m_snap_Save x0 x1 x2 = some r) :
    Calls Try.prog 7 #[.pointer (some ⟨b0, 0, none⟩), Str (x1), .slice A2 (x2).length c2] w fun x w' => ∃ F_p0, x = .returned (.int .i64 (r.1)) ∧ Hp Z0 (LS [diskO 61 68 5 F0 b0 x0, slR A2 c2 byteR x2]) w w' [diskO 61 68 5 F_p0 b0 r.2] := by
  have hm0 := hL.start
  refine Rn.enter Try.func7 rfl rfl (Nat.le_of_ble_eq_true rfl) ?_
  refine Rn.seq (Rn.reg (Rn.v rfl rfl rfl rfl (V.as rfl) (Rn.regEnd (Rn.scope ?_))))
  obtain ⟨j1, hj1, hM⟩ := jnE hM
  refine Rn.joinL (r := r) (G := Int × (List UInt8) × PD × (Nat → Prop)) 0 rfl (fun g => [(0, .pointer (some ⟨b0, 0, none⟩)), (7, .int .i64 ((g.1))), (8, Str ((g.2.1)))]) (fun g w' => Hp Z0 (LS [diskO 61 68 5 F0 b0 x0, slR A2 c2 byteR x2]) w w' [slR A2 c2 byteR x2, diskO 61 68 5 (g.2.2.2) b0 (g.2.2.1)]) (fun g => j1 g.1 g.2.1 g.2.2.1) ?_ ?_
  · subst hj1
    clear hM
    rintro ⟨y3, y4, y5, F5⟩ w6 hm6 hM
    replace hm6 : Hp Z0 (LS [diskO 61 68 5 F0 b0 x0, slR A2 c2 byteR x2]) w w6 [slR A2 c2 byteR x2, diskO 61 68 5 F5 b0 y5] := hm6
    show Rn _ _ _ _ _ [(0, .pointer (some ⟨b0, 0, none⟩)), (7, .int .i64 (y3)), (8, Str (y4))] _
    try dsimp only at hM
    refine Rn.seq (Rn.seq (Rn.reg (Rn.v rfl rfl rfl rfl (V.mv rfl) (Rn.v rfl rfl rfl rfl (V.neq rfl rfl) (Rn.v rfl rfl rfl rfl (V.mv rfl) ?_)))))
    obtain ⟨j2, hj2, hM⟩ := jnE hM
    refine Rn.joinR (r := r) (G := Bool × (Nat → Prop)) [] (fun g => [(0, .pointer (some ⟨b0, 0, none⟩)), (7, .int .i64 (y3)), (8, Str (y4)), (59, .bool ((g.1)))]) (fun g w' => Hp Z0 (LS [diskO 61 68 5 F0 b0 x0, slR A2 c2 byteR x2]) w w' [slR A2 c2 byteR x2, diskO 61 68 5 (g.2) b0 y5]) (fun g => j2 g.1) ?_ ?_
    · subst hj2
      clear hM
      rintro ⟨y8, F7⟩ w9 hm9 hM
      replace hm9 : Hp Z0 (LS [diskO 61 68 5 F0 b0 x0, slR A2 c2 byteR x2]) w w9 [slR A2 c2 byteR x2, diskO 61 68 5 F7 b0 y5] := hm9
      show Rn _ _ _ _ _ [(0, .pointer (some ⟨b0, 0, none⟩)), (7, .int .i64 (y3)), (8, Str (y4)), (59, .bool (y8))] _
      try dsimp only at hM
      refine Rn.regEnd ?_
      obtain ⟨j3, hj3, hM⟩ := jnE hM
      refine Rn.joinG (r := r) (G := PD × (Nat → Prop)) (fun g => [(7, .int .i64 (y3))]) (fun g w' => Hp Z0 (LS [diskO 61 68 5 F0 b0 x0, slR A2 c2 byteR x2]) w w' [slR A2 c2 byteR x2, diskO 61 68 5 (g.2) b0 (g.1)]) (fun g => j3 g.1) ?_ ?_
      · subst hj3
        clear hM
        rintro ⟨y10, F10⟩ w11 hm11 hM
        replace hm11 : Hp Z0 (LS [diskO 61 68 5 F0 b0 x0, slR A2 c2 byteR x2]) w w11 [slR A2 c2 byteR x2, diskO 61 68 5 F10 b0 y10] := hm11
        show Rn _ _ _ _ _ [(7, .int .i64 (y3))] _
        try dsimp only at hM
        refine Rn.seq (Rn.reg (Rn.v rfl rfl rfl rfl (V.mv rfl) (Rn.v rfl rfl rfl rfl (V.as rfl) (Rn.regEnd ?_))))
        refine Rn.retG1 Try.func7 rfl (rvT rfl) ?_
        obtain rfl := someE hM
        exact ⟨F10, rfl, hm11.pick [1] rfl (by decide)⟩
      intro hk3
      clear hj3
      refine Rn.condS rfl (fun h12 => ?_) (fun h12 => ?_)
      · replace hM := iteT h12 hM
        refine Rn.reg (Rn.v rfl rfl rfl rfl (V.mv rfl) (Rn.v rfl rfl rfl rfl (V.mv rfl) ?_))
        obtain ⟨p13, e13, hM⟩ := bindE hM
        have hm14 : Hp Z0 (LS [diskO 61 68 5 F0 b0 x0, slR A2 c2 byteR x2]) w w9 ([slR A2 c2 byteR x2] ++ [diskO 61 68 5 F7 b0 y5]) := hm9.pick [0, 1] rfl (by decide)
        refine Rn.cl ck28 rfl rfl rfl rfl (m_disk_Disk_Remove_sim (Z0 := _) _ F7 b0 y5 y4 hm14.lend e13) ?_
        rintro _ w13 ⟨F13_p0, rfl, hq13⟩
        refine ⟨_, rfl, ?_⟩
        have hm16 : Hp Z0 (LS [diskO 61 68 5 F0 b0 x0, slR A2 c2 byteR x2]) w w13 [slR A2 c2 byteR x2, diskO 61 68 5 F13_p0 b0 p13.2] := hm14.callAZ hq13
        refine Rn.regEnd ?_
        exact hk3 (p13.2, F13_p0) _ _ (Sub.cons rfl (Sub.nil _)) (hm16.pick [0, 1] rfl (by decide)) hM
      · replace hM := iteF (by rw [h12]; exact Bool.false_ne_true) hM
        refine Rn.skip ?_
        exact hk3 (y5, F7) _ _ (Sub.cons rfl (Sub.nil _)) (hm9.pick [0, 1] rfl (by decide)) hM
    intro hk2
    clear hj2
    refine Rn.partD (t := 55) rfl (fun h17 => ?_) (fun h17 => ?_)
    · replace hM := iteT h17 hM
      refine Rn.v rfl rfl rfl rfl (V.mv rfl) (Rn.v rfl rfl rfl rfl (V.mv rfl) ?_)
      obtain ⟨p18, e18, hM⟩ := bindE hM
      refine Rn.cl ck27 rfl rfl rfl rfl (m_snap_there_sim (Z0 := All) _ F5 b0 y5 y4 (fz_all (hm6.get 1 rfl)) e18) ?_
      rintro _ w18 ⟨rfl, hq18⟩
      refine ⟨_, rfl, ?_⟩
      have hm19 := hm6.call0 hq18
      refine Rn.v rfl rfl rfl rfl (V.pkT rfl rfl) ?_
      exact hk2 (p18, F5) _ _ (Sub.cons rfl (Sub.cons rfl (Sub.cons rfl (Sub.cons rfl (Sub.nil _))))) (hm19.pick [0, 1] rfl (by decide)) hM
    · replace hM := iteF h17 hM
      refine Rn.no rfl rfl rfl rfl (Rn.no rfl rfl rfl rfl (Rn.no rfl rfl rfl rfl (Rn.v rfl rfl rfl rfl (V.pkF rfl rfl) ?_)))
      exact hk2 (false, F5) _ _ (Sub.cons rfl (Sub.cons rfl (Sub.cons rfl (Sub.cons rfl (Sub.nil _))))) (hm6.pick [0, 1] rfl (by decide)) hM
  intro hk1
  clear hj1
  refine Rn.seq (Rn.reg (Rn.v rfl rfl rfl rfl (V.as rfl) (Rn.regEnd (Rn.seq (Rn.reg (Rn.v rfl rfl rfl rfl (V.mv rfl) ?_))))))
  obtain ⟨z20, e20, hM⟩ := bindE hM
  refine Rn.v rfl rfl rfl rfl (V.catZ rfl rfl e20) (Rn.v rfl rfl rfl rfl (V.as rfl) (Rn.regEnd (Rn.seq (Rn.seq (Rn.reg (Rn.v rfl rfl rfl rfl (V.mv rfl) (Rn.v rfl rfl rfl rfl (V.lenS Try.underlying9 rfl) (Rn.v rfl rfl rfl rfl (V.gtr rfl rfl) (Rn.regEnd ?_)))))))))
  refine Rn.condD rfl (fun h21 => ?_) (fun h21 => ?_)
  · replace hM := iteT h21 hM
    refine Rn.seq (Rn.reg (Rn.v rfl rfl rfl rfl (V.as rfl) (Rn.regEnd ?_)))
    refine Rn.retG1 Try.func7 rfl (rvT rfl) ?_
    obtain rfl := someE hM
    exact ⟨F0, rfl, hm0.pick [0] rfl (by decide)⟩
  · replace hM := iteF h21 hM
    refine Rn.skip (Rn.seq (Rn.reg (Rn.v rfl rfl rfl rfl (V.mv rfl) ?_)))
    obtain ⟨p22, e22, hM⟩ := bindE hM
    refine Rn.cl ck26 rfl rfl rfl rfl (m_frame_Wrap_sim (Z0 := All) _ A2 c2 x2 (slR_all (hm0.get 1 rfl)) e22) ?_
    rintro _ w22 ⟨A22_0_0, c22_0_0, rfl, hq22⟩
    refine ⟨_, rfl, ?_⟩
    have hm24 : Hp Z0 (LS [diskO 61 68 5 F0 b0 x0, slR A2 c2 byteR x2]) w w22 [diskO 61 68 5 F0 b0 x0, slR A2 c2 byteR x2, ownR 5 A22_0_0 c22_0_0 byteR p22.1] := hm0.callF (flC (ownR_flat byte_flat _ _ _ _) fl0) hq22
    refine Rn.v rfl rfl rfl rfl (V.mv rfl) (Rn.v rfl rfl rfl rfl (V.ext rfl rfl) (Rn.v rfl rfl rfl rfl (V.ext rfl rfl) (Rn.v rfl rfl rfl rfl (V.as rfl) (Rn.v rfl rfl rfl rfl (V.as rfl) (Rn.regEnd (Rn.seq (Rn.seq (Rn.reg (Rn.v rfl rfl rfl rfl (V.mv rfl) (Rn.v rfl rfl rfl rfl (V.neq rfl rfl) (Rn.regEnd ?_)))))))))))
    refine Rn.condD rfl (fun h25 => ?_) (fun h25 => ?_)
    · replace hM := iteT h25 hM
      refine Rn.seq (Rn.reg (Rn.v rfl rfl rfl rfl (V.mv rfl) (Rn.v rfl rfl rfl rfl (V.as rfl) (Rn.regEnd ?_))))
      refine Rn.retG1 Try.func7 rfl (rvT rfl) ?_
      obtain rfl := someE hM
      exact ⟨F0, rfl, hm24.pick [0] rfl (by decide)⟩
    · replace hM := iteF h25 hM
      refine Rn.skip (Rn.seq (Rn.seq (Rn.reg (Rn.v rfl rfl rfl rfl (V.mv rfl) (Rn.v rfl rfl rfl rfl (V.mv rfl) ?_)))))
      obtain ⟨p26, e26, hM⟩ := bindE hM
      refine Rn.cl ck27 rfl rfl rfl rfl (m_snap_there_sim (Z0 := All) _ F0 b0 x0 z20 (fz_all (hm24.get 0 rfl)) e26) ?_
      rintro _ w26 ⟨rfl, hq26⟩
      refine ⟨_, rfl, ?_⟩
      have hm27 := hm24.call0 hq26
      refine Rn.regEnd ?_
      obtain ⟨j4, hj4, hM⟩ := jnE hM
      refine Rn.joinG (r := r) (G := Int × PD × (Nat → Prop)) (fun g => [(0, .pointer (some ⟨b0, 0, none⟩)), (1, Str (x1)), (7, .int .i64 ((g.1))), (8, Str (z20)), (9, .slice A22_0_0 (p22.1).length c22_0_0)]) (fun g w' => Hp Z0 (LS [diskO 61 68 5 F0 b0 x0, slR A2 c2 byteR x2]) w w' [slR A2 c2 byteR x2, ownR 5 A22_0_0 c22_0_0 byteR p22.1, diskO 61 68 5 (g.2.2) b0 (g.2.1)]) (fun g => j4 g.1 g.2.1) ?_ ?_
      · subst hj4
        clear hM
        rintro ⟨y28, y29, F29⟩ w30 hm30 hM
        replace hm30 : Hp Z0 (LS [diskO 61 68 5 F0 b0 x0, slR A2 c2 byteR x2]) w w30 [slR A2 c2 byteR x2, ownR 5 A22_0_0 c22_0_0 byteR p22.1, diskO 61 68 5 F29 b0 y29] := hm30
        show Rn _ _ _ _ _ [(0, .pointer (some ⟨b0, 0, none⟩)), (1, Str (x1)), (7, .int .i64 (y28)), (8, Str (z20)), (9, .slice A22_0_0 (p22.1).length c22_0_0)] _
        try dsimp only at hM
        refine Rn.seq (Rn.seq (Rn.reg (Rn.v rfl rfl rfl rfl (V.mv rfl) (Rn.v rfl rfl rfl rfl (V.eql rfl rfl) (Rn.regEnd ?_)))))
        obtain ⟨j5, hj5, hM⟩ := jnE hM
        refine Rn.joinG (r := r) (G := Int × PD × (Nat → Prop)) (fun g => [(0, .pointer (some ⟨b0, 0, none⟩)), (1, Str (x1)), (7, .int .i64 ((g.1))), (8, Str (z20)), (9, .slice A22_0_0 (p22.1).length c22_0_0)]) (fun g w' => Hp Z0 (LS [diskO 61 68 5 F0 b0 x0, slR A2 c2 byteR x2]) w w' [slR A2 c2 byteR x2, ownR 5 A22_0_0 c22_0_0 byteR p22.1, diskO 61 68 5 (g.2.2) b0 (g.2.1)]) (fun g => j5 g.1 g.2.1) ?_ ?_
        · subst hj5
          clear hM
          rintro ⟨y31, y32, F32⟩ w33 hm33 hM
          replace hm33 : Hp Z0 (LS [diskO 61 68 5 F0 b0 x0, slR A2 c2 byteR x2]) w w33 [slR A2 c2 byteR x2, ownR 5 A22_0_0 c22_0_0 byteR p22.1, diskO 61 68 5 F32 b0 y32] := hm33
          show Rn _ _ _ _ _ [(0, .pointer (some ⟨b0, 0, none⟩)), (1, Str (x1)), (7, .int .i64 (y31)), (8, Str (z20)), (9, .slice A22_0_0 (p22.1).length c22_0_0)] _
          try dsimp only at hM
          refine Rn.seq (Rn.seq (Rn.reg (Rn.v rfl rfl rfl rfl (V.mv rfl) (Rn.v rfl rfl rfl rfl (V.neq rfl rfl) (Rn.regEnd ?_)))))
          refine Rn.condD rfl (fun h34 => ?_) (fun h34 => ?_)
          · replace hM := iteT h34 hM
            refine Rn.goto rfl (Rn.seq (Rn.skip ?_))
            exact hk1 (y31, z20, y32, F32) _ _ (Sub.cons rfl (Sub.cons rfl (Sub.cons rfl (Sub.nil _)))) (hm33.pick [0, 2] rfl (by decide)) hM
          · replace hM := iteF h34 hM
            refine Rn.skip (Rn.seq (Rn.seq (Rn.reg (Rn.v rfl rfl rfl rfl (V.mv rfl) (Rn.v rfl rfl rfl rfl (V.mv rfl) (Rn.v rfl rfl rfl rfl (V.mv rfl) ?_))))))
            have hm37 := hm33.freeze 1 rfl
            obtain ⟨p35, e35, hM⟩ := bindE hM
            have hm38 := hm37.dup 1 rfl (fun _ h => h)
            have hm40 : Hp Z0 (LS [diskO 61 68 5 F0 b0 x0, slR A2 c2 byteR x2]) w w33 ([slR A2 c2 byteR x2, slR A22_0_0 c22_0_0 byteR p22.1] ++ [diskO 61 68 5 F32 b0 y32, slR A22_0_0 c22_0_0 byteR p22.1]) := hm38.pick [0, 1, 2, 3] rfl (by decide)
            refine Rn.cl ck30 rfl rfl rfl rfl (m_disk_Disk_Append_sim (Z0 := _) _ F32 b0 y32 z20 A22_0_0 c22_0_0 p22.1 hm40.lend e35) ?_
            rintro _ w35 ⟨F35_p0, rfl, hq35⟩
            refine ⟨_, rfl, ?_⟩
            have hm42 : Hp Z0 (LS [diskO 61 68 5 F0 b0 x0, slR A2 c2 byteR x2]) w w35 [slR A2 c2 byteR x2, slR A22_0_0 c22_0_0 byteR p22.1, diskO 61 68 5 F35_p0 b0 p35.2] := hm40.callAZ hq35
            refine Rn.v rfl rfl rfl rfl (V.as rfl) (Rn.regEnd (Rn.seq (Rn.reg (Rn.v rfl rfl rfl rfl (V.mv rfl) (Rn.v rfl rfl rfl rfl (V.neq rfl rfl) (Rn.regEnd ?_))))))
            refine Rn.condD rfl (fun h43 => ?_) (fun h43 => ?_)
            · replace hM := iteT h43 hM
              refine Rn.goto rfl (Rn.seq (Rn.skip ?_))
              exact hk1 (p35.1, z20, p35.2, F35_p0) _ _ (Sub.cons rfl (Sub.cons rfl (Sub.cons rfl (Sub.nil _)))) (hm42.pick [0, 2] rfl (by decide)) hM
            · replace hM := iteF h43 hM
              refine Rn.skip (Rn.seq (Rn.seq (Rn.reg (Rn.v rfl rfl rfl rfl (V.mv rfl) (Rn.v rfl rfl rfl rfl (V.mv rfl) ?_)))))
              obtain ⟨p44, e44, hM⟩ := bindE hM
              have hm45 : Hp Z0 (LS [diskO 61 68 5 F0 b0 x0, slR A2 c2 byteR x2]) w w35 ([slR A2 c2 byteR x2, slR A22_0_0 c22_0_0 byteR p22.1] ++ [diskO 61 68 5 F35_p0 b0 p35.2]) := hm42.pick [0, 1, 2] rfl (by decide)
              refine Rn.cl ck11 rfl rfl rfl rfl (m_disk_Disk_Sync_sim (Z0 := _) _ F35_p0 b0 p35.2 z20 hm45.lend e44) ?_
              rintro _ w44 ⟨F44_p0, rfl, hq44⟩
              refine ⟨_, rfl, ?_⟩
              have hm47 : Hp Z0 (LS [diskO 61 68 5 F0 b0 x0, slR A2 c2 byteR x2]) w w44 [slR A2 c2 byteR x2, slR A22_0_0 c22_0_0 byteR p22.1, diskO 61 68 5 F44_p0 b0 p44.2] := hm45.callAZ hq44
              refine Rn.v rfl rfl rfl rfl (V.as rfl) (Rn.regEnd (Rn.seq (Rn.reg (Rn.v rfl rfl rfl rfl (V.mv rfl) (Rn.v rfl rfl rfl rfl (V.neq rfl rfl) (Rn.regEnd ?_))))))
              refine Rn.condD rfl (fun h48 => ?_) (fun h48 => ?_)
              · replace hM := iteT h48 hM
                refine Rn.goto rfl (Rn.seq (Rn.skip ?_))
                exact hk1 (p44.1, z20, p44.2, F44_p0) _ _ (Sub.cons rfl (Sub.cons rfl (Sub.cons rfl (Sub.nil _)))) (hm47.pick [0, 2] rfl (by decide)) hM
              · replace hM := iteF h48 hM
                refine Rn.skip (Rn.seq (Rn.seq (Rn.reg (Rn.v rfl rfl rfl rfl (V.mv rfl) (Rn.v rfl rfl rfl rfl (V.mv rfl) (Rn.v rfl rfl rfl rfl (V.mv rfl) ?_))))))
                obtain ⟨p49, e49, hM⟩ := bindE hM
                have hm50 : Hp Z0 (LS [diskO 61 68 5 F0 b0 x0, slR A2 c2 byteR x2]) w w44 ([slR A2 c2 byteR x2, slR A22_0_0 c22_0_0 byteR p22.1] ++ [diskO 61 68 5 F44_p0 b0 p44.2]) := hm47.pick [0, 1, 2] rfl (by decide)
                refine Rn.cl ck31 rfl rfl rfl rfl (m_disk_Disk_Rename_sim (Z0 := _) _ F44_p0 b0 p44.2 z20 x1 hm50.lend e49) ?_
                rintro _ w49 ⟨F49_p0, rfl, hq49⟩
                refine ⟨_, rfl, ?_⟩
                have hm52 : Hp Z0 (LS [diskO 61 68 5 F0 b0 x0, slR A2 c2 byteR x2]) w w49 [slR A2 c2 byteR x2, slR A22_0_0 c22_0_0 byteR p22.1, diskO 61 68 5 F49_p0 b0 p49.2] := hm50.callAZ hq49
                refine Rn.v rfl rfl rfl rfl (V.as rfl) (Rn.regEnd (Rn.seq (Rn.reg (Rn.v rfl rfl rfl rfl (V.mv rfl) (Rn.v rfl rfl rfl rfl (V.eql rfl rfl) (Rn.regEnd ?_))))))
                refine Rn.condD rfl (fun h53 => ?_) (fun h53 => ?_)
                · replace hM := iteT h53 hM
                  refine Rn.seq (Rn.reg (Rn.v rfl rfl rfl rfl (V.as rfl) (Rn.regEnd ?_)))
                  refine Rn.retG1 Try.func7 rfl (rvT rfl) ?_
                  obtain rfl := someE hM
                  exact ⟨F49_p0, rfl, hm52.pick [2] rfl (by decide)⟩
                · replace hM := iteF h53 hM
                  refine Rn.skip (Rn.seq (Rn.label ?_))
                  exact hk1 (p49.1, z20, p49.2, F49_p0) _ _ (Sub.cons rfl (Sub.cons rfl (Sub.cons rfl (Sub.nil _)))) (hm52.pick [0, 2] rfl (by decide)) hM
        intro hk5
        clear hj5
        refine Rn.condD rfl (fun h54 => ?_) (fun h54 => ?_)
        · replace hM := iteT h54 hM
          refine Rn.reg (Rn.v rfl rfl rfl rfl (V.mv rfl) (Rn.v rfl rfl rfl rfl (V.mv rfl) ?_))
          obtain ⟨p55, e55, hM⟩ := bindE hM
          have hm56 : Hp Z0 (LS [diskO 61 68 5 F0 b0 x0, slR A2 c2 byteR x2]) w w30 ([slR A2 c2 byteR x2, ownR 5 A22_0_0 c22_0_0 byteR p22.1] ++ [diskO 61 68 5 F29 b0 y29]) := hm30.pick [0, 1, 2] rfl (by decide)
          refine Rn.cl ck29 rfl rfl rfl rfl (m_disk_Disk_Create_sim (Z0 := _) _ F29 b0 y29 z20 hm56.lend e55) ?_
          rintro _ w55 ⟨F55_p0, rfl, hq55⟩
          refine ⟨_, rfl, ?_⟩
          have hm58 : Hp Z0 (LS [diskO 61 68 5 F0 b0 x0, slR A2 c2 byteR x2]) w w55 [slR A2 c2 byteR x2, ownR 5 A22_0_0 c22_0_0 byteR p22.1, diskO 61 68 5 F55_p0 b0 p55.2] := hm56.callAZ hq55
          refine Rn.v rfl rfl rfl rfl (V.as rfl) (Rn.regEnd ?_)
          exact hk5 (p55.1, p55.2, F55_p0) _ _ (Sub.cons rfl (Sub.cons rfl (Sub.cons rfl (Sub.cons rfl (Sub.cons rfl (Sub.nil _)))))) (hm58.pick [0, 1, 2] rfl (by decide)) hM
        · replace hM := iteF h54 hM
          refine Rn.skip ?_
          exact hk5 (y28, y29, F29) _ _ (Sub.cons rfl (Sub.cons rfl (Sub.cons rfl (Sub.cons rfl (Sub.cons rfl (Sub.nil _)))))) (hm30.pick [0, 1, 2] rfl (by decide)) hM
      intro hk4
      clear hj4
      refine Rn.condS rfl (fun h59 => ?_) (fun h59 => ?_)
      · replace hM := iteT h59 hM
        refine Rn.reg (Rn.v rfl rfl rfl rfl (V.mv rfl) (Rn.v rfl rfl rfl rfl (V.mv rfl) ?_))
        obtain ⟨p60, e60, hM⟩ := bindE hM
        have hm61 : Hp Z0 (LS [diskO 61 68 5 F0 b0 x0, slR A2 c2 byteR x2]) w w26 ([slR A2 c2 byteR x2, ownR 5 A22_0_0 c22_0_0 byteR p22.1] ++ [diskO 61 68 5 F0 b0 x0]) := hm27.pick [1, 2, 0] rfl (by decide)
        refine Rn.cl ck28 rfl rfl rfl rfl (m_disk_Disk_Remove_sim (Z0 := _) _ F0 b0 x0 z20 hm61.lend e60) ?_
        rintro _ w60 ⟨F60_p0, rfl, hq60⟩
        refine ⟨_, rfl, ?_⟩
        have hm63 : Hp Z0 (LS [diskO 61 68 5 F0 b0 x0, slR A2 c2 byteR x2]) w w60 [slR A2 c2 byteR x2, ownR 5 A22_0_0 c22_0_0 byteR p22.1, diskO 61 68 5 F60_p0 b0 p60.2] := hm61.callAZ hq60
        refine Rn.v rfl rfl rfl rfl (V.as rfl) (Rn.regEnd ?_)
        exact hk4 (p60.1, p60.2, F60_p0) _ _ (Sub.cons rfl (Sub.cons rfl (Sub.cons rfl (Sub.cons rfl (Sub.cons rfl (Sub.nil _)))))) (hm63.pick [0, 1, 2] rfl (by decide)) hM
      · replace hM := iteF (by rw [h59]; exact Bool.false_ne_true) hM
        refine Rn.skip ?_
        exact hk4 (p22.2, x0, F0) _ _ (Sub.cons rfl (Sub.cons rfl (Sub.cons rfl (Sub.cons rfl (Sub.cons rfl (Sub.nil _)))))) (hm27.pick [1, 2, 0] rfl (by decide)) hM

set_option maxRecDepth 20000 in
theorem m_disk_Disk_Down_sim {Z0 : Nat → Prop} (w : World) (F0 : Nat → Prop) (b0 : Nat) (x0 : PD) {r : Bool} (f0 : (fzR (diskO 61 68 5 F0 b0 x0)).H Z0 w) (hM : m_disk_Disk_Down x0 = some r) :
    Calls Try.prog 10 #[.pointer (some ⟨b0, 0, none⟩)] w fun x w' => x = .returned (.bool (r)) ∧ Hp Z0 No w w' [] := by
  obtain rfl := someE hM
  refine (down_spec w f0.1).mono ?_
  rintro x w' ⟨rfl, rfl⟩
  exact ⟨rfl, Hp.nil Z0 No w⟩

set_option maxRecDepth 20000 in
theorem m_disk_Disk_Read_sim {Z0 : Nat → Prop} (w : World) (F0 : Nat → Prop) (b0 : Nat) (x0 : PD) (x1 : (List UInt8)) {r : ((List UInt8) × Int)} (f0 : (fzR (diskO 61 68 5 F0 b0 x0)).H Z0 w) (hM : m_disk_Disk_Read x0 x1 = some r) :
    Calls Try.prog 34 #[.pointer (some ⟨b0, 0, none⟩), Str (x1)] w fun x w' => ∃ A_0_0 c_0_0, x = .returned (.tuple #[.slice A_0_0 (r.1).length c_0_0, .int .i64 (r.2)]) ∧ Hp Z0 No w w' [ownR 5 A_0_0 c_0_0 byteR r.1] := by
  unfold m_disk_Disk_Read at hM
  split at hM
  · rename_i hg
    obtain rfl := someE hM
    refine (read_spec x1 w hg f0.1).mono ?_
    rintro x w' ⟨hx, h⟩
    have h2 := (Hp.nil Z0 No w).ext hx
    rcases h with ⟨hd, rfl⟩ | ⟨hd, hf, rfl⟩ | ⟨f, A, c, hd, hf, rfl, ho⟩
    · rw [hd]; exact ⟨none, 0, rfl, h2.addNil 5 byteR⟩
    · rw [hd, hf]; exact ⟨none, 0, rfl, h2.addNil 5 byteR⟩
    · rw [hd, hf]; exact ⟨A, c, rfl, (Hp.nil Z0 No w).addOwn hx ho byte_flat⟩
  · cases hM

set_option maxRecDepth 20000 in
theorem m_frame_number_sim {Z0 : Nat → Prop} (w : World) (A0 : Option Addr) (c0 : Nat) (x0 : (List UInt8)) {r : UInt32} (f0 : (slR A0 c0 byteR x0).H Z0 w) (hM : m_frame_number x0 = some r) :
    Calls Try.prog 53 #[.slice A0 (x0).length c0] w fun x w' => x = .returned (.int .u32 (((r).toNat : Nat) : Int)) ∧ Hp Z0 No w w' [] := by
  have hm0 := Hp.nil Z0 No w
  have hc0 := Calm.nil
  have hm2 := hm0.know (slR A0 c0 byteR x0) (fun _ h => h) (hm0.in0 hc0 f0)
  replace hc0 := hc0.snoc (r := slR A0 c0 byteR x0) (fun _ h => h)
  refine Rn.enter Try.func53 rfl rfl (Nat.le_of_ble_eq_true rfl) ?_
  refine Rn.seq (Rn.reg (Rn.v rfl rfl rfl rfl (V.as rfl) (Rn.regEnd (Rn.seq ?_))))
  refine Rn.drawP rfl hm2 ?_
  intro w3 hm3
  refine RH.takeP 0 (by kernel_rfl) rfl rfl rfl rfl (V.mv rfl) ?_
  obtain ⟨z4, e4, hM⟩ := bindE hM
  obtain ⟨kk4, ke4, kz4, kl4⟩ := idxE e4
  obtain ⟨b4, o4, vs4, hA4, hD4, hR4, hrel4⟩ := Hp.at hm3 0 rfl kz4
  obtain ⟨rfl, _⟩ := hrel4
  have hm6 : Hp Z0 No w w3 [slR A0 c0 byteR x0, rdR b4 (o4 + kk4 * 1) [.int .u8 (((z4).toNat : Nat) : Int)]] := Hp.knowL [rdR b4 (o4 + kk4 * 1) [.int .u8 (((z4).toNat : Nat) : Int)]] _ hm3 (knC (fun _ h => h) ⟨fun _ => hD4, hR4⟩ kn0)
  refine RH.takeP 1 (by kernel_rfl) rfl rfl rfl rfl (V.ixA' hA4 kk4 Try.underlying22 Try.sizeOf5 rfl rfl ke4 kl4) ?_
  refine RH.takeP 2 (by kernel_rfl) rfl rfl rfl rfl (V.ldR0 Try.isAgg5 rfl (hm6.get 1 rfl).2 rfl) ?_
  refine RH.takeP 3 (by kernel_rfl) rfl rfl rfl rfl (V.cv32 Try.underlying5 Try.underlying92 rfl) ?_
  refine RH.takeP 4 (by kernel_rfl) rfl rfl rfl rfl (V.mv rfl) ?_
  obtain ⟨z7, e7, hM⟩ := bindE hM
  obtain ⟨kk7, ke7, kz7, kl7⟩ := idxE e7
  obtain ⟨b7, o7, vs7, hA7, hD7, hR7, hrel7⟩ := Hp.at hm6 0 rfl kz7
  obtain ⟨rfl, _⟩ := hrel7
  have hm9 : Hp Z0 No w w3 [slR A0 c0 byteR x0, rdR b4 (o4 + kk4 * 1) [.int .u8 (((z4).toNat : Nat) : Int)], rdR b7 (o7 + kk7 * 1) [.int .u8 (((z7).toNat : Nat) : Int)]] := Hp.knowL [rdR b7 (o7 + kk7 * 1) [.int .u8 (((z7).toNat : Nat) : Int)]] _ hm6 (knC (fun _ h => h) ⟨fun _ => hD7, hR7⟩ kn0)
  refine RH.takeP 5 (by kernel_rfl) rfl rfl rfl rfl (V.ixA' hA7 kk7 Try.underlying22 Try.sizeOf5 rfl rfl ke7 kl7) ?_
  refine RH.takeP 6 (by kernel_rfl) rfl rfl rfl rfl (V.ldR0 Try.isAgg5 rfl (hm9.get 2 rfl).2 rfl) ?_
  refine RH.takeP 7 (by kernel_rfl) rfl rfl rfl rfl (V.cv32 Try.underlying5 Try.underlying92 rfl) ?_
  refine RH.takeP 8 (by kernel_rfl) rfl rfl rfl rfl (V.sh32 rfl rfl _ 8 rfl rfl (b32_shl _ _ _ 8 (by decide))) ?_
  refine RH.takeP 9 (by kernel_rfl) rfl rfl rfl rfl (V.o32 rfl rfl (toU32 ((z4).toNat : Int)) ((toU32 ((z7).toNat : Int)) <<< UInt32.ofNat 8) rfl rfl (b32_or _ _ _)) ?_
  refine RH.takeP 10 (by kernel_rfl) rfl rfl rfl rfl (V.mv rfl) ?_
  obtain ⟨z10, e10, hM⟩ := bindE hM
  obtain ⟨kk10, ke10, kz10, kl10⟩ := idxE e10
  obtain ⟨b10, o10, vs10, hA10, hD10, hR10, hrel10⟩ := Hp.at hm9 0 rfl kz10
  obtain ⟨rfl, _⟩ := hrel10
  have hm12 : Hp Z0 No w w3 [slR A0 c0 byteR x0, rdR b4 (o4 + kk4 * 1) [.int .u8 (((z4).toNat : Nat) : Int)], rdR b7 (o7 + kk7 * 1) [.int .u8 (((z7).toNat : Nat) : Int)], rdR b10 (o10 + kk10 * 1) [.int .u8 (((z10).toNat : Nat) : Int)]] := Hp.knowL [rdR b10 (o10 + kk10 * 1) [.int .u8 (((z10).toNat : Nat) : Int)]] _ hm9 (knC (fun _ h => h) ⟨fun _ => hD10, hR10⟩ kn0)
  refine RH.takeP 11 (by kernel_rfl) rfl rfl rfl rfl (V.ixA' hA10 kk10 Try.underlying22 Try.sizeOf5 rfl rfl ke10 kl10) ?_
  refine RH.takeP 12 (by kernel_rfl) rfl rfl rfl rfl (V.ldR0 Try.isAgg5 rfl (hm12.get 3 rfl).2 rfl) ?_
  refine RH.takeP 13 (by kernel_rfl) rfl rfl rfl rfl (V.cv32 Try.underlying5 Try.underlying92 rfl) ?_
  refine RH.takeP 14 (by kernel_rfl) rfl rfl rfl rfl (V.sh32 rfl rfl _ 16 rfl rfl (b32_shl _ _ _ 16 (by decide))) ?_
  refine RH.takeP 15 (by kernel_rfl) rfl rfl rfl rfl (V.o32 rfl rfl ((toU32 ((z4).toNat : Int)) ||| ((toU32 ((z7).toNat : Int)) <<< UInt32.ofNat 8)) ((toU32 ((z10).toNat : Int)) <<< UInt32.ofNat 16) rfl rfl (b32_or _ _ _)) ?_
  refine RH.takeP 16 (by kernel_rfl) rfl rfl rfl rfl (V.mv rfl) ?_
  obtain ⟨z13, e13, hM⟩ := bindE hM
  obtain ⟨kk13, ke13, kz13, kl13⟩ := idxE e13
  obtain ⟨b13, o13, vs13, hA13, hD13, hR13, hrel13⟩ := Hp.at hm12 0 rfl kz13
  obtain ⟨rfl, _⟩ := hrel13
  have hm15 : Hp Z0 No w w3 [slR A0 c0 byteR x0, rdR b4 (o4 + kk4 * 1) [.int .u8 (((z4).toNat : Nat) : Int)], rdR b7 (o7 + kk7 * 1) [.int .u8 (((z7).toNat : Nat) : Int)], rdR b10 (o10 + kk10 * 1) [.int .u8 (((z10).toNat : Nat) : Int)], rdR b13 (o13 + kk13 * 1) [.int .u8 (((z13).toNat : Nat) : Int)]] := Hp.knowL [rdR b13 (o13 + kk13 * 1) [.int .u8 (((z13).toNat : Nat) : Int)]] _ hm12 (knC (fun _ h => h) ⟨fun _ => hD13, hR13⟩ kn0)
  refine RH.takeP 17 (by kernel_rfl) rfl rfl rfl rfl (V.ixA' hA13 kk13 Try.underlying22 Try.sizeOf5 rfl rfl ke13 kl13) ?_
  refine RH.takeP 18 (by kernel_rfl) rfl rfl rfl rfl (V.ldR0 Try.isAgg5 rfl (hm15.get 4 rfl).2 rfl) ?_
  refine RH.takeP 19 (by kernel_rfl) rfl rfl rfl rfl (V.cv32 Try.underlying5 Try.underlying92 rfl) ?_
  refine RH.takeP 20 (by kernel_rfl) rfl rfl rfl rfl (V.sh32 rfl rfl _ 24 rfl rfl (b32_shl _ _ _ 24 (by decide))) ?_
  refine RH.takeP 21 (by kernel_rfl) rfl rfl rfl rfl (V.o32 rfl rfl (((toU32 ((z4).toNat : Int)) ||| ((toU32 ((z7).toNat : Int)) <<< UInt32.ofNat 8)) ||| ((toU32 ((z10).toNat : Int)) <<< UInt32.ofNat 16)) ((toU32 ((z13).toNat : Int)) <<< UInt32.ofNat 24) rfl rfl (b32_or _ _ _)) ?_
  refine RH.takeP 22 (by kernel_rfl) rfl rfl rfl rfl (V.as rfl) ?_
  refine RH.doneP (by kernel_rfl) ?_
  refine Rn.retG1 Try.func53 rfl (rvT rfl) ?_
  obtain rfl := someE hM
  exact ⟨rfl, hm15.pick [] rfl (by decide)⟩

set_option maxRecDepth 20000 in
theorem m_bytes_Clone_sim {Z0 : Nat → Prop} (w : World) (A0 : Option Addr) (c0 : Nat) (x0 : (List UInt8)) {r : (List UInt8)} (f0 : (slR A0 c0 byteR x0).H Z0 w) (hM : m_bytes_Clone x0 = some r) :
    Calls Try.prog 25 #[.slice A0 (x0).length c0] w fun x w' => ∃ A_0_0 c_0_0, x = .returned (.slice A_0_0 (r).length c_0_0) ∧ Hp Z0 No w w' [ownR 5 A_0_0 c_0_0 byteR r] := by
  exact clone_25 w A0 c0 x0 f0 hM

set_option maxRecDepth 20000 in
theorem m_frame_First_sim {Z0 : Nat → Prop} (w : World) (A0 : Option Addr) (c0 : Nat) (x0 : (List UInt8)) {r : ((List UInt8) × Int × Int)} (f0 : (slR A0 c0 byteR x0).H Z0 w) (hM : m_frame_First x0 = some r) :
    Calls Try.prog 35 #[.slice A0 (x0).length c0] w fun x w' => ∃ A_0_0 c_0_0, x = .returned (.tuple #[.slice A_0_0 (r.1).length c_0_0, .int .i64 (r.2.1), .int .i64 (r.2.2)]) ∧ Hp Z0 No w w' [ownR 5 A_0_0 c_0_0 byteR r.1] := by
  have hm0 := Hp.nil Z0 No w
  have hc0 := Calm.nil
  have hm2 := hm0.know (slR A0 c0 byteR x0) (fun _ h => h) (hm0.in0 hc0 f0)
  replace hc0 := hc0.snoc (r := slR A0 c0 byteR x0) (fun _ h => h)
  refine Rn.enter Try.func35 rfl rfl (Nat.le_of_ble_eq_true rfl) ?_
  refine Rn.seq (Rn.reg (Rn.v rfl rfl rfl rfl (V.as rfl) (Rn.v rfl rfl rfl rfl (V.as rfl) (Rn.v rfl rfl rfl rfl (V.as rfl) (Rn.regEnd (Rn.seq (Rn.block (Rn.seq (Rn.reg (Rn.v rfl rfl rfl rfl (V.mv rfl) (Rn.v rfl rfl rfl rfl (V.lenV Try.underlying22 rfl) (Rn.v rfl rfl rfl rfl (V.eql rfl rfl) (Rn.v rfl rfl rfl rfl (V.as rfl) (Rn.regEnd ?_))))))))))))))
  refine Rn.condD rfl (fun h3 => ?_) (fun h3 => ?_)
  · replace hM := iteT h3 hM
    refine Rn.seq (Rn.reg (Rn.v rfl rfl rfl rfl (V.as rfl) (Rn.v rfl rfl rfl rfl (V.as rfl) (Rn.v rfl rfl rfl rfl (V.as rfl) (Rn.regEnd ?_)))))
    have hm4 := hm2.addNil 5 byteR
    refine Rn.retG3 Try.func35 rfl (rvT rfl) (rvT rfl) (rvT rfl) ?_
    obtain rfl := someE hM
    exact ⟨none, 0, rfl, hm4.pick [1] rfl (by decide)⟩
  · replace hM := iteF h3 hM
    refine Rn.seq (Rn.reg (Rn.v rfl rfl rfl rfl (V.mv rfl) ?_))
    obtain ⟨z6, e6, hM⟩ := bindE hM
    refine Rn.ixH hm2 0 rfl e6 rfl rfl rfl Try.underlying22 Try.sizeOf5 rfl rfl rfl rfl ?_
    rintro b6 o6 vs6 ⟨rfl, _⟩ hm6
    refine Rn.v rfl rfl rfl rfl (V.ldR0 Try.isAgg5 rfl (hm6.get 1 rfl).2 rfl) (Rn.v rfl rfl rfl rfl (V.neq rfl rfl) (Rn.v rfl rfl rfl rfl (V.as rfl) (Rn.regEnd ?_)))
    refine Rn.condD rfl (fun h8 => ?_) (fun h8 => ?_)
    · replace hM := iteT h8 hM
      refine Rn.seq (Rn.reg (Rn.v rfl rfl rfl rfl (V.as rfl) (Rn.v rfl rfl rfl rfl (V.as rfl) (Rn.v rfl rfl rfl rfl (V.as rfl) (Rn.regEnd ?_)))))
      have hm9 := hm6.addNil 5 byteR
      refine Rn.retG3 Try.func35 rfl (rvT rfl) (rvT rfl) (rvT rfl) ?_
      obtain rfl := someE hM
      exact ⟨none, 0, rfl, hm9.pick [2] rfl (by decide)⟩
    · replace hM := iteF h8 hM
      refine Rn.seq (Rn.reg (Rn.v rfl rfl rfl rfl (V.mv rfl) (Rn.v rfl rfl rfl rfl (V.lenV Try.underlying22 rfl) (Rn.v rfl rfl rfl rfl (V.lss rfl rfl) (Rn.v rfl rfl rfl rfl (V.as rfl) (Rn.regEnd ?_))))))
      refine Rn.condD rfl (fun h11 => ?_) (fun h11 => ?_)
      · replace hM := iteT h11 hM
        refine Rn.seq (Rn.reg (Rn.v rfl rfl rfl rfl (V.as rfl) (Rn.v rfl rfl rfl rfl (V.as rfl) (Rn.v rfl rfl rfl rfl (V.as rfl) (Rn.regEnd ?_)))))
        have hm12 := hm6.addNil 5 byteR
        refine Rn.retG3 Try.func35 rfl (rvT rfl) (rvT rfl) (rvT rfl) ?_
        obtain rfl := someE hM
        exact ⟨none, 0, rfl, hm12.pick [2] rfl (by decide)⟩
      · replace hM := iteF h11 hM
        refine Rn.skip (Rn.inBlock (Rn.seq (Rn.reg (Rn.v rfl rfl rfl rfl (V.mv rfl) ?_))))
        obtain ⟨z14, e14, hM⟩ := bindE hM
        refine Rn.cutH hm6 0 rfl e14 rfl rfl rfl Try.underlying22 Try.sizeOf5 rfl rfl rfl rfl rfl ?_
        intro A14 c14 hm14
        obtain ⟨p16, e16, hM⟩ := bindE hM
        refine Rn.cl ck53 rfl rfl rfl rfl (m_frame_number_sim (Z0 := All) _ A14 c14 z14 (slR_all (hm14.get 2 rfl)) e16) ?_
        rintro _ w16 ⟨rfl, hq16⟩
        refine ⟨_, rfl, ?_⟩
        have hm17 := hm14.call0 hq16
        refine Rn.v rfl rfl rfl rfl (V.as rfl) (Rn.regEnd (Rn.seq (Rn.block (Rn.seq (Rn.reg (Rn.v rfl rfl rfl rfl (V.mv rfl) (Rn.v rfl rfl rfl rfl (V.gtr rfl rfl) (Rn.v rfl rfl rfl rfl (V.as rfl) (Rn.regEnd ?_)))))))))
        refine Rn.condD rfl (fun h18 => ?_) (fun h18 => ?_)
        · replace hM := iteT h18 hM
          refine Rn.seq (Rn.reg (Rn.v rfl rfl rfl rfl (V.as rfl) (Rn.v rfl rfl rfl rfl (V.as rfl) (Rn.v rfl rfl rfl rfl (V.as rfl) (Rn.regEnd ?_)))))
          have hm19 := hm17.addNil 5 byteR
          refine Rn.retG3 Try.func35 rfl (rvT rfl) (rvT rfl) (rvT rfl) ?_
          obtain rfl := someE hM
          exact ⟨none, 0, rfl, hm19.pick [3] rfl (by decide)⟩
        · replace hM := iteF h18 hM
          refine Rn.seq (Rn.reg (Rn.v rfl rfl rfl rfl (V.mv rfl) (Rn.v rfl rfl rfl rfl (V.cv32i (a := p16) Try.underlying92 Try.underlying3 rfl) (Rn.v rfl rfl rfl rfl (V.mv rfl) (Rn.v rfl rfl rfl rfl (V.lenV Try.underlying22 rfl) (Rn.v rfl rfl rfl rfl (V.subW rfl rfl) (Rn.v rfl rfl rfl rfl (V.gtr rfl rfl) (Rn.v rfl rfl rfl rfl (V.as rfl) (Rn.regEnd ?_)))))))))
          refine Rn.condD rfl (fun h21 => ?_) (fun h21 => ?_)
          · replace hM := iteT h21 hM
            refine Rn.seq (Rn.reg (Rn.v rfl rfl rfl rfl (V.as rfl) (Rn.v rfl rfl rfl rfl (V.as rfl) (Rn.v rfl rfl rfl rfl (V.as rfl) (Rn.regEnd ?_)))))
            have hm22 := hm17.addNil 5 byteR
            refine Rn.retG3 Try.func35 rfl (rvT rfl) (rvT rfl) (rvT rfl) ?_
            obtain rfl := someE hM
            exact ⟨none, 0, rfl, hm22.pick [3] rfl (by decide)⟩
          · replace hM := iteF h21 hM
            refine Rn.skip (Rn.inBlock (Rn.seq (Rn.reg (Rn.v rfl rfl rfl rfl (V.mv rfl) (Rn.v rfl rfl rfl rfl (V.cv32i (a := p16) Try.underlying92 Try.underlying3 rfl) (Rn.v rfl rfl rfl rfl (V.addW rfl rfl) (Rn.v rfl rfl rfl rfl (V.as rfl) (Rn.regEnd (Rn.seq (Rn.seq ?_))))))))))
            refine Rn.drawH rfl hm17 ?_
            intro w24 hm24
            refine RH.take 0 (by kernel_rfl) rfl rfl rfl rfl (fun w' hDr => V.mv rfl) ?_
            obtain ⟨z25, e25, hM⟩ := bindE hM
            refine RH.cutH 1 (by kernel_rfl) hm24 0 rfl e25 rfl rfl rfl Try.underlying22 Try.sizeOf5 rfl rfl rfl rfl rfl ?_
            intro A25 c25 hm25
            refine RH.take 2 (by kernel_rfl) rfl rfl rfl rfl (fun w' hDr => V.mv rfl) ?_
            refine RH.take 3 (by kernel_rfl) rfl rfl rfl rfl (fun w' hDr => V.mv rfl) ?_
            obtain ⟨z27, e27, hM⟩ := bindE hM
            refine RH.cutH 4 (by kernel_rfl) hm25 0 rfl e27 rfl rfl rfl Try.underlying22 Try.sizeOf5 rfl rfl rfl rfl rfl ?_
            intro A27 c27 hm27
            refine RH.take 6 (by kernel_rfl) rfl rfl rfl rfl (fun w' hDr => V.mv rfl) ?_
            obtain ⟨z29, e29, hM⟩ := bindE hM
            refine RH.cutH 7 (by kernel_rfl) hm27 0 rfl e29 rfl rfl rfl Try.underlying22 Try.sizeOf5 rfl rfl rfl rfl rfl ?_
            intro A29 c29 hm29
            obtain ⟨p31, e31, hM⟩ := bindE hM
            refine RH.cl ck49 5 (by kernel_rfl) rfl rfl rfl rfl (m_frame_sum_sim (Z0 := All) _ A25 c25 z25 A27 c27 z27 (slR_all (hm29.get 3 rfl)) (slR_all (hm29.get 4 rfl)) e31) ?_
            rintro _ w31 ⟨rfl, hq31⟩
            refine ⟨_, rfl, ((Ext.refl _).trans hq31.fr), ?_⟩
            have hm32 := hm29.call0 hq31
            obtain ⟨p33, e33, hM⟩ := bindE hM
            refine RH.cl ck53 8 (by kernel_rfl) rfl rfl rfl rfl (m_frame_number_sim (Z0 := All) _ A29 c29 z29 (slR_all (hm32.get 5 rfl)) e33) ?_
            rintro _ w33 ⟨rfl, hq33⟩
            refine ⟨_, rfl, (((Ext.refl _).trans hq31.fr).trans hq33.fr), ?_⟩
            have hm34 := hm32.call0 hq33
            refine RH.here fun hS9 => RH.one 9 (by kernel_rfl) rfl rfl rfl rfl (V.neq rfl rfl) hS9 ?_
            refine RH.doneP (by kernel_rfl) ?_
            refine Rn.condD rfl (fun h35 => ?_) (fun h35 => ?_)
            · replace hM := iteT h35 hM
              refine Rn.seq (Rn.reg (Rn.v rfl rfl rfl rfl (V.as rfl) (Rn.v rfl rfl rfl rfl (V.as rfl) (Rn.v rfl rfl rfl rfl (V.as rfl) (Rn.regEnd ?_)))))
              have hm36 := hm34.addNil 5 byteR
              refine Rn.retG3 Try.func35 rfl (rvT rfl) (rvT rfl) (rvT rfl) ?_
              obtain rfl := someE hM
              exact ⟨none, 0, rfl, hm36.pick [6] rfl (by decide)⟩
            · replace hM := iteF h35 hM
              refine Rn.skip (Rn.seq (Rn.reg (Rn.v rfl rfl rfl rfl (V.mv rfl) (Rn.v rfl rfl rfl rfl (V.mv rfl) ?_))))
              obtain ⟨z38, e38, hM⟩ := bindE hM
              refine Rn.cutH hm34 0 rfl e38 rfl rfl rfl Try.underlying22 Try.sizeOf5 rfl rfl rfl rfl rfl ?_
              intro A38 c38 hm38
              obtain ⟨p40, e40, hM⟩ := bindE hM
              refine Rn.cl ck25 rfl rfl rfl rfl (m_bytes_Clone_sim (Z0 := All) _ A38 c38 z38 (slR_all (hm38.get 6 rfl)) e40) ?_
              rintro _ w40 ⟨A40_0_0, c40_0_0, rfl, hq40⟩
              refine ⟨_, rfl, ?_⟩
              have hm42 : Hp Z0 No w w40 [slR A0 c0 byteR x0, rdR b6 o6 [.int .u8 (((z6).toNat : Nat) : Int)], slR A14 c14 byteR z14, slR A25 c25 byteR z25, slR A27 c27 byteR z27, slR A29 c29 byteR z29, slR A38 c38 byteR z38, ownR 5 A40_0_0 c40_0_0 byteR p40] := hm38.callF (flC (ownR_flat byte_flat _ _ _ _) fl0) hq40
              refine Rn.v rfl rfl rfl rfl (V.mv rfl) (Rn.v rfl rfl rfl rfl (V.as rfl) (Rn.v rfl rfl rfl rfl (V.as rfl) (Rn.v rfl rfl rfl rfl (V.as rfl) (Rn.regEnd ?_))))
              refine Rn.retG3 Try.func35 rfl (rvT rfl) (rvT rfl) (rvT rfl) ?_
              obtain rfl := someE hM
              exact ⟨A40_0_0, c40_0_0, rfl, hm42.pick [7] rfl (by decide)⟩

set_option maxRecDepth 20000 in
theorem m_snap_Load_sim {Z0 : Nat → Prop} (w : World) (F0 : Nat → Prop) (b0 : Nat) (x0 : PD) (x1 : (List UInt8)) {r : ((List UInt8) × Bool × Int × PD)} (hL : Lent Z0 w [diskO 61 68 5 F0 b0 x0]) (hM : m_snap_Load x0 x1 = some r) :
    Calls Try.prog 13 #[.pointer (some ⟨b0, 0, none⟩), Str (x1)] w fun x w' => ∃ A_0_0 c_0_0 F_p0, x = .returned (.tuple #[.slice A_0_0 (r.1).length c_0_0, .bool (r.2.1), .int .i64 (r.2.2.1)]) ∧ Hp Z0 (LS [diskO 61 68 5 F0 b0 x0]) w w' [ownR 5 A_0_0 c_0_0 byteR r.1, diskO 61 68 5 F_p0 b0 r.2.2.2] := by
  have hm0 := hL.start
  refine Rn.enter Try.func13 rfl rfl (Nat.le_of_ble_eq_true rfl) ?_
  refine Rn.seq (Rn.reg (Rn.v rfl rfl rfl rfl (V.as rfl) (Rn.v rfl rfl rfl rfl (V.as rfl) (Rn.v rfl rfl rfl rfl (V.as rfl) (Rn.regEnd (Rn.seq (Rn.seq (Rn.reg (Rn.v rfl rfl rfl rfl (V.mv rfl) ?_)))))))))
  obtain ⟨p2, e2, hM⟩ := bindE hM
  refine Rn.cl ck10 rfl rfl rfl rfl (m_disk_Disk_Down_sim (Z0 := All) _ F0 b0 x0 (fz_all (hm0.get 0 rfl)) e2) ?_
  rintro _ w2 ⟨rfl, hq2⟩
  refine ⟨_, rfl, ?_⟩
  have hm3 := hm0.call0 hq2
  refine Rn.regEnd ?_
  refine Rn.condS rfl (fun h4 => ?_) (fun h4 => ?_)
  · replace hM := iteT h4 hM
    refine Rn.seq (Rn.reg (Rn.v rfl rfl rfl rfl (V.as rfl) (Rn.v rfl rfl rfl rfl (V.as rfl) (Rn.v rfl rfl rfl rfl (V.as rfl) (Rn.regEnd ?_)))))
    have hm5 := hm3.addNil 5 byteR
    refine Rn.retG3 Try.func13 rfl (rvT rfl) (rvT rfl) (rvT rfl) ?_
    obtain rfl := someE hM
    exact ⟨none, 0, F0, rfl, hm5.pick [1, 0] rfl (by decide)⟩
  · replace hM := iteF (by rw [h4]; exact Bool.false_ne_true) hM
    refine Rn.skip (Rn.seq (Rn.seq (Rn.reg (Rn.v rfl rfl rfl rfl (V.mv rfl) (Rn.v rfl rfl rfl rfl (V.mv rfl) ?_)))))
    obtain ⟨z7, e7, hM⟩ := bindE hM
    refine Rn.v rfl rfl rfl rfl (V.catZ rfl rfl e7) ?_
    obtain ⟨p8, e8, hM⟩ := bindE hM
    refine Rn.cl ck27 rfl rfl rfl rfl (m_snap_there_sim (Z0 := All) _ F0 b0 x0 z7 (fz_all (hm3.get 0 rfl)) e8) ?_
    rintro _ w8 ⟨rfl, hq8⟩
    refine ⟨_, rfl, ?_⟩
    have hm9 := hm3.call0 hq8
    refine Rn.regEnd ?_
    obtain ⟨j1, hj1, hM⟩ := jnE hM
    refine Rn.joinG (r := r) (G := PD × (Nat → Prop)) (fun g => [(0, .pointer (some ⟨b0, 0, none⟩)), (1, Str (x1))]) (fun g w' => Hp Z0 (LS [diskO 61 68 5 F0 b0 x0]) w w' [diskO 61 68 5 (g.2) b0 (g.1)]) (fun g => j1 g.1) ?_ ?_
    · subst hj1
      clear hM
      rintro ⟨y10, F10⟩ w11 hm11 hM
      replace hm11 : Hp Z0 (LS [diskO 61 68 5 F0 b0 x0]) w w11 [diskO 61 68 5 F10 b0 y10] := hm11
      show Rn _ _ _ _ _ [(0, .pointer (some ⟨b0, 0, none⟩)), (1, Str (x1))] _
      try dsimp only at hM
      refine Rn.seq (Rn.reg (Rn.v rfl rfl rfl rfl (V.mv rfl) (Rn.v rfl rfl rfl rfl (V.mv rfl) ?_)))
      obtain ⟨p12, e12, hM⟩ := bindE hM
      refine Rn.cl ck34 rfl rfl rfl rfl (m_disk_Disk_Read_sim (Z0 := All) _ F10 b0 y10 x1 (fz_all (hm11.get 0 rfl)) e12) ?_
      rintro _ w12 ⟨A12_0_0, c12_0_0, rfl, hq12⟩
      refine ⟨_, rfl, ?_⟩
      have hm14 : Hp Z0 (LS [diskO 61 68 5 F0 b0 x0]) w w12 [diskO 61 68 5 F10 b0 y10, ownR 5 A12_0_0 c12_0_0 byteR p12.1] := hm11.callF (flC (ownR_flat byte_flat _ _ _ _) fl0) hq12
      refine Rn.v rfl rfl rfl rfl (V.mv rfl) (Rn.v rfl rfl rfl rfl (V.ext rfl rfl) (Rn.v rfl rfl rfl rfl (V.ext rfl rfl) (Rn.v rfl rfl rfl rfl (V.as rfl) (Rn.v rfl rfl rfl rfl (V.as rfl) (Rn.regEnd (Rn.seq (Rn.seq (Rn.reg (Rn.v rfl rfl rfl rfl (V.mv rfl) (Rn.v rfl rfl rfl rfl (V.eql rfl rfl) (Rn.regEnd ?_)))))))))))
      refine Rn.condD rfl (fun h15 => ?_) (fun h15 => ?_)
      · replace hM := iteT h15 hM
        refine Rn.seq (Rn.reg (Rn.v rfl rfl rfl rfl (V.as rfl) (Rn.v rfl rfl rfl rfl (V.as rfl) (Rn.v rfl rfl rfl rfl (V.as rfl) (Rn.regEnd ?_)))))
        have hm16 := hm14.addNil 5 byteR
        refine Rn.retG3 Try.func13 rfl (rvT rfl) (rvT rfl) (rvT rfl) ?_
        obtain rfl := someE hM
        exact ⟨none, 0, F10, rfl, hm16.pick [2, 0] rfl (by decide)⟩
      · replace hM := iteF h15 hM
        refine Rn.skip (Rn.seq (Rn.reg (Rn.v rfl rfl rfl rfl (V.mv rfl) ?_)))
        obtain ⟨p18, e18, hM⟩ := bindE hM
        refine Rn.cl ck35 rfl rfl rfl rfl (m_frame_First_sim (Z0 := All) _ A12_0_0 c12_0_0 p12.1 (own_slR (hm14.get 1 rfl)) e18) ?_
        rintro _ w18 ⟨A18_0_0, c18_0_0, rfl, hq18⟩
        refine ⟨_, rfl, ?_⟩
        have hm20 : Hp Z0 (LS [diskO 61 68 5 F0 b0 x0]) w w18 [diskO 61 68 5 F10 b0 y10, ownR 5 A12_0_0 c12_0_0 byteR p12.1, ownR 5 A18_0_0 c18_0_0 byteR p18.1] := hm14.callF (flC (ownR_flat byte_flat _ _ _ _) fl0) hq18
        refine Rn.v rfl rfl rfl rfl (V.mv rfl) (Rn.v rfl rfl rfl rfl (V.ext rfl rfl) (Rn.v rfl rfl rfl rfl (V.ext rfl rfl) (Rn.v rfl rfl rfl rfl (V.ext rfl rfl) (Rn.v rfl rfl rfl rfl (V.as rfl) (Rn.v rfl rfl rfl rfl (V.as rfl) (Rn.v rfl rfl rfl rfl (V.as rfl) (Rn.regEnd (Rn.seq (Rn.seq (Rn.reg (Rn.v rfl rfl rfl rfl (V.mv rfl) (Rn.v rfl rfl rfl rfl (V.neq rfl rfl) (Rn.v rfl rfl rfl rfl (V.mv rfl) ?_)))))))))))))
        refine Rn.cutR [] [(4, .slice A18_0_0 (p18.1).length c18_0_0), (44, .bool (decide ((p18.2.2 ≠ 0) ∨ (p18.2.1 ≠ (p12.1.length : Int)))))] (fun hk21 => ?_) ?_
        · refine Rn.partD (t := 39) rfl (fun h22 => ?_) (fun h22 => ?_)
          · refine Rn.no rfl rfl rfl rfl (Rn.no rfl rfl rfl rfl (Rn.no rfl rfl rfl rfl (Rn.no rfl rfl rfl rfl (Rn.v rfl rfl rfl rfl (V.pkT rfl rfl) ?_))))
            refine hk21 _ ?_
            exact Sub.cons rfl (Sub.cons (lkv _ rfl (by first | exact andT h22 | exact andF h22 | exact orT h22 | exact orF h22 | exact nandF h22 | exact nandT h22 | exact norT h22 | exact norF h22 | (simp [h22]; done) | grind)) (Sub.nil _))
          · refine Rn.v rfl rfl rfl rfl (V.mv rfl) (Rn.v rfl rfl rfl rfl (V.mv rfl) (Rn.v rfl rfl rfl rfl (V.lenV Try.underlying22 rfl) (Rn.v rfl rfl rfl rfl (V.neq rfl rfl) (Rn.v rfl rfl rfl rfl (V.pkF rfl rfl) ?_))))
            refine hk21 _ ?_
            exact Sub.cons rfl (Sub.cons (lkv _ rfl (by first | exact andT h22 | exact andF h22 | exact orT h22 | exact orF h22 | exact nandF h22 | exact nandT h22 | exact norT h22 | exact norF h22 | (simp [h22]; done) | grind)) (Sub.nil _))
        refine Rn.regEnd ?_
        refine Rn.condD rfl (fun h23 => ?_) (fun h23 => ?_)
        · replace hM := iteT h23 hM
          refine Rn.seq (Rn.reg (Rn.v rfl rfl rfl rfl (V.as rfl) (Rn.v rfl rfl rfl rfl (V.as rfl) (Rn.v rfl rfl rfl rfl (V.as rfl) (Rn.regEnd ?_)))))
          have hm24 := hm20.addNil 5 byteR
          refine Rn.retG3 Try.func13 rfl (rvT rfl) (rvT rfl) (rvT rfl) ?_
          obtain rfl := someE hM
          exact ⟨none, 0, F10, rfl, hm24.pick [3, 0] rfl (by decide)⟩
        · replace hM := iteF h23 hM
          refine Rn.skip (Rn.seq (Rn.reg (Rn.v rfl rfl rfl rfl (V.mv rfl) (Rn.v rfl rfl rfl rfl (V.as rfl) (Rn.v rfl rfl rfl rfl (V.as rfl) (Rn.v rfl rfl rfl rfl (V.as rfl) (Rn.regEnd ?_)))))))
          refine Rn.retG3 Try.func13 rfl (rvT rfl) (rvT rfl) (rvT rfl) ?_
          obtain rfl := someE hM
          exact ⟨A18_0_0, c18_0_0, F10, rfl, hm20.pick [2, 0] rfl (by decide)⟩
    intro hk1
    clear hj1
    refine Rn.condS rfl (fun h26 => ?_) (fun h26 => ?_)
    · replace hM := iteT h26 hM
      refine Rn.seq (Rn.reg (Rn.v rfl rfl rfl rfl (V.mv rfl) (Rn.v rfl rfl rfl rfl (V.mv rfl) ?_)))
      obtain ⟨z27, e27, hM⟩ := bindE hM
      refine Rn.v rfl rfl rfl rfl (V.catZ rfl rfl e27) ?_
      obtain ⟨p28, e28, hM⟩ := bindE hM
      have hm29 : Hp Z0 (LS [diskO 61 68 5 F0 b0 x0]) w w8 ([] ++ [diskO 61 68 5 F0 b0 x0]) := hm9.pick [0] rfl (by decide)
      refine Rn.cl ck28 rfl rfl rfl rfl (m_disk_Disk_Remove_sim (Z0 := _) _ F0 b0 x0 z27 hm29.lend e28) ?_
      rintro _ w28 ⟨F28_p0, rfl, hq28⟩
      refine ⟨_, rfl, ?_⟩
      have hm31 : Hp Z0 (LS [diskO 61 68 5 F0 b0 x0]) w w28 [diskO 61 68 5 F28_p0 b0 p28.2] := hm29.callAZ hq28
      refine Rn.v rfl rfl rfl rfl (V.as rfl) (Rn.regEnd (Rn.seq (Rn.reg (Rn.v rfl rfl rfl rfl (V.mv rfl) (Rn.v rfl rfl rfl rfl (V.neq rfl rfl) (Rn.regEnd ?_))))))
      refine Rn.condD rfl (fun h32 => ?_) (fun h32 => ?_)
      · replace hM := iteT h32 hM
        refine Rn.seq (Rn.reg (Rn.v rfl rfl rfl rfl (V.mv rfl) (Rn.v rfl rfl rfl rfl (V.as rfl) (Rn.v rfl rfl rfl rfl (V.as rfl) (Rn.v rfl rfl rfl rfl (V.as rfl) (Rn.regEnd ?_))))))
        have hm33 := hm31.addNil 5 byteR
        refine Rn.retG3 Try.func13 rfl (rvT rfl) (rvT rfl) (rvT rfl) ?_
        obtain rfl := someE hM
        exact ⟨none, 0, F28_p0, rfl, hm33.pick [1, 0] rfl (by decide)⟩
      · replace hM := iteF h32 hM
        refine Rn.skip ?_
        exact hk1 (p28.2, F28_p0) _ _ (Sub.cons rfl (Sub.cons rfl (Sub.nil _))) (hm31.pick [0] rfl (by decide)) hM
    · replace hM := iteF (by rw [h26]; exact Bool.false_ne_true) hM
      refine Rn.skip ?_
      exact hk1 (x0, F0) _ _ (Sub.cons rfl (Sub.cons rfl (Sub.nil _))) (hm9.pick [0] rfl (by decide)) hM

set_option maxRecDepth 20000 in
theorem m_disk_Disk_Used_sim {Z0 : Nat → Prop} (w : World) (F0 : Nat → Prop) (b0 : Nat) (x0 : PD) {r : Int} (f0 : (fzR (diskO 61 68 5 F0 b0 x0)).H Z0 w) (hM : m_disk_Disk_Used x0 = some r) :
    Calls Try.prog 22 #[.pointer (some ⟨b0, 0, none⟩)] w fun x w' => x = .returned (.int .i64 (r)) ∧ Hp Z0 No w w' [] := by
  unfold m_disk_Disk_Used at hM
  split at hM
  · rename_i hg
    obtain rfl := someE hM
    obtain ⟨mb, ms, ck, bss, h⟩ := f0.1
    refine (used_spec _ w rfl hg h).mono ?_
    rintro x w' ⟨rfl, hx⟩
    exact ⟨rfl, (Hp.nil Z0 No w).ext hx⟩
  · cases hM

set_option maxRecDepth 20000 in
theorem m_frame_Size_sim {Z0 : Nat → Prop} (w : World) (x0 : Int) {r : Int}  (hM : m_frame_Size x0 = some r) :
    Calls Try.prog 47 #[.int .i64 (x0)] w fun x w' => x = .returned (.int .i64 (r)) ∧ Hp Z0 No w w' [] := by
  have hm0 := Hp.nil Z0 No w
  have hc0 := Calm.nil
  refine Rn.enter Try.func47 rfl rfl (Nat.le_of_ble_eq_true rfl) ?_
  refine Rn.seq (Rn.reg (Rn.v rfl rfl rfl rfl (V.as rfl) (Rn.regEnd (Rn.seq (Rn.seq (Rn.reg (Rn.v rfl rfl rfl rfl (V.mv rfl) (Rn.v rfl rfl rfl rfl (V.lss rfl rfl) (Rn.v rfl rfl rfl rfl (V.mv rfl) ?_)))))))))
  refine Rn.cutR [] [(0, .int .i64 (x0)), (8, .bool (decide ((x0 < 0) ∨ (x0 > 65536))))] (fun hk1 => ?_) ?_
  · refine Rn.partD (t := 5) rfl (fun h2 => ?_) (fun h2 => ?_)
    · refine Rn.no rfl rfl rfl rfl (Rn.no rfl rfl rfl rfl (Rn.v rfl rfl rfl rfl (V.pkT rfl rfl) ?_))
      refine hk1 _ ?_
      exact Sub.cons rfl (Sub.cons (lkv _ rfl (by first | exact andT h2 | exact andF h2 | exact orT h2 | exact orF h2 | exact nandF h2 | exact nandT h2 | exact norT h2 | exact norF h2 | (simp [h2]; done) | grind)) (Sub.nil _))
    · refine Rn.v rfl rfl rfl rfl (V.mv rfl) (Rn.v rfl rfl rfl rfl (V.gtr rfl rfl) (Rn.v rfl rfl rfl rfl (V.pkF rfl rfl) ?_))
      refine hk1 _ ?_
      exact Sub.cons rfl (Sub.cons (lkv _ rfl (by first | exact andT h2 | exact andF h2 | exact orT h2 | exact orF h2 | exact nandF h2 | exact nandT h2 | exact norT h2 | exact norF h2 | (simp [h2]; done) | grind)) (Sub.nil _))
  refine Rn.regEnd ?_
  refine Rn.condD rfl (fun h3 => ?_) (fun h3 => ?_)
  · replace hM := iteT h3 hM
    refine Rn.seq (Rn.reg (Rn.v rfl rfl rfl rfl (V.as rfl) (Rn.regEnd ?_)))
    refine Rn.retG1 Try.func47 rfl (rvT rfl) ?_
    obtain rfl := someE hM
    exact ⟨rfl, hm0.pick [] rfl (by decide)⟩
  · replace hM := iteF h3 hM
    refine Rn.skip (Rn.seq (Rn.reg (Rn.v rfl rfl rfl rfl (V.mv rfl) (Rn.v rfl rfl rfl rfl (V.addW rfl rfl) (Rn.v rfl rfl rfl rfl (V.as rfl) (Rn.regEnd ?_))))))
    refine Rn.retG1 Try.func47 rfl (rvT rfl) ?_
    obtain rfl := someE hM
    exact ⟨rfl, hm0.pick [] rfl (by decide)⟩

set_option maxRecDepth 20000 in
theorem m_snap_Cost_sim {Z0 : Nat → Prop} (w : World) (x0 : Int) {r : Int}  (hM : m_snap_Cost x0 = some r) :
    Calls Try.prog 23 #[.int .i64 (x0)] w fun x w' => x = .returned (.int .i64 (r)) ∧ Hp Z0 No w w' [] := by
  have hm0 := Hp.nil Z0 No w
  have hc0 := Calm.nil
  refine Rn.enter Try.func23 rfl rfl (Nat.le_of_ble_eq_true rfl) ?_
  refine Rn.seq (Rn.reg (Rn.v rfl rfl rfl rfl (V.as rfl) (Rn.regEnd (Rn.seq (Rn.reg (Rn.v rfl rfl rfl rfl (V.mv rfl) ?_))))))
  obtain ⟨p1, e1, hM⟩ := bindE hM
  refine Rn.cl ck47 rfl rfl rfl rfl (m_frame_Size_sim (Z0 := All) _ x0  e1) ?_
  rintro _ w1 ⟨rfl, hq1⟩
  refine ⟨_, rfl, ?_⟩
  have hm2 := hm0.call0 hq1
  refine Rn.v rfl rfl rfl rfl (V.as rfl) (Rn.regEnd ?_)
  refine Rn.retG1 Try.func23 rfl (rvT rfl) ?_
  obtain rfl := someE hM
  exact ⟨rfl, hm2.pick [] rfl (by decide)⟩

set_option maxRecDepth 20000 in
theorem m_limnographlaw20_awake_sim {Z0 : Nat → Prop} (w : World)  {r : Bool}  (hM : m_limnographlaw20_awake  = some r) :
    Calls Try.prog 5 #[] w fun x w' => x = .returned (.bool (r)) ∧ Hp Z0 No w w' [] := by
  have hm0 := Hp.nil Z0 No w
  have hc0 := Calm.nil
  refine Rn.enter Try.func5 rfl rfl (Nat.le_of_ble_eq_true rfl) ?_
  refine Rn.seq (Rn.reg (Rn.v rfl rfl rfl rfl (V.as rfl) (Rn.regEnd (Rn.seq (Rn.reg ?_)))))
  have hm2 := hm0.addNil 63 T_api_File.rep
  obtain ⟨p1, e1, hM⟩ := bindE hM
  refine Rn.cl ck6 rfl rfl rfl rfl (m_disk_New_sim (Z0 := All) _ none 0 ([] : List T_api_File) 25 (own_slR (hm2.get 0 rfl)) e1) ?_
  rintro _ w1 ⟨F1_0, b1_0, rfl, hq1⟩
  refine ⟨_, rfl, ?_⟩
  have hm5 : Hp Z0 No w w1 [ownR 63 none 0 T_api_File.rep ([] : List T_api_File), optR p1 (fun z => diskO 61 68 5 F1_0 b1_0 z)] := hm2.callF (flC (optR_flat fun _ => diskO_flat _ _ _ _ _ _) fl0) hq1
  refine Rn.v rfl rfl rfl rfl (V.as rfl) (Rn.regEnd (Rn.seq (Rn.seq (Rn.reg (Rn.v rfl rfl rfl rfl (V.mv rfl) (Rn.v rfl rfl rfl rfl (V.eqlO Try.underlying26 rfl rfl) (Rn.v rfl rfl rfl rfl (V.mv rfl) ?_)))))))
  obtain ⟨j1, hj1, hM⟩ := jnE hM
  refine Rn.joinR (r := r) (G := Bool × (Option PD) × (Nat → Prop)) [9, 10, 11, 12, 13, 14, 15] (fun g => [(1, .pointer (optP b1_0 (g.2.1))), (14, .bool ((g.1)))]) (fun g w' => Hp Z0 No w w' [ownR 63 none 0 T_api_File.rep ([] : List T_api_File), optR (g.2.1) (fun z => diskO 61 68 5 (g.2.2) b1_0 z)]) (fun g => j1 g.1 g.2.1) ?_ ?_
  · subst hj1
    clear hM
    rintro ⟨y6, y7, F7⟩ w8 hm8 hM
    replace hm8 : Hp Z0 No w w8 [ownR 63 none 0 T_api_File.rep ([] : List T_api_File), optR y7 (fun z => diskO 61 68 5 F7 b1_0 z)] := hm8
    show Rn _ _ _ _ _ [(1, .pointer (optP b1_0 y7)), (14, .bool (y6))] _
    try dsimp only at hM
    refine Rn.v rfl rfl rfl rfl (V.mv rfl) ?_
    obtain ⟨j2, hj2, hM⟩ := jnE hM
    refine Rn.joinR (r := r) (G := Bool × (Option PD) × (Nat → Prop)) [] (fun g => [(1, .pointer (optP b1_0 (g.2.1))), (21, .bool ((g.1)))]) (fun g w' => Hp Z0 No w w' [ownR 63 none 0 T_api_File.rep ([] : List T_api_File), optR (g.2.1) (fun z => diskO 61 68 5 (g.2.2) b1_0 z)]) (fun g => j2 g.1 g.2.1) ?_ ?_
    · subst hj2
      clear hM
      rintro ⟨y9, y10, F10⟩ w11 hm11 hM
      replace hm11 : Hp Z0 No w w11 [ownR 63 none 0 T_api_File.rep ([] : List T_api_File), optR y10 (fun z => diskO 61 68 5 F10 b1_0 z)] := hm11
      show Rn _ _ _ _ _ [(1, .pointer (optP b1_0 y10)), (21, .bool (y9))] _
      try dsimp only at hM
      refine Rn.regEnd ?_
      refine Rn.condS rfl (fun h12 => ?_) (fun h12 => ?_)
      · replace hM := iteT h12 hM
        refine Rn.seq (Rn.reg (Rn.v rfl rfl rfl rfl (V.as rfl) (Rn.regEnd ?_)))
        refine Rn.retG1 Try.func5 rfl (rvT rfl) ?_
        obtain rfl := someE hM
        exact ⟨rfl, hm11.pick [] rfl (by decide)⟩
      · replace hM := iteF (by rw [h12]; exact Bool.false_ne_true) hM
        refine Rn.skip (Rn.seq (Rn.reg (Rn.v rfl rfl rfl rfl (V.mv rfl) ?_)))
        obtain ⟨z14, e14, hM⟩ := bindE hM
        have hm15 : Hp Z0 No w w11 [ownR 63 none 0 T_api_File.rep ([] : List T_api_File), diskO 61 68 5 F10 b1_0 z14] := hm11.optSome 1 rfl e14
        refine Rn.say (t := 23) (.pointer (some ⟨b1_0, 0, none⟩)) rfl (by rw [e14]; rfl) ?_
        obtain ⟨p13, e13, hM⟩ := bindE hM
        have hm16 : Hp Z0 No w w11 ([ownR 63 none 0 T_api_File.rep ([] : List T_api_File)] ++ [diskO 61 68 5 F10 b1_0 z14]) := hm15.pick [0, 1] rfl (by decide)
        refine Rn.cl ck13 rfl rfl rfl rfl (m_snap_Load_sim (Z0 := _) _ F10 b1_0 z14 ([115] : List UInt8) hm16.lend e13) ?_
        rintro _ w13 ⟨A13_0_0, c13_0_0, F13_p0, rfl, hq13⟩
        refine ⟨_, rfl, ?_⟩
        have hm19 : Hp Z0 No w w13 [ownR 63 none 0 T_api_File.rep ([] : List T_api_File), ownR 5 A13_0_0 c13_0_0 byteR p13.1, diskO 61 68 5 F13_p0 b1_0 p13.2.2.2] := hm16.callAZ hq13
        refine Rn.v rfl rfl rfl rfl (V.mv rfl) (Rn.v rfl rfl rfl rfl (V.ext rfl rfl) (Rn.v rfl rfl rfl rfl (V.ext rfl rfl) (Rn.v rfl rfl rfl rfl (V.ext rfl rfl) (Rn.v rfl rfl rfl rfl (V.as rfl) (Rn.v rfl rfl rfl rfl (V.as rfl) (Rn.v rfl rfl rfl rfl (V.as rfl) (Rn.regEnd (Rn.seq (Rn.reg (Rn.v rfl rfl rfl rfl (V.mv rfl) (Rn.v rfl rfl rfl rfl (V.b2s Try.underlying22 Try.underlying9 Try.underlying5 rfl rfl (Own.sl (hm19.get 1 rfl))) (Rn.v rfl rfl rfl rfl (V.eqlS rfl rfl) (Rn.v rfl rfl rfl rfl (V.mv rfl) ?_)))))))))))))
        refine Rn.cutR [6, 7, 8, 9, 10, 11, 12, 13, 14, 15, 16, 17, 18, 19] [(1, .pointer (optP b1_0 y10)), (4, .int .i64 (p13.2.2.1)), (33, .bool (decide ((p13.1 = ([97] : List UInt8)) ∧ (p13.2.1 = true))))] (fun hk20 => ?_) ?_
        · refine Rn.partD (t := 31) rfl (fun h21 => ?_) (fun h21 => ?_)
          · refine Rn.v rfl rfl rfl rfl (V.mv rfl) (Rn.v rfl rfl rfl rfl (V.pkT rfl rfl) ?_)
            refine hk20 _ ?_
            exact Sub.cons rfl (Sub.cons rfl (Sub.cons (lkv _ rfl (by first | exact andT h21 | exact andF h21 | exact orT h21 | exact orF h21 | exact nandF h21 | exact nandT h21 | exact norT h21 | exact norF h21 | (simp [h21]; done) | grind)) (Sub.nil _)))
          · refine Rn.no rfl rfl rfl rfl (Rn.v rfl rfl rfl rfl (V.pkF rfl rfl) ?_)
            refine hk20 _ ?_
            exact Sub.cons rfl (Sub.cons rfl (Sub.cons (lkv _ rfl (by first | exact andT h21 | exact andF h21 | exact orT h21 | exact orF h21 | exact nandF h21 | exact nandT h21 | exact norT h21 | exact norF h21 | (simp [h21]; done) | grind)) (Sub.nil _)))
        refine Rn.v rfl rfl rfl rfl (V.mv rfl) ?_
        refine Rn.cutR [10, 11, 12, 13, 14, 15, 16, 17, 18, 19] [(1, .pointer (optP b1_0 y10)), (37, .bool (decide (((p13.1 = ([97] : List UInt8)) ∧ (p13.2.1 = true)) ∧ (p13.2.2.1 = 0))))] (fun hk22 => ?_) ?_
        · refine Rn.partD (t := 34) rfl (fun h23 => ?_) (fun h23 => ?_)
          · refine Rn.v rfl rfl rfl rfl (V.mv rfl) (Rn.v rfl rfl rfl rfl (V.eql rfl rfl) (Rn.v rfl rfl rfl rfl (V.pkT rfl rfl) ?_))
            refine hk22 _ ?_
            exact Sub.cons rfl (Sub.cons (lkv _ rfl (by first | exact andT h23 | exact andF h23 | exact orT h23 | exact orF h23 | exact nandF h23 | exact nandT h23 | exact norT h23 | exact norF h23 | (simp [h23]; done) | grind)) (Sub.nil _))
          · refine Rn.no rfl rfl rfl rfl (Rn.no rfl rfl rfl rfl (Rn.v rfl rfl rfl rfl (V.pkF rfl rfl) ?_))
            refine hk22 _ ?_
            exact Sub.cons rfl (Sub.cons (lkv _ rfl (by first | exact andT h23 | exact andF h23 | exact orT h23 | exact orF h23 | exact nandF h23 | exact nandT h23 | exact norT h23 | exact norF h23 | (simp [h23]; done) | grind)) (Sub.nil _))
        refine Rn.v rfl rfl rfl rfl (V.mv rfl) ?_
        obtain ⟨j3, hj3, hM⟩ := jnE hM
        refine Rn.joinR (r := r) (G := Bool × (Nat → Prop)) [15, 16, 17, 18, 19] (fun g => [(42, .bool ((g.1)))]) (fun g w' => Hp Z0 No w w' [ownR 63 none 0 T_api_File.rep ([] : List T_api_File), ownR 5 A13_0_0 c13_0_0 byteR p13.1, diskO 61 68 5 (g.2) b1_0 p13.2.2.2]) (fun g => j3 g.1) ?_ ?_
        · subst hj3
          clear hM
          rintro ⟨y25, F24⟩ w26 hm26 hM
          replace hm26 : Hp Z0 No w w26 [ownR 63 none 0 T_api_File.rep ([] : List T_api_File), ownR 5 A13_0_0 c13_0_0 byteR p13.1, diskO 61 68 5 F24 b1_0 p13.2.2.2] := hm26
          show Rn _ _ _ _ _ [(42, .bool (y25))] _
          try dsimp only at hM
          refine Rn.v rfl rfl rfl rfl (V.mv rfl) ?_
          obtain ⟨j4, hj4, hM⟩ := jnE hM
          refine Rn.joinR (r := r) (G := Bool × (Nat → Prop)) [19] (fun g => [(46, .bool ((g.1)))]) (fun g w' => Hp Z0 No w w' [ownR 63 none 0 T_api_File.rep ([] : List T_api_File), ownR 5 A13_0_0 c13_0_0 byteR p13.1, diskO 61 68 5 (g.2) b1_0 p13.2.2.2]) (fun g => j4 g.1) ?_ ?_
          · subst hj4
            clear hM
            rintro ⟨y28, F27⟩ w29 hm29 hM
            replace hm29 : Hp Z0 No w w29 [ownR 63 none 0 T_api_File.rep ([] : List T_api_File), ownR 5 A13_0_0 c13_0_0 byteR p13.1, diskO 61 68 5 F27 b1_0 p13.2.2.2] := hm29
            show Rn _ _ _ _ _ [(46, .bool (y28))] _
            try dsimp only at hM
            refine Rn.v rfl rfl rfl rfl (V.as rfl) (Rn.regEnd ?_)
            refine Rn.retG1 Try.func5 rfl (rvT rfl) ?_
            obtain rfl := someE hM
            exact ⟨rfl, hm29.pick [] rfl (by decide)⟩
          intro hk4
          clear hj4
          refine Rn.part (t := 43) rfl (fun h30 => ?_) (fun h30 => ?_)
          · replace hM := iteT h30 hM
            obtain ⟨p31, e31, hM⟩ := bindE hM
            refine Rn.cl ck23 rfl rfl rfl rfl (m_snap_Cost_sim (Z0 := All) _ 1  e31) ?_
            rintro _ w31 ⟨rfl, hq31⟩
            refine ⟨_, rfl, ?_⟩
            have hm32 := hm26.call0 hq31
            refine Rn.v rfl rfl rfl rfl (V.eql rfl rfl) (Rn.v rfl rfl rfl rfl (V.pkT rfl rfl) ?_)
            exact hk4 ((decide (p31 = 10)), F24) _ _ (Sub.cons rfl (Sub.nil _)) (hm32.pick [0, 1, 2] rfl (by decide)) hM
          · replace hM := iteF (by rw [h30]; exact Bool.false_ne_true) hM
            refine Rn.no rfl rfl rfl rfl (Rn.no rfl rfl rfl rfl (Rn.v rfl rfl rfl rfl (V.pkF rfl rfl) ?_))
            exact hk4 (false, F24) _ _ (Sub.cons rfl (Sub.nil _)) (hm26.pick [0, 1, 2] rfl (by decide)) hM
        intro hk3
        clear hj3
        refine Rn.partD (t := 38) rfl (fun h33 => ?_) (fun h33 => ?_)
        · replace hM := iteT h33 hM
          refine Rn.v rfl rfl rfl rfl (V.mv rfl) ?_
          refine Rn.say (t := 39) (.pointer (some ⟨b1_0, 0, none⟩)) rfl (by rw [e14]; rfl) ?_
          obtain ⟨p34, e34, hM⟩ := bindE hM
          refine Rn.cl ck22 rfl rfl rfl rfl (m_disk_Disk_Used_sim (Z0 := All) _ F13_p0 b1_0 p13.2.2.2 (fz_all (hm19.get 2 rfl)) e34) ?_
          rintro _ w34 ⟨rfl, hq34⟩
          refine ⟨_, rfl, ?_⟩
          have hm35 := hm19.call0 hq34
          refine Rn.v rfl rfl rfl rfl (V.eql rfl rfl) (Rn.v rfl rfl rfl rfl (V.pkT rfl rfl) ?_)
          exact hk3 ((decide (p34 = 10)), F13_p0) _ _ (Sub.cons rfl (Sub.nil _)) (hm35.pick [0, 1, 2] rfl (by decide)) hM
        · replace hM := iteF h33 hM
          refine Rn.no rfl rfl rfl rfl (Rn.no rfl rfl rfl rfl (Rn.no rfl rfl rfl rfl (Rn.v rfl rfl rfl rfl (V.pkF rfl rfl) ?_)))
          exact hk3 (false, F13_p0) _ _ (Sub.cons rfl (Sub.nil _)) (hm19.pick [0, 1, 2] rfl (by decide)) hM
    intro hk2
    clear hj2
    refine Rn.part (t := 15) rfl (fun h36 => ?_) (fun h36 => ?_)
    · replace hM := iteT h36 hM
      refine Rn.no rfl rfl rfl rfl (Rn.no rfl rfl rfl rfl (Rn.no rfl rfl rfl rfl (Rn.no rfl rfl rfl rfl (Rn.no rfl rfl rfl rfl (Rn.v rfl rfl rfl rfl (V.pkT rfl rfl) ?_)))))
      exact hk2 (true, y7, F7) _ _ (Sub.cons rfl (Sub.cons rfl (Sub.nil _))) (hm8.pick [0, 1] rfl (by decide)) hM
    · replace hM := iteF (by rw [h36]; exact Bool.false_ne_true) hM
      refine Rn.v rfl rfl rfl rfl (V.mv rfl) (Rn.bslS rfl rfl rfl Try.underlying22 el5 rfl rfl rfl rfl (by first | exact szs rfl | (simp [Value.cells]; done)) (by decide) ?_)
      intro b37 w37 hb37 m37 e37
      have hm38 := hm8.addLit (rep := byteR) (xs := ([(116 : UInt8), (111 : UInt8), (111 : UInt8), (32 : UInt8), (109 : UInt8), (117 : UInt8), (99 : UInt8), (104 : UInt8), (32 : UInt8), (114 : UInt8), (111 : UInt8), (111 : UInt8), (109 : UInt8)] : List UInt8)) (vss := [[.int .u8 ((((116 : UInt8)).toNat : Nat) : Int)], [.int .u8 ((((111 : UInt8)).toNat : Nat) : Int)], [.int .u8 ((((111 : UInt8)).toNat : Nat) : Int)], [.int .u8 ((((32 : UInt8)).toNat : Nat) : Int)], [.int .u8 ((((109 : UInt8)).toNat : Nat) : Int)], [.int .u8 ((((117 : UInt8)).toNat : Nat) : Int)], [.int .u8 ((((99 : UInt8)).toNat : Nat) : Int)], [.int .u8 ((((104 : UInt8)).toNat : Nat) : Int)], [.int .u8 ((((32 : UInt8)).toNat : Nat) : Int)], [.int .u8 ((((114 : UInt8)).toNat : Nat) : Int)], [.int .u8 ((((111 : UInt8)).toNat : Nat) : Int)], [.int .u8 ((((111 : UInt8)).toNat : Nat) : Int)], [.int .u8 ((((109 : UInt8)).toNat : Nat) : Int)]]) hb37 e37 m37 rfl rfl rfl ((rels_cons (fun _ _ => ⟨rfl, trivial⟩) (rels_cons (fun _ _ => ⟨rfl, trivial⟩) (rels_cons (fun _ _ => ⟨rfl, trivial⟩) (rels_cons (fun _ _ => ⟨rfl, trivial⟩) (rels_cons (fun _ _ => ⟨rfl, trivial⟩) (rels_cons (fun _ _ => ⟨rfl, trivial⟩) (rels_cons (fun _ _ => ⟨rfl, trivial⟩) (rels_cons (fun _ _ => ⟨rfl, trivial⟩) (rels_cons (fun _ _ => ⟨rfl, trivial⟩) (rels_cons (fun _ _ => ⟨rfl, trivial⟩) (rels_cons (fun _ _ => ⟨rfl, trivial⟩) (rels_cons (fun _ _ => ⟨rfl, trivial⟩) (rels_cons (fun _ _ => ⟨rfl, trivial⟩) rels0))))))))))))))
      refine Rn.cvbH hm38 2 rfl rfl rfl rfl Try.underlying22 Try.underlying5 rfl ?_
      intro w40 hm40
      obtain ⟨z43, e43, hM⟩ := bindE hM
      have hm44 : Hp Z0 No w w40 [ownR 63 none 0 T_api_File.rep ([] : List T_api_File), diskO 61 68 5 F7 b1_0 z43, slR (some ⟨b37, 0, none⟩) 13 byteR ([(116 : UInt8), (111 : UInt8), (111 : UInt8), (32 : UInt8), (109 : UInt8), (117 : UInt8), (99 : UInt8), (104 : UInt8), (32 : UInt8), (114 : UInt8), (111 : UInt8), (111 : UInt8), (109 : UInt8)] : List UInt8)] := hm40.optSome 1 rfl e43
      refine Rn.say (t := 16) (.pointer (some ⟨b1_0, 0, none⟩)) rfl (by rw [e43]; rfl) ?_
      obtain ⟨p42, e42, hM⟩ := bindE hM
      have hm45 := hm44.dup 2 rfl (fun _ h => h)
      have hm47 : Hp Z0 No w w40 ([ownR 63 none 0 T_api_File.rep ([] : List T_api_File), slR (some ⟨b37, 0, none⟩) 13 byteR ([(116 : UInt8), (111 : UInt8), (111 : UInt8), (32 : UInt8), (109 : UInt8), (117 : UInt8), (99 : UInt8), (104 : UInt8), (32 : UInt8), (114 : UInt8), (111 : UInt8), (111 : UInt8), (109 : UInt8)] : List UInt8)] ++ [diskO 61 68 5 F7 b1_0 z43, slR (some ⟨b37, 0, none⟩) 13 byteR ([(116 : UInt8), (111 : UInt8), (111 : UInt8), (32 : UInt8), (109 : UInt8), (117 : UInt8), (99 : UInt8), (104 : UInt8), (32 : UInt8), (114 : UInt8), (111 : UInt8), (111 : UInt8), (109 : UInt8)] : List UInt8)]) := hm45.pick [0, 2, 1, 3] rfl (by decide)
      refine Rn.cl ck7 rfl rfl rfl rfl (m_snap_Save_sim (Z0 := _) _ F7 b1_0 z43 ([115] : List UInt8) (some ⟨b37, 0, none⟩) 13 ([(116 : UInt8), (111 : UInt8), (111 : UInt8), (32 : UInt8), (109 : UInt8), (117 : UInt8), (99 : UInt8), (104 : UInt8), (32 : UInt8), (114 : UInt8), (111 : UInt8), (111 : UInt8), (109 : UInt8)] : List UInt8) hm47.lend e42) ?_
      rintro _ w42 ⟨F42_p0, rfl, hq42⟩
      refine ⟨_, rfl, ?_⟩
      have hm49 : Hp Z0 No w w42 [ownR 63 none 0 T_api_File.rep ([] : List T_api_File), slR (some ⟨b37, 0, none⟩) 13 byteR ([(116 : UInt8), (111 : UInt8), (111 : UInt8), (32 : UInt8), (109 : UInt8), (117 : UInt8), (99 : UInt8), (104 : UInt8), (32 : UInt8), (114 : UInt8), (111 : UInt8), (111 : UInt8), (109 : UInt8)] : List UInt8), diskO 61 68 5 F42_p0 b1_0 p42.2] := hm47.callAZ hq42
      refine Rn.v rfl rfl rfl rfl (V.neq rfl rfl) (Rn.v rfl rfl rfl rfl (V.pkF rfl rfl) ?_)
      refine Rn.say (t := 1) (.pointer (some ⟨b1_0, 0, none⟩)) rfl (by rw [e43]; rfl) ?_
      have hm50 := hm49.toSome (R := (fun z => diskO 61 68 5 F42_p0 b1_0 z)) 2 rfl
      have hm51 : Hp Z0 No w w42 [ownR 63 none 0 T_api_File.rep ([] : List T_api_File), slR (some ⟨b37, 0, none⟩) 13 byteR ([(116 : UInt8), (111 : UInt8), (111 : UInt8), (32 : UInt8), (109 : UInt8), (117 : UInt8), (99 : UInt8), (104 : UInt8), (32 : UInt8), (114 : UInt8), (111 : UInt8), (111 : UInt8), (109 : UInt8)] : List UInt8), optR (some p42.2) (fun z => diskO 61 68 5 F42_p0 b1_0 z)] := hm50
      exact hk2 ((decide (p42.1 ≠ 12)), (some p42.2), F42_p0) _ _ (Sub.cons rfl (Sub.cons rfl (Sub.nil _))) (hm51.pick [0, 2] rfl (by decide)) hM
  intro hk1
  clear hj1
  refine Rn.part (t := 8) rfl (fun h52 => ?_) (fun h52 => ?_)
  · replace hM := iteT h52 hM
    refine Rn.no rfl rfl rfl rfl (Rn.no rfl rfl rfl rfl (Rn.no rfl rfl rfl rfl (Rn.no rfl rfl rfl rfl (Rn.no rfl rfl rfl rfl (Rn.v rfl rfl rfl rfl (V.pkT rfl rfl) ?_)))))
    exact hk1 (true, p1, F1_0) _ _ (Sub.cons rfl (Sub.cons rfl (Sub.nil _))) (hm5.pick [0, 1] rfl (by decide)) hM
  · replace hM := iteF (by rw [h52]; exact Bool.false_ne_true) hM
    refine Rn.v rfl rfl rfl rfl (V.mv rfl) (Rn.bslS rfl rfl rfl Try.underlying22 el5 rfl rfl rfl rfl (by first | exact szs rfl | (simp [Value.cells]; done)) (by decide) ?_)
    intro b53 w53 hb53 m53 e53
    have hm54 := hm5.addLit (rep := byteR) (xs := ([(97 : UInt8)] : List UInt8)) (vss := [[.int .u8 ((((97 : UInt8)).toNat : Nat) : Int)]]) hb53 e53 m53 rfl rfl rfl ((rels_cons (fun _ _ => ⟨rfl, trivial⟩) rels0))
    refine Rn.cvbH hm54 2 rfl rfl rfl rfl Try.underlying22 Try.underlying5 rfl ?_
    intro w56 hm56
    obtain ⟨z59, e59, hM⟩ := bindE hM
    have hm60 : Hp Z0 No w w56 [ownR 63 none 0 T_api_File.rep ([] : List T_api_File), diskO 61 68 5 F1_0 b1_0 z59, slR (some ⟨b53, 0, none⟩) 1 byteR ([(97 : UInt8)] : List UInt8)] := hm56.optSome 1 rfl e59
    refine Rn.say (t := 9) (.pointer (some ⟨b1_0, 0, none⟩)) rfl (by rw [e59]; rfl) ?_
    obtain ⟨p58, e58, hM⟩ := bindE hM
    have hm61 := hm60.dup 2 rfl (fun _ h => h)
    have hm63 : Hp Z0 No w w56 ([ownR 63 none 0 T_api_File.rep ([] : List T_api_File), slR (some ⟨b53, 0, none⟩) 1 byteR ([(97 : UInt8)] : List UInt8)] ++ [diskO 61 68 5 F1_0 b1_0 z59, slR (some ⟨b53, 0, none⟩) 1 byteR ([(97 : UInt8)] : List UInt8)]) := hm61.pick [0, 2, 1, 3] rfl (by decide)
    refine Rn.cl ck7 rfl rfl rfl rfl (m_snap_Save_sim (Z0 := _) _ F1_0 b1_0 z59 ([115] : List UInt8) (some ⟨b53, 0, none⟩) 1 ([(97 : UInt8)] : List UInt8) hm63.lend e58) ?_
    rintro _ w58 ⟨F58_p0, rfl, hq58⟩
    refine ⟨_, rfl, ?_⟩
    have hm65 : Hp Z0 No w w58 [ownR 63 none 0 T_api_File.rep ([] : List T_api_File), slR (some ⟨b53, 0, none⟩) 1 byteR ([(97 : UInt8)] : List UInt8), diskO 61 68 5 F58_p0 b1_0 p58.2] := hm63.callAZ hq58
    refine Rn.v rfl rfl rfl rfl (V.neq rfl rfl) (Rn.v rfl rfl rfl rfl (V.pkF rfl rfl) ?_)
    refine Rn.say (t := 1) (.pointer (some ⟨b1_0, 0, none⟩)) rfl (by rw [e59]; rfl) ?_
    have hm66 := hm65.toSome (R := (fun z => diskO 61 68 5 F58_p0 b1_0 z)) 2 rfl
    have hm67 : Hp Z0 No w w58 [ownR 63 none 0 T_api_File.rep ([] : List T_api_File), slR (some ⟨b53, 0, none⟩) 1 byteR ([(97 : UInt8)] : List UInt8), optR (some p58.2) (fun z => diskO 61 68 5 F58_p0 b1_0 z)] := hm66
    exact hk1 ((decide (p58.1 ≠ 0)), (some p58.2), F58_p0) _ _ (Sub.cons rfl (Sub.cons rfl (Sub.nil _))) (hm67.pick [0, 2] rfl (by decide)) hM

set_option maxRecDepth 20000 in
theorem m_limnographref18_Bulk_sim {Z0 : Nat → Prop} (w : World) (A0 : Option Addr) (c0 : Nat) (x0 : (List T_api_File)) (x1 : Int) {r : Int} (f0 : (slR A0 c0 T_api_File.rep x0).H Z0 w) (hM : m_limnographref18_Bulk x0 x1 = some r) :
    Calls Try.prog 15 #[.slice A0 (x0).length c0, .int .i64 (x1)] w fun x w' => x = .returned (.int .i64 (r)) ∧ Hp Z0 No w w' [] := by
  have hm0 := Hp.nil Z0 No w
  have hc0 := Calm.nil
  have hm2 := hm0.know (slR A0 c0 T_api_File.rep x0) (fun _ h => h) (hm0.in0 hc0 f0)
  replace hc0 := hc0.snoc (r := slR A0 c0 T_api_File.rep x0) (fun _ h => h)
  refine Rn.enter Try.func15 rfl rfl (Nat.le_of_ble_eq_true rfl) ?_
  refine Rn.seq (Rn.reg (Rn.v rfl rfl rfl rfl (V.as rfl) (Rn.regEnd (Rn.seq (Rn.reg (Rn.v rfl rfl rfl rfl (V.as rfl) (Rn.regEnd (Rn.seq (Rn.seq (Rn.reg (Rn.v rfl rfl rfl rfl (V.as rfl) (Rn.regEnd ?_))))))))))))
  obtain ⟨j1, hj1, hM⟩ := jnE hM
  refine Rn.joinG (r := r) (G := Int) (fun g => [(5, .int .i64 (g))]) (fun g w' => Hp Z0 No w w' [slR A0 c0 T_api_File.rep x0]) (fun g => j1 g) ?_ ?_
  · subst hj1
    clear hM
    rintro y3 w4 hm4 hM
    replace hm4 : Hp Z0 No w w4 [slR A0 c0 T_api_File.rep x0] := hm4
    show Rn _ _ _ _ _ [(5, .int .i64 (y3))] _
    try dsimp only at hM
    refine Rn.seq (Rn.reg (Rn.v rfl rfl rfl rfl (V.mv rfl) (Rn.v rfl rfl rfl rfl (V.as rfl) (Rn.regEnd ?_))))
    refine Rn.retG1 Try.func15 rfl (rvT rfl) ?_
    obtain rfl := someE hM
    exact ⟨rfl, hm4.pick [] rfl (by decide)⟩
  intro hk1
  clear hj1
  refine Rn.block ?_
  refine Rn.loopF (G := Int × Int) (fun g => [(0, .slice A0 (x0).length c0), (1, .int .i64 (x1)), (5, .int .i64 ((g.1))), (6, .int .i64 ((g.2)))]) (fun g w' => Hp Z0 No w w' [slR A0 c0 T_api_File.rep x0]) (fun n g => m_limnographref18_Bulk_L1 x0 x1 j1 n g.1 g.2) fuel (0, 0) (Sub.cons rfl (Sub.cons rfl (Sub.cons rfl (Sub.cons rfl (Sub.nil _))))) (hm2.pick [0] rfl (by decide)) hM (fun _ => rfl) ?_
  clear hM
  rintro m7 ⟨y5, y6⟩ w7 hm7 hM hn7
  replace hm7 : Hp Z0 No w w7 [slR A0 c0 T_api_File.rep x0] := hm7
  show Rn _ _ _ _ _ [(0, .slice A0 (x0).length c0), (1, .int .i64 (x1)), (5, .int .i64 (y5)), (6, .int .i64 (y6))] _
  replace hM : m_limnographref18_Bulk_L1 x0 x1 j1 (m7 + 1) y5 y6 = some r := hM
  rw [m_limnographref18_Bulk_L1] at hM
  refine Rn.seq (Rn.seq (Rn.reg (Rn.v rfl rfl rfl rfl (V.mv rfl) (Rn.v rfl rfl rfl rfl (V.mv rfl) (Rn.v rfl rfl rfl rfl (V.lenV Try.underlying38 rfl) (Rn.v rfl rfl rfl rfl (V.lss rfl rfl) (Rn.v rfl rfl rfl rfl (V.mv rfl) ?_)))))))
  refine Rn.cutR [] [(0, .slice A0 (x0).length c0), (1, .int .i64 (x1)), (5, .int .i64 (y5)), (6, .int .i64 (y6)), (15, .bool (decide ((y6 < (x0.length : Int)) ∧ (y5 ≤ x1))))] (fun hk8 => ?_) ?_
  · refine Rn.partD (t := 11) rfl (fun h9 => ?_) (fun h9 => ?_)
    · refine Rn.v rfl rfl rfl rfl (V.mv rfl) (Rn.v rfl rfl rfl rfl (V.mv rfl) (Rn.v rfl rfl rfl rfl (V.leq rfl rfl) (Rn.v rfl rfl rfl rfl (V.pkT rfl rfl) ?_)))
      refine hk8 _ ?_
      exact Sub.cons rfl (Sub.cons rfl (Sub.cons rfl (Sub.cons rfl (Sub.cons (lkv _ rfl (by first | exact andT h9 | exact andF h9 | exact orT h9 | exact orF h9 | exact nandF h9 | exact nandT h9 | exact norT h9 | exact norF h9 | (simp [h9]; done) | grind)) (Sub.nil _)))))
    · refine Rn.no rfl rfl rfl rfl (Rn.no rfl rfl rfl rfl (Rn.no rfl rfl rfl rfl (Rn.v rfl rfl rfl rfl (V.pkF rfl rfl) ?_)))
      refine hk8 _ ?_
      exact Sub.cons rfl (Sub.cons rfl (Sub.cons rfl (Sub.cons rfl (Sub.cons (lkv _ rfl (by first | exact andT h9 | exact andF h9 | exact orT h9 | exact orF h9 | exact nandF h9 | exact nandT h9 | exact norT h9 | exact norF h9 | (simp [h9]; done) | grind)) (Sub.nil _)))))
  refine Rn.regEnd ?_
  refine Rn.condD rfl (fun h10 => ?_) (fun h10 => ?_)
  · replace hM := iteT h10 hM
    refine Rn.skip (Rn.seq (Rn.block (Rn.reg (Rn.v rfl rfl rfl rfl (V.mv rfl) (Rn.v rfl rfl rfl rfl (V.addW rfl rfl) (Rn.v rfl rfl rfl rfl (V.mv rfl) (Rn.v rfl rfl rfl rfl (V.mv rfl) ?_)))))))
    obtain ⟨z11, e11, hM⟩ := bindE hM
    refine Rn.ixH hm7 0 rfl e11 rfl rfl rfl Try.underlying38 Try.sizeOf63 rfl rfl rfl rfl ?_
    rintro b11 o11 vs11 ⟨_, _, rfl, ⟨rfl, _⟩, ⟨A12, c12, rfl, p12, q12, s12⟩⟩ hm11
    have hm15 : Hp Z0 No w w7 [slR A0 c0 T_api_File.rep x0, rdR b11 o11 [Str (z11.Name), .slice A12 (z11.Data).length c12], slR A12 c12 byteR z11.Data] := Hp.know1 (M := [slR A12 c12 byteR z11.Data]) hm11 (fun _ h => h) (knC (fun _ h => h) ⟨p12, q12, s12⟩ kn0)
    refine Rn.v rfl rfl rfl rfl (V.fa Try.underlying63 rfl Try.sizeOf22 rfl rfl) (Rn.v rfl rfl rfl rfl (V.ldR Try.isAgg22 rfl (hm15.get 1 rfl).2 rfl) (Rn.v rfl rfl rfl rfl (V.lenV Try.underlying22 rfl) (Rn.v rfl rfl rfl rfl (V.mv rfl) (Rn.v rfl rfl rfl rfl (V.addW rfl rfl) (Rn.v rfl rfl rfl rfl (V.mini rfl rfl) (Rn.v rfl rfl rfl rfl (V.addW rfl rfl) (Rn.v rfl rfl rfl rfl (V.as rfl) (Rn.regEnd (Rn.inBlock (Rn.reg (Rn.v rfl rfl rfl rfl (V.mv rfl) (Rn.v rfl rfl rfl rfl (V.addW rfl rfl) (Rn.v rfl rfl rfl rfl (V.as rfl) (Rn.regEnd ?_))))))))))))))
    exact hn7 ((W64 ((W64 (y5 + 1)) + (min (z11.Data.length : Int) (W64 (x1 + 1))))), (W64 (y6 + 1))) _ _ (Sub.cons rfl (Sub.cons rfl (Sub.cons rfl (Sub.cons rfl (Sub.nil _))))) (hm15.pick [0] rfl (by decide)) hM
  · replace hM := iteF h10 hM
    refine Rn.exit rfl ?_
    exact hk1 y5 _ _ (Sub.cons rfl (Sub.nil _)) (hm7.pick [0] rfl (by decide)) hM

set_option maxRecDepth 20000 in
theorem m_limnographref18_Name_sim {Z0 : Nat → Prop} (w : World) (x0 : (List UInt8)) {r : Bool}  (hM : m_limnographref18_Name x0 = some r) :
    Calls Try.prog 38 #[Str (x0)] w fun x w' => x = .returned (.bool (r)) ∧ Hp Z0 No w w' [] := by
  have hm0 := Hp.nil Z0 No w
  have hc0 := Calm.nil
  refine Rn.enter Try.func38 rfl rfl (Nat.le_of_ble_eq_true rfl) ?_
  refine Rn.seq (Rn.reg (Rn.v rfl rfl rfl rfl (V.as rfl) (Rn.regEnd (Rn.seq (Rn.seq (Rn.reg (Rn.v rfl rfl rfl rfl (V.mv rfl) (Rn.v rfl rfl rfl rfl (V.lenS Try.underlying9 rfl) (Rn.v rfl rfl rfl rfl (V.lss rfl rfl) (Rn.v rfl rfl rfl rfl (V.mv rfl) ?_))))))))))
  refine Rn.cutR [] [(0, Str (x0)), (12, .bool (decide (((x0.length : Int) < 1) ∨ ((x0.length : Int) > 32))))] (fun hk1 => ?_) ?_
  · refine Rn.partD (t := 8) rfl (fun h2 => ?_) (fun h2 => ?_)
    · refine Rn.no rfl rfl rfl rfl (Rn.no rfl rfl rfl rfl (Rn.no rfl rfl rfl rfl (Rn.v rfl rfl rfl rfl (V.pkT rfl rfl) ?_)))
      refine hk1 _ ?_
      exact Sub.cons rfl (Sub.cons (lkv _ rfl (by first | exact andT h2 | exact andF h2 | exact orT h2 | exact orF h2 | exact nandF h2 | exact nandT h2 | exact norT h2 | exact norF h2 | (simp [h2]; done) | grind)) (Sub.nil _))
    · refine Rn.v rfl rfl rfl rfl (V.mv rfl) (Rn.v rfl rfl rfl rfl (V.lenS Try.underlying9 rfl) (Rn.v rfl rfl rfl rfl (V.gtr rfl rfl) (Rn.v rfl rfl rfl rfl (V.pkF rfl rfl) ?_)))
      refine hk1 _ ?_
      exact Sub.cons rfl (Sub.cons (lkv _ rfl (by first | exact andT h2 | exact andF h2 | exact orT h2 | exact orF h2 | exact nandF h2 | exact nandT h2 | exact norT h2 | exact norF h2 | (simp [h2]; done) | grind)) (Sub.nil _))
  refine Rn.regEnd ?_
  refine Rn.condD rfl (fun h3 => ?_) (fun h3 => ?_)
  · replace hM := iteT h3 hM
    refine Rn.seq (Rn.reg (Rn.v rfl rfl rfl rfl (V.as rfl) (Rn.regEnd ?_)))
    refine Rn.retG1 Try.func38 rfl (rvT rfl) ?_
    obtain rfl := someE hM
    exact ⟨rfl, hm0.pick [] rfl (by decide)⟩
  · replace hM := iteF h3 hM
    refine Rn.skip (Rn.seq (Rn.seq (Rn.reg (Rn.v rfl rfl rfl rfl (V.as rfl) (Rn.regEnd ?_)))))
    obtain ⟨j1, hj1, hM⟩ := jnE hM
    refine Rn.joinG (r := r) (G := Unit) (fun g => []) (fun g w' => Hp Z0 No w w' []) (fun g => j1 ()) ?_ ?_
    · subst hj1
      clear hM
      rintro _ w4 hm4 hM
      replace hm4 : Hp Z0 No w w4 [] := hm4
      show Rn _ _ _ _ _ [] _
      try dsimp only at hM
      refine Rn.seq (Rn.reg (Rn.v rfl rfl rfl rfl (V.as rfl) (Rn.regEnd ?_)))
      refine Rn.retG1 Try.func38 rfl (rvT rfl) ?_
      obtain rfl := someE hM
      exact ⟨rfl, hm4.pick [] rfl (by decide)⟩
    intro hk1
    clear hj1
    refine Rn.block ?_
    refine Rn.loopF (G := Int) (fun g => [(0, Str (x0)), (3, .int .i64 (g))]) (fun g w' => Hp Z0 No w w' []) (fun n g => m_limnographref18_Name_L1 x0 j1 n g) fuel 0 (Sub.cons rfl (Sub.cons rfl (Sub.nil _))) (hm0.pick [] rfl (by decide)) hM (fun _ => rfl) ?_
    clear hM
    rintro m6 y5 w6 hm6 hM hn6
    replace hm6 : Hp Z0 No w w6 [] := hm6
    show Rn _ _ _ _ _ [(0, Str (x0)), (3, .int .i64 (y5))] _
    replace hM : m_limnographref18_Name_L1 x0 j1 (m6 + 1) y5 = some r := hM
    rw [m_limnographref18_Name_L1] at hM
    refine Rn.seq (Rn.seq (Rn.reg (Rn.v rfl rfl rfl rfl (V.mv rfl) (Rn.v rfl rfl rfl rfl (V.mv rfl) (Rn.v rfl rfl rfl rfl (V.lenS Try.underlying9 rfl) (Rn.v rfl rfl rfl rfl (V.lss rfl rfl) (Rn.regEnd ?_)))))))
    refine Rn.condD rfl (fun h7 => ?_) (fun h7 => ?_)
    · replace hM := iteT h7 hM
      refine Rn.skip (Rn.seq (Rn.block (Rn.seq (Rn.reg (Rn.v rfl rfl rfl rfl (V.mv rfl) (Rn.v rfl rfl rfl rfl (V.mv rfl) ?_))))))
      obtain ⟨z8, e8, hM⟩ := bindE hM
      refine Rn.v rfl rfl rfl rfl (V.idxSZ Try.underlying9 rfl rfl e8) (Rn.v rfl rfl rfl rfl (V.as rfl) (Rn.regEnd (Rn.seq (Rn.reg (Rn.v rfl rfl rfl rfl (V.mv rfl) (Rn.v rfl rfl rfl rfl (V.geq rfl rfl) (Rn.v rfl rfl rfl rfl (V.mv rfl) ?_)))))))
      refine Rn.cutR [6, 7, 8, 9, 10, 11, 12, 13, 14, 15, 16, 17, 18, 19, 20, 21, 22, 23] [(0, Str (x0)), (3, .int .i64 (y5)), (4, .int .u8 (((z8).toNat : Nat) : Int)), (27, .bool (decide ((((z8).toNat : Int) ≥ 97) ∧ (((z8).toNat : Int) ≤ 122))))] (fun hk9 => ?_) ?_
      · refine Rn.partD (t := 24) rfl (fun h10 => ?_) (fun h10 => ?_)
        · refine Rn.v rfl rfl rfl rfl (V.mv rfl) (Rn.v rfl rfl rfl rfl (V.leq rfl rfl) (Rn.v rfl rfl rfl rfl (V.pkT rfl rfl) ?_))
          refine hk9 _ ?_
          exact Sub.cons rfl (Sub.cons rfl (Sub.cons rfl (Sub.cons (lkv _ rfl (by first | exact andT h10 | exact andF h10 | exact orT h10 | exact orF h10 | exact nandF h10 | exact nandT h10 | exact norT h10 | exact norF h10 | (simp [h10]; done) | grind)) (Sub.nil _))))
        · refine Rn.no rfl rfl rfl rfl (Rn.no rfl rfl rfl rfl (Rn.v rfl rfl rfl rfl (V.pkF rfl rfl) ?_))
          refine hk9 _ ?_
          exact Sub.cons rfl (Sub.cons rfl (Sub.cons rfl (Sub.cons (lkv _ rfl (by first | exact andT h10 | exact andF h10 | exact orT h10 | exact orF h10 | exact nandF h10 | exact nandT h10 | exact norT h10 | exact norF h10 | (simp [h10]; done) | grind)) (Sub.nil _))))
      refine Rn.v rfl rfl rfl rfl (V.notD rfl) (Rn.v rfl rfl rfl rfl (V.mv rfl) ?_)
      refine Rn.cutR [16, 17, 18, 19, 20, 21, 22, 23] [(0, Str (x0)), (3, .int .i64 (y5)), (4, .int .u8 (((z8).toNat : Nat) : Int)), (37, .bool (decide ((¬ ((((z8).toNat : Int) ≥ 97) ∧ (((z8).toNat : Int) ≤ 122))) ∧ (¬ ((((z8).toNat : Int) ≥ 48) ∧ (((z8).toNat : Int) ≤ 57))))))] (fun hk11 => ?_) ?_
      · refine Rn.partD (t := 29) rfl (fun h12 => ?_) (fun h12 => ?_)
        · refine Rn.v rfl rfl rfl rfl (V.mv rfl) (Rn.v rfl rfl rfl rfl (V.geq rfl rfl) (Rn.v rfl rfl rfl rfl (V.mv rfl) ?_))
          refine Rn.cutR [14, 15, 16, 17, 18, 19, 20, 21, 22, 23] [(0, Str (x0)), (3, .int .i64 (y5)), (4, .int .u8 (((z8).toNat : Nat) : Int)), (29, .bool true), (35, .bool (decide ((((z8).toNat : Int) ≥ 48) ∧ (((z8).toNat : Int) ≤ 57))))] (fun hk13 => ?_) ?_
          · refine Rn.partD (t := 32) rfl (fun h14 => ?_) (fun h14 => ?_)
            · refine Rn.v rfl rfl rfl rfl (V.mv rfl) (Rn.v rfl rfl rfl rfl (V.leq rfl rfl) (Rn.v rfl rfl rfl rfl (V.pkT rfl rfl) ?_))
              refine hk13 _ ?_
              exact Sub.cons rfl (Sub.cons rfl (Sub.cons rfl (Sub.cons rfl (Sub.cons (lkv _ rfl (by first | exact andT h14 | exact andF h14 | exact orT h14 | exact orF h14 | exact nandF h14 | exact nandT h14 | exact norT h14 | exact norF h14 | (simp [h14]; done) | grind)) (Sub.nil _)))))
            · refine Rn.no rfl rfl rfl rfl (Rn.no rfl rfl rfl rfl (Rn.v rfl rfl rfl rfl (V.pkF rfl rfl) ?_))
              refine hk13 _ ?_
              exact Sub.cons rfl (Sub.cons rfl (Sub.cons rfl (Sub.cons rfl (Sub.cons (lkv _ rfl (by first | exact andT h14 | exact andF h14 | exact orT h14 | exact orF h14 | exact nandF h14 | exact nandT h14 | exact norT h14 | exact norF h14 | (simp [h14]; done) | grind)) (Sub.nil _)))))
          refine Rn.v rfl rfl rfl rfl (V.notD rfl) (Rn.v rfl rfl rfl rfl (V.pkT rfl rfl) ?_)
          refine hk11 _ ?_
          exact Sub.cons rfl (Sub.cons rfl (Sub.cons rfl (Sub.cons (lkv _ rfl (by first | exact andT h12 | exact andF h12 | exact orT h12 | exact orF h12 | exact nandF h12 | exact nandT h12 | exact norT h12 | exact norF h12 | (simp [h12]; done) | grind)) (Sub.nil _))))
        · refine Rn.no rfl rfl rfl rfl (Rn.no rfl rfl rfl rfl (Rn.no rfl rfl rfl rfl (Rn.no rfl rfl rfl rfl (Rn.no rfl rfl rfl rfl (Rn.no rfl rfl rfl rfl (Rn.no rfl rfl rfl rfl (Rn.v rfl rfl rfl rfl (V.pkF rfl rfl) ?_)))))))
          refine hk11 _ ?_
          exact Sub.cons rfl (Sub.cons rfl (Sub.cons rfl (Sub.cons (lkv _ rfl (by first | exact andT h12 | exact andF h12 | exact orT h12 | exact orF h12 | exact nandF h12 | exact nandT h12 | exact norT h12 | exact norF h12 | (simp [h12]; done) | grind)) (Sub.nil _))))
      refine Rn.v rfl rfl rfl rfl (V.mv rfl) ?_
      refine Rn.cutR [20, 21, 22, 23] [(0, Str (x0)), (3, .int .i64 (y5)), (4, .int .u8 (((z8).toNat : Nat) : Int)), (41, .bool (decide (((¬ ((((z8).toNat : Int) ≥ 97) ∧ (((z8).toNat : Int) ≤ 122))) ∧ (¬ ((((z8).toNat : Int) ≥ 48) ∧ (((z8).toNat : Int) ≤ 57)))) ∧ (((z8).toNat : Int) ≠ 46))))] (fun hk15 => ?_) ?_
      · refine Rn.partD (t := 38) rfl (fun h16 => ?_) (fun h16 => ?_)
        · refine Rn.v rfl rfl rfl rfl (V.mv rfl) (Rn.v rfl rfl rfl rfl (V.neq rfl rfl) (Rn.v rfl rfl rfl rfl (V.pkT rfl rfl) ?_))
          refine hk15 _ ?_
          exact Sub.cons rfl (Sub.cons rfl (Sub.cons rfl (Sub.cons (lkv _ rfl (by first | exact andT h16 | exact andF h16 | exact orT h16 | exact orF h16 | exact nandF h16 | exact nandT h16 | exact norT h16 | exact norF h16 | (simp [h16]; done) | grind)) (Sub.nil _))))
        · refine Rn.no rfl rfl rfl rfl (Rn.no rfl rfl rfl rfl (Rn.v rfl rfl rfl rfl (V.pkF rfl rfl) ?_))
          refine hk15 _ ?_
          exact Sub.cons rfl (Sub.cons rfl (Sub.cons rfl (Sub.cons (lkv _ rfl (by first | exact andT h16 | exact andF h16 | exact orT h16 | exact orF h16 | exact nandF h16 | exact nandT h16 | exact norT h16 | exact norF h16 | (simp [h16]; done) | grind)) (Sub.nil _))))
      refine Rn.v rfl rfl rfl rfl (V.mv rfl) ?_
      refine Rn.cutR [] [(0, Str (x0)), (3, .int .i64 (y5)), (45, .bool (decide ((((¬ ((((z8).toNat : Int) ≥ 97) ∧ (((z8).toNat : Int) ≤ 122))) ∧ (¬ ((((z8).toNat : Int) ≥ 48) ∧ (((z8).toNat : Int) ≤ 57)))) ∧ (((z8).toNat : Int) ≠ 46)) ∧ (((z8).toNat : Int) ≠ 45))))] (fun hk17 => ?_) ?_
      · refine Rn.partD (t := 42) rfl (fun h18 => ?_) (fun h18 => ?_)
        · refine Rn.v rfl rfl rfl rfl (V.mv rfl) (Rn.v rfl rfl rfl rfl (V.neq rfl rfl) (Rn.v rfl rfl rfl rfl (V.pkT rfl rfl) ?_))
          refine hk17 _ ?_
          exact Sub.cons rfl (Sub.cons rfl (Sub.cons (lkv _ rfl (by first | exact andT h18 | exact andF h18 | exact orT h18 | exact orF h18 | exact nandF h18 | exact nandT h18 | exact norT h18 | exact norF h18 | (simp [h18]; done) | grind)) (Sub.nil _)))
        · refine Rn.no rfl rfl rfl rfl (Rn.no rfl rfl rfl rfl (Rn.v rfl rfl rfl rfl (V.pkF rfl rfl) ?_))
          refine hk17 _ ?_
          exact Sub.cons rfl (Sub.cons rfl (Sub.cons (lkv _ rfl (by first | exact andT h18 | exact andF h18 | exact orT h18 | exact orF h18 | exact nandF h18 | exact nandT h18 | exact norT h18 | exact norF h18 | (simp [h18]; done) | grind)) (Sub.nil _)))
      refine Rn.regEnd ?_
      refine Rn.condD rfl (fun h19 => ?_) (fun h19 => ?_)
      · replace hM := iteT h19 hM
        refine Rn.seq (Rn.reg (Rn.v rfl rfl rfl rfl (V.as rfl) (Rn.regEnd ?_)))
        refine Rn.retG1 Try.func38 rfl (rvT rfl) ?_
        obtain rfl := someE hM
        exact ⟨rfl, hm6.pick [] rfl (by decide)⟩
      · replace hM := iteF h19 hM
        refine Rn.skip (Rn.inBlock (Rn.reg (Rn.v rfl rfl rfl rfl (V.mv rfl) (Rn.v rfl rfl rfl rfl (V.addW rfl rfl) (Rn.v rfl rfl rfl rfl (V.as rfl) (Rn.regEnd ?_))))))
        exact hn6 (W64 (y5 + 1)) _ _ (Sub.cons rfl (Sub.cons rfl (Sub.nil _))) (hm6.pick [] rfl (by decide)) hM
    · replace hM := iteF h7 hM
      refine Rn.exit rfl ?_
      exact hk1 () _ _ (Sub.nil _) (hm6.pick [] rfl (by decide)) hM

set_option maxRecDepth 20000 in
theorem m_limnographref18_Disk_Find_sim {Z0 : Nat → Prop} (w : World) (F0 : Nat → Prop) (b0 : Nat) (x0 : T_limnographref18_Disk) (x1 : (List UInt8)) {r : Int} (f0 : (fzR (T_limnographref18_Disk.obj F0 b0 x0)).H Z0 w) (hM : m_limnographref18_Disk_Find x0 x1 = some r) :
    Calls Try.prog 39 #[.pointer (some ⟨b0, 0, none⟩), Str (x1)] w fun x w' => x = .returned (.int .i64 (r)) ∧ Hp Z0 No w w' [] := by
  have hm0 := Hp.nil Z0 No w
  have hc0 := Calm.nil
  have hm2 := hm0.know (fzR (T_limnographref18_Disk.obj F0 b0 x0)) (fun _ h => h) (hm0.in0 hc0 f0)
  replace hc0 := hc0.snoc (r := fzR (T_limnographref18_Disk.obj F0 b0 x0)) (fun _ h => h)
  refine Rn.enter Try.func39 rfl rfl (Nat.le_of_ble_eq_true rfl) ?_
  refine Rn.seq (Rn.reg (Rn.v rfl rfl rfl rfl (V.as rfl) (Rn.regEnd (Rn.seq (Rn.seq (Rn.reg (Rn.v rfl rfl rfl rfl (V.as rfl) (Rn.regEnd ?_))))))))
  obtain ⟨j1, hj1, hM⟩ := jnE hM
  refine Rn.joinG (r := r) (G := Unit) (fun g => []) (fun g w' => Hp Z0 No w w' [fzR (T_limnographref18_Disk.obj F0 b0 x0)]) (fun g => j1 ()) ?_ ?_
  · subst hj1
    clear hM
    rintro _ w3 hm3 hM
    replace hm3 : Hp Z0 No w w3 [fzR (T_limnographref18_Disk.obj F0 b0 x0)] := hm3
    show Rn _ _ _ _ _ [] _
    try dsimp only at hM
    refine Rn.seq (Rn.reg (Rn.v rfl rfl rfl rfl (V.as rfl) (Rn.regEnd ?_)))
    refine Rn.retG1 Try.func39 rfl (rvT rfl) ?_
    obtain rfl := someE hM
    exact ⟨rfl, hm3.pick [] rfl (by decide)⟩
  intro hk1
  clear hj1
  refine Rn.block ?_
  refine Rn.loopF (G := Int) (fun g => [(0, .pointer (some ⟨b0, 0, none⟩)), (1, Str (x1)), (5, .int .i64 (g))]) (fun g w' => Hp Z0 No w w' [fzR (T_limnographref18_Disk.obj F0 b0 x0)]) (fun n g => m_limnographref18_Disk_Find_L1 x0 x1 j1 n g) fuel 0 (Sub.cons rfl (Sub.cons rfl (Sub.cons rfl (Sub.nil _)))) (hm2.pick [0] rfl (by decide)) hM (fun _ => rfl) ?_
  clear hM
  rintro m5 y4 w5 hm5 hM hn5
  replace hm5 : Hp Z0 No w w5 [fzR (T_limnographref18_Disk.obj F0 b0 x0)] := hm5
  show Rn _ _ _ _ _ [(0, .pointer (some ⟨b0, 0, none⟩)), (1, Str (x1)), (5, .int .i64 (y4))] _
  replace hM : m_limnographref18_Disk_Find_L1 x0 x1 j1 (m5 + 1) y4 = some r := hM
  rw [m_limnographref18_Disk_Find_L1] at hM
  refine Rn.seq (Rn.seq (Rn.reg (Rn.v rfl rfl rfl rfl (V.mv rfl) (Rn.v rfl rfl rfl rfl (V.mv rfl) (Rn.v rfl rfl rfl rfl (V.nil rfl) (Rn.v rfl rfl rfl rfl (V.fa Try.underlying52 rfl Try.sizeOf50 rfl rfl) ?_))))))
  obtain ⟨_, ⟨A6_0, c6_0, rfl⟩, hm6⟩ := hm5.unfz 0 rfl
  replace hm6 : Hp Z0 No w w5 [fzR (T_limnographref18_Disk.obj F0 b0 x0), fzR (boxR b0 52 [.slice A6_0 (x0.L).length c6_0, .int .i64 (x0.Capacity), .bool (x0.Down), .int .i64 (x0.Calls), .int .i64 (x0.Fail), .int .i64 (x0.Crash), .int .i64 (x0.Err)]), fzR (ownR 87 A6_0 c6_0 T_limnographref18_File.rep x0.L)] := hm6
  have hm10 := hm6.fzSl 2 rfl
  refine Rn.v rfl rfl rfl rfl (V.ldB Try.isAgg50 rfl (hm10.getz 1 rfl) rfl) (Rn.v rfl rfl rfl rfl (V.lenV Try.underlying50 rfl) (Rn.v rfl rfl rfl rfl (V.lss rfl rfl) (Rn.regEnd ?_)))
  refine Rn.condD rfl (fun h11 => ?_) (fun h11 => ?_)
  · replace hM := iteT h11 hM
    refine Rn.skip (Rn.seq (Rn.block (Rn.seq (Rn.reg (Rn.v rfl rfl rfl rfl (V.mv rfl) (Rn.v rfl rfl rfl rfl (V.nil rfl) (Rn.v rfl rfl rfl rfl (V.fa Try.underlying52 rfl Try.sizeOf50 rfl rfl) (Rn.v rfl rfl rfl rfl (V.ldB Try.isAgg50 rfl (hm10.getz 1 rfl) rfl) (Rn.v rfl rfl rfl rfl (V.mv rfl) ?_)))))))))
    obtain ⟨z12, e12, hM⟩ := bindE hM
    refine Rn.ixH hm10 3 rfl e12 rfl rfl rfl Try.underlying50 Try.sizeOf87 rfl rfl rfl rfl ?_
    rintro b12 o12 vs12 ⟨_, _, rfl, ⟨rfl, _⟩, ⟨_, _, rfl, ⟨A13, c13, rfl, p13, q13, s13⟩, ⟨rfl, _⟩⟩⟩ hm12
    have hm16 : Hp Z0 No w w5 [fzR (T_limnographref18_Disk.obj F0 b0 x0), fzR (boxR b0 52 [.slice A6_0 (x0.L).length c6_0, .int .i64 (x0.Capacity), .bool (x0.Down), .int .i64 (x0.Calls), .int .i64 (x0.Fail), .int .i64 (x0.Crash), .int .i64 (x0.Err)]), fzR (ownR 87 A6_0 c6_0 T_limnographref18_File.rep x0.L), slR A6_0 c6_0 T_limnographref18_File.rep x0.L, rdR b12 o12 [Str (z12.Name), .slice A13 (z12.Data).length c13, .int .i64 (z12.Sure)], slR A13 c13 byteR z12.Data] := Hp.know1 (M := [slR A13 c13 byteR z12.Data]) hm12 (fun _ h => h) (knC (fun _ h => h) ⟨p13, q13, s13⟩ kn0)
    refine Rn.v rfl rfl rfl rfl (V.fa Try.underlying87 rfl Try.sizeOf9 rfl rfl) (Rn.v rfl rfl rfl rfl (V.ldR0 Try.isAgg9 rfl (hm16.get 4 rfl).2 rfl) (Rn.v rfl rfl rfl rfl (V.mv rfl) (Rn.v rfl rfl rfl rfl (V.eqlS rfl rfl) (Rn.regEnd ?_))))
    refine Rn.condD rfl (fun h17 => ?_) (fun h17 => ?_)
    · replace hM := iteT h17 hM
      refine Rn.seq (Rn.reg (Rn.v rfl rfl rfl rfl (V.mv rfl) (Rn.v rfl rfl rfl rfl (V.as rfl) (Rn.regEnd ?_))))
      refine Rn.retG1 Try.func39 rfl (rvT rfl) ?_
      obtain rfl := someE hM
      exact ⟨rfl, hm16.pick [] rfl (by decide)⟩
    · replace hM := iteF h17 hM
      refine Rn.skip (Rn.inBlock (Rn.reg (Rn.v rfl rfl rfl rfl (V.mv rfl) (Rn.v rfl rfl rfl rfl (V.addW rfl rfl) (Rn.v rfl rfl rfl rfl (V.as rfl) (Rn.regEnd ?_))))))
      exact hn5 (W64 (y4 + 1)) _ _ (Sub.cons rfl (Sub.cons rfl (Sub.cons rfl (Sub.nil _)))) (hm16.pick [0] rfl (by decide)) hM
  · replace hM := iteF h11 hM
    refine Rn.exit rfl ?_
    exact hk1 () _ _ (Sub.nil _) (hm10.pick [0] rfl (by decide)) hM

set_option maxRecDepth 20000 in
theorem m_limnographref18_Disk_Used_sim {Z0 : Nat → Prop} (w : World) (F0 : Nat → Prop) (b0 : Nat) (x0 : T_limnographref18_Disk) {r : Int} (f0 : (fzR (T_limnographref18_Disk.obj F0 b0 x0)).H Z0 w) (hM : m_limnographref18_Disk_Used x0 = some r) :
    Calls Try.prog 40 #[.pointer (some ⟨b0, 0, none⟩)] w fun x w' => x = .returned (.int .i64 (r)) ∧ Hp Z0 No w w' [] := by
  have hm0 := Hp.nil Z0 No w
  have hc0 := Calm.nil
  have hm2 := hm0.know (fzR (T_limnographref18_Disk.obj F0 b0 x0)) (fun _ h => h) (hm0.in0 hc0 f0)
  replace hc0 := hc0.snoc (r := fzR (T_limnographref18_Disk.obj F0 b0 x0)) (fun _ h => h)
  refine Rn.enter Try.func40 rfl rfl (Nat.le_of_ble_eq_true rfl) ?_
  refine Rn.seq (Rn.reg (Rn.v rfl rfl rfl rfl (V.as rfl) (Rn.regEnd (Rn.seq (Rn.reg (Rn.v rfl rfl rfl rfl (V.as rfl) (Rn.regEnd (Rn.seq (Rn.seq (Rn.reg (Rn.v rfl rfl rfl rfl (V.as rfl) (Rn.regEnd ?_))))))))))))
  obtain ⟨j1, hj1, hM⟩ := jnE hM
  refine Rn.joinG (r := r) (G := Int) (fun g => [(3, .int .i64 (g))]) (fun g w' => Hp Z0 No w w' [fzR (T_limnographref18_Disk.obj F0 b0 x0)]) (fun g => j1 g) ?_ ?_
  · subst hj1
    clear hM
    rintro y3 w4 hm4 hM
    replace hm4 : Hp Z0 No w w4 [fzR (T_limnographref18_Disk.obj F0 b0 x0)] := hm4
    show Rn _ _ _ _ _ [(3, .int .i64 (y3))] _
    try dsimp only at hM
    refine Rn.seq (Rn.reg (Rn.v rfl rfl rfl rfl (V.mv rfl) (Rn.v rfl rfl rfl rfl (V.as rfl) (Rn.regEnd ?_))))
    refine Rn.retG1 Try.func40 rfl (rvT rfl) ?_
    obtain rfl := someE hM
    exact ⟨rfl, hm4.pick [] rfl (by decide)⟩
  intro hk1
  clear hj1
  refine Rn.block ?_
  refine Rn.loopF (G := Int × Int) (fun g => [(0, .pointer (some ⟨b0, 0, none⟩)), (3, .int .i64 ((g.1))), (4, .int .i64 ((g.2)))]) (fun g w' => Hp Z0 No w w' [fzR (T_limnographref18_Disk.obj F0 b0 x0)]) (fun n g => m_limnographref18_Disk_Used_L1 x0 j1 n g.1 g.2) fuel (0, 0) (Sub.cons rfl (Sub.cons rfl (Sub.cons rfl (Sub.nil _)))) (hm2.pick [0] rfl (by decide)) hM (fun _ => rfl) ?_
  clear hM
  rintro m7 ⟨y5, y6⟩ w7 hm7 hM hn7
  replace hm7 : Hp Z0 No w w7 [fzR (T_limnographref18_Disk.obj F0 b0 x0)] := hm7
  show Rn _ _ _ _ _ [(0, .pointer (some ⟨b0, 0, none⟩)), (3, .int .i64 (y5)), (4, .int .i64 (y6))] _
  replace hM : m_limnographref18_Disk_Used_L1 x0 j1 (m7 + 1) y5 y6 = some r := hM
  rw [m_limnographref18_Disk_Used_L1] at hM
  refine Rn.seq (Rn.seq (Rn.reg (Rn.v rfl rfl rfl rfl (V.mv rfl) (Rn.v rfl rfl rfl rfl (V.mv rfl) (Rn.v rfl rfl rfl rfl (V.nil rfl) (Rn.v rfl rfl rfl rfl (V.fa Try.underlying52 rfl Try.sizeOf50 rfl rfl) ?_))))))
  obtain ⟨_, ⟨A8_0, c8_0, rfl⟩, hm8⟩ := hm7.unfz 0 rfl
  replace hm8 : Hp Z0 No w w7 [fzR (T_limnographref18_Disk.obj F0 b0 x0), fzR (boxR b0 52 [.slice A8_0 (x0.L).length c8_0, .int .i64 (x0.Capacity), .bool (x0.Down), .int .i64 (x0.Calls), .int .i64 (x0.Fail), .int .i64 (x0.Crash), .int .i64 (x0.Err)]), fzR (ownR 87 A8_0 c8_0 T_limnographref18_File.rep x0.L)] := hm8
  have hm12 := hm8.fzSl 2 rfl
  refine Rn.v rfl rfl rfl rfl (V.ldB Try.isAgg50 rfl (hm12.getz 1 rfl) rfl) (Rn.v rfl rfl rfl rfl (V.lenV Try.underlying50 rfl) (Rn.v rfl rfl rfl rfl (V.lss rfl rfl) (Rn.regEnd ?_)))
  refine Rn.condD rfl (fun h13 => ?_) (fun h13 => ?_)
  · replace hM := iteT h13 hM
    refine Rn.skip (Rn.seq (Rn.block (Rn.reg (Rn.v rfl rfl rfl rfl (V.mv rfl) (Rn.v rfl rfl rfl rfl (V.mv rfl) (Rn.v rfl rfl rfl rfl (V.nil rfl) (Rn.v rfl rfl rfl rfl (V.fa Try.underlying52 rfl Try.sizeOf50 rfl rfl) (Rn.v rfl rfl rfl rfl (V.ldB Try.isAgg50 rfl (hm12.getz 1 rfl) rfl) (Rn.v rfl rfl rfl rfl (V.mv rfl) ?_)))))))))
    obtain ⟨z14, e14, hM⟩ := bindE hM
    refine Rn.ixH hm12 3 rfl e14 rfl rfl rfl Try.underlying50 Try.sizeOf87 rfl rfl rfl rfl ?_
    rintro b14 o14 vs14 ⟨_, _, rfl, ⟨rfl, _⟩, ⟨_, _, rfl, ⟨A15, c15, rfl, p15, q15, s15⟩, ⟨rfl, _⟩⟩⟩ hm14
    have hm18 : Hp Z0 No w w7 [fzR (T_limnographref18_Disk.obj F0 b0 x0), fzR (boxR b0 52 [.slice A8_0 (x0.L).length c8_0, .int .i64 (x0.Capacity), .bool (x0.Down), .int .i64 (x0.Calls), .int .i64 (x0.Fail), .int .i64 (x0.Crash), .int .i64 (x0.Err)]), fzR (ownR 87 A8_0 c8_0 T_limnographref18_File.rep x0.L), slR A8_0 c8_0 T_limnographref18_File.rep x0.L, rdR b14 o14 [Str (z14.Name), .slice A15 (z14.Data).length c15, .int .i64 (z14.Sure)], slR A15 c15 byteR z14.Data] := Hp.know1 (M := [slR A15 c15 byteR z14.Data]) hm14 (fun _ h => h) (knC (fun _ h => h) ⟨p15, q15, s15⟩ kn0)
    refine Rn.v rfl rfl rfl rfl (V.fa Try.underlying87 rfl Try.sizeOf22 rfl rfl) (Rn.v rfl rfl rfl rfl (V.ldR Try.isAgg22 rfl (hm18.get 4 rfl).2 rfl) (Rn.v rfl rfl rfl rfl (V.lenV Try.underlying22 rfl) (Rn.v rfl rfl rfl rfl (V.addW rfl rfl) (Rn.v rfl rfl rfl rfl (V.as rfl) (Rn.regEnd (Rn.inBlock (Rn.reg (Rn.v rfl rfl rfl rfl (V.mv rfl) (Rn.v rfl rfl rfl rfl (V.addW rfl rfl) (Rn.v rfl rfl rfl rfl (V.as rfl) (Rn.regEnd ?_)))))))))))
    exact hn7 ((W64 (y5 + (z14.Data.length : Int))), (W64 (y6 + 1))) _ _ (Sub.cons rfl (Sub.cons rfl (Sub.cons rfl (Sub.nil _)))) (hm18.pick [0] rfl (by decide)) hM
  · replace hM := iteF h13 hM
    refine Rn.exit rfl ?_
    exact hk1 y5 _ _ (Sub.cons rfl (Sub.nil _)) (hm12.pick [0] rfl (by decide)) hM

set_option maxRecDepth 20000 in
theorem m_limnographref18_Disk_without_sim {Z0 : Nat → Prop} (w : World) (F0 : Nat → Prop) (b0 : Nat) (x0 : T_limnographref18_Disk) (x1 : (List UInt8)) {r : (List T_limnographref18_File)} (hL : Lent Z0 w [T_limnographref18_Disk.obj F0 b0 x0]) (hM : m_limnographref18_Disk_without x0 x1 = some r) :
    Calls Try.prog 57 #[.pointer (some ⟨b0, 0, none⟩), Str (x1)] w fun x w' => ∃ A_0_0 c_0_0 F_p0, x = .returned (.slice A_0_0 (r).length c_0_0) ∧ Hp Z0 (LS [T_limnographref18_Disk.obj F0 b0 x0]) w w' [ownR 87 A_0_0 c_0_0 T_limnographref18_File.rep r, T_limnographref18_Disk.obj F_p0 b0 x0] := by
  have hm0 := hL.start
  refine Rn.enter Try.func57 rfl rfl (Nat.le_of_ble_eq_true rfl) ?_
  refine Rn.seq (Rn.reg (Rn.v rfl rfl rfl rfl (V.as rfl) (Rn.regEnd (Rn.seq (Rn.reg (Rn.v rfl rfl rfl rfl (V.as rfl) (Rn.regEnd (Rn.seq (Rn.seq (Rn.reg (Rn.v rfl rfl rfl rfl (V.as rfl) (Rn.regEnd ?_))))))))))))
  obtain ⟨j1, hj1, hM⟩ := jnE hM
  refine Rn.joinG (r := r) (G := (List T_limnographref18_File) × (Nat → Prop) × Option Addr × Nat) (fun g => [(5, .slice (g.2.2.1) ((g.1)).length (g.2.2.2))]) (fun g w' => Hp Z0 (LS [T_limnographref18_Disk.obj F0 b0 x0]) w w' [T_limnographref18_Disk.obj (g.2.1) b0 x0, ownR 87 (g.2.2.1) (g.2.2.2) T_limnographref18_File.rep (g.1)]) (fun g => j1 g.1) ?_ ?_
  · subst hj1
    clear hM
    rintro ⟨y3, F2, A4, c4⟩ w6 hm6 hM
    replace hm6 : Hp Z0 (LS [T_limnographref18_Disk.obj F0 b0 x0]) w w6 [T_limnographref18_Disk.obj F2 b0 x0, ownR 87 A4 c4 T_limnographref18_File.rep y3] := hm6
    show Rn _ _ _ _ _ [(5, .slice A4 (y3).length c4)] _
    try dsimp only at hM
    refine Rn.seq (Rn.reg (Rn.v rfl rfl rfl rfl (V.mv rfl) (Rn.v rfl rfl rfl rfl (V.as rfl) (Rn.regEnd ?_))))
    refine Rn.retG1 Try.func57 rfl (rvT rfl) ?_
    obtain rfl := someE hM
    exact ⟨A4, c4, F2, rfl, hm6.pick [1, 0] rfl (by decide)⟩
  intro hk1
  clear hj1
  refine Rn.block ?_
  have hm12 := hm0.addNil 87 T_limnographref18_File.rep
  refine Rn.loopF (G := (List T_limnographref18_File) × Int × (Nat → Prop) × Option Addr × Nat) (fun g => [(0, .pointer (some ⟨b0, 0, none⟩)), (1, Str (x1)), (5, .slice (g.2.2.2.1) ((g.1)).length (g.2.2.2.2)), (6, .int .i64 ((g.2.1)))]) (fun g w' => Hp Z0 (LS [T_limnographref18_Disk.obj F0 b0 x0]) w w' [T_limnographref18_Disk.obj (g.2.2.1) b0 x0, ownR 87 (g.2.2.2.1) (g.2.2.2.2) T_limnographref18_File.rep (g.1)]) (fun n g => m_limnographref18_Disk_without_L1 x0 x1 j1 n g.1 g.2.1) fuel (([] : List T_limnographref18_File), 0, F0, none, 0) (Sub.cons rfl (Sub.cons rfl (Sub.cons rfl (Sub.cons rfl (Sub.nil _))))) (hm12.pick [0, 1] rfl (by decide)) hM (fun _ => rfl) ?_
  clear hM
  rintro m14 ⟨y8, y11, F7, A9, c9⟩ w14 hm14 hM hn14
  replace hm14 : Hp Z0 (LS [T_limnographref18_Disk.obj F0 b0 x0]) w w14 [T_limnographref18_Disk.obj F7 b0 x0, ownR 87 A9 c9 T_limnographref18_File.rep y8] := hm14
  show Rn _ _ _ _ _ [(0, .pointer (some ⟨b0, 0, none⟩)), (1, Str (x1)), (5, .slice A9 (y8).length c9), (6, .int .i64 (y11))] _
  replace hM : m_limnographref18_Disk_without_L1 x0 x1 j1 (m14 + 1) y8 y11 = some r := hM
  rw [m_limnographref18_Disk_without_L1] at hM
  refine Rn.seq (Rn.seq (Rn.reg (Rn.v rfl rfl rfl rfl (V.mv rfl) (Rn.v rfl rfl rfl rfl (V.mv rfl) (Rn.v rfl rfl rfl rfl (V.nil rfl) (Rn.v rfl rfl rfl rfl (V.fa Try.underlying52 rfl Try.sizeOf50 rfl rfl) ?_))))))
  obtain ⟨_, ⟨A15_0, c15_0, rfl⟩, hm15⟩ := hm14.unf 0 rfl
  replace hm15 : Hp Z0 (LS [T_limnographref18_Disk.obj F0 b0 x0]) w w14 [ownR 87 A9 c9 T_limnographref18_File.rep y8, boxR b0 52 [.slice A15_0 (x0.L).length c15_0, .int .i64 (x0.Capacity), .bool (x0.Down), .int .i64 (x0.Calls), .int .i64 (x0.Fail), .int .i64 (x0.Crash), .int .i64 (x0.Err)], ownR 87 A15_0 c15_0 T_limnographref18_File.rep x0.L] := hm15
  refine Rn.v rfl rfl rfl rfl (V.ldB Try.isAgg50 rfl (hm15.get 1 rfl) rfl) (Rn.v rfl rfl rfl rfl (V.lenV Try.underlying50 rfl) (Rn.v rfl rfl rfl rfl (V.lss rfl rfl) (Rn.regEnd ?_)))
  refine Rn.condD rfl (fun h17 => ?_) (fun h17 => ?_)
  · replace hM := iteT h17 hM
    refine Rn.skip (Rn.seq ?_)
    have hm19 : Hp Z0 (LS [T_limnographref18_Disk.obj F0 b0 x0]) w w14 ([ownR 87 A9 c9 T_limnographref18_File.rep y8] ++ [boxR b0 52 [.slice A15_0 (x0.L).length c15_0, .int .i64 (x0.Capacity), .bool (x0.Down), .int .i64 (x0.Calls), .int .i64 (x0.Fail), .int .i64 (x0.Crash), .int .i64 (x0.Err)], ownR 87 A15_0 c15_0 T_limnographref18_File.rep x0.L]) := hm15.pick [0, 1, 2] rfl (by decide)
    obtain ⟨F18, hm18⟩ := hm19.fold (T_limnographref18_Disk.sh b0 x0) ⟨A15_0, c15_0, rfl⟩
    replace hm18 : Hp Z0 (LS [T_limnographref18_Disk.obj F0 b0 x0]) w w14 [ownR 87 A9 c9 T_limnographref18_File.rep y8, T_limnographref18_Disk.obj F18 b0 x0] := hm18
    obtain ⟨j2, hj2, hM⟩ := jnE hM
    refine Rn.joinG (r := r) (G := (List T_limnographref18_File) × (Nat → Prop) × Option Addr × Nat) (fun g => [(0, .pointer (some ⟨b0, 0, none⟩)), (1, Str (x1)), (5, .slice (g.2.2.1) ((g.1)).length (g.2.2.2)), (6, .int .i64 (y11))]) (fun g w' => Hp Z0 (LS [T_limnographref18_Disk.obj F0 b0 x0]) w w' [T_limnographref18_Disk.obj (g.2.1) b0 x0, ownR 87 (g.2.2.1) (g.2.2.2) T_limnographref18_File.rep (g.1)]) (fun g => j2 g.1) ?_ ?_
    · subst hj2
      clear hM
      rintro ⟨y21, F20, A22, c22⟩ w24 hm24 hM
      replace hm24 : Hp Z0 (LS [T_limnographref18_Disk.obj F0 b0 x0]) w w24 [T_limnographref18_Disk.obj F20 b0 x0, ownR 87 A22 c22 T_limnographref18_File.rep y21] := hm24
      show Rn _ _ _ _ _ [(0, .pointer (some ⟨b0, 0, none⟩)), (1, Str (x1)), (5, .slice A22 (y21).length c22), (6, .int .i64 (y11))] _
      try dsimp only at hM
      refine Rn.reg (Rn.v rfl rfl rfl rfl (V.mv rfl) (Rn.v rfl rfl rfl rfl (V.addW rfl rfl) (Rn.v rfl rfl rfl rfl (V.as rfl) (Rn.regEnd ?_))))
      exact hn14 (y21, (W64 (y11 + 1)), F20, A22, c22) _ _ (Sub.cons rfl (Sub.cons rfl (Sub.cons rfl (Sub.cons rfl (Sub.nil _))))) (hm24.pick [0, 1] rfl (by decide)) hM
    intro hk2
    clear hj2
    refine Rn.block (Rn.seq (Rn.reg (Rn.v rfl rfl rfl rfl (V.mv rfl) (Rn.v rfl rfl rfl rfl (V.nil rfl) (Rn.v rfl rfl rfl rfl (V.fa Try.underlying52 rfl Try.sizeOf50 rfl rfl) ?_)))))
    obtain ⟨_, ⟨A25_0, c25_0, rfl⟩, hm25⟩ := hm18.unf 1 rfl
    replace hm25 : Hp Z0 (LS [T_limnographref18_Disk.obj F0 b0 x0]) w w14 [ownR 87 A9 c9 T_limnographref18_File.rep y8, boxR b0 52 [.slice A25_0 (x0.L).length c25_0, .int .i64 (x0.Capacity), .bool (x0.Down), .int .i64 (x0.Calls), .int .i64 (x0.Fail), .int .i64 (x0.Crash), .int .i64 (x0.Err)], ownR 87 A25_0 c25_0 T_limnographref18_File.rep x0.L] := hm25
    refine Rn.v rfl rfl rfl rfl (V.ldB Try.isAgg50 rfl (hm25.get 1 rfl) rfl) (Rn.v rfl rfl rfl rfl (V.mv rfl) ?_)
    obtain ⟨z27, e27, hM⟩ := bindE hM
    obtain ⟨kk27, ke27, kz27, kl27⟩ := idxE e27
    obtain ⟨g27, vs27, hA27, hR27, hrel27⟩ := hm25.ownAt 2 rfl kz27
    subst hA27
    obtain ⟨_, _, rfl, ⟨rfl, _⟩, ⟨_, _, rfl, ⟨A28, c28, rfl, p28, q28, s28⟩, ⟨rfl, _⟩⟩⟩ := hrel27
    have hm30 : Hp Z0 (LS [T_limnographref18_Disk.obj F0 b0 x0]) w w14 [ownR 87 A9 c9 T_limnographref18_File.rep y8, boxR b0 52 [.slice (some ⟨g27, 0, none⟩) (x0.L).length c25_0, .int .i64 (x0.Capacity), .bool (x0.Down), .int .i64 (x0.Calls), .int .i64 (x0.Fail), .int .i64 (x0.Crash), .int .i64 (x0.Err)], ownR 87 (some ⟨g27, 0, none⟩) c25_0 T_limnographref18_File.rep x0.L, slR A28 c28 byteR z27.Data] := Hp.knowL [slR A28 c28 byteR z27.Data] _ hm25 (knC (fun _ h => h) ⟨p28, q28, s28⟩ kn0)
    refine Rn.v rfl rfl rfl rfl (V.ixE kk27 Try.underlying50 Try.sizeOf87 rfl rfl ke27 kl27) (Rn.v rfl rfl rfl rfl (V.fa Try.underlying87 rfl Try.sizeOf9 rfl rfl) (Rn.v rfl rfl rfl rfl (V.ldR0 Try.isAgg9 rfl hR27 rfl) (Rn.v rfl rfl rfl rfl (V.mv rfl) (Rn.v rfl rfl rfl rfl (V.neqS rfl rfl) (Rn.regEnd ?_)))))
    refine Rn.condD rfl (fun h31 => ?_) (fun h31 => ?_)
    · replace hM := iteT h31 hM
      refine Rn.reg (Rn.v rfl rfl rfl rfl (V.mv rfl) (Rn.v rfl rfl rfl rfl (V.mv rfl) (Rn.v rfl rfl rfl rfl (V.nil rfl) (Rn.v rfl rfl rfl rfl (V.fa Try.underlying52 rfl Try.sizeOf50 rfl rfl) (Rn.v rfl rfl rfl rfl (V.ldB Try.isAgg50 rfl (hm30.get 1 rfl) rfl) (Rn.v rfl rfl rfl rfl (V.mv rfl) ?_))))))
      obtain ⟨z32, e32, hM⟩ := bindE hM
      obtain ⟨kk32, ke32, kz32, kl32⟩ := idxE e32
      obtain ⟨vs32, hR32, hrel32⟩ := hm30.ownAtL 2 rfl kz32
      obtain ⟨_, _, rfl, ⟨rfl, _⟩, ⟨_, _, rfl, ⟨A33, c33, rfl, p33, q33, s33⟩, ⟨rfl, _⟩⟩⟩ := hrel32
      have hm35 : Hp Z0 (LS [T_limnographref18_Disk.obj F0 b0 x0]) w w14 [ownR 87 A9 c9 T_limnographref18_File.rep y8, boxR b0 52 [.slice (some ⟨g27, 0, none⟩) (x0.L).length c25_0, .int .i64 (x0.Capacity), .bool (x0.Down), .int .i64 (x0.Calls), .int .i64 (x0.Fail), .int .i64 (x0.Crash), .int .i64 (x0.Err)], ownR 87 (some ⟨g27, 0, none⟩) c25_0 T_limnographref18_File.rep x0.L, slR A28 c28 byteR z27.Data, slR A33 c33 byteR z32.Data] := Hp.knowL [slR A33 c33 byteR z32.Data] _ hm30 (knC (fun _ h => h) ⟨p33, q33, s33⟩ kn0)
      refine Rn.v rfl rfl rfl rfl (V.ixE kk32 Try.underlying50 Try.sizeOf87 rfl rfl ke32 kl32) (Rn.v rfl rfl rfl rfl (V.ldA Try.isAgg87 Try.sizeOf87 rfl (Rd.pre hR32 3) rfl) ?_)
      obtain ⟨z36, e36, hM⟩ := bindE hM
      refine Rn.pushH (z := z32) (vs := [Str (z32.Name), .slice A33 (z32.Data).length c33, .int .i64 (z32.Sure)]) hm35 0 rfl e36 rfl rfl rfl rfl Try.underlying50 el87 rfl rfl rfl rfl (fun _ => rfl) (⟨_, _, rfl, ⟨rfl, trivial⟩, ⟨_, _, rfl, ⟨_, _, rfl, (hm35.get 4 rfl).1, (hm35.get 4 rfl).2.1, (hm35.get 4 rfl).2.2⟩, ⟨rfl, trivial⟩⟩⟩) ?_
      intro A36 c36 w36 u36 hm36
      refine Rn.v rfl rfl rfl rfl (V.as rfl) (Rn.regEnd (Rn.inBlock ?_))
      have hm39 : Hp Z0 (LS [T_limnographref18_Disk.obj F0 b0 x0]) w w36 ([ownR 87 A36 c36 T_limnographref18_File.rep z36, slR A28 c28 byteR z27.Data, slR A33 c33 byteR z32.Data] ++ [boxR b0 52 [.slice (some ⟨g27, 0, none⟩) (x0.L).length c25_0, .int .i64 (x0.Capacity), .bool (x0.Down), .int .i64 (x0.Calls), .int .i64 (x0.Fail), .int .i64 (x0.Crash), .int .i64 (x0.Err)], ownR 87 (some ⟨g27, 0, none⟩) c25_0 T_limnographref18_File.rep x0.L]) := hm36.pick [0, 3, 4, 1, 2] rfl (by decide)
      obtain ⟨F38, hm38⟩ := hm39.fold (T_limnographref18_Disk.sh b0 x0) ⟨(some ⟨g27, 0, none⟩), c25_0, rfl⟩
      replace hm38 : Hp Z0 (LS [T_limnographref18_Disk.obj F0 b0 x0]) w w36 [ownR 87 A36 c36 T_limnographref18_File.rep z36, slR A28 c28 byteR z27.Data, slR A33 c33 byteR z32.Data, T_limnographref18_Disk.obj F38 b0 x0] := hm38
      exact hk2 (z36, F38, A36, c36) _ _ (Sub.cons rfl (Sub.cons rfl (Sub.cons rfl (Sub.cons rfl (Sub.nil _))))) (hm38.pick [3, 0] rfl (by decide)) hM
    · replace hM := iteF h31 hM
      refine Rn.skip (Rn.inBlock ?_)
      have hm41 : Hp Z0 (LS [T_limnographref18_Disk.obj F0 b0 x0]) w w14 ([ownR 87 A9 c9 T_limnographref18_File.rep y8, slR A28 c28 byteR z27.Data] ++ [boxR b0 52 [.slice (some ⟨g27, 0, none⟩) (x0.L).length c25_0, .int .i64 (x0.Capacity), .bool (x0.Down), .int .i64 (x0.Calls), .int .i64 (x0.Fail), .int .i64 (x0.Crash), .int .i64 (x0.Err)], ownR 87 (some ⟨g27, 0, none⟩) c25_0 T_limnographref18_File.rep x0.L]) := hm30.pick [0, 3, 1, 2] rfl (by decide)
      obtain ⟨F40, hm40⟩ := hm41.fold (T_limnographref18_Disk.sh b0 x0) ⟨(some ⟨g27, 0, none⟩), c25_0, rfl⟩
      replace hm40 : Hp Z0 (LS [T_limnographref18_Disk.obj F0 b0 x0]) w w14 [ownR 87 A9 c9 T_limnographref18_File.rep y8, slR A28 c28 byteR z27.Data, T_limnographref18_Disk.obj F40 b0 x0] := hm40
      exact hk2 (y8, F40, A9, c9) _ _ (Sub.cons rfl (Sub.cons rfl (Sub.cons rfl (Sub.cons rfl (Sub.nil _))))) (hm40.pick [2, 0] rfl (by decide)) hM
  · replace hM := iteF h17 hM
    refine Rn.exit rfl ?_
    have hm43 : Hp Z0 (LS [T_limnographref18_Disk.obj F0 b0 x0]) w w14 ([ownR 87 A9 c9 T_limnographref18_File.rep y8] ++ [boxR b0 52 [.slice A15_0 (x0.L).length c15_0, .int .i64 (x0.Capacity), .bool (x0.Down), .int .i64 (x0.Calls), .int .i64 (x0.Fail), .int .i64 (x0.Crash), .int .i64 (x0.Err)], ownR 87 A15_0 c15_0 T_limnographref18_File.rep x0.L]) := hm15.pick [0, 1, 2] rfl (by decide)
    obtain ⟨F42, hm42⟩ := hm43.fold (T_limnographref18_Disk.sh b0 x0) ⟨A15_0, c15_0, rfl⟩
    replace hm42 : Hp Z0 (LS [T_limnographref18_Disk.obj F0 b0 x0]) w w14 [ownR 87 A9 c9 T_limnographref18_File.rep y8, T_limnographref18_Disk.obj F42 b0 x0] := hm42
    exact hk1 (y8, F42, A9, c9) _ _ (Sub.cons rfl (Sub.nil _)) (hm42.pick [1, 0] rfl (by decide)) hM

set_option maxRecDepth 20000 in
theorem m_limnographref18_Disk_put_sim {Z0 : Nat → Prop} (w : World) (F0 : Nat → Prop) (b0 : Nat) (x0 : T_limnographref18_Disk) (x1 : T_limnographref18_File) (cs1 : List Value) {r : T_limnographref18_Disk} (hL : Lent Z0 w [T_limnographref18_Disk.obj F0 b0 x0, relR T_limnographref18_File.rep cs1 x1]) (hM : m_limnographref18_Disk_put x0 x1 = some r) :
    Calls Try.prog 41 #[.pointer (some ⟨b0, 0, none⟩), .agg cs1.toArray] w fun x w' => ∃ F_p0, x = .returned (.tuple #[]) ∧ Hp Z0 (LS [T_limnographref18_Disk.obj F0 b0 x0, relR T_limnographref18_File.rep cs1 x1]) w w' [T_limnographref18_Disk.obj F_p0 b0 r] := by
  have hm0 := hL.start
  have h1 := hm0.get 1 rfl
  obtain ⟨_, _, rfl, ⟨rfl, _⟩, ⟨_, _, rfl, ⟨A2, c2, rfl, p2, q2, s2⟩, ⟨rfl, _⟩⟩⟩ := h1
  have hm5 : Hp Z0 (LS [T_limnographref18_Disk.obj F0 b0 x0, relR T_limnographref18_File.rep [Str (x1.Name), .slice A2 (x1.Data).length c2, .int .i64 (x1.Sure)] x1]) w w [T_limnographref18_Disk.obj F0 b0 x0, relR T_limnographref18_File.rep [Str (x1.Name), .slice A2 (x1.Data).length c2, .int .i64 (x1.Sure)] x1, slR A2 c2 byteR x1.Data] := Hp.knowL [slR A2 c2 byteR x1.Data] _ hm0 (knC (fun _ h => h) ⟨p2, q2, s2⟩ kn0)
  refine Rn.enter Try.func41 rfl rfl (Nat.le_of_ble_eq_true rfl) ?_
  refine Rn.seq (Rn.reg (Rn.box rfl rfl rfl rfl rfl ?_))
  intro b6 w6 hb6 m6 e6
  have hm8 : Hp Z0 (LS [T_limnographref18_Disk.obj F0 b0 x0, relR T_limnographref18_File.rep [Str (x1.Name), .slice A2 (x1.Data).length c2, .int .i64 (x1.Sure)] x1]) w w6 [T_limnographref18_Disk.obj F0 b0 x0, relR T_limnographref18_File.rep [Str (x1.Name), .slice A2 (x1.Data).length c2, .int .i64 (x1.Sure)] x1, slR A2 c2 byteR x1.Data, boxR b6 87 [Str (x1.Name), .slice A2 (x1.Data).length c2, .int .i64 (x1.Sure)]] := hm5.addBox hb6 e6 m6
  refine Rn.regEnd (Rn.seq (Rn.reg (Rn.v rfl rfl rfl rfl (V.mv rfl) (Rn.v rfl rfl rfl rfl (V.fa Try.underlying87 rfl Try.sizeOf9 rfl rfl) (Rn.v rfl rfl rfl rfl (V.ldB Try.isAgg9 rfl (hm8.get 3 rfl) rfl) ?_)))))
  obtain ⟨p9, e9, hM⟩ := bindE hM
  have hm10 : Hp Z0 (LS [T_limnographref18_Disk.obj F0 b0 x0, relR T_limnographref18_File.rep [Str (x1.Name), .slice A2 (x1.Data).length c2, .int .i64 (x1.Sure)] x1]) w w6 ([relR T_limnographref18_File.rep [Str (x1.Name), .slice A2 (x1.Data).length c2, .int .i64 (x1.Sure)] x1, slR A2 c2 byteR x1.Data, boxR b6 87 [Str (x1.Name), .slice A2 (x1.Data).length c2, .int .i64 (x1.Sure)]] ++ [T_limnographref18_Disk.obj F0 b0 x0]) := hm8.pick [1, 2, 3, 0] rfl (by decide)
  refine Rn.cl ck57 rfl rfl rfl rfl (m_limnographref18_Disk_without_sim (Z0 := _) _ F0 b0 x0 x1.Name hm10.lend e9) ?_
  rintro _ w9 ⟨A9_0_0, c9_0_0, F9_p0, rfl, hq9⟩
  refine ⟨_, rfl, ?_⟩
  have hm13 : Hp Z0 (LS [T_limnographref18_Disk.obj F0 b0 x0, relR T_limnographref18_File.rep [Str (x1.Name), .slice A2 (x1.Data).length c2, .int .i64 (x1.Sure)] x1]) w w9 [relR T_limnographref18_File.rep [Str (x1.Name), .slice A2 (x1.Data).length c2, .int .i64 (x1.Sure)] x1, slR A2 c2 byteR x1.Data, boxR b6 87 [Str (x1.Name), .slice A2 (x1.Data).length c2, .int .i64 (x1.Sure)], ownR 87 A9_0_0 c9_0_0 T_limnographref18_File.rep p9, T_limnographref18_Disk.obj F9_p0 b0 x0] := hm10.callAZ hq9
  refine Rn.v rfl rfl rfl rfl (V.as rfl) (Rn.regEnd (Rn.seq (Rn.reg (Rn.v rfl rfl rfl rfl (V.mv rfl) (Rn.v rfl rfl rfl rfl (V.lenV Try.underlying50 rfl) (Rn.v rfl rfl rfl rfl (V.as rfl) (Rn.regEnd (Rn.seq ?_))))))))
  obtain ⟨j1, hj1, hM⟩ := jnE hM
  refine Rn.joinG (r := r) (G := Int × (Nat → Prop)) (fun g => [(0, .pointer (some ⟨b0, 0, none⟩)), (3, .pointer (some ⟨b6, 0, none⟩)), (4, .slice A9_0_0 (p9).length c9_0_0), (5, .int .i64 ((g.1)))]) (fun g w' => Hp Z0 (LS [T_limnographref18_Disk.obj F0 b0 x0, relR T_limnographref18_File.rep [Str (x1.Name), .slice A2 (x1.Data).length c2, .int .i64 (x1.Sure)] x1]) w w' [relR T_limnographref18_File.rep [Str (x1.Name), .slice A2 (x1.Data).length c2, .int .i64 (x1.Sure)] x1, slR A2 c2 byteR x1.Data, boxR b6 87 [Str (x1.Name), .slice A2 (x1.Data).length c2, .int .i64 (x1.Sure)], ownR 87 A9_0_0 c9_0_0 T_limnographref18_File.rep p9, T_limnographref18_Disk.obj (g.2) b0 x0]) (fun g => j1 g.1) ?_ ?_
  · subst hj1
    clear hM
    rintro ⟨y15, F14⟩ w16 hm16 hM
    replace hm16 : Hp Z0 (LS [T_limnographref18_Disk.obj F0 b0 x0, relR T_limnographref18_File.rep [Str (x1.Name), .slice A2 (x1.Data).length c2, .int .i64 (x1.Sure)] x1]) w w16 [relR T_limnographref18_File.rep [Str (x1.Name), .slice A2 (x1.Data).length c2, .int .i64 (x1.Sure)] x1, slR A2 c2 byteR x1.Data, boxR b6 87 [Str (x1.Name), .slice A2 (x1.Data).length c2, .int .i64 (x1.Sure)], ownR 87 A9_0_0 c9_0_0 T_limnographref18_File.rep p9, T_limnographref18_Disk.obj F14 b0 x0] := hm16
    show Rn _ _ _ _ _ [(0, .pointer (some ⟨b0, 0, none⟩)), (3, .pointer (some ⟨b6, 0, none⟩)), (4, .slice A9_0_0 (p9).length c9_0_0), (5, .int .i64 (y15))] _
    try dsimp only at hM
    refine Rn.seq (Rn.reg (Rn.v rfl rfl rfl rfl (V.as rfl) (Rn.regEnd (Rn.seq (Rn.reg (Rn.v rfl rfl rfl rfl (V.mv rfl) (Rn.v rfl rfl rfl rfl (V.mv rfl) (Rn.v rfl rfl rfl rfl (V.mv rfl) ?_))))))))
    have hm19 := hm16.freeze 3 rfl
    obtain ⟨z17, e17, hM⟩ := bindE hM
    refine Rn.cutH hm19 3 rfl e17 rfl rfl rfl Try.underlying50 Try.sizeOf87 rfl rfl rfl rfl rfl ?_
    intro A17 c17 hm17
    have hm22 := hm17.addNil 87 T_limnographref18_File.rep
    obtain ⟨z21, e21, hM⟩ := bindE hM
    refine Rn.appH hm22 6 rfl e21 rfl rfl rfl Try.underlying50 el87 rfl rfl rfl rfl (hm22.src 5 rfl) ?_
    intro A21 c21 w21 hm21
    refine Rn.v rfl rfl rfl rfl (V.as rfl) (Rn.regEnd (Rn.seq (Rn.reg (Rn.v rfl rfl rfl rfl (V.mv rfl) (Rn.v rfl rfl rfl rfl (V.ldBA _ Try.isAgg87 Try.sizeOf87 rfl (hm21.get 2 rfl) rfl rfl) ?_)))))
    obtain ⟨z25, e25, hM⟩ := bindE hM
    refine Rn.pushH (z := ({ Name := x1.Name, Data := x1.Data, Sure := x1.Sure } : T_limnographref18_File)) (vs := [Str (x1.Name), .slice A2 (x1.Data).length c2, .int .i64 (x1.Sure)]) hm21 6 rfl e25 rfl rfl rfl rfl Try.underlying50 el87 rfl rfl rfl rfl (fun _ => rfl) (⟨_, _, rfl, ⟨rfl, trivial⟩, ⟨_, _, rfl, ⟨_, _, rfl, (hm21.get 1 rfl).1, (hm21.get 1 rfl).2.1, (hm21.get 1 rfl).2.2⟩, ⟨rfl, trivial⟩⟩⟩) ?_
    intro A25 c25 w25 u25 hm25
    refine Rn.v rfl rfl rfl rfl (V.as rfl) (Rn.regEnd (Rn.reg (Rn.v rfl rfl rfl rfl (V.mv rfl) (Rn.v rfl rfl rfl rfl (V.mv rfl) (Rn.v rfl rfl rfl rfl (V.mv rfl) (Rn.v rfl rfl rfl rfl (V.mv rfl) ?_))))))
    obtain ⟨z27, e27, hM⟩ := bindE hM
    refine Rn.cutH hm25 3 rfl e27 rfl rfl rfl Try.underlying50 Try.sizeOf87 rfl rfl rfl rfl rfl ?_
    intro A27 c27 hm27
    obtain ⟨z29, e29, hM⟩ := bindE hM
    refine Rn.appH hm27 6 rfl e29 rfl rfl rfl Try.underlying50 el87 rfl rfl rfl rfl (hm27.src 7 rfl) ?_
    intro A29 c29 w29 hm29
    refine Rn.v rfl rfl rfl rfl (V.nil rfl) (Rn.v rfl rfl rfl rfl (V.fa Try.underlying52 rfl Try.sizeOf50 rfl rfl) ?_)
    obtain ⟨_, ⟨A31_0, c31_0, rfl⟩, hm31⟩ := hm29.unf 4 rfl
    replace hm31 : Hp Z0 (LS [T_limnographref18_Disk.obj F0 b0 x0, relR T_limnographref18_File.rep [Str (x1.Name), .slice A2 (x1.Data).length c2, .int .i64 (x1.Sure)] x1]) w w29 [relR T_limnographref18_File.rep [Str (x1.Name), .slice A2 (x1.Data).length c2, .int .i64 (x1.Sure)] x1, slR A2 c2 byteR x1.Data, boxR b6 87 [Str (x1.Name), .slice A2 (x1.Data).length c2, .int .i64 (x1.Sure)], slR A9_0_0 c9_0_0 T_limnographref18_File.rep p9, slR A17 c17 T_limnographref18_File.rep z17, ownR 87 A29 c29 T_limnographref18_File.rep z29, slR A27 c27 T_limnographref18_File.rep z27, boxR b0 52 [.slice A31_0 (x0.L).length c31_0, .int .i64 (x0.Capacity), .bool (x0.Down), .int .i64 (x0.Calls), .int .i64 (x0.Fail), .int .i64 (x0.Crash), .int .i64 (x0.Err)], ownR 87 A31_0 c31_0 T_limnographref18_File.rep x0.L] := hm31
    refine Rn.st rfl rfl Try.sizeOf50 rfl rfl rfl rfl (by first | exact ones rfl | (simp [Value.oneCell']; done)) (hm31.get 7 rfl) (by first | exact Nat.le_of_ble_eq_true rfl | (simp; done)) ?_
    intro w33 m33 x33
    have hm34 : Hp Z0 (LS [T_limnographref18_Disk.obj F0 b0 x0, relR T_limnographref18_File.rep [Str (x1.Name), .slice A2 (x1.Data).length c2, .int .i64 (x1.Sure)] x1]) w w33 [relR T_limnographref18_File.rep [Str (x1.Name), .slice A2 (x1.Data).length c2, .int .i64 (x1.Sure)] x1, slR A2 c2 byteR x1.Data, boxR b6 87 [Str (x1.Name), .slice A2 (x1.Data).length c2, .int .i64 (x1.Sure)], slR A9_0_0 c9_0_0 T_limnographref18_File.rep p9, slR A17 c17 T_limnographref18_File.rep z17, ownR 87 A29 c29 T_limnographref18_File.rep z29, slR A27 c27 T_limnographref18_File.rep z27, boxR b0 52 [.slice A29 (z29).length c29, .int .i64 (x0.Capacity), .bool (x0.Down), .int .i64 (x0.Calls), .int .i64 (x0.Fail), .int .i64 (x0.Crash), .int .i64 (x0.Err)], ownR 87 A31_0 c31_0 T_limnographref18_File.rep x0.L] := hm31.st 7 rfl x33 m33
    refine Rn.regEnd ?_
    have hm36 : Hp Z0 (LS [T_limnographref18_Disk.obj F0 b0 x0, relR T_limnographref18_File.rep [Str (x1.Name), .slice A2 (x1.Data).length c2, .int .i64 (x1.Sure)] x1]) w w33 ([relR T_limnographref18_File.rep [Str (x1.Name), .slice A2 (x1.Data).length c2, .int .i64 (x1.Sure)] x1, slR A2 c2 byteR x1.Data, boxR b6 87 [Str (x1.Name), .slice A2 (x1.Data).length c2, .int .i64 (x1.Sure)], slR A9_0_0 c9_0_0 T_limnographref18_File.rep p9, slR A17 c17 T_limnographref18_File.rep z17, slR A27 c27 T_limnographref18_File.rep z27, ownR 87 A31_0 c31_0 T_limnographref18_File.rep x0.L] ++ [boxR b0 52 [.slice A29 (z29).length c29, .int .i64 (x0.Capacity), .bool (x0.Down), .int .i64 (x0.Calls), .int .i64 (x0.Fail), .int .i64 (x0.Crash), .int .i64 (x0.Err)], ownR 87 A29 c29 T_limnographref18_File.rep z29]) := hm34.pick [0, 1, 2, 3, 4, 6, 8, 7, 5] rfl (by decide)
    obtain ⟨F35, hm35⟩ := hm36.fold (T_limnographref18_Disk.sh b0 ({ L := z29, Capacity := x0.Capacity, Down := x0.Down, Calls := x0.Calls, Fail := x0.Fail, Crash := x0.Crash, Err := x0.Err } : T_limnographref18_Disk)) ⟨A29, c29, rfl⟩
    replace hm35 : Hp Z0 (LS [T_limnographref18_Disk.obj F0 b0 x0, relR T_limnographref18_File.rep [Str (x1.Name), .slice A2 (x1.Data).length c2, .int .i64 (x1.Sure)] x1]) w w33 [relR T_limnographref18_File.rep [Str (x1.Name), .slice A2 (x1.Data).length c2, .int .i64 (x1.Sure)] x1, slR A2 c2 byteR x1.Data, boxR b6 87 [Str (x1.Name), .slice A2 (x1.Data).length c2, .int .i64 (x1.Sure)], slR A9_0_0 c9_0_0 T_limnographref18_File.rep p9, slR A17 c17 T_limnographref18_File.rep z17, slR A27 c27 T_limnographref18_File.rep z27, ownR 87 A31_0 c31_0 T_limnographref18_File.rep x0.L, T_limnographref18_Disk.obj F35 b0 ({ L := z29, Capacity := x0.Capacity, Down := x0.Down, Calls := x0.Calls, Fail := x0.Fail, Crash := x0.Crash, Err := x0.Err } : T_limnographref18_Disk)] := hm35
    refine Rn.end0 Try.func41 rfl ?_
    obtain rfl := someE hM
    exact ⟨F35, rfl, hm35.pick [7] rfl (by decide)⟩
  intro hk1
  clear hj1
  refine Rn.block ?_
  refine Rn.loopF (G := Int × (Nat → Prop)) (fun g => [(0, .pointer (some ⟨b0, 0, none⟩)), (3, .pointer (some ⟨b6, 0, none⟩)), (4, .slice A9_0_0 (p9).length c9_0_0), (5, .int .i64 ((g.1)))]) (fun g w' => Hp Z0 (LS [T_limnographref18_Disk.obj F0 b0 x0, relR T_limnographref18_File.rep [Str (x1.Name), .slice A2 (x1.Data).length c2, .int .i64 (x1.Sure)] x1]) w w' [relR T_limnographref18_File.rep [Str (x1.Name), .slice A2 (x1.Data).length c2, .int .i64 (x1.Sure)] x1, slR A2 c2 byteR x1.Data, boxR b6 87 [Str (x1.Name), .slice A2 (x1.Data).length c2, .int .i64 (x1.Sure)], ownR 87 A9_0_0 c9_0_0 T_limnographref18_File.rep p9, T_limnographref18_Disk.obj (g.2) b0 x0]) (fun n g => m_limnographref18_Disk_put_L1 x1 p9 j1 n g.1) fuel ((p9.length : Int), F9_p0) (Sub.cons rfl (Sub.cons rfl (Sub.cons rfl (Sub.cons rfl (Sub.nil _))))) (hm13.pick [0, 1, 2, 3, 4] rfl (by decide)) hM (fun _ => rfl) ?_
  clear hM
  rintro m39 ⟨y38, F37⟩ w39 hm39 hM hn39
  replace hm39 : Hp Z0 (LS [T_limnographref18_Disk.obj F0 b0 x0, relR T_limnographref18_File.rep [Str (x1.Name), .slice A2 (x1.Data).length c2, .int .i64 (x1.Sure)] x1]) w w39 [relR T_limnographref18_File.rep [Str (x1.Name), .slice A2 (x1.Data).length c2, .int .i64 (x1.Sure)] x1, slR A2 c2 byteR x1.Data, boxR b6 87 [Str (x1.Name), .slice A2 (x1.Data).length c2, .int .i64 (x1.Sure)], ownR 87 A9_0_0 c9_0_0 T_limnographref18_File.rep p9, T_limnographref18_Disk.obj F37 b0 x0] := hm39
  show Rn _ _ _ _ _ [(0, .pointer (some ⟨b0, 0, none⟩)), (3, .pointer (some ⟨b6, 0, none⟩)), (4, .slice A9_0_0 (p9).length c9_0_0), (5, .int .i64 (y38))] _
  replace hM : m_limnographref18_Disk_put_L1 x1 p9 j1 (m39 + 1) y38 = some r := hM
  rw [m_limnographref18_Disk_put_L1] at hM
  refine Rn.seq (Rn.seq ?_)
  obtain ⟨j2, hj2, hM⟩ := jnE hM
  refine Rn.joinG (r := r) (G := Bool × (Nat → Prop)) (fun g => [(0, .pointer (some ⟨b0, 0, none⟩)), (3, .pointer (some ⟨b6, 0, none⟩)), (4, .slice A9_0_0 (p9).length c9_0_0), (5, .int .i64 (y38)), (25, .bool ((g.1)))]) (fun g w' => Hp Z0 (LS [T_limnographref18_Disk.obj F0 b0 x0, relR T_limnographref18_File.rep [Str (x1.Name), .slice A2 (x1.Data).length c2, .int .i64 (x1.Sure)] x1]) w w' [relR T_limnographref18_File.rep [Str (x1.Name), .slice A2 (x1.Data).length c2, .int .i64 (x1.Sure)] x1, slR A2 c2 byteR x1.Data, boxR b6 87 [Str (x1.Name), .slice A2 (x1.Data).length c2, .int .i64 (x1.Sure)], ownR 87 A9_0_0 c9_0_0 T_limnographref18_File.rep p9, T_limnographref18_Disk.obj (g.2) b0 x0]) (fun g => j2 g.1) ?_ ?_
  · subst hj2
    clear hM
    rintro ⟨y41, F40⟩ w42 hm42 hM
    replace hm42 : Hp Z0 (LS [T_limnographref18_Disk.obj F0 b0 x0, relR T_limnographref18_File.rep [Str (x1.Name), .slice A2 (x1.Data).length c2, .int .i64 (x1.Sure)] x1]) w w42 [relR T_limnographref18_File.rep [Str (x1.Name), .slice A2 (x1.Data).length c2, .int .i64 (x1.Sure)] x1, slR A2 c2 byteR x1.Data, boxR b6 87 [Str (x1.Name), .slice A2 (x1.Data).length c2, .int .i64 (x1.Sure)], ownR 87 A9_0_0 c9_0_0 T_limnographref18_File.rep p9, T_limnographref18_Disk.obj F40 b0 x0] := hm42
    show Rn _ _ _ _ _ [(0, .pointer (some ⟨b0, 0, none⟩)), (3, .pointer (some ⟨b6, 0, none⟩)), (4, .slice A9_0_0 (p9).length c9_0_0), (5, .int .i64 (y38)), (25, .bool (y41))] _
    try dsimp only at hM
    refine Rn.condS rfl (fun h43 => ?_) (fun h43 => ?_)
    · replace hM := iteT h43 hM
      refine Rn.skip (Rn.block (Rn.reg (Rn.v rfl rfl rfl rfl (V.mv rfl) (Rn.v rfl rfl rfl rfl (V.subW rfl rfl) (Rn.v rfl rfl rfl rfl (V.as rfl) (Rn.regEnd (Rn.inBlock ?_)))))))
      exact hn39 ((W64 (y38 - 1)), F40) _ _ (Sub.cons rfl (Sub.cons rfl (Sub.cons rfl (Sub.cons rfl (Sub.nil _))))) (hm42.pick [0, 1, 2, 3, 4] rfl (by decide)) hM
    · replace hM := iteF (by rw [h43]; exact Bool.false_ne_true) hM
      refine Rn.exit rfl ?_
      exact hk1 (y38, F40) _ _ (Sub.cons rfl (Sub.cons rfl (Sub.cons rfl (Sub.cons rfl (Sub.nil _))))) (hm42.pick [0, 1, 2, 3, 4] rfl (by decide)) hM
  intro hk2
  clear hj2
  refine Rn.drawP rfl hm39 ?_
  intro w44 hm44
  refine RH.takeP 0 (by kernel_rfl) rfl rfl rfl rfl (V.mv rfl) ?_
  refine RH.takeP 1 (by kernel_rfl) rfl rfl rfl rfl (V.gtr rfl rfl) ?_
  refine RH.takeP 2 (by kernel_rfl) rfl rfl rfl rfl (V.mv rfl) ?_
  refine RH.partD (t := 15) rfl (fun h45 => ?_) (fun h45 => ?_)
  · replace hM := iteT h45 hM
    refine RH.takeP 3 (by kernel_rfl) rfl rfl rfl rfl (V.mv rfl) ?_
    refine RH.takeP 4 (by kernel_rfl) rfl rfl rfl rfl (V.mv rfl) ?_
    refine RH.takeP 5 (by kernel_rfl) rfl rfl rfl rfl (V.subW rfl rfl) ?_
    obtain ⟨z46, e46, hM⟩ := bindE hM
    obtain ⟨kk46, ke46, kz46, kl46⟩ := idxE e46
    obtain ⟨g46, vs46, hA46, hR46, hrel46⟩ := hm44.ownAt 3 rfl kz46
    subst hA46
    obtain ⟨_, _, rfl, ⟨rfl, _⟩, ⟨_, _, rfl, ⟨A47, c47, rfl, p47, q47, s47⟩, ⟨rfl, _⟩⟩⟩ := hrel46
    have hm49 : Hp Z0 (LS [T_limnographref18_Disk.obj F0 b0 x0, relR T_limnographref18_File.rep [Str (x1.Name), .slice A2 (x1.Data).length c2, .int .i64 (x1.Sure)] x1]) w w44 [relR T_limnographref18_File.rep [Str (x1.Name), .slice A2 (x1.Data).length c2, .int .i64 (x1.Sure)] x1, slR A2 c2 byteR x1.Data, boxR b6 87 [Str (x1.Name), .slice A2 (x1.Data).length c2, .int .i64 (x1.Sure)], ownR 87 (some ⟨g46, 0, none⟩) c9_0_0 T_limnographref18_File.rep p9, T_limnographref18_Disk.obj F37 b0 x0, slR A47 c47 byteR z46.Data] := Hp.knowL [slR A47 c47 byteR z46.Data] _ hm44 (knC (fun _ h => h) ⟨p47, q47, s47⟩ kn0)
    refine RH.takeP 6 (by kernel_rfl) rfl rfl rfl rfl (V.ixE kk46 Try.underlying50 Try.sizeOf87 rfl rfl ke46 kl46) ?_
    refine RH.takeP 7 (by kernel_rfl) rfl rfl rfl rfl (V.fa Try.underlying87 rfl Try.sizeOf9 rfl rfl) ?_
    refine RH.takeP 8 (by kernel_rfl) rfl rfl rfl rfl (V.ldR0 Try.isAgg9 rfl hR46 rfl) ?_
    refine RH.takeP 9 (by kernel_rfl) rfl rfl rfl rfl (V.fa Try.underlying87 rfl Try.sizeOf9 rfl rfl) ?_
    refine RH.takeP 10 (by kernel_rfl) rfl rfl rfl rfl (V.ldB Try.isAgg9 rfl (hm49.get 2 rfl) rfl) ?_
    refine RH.takeP 11 (by kernel_rfl) rfl rfl rfl rfl (V.gtrS rfl rfl) ?_
    refine RH.takeP 12 (by kernel_rfl) rfl rfl rfl rfl (V.pkT rfl rfl) ?_
    refine RH.doneP (by kernel_rfl) ?_
    exact hk2 ((Op.bytesLess x1.Name z46.Name), F37) _ _ (Sub.cons rfl (Sub.cons rfl (Sub.cons rfl (Sub.cons rfl (Sub.cons rfl (Sub.nil _)))))) (hm49.pick [0, 1, 2, 3, 4] rfl (by decide)) hM
  · replace hM := iteF h45 hM
    refine RH.no 3 (by kernel_rfl) rfl rfl rfl rfl ?_
    refine RH.no 4 (by kernel_rfl) rfl rfl rfl rfl ?_
    refine RH.no 5 (by kernel_rfl) rfl rfl rfl rfl ?_
    refine RH.no 6 (by kernel_rfl) rfl rfl rfl rfl ?_
    refine RH.no 7 (by kernel_rfl) rfl rfl rfl rfl ?_
    refine RH.no 8 (by kernel_rfl) rfl rfl rfl rfl ?_
    refine RH.no 9 (by kernel_rfl) rfl rfl rfl rfl ?_
    refine RH.no 10 (by kernel_rfl) rfl rfl rfl rfl ?_
    refine RH.no 11 (by kernel_rfl) rfl rfl rfl rfl ?_
    refine RH.takeP 12 (by kernel_rfl) rfl rfl rfl rfl (V.pkF rfl rfl) ?_
    refine RH.doneP (by kernel_rfl) ?_
    exact hk2 (false, F37) _ _ (Sub.cons rfl (Sub.cons rfl (Sub.cons rfl (Sub.cons rfl (Sub.cons rfl (Sub.nil _)))))) (hm44.pick [0, 1, 2, 3, 4] rfl (by decide)) hM

set_option maxRecDepth 20000 in
theorem m_limnographref18_New_sim {Z0 : Nat → Prop} (w : World) (A0 : Option Addr) (c0 : Nat) (x0 : (List T_api_File)) (x1 : Int) {r : (Option T_limnographref18_Disk)} (f0 : (slR A0 c0 T_api_File.rep x0).H Z0 w) (hM : m_limnographref18_New x0 x1 = some r) :
    Calls Try.prog 16 #[.slice A0 (x0).length c0, .int .i64 (x1)] w fun x w' => ∃ F_0 b_0, x = .returned (.pointer (optP b_0 r)) ∧ Hp Z0 No w w' [optR r (fun z => T_limnographref18_Disk.obj F_0 b_0 z)] := by
  have hm0 := Hp.nil Z0 No w
  have hc0 := Calm.nil
  have hm2 := hm0.know (slR A0 c0 T_api_File.rep x0) (fun _ h => h) (hm0.in0 hc0 f0)
  replace hc0 := hc0.snoc (r := slR A0 c0 T_api_File.rep x0) (fun _ h => h)
  refine Rn.enter Try.func16 rfl rfl (Nat.le_of_ble_eq_true rfl) ?_
  refine Rn.seq (Rn.reg (Rn.v rfl rfl rfl rfl (V.as rfl) (Rn.regEnd (Rn.seq (Rn.seq (Rn.reg (Rn.v rfl rfl rfl rfl (V.mv rfl) (Rn.v rfl rfl rfl rfl (V.lss rfl rfl) (Rn.v rfl rfl rfl rfl (V.mv rfl) ?_)))))))))
  refine Rn.cutR [6, 7, 8, 9, 10] [(0, .slice A0 (x0).length c0), (1, .int .i64 (x1)), (13, .bool (decide ((x1 < 1) ∨ (x1 > 4194304))))] (fun hk3 => ?_) ?_
  · refine Rn.partD (t := 10) rfl (fun h4 => ?_) (fun h4 => ?_)
    · refine Rn.no rfl rfl rfl rfl (Rn.no rfl rfl rfl rfl (Rn.v rfl rfl rfl rfl (V.pkT rfl rfl) ?_))
      refine hk3 _ ?_
      exact Sub.cons rfl (Sub.cons rfl (Sub.cons (lkv _ rfl (by first | exact andT h4 | exact andF h4 | exact orT h4 | exact orF h4 | exact nandF h4 | exact nandT h4 | exact norT h4 | exact norF h4 | (simp [h4]; done) | grind)) (Sub.nil _)))
    · refine Rn.v rfl rfl rfl rfl (V.mv rfl) (Rn.v rfl rfl rfl rfl (V.gtr rfl rfl) (Rn.v rfl rfl rfl rfl (V.pkF rfl rfl) ?_))
      refine hk3 _ ?_
      exact Sub.cons rfl (Sub.cons rfl (Sub.cons (lkv _ rfl (by first | exact andT h4 | exact andF h4 | exact orT h4 | exact orF h4 | exact nandF h4 | exact nandT h4 | exact norT h4 | exact norF h4 | (simp [h4]; done) | grind)) (Sub.nil _)))
  refine Rn.v rfl rfl rfl rfl (V.mv rfl) ?_
  refine Rn.cutR [] [(0, .slice A0 (x0).length c0), (1, .int .i64 (x1)), (18, .bool (decide (((x1 < 1) ∨ (x1 > 4194304)) ∨ ((x0.length : Int) > 4096))))] (fun hk5 => ?_) ?_
  · refine Rn.partD (t := 14) rfl (fun h6 => ?_) (fun h6 => ?_)
    · refine Rn.no rfl rfl rfl rfl (Rn.no rfl rfl rfl rfl (Rn.no rfl rfl rfl rfl (Rn.v rfl rfl rfl rfl (V.pkT rfl rfl) ?_)))
      refine hk5 _ ?_
      exact Sub.cons rfl (Sub.cons rfl (Sub.cons (lkv _ rfl (by first | exact andT h6 | exact andF h6 | exact orT h6 | exact orF h6 | exact nandF h6 | exact nandT h6 | exact norT h6 | exact norF h6 | (simp [h6]; done) | grind)) (Sub.nil _)))
    · refine Rn.v rfl rfl rfl rfl (V.mv rfl) (Rn.v rfl rfl rfl rfl (V.lenV Try.underlying38 rfl) (Rn.v rfl rfl rfl rfl (V.gtr rfl rfl) (Rn.v rfl rfl rfl rfl (V.pkF rfl rfl) ?_)))
      refine hk5 _ ?_
      exact Sub.cons rfl (Sub.cons rfl (Sub.cons (lkv _ rfl (by first | exact andT h6 | exact andF h6 | exact orT h6 | exact orF h6 | exact nandF h6 | exact nandT h6 | exact norT h6 | exact norF h6 | (simp [h6]; done) | grind)) (Sub.nil _)))
  refine Rn.regEnd ?_
  refine Rn.condD rfl (fun h7 => ?_) (fun h7 => ?_)
  · replace hM := iteT h7 hM
    refine Rn.seq (Rn.reg (Rn.v rfl rfl rfl rfl (V.as rfl) (Rn.regEnd ?_)))
    have hm9 := hm2.addNone (fun z => T_limnographref18_Disk.obj No 0 z)
    have hm10 : Hp Z0 No w w [slR A0 c0 T_api_File.rep x0, optR (none : Option T_limnographref18_Disk) (fun z => T_limnographref18_Disk.obj No 0 z)] := hm9
    refine Rn.retG1 Try.func16 rfl (rvT rfl) ?_
    obtain rfl := someE hM
    exact ⟨No, 0, rfl, hm10.pick [1] rfl (by decide)⟩
  · replace hM := iteF h7 hM
    refine Rn.skip (Rn.seq (Rn.reg (Rn.v rfl rfl rfl rfl (V.mv rfl) (Rn.v rfl rfl rfl rfl (V.bldS st52 rfl rfl) (Rn.box rfl rfl rfl rfl rfl ?_)))))
    intro b11 w11 hb11 m11 e11
    have hm13 : Hp Z0 No w w11 [slR A0 c0 T_api_File.rep x0, boxR b11 52 [.slice none 0 0, .int .i64 (x1), .bool false, .int .i64 (0), .int .i64 ((-1)), .int .i64 ((-1)), .int .i64 (0)]] := hm2.addBox hb11 e11 m11
    refine Rn.v rfl rfl rfl rfl (V.as rfl) (Rn.regEnd (Rn.seq (Rn.seq (Rn.reg (Rn.v rfl rfl rfl rfl (V.as rfl) (Rn.regEnd ?_))))))
    have hm14 := hm13.addNil 87 T_limnographref18_File.rep
    have hm17 : Hp Z0 No w w11 ([slR A0 c0 T_api_File.rep x0] ++ [boxR b11 52 [.slice none (([] : List T_limnographref18_File)).length 0, .int .i64 (x1), .bool false, .int .i64 (0), .int .i64 ((-1)), .int .i64 ((-1)), .int .i64 (0)], ownR 87 none 0 T_limnographref18_File.rep ([] : List T_limnographref18_File)]) := hm14.pick [0, 1, 2] rfl (by decide)
    obtain ⟨F16, hm16⟩ := hm17.fold (T_limnographref18_Disk.sh b11 ({ L := ([] : List T_limnographref18_File), Capacity := x1, Down := false, Calls := 0, Fail := (-1), Crash := (-1), Err := 0 } : T_limnographref18_Disk)) ⟨none, 0, rfl⟩
    replace hm16 : Hp Z0 No w w11 [slR A0 c0 T_api_File.rep x0, T_limnographref18_Disk.obj F16 b11 ({ L := ([] : List T_limnographref18_File), Capacity := x1, Down := false, Calls := 0, Fail := (-1), Crash := (-1), Err := 0 } : T_limnographref18_Disk)] := hm16
    obtain ⟨j1, hj1, hM⟩ := jnE hM
    refine Rn.joinG (r := r) (G := T_limnographref18_Disk × (Nat → Prop)) (fun g => [(5, .pointer (some ⟨b11, 0, none⟩))]) (fun g w' => Hp Z0 No w w' [slR A0 c0 T_api_File.rep x0, T_limnographref18_Disk.obj (g.2) b11 (g.1)]) (fun g => j1 g.1) ?_ ?_
    · subst hj1
      clear hM
      rintro ⟨y18, F18⟩ w19 hm19 hM
      replace hm19 : Hp Z0 No w w19 [slR A0 c0 T_api_File.rep x0, T_limnographref18_Disk.obj F18 b11 y18] := hm19
      show Rn _ _ _ _ _ [(5, .pointer (some ⟨b11, 0, none⟩))] _
      try dsimp only at hM
      refine Rn.seq (Rn.reg (Rn.v rfl rfl rfl rfl (V.mv rfl) (Rn.v rfl rfl rfl rfl (V.as rfl) (Rn.regEnd ?_))))
      have hm20 := hm19.toSome (R := (fun z => T_limnographref18_Disk.obj F18 b11 z)) 1 rfl
      have hm21 : Hp Z0 No w w19 [slR A0 c0 T_api_File.rep x0, optR (some y18) (fun z => T_limnographref18_Disk.obj F18 b11 z)] := hm20
      refine Rn.retG1 Try.func16 rfl (rvT rfl) ?_
      obtain rfl := someE hM
      exact ⟨F18, b11, rfl, hm21.pick [1] rfl (by decide)⟩
    intro hk1
    clear hj1
    refine Rn.block ?_
    refine Rn.loopF (G := Int × T_limnographref18_Disk × (Nat → Prop)) (fun g => [(0, .slice A0 (x0).length c0), (1, .int .i64 (x1)), (5, .pointer (some ⟨b11, 0, none⟩)), (6, .int .i64 ((g.1)))]) (fun g w' => Hp Z0 No w w' [slR A0 c0 T_api_File.rep x0, T_limnographref18_Disk.obj (g.2.2) b11 (g.2.1)]) (fun n g => m_limnographref18_New_L1 x0 x1 j1 n g.1 g.2.1) fuel (0, ({ L := ([] : List T_limnographref18_File), Capacity := x1, Down := false, Calls := 0, Fail := (-1), Crash := (-1), Err := 0 } : T_limnographref18_Disk), F16) (Sub.cons rfl (Sub.cons rfl (Sub.cons rfl (Sub.cons rfl (Sub.nil _))))) (hm16.pick [0, 1] rfl (by decide)) hM (fun _ => rfl) ?_
    clear hM
    rintro m24 ⟨y22, y23, F23⟩ w24 hm24 hM hn24
    replace hm24 : Hp Z0 No w w24 [slR A0 c0 T_api_File.rep x0, T_limnographref18_Disk.obj F23 b11 y23] := hm24
    show Rn _ _ _ _ _ [(0, .slice A0 (x0).length c0), (1, .int .i64 (x1)), (5, .pointer (some ⟨b11, 0, none⟩)), (6, .int .i64 (y22))] _
    replace hM : m_limnographref18_New_L1 x0 x1 j1 (m24 + 1) y22 y23 = some r := hM
    rw [m_limnographref18_New_L1] at hM
    refine Rn.seq (Rn.seq (Rn.reg (Rn.v rfl rfl rfl rfl (V.mv rfl) (Rn.v rfl rfl rfl rfl (V.mv rfl) (Rn.v rfl rfl rfl rfl (V.lenV Try.underlying38 rfl) (Rn.v rfl rfl rfl rfl (V.lss rfl rfl) (Rn.regEnd ?_)))))))
    refine Rn.condD rfl (fun h25 => ?_) (fun h25 => ?_)
    · replace hM := iteT h25 hM
      refine Rn.skip (Rn.seq (Rn.block (Rn.seq (Rn.reg (Rn.v rfl rfl rfl rfl (V.mv rfl) (Rn.v rfl rfl rfl rfl (V.mv rfl) ?_))))))
      obtain ⟨z26, e26, hM⟩ := bindE hM
      refine Rn.ixH hm24 0 rfl e26 rfl rfl rfl Try.underlying38 Try.sizeOf63 rfl rfl rfl rfl ?_
      rintro b26 o26 vs26 ⟨_, _, rfl, ⟨rfl, _⟩, ⟨A27, c27, rfl, p27, q27, s27⟩⟩ hm26
      have hm30 : Hp Z0 No w w24 [slR A0 c0 T_api_File.rep x0, T_limnographref18_Disk.obj F23 b11 y23, rdR b26 o26 [Str (z26.Name), .slice A27 (z26.Data).length c27], slR A27 c27 byteR z26.Data] := Hp.know1 (M := [slR A27 c27 byteR z26.Data]) hm26 (fun _ h => h) (knC (fun _ h => h) ⟨p27, q27, s27⟩ kn0)
      refine Rn.v rfl rfl rfl rfl (V.ldA Try.isAgg63 Try.sizeOf63 rfl (Rd.pre (hm30.get 2 rfl).2 2) rfl) (Rn.als rfl rfl rfl Try.zeroValue63 rfl Try.sizeOf63 rfl rfl rfl rfl (by first | exact ones rfl | (simp [Value.oneCell']; done)) ?_)
      intro b31 w31 hb31 m31 e31
      have hm33 : Hp Z0 No w w31 [slR A0 c0 T_api_File.rep x0, T_limnographref18_Disk.obj F23 b11 y23, rdR b26 o26 [Str (z26.Name), .slice A27 (z26.Data).length c27], slR A27 c27 byteR z26.Data, boxR b31 63 [Str (z26.Name), .slice A27 (z26.Data).length c27]] := hm30.addBox hb31 e31 m31
      refine Rn.regEnd (Rn.seq (Rn.seq ?_))
      obtain ⟨j2, hj2, hM⟩ := jnE hM
      refine Rn.joinG (r := r) (G := Bool × (Nat → Prop)) (fun g => [(0, .slice A0 (x0).length c0), (1, .int .i64 (x1)), (5, .pointer (some ⟨b11, 0, none⟩)), (6, .int .i64 (y22)), (7, .pointer (some ⟨b31, 0, none⟩)), (52, .bool ((g.1)))]) (fun g w' => Hp Z0 No w w' [slR A0 c0 T_api_File.rep x0, T_limnographref18_Disk.obj (g.2) b11 y23, rdR b26 o26 [Str (z26.Name), .slice A27 (z26.Data).length c27], slR A27 c27 byteR z26.Data, boxR b31 63 [Str (z26.Name), .slice A27 (z26.Data).length c27]]) (fun g => j2 g.1) ?_ ?_
      · subst hj2
        clear hM
        rintro ⟨y35, F34⟩ w36 hm36 hM
        replace hm36 : Hp Z0 No w w36 [slR A0 c0 T_api_File.rep x0, T_limnographref18_Disk.obj F34 b11 y23, rdR b26 o26 [Str (z26.Name), .slice A27 (z26.Data).length c27], slR A27 c27 byteR z26.Data, boxR b31 63 [Str (z26.Name), .slice A27 (z26.Data).length c27]] := hm36
        show Rn _ _ _ _ _ [(0, .slice A0 (x0).length c0), (1, .int .i64 (x1)), (5, .pointer (some ⟨b11, 0, none⟩)), (6, .int .i64 (y22)), (7, .pointer (some ⟨b31, 0, none⟩)), (52, .bool (y35))] _
        try dsimp only at hM
        refine Rn.condS rfl (fun h37 => ?_) (fun h37 => ?_)
        · replace hM := iteT h37 hM
          refine Rn.seq (Rn.reg (Rn.v rfl rfl rfl rfl (V.as rfl) (Rn.regEnd ?_)))
          have hm39 := hm36.addNone (fun z => T_limnographref18_Disk.obj No 0 z)
          have hm40 : Hp Z0 No w w36 [slR A0 c0 T_api_File.rep x0, T_limnographref18_Disk.obj F34 b11 y23, rdR b26 o26 [Str (z26.Name), .slice A27 (z26.Data).length c27], slR A27 c27 byteR z26.Data, boxR b31 63 [Str (z26.Name), .slice A27 (z26.Data).length c27], optR (none : Option T_limnographref18_Disk) (fun z => T_limnographref18_Disk.obj No 0 z)] := hm39
          refine Rn.retG1 Try.func16 rfl (rvT rfl) ?_
          obtain rfl := someE hM
          exact ⟨No, 0, rfl, hm40.pick [5] rfl (by decide)⟩
        · replace hM := iteF (by rw [h37]; exact Bool.false_ne_true) hM
          refine Rn.skip (Rn.reg (Rn.v rfl rfl rfl rfl (V.mv rfl) (Rn.v rfl rfl rfl rfl (V.fa Try.underlying63 rfl Try.sizeOf9 rfl rfl) (Rn.v rfl rfl rfl rfl (V.ldB Try.isAgg9 rfl (hm36.get 4 rfl) rfl) (Rn.v rfl rfl rfl rfl (V.fa Try.underlying63 rfl Try.sizeOf22 rfl rfl) (Rn.v rfl rfl rfl rfl (V.ldB Try.isAgg22 rfl (hm36.get 4 rfl) rfl) (Rn.v rfl rfl rfl rfl (V.fa Try.underlying63 rfl Try.sizeOf22 rfl rfl) (Rn.v rfl rfl rfl rfl (V.ldB Try.isAgg22 rfl (hm36.get 4 rfl) rfl) (Rn.v rfl rfl rfl rfl (V.lenV Try.underlying22 rfl) (Rn.v rfl rfl rfl rfl (V.bldS st87 rfl rfl) ?_))))))))))
          obtain ⟨p41, e41, hM⟩ := bindE hM
          have hm42 := hm36.know (relR T_limnographref18_File.rep [Str (z26.Name), .slice A27 (z26.Data).length c27, .int .i64 ((z26.Data.length : Int))] ({ Name := z26.Name, Data := z26.Data, Sure := (z26.Data.length : Int) } : T_limnographref18_File)) (fun _ h => h) (show T_limnographref18_File.rep.rel _ _ _ _ from ⟨_, _, rfl, ⟨rfl, trivial⟩, ⟨_, _, rfl, ⟨_, _, rfl, (hm36.get 3 rfl).1, (hm36.get 3 rfl).2.1, (hm36.get 3 rfl).2.2⟩, ⟨rfl, trivial⟩⟩⟩)
          have hm44 : Hp Z0 No w w36 ([slR A0 c0 T_api_File.rep x0, rdR b26 o26 [Str (z26.Name), .slice A27 (z26.Data).length c27], slR A27 c27 byteR z26.Data, boxR b31 63 [Str (z26.Name), .slice A27 (z26.Data).length c27]] ++ [T_limnographref18_Disk.obj F34 b11 y23, relR T_limnographref18_File.rep [Str (z26.Name), .slice A27 (z26.Data).length c27, .int .i64 ((z26.Data.length : Int))] ({ Name := z26.Name, Data := z26.Data, Sure := (z26.Data.length : Int) } : T_limnographref18_File)]) := hm42.pick [0, 2, 3, 4, 1, 5] rfl (by decide)
          refine Rn.cl ck41 rfl rfl rfl rfl (m_limnographref18_Disk_put_sim (Z0 := _) _ F34 b11 y23 ({ Name := z26.Name, Data := z26.Data, Sure := (z26.Data.length : Int) } : T_limnographref18_File) [Str (z26.Name), .slice A27 (z26.Data).length c27, .int .i64 ((z26.Data.length : Int))] hm44.lend e41) ?_
          rintro _ w41 ⟨F41_p0, rfl, hq41⟩
          refine ⟨_, rfl, ?_⟩
          have hm46 : Hp Z0 No w w41 [slR A0 c0 T_api_File.rep x0, rdR b26 o26 [Str (z26.Name), .slice A27 (z26.Data).length c27], slR A27 c27 byteR z26.Data, boxR b31 63 [Str (z26.Name), .slice A27 (z26.Data).length c27], T_limnographref18_Disk.obj F41_p0 b11 p41] := hm44.callAZ hq41
          refine Rn.regEnd (Rn.inBlock (Rn.reg (Rn.v rfl rfl rfl rfl (V.mv rfl) (Rn.v rfl rfl rfl rfl (V.addW rfl rfl) (Rn.v rfl rfl rfl rfl (V.as rfl) (Rn.regEnd ?_))))))
          exact hn24 ((W64 (y22 + 1)), p41, F41_p0) _ _ (Sub.cons rfl (Sub.cons rfl (Sub.cons rfl (Sub.cons rfl (Sub.nil _))))) (hm46.pick [0, 4] rfl (by decide)) hM
      intro hk2
      clear hj2
      refine Rn.drawH rfl hm33 ?_
      intro w47 hm47
      refine RH.here fun hS0 => RH.one 0 (by kernel_rfl) rfl rfl rfl rfl (V.fa Try.underlying63 rfl Try.sizeOf9 rfl rfl) hS0 ?_
      refine RH.here fun hS1 => RH.one 1 (by kernel_rfl) rfl rfl rfl rfl (V.ldB Try.isAgg9 rfl (hm47.get 4 rfl) rfl) hS1 ?_
      obtain ⟨p48, e48, hM⟩ := bindE hM
      refine RH.cl ck38 2 (by kernel_rfl) rfl rfl rfl rfl (m_limnographref18_Name_sim (Z0 := All) _ z26.Name  e48) ?_
      rintro _ w48 ⟨rfl, hq48⟩
      refine ⟨_, rfl, ((Ext.refl _).trans hq48.fr), ?_⟩
      have hm49 := hm47.call0 hq48
      refine RH.here fun hS3 => RH.one 3 (by kernel_rfl) rfl rfl rfl rfl (V.notB rfl) hS3 ?_
      refine RH.here fun hS4 => RH.one 4 (by kernel_rfl) rfl rfl rfl rfl (V.mv rfl) hS4 ?_
      refine RH.part (t := 36) rfl (fun h50 => ?_) (fun h50 => ?_)
      · replace hM := iteT h50 hM
        refine RH.no 5 (by kernel_rfl) rfl rfl rfl rfl ?_
        refine RH.no 6 (by kernel_rfl) rfl rfl rfl rfl ?_
        refine RH.no 7 (by kernel_rfl) rfl rfl rfl rfl ?_
        refine RH.no 8 (by kernel_rfl) rfl rfl rfl rfl ?_
        refine RH.no 9 (by kernel_rfl) rfl rfl rfl rfl ?_
        refine RH.here fun hS10 => RH.one 10 (by kernel_rfl) rfl rfl rfl rfl (V.pkT rfl rfl) hS10 ?_
        refine RH.here fun hS11 => RH.one 11 (by kernel_rfl) rfl rfl rfl rfl (V.mv rfl) hS11 ?_
        refine RH.no 12 (by kernel_rfl) rfl rfl rfl rfl ?_
        refine RH.no 13 (by kernel_rfl) rfl rfl rfl rfl ?_
        refine RH.no 14 (by kernel_rfl) rfl rfl rfl rfl ?_
        refine RH.no 15 (by kernel_rfl) rfl rfl rfl rfl ?_
        refine RH.no 16 (by kernel_rfl) rfl rfl rfl rfl ?_
        refine RH.no 17 (by kernel_rfl) rfl rfl rfl rfl ?_
        refine RH.no 18 (by kernel_rfl) rfl rfl rfl rfl ?_
        refine RH.no 19 (by kernel_rfl) rfl rfl rfl rfl ?_
        refine RH.here fun hS20 => RH.one 20 (by kernel_rfl) rfl rfl rfl rfl (V.pkT rfl rfl) hS20 ?_
        refine RH.doneP (by kernel_rfl) ?_
        exact hk2 (true, F23) _ _ (Sub.cons rfl (Sub.cons rfl (Sub.cons rfl (Sub.cons rfl (Sub.cons rfl (Sub.cons rfl (Sub.nil _))))))) (hm49.pick [0, 1, 2, 3, 4] rfl (by decide)) hM
      · replace hM := iteF (by rw [h50]; exact Bool.false_ne_true) hM
        refine RH.take 5 (by kernel_rfl) rfl rfl rfl rfl (fun w' hDr => V.mv rfl) ?_
        refine RH.here fun hS6 => RH.one 6 (by kernel_rfl) rfl rfl rfl rfl (V.fa Try.underlying63 rfl Try.sizeOf9 rfl rfl) hS6 ?_
        refine RH.here fun hS7 => RH.one 7 (by kernel_rfl) rfl rfl rfl rfl (V.ldB Try.isAgg9 rfl (hm49.get 4 rfl) rfl) hS7 ?_
        obtain ⟨p51, e51, hM⟩ := bindE hM
        refine RH.cl ck39 8 (by kernel_rfl) rfl rfl rfl rfl (m_limnographref18_Disk_Find_sim (Z0 := All) _ F23 b11 y23 z26.Name (fz_all (hm49.get 1 rfl)) e51) ?_
        rintro _ w51 ⟨rfl, hq51⟩
        refine ⟨_, rfl, (((Ext.refl _).trans hq48.fr).trans hq51.fr), ?_⟩
        have hm52 := hm49.call0 hq51
        refine RH.here fun hS9 => RH.one 9 (by kernel_rfl) rfl rfl rfl rfl (V.geq rfl rfl) hS9 ?_
        refine RH.here fun hS10 => RH.one 10 (by kernel_rfl) rfl rfl rfl rfl (V.pkF rfl rfl) hS10 ?_
        refine RH.here fun hS11 => RH.one 11 (by kernel_rfl) rfl rfl rfl rfl (V.mv rfl) hS11 ?_
        refine RH.partD (t := 43) rfl (fun h53 => ?_) (fun h53 => ?_)
        · replace hM := iteT h53 hM
          refine RH.no 12 (by kernel_rfl) rfl rfl rfl rfl ?_
          refine RH.no 13 (by kernel_rfl) rfl rfl rfl rfl ?_
          refine RH.no 14 (by kernel_rfl) rfl rfl rfl rfl ?_
          refine RH.no 15 (by kernel_rfl) rfl rfl rfl rfl ?_
          refine RH.no 16 (by kernel_rfl) rfl rfl rfl rfl ?_
          refine RH.no 17 (by kernel_rfl) rfl rfl rfl rfl ?_
          refine RH.no 18 (by kernel_rfl) rfl rfl rfl rfl ?_
          refine RH.no 19 (by kernel_rfl) rfl rfl rfl rfl ?_
          refine RH.here fun hS20 => RH.one 20 (by kernel_rfl) rfl rfl rfl rfl (V.pkT rfl rfl) hS20 ?_
          refine RH.doneP (by kernel_rfl) ?_
          exact hk2 (true, F23) _ _ (Sub.cons rfl (Sub.cons rfl (Sub.cons rfl (Sub.cons rfl (Sub.cons rfl (Sub.cons rfl (Sub.nil _))))))) (hm52.pick [0, 1, 2, 3, 4] rfl (by decide)) hM
        · replace hM := iteF h53 hM
          refine RH.take 12 (by kernel_rfl) rfl rfl rfl rfl (fun w' hDr => V.fa Try.underlying63 rfl Try.sizeOf22 rfl rfl) ?_
          refine RH.take 13 (by kernel_rfl) rfl rfl rfl rfl (fun w' hDr => V.ldB Try.isAgg22 rfl ((hm47.ext hDr).get 4 rfl) rfl) ?_
          refine RH.take 14 (by kernel_rfl) rfl rfl rfl rfl (fun w' hDr => V.lenV Try.underlying22 rfl) ?_
          refine RH.take 15 (by kernel_rfl) rfl rfl rfl rfl (fun w' hDr => V.mv rfl) ?_
          refine RH.here fun hS16 => RH.one 16 (by kernel_rfl) rfl rfl rfl rfl (V.mv rfl) hS16 ?_
          obtain ⟨p54, e54, hM⟩ := bindE hM
          refine RH.cl ck40 17 (by kernel_rfl) rfl rfl rfl rfl (m_limnographref18_Disk_Used_sim (Z0 := All) _ F23 b11 y23 (fz_all (hm52.get 1 rfl)) e54) ?_
          rintro _ w54 ⟨rfl, hq54⟩
          refine ⟨_, rfl, ((((Ext.refl _).trans hq48.fr).trans hq51.fr).trans hq54.fr), ?_⟩
          have hm55 := hm52.call0 hq54
          refine RH.here fun hS18 => RH.one 18 (by kernel_rfl) rfl rfl rfl rfl (V.subW rfl rfl) hS18 ?_
          refine RH.here fun hS19 => RH.one 19 (by kernel_rfl) rfl rfl rfl rfl (V.gtr rfl rfl) hS19 ?_
          refine RH.here fun hS20 => RH.one 20 (by kernel_rfl) rfl rfl rfl rfl (V.pkF rfl rfl) hS20 ?_
          refine RH.doneP (by kernel_rfl) ?_
          exact hk2 ((decide ((z26.Data.length : Int) > W64 (x1 - p54))), F23) _ _ (Sub.cons rfl (Sub.cons rfl (Sub.cons rfl (Sub.cons rfl (Sub.cons rfl (Sub.cons rfl (Sub.nil _))))))) (hm55.pick [0, 1, 2, 3, 4] rfl (by decide)) hM
    · replace hM := iteF h25 hM
      refine Rn.exit rfl ?_
      exact hk1 (y23, F23) _ _ (Sub.cons rfl (Sub.nil _)) (hm24.pick [0, 1] rfl (by decide)) hM

set_option maxRecDepth 20000 in
theorem m_limnographref04_four_sim {Z0 : Nat → Prop} (w : World) (x0 : Int) {r : (List UInt8)}  (hM : m_limnographref04_four x0 = some r) :
    Calls Try.prog 58 #[.int .i64 (x0)] w fun x w' => x = .returned (Str (r)) ∧ Hp Z0 No w w' [] := by
  have hm0 := Hp.nil Z0 No w
  have hc0 := Calm.nil
  refine Rn.enter Try.func58 rfl rfl (Nat.le_of_ble_eq_true rfl) ?_
  refine Rn.seq (Rn.reg (Rn.v rfl rfl rfl rfl (V.as rfl) (Rn.regEnd (Rn.seq (Rn.reg (Rn.v rfl rfl rfl rfl (V.mv rfl) ?_))))))
  obtain ⟨z1, e1, hM⟩ := bindE hM
  refine Rn.v rfl rfl rfl rfl (V.remZ rfl rfl e1) (Rn.v rfl rfl rfl rfl (V.cv8 Try.underlying3 Try.underlying5 rfl) (Rn.v rfl rfl rfl rfl (V.mv rfl) ?_))
  obtain ⟨z2, e2, hM⟩ := bindE hM
  refine Rn.v rfl rfl rfl rfl (V.quoZ rfl rfl e2) ?_
  obtain ⟨z3, e3, hM⟩ := bindE hM
  refine Rn.v rfl rfl rfl rfl (V.remZ rfl rfl e3) (Rn.v rfl rfl rfl rfl (V.cv8 Try.underlying3 Try.underlying5 rfl) (Rn.v rfl rfl rfl rfl (V.mv rfl) ?_))
  obtain ⟨z4, e4, hM⟩ := bindE hM
  refine Rn.v rfl rfl rfl rfl (V.quoZ rfl rfl e4) ?_
  obtain ⟨z5, e5, hM⟩ := bindE hM
  refine Rn.v rfl rfl rfl rfl (V.remZ rfl rfl e5) (Rn.v rfl rfl rfl rfl (V.cv8 Try.underlying3 Try.underlying5 rfl) (Rn.v rfl rfl rfl rfl (V.mv rfl) ?_))
  obtain ⟨z6, e6, hM⟩ := bindE hM
  refine Rn.v rfl rfl rfl rfl (V.quoZ rfl rfl e6) (Rn.v rfl rfl rfl rfl (V.cv8 Try.underlying3 Try.underlying5 rfl) (Rn.bslS rfl rfl rfl Try.underlying22 el5 rfl rfl rfl rfl (by first | exact szs rfl | (simp [Value.cells]; done)) (by decide) ?_))
  intro b7 w7 hb7 m7 e7
  have hm8 := hm0.addLit (rep := byteR) (xs := ([toU8 z1, toU8 z3, toU8 z5, toU8 z6] : List UInt8)) (vss := [[.int .u8 (((toU8 z1).toNat : Nat) : Int)], [.int .u8 (((toU8 z3).toNat : Nat) : Int)], [.int .u8 (((toU8 z5).toNat : Nat) : Int)], [.int .u8 (((toU8 z6).toNat : Nat) : Int)]]) hb7 e7 m7 rfl rfl rfl ((rels_cons (fun _ _ => ⟨rfl, trivial⟩) (rels_cons (fun _ _ => ⟨rfl, trivial⟩) (rels_cons (fun _ _ => ⟨rfl, trivial⟩) (rels_cons (fun _ _ => ⟨rfl, trivial⟩) rels0)))))
  refine Rn.v rfl rfl rfl rfl (V.b2s Try.underlying22 Try.underlying9 Try.underlying5 rfl rfl (Own.sl (hm8.get 0 rfl))) (Rn.v rfl rfl rfl rfl (V.as rfl) (Rn.regEnd ?_))
  refine Rn.retG1 Try.func58 rfl (rvT rfl) ?_
  obtain rfl := someE hM
  exact ⟨rfl, hm8.pick [] rfl (by decide)⟩

set_option maxRecDepth 20000 in
theorem m_limnographref03_Step_sim {Z0 : Nat → Prop} (w : World) (x0 : UInt32) {r : UInt32}  (hM : m_limnographref03_Step x0 = some r) :
    Calls Try.prog 83 #[.int .u32 (((x0).toNat : Nat) : Int)] w fun x w' => x = .returned (.int .u32 (((r).toNat : Nat) : Int)) ∧ Hp Z0 No w w' [] := by
  have hm0 := Hp.nil Z0 No w
  have hc0 := Calm.nil
  refine Rn.enter Try.func83 rfl rfl (Nat.le_of_ble_eq_true rfl) ?_
  refine Rn.seq (Rn.reg (Rn.v rfl rfl rfl rfl (V.as rfl) (Rn.regEnd (Rn.seq (Rn.reg (Rn.v rfl rfl rfl rfl (V.mv rfl) ?_))))))
  obtain ⟨z1, e1, hM⟩ := bindE hM
  refine Rn.v rfl rfl rfl rfl (V.rem32 rfl rfl e1) (Rn.v rfl rfl rfl rfl (V.as rfl) (Rn.regEnd (Rn.seq (Rn.reg (Rn.v rfl rfl rfl rfl (V.mv rfl) ?_)))))
  obtain ⟨z2, e2, hM⟩ := bindE hM
  refine Rn.v rfl rfl rfl rfl (V.quo32 rfl rfl e2) (Rn.v rfl rfl rfl rfl (V.as rfl) (Rn.regEnd (Rn.seq (Rn.seq (Rn.reg (Rn.v rfl rfl rfl rfl (V.mv rfl) (Rn.v rfl rfl rfl rfl (V.eql rfl rfl) (Rn.regEnd ?_))))))))
  obtain ⟨j1, hj1, hM⟩ := jnE hM
  refine Rn.joinG (r := r) (G := UInt32) (fun g => [(0, .int .u32 (((g).toNat : Nat) : Int))]) (fun g w' => Hp Z0 No w w' []) (fun g => j1 g) ?_ ?_
  · subst hj1
    clear hM
    rintro y3 w4 hm4 hM
    replace hm4 : Hp Z0 No w w4 [] := hm4
    show Rn _ _ _ _ _ [(0, .int .u32 (((y3).toNat : Nat) : Int))] _
    try dsimp only at hM
    refine Rn.seq (Rn.reg (Rn.v rfl rfl rfl rfl (V.mv rfl) (Rn.v rfl rfl rfl rfl (V.as rfl) (Rn.regEnd ?_))))
    refine Rn.retG1 Try.func83 rfl (rvT rfl) ?_
    obtain rfl := someE hM
    exact ⟨rfl, hm4.pick [] rfl (by decide)⟩
  intro hk1
  clear hj1
  refine Rn.condD rfl (fun h5 => ?_) (fun h5 => ?_)
  · replace hM := iteT h5 hM
    refine Rn.reg (Rn.v rfl rfl rfl rfl (V.mv rfl) (Rn.v rfl rfl rfl rfl (V.o32 rfl rfl z2 (2197175160 : UInt32) rfl rfl (b32_xor _ _ _)) (Rn.v rfl rfl rfl rfl (V.as rfl) (Rn.regEnd ?_))))
    exact hk1 (z2 ^^^ (2197175160 : UInt32)) _ _ (Sub.cons rfl (Sub.nil _)) (hm0.pick [] rfl (by decide)) hM
  · replace hM := iteF h5 hM
    refine Rn.skip ?_
    exact hk1 z2 _ _ (Sub.cons rfl (Sub.nil _)) (hm0.pick [] rfl (by decide)) hM

set_option maxRecDepth 20000 in
theorem m_limnographref03_More_sim {Z0 : Nat → Prop} (w : World) (x0 : UInt32) (A1 : Option Addr) (c1 : Nat) (x1 : (List UInt8)) {r : UInt32} (f0 : (slR A1 c1 byteR x1).H Z0 w) (hM : m_limnographref03_More x0 x1 = some r) :
    Calls Try.prog 70 #[.int .u32 (((x0).toNat : Nat) : Int), .slice A1 (x1).length c1] w fun x w' => x = .returned (.int .u32 (((r).toNat : Nat) : Int)) ∧ Hp Z0 No w w' [] := by
  have hm0 := Hp.nil Z0 No w
  have hc0 := Calm.nil
  have hm2 := hm0.know (slR A1 c1 byteR x1) (fun _ h => h) (hm0.in0 hc0 f0)
  replace hc0 := hc0.snoc (r := slR A1 c1 byteR x1) (fun _ h => h)
  refine Rn.enter Try.func70 rfl rfl (Nat.le_of_ble_eq_true rfl) ?_
  refine Rn.seq (Rn.reg (Rn.v rfl rfl rfl rfl (V.as rfl) (Rn.regEnd (Rn.seq (Rn.seq (Rn.reg (Rn.v rfl rfl rfl rfl (V.as rfl) (Rn.regEnd ?_))))))))
  obtain ⟨j1, hj1, hM⟩ := jnE hM
  refine Rn.joinG (r := r) (G := UInt32) (fun g => [(0, .int .u32 (((g).toNat : Nat) : Int))]) (fun g w' => Hp Z0 No w w' [slR A1 c1 byteR x1]) (fun g => j1 g) ?_ ?_
  · subst hj1
    clear hM
    rintro y3 w4 hm4 hM
    replace hm4 : Hp Z0 No w w4 [slR A1 c1 byteR x1] := hm4
    show Rn _ _ _ _ _ [(0, .int .u32 (((y3).toNat : Nat) : Int))] _
    try dsimp only at hM
    refine Rn.seq (Rn.reg (Rn.v rfl rfl rfl rfl (V.mv rfl) (Rn.v rfl rfl rfl rfl (V.as rfl) (Rn.regEnd ?_))))
    refine Rn.retG1 Try.func70 rfl (rvT rfl) ?_
    obtain rfl := someE hM
    exact ⟨rfl, hm4.pick [] rfl (by decide)⟩
  intro hk1
  clear hj1
  refine Rn.block ?_
  refine Rn.loopF (G := UInt32 × Int) (fun g => [(0, .int .u32 ((((g.1)).toNat : Nat) : Int)), (1, .slice A1 (x1).length c1), (5, .int .i64 ((g.2)))]) (fun g w' => Hp Z0 No w w' [slR A1 c1 byteR x1]) (fun n g => m_limnographref03_More_L1 x1 j1 n g.1 g.2) fuel (x0, 0) (Sub.cons rfl (Sub.cons rfl (Sub.cons rfl (Sub.nil _)))) (hm2.pick [0] rfl (by decide)) hM (fun _ => rfl) ?_
  clear hM
  rintro m7 ⟨y5, y6⟩ w7 hm7 hM hn7
  replace hm7 : Hp Z0 No w w7 [slR A1 c1 byteR x1] := hm7
  show Rn _ _ _ _ _ [(0, .int .u32 (((y5).toNat : Nat) : Int)), (1, .slice A1 (x1).length c1), (5, .int .i64 (y6))] _
  replace hM : m_limnographref03_More_L1 x1 j1 (m7 + 1) y5 y6 = some r := hM
  rw [m_limnographref03_More_L1] at hM
  refine Rn.seq (Rn.seq (Rn.reg (Rn.v rfl rfl rfl rfl (V.mv rfl) (Rn.v rfl rfl rfl rfl (V.mv rfl) (Rn.v rfl rfl rfl rfl (V.lenV Try.underlying22 rfl) (Rn.v rfl rfl rfl rfl (V.lss rfl rfl) (Rn.regEnd ?_)))))))
  refine Rn.condD rfl (fun h8 => ?_) (fun h8 => ?_)
  · replace hM := iteT h8 hM
    refine Rn.skip (Rn.seq (Rn.block (Rn.seq (Rn.reg (Rn.v rfl rfl rfl rfl (V.mv rfl) (Rn.v rfl rfl rfl rfl (V.mv rfl) (Rn.v rfl rfl rfl rfl (V.mv rfl) ?_)))))))
    obtain ⟨z9, e9, hM⟩ := bindE hM
    refine Rn.ixH hm7 0 rfl e9 rfl rfl rfl Try.underlying22 Try.sizeOf5 rfl rfl rfl rfl ?_
    rintro b9 o9 vs9 ⟨rfl, _⟩ hm9
    refine Rn.v rfl rfl rfl rfl (V.ldR0 Try.isAgg5 rfl (hm9.get 1 rfl).2 rfl) (Rn.v rfl rfl rfl rfl (V.cv32 Try.underlying5 Try.underlying92 rfl) (Rn.v rfl rfl rfl rfl (V.o32 rfl rfl y5 (toU32 ((z9).toNat : Int)) rfl rfl (b32_xor _ _ _)) (Rn.v rfl rfl rfl rfl (V.as rfl) (Rn.regEnd (Rn.seq (Rn.reg (Rn.v rfl rfl rfl rfl (V.as rfl) (Rn.regEnd ?_))))))))
    obtain ⟨j2, hj2, hM⟩ := jnE hM
    refine Rn.joinG (r := r) (G := UInt32) (fun g => [(0, .int .u32 (((g).toNat : Nat) : Int)), (1, .slice A1 (x1).length c1), (5, .int .i64 (y6))]) (fun g w' => Hp Z0 No w w' [slR A1 c1 byteR x1, rdR b9 o9 [.int .u8 (((z9).toNat : Nat) : Int)]]) (fun g => j2 g) ?_ ?_
    · subst hj2
      clear hM
      rintro y11 w12 hm12 hM
      replace hm12 : Hp Z0 No w w12 [slR A1 c1 byteR x1, rdR b9 o9 [.int .u8 (((z9).toNat : Nat) : Int)]] := hm12
      show Rn _ _ _ _ _ [(0, .int .u32 (((y11).toNat : Nat) : Int)), (1, .slice A1 (x1).length c1), (5, .int .i64 (y6))] _
      try dsimp only at hM
      refine Rn.inBlock (Rn.reg (Rn.v rfl rfl rfl rfl (V.mv rfl) (Rn.v rfl rfl rfl rfl (V.addW rfl rfl) (Rn.v rfl rfl rfl rfl (V.as rfl) (Rn.regEnd ?_)))))
      exact hn7 (y11, (W64 (y6 + 1))) _ _ (Sub.cons rfl (Sub.cons rfl (Sub.cons rfl (Sub.nil _)))) (hm12.pick [0] rfl (by decide)) hM
    intro hk2
    clear hj2
    refine Rn.block ?_
    refine Rn.loopF (G := UInt32 × Int) (fun g => [(0, .int .u32 ((((g.1)).toNat : Nat) : Int)), (1, .slice A1 (x1).length c1), (5, .int .i64 (y6)), (6, .int .i64 ((g.2)))]) (fun g w' => Hp Z0 No w w' [slR A1 c1 byteR x1, rdR b9 o9 [.int .u8 (((z9).toNat : Nat) : Int)]]) (fun n g => m_limnographref03_More_L2 j2 n g.1 g.2) fuel ((y5 ^^^ (toU32 ((z9).toNat : Int))), 0) (Sub.cons rfl (Sub.cons rfl (Sub.cons rfl (Sub.cons rfl (Sub.nil _))))) (hm9.pick [0, 1] rfl (by decide)) hM (fun _ => rfl) ?_
    clear hM
    rintro m15 ⟨y13, y14⟩ w15 hm15 hM hn15
    replace hm15 : Hp Z0 No w w15 [slR A1 c1 byteR x1, rdR b9 o9 [.int .u8 (((z9).toNat : Nat) : Int)]] := hm15
    show Rn _ _ _ _ _ [(0, .int .u32 (((y13).toNat : Nat) : Int)), (1, .slice A1 (x1).length c1), (5, .int .i64 (y6)), (6, .int .i64 (y14))] _
    replace hM : m_limnographref03_More_L2 j2 (m15 + 1) y13 y14 = some r := hM
    rw [m_limnographref03_More_L2] at hM
    refine Rn.seq (Rn.seq (Rn.reg (Rn.v rfl rfl rfl rfl (V.mv rfl) (Rn.v rfl rfl rfl rfl (V.lss rfl rfl) (Rn.regEnd ?_)))))
    refine Rn.condD rfl (fun h16 => ?_) (fun h16 => ?_)
    · replace hM := iteT h16 hM
      refine Rn.skip (Rn.seq (Rn.block (Rn.reg (Rn.v rfl rfl rfl rfl (V.mv rfl) ?_))))
      obtain ⟨p17, e17, hM⟩ := bindE hM
      refine Rn.cl ck83 rfl rfl rfl rfl (m_limnographref03_Step_sim (Z0 := All) _ y13  e17) ?_
      rintro _ w17 ⟨rfl, hq17⟩
      refine ⟨_, rfl, ?_⟩
      have hm18 := hm15.call0 hq17
      refine Rn.v rfl rfl rfl rfl (V.as rfl) (Rn.regEnd (Rn.inBlock (Rn.reg (Rn.v rfl rfl rfl rfl (V.mv rfl) (Rn.v rfl rfl rfl rfl (V.addW rfl rfl) (Rn.v rfl rfl rfl rfl (V.as rfl) (Rn.regEnd ?_)))))))
      exact hn15 (p17, (W64 (y14 + 1))) _ _ (Sub.cons rfl (Sub.cons rfl (Sub.cons rfl (Sub.cons rfl (Sub.nil _))))) (hm18.pick [0, 1] rfl (by decide)) hM
    · replace hM := iteF h16 hM
      refine Rn.exit rfl ?_
      exact hk2 y13 _ _ (Sub.cons rfl (Sub.cons rfl (Sub.cons rfl (Sub.nil _)))) (hm15.pick [0, 1] rfl (by decide)) hM
  · replace hM := iteF h8 hM
    refine Rn.exit rfl ?_
    exact hk1 y5 _ _ (Sub.cons rfl (Sub.nil _)) (hm7.pick [0] rfl (by decide)) hM

set_option maxRecDepth 20000 in
theorem m_limnographref03_Of_sim {Z0 : Nat → Prop} (w : World) (A0 : Option Addr) (c0 : Nat) (x0 : (List UInt8)) {r : UInt32} (f0 : (slR A0 c0 byteR x0).H Z0 w) (hM : m_limnographref03_Of x0 = some r) :
    Calls Try.prog 59 #[.slice A0 (x0).length c0] w fun x w' => x = .returned (.int .u32 (((r).toNat : Nat) : Int)) ∧ Hp Z0 No w w' [] := by
  have hm0 := Hp.nil Z0 No w
  have hc0 := Calm.nil
  have hm2 := hm0.know (slR A0 c0 byteR x0) (fun _ h => h) (hm0.in0 hc0 f0)
  replace hc0 := hc0.snoc (r := slR A0 c0 byteR x0) (fun _ h => h)
  refine Rn.enter Try.func59 rfl rfl (Nat.le_of_ble_eq_true rfl) ?_
  refine Rn.seq (Rn.reg (Rn.v rfl rfl rfl rfl (V.as rfl) (Rn.regEnd (Rn.seq (Rn.reg (Rn.v rfl rfl rfl rfl (V.mv rfl) ?_))))))
  obtain ⟨p3, e3, hM⟩ := bindE hM
  refine Rn.cl ck70 rfl rfl rfl rfl (m_limnographref03_More_sim (Z0 := All) _ (4294967295 : UInt32) A0 c0 x0 (slR_all (hm2.get 0 rfl)) e3) ?_
  rintro _ w3 ⟨rfl, hq3⟩
  refine ⟨_, rfl, ?_⟩
  have hm4 := hm2.call0 hq3
  refine Rn.v rfl rfl rfl rfl (V.ari32 (a := (4294967295 : UInt32)) (b := p3) rfl rfl _ rfl (toU32_sub _ _)) (Rn.v rfl rfl rfl rfl (V.as rfl) (Rn.regEnd ?_))
  refine Rn.retG1 Try.func59 rfl (rvT rfl) ?_
  obtain rfl := someE hM
  exact ⟨rfl, hm4.pick [] rfl (by decide)⟩

set_option maxRecDepth 20000 in
theorem m_limnographref04_Wrap_sim {Z0 : Nat → Prop} (w : World) (A0 : Option Addr) (c0 : Nat) (x0 : (List UInt8)) {r : ((List UInt8) × Int)} (f0 : (slR A0 c0 byteR x0).H Z0 w) (hM : m_limnographref04_Wrap x0 = some r) :
    Calls Try.prog 42 #[.slice A0 (x0).length c0] w fun x w' => ∃ A_0_0 c_0_0, x = .returned (.tuple #[.slice A_0_0 (r.1).length c_0_0, .int .i64 (r.2)]) ∧ Hp Z0 No w w' [slR A_0_0 c_0_0 byteR r.1] := by
  have hm0 := Hp.nil Z0 No w
  have hc0 := Calm.nil
  have hm2 := hm0.know (slR A0 c0 byteR x0) (fun _ h => h) (hm0.in0 hc0 f0)
  replace hc0 := hc0.snoc (r := slR A0 c0 byteR x0) (fun _ h => h)
  refine Rn.enter Try.func42 rfl rfl (Nat.le_of_ble_eq_true rfl) ?_
  refine Rn.seq (Rn.reg (Rn.v rfl rfl rfl rfl (V.as rfl) (Rn.v rfl rfl rfl rfl (V.as rfl) (Rn.regEnd (Rn.seq (Rn.seq (Rn.reg (Rn.v rfl rfl rfl rfl (V.mv rfl) (Rn.v rfl rfl rfl rfl (V.lenV Try.underlying22 rfl) (Rn.v rfl rfl rfl rfl (V.gtr rfl rfl) (Rn.regEnd ?_)))))))))))
  refine Rn.condD rfl (fun h3 => ?_) (fun h3 => ?_)
  · replace hM := iteT h3 hM
    refine Rn.seq (Rn.reg (Rn.v rfl rfl rfl rfl (V.as rfl) (Rn.v rfl rfl rfl rfl (V.as rfl) (Rn.regEnd ?_))))
    have hm4 := hm2.addNil 5 byteR
    have hm7 := hm4.freeze 1 rfl
    refine Rn.retG2 Try.func42 rfl (rvT rfl) (rvT rfl) ?_
    obtain rfl := someE hM
    exact ⟨none, 0, rfl, hm7.pick [1] rfl (by decide)⟩
  · replace hM := iteF h3 hM
    refine Rn.skip (Rn.seq (Rn.reg (Rn.v rfl rfl rfl rfl (V.mv rfl) (Rn.v rfl rfl rfl rfl (V.lenV Try.underlying22 rfl) ?_))))
    obtain ⟨p8, e8, hM⟩ := bindE hM
    refine Rn.cl ck58 rfl rfl rfl rfl (m_limnographref04_four_sim (Z0 := All) _ (x0.length : Int)  e8) ?_
    rintro _ w8 ⟨rfl, hq8⟩
    refine ⟨_, rfl, ?_⟩
    have hm9 := hm2.call0 hq8
    obtain ⟨z10, e10, hM⟩ := bindE hM
    refine Rn.v rfl rfl rfl rfl (V.catZ rfl rfl e10) (Rn.v rfl rfl rfl rfl (V.as rfl) (Rn.regEnd (Rn.seq ?_)))
    refine Rn.drawH rfl hm9 ?_
    intro w11 hm11
    refine RH.take 0 (by kernel_rfl) rfl rfl rfl rfl (fun w' hDr => V.mv rfl) ?_
    refine RH.take 1 (by kernel_rfl) rfl rfl rfl rfl (fun w' hDr => V.mv rfl) ?_
    refine RH.take 2 (by kernel_rfl) rfl rfl rfl rfl (fun w' hDr => V.mv rfl) ?_
    refine RH.take 3 (by kernel_rfl) rfl rfl rfl rfl (fun w' hDr => V.b2s Try.underlying22 Try.underlying9 Try.underlying5 rfl rfl ((hm11.ext hDr).get 0 rfl).2.2) ?_
    obtain ⟨z12, e12, hM⟩ := bindE hM
    refine RH.take 4 (by kernel_rfl) rfl rfl rfl rfl (fun w' hDr => V.catZ rfl rfl e12) ?_
    refine RH.take 10 (by kernel_rfl) rfl rfl rfl rfl (fun w' hDr => V.mv rfl) ?_
    refine RH.take 11 (by kernel_rfl) rfl rfl rfl rfl (fun w' hDr => V.b2s Try.underlying22 Try.underlying9 Try.underlying5 rfl rfl ((hm11.ext hDr).get 0 rfl).2.2) ?_
    obtain ⟨z13, e13, hM⟩ := bindE hM
    refine RH.s2bH 5 (by kernel_rfl) hm11 e13 rfl rfl rfl Try.underlying9 Try.underlying22 Try.underlying5 rfl ?_
    intro A13 c13 w13 hm13 e13
    refine ⟨((Ext.refl _).trans e13), ?_⟩
    obtain ⟨p15, e15, hM⟩ := bindE hM
    refine RH.cl ck59 6 (by kernel_rfl) rfl rfl rfl rfl (m_limnographref03_Of_sim (Z0 := All) _ A13 c13 z13 (slR_all (hm13.get 1 rfl)) e15) ?_
    rintro _ w15 ⟨rfl, hq15⟩
    refine ⟨_, rfl, (((Ext.refl _).trans e13).trans hq15.fr), ?_⟩
    have hm16 := hm13.call0 hq15
    refine RH.here fun hS7 => RH.one 7 (by kernel_rfl) rfl rfl rfl rfl (V.cv32i (a := p15) Try.underlying92 Try.underlying3 rfl) hS7 ?_
    obtain ⟨p17, e17, hM⟩ := bindE hM
    refine RH.cl ck58 8 (by kernel_rfl) rfl rfl rfl rfl (m_limnographref04_four_sim (Z0 := All) _ (p15.toNat : Int)  e17) ?_
    rintro _ w17 ⟨rfl, hq17⟩
    refine ⟨_, rfl, ((((Ext.refl _).trans e13).trans hq15.fr).trans hq17.fr), ?_⟩
    have hm18 := hm16.call0 hq17
    obtain ⟨z19, e19, hM⟩ := bindE hM
    refine RH.here fun hS9 => RH.one 9 (by kernel_rfl) rfl rfl rfl rfl (V.catZ rfl rfl e19) hS9 ?_
    obtain ⟨z20, e20, hM⟩ := bindE hM
    refine RH.here fun hS12 => RH.one 12 (by kernel_rfl) rfl rfl rfl rfl (V.catZ rfl rfl e20) hS12 ?_
    obtain ⟨z21, e21, hM⟩ := bindE hM
    refine RH.s2bH 13 (by kernel_rfl) hm18 e21 rfl rfl rfl Try.underlying9 Try.underlying22 Try.underlying5 rfl ?_
    intro A21 c21 w21 hm21 e21
    refine ⟨(((((Ext.refl _).trans e13).trans hq15.fr).trans hq17.fr).trans e21), ?_⟩
    refine RH.here fun hS14 => RH.one 14 (by kernel_rfl) rfl rfl rfl rfl (V.as rfl) hS14 ?_
    refine RH.here fun hS15 => RH.one 15 (by kernel_rfl) rfl rfl rfl rfl (V.as rfl) hS15 ?_
    refine RH.doneP (by kernel_rfl) ?_
    refine Rn.retG2 Try.func42 rfl (rvT rfl) (rvT rfl) ?_
    obtain rfl := someE hM
    exact ⟨A21, c21, rfl, hm21.pick [2] rfl (by decide)⟩

set_option maxRecDepth 20000 in
theorem m_limnographref18_Disk_begin_sim {Z0 : Nat → Prop} (w : World) (F0 : Nat → Prop) (b0 : Nat) (x0 : T_limnographref18_Disk) {r : (Int × T_limnographref18_Disk)} (hL : Lent Z0 w [T_limnographref18_Disk.obj F0 b0 x0]) (hM : m_limnographref18_Disk_begin x0 = some r) :
    Calls Try.prog 64 #[.pointer (some ⟨b0, 0, none⟩)] w fun x w' => ∃ F_p0, x = .returned (.int .i64 (r.1)) ∧ Hp Z0 (LS [T_limnographref18_Disk.obj F0 b0 x0]) w w' [T_limnographref18_Disk.obj F_p0 b0 r.2] := by
  have hm0 := hL.start
  refine Rn.enter Try.func64 rfl rfl (Nat.le_of_ble_eq_true rfl) ?_
  refine Rn.seq (Rn.reg (Rn.v rfl rfl rfl rfl (V.as rfl) (Rn.regEnd (Rn.seq (Rn.seq (Rn.reg (Rn.v rfl rfl rfl rfl (V.mv rfl) (Rn.v rfl rfl rfl rfl (V.nil rfl) (Rn.v rfl rfl rfl rfl (V.fa Try.underlying52 rfl Try.sizeOf4 rfl rfl) ?_)))))))))
  obtain ⟨_, ⟨A2_0, c2_0, rfl⟩, hm2⟩ := hm0.unf 0 rfl
  replace hm2 : Hp Z0 (LS [T_limnographref18_Disk.obj F0 b0 x0]) w w [boxR b0 52 [.slice A2_0 (x0.L).length c2_0, .int .i64 (x0.Capacity), .bool (x0.Down), .int .i64 (x0.Calls), .int .i64 (x0.Fail), .int .i64 (x0.Crash), .int .i64 (x0.Err)], ownR 87 A2_0 c2_0 T_limnographref18_File.rep x0.L] := hm2
  refine Rn.v rfl rfl rfl rfl (V.ldB Try.isAgg4 rfl (hm2.get 0 rfl) rfl) (Rn.regEnd ?_)
  refine Rn.condS rfl (fun h4 => ?_) (fun h4 => ?_)
  · replace hM := iteT h4 hM
    refine Rn.seq (Rn.reg (Rn.v rfl rfl rfl rfl (V.as rfl) (Rn.regEnd ?_)))
    have hm6 : Hp Z0 (LS [T_limnographref18_Disk.obj F0 b0 x0]) w w ([] ++ [boxR b0 52 [.slice A2_0 (x0.L).length c2_0, .int .i64 (x0.Capacity), .bool (x0.Down), .int .i64 (x0.Calls), .int .i64 (x0.Fail), .int .i64 (x0.Crash), .int .i64 (x0.Err)], ownR 87 A2_0 c2_0 T_limnographref18_File.rep x0.L]) := hm2.pick [0, 1] rfl (by decide)
    obtain ⟨F5, hm5⟩ := hm6.fold (T_limnographref18_Disk.sh b0 x0) ⟨A2_0, c2_0, rfl⟩
    replace hm5 : Hp Z0 (LS [T_limnographref18_Disk.obj F0 b0 x0]) w w [T_limnographref18_Disk.obj F5 b0 x0] := hm5
    refine Rn.retG1 Try.func64 rfl (rvT rfl) ?_
    obtain rfl := someE hM
    exact ⟨F5, rfl, hm5.pick [0] rfl (by decide)⟩
  · replace hM := iteF (by rw [h4]; exact Bool.false_ne_true) hM
    refine Rn.skip (Rn.seq (Rn.reg (Rn.v rfl rfl rfl rfl (V.mv rfl) (Rn.v rfl rfl rfl rfl (V.mv rfl) (Rn.v rfl rfl rfl rfl (V.nil rfl) (Rn.v rfl rfl rfl rfl (V.fa Try.underlying52 rfl Try.sizeOf3 rfl rfl) (Rn.v rfl rfl rfl rfl (V.ldB Try.isAgg3 rfl (hm2.get 0 rfl) rfl) (Rn.v rfl rfl rfl rfl (V.addW rfl rfl) (Rn.v rfl rfl rfl rfl (V.nil rfl) (Rn.v rfl rfl rfl rfl (V.fa Try.underlying52 rfl Try.sizeOf3 rfl rfl) (Rn.st rfl rfl Try.sizeOf3 rfl rfl rfl rfl (by first | exact ones rfl | (simp [Value.oneCell']; done)) (hm2.get 0 rfl) (by first | exact Nat.le_of_ble_eq_true rfl | (simp; done)) ?_)))))))))))
    intro w7 m7 x7
    have hm8 : Hp Z0 (LS [T_limnographref18_Disk.obj F0 b0 x0]) w w7 [boxR b0 52 [.slice A2_0 (x0.L).length c2_0, .int .i64 (x0.Capacity), .bool (x0.Down), .int .i64 (W64 (x0.Calls + 1)), .int .i64 (x0.Fail), .int .i64 (x0.Crash), .int .i64 (x0.Err)], ownR 87 A2_0 c2_0 T_limnographref18_File.rep x0.L] := hm2.st 0 rfl x7 m7
    refine Rn.regEnd (Rn.seq ?_)
    refine Rn.drawP rfl hm8 ?_
    intro w9 hm9
    refine RH.takeP 0 (by kernel_rfl) rfl rfl rfl rfl (V.mv rfl) ?_
    refine RH.takeP 1 (by kernel_rfl) rfl rfl rfl rfl (V.nil rfl) ?_
    refine RH.takeP 2 (by kernel_rfl) rfl rfl rfl rfl (V.fa Try.underlying52 rfl Try.sizeOf3 rfl rfl) ?_
    refine RH.takeP 3 (by kernel_rfl) rfl rfl rfl rfl (V.ldB Try.isAgg3 rfl (hm9.get 0 rfl) rfl) ?_
    refine RH.takeP 4 (by kernel_rfl) rfl rfl rfl rfl (V.eql rfl rfl) ?_
    refine RH.takeP 5 (by kernel_rfl) rfl rfl rfl rfl (V.mv rfl) ?_
    refine RH.takeP 6 (by kernel_rfl) rfl rfl rfl rfl (V.nil rfl) ?_
    refine RH.takeP 7 (by kernel_rfl) rfl rfl rfl rfl (V.fa Try.underlying52 rfl Try.sizeOf3 rfl rfl) ?_
    refine RH.takeP 8 (by kernel_rfl) rfl rfl rfl rfl (V.ldB Try.isAgg3 rfl (hm9.get 0 rfl) rfl) ?_
    refine RH.takeP 9 (by kernel_rfl) rfl rfl rfl rfl (V.eql rfl rfl) ?_
    refine RH.takeP 10 (by kernel_rfl) rfl rfl rfl rfl (V.as rfl) ?_
    refine RH.takeP 11 (by kernel_rfl) rfl rfl rfl rfl (V.as rfl) ?_
    refine RH.doneP (by kernel_rfl) ?_
    refine Rn.seq (Rn.seq (Rn.reg (Rn.v rfl rfl rfl rfl (V.mv rfl) (Rn.v rfl rfl rfl rfl (V.nil rfl) (Rn.v rfl rfl rfl rfl (V.fa Try.underlying52 rfl Try.sizeOf3 rfl rfl) (Rn.v rfl rfl rfl rfl (V.ldB Try.isAgg3 rfl (hm9.get 0 rfl) rfl) (Rn.v rfl rfl rfl rfl (V.geq rfl rfl) (Rn.regEnd ?_))))))))
    have hm11 : Hp Z0 (LS [T_limnographref18_Disk.obj F0 b0 x0]) w w9 ([] ++ [boxR b0 52 [.slice A2_0 (x0.L).length c2_0, .int .i64 (x0.Capacity), .bool (x0.Down), .int .i64 (W64 (x0.Calls + 1)), .int .i64 (x0.Fail), .int .i64 (x0.Crash), .int .i64 (x0.Err)], ownR 87 A2_0 c2_0 T_limnographref18_File.rep x0.L]) := hm9.pick [0, 1] rfl (by decide)
    obtain ⟨F10, hm10⟩ := hm11.fold (T_limnographref18_Disk.sh b0 ({ L := x0.L, Capacity := x0.Capacity, Down := x0.Down, Calls := W64 (x0.Calls + 1), Fail := x0.Fail, Crash := x0.Crash, Err := x0.Err } : T_limnographref18_Disk)) ⟨A2_0, c2_0, rfl⟩
    replace hm10 : Hp Z0 (LS [T_limnographref18_Disk.obj F0 b0 x0]) w w9 [T_limnographref18_Disk.obj F10 b0 ({ L := x0.L, Capacity := x0.Capacity, Down := x0.Down, Calls := W64 (x0.Calls + 1), Fail := x0.Fail, Crash := x0.Crash, Err := x0.Err } : T_limnographref18_Disk)] := hm10
    obtain ⟨j1, hj1, hM⟩ := jnE hM
    refine Rn.joinG (r := r) (G := T_limnographref18_Disk × (Nat → Prop)) (fun g => [(0, .pointer (some ⟨b0, 0, none⟩)), (3, .bool (decide (x0.Crash = 0))), (4, .bool (decide (x0.Fail = 0)))]) (fun g w' => Hp Z0 (LS [T_limnographref18_Disk.obj F0 b0 x0]) w w' [T_limnographref18_Disk.obj (g.2) b0 (g.1)]) (fun g => j1 g.1) ?_ ?_
    · subst hj1
      clear hM
      rintro ⟨y12, F12⟩ w13 hm13 hM
      replace hm13 : Hp Z0 (LS [T_limnographref18_Disk.obj F0 b0 x0]) w w13 [T_limnographref18_Disk.obj F12 b0 y12] := hm13
      show Rn _ _ _ _ _ [(0, .pointer (some ⟨b0, 0, none⟩)), (3, .bool (decide (x0.Crash = 0))), (4, .bool (decide (x0.Fail = 0)))] _
      try dsimp only at hM
      refine Rn.seq (Rn.seq (Rn.reg (Rn.v rfl rfl rfl rfl (V.mv rfl) (Rn.v rfl rfl rfl rfl (V.nil rfl) (Rn.v rfl rfl rfl rfl (V.fa Try.underlying52 rfl Try.sizeOf3 rfl rfl) ?_)))))
      obtain ⟨_, ⟨A14_0, c14_0, rfl⟩, hm14⟩ := hm13.unf 0 rfl
      replace hm14 : Hp Z0 (LS [T_limnographref18_Disk.obj F0 b0 x0]) w w13 [boxR b0 52 [.slice A14_0 (y12.L).length c14_0, .int .i64 (y12.Capacity), .bool (y12.Down), .int .i64 (y12.Calls), .int .i64 (y12.Fail), .int .i64 (y12.Crash), .int .i64 (y12.Err)], ownR 87 A14_0 c14_0 T_limnographref18_File.rep y12.L] := hm14
      refine Rn.v rfl rfl rfl rfl (V.ldB Try.isAgg3 rfl (hm14.get 0 rfl) rfl) (Rn.v rfl rfl rfl rfl (V.geq rfl rfl) (Rn.regEnd ?_))
      have hm17 : Hp Z0 (LS [T_limnographref18_Disk.obj F0 b0 x0]) w w13 ([] ++ [boxR b0 52 [.slice A14_0 (y12.L).length c14_0, .int .i64 (y12.Capacity), .bool (y12.Down), .int .i64 (y12.Calls), .int .i64 (y12.Fail), .int .i64 (y12.Crash), .int .i64 (y12.Err)], ownR 87 A14_0 c14_0 T_limnographref18_File.rep y12.L]) := hm14.pick [0, 1] rfl (by decide)
      obtain ⟨F16, hm16⟩ := hm17.fold (T_limnographref18_Disk.sh b0 y12) ⟨A14_0, c14_0, rfl⟩
      replace hm16 : Hp Z0 (LS [T_limnographref18_Disk.obj F0 b0 x0]) w w13 [T_limnographref18_Disk.obj F16 b0 y12] := hm16
      obtain ⟨j2, hj2, hM⟩ := jnE hM
      refine Rn.joinG (r := r) (G := T_limnographref18_Disk × (Nat → Prop)) (fun g => [(0, .pointer (some ⟨b0, 0, none⟩)), (3, .bool (decide (x0.Crash = 0))), (4, .bool (decide (x0.Fail = 0)))]) (fun g w' => Hp Z0 (LS [T_limnographref18_Disk.obj F0 b0 x0]) w w' [T_limnographref18_Disk.obj (g.2) b0 (g.1)]) (fun g => j2 g.1) ?_ ?_
      · subst hj2
        clear hM
        rintro ⟨y18, F18⟩ w19 hm19 hM
        replace hm19 : Hp Z0 (LS [T_limnographref18_Disk.obj F0 b0 x0]) w w19 [T_limnographref18_Disk.obj F18 b0 y18] := hm19
        show Rn _ _ _ _ _ [(0, .pointer (some ⟨b0, 0, none⟩)), (3, .bool (decide (x0.Crash = 0))), (4, .bool (decide (x0.Fail = 0)))] _
        try dsimp only at hM
        refine Rn.seq (Rn.seq (Rn.reg (Rn.v rfl rfl rfl rfl (V.mv rfl) (Rn.regEnd ?_))))
        refine Rn.condD rfl (fun h20 => ?_) (fun h20 => ?_)
        · replace hM := iteT h20 hM
          refine Rn.seq (Rn.reg (Rn.v rfl rfl rfl rfl (V.mv rfl) (Rn.v rfl rfl rfl rfl (V.nil rfl) (Rn.v rfl rfl rfl rfl (V.fa Try.underlying52 rfl Try.sizeOf4 rfl rfl) ?_))))
          obtain ⟨_, ⟨A21_0, c21_0, rfl⟩, hm21⟩ := hm19.unf 0 rfl
          replace hm21 : Hp Z0 (LS [T_limnographref18_Disk.obj F0 b0 x0]) w w19 [boxR b0 52 [.slice A21_0 (y18.L).length c21_0, .int .i64 (y18.Capacity), .bool (y18.Down), .int .i64 (y18.Calls), .int .i64 (y18.Fail), .int .i64 (y18.Crash), .int .i64 (y18.Err)], ownR 87 A21_0 c21_0 T_limnographref18_File.rep y18.L] := hm21
          refine Rn.st rfl rfl Try.sizeOf4 rfl rfl rfl rfl (by first | exact ones rfl | (simp [Value.oneCell']; done)) (hm21.get 0 rfl) (by first | exact Nat.le_of_ble_eq_true rfl | (simp; done)) ?_
          intro w23 m23 x23
          have hm24 : Hp Z0 (LS [T_limnographref18_Disk.obj F0 b0 x0]) w w23 [boxR b0 52 [.slice A21_0 (y18.L).length c21_0, .int .i64 (y18.Capacity), .bool true, .int .i64 (y18.Calls), .int .i64 (y18.Fail), .int .i64 (y18.Crash), .int .i64 (y18.Err)], ownR 87 A21_0 c21_0 T_limnographref18_File.rep y18.L] := hm21.st 0 rfl x23 m23
          refine Rn.regEnd (Rn.seq (Rn.reg (Rn.v rfl rfl rfl rfl (V.as rfl) (Rn.regEnd ?_))))
          have hm26 : Hp Z0 (LS [T_limnographref18_Disk.obj F0 b0 x0]) w w23 ([] ++ [boxR b0 52 [.slice A21_0 (y18.L).length c21_0, .int .i64 (y18.Capacity), .bool true, .int .i64 (y18.Calls), .int .i64 (y18.Fail), .int .i64 (y18.Crash), .int .i64 (y18.Err)], ownR 87 A21_0 c21_0 T_limnographref18_File.rep y18.L]) := hm24.pick [0, 1] rfl (by decide)
          obtain ⟨F25, hm25⟩ := hm26.fold (T_limnographref18_Disk.sh b0 ({ L := y18.L, Capacity := y18.Capacity, Down := true, Calls := y18.Calls, Fail := y18.Fail, Crash := y18.Crash, Err := y18.Err } : T_limnographref18_Disk)) ⟨A21_0, c21_0, rfl⟩
          replace hm25 : Hp Z0 (LS [T_limnographref18_Disk.obj F0 b0 x0]) w w23 [T_limnographref18_Disk.obj F25 b0 ({ L := y18.L, Capacity := y18.Capacity, Down := true, Calls := y18.Calls, Fail := y18.Fail, Crash := y18.Crash, Err := y18.Err } : T_limnographref18_Disk)] := hm25
          refine Rn.retG1 Try.func64 rfl (rvT rfl) ?_
          obtain rfl := someE hM
          exact ⟨F25, rfl, hm25.pick [0] rfl (by decide)⟩
        · replace hM := iteF h20 hM
          refine Rn.skip (Rn.seq (Rn.seq (Rn.reg (Rn.v rfl rfl rfl rfl (V.mv rfl) (Rn.regEnd ?_)))))
          refine Rn.condD rfl (fun h27 => ?_) (fun h27 => ?_)
          · replace hM := iteT h27 hM
            refine Rn.seq (Rn.reg (Rn.v rfl rfl rfl rfl (V.mv rfl) (Rn.v rfl rfl rfl rfl (V.nil rfl) (Rn.v rfl rfl rfl rfl (V.fa Try.underlying52 rfl Try.sizeOf23 rfl rfl) ?_))))
            obtain ⟨_, ⟨A28_0, c28_0, rfl⟩, hm28⟩ := hm19.unf 0 rfl
            replace hm28 : Hp Z0 (LS [T_limnographref18_Disk.obj F0 b0 x0]) w w19 [boxR b0 52 [.slice A28_0 (y18.L).length c28_0, .int .i64 (y18.Capacity), .bool (y18.Down), .int .i64 (y18.Calls), .int .i64 (y18.Fail), .int .i64 (y18.Crash), .int .i64 (y18.Err)], ownR 87 A28_0 c28_0 T_limnographref18_File.rep y18.L] := hm28
            refine Rn.v rfl rfl rfl rfl (V.ldB Try.isAgg23 rfl (hm28.get 0 rfl) rfl) (Rn.v rfl rfl rfl rfl (V.as rfl) (Rn.regEnd ?_))
            have hm31 : Hp Z0 (LS [T_limnographref18_Disk.obj F0 b0 x0]) w w19 ([] ++ [boxR b0 52 [.slice A28_0 (y18.L).length c28_0, .int .i64 (y18.Capacity), .bool (y18.Down), .int .i64 (y18.Calls), .int .i64 (y18.Fail), .int .i64 (y18.Crash), .int .i64 (y18.Err)], ownR 87 A28_0 c28_0 T_limnographref18_File.rep y18.L]) := hm28.pick [0, 1] rfl (by decide)
            obtain ⟨F30, hm30⟩ := hm31.fold (T_limnographref18_Disk.sh b0 y18) ⟨A28_0, c28_0, rfl⟩
            replace hm30 : Hp Z0 (LS [T_limnographref18_Disk.obj F0 b0 x0]) w w19 [T_limnographref18_Disk.obj F30 b0 y18] := hm30
            refine Rn.retG1 Try.func64 rfl (rvT rfl) ?_
            obtain rfl := someE hM
            exact ⟨F30, rfl, hm30.pick [0] rfl (by decide)⟩
          · replace hM := iteF h27 hM
            refine Rn.skip (Rn.seq (Rn.reg (Rn.v rfl rfl rfl rfl (V.as rfl) (Rn.regEnd ?_))))
            refine Rn.retG1 Try.func64 rfl (rvT rfl) ?_
            obtain rfl := someE hM
            exact ⟨F18, rfl, hm19.pick [0] rfl (by decide)⟩
      intro hk2
      clear hj2
      refine Rn.condD rfl (fun h32 => ?_) (fun h32 => ?_)
      · replace hM := iteT h32 hM
        refine Rn.reg (Rn.v rfl rfl rfl rfl (V.mv rfl) (Rn.v rfl rfl rfl rfl (V.mv rfl) (Rn.v rfl rfl rfl rfl (V.nil rfl) (Rn.v rfl rfl rfl rfl (V.fa Try.underlying52 rfl Try.sizeOf3 rfl rfl) ?_))))
        obtain ⟨_, ⟨A33_0, c33_0, rfl⟩, hm33⟩ := hm16.unf 0 rfl
        replace hm33 : Hp Z0 (LS [T_limnographref18_Disk.obj F0 b0 x0]) w w13 [boxR b0 52 [.slice A33_0 (y12.L).length c33_0, .int .i64 (y12.Capacity), .bool (y12.Down), .int .i64 (y12.Calls), .int .i64 (y12.Fail), .int .i64 (y12.Crash), .int .i64 (y12.Err)], ownR 87 A33_0 c33_0 T_limnographref18_File.rep y12.L] := hm33
        refine Rn.v rfl rfl rfl rfl (V.ldB Try.isAgg3 rfl (hm33.get 0 rfl) rfl) (Rn.v rfl rfl rfl rfl (V.subW rfl rfl) (Rn.v rfl rfl rfl rfl (V.nil rfl) (Rn.v rfl rfl rfl rfl (V.fa Try.underlying52 rfl Try.sizeOf3 rfl rfl) (Rn.st rfl rfl Try.sizeOf3 rfl rfl rfl rfl (by first | exact ones rfl | (simp [Value.oneCell']; done)) (hm33.get 0 rfl) (by first | exact Nat.le_of_ble_eq_true rfl | (simp; done)) ?_))))
        intro w35 m35 x35
        have hm36 : Hp Z0 (LS [T_limnographref18_Disk.obj F0 b0 x0]) w w35 [boxR b0 52 [.slice A33_0 (y12.L).length c33_0, .int .i64 (y12.Capacity), .bool (y12.Down), .int .i64 (y12.Calls), .int .i64 (W64 (y12.Fail - 1)), .int .i64 (y12.Crash), .int .i64 (y12.Err)], ownR 87 A33_0 c33_0 T_limnographref18_File.rep y12.L] := hm33.st 0 rfl x35 m35
        refine Rn.regEnd ?_
        have hm38 : Hp Z0 (LS [T_limnographref18_Disk.obj F0 b0 x0]) w w35 ([] ++ [boxR b0 52 [.slice A33_0 (y12.L).length c33_0, .int .i64 (y12.Capacity), .bool (y12.Down), .int .i64 (y12.Calls), .int .i64 (W64 (y12.Fail - 1)), .int .i64 (y12.Crash), .int .i64 (y12.Err)], ownR 87 A33_0 c33_0 T_limnographref18_File.rep y12.L]) := hm36.pick [0, 1] rfl (by decide)
        obtain ⟨F37, hm37⟩ := hm38.fold (T_limnographref18_Disk.sh b0 ({ L := y12.L, Capacity := y12.Capacity, Down := y12.Down, Calls := y12.Calls, Fail := W64 (y12.Fail - 1), Crash := y12.Crash, Err := y12.Err } : T_limnographref18_Disk)) ⟨A33_0, c33_0, rfl⟩
        replace hm37 : Hp Z0 (LS [T_limnographref18_Disk.obj F0 b0 x0]) w w35 [T_limnographref18_Disk.obj F37 b0 ({ L := y12.L, Capacity := y12.Capacity, Down := y12.Down, Calls := y12.Calls, Fail := W64 (y12.Fail - 1), Crash := y12.Crash, Err := y12.Err } : T_limnographref18_Disk)] := hm37
        exact hk2 (({ L := y12.L, Capacity := y12.Capacity, Down := y12.Down, Calls := y12.Calls, Fail := W64 (y12.Fail - 1), Crash := y12.Crash, Err := y12.Err } : T_limnographref18_Disk), F37) _ _ (Sub.cons rfl (Sub.cons rfl (Sub.cons rfl (Sub.nil _)))) (hm37.pick [0] rfl (by decide)) hM
      · replace hM := iteF h32 hM
        refine Rn.skip ?_
        exact hk2 (y12, F16) _ _ (Sub.cons rfl (Sub.cons rfl (Sub.cons rfl (Sub.nil _)))) (hm16.pick [0] rfl (by decide)) hM
    intro hk1
    clear hj1
    refine Rn.condD rfl (fun h39 => ?_) (fun h39 => ?_)
    · replace hM := iteT h39 hM
      refine Rn.reg (Rn.v rfl rfl rfl rfl (V.mv rfl) (Rn.v rfl rfl rfl rfl (V.mv rfl) (Rn.v rfl rfl rfl rfl (V.nil rfl) (Rn.v rfl rfl rfl rfl (V.fa Try.underlying52 rfl Try.sizeOf3 rfl rfl) ?_))))
      obtain ⟨_, ⟨A40_0, c40_0, rfl⟩, hm40⟩ := hm10.unf 0 rfl
      replace hm40 : Hp Z0 (LS [T_limnographref18_Disk.obj F0 b0 x0]) w w9 [boxR b0 52 [.slice A40_0 (({ L := x0.L, Capacity := x0.Capacity, Down := x0.Down, Calls := W64 (x0.Calls + 1), Fail := x0.Fail, Crash := x0.Crash, Err := x0.Err } : T_limnographref18_Disk).L).length c40_0, .int .i64 (({ L := x0.L, Capacity := x0.Capacity, Down := x0.Down, Calls := W64 (x0.Calls + 1), Fail := x0.Fail, Crash := x0.Crash, Err := x0.Err } : T_limnographref18_Disk).Capacity), .bool (({ L := x0.L, Capacity := x0.Capacity, Down := x0.Down, Calls := W64 (x0.Calls + 1), Fail := x0.Fail, Crash := x0.Crash, Err := x0.Err } : T_limnographref18_Disk).Down), .int .i64 (({ L := x0.L, Capacity := x0.Capacity, Down := x0.Down, Calls := W64 (x0.Calls + 1), Fail := x0.Fail, Crash := x0.Crash, Err := x0.Err } : T_limnographref18_Disk).Calls), .int .i64 (({ L := x0.L, Capacity := x0.Capacity, Down := x0.Down, Calls := W64 (x0.Calls + 1), Fail := x0.Fail, Crash := x0.Crash, Err := x0.Err } : T_limnographref18_Disk).Fail), .int .i64 (({ L := x0.L, Capacity := x0.Capacity, Down := x0.Down, Calls := W64 (x0.Calls + 1), Fail := x0.Fail, Crash := x0.Crash, Err := x0.Err } : T_limnographref18_Disk).Crash), .int .i64 (({ L := x0.L, Capacity := x0.Capacity, Down := x0.Down, Calls := W64 (x0.Calls + 1), Fail := x0.Fail, Crash := x0.Crash, Err := x0.Err } : T_limnographref18_Disk).Err)], ownR 87 A40_0 c40_0 T_limnographref18_File.rep (({ L := x0.L, Capacity := x0.Capacity, Down := x0.Down, Calls := W64 (x0.Calls + 1), Fail := x0.Fail, Crash := x0.Crash, Err := x0.Err } : T_limnographref18_Disk).L)] := hm40
      refine Rn.v rfl rfl rfl rfl (V.ldB Try.isAgg3 rfl (hm40.get 0 rfl) rfl) (Rn.v rfl rfl rfl rfl (V.subW rfl rfl) (Rn.v rfl rfl rfl rfl (V.nil rfl) (Rn.v rfl rfl rfl rfl (V.fa Try.underlying52 rfl Try.sizeOf3 rfl rfl) (Rn.st rfl rfl Try.sizeOf3 rfl rfl rfl rfl (by first | exact ones rfl | (simp [Value.oneCell']; done)) (hm40.get 0 rfl) (by first | exact Nat.le_of_ble_eq_true rfl | (simp; done)) ?_))))
      intro w42 m42 x42
      have hm43 : Hp Z0 (LS [T_limnographref18_Disk.obj F0 b0 x0]) w w42 [boxR b0 52 [.slice A40_0 (({ L := x0.L, Capacity := x0.Capacity, Down := x0.Down, Calls := W64 (x0.Calls + 1), Fail := x0.Fail, Crash := x0.Crash, Err := x0.Err } : T_limnographref18_Disk).L).length c40_0, .int .i64 (({ L := x0.L, Capacity := x0.Capacity, Down := x0.Down, Calls := W64 (x0.Calls + 1), Fail := x0.Fail, Crash := x0.Crash, Err := x0.Err } : T_limnographref18_Disk).Capacity), .bool (({ L := x0.L, Capacity := x0.Capacity, Down := x0.Down, Calls := W64 (x0.Calls + 1), Fail := x0.Fail, Crash := x0.Crash, Err := x0.Err } : T_limnographref18_Disk).Down), .int .i64 (({ L := x0.L, Capacity := x0.Capacity, Down := x0.Down, Calls := W64 (x0.Calls + 1), Fail := x0.Fail, Crash := x0.Crash, Err := x0.Err } : T_limnographref18_Disk).Calls), .int .i64 (({ L := x0.L, Capacity := x0.Capacity, Down := x0.Down, Calls := W64 (x0.Calls + 1), Fail := x0.Fail, Crash := x0.Crash, Err := x0.Err } : T_limnographref18_Disk).Fail), .int .i64 (W64 ((({ L := x0.L, Capacity := x0.Capacity, Down := x0.Down, Calls := W64 (x0.Calls + 1), Fail := x0.Fail, Crash := x0.Crash, Err := x0.Err } : T_limnographref18_Disk).Crash) - 1)), .int .i64 (({ L := x0.L, Capacity := x0.Capacity, Down := x0.Down, Calls := W64 (x0.Calls + 1), Fail := x0.Fail, Crash := x0.Crash, Err := x0.Err } : T_limnographref18_Disk).Err)], ownR 87 A40_0 c40_0 T_limnographref18_File.rep (({ L := x0.L, Capacity := x0.Capacity, Down := x0.Down, Calls := W64 (x0.Calls + 1), Fail := x0.Fail, Crash := x0.Crash, Err := x0.Err } : T_limnographref18_Disk).L)] := hm40.st 0 rfl x42 m42
      refine Rn.regEnd ?_
      have hm45 : Hp Z0 (LS [T_limnographref18_Disk.obj F0 b0 x0]) w w42 ([] ++ [boxR b0 52 [.slice A40_0 (({ L := x0.L, Capacity := x0.Capacity, Down := x0.Down, Calls := W64 (x0.Calls + 1), Fail := x0.Fail, Crash := x0.Crash, Err := x0.Err } : T_limnographref18_Disk).L).length c40_0, .int .i64 (({ L := x0.L, Capacity := x0.Capacity, Down := x0.Down, Calls := W64 (x0.Calls + 1), Fail := x0.Fail, Crash := x0.Crash, Err := x0.Err } : T_limnographref18_Disk).Capacity), .bool (({ L := x0.L, Capacity := x0.Capacity, Down := x0.Down, Calls := W64 (x0.Calls + 1), Fail := x0.Fail, Crash := x0.Crash, Err := x0.Err } : T_limnographref18_Disk).Down), .int .i64 (({ L := x0.L, Capacity := x0.Capacity, Down := x0.Down, Calls := W64 (x0.Calls + 1), Fail := x0.Fail, Crash := x0.Crash, Err := x0.Err } : T_limnographref18_Disk).Calls), .int .i64 (({ L := x0.L, Capacity := x0.Capacity, Down := x0.Down, Calls := W64 (x0.Calls + 1), Fail := x0.Fail, Crash := x0.Crash, Err := x0.Err } : T_limnographref18_Disk).Fail), .int .i64 (W64 ((({ L := x0.L, Capacity := x0.Capacity, Down := x0.Down, Calls := W64 (x0.Calls + 1), Fail := x0.Fail, Crash := x0.Crash, Err := x0.Err } : T_limnographref18_Disk).Crash) - 1)), .int .i64 (({ L := x0.L, Capacity := x0.Capacity, Down := x0.Down, Calls := W64 (x0.Calls + 1), Fail := x0.Fail, Crash := x0.Crash, Err := x0.Err } : T_limnographref18_Disk).Err)], ownR 87 A40_0 c40_0 T_limnographref18_File.rep (({ L := x0.L, Capacity := x0.Capacity, Down := x0.Down, Calls := W64 (x0.Calls + 1), Fail := x0.Fail, Crash := x0.Crash, Err := x0.Err } : T_limnographref18_Disk).L)]) := hm43.pick [0, 1] rfl (by decide)
      obtain ⟨F44, hm44⟩ := hm45.fold (T_limnographref18_Disk.sh b0 ({ L := ({ L := x0.L, Capacity := x0.Capacity, Down := x0.Down, Calls := W64 (x0.Calls + 1), Fail := x0.Fail, Crash := x0.Crash, Err := x0.Err } : T_limnographref18_Disk).L, Capacity := ({ L := x0.L, Capacity := x0.Capacity, Down := x0.Down, Calls := W64 (x0.Calls + 1), Fail := x0.Fail, Crash := x0.Crash, Err := x0.Err } : T_limnographref18_Disk).Capacity, Down := ({ L := x0.L, Capacity := x0.Capacity, Down := x0.Down, Calls := W64 (x0.Calls + 1), Fail := x0.Fail, Crash := x0.Crash, Err := x0.Err } : T_limnographref18_Disk).Down, Calls := ({ L := x0.L, Capacity := x0.Capacity, Down := x0.Down, Calls := W64 (x0.Calls + 1), Fail := x0.Fail, Crash := x0.Crash, Err := x0.Err } : T_limnographref18_Disk).Calls, Fail := ({ L := x0.L, Capacity := x0.Capacity, Down := x0.Down, Calls := W64 (x0.Calls + 1), Fail := x0.Fail, Crash := x0.Crash, Err := x0.Err } : T_limnographref18_Disk).Fail, Crash := W64 ((({ L := x0.L, Capacity := x0.Capacity, Down := x0.Down, Calls := W64 (x0.Calls + 1), Fail := x0.Fail, Crash := x0.Crash, Err := x0.Err } : T_limnographref18_Disk).Crash) - 1), Err := ({ L := x0.L, Capacity := x0.Capacity, Down := x0.Down, Calls := W64 (x0.Calls + 1), Fail := x0.Fail, Crash := x0.Crash, Err := x0.Err } : T_limnographref18_Disk).Err } : T_limnographref18_Disk)) ⟨A40_0, c40_0, rfl⟩
      replace hm44 : Hp Z0 (LS [T_limnographref18_Disk.obj F0 b0 x0]) w w42 [T_limnographref18_Disk.obj F44 b0 ({ L := ({ L := x0.L, Capacity := x0.Capacity, Down := x0.Down, Calls := W64 (x0.Calls + 1), Fail := x0.Fail, Crash := x0.Crash, Err := x0.Err } : T_limnographref18_Disk).L, Capacity := ({ L := x0.L, Capacity := x0.Capacity, Down := x0.Down, Calls := W64 (x0.Calls + 1), Fail := x0.Fail, Crash := x0.Crash, Err := x0.Err } : T_limnographref18_Disk).Capacity, Down := ({ L := x0.L, Capacity := x0.Capacity, Down := x0.Down, Calls := W64 (x0.Calls + 1), Fail := x0.Fail, Crash := x0.Crash, Err := x0.Err } : T_limnographref18_Disk).Down, Calls := ({ L := x0.L, Capacity := x0.Capacity, Down := x0.Down, Calls := W64 (x0.Calls + 1), Fail := x0.Fail, Crash := x0.Crash, Err := x0.Err } : T_limnographref18_Disk).Calls, Fail := ({ L := x0.L, Capacity := x0.Capacity, Down := x0.Down, Calls := W64 (x0.Calls + 1), Fail := x0.Fail, Crash := x0.Crash, Err := x0.Err } : T_limnographref18_Disk).Fail, Crash := W64 ((({ L := x0.L, Capacity := x0.Capacity, Down := x0.Down, Calls := W64 (x0.Calls + 1), Fail := x0.Fail, Crash := x0.Crash, Err := x0.Err } : T_limnographref18_Disk).Crash) - 1), Err := ({ L := x0.L, Capacity := x0.Capacity, Down := x0.Down, Calls := W64 (x0.Calls + 1), Fail := x0.Fail, Crash := x0.Crash, Err := x0.Err } : T_limnographref18_Disk).Err } : T_limnographref18_Disk)] := hm44
      exact hk1 (({ L := ({ L := x0.L, Capacity := x0.Capacity, Down := x0.Down, Calls := W64 (x0.Calls + 1), Fail := x0.Fail, Crash := x0.Crash, Err := x0.Err } : T_limnographref18_Disk).L, Capacity := ({ L := x0.L, Capacity := x0.Capacity, Down := x0.Down, Calls := W64 (x0.Calls + 1), Fail := x0.Fail, Crash := x0.Crash, Err := x0.Err } : T_limnographref18_Disk).Capacity, Down := ({ L := x0.L, Capacity := x0.Capacity, Down := x0.Down, Calls := W64 (x0.Calls + 1), Fail := x0.Fail, Crash := x0.Crash, Err := x0.Err } : T_limnographref18_Disk).Down, Calls := ({ L := x0.L, Capacity := x0.Capacity, Down := x0.Down, Calls := W64 (x0.Calls + 1), Fail := x0.Fail, Crash := x0.Crash, Err := x0.Err } : T_limnographref18_Disk).Calls, Fail := ({ L := x0.L, Capacity := x0.Capacity, Down := x0.Down, Calls := W64 (x0.Calls + 1), Fail := x0.Fail, Crash := x0.Crash, Err := x0.Err } : T_limnographref18_Disk).Fail, Crash := W64 ((({ L := x0.L, Capacity := x0.Capacity, Down := x0.Down, Calls := W64 (x0.Calls + 1), Fail := x0.Fail, Crash := x0.Crash, Err := x0.Err } : T_limnographref18_Disk).Crash) - 1), Err := ({ L := x0.L, Capacity := x0.Capacity, Down := x0.Down, Calls := W64 (x0.Calls + 1), Fail := x0.Fail, Crash := x0.Crash, Err := x0.Err } : T_limnographref18_Disk).Err } : T_limnographref18_Disk), F44) _ _ (Sub.cons rfl (Sub.cons rfl (Sub.cons rfl (Sub.nil _)))) (hm44.pick [0] rfl (by decide)) hM
    · replace hM := iteF h39 hM
      refine Rn.skip ?_
      exact hk1 (({ L := x0.L, Capacity := x0.Capacity, Down := x0.Down, Calls := W64 (x0.Calls + 1), Fail := x0.Fail, Crash := x0.Crash, Err := x0.Err } : T_limnographref18_Disk), F10) _ _ (Sub.cons rfl (Sub.cons rfl (Sub.cons rfl (Sub.nil _)))) (hm10.pick [0] rfl (by decide)) hM

set_option maxRecDepth 20000 in
theorem m_limnographref18_Disk_Remove_sim {Z0 : Nat → Prop} (w : World) (F0 : Nat → Prop) (b0 : Nat) (x0 : T_limnographref18_Disk) (x1 : (List UInt8)) {r : (Int × T_limnographref18_Disk)} (hL : Lent Z0 w [T_limnographref18_Disk.obj F0 b0 x0]) (hM : m_limnographref18_Disk_Remove x0 x1 = some r) :
    Calls Try.prog 44 #[.pointer (some ⟨b0, 0, none⟩), Str (x1)] w fun x w' => ∃ F_p0, x = .returned (.int .i64 (r.1)) ∧ Hp Z0 (LS [T_limnographref18_Disk.obj F0 b0 x0]) w w' [T_limnographref18_Disk.obj F_p0 b0 r.2] := by
  have hm0 := hL.start
  refine Rn.enter Try.func44 rfl rfl (Nat.le_of_ble_eq_true rfl) ?_
  refine Rn.seq (Rn.reg (Rn.v rfl rfl rfl rfl (V.as rfl) (Rn.regEnd (Rn.seq (Rn.seq (Rn.reg (Rn.v rfl rfl rfl rfl (V.mv rfl) ?_)))))))
  obtain ⟨p2, e2, hM⟩ := bindE hM
  have hm3 : Hp Z0 (LS [T_limnographref18_Disk.obj F0 b0 x0]) w w ([] ++ [T_limnographref18_Disk.obj F0 b0 x0]) := hm0.pick [0] rfl (by decide)
  refine Rn.cl ck64 rfl rfl rfl rfl (m_limnographref18_Disk_begin_sim (Z0 := _) _ F0 b0 x0 hm3.lend e2) ?_
  rintro _ w2 ⟨F2_p0, rfl, hq2⟩
  refine ⟨_, rfl, ?_⟩
  have hm5 : Hp Z0 (LS [T_limnographref18_Disk.obj F0 b0 x0]) w w2 [T_limnographref18_Disk.obj F2_p0 b0 p2.2] := hm3.callAZ hq2
  refine Rn.v rfl rfl rfl rfl (V.as rfl) (Rn.regEnd (Rn.seq (Rn.reg (Rn.v rfl rfl rfl rfl (V.mv rfl) (Rn.v rfl rfl rfl rfl (V.neq rfl rfl) (Rn.regEnd ?_))))))
  refine Rn.condD rfl (fun h6 => ?_) (fun h6 => ?_)
  · replace hM := iteT h6 hM
    refine Rn.seq (Rn.reg (Rn.v rfl rfl rfl rfl (V.mv rfl) (Rn.v rfl rfl rfl rfl (V.as rfl) (Rn.regEnd ?_))))
    refine Rn.retG1 Try.func44 rfl (rvT rfl) ?_
    obtain rfl := someE hM
    exact ⟨F2_p0, rfl, hm5.pick [0] rfl (by decide)⟩
  · replace hM := iteF h6 hM
    refine Rn.skip (Rn.seq (Rn.seq (Rn.reg (Rn.v rfl rfl rfl rfl (V.mv rfl) (Rn.v rfl rfl rfl rfl (V.mv rfl) ?_)))))
    obtain ⟨p7, e7, hM⟩ := bindE hM
    refine Rn.cl ck39 rfl rfl rfl rfl (m_limnographref18_Disk_Find_sim (Z0 := All) _ F2_p0 b0 p2.2 x1 (fz_all (hm5.get 0 rfl)) e7) ?_
    rintro _ w7 ⟨rfl, hq7⟩
    refine ⟨_, rfl, ?_⟩
    have hm8 := hm5.call0 hq7
    refine Rn.v rfl rfl rfl rfl (V.lss rfl rfl) (Rn.regEnd ?_)
    refine Rn.condD rfl (fun h9 => ?_) (fun h9 => ?_)
    · replace hM := iteT h9 hM
      refine Rn.seq (Rn.reg (Rn.v rfl rfl rfl rfl (V.as rfl) (Rn.regEnd ?_)))
      refine Rn.retG1 Try.func44 rfl (rvT rfl) ?_
      obtain rfl := someE hM
      exact ⟨F2_p0, rfl, hm8.pick [0] rfl (by decide)⟩
    · replace hM := iteF h9 hM
      refine Rn.skip (Rn.seq (Rn.reg (Rn.v rfl rfl rfl rfl (V.mv rfl) (Rn.v rfl rfl rfl rfl (V.mv rfl) (Rn.v rfl rfl rfl rfl (V.mv rfl) ?_)))))
      obtain ⟨p10, e10, hM⟩ := bindE hM
      have hm11 : Hp Z0 (LS [T_limnographref18_Disk.obj F0 b0 x0]) w w7 ([] ++ [T_limnographref18_Disk.obj F2_p0 b0 p2.2]) := hm8.pick [0] rfl (by decide)
      refine Rn.cl ck57 rfl rfl rfl rfl (m_limnographref18_Disk_without_sim (Z0 := _) _ F2_p0 b0 p2.2 x1 hm11.lend e10) ?_
      rintro _ w10 ⟨A10_0_0, c10_0_0, F10_p0, rfl, hq10⟩
      refine ⟨_, rfl, ?_⟩
      have hm14 : Hp Z0 (LS [T_limnographref18_Disk.obj F0 b0 x0]) w w10 [ownR 87 A10_0_0 c10_0_0 T_limnographref18_File.rep p10, T_limnographref18_Disk.obj F10_p0 b0 p2.2] := hm11.callAZ hq10
      refine Rn.v rfl rfl rfl rfl (V.nil rfl) (Rn.v rfl rfl rfl rfl (V.fa Try.underlying52 rfl Try.sizeOf50 rfl rfl) ?_)
      obtain ⟨_, ⟨A15_0, c15_0, rfl⟩, hm15⟩ := hm14.unf 1 rfl
      replace hm15 : Hp Z0 (LS [T_limnographref18_Disk.obj F0 b0 x0]) w w10 [ownR 87 A10_0_0 c10_0_0 T_limnographref18_File.rep p10, boxR b0 52 [.slice A15_0 (p2.2.L).length c15_0, .int .i64 (p2.2.Capacity), .bool (p2.2.Down), .int .i64 (p2.2.Calls), .int .i64 (p2.2.Fail), .int .i64 (p2.2.Crash), .int .i64 (p2.2.Err)], ownR 87 A15_0 c15_0 T_limnographref18_File.rep p2.2.L] := hm15
      refine Rn.st rfl rfl Try.sizeOf50 rfl rfl rfl rfl (by first | exact ones rfl | (simp [Value.oneCell']; done)) (hm15.get 1 rfl) (by first | exact Nat.le_of_ble_eq_true rfl | (simp; done)) ?_
      intro w17 m17 x17
      have hm18 : Hp Z0 (LS [T_limnographref18_Disk.obj F0 b0 x0]) w w17 [ownR 87 A10_0_0 c10_0_0 T_limnographref18_File.rep p10, boxR b0 52 [.slice A10_0_0 (p10).length c10_0_0, .int .i64 (p2.2.Capacity), .bool (p2.2.Down), .int .i64 (p2.2.Calls), .int .i64 (p2.2.Fail), .int .i64 (p2.2.Crash), .int .i64 (p2.2.Err)], ownR 87 A15_0 c15_0 T_limnographref18_File.rep p2.2.L] := hm15.st 1 rfl x17 m17
      refine Rn.regEnd (Rn.seq (Rn.reg (Rn.v rfl rfl rfl rfl (V.as rfl) (Rn.regEnd ?_))))
      have hm20 : Hp Z0 (LS [T_limnographref18_Disk.obj F0 b0 x0]) w w17 ([ownR 87 A15_0 c15_0 T_limnographref18_File.rep p2.2.L] ++ [boxR b0 52 [.slice A10_0_0 (p10).length c10_0_0, .int .i64 (p2.2.Capacity), .bool (p2.2.Down), .int .i64 (p2.2.Calls), .int .i64 (p2.2.Fail), .int .i64 (p2.2.Crash), .int .i64 (p2.2.Err)], ownR 87 A10_0_0 c10_0_0 T_limnographref18_File.rep p10]) := hm18.pick [2, 1, 0] rfl (by decide)
      obtain ⟨F19, hm19⟩ := hm20.fold (T_limnographref18_Disk.sh b0 ({ L := p10, Capacity := p2.2.Capacity, Down := p2.2.Down, Calls := p2.2.Calls, Fail := p2.2.Fail, Crash := p2.2.Crash, Err := p2.2.Err } : T_limnographref18_Disk)) ⟨A10_0_0, c10_0_0, rfl⟩
      replace hm19 : Hp Z0 (LS [T_limnographref18_Disk.obj F0 b0 x0]) w w17 [ownR 87 A15_0 c15_0 T_limnographref18_File.rep p2.2.L, T_limnographref18_Disk.obj F19 b0 ({ L := p10, Capacity := p2.2.Capacity, Down := p2.2.Down, Calls := p2.2.Calls, Fail := p2.2.Fail, Crash := p2.2.Crash, Err := p2.2.Err } : T_limnographref18_Disk)] := hm19
      refine Rn.retG1 Try.func44 rfl (rvT rfl) ?_
      obtain rfl := someE hM
      exact ⟨F19, rfl, hm19.pick [1] rfl (by decide)⟩

set_option maxRecDepth 20000 in
theorem m_limnographref18_Disk_Create_sim {Z0 : Nat → Prop} (w : World) (F0 : Nat → Prop) (b0 : Nat) (x0 : T_limnographref18_Disk) (x1 : (List UInt8)) {r : (Int × T_limnographref18_Disk)} (hL : Lent Z0 w [T_limnographref18_Disk.obj F0 b0 x0]) (hM : m_limnographref18_Disk_Create x0 x1 = some r) :
    Calls Try.prog 60 #[.pointer (some ⟨b0, 0, none⟩), Str (x1)] w fun x w' => ∃ F_p0, x = .returned (.int .i64 (r.1)) ∧ Hp Z0 (LS [T_limnographref18_Disk.obj F0 b0 x0]) w w' [T_limnographref18_Disk.obj F_p0 b0 r.2] := by
  have hm0 := hL.start
  refine Rn.enter Try.func60 rfl rfl (Nat.le_of_ble_eq_true rfl) ?_
  refine Rn.seq (Rn.reg (Rn.v rfl rfl rfl rfl (V.as rfl) (Rn.regEnd (Rn.seq (Rn.seq (Rn.reg (Rn.v rfl rfl rfl rfl (V.mv rfl) ?_)))))))
  obtain ⟨p2, e2, hM⟩ := bindE hM
  have hm3 : Hp Z0 (LS [T_limnographref18_Disk.obj F0 b0 x0]) w w ([] ++ [T_limnographref18_Disk.obj F0 b0 x0]) := hm0.pick [0] rfl (by decide)
  refine Rn.cl ck64 rfl rfl rfl rfl (m_limnographref18_Disk_begin_sim (Z0 := _) _ F0 b0 x0 hm3.lend e2) ?_
  rintro _ w2 ⟨F2_p0, rfl, hq2⟩
  refine ⟨_, rfl, ?_⟩
  have hm5 : Hp Z0 (LS [T_limnographref18_Disk.obj F0 b0 x0]) w w2 [T_limnographref18_Disk.obj F2_p0 b0 p2.2] := hm3.callAZ hq2
  refine Rn.v rfl rfl rfl rfl (V.as rfl) (Rn.regEnd (Rn.seq (Rn.reg (Rn.v rfl rfl rfl rfl (V.mv rfl) (Rn.v rfl rfl rfl rfl (V.neq rfl rfl) (Rn.regEnd ?_))))))
  refine Rn.condD rfl (fun h6 => ?_) (fun h6 => ?_)
  · replace hM := iteT h6 hM
    refine Rn.seq (Rn.reg (Rn.v rfl rfl rfl rfl (V.mv rfl) (Rn.v rfl rfl rfl rfl (V.as rfl) (Rn.regEnd ?_))))
    refine Rn.retG1 Try.func60 rfl (rvT rfl) ?_
    obtain rfl := someE hM
    exact ⟨F2_p0, rfl, hm5.pick [0] rfl (by decide)⟩
  · replace hM := iteF h6 hM
    refine Rn.skip (Rn.seq (Rn.seq (Rn.reg (Rn.v rfl rfl rfl rfl (V.mv rfl) ?_))))
    obtain ⟨p7, e7, hM⟩ := bindE hM
    refine Rn.cl ck38 rfl rfl rfl rfl (m_limnographref18_Name_sim (Z0 := All) _ x1  e7) ?_
    rintro _ w7 ⟨rfl, hq7⟩
    refine ⟨_, rfl, ?_⟩
    have hm8 := hm5.call0 hq7
    refine Rn.v rfl rfl rfl rfl (V.notB rfl) (Rn.regEnd ?_)
    refine Rn.condS rfl (fun h9 => ?_) (fun h9 => ?_)
    · replace hM := iteT h9 hM
      refine Rn.seq (Rn.reg (Rn.v rfl rfl rfl rfl (V.as rfl) (Rn.regEnd ?_)))
      refine Rn.retG1 Try.func60 rfl (rvT rfl) ?_
      obtain rfl := someE hM
      exact ⟨F2_p0, rfl, hm8.pick [0] rfl (by decide)⟩
    · replace hM := iteF (by rw [h9]; exact Bool.false_ne_true) hM
      refine Rn.skip (Rn.seq (Rn.seq (Rn.reg (Rn.v rfl rfl rfl rfl (V.mv rfl) (Rn.v rfl rfl rfl rfl (V.mv rfl) ?_)))))
      obtain ⟨p10, e10, hM⟩ := bindE hM
      refine Rn.cl ck39 rfl rfl rfl rfl (m_limnographref18_Disk_Find_sim (Z0 := All) _ F2_p0 b0 p2.2 x1 (fz_all (hm8.get 0 rfl)) e10) ?_
      rintro _ w10 ⟨rfl, hq10⟩
      refine ⟨_, rfl, ?_⟩
      have hm11 := hm8.call0 hq10
      refine Rn.v rfl rfl rfl rfl (V.geq rfl rfl) (Rn.regEnd ?_)
      refine Rn.condD rfl (fun h12 => ?_) (fun h12 => ?_)
      · replace hM := iteT h12 hM
        refine Rn.seq (Rn.reg (Rn.v rfl rfl rfl rfl (V.as rfl) (Rn.regEnd ?_)))
        refine Rn.retG1 Try.func60 rfl (rvT rfl) ?_
        obtain rfl := someE hM
        exact ⟨F2_p0, rfl, hm11.pick [0] rfl (by decide)⟩
      · replace hM := iteF h12 hM
        refine Rn.skip (Rn.seq (Rn.seq (Rn.reg (Rn.v rfl rfl rfl rfl (V.mv rfl) (Rn.v rfl rfl rfl rfl (V.nil rfl) (Rn.v rfl rfl rfl rfl (V.fa Try.underlying52 rfl Try.sizeOf50 rfl rfl) ?_))))))
        obtain ⟨_, ⟨A13_0, c13_0, rfl⟩, hm13⟩ := hm11.unf 0 rfl
        replace hm13 : Hp Z0 (LS [T_limnographref18_Disk.obj F0 b0 x0]) w w10 [boxR b0 52 [.slice A13_0 (p2.2.L).length c13_0, .int .i64 (p2.2.Capacity), .bool (p2.2.Down), .int .i64 (p2.2.Calls), .int .i64 (p2.2.Fail), .int .i64 (p2.2.Crash), .int .i64 (p2.2.Err)], ownR 87 A13_0 c13_0 T_limnographref18_File.rep p2.2.L] := hm13
        refine Rn.v rfl rfl rfl rfl (V.ldB Try.isAgg50 rfl (hm13.get 0 rfl) rfl) (Rn.v rfl rfl rfl rfl (V.lenV Try.underlying50 rfl) (Rn.v rfl rfl rfl rfl (V.eql rfl rfl) (Rn.regEnd ?_)))
        refine Rn.condD rfl (fun h15 => ?_) (fun h15 => ?_)
        · replace hM := iteT h15 hM
          refine Rn.seq (Rn.reg (Rn.v rfl rfl rfl rfl (V.as rfl) (Rn.regEnd ?_)))
          have hm17 : Hp Z0 (LS [T_limnographref18_Disk.obj F0 b0 x0]) w w10 ([] ++ [boxR b0 52 [.slice A13_0 (p2.2.L).length c13_0, .int .i64 (p2.2.Capacity), .bool (p2.2.Down), .int .i64 (p2.2.Calls), .int .i64 (p2.2.Fail), .int .i64 (p2.2.Crash), .int .i64 (p2.2.Err)], ownR 87 A13_0 c13_0 T_limnographref18_File.rep p2.2.L]) := hm13.pick [0, 1] rfl (by decide)
          obtain ⟨F16, hm16⟩ := hm17.fold (T_limnographref18_Disk.sh b0 p2.2) ⟨A13_0, c13_0, rfl⟩
          replace hm16 : Hp Z0 (LS [T_limnographref18_Disk.obj F0 b0 x0]) w w10 [T_limnographref18_Disk.obj F16 b0 p2.2] := hm16
          refine Rn.retG1 Try.func60 rfl (rvT rfl) ?_
          obtain rfl := someE hM
          exact ⟨F16, rfl, hm16.pick [0] rfl (by decide)⟩
        · replace hM := iteF h15 hM
          refine Rn.skip (Rn.seq (Rn.reg (Rn.v rfl rfl rfl rfl (V.mv rfl) (Rn.v rfl rfl rfl rfl (V.mv rfl) (Rn.v rfl rfl rfl rfl (V.bldS st87 rfl rfl) ?_)))))
          have hm20 : Hp Z0 (LS [T_limnographref18_Disk.obj F0 b0 x0]) w w10 ([] ++ [boxR b0 52 [.slice A13_0 (p2.2.L).length c13_0, .int .i64 (p2.2.Capacity), .bool (p2.2.Down), .int .i64 (p2.2.Calls), .int .i64 (p2.2.Fail), .int .i64 (p2.2.Crash), .int .i64 (p2.2.Err)], ownR 87 A13_0 c13_0 T_limnographref18_File.rep p2.2.L]) := hm13.pick [0, 1] rfl (by decide)
          obtain ⟨F19, hm19⟩ := hm20.fold (T_limnographref18_Disk.sh b0 p2.2) ⟨A13_0, c13_0, rfl⟩
          replace hm19 : Hp Z0 (LS [T_limnographref18_Disk.obj F0 b0 x0]) w w10 [T_limnographref18_Disk.obj F19 b0 p2.2] := hm19
          obtain ⟨p18, e18, hM⟩ := bindE hM
          have hm21 := hm19.know (relR T_limnographref18_File.rep [Str (x1), .slice none 0 0, .int .i64 (0)] ({ Name := x1, Data := [], Sure := 0 } : T_limnographref18_File)) (fun _ h => h) (show T_limnographref18_File.rep.rel _ _ _ _ from ⟨_, _, rfl, ⟨rfl, trivial⟩, ⟨_, _, rfl, ⟨none, 0, rfl, Nat.le_refl _, Nat.zero_le _, Sl.nil _ _ _ _⟩, ⟨rfl, trivial⟩⟩⟩)
          have hm23 : Hp Z0 (LS [T_limnographref18_Disk.obj F0 b0 x0]) w w10 ([] ++ [T_limnographref18_Disk.obj F19 b0 p2.2, relR T_limnographref18_File.rep [Str (x1), .slice none 0 0, .int .i64 (0)] ({ Name := x1, Data := [], Sure := 0 } : T_limnographref18_File)]) := hm21.pick [0, 1] rfl (by decide)
          refine Rn.cl ck41 rfl rfl rfl rfl (m_limnographref18_Disk_put_sim (Z0 := _) _ F19 b0 p2.2 ({ Name := x1, Data := [], Sure := 0 } : T_limnographref18_File) [Str (x1), .slice none 0 0, .int .i64 (0)] hm23.lend e18) ?_
          rintro _ w18 ⟨F18_p0, rfl, hq18⟩
          refine ⟨_, rfl, ?_⟩
          have hm25 : Hp Z0 (LS [T_limnographref18_Disk.obj F0 b0 x0]) w w18 [T_limnographref18_Disk.obj F18_p0 b0 p18] := hm23.callAZ hq18
          refine Rn.regEnd (Rn.seq (Rn.reg (Rn.v rfl rfl rfl rfl (V.as rfl) (Rn.regEnd ?_))))
          refine Rn.retG1 Try.func60 rfl (rvT rfl) ?_
          obtain rfl := someE hM
          exact ⟨F18_p0, rfl, hm25.pick [0] rfl (by decide)⟩

set_option maxRecDepth 20000 in
theorem m_limnographref18_Disk_Append_sim {Z0 : Nat → Prop} (w : World) (F0 : Nat → Prop) (b0 : Nat) (x0 : T_limnographref18_Disk) (x1 : (List UInt8)) (A2 : Option Addr) (c2 : Nat) (x2 : (List UInt8)) {r : (Int × T_limnographref18_Disk)} (hL : Lent Z0 w [T_limnographref18_Disk.obj F0 b0 x0, slR A2 c2 byteR x2]) (hM : m_limnographref18_Disk_Append x0 x1 x2 = some r) :
    Calls Try.prog 61 #[.pointer (some ⟨b0, 0, none⟩), Str (x1), .slice A2 (x2).length c2] w fun x w' => ∃ F_p0, x = .returned (.int .i64 (r.1)) ∧ Hp Z0 (LS [T_limnographref18_Disk.obj F0 b0 x0, slR A2 c2 byteR x2]) w w' [T_limnographref18_Disk.obj F_p0 b0 r.2] := by
  have hm0 := hL.start
  refine Rn.enter Try.func61 rfl rfl (Nat.le_of_ble_eq_true rfl) ?_
  refine Rn.seq (Rn.reg (Rn.v rfl rfl rfl rfl (V.as rfl) (Rn.regEnd (Rn.seq (Rn.seq (Rn.reg (Rn.v rfl rfl rfl rfl (V.mv rfl) ?_)))))))
  obtain ⟨p3, e3, hM⟩ := bindE hM
  have hm4 : Hp Z0 (LS [T_limnographref18_Disk.obj F0 b0 x0, slR A2 c2 byteR x2]) w w ([slR A2 c2 byteR x2] ++ [T_limnographref18_Disk.obj F0 b0 x0]) := hm0.pick [1, 0] rfl (by decide)
  refine Rn.cl ck64 rfl rfl rfl rfl (m_limnographref18_Disk_begin_sim (Z0 := _) _ F0 b0 x0 hm4.lend e3) ?_
  rintro _ w3 ⟨F3_p0, rfl, hq3⟩
  refine ⟨_, rfl, ?_⟩
  have hm6 : Hp Z0 (LS [T_limnographref18_Disk.obj F0 b0 x0, slR A2 c2 byteR x2]) w w3 [slR A2 c2 byteR x2, T_limnographref18_Disk.obj F3_p0 b0 p3.2] := hm4.callAZ hq3
  refine Rn.v rfl rfl rfl rfl (V.as rfl) (Rn.regEnd (Rn.seq (Rn.reg (Rn.v rfl rfl rfl rfl (V.mv rfl) (Rn.v rfl rfl rfl rfl (V.neq rfl rfl) (Rn.regEnd ?_))))))
  refine Rn.condD rfl (fun h7 => ?_) (fun h7 => ?_)
  · replace hM := iteT h7 hM
    refine Rn.seq (Rn.reg (Rn.v rfl rfl rfl rfl (V.mv rfl) (Rn.v rfl rfl rfl rfl (V.as rfl) (Rn.regEnd ?_))))
    refine Rn.retG1 Try.func61 rfl (rvT rfl) ?_
    obtain rfl := someE hM
    exact ⟨F3_p0, rfl, hm6.pick [1] rfl (by decide)⟩
  · replace hM := iteF h7 hM
    refine Rn.skip (Rn.seq (Rn.reg (Rn.v rfl rfl rfl rfl (V.mv rfl) (Rn.v rfl rfl rfl rfl (V.mv rfl) ?_))))
    obtain ⟨p8, e8, hM⟩ := bindE hM
    refine Rn.cl ck39 rfl rfl rfl rfl (m_limnographref18_Disk_Find_sim (Z0 := All) _ F3_p0 b0 p3.2 x1 (fz_all (hm6.get 1 rfl)) e8) ?_
    rintro _ w8 ⟨rfl, hq8⟩
    refine ⟨_, rfl, ?_⟩
    have hm9 := hm6.call0 hq8
    refine Rn.v rfl rfl rfl rfl (V.as rfl) (Rn.regEnd (Rn.seq (Rn.seq (Rn.reg (Rn.v rfl rfl rfl rfl (V.mv rfl) (Rn.v rfl rfl rfl rfl (V.lss rfl rfl) (Rn.regEnd ?_)))))))
    refine Rn.condD rfl (fun h10 => ?_) (fun h10 => ?_)
    · replace hM := iteT h10 hM
      refine Rn.seq (Rn.reg (Rn.v rfl rfl rfl rfl (V.as rfl) (Rn.regEnd ?_)))
      refine Rn.retG1 Try.func61 rfl (rvT rfl) ?_
      obtain rfl := someE hM
      exact ⟨F3_p0, rfl, hm9.pick [1] rfl (by decide)⟩
    · replace hM := iteF h10 hM
      refine Rn.skip (Rn.seq (Rn.seq ?_))
      refine Rn.drawH rfl hm9 ?_
      intro w11 hm11
      refine RH.take 0 (by kernel_rfl) rfl rfl rfl rfl (fun w' hDr => V.mv rfl) ?_
      refine RH.take 1 (by kernel_rfl) rfl rfl rfl rfl (fun w' hDr => V.lenV Try.underlying22 rfl) ?_
      refine RH.take 2 (by kernel_rfl) rfl rfl rfl rfl (fun w' hDr => V.mv rfl) ?_
      refine RH.take 3 (by kernel_rfl) rfl rfl rfl rfl (fun w' hDr => V.nil rfl) ?_
      refine RH.take 4 (by kernel_rfl) rfl rfl rfl rfl (fun w' hDr => V.fa Try.underlying52 rfl Try.sizeOf3 rfl rfl) ?_
      obtain ⟨_, ⟨A12_0, c12_0, rfl⟩, hm12⟩ := hm11.unf 1 rfl
      replace hm12 : Hp Z0 (LS [T_limnographref18_Disk.obj F0 b0 x0, slR A2 c2 byteR x2]) w w11 [slR A2 c2 byteR x2, boxR b0 52 [.slice A12_0 (p3.2.L).length c12_0, .int .i64 (p3.2.Capacity), .bool (p3.2.Down), .int .i64 (p3.2.Calls), .int .i64 (p3.2.Fail), .int .i64 (p3.2.Crash), .int .i64 (p3.2.Err)], ownR 87 A12_0 c12_0 T_limnographref18_File.rep p3.2.L] := hm12
      refine RH.take 5 (by kernel_rfl) rfl rfl rfl rfl (fun w' hDr => V.ldB Try.isAgg3 rfl ((hm12.ext hDr).get 1 rfl) rfl) ?_
      refine RH.here fun hS6 => RH.one 6 (by kernel_rfl) rfl rfl rfl rfl (V.mv rfl) hS6 ?_
      have hm16 : Hp Z0 (LS [T_limnographref18_Disk.obj F0 b0 x0, slR A2 c2 byteR x2]) w w11 ([slR A2 c2 byteR x2] ++ [boxR b0 52 [.slice A12_0 (p3.2.L).length c12_0, .int .i64 (p3.2.Capacity), .bool (p3.2.Down), .int .i64 (p3.2.Calls), .int .i64 (p3.2.Fail), .int .i64 (p3.2.Crash), .int .i64 (p3.2.Err)], ownR 87 A12_0 c12_0 T_limnographref18_File.rep p3.2.L]) := hm12.pick [0, 1, 2] rfl (by decide)
      obtain ⟨F15, hm15⟩ := hm16.fold (T_limnographref18_Disk.sh b0 p3.2) ⟨A12_0, c12_0, rfl⟩
      replace hm15 : Hp Z0 (LS [T_limnographref18_Disk.obj F0 b0 x0, slR A2 c2 byteR x2]) w w11 [slR A2 c2 byteR x2, T_limnographref18_Disk.obj F15 b0 p3.2] := hm15
      obtain ⟨p14, e14, hM⟩ := bindE hM
      refine RH.cl ck40 7 (by kernel_rfl) rfl rfl rfl rfl (m_limnographref18_Disk_Used_sim (Z0 := All) _ F15 b0 p3.2 (fz_all (hm15.get 1 rfl)) e14) ?_
      rintro _ w14 ⟨rfl, hq14⟩
      refine ⟨_, rfl, ((Ext.refl _).trans hq14.fr), ?_⟩
      have hm17 := hm15.call0 hq14
      refine RH.here fun hS8 => RH.one 8 (by kernel_rfl) rfl rfl rfl rfl (V.subW rfl rfl) hS8 ?_
      refine RH.here fun hS9 => RH.one 9 (by kernel_rfl) rfl rfl rfl rfl (V.gtr rfl rfl) hS9 ?_
      refine RH.doneP (by kernel_rfl) ?_
      refine Rn.condD rfl (fun h18 => ?_) (fun h18 => ?_)
      · replace hM := iteT h18 hM
        refine Rn.seq (Rn.reg (Rn.v rfl rfl rfl rfl (V.as rfl) (Rn.regEnd ?_)))
        refine Rn.retG1 Try.func61 rfl (rvT rfl) ?_
        obtain rfl := someE hM
        exact ⟨F15, rfl, hm17.pick [1] rfl (by decide)⟩
      · replace hM := iteF h18 hM
        refine Rn.skip (Rn.seq (Rn.reg (Rn.v rfl rfl rfl rfl (V.mv rfl) (Rn.v rfl rfl rfl rfl (V.nil rfl) (Rn.v rfl rfl rfl rfl (V.fa Try.underlying52 rfl Try.sizeOf50 rfl rfl) ?_)))))
        obtain ⟨_, ⟨A19_0, c19_0, rfl⟩, hm19⟩ := hm17.unf 1 rfl
        replace hm19 : Hp Z0 (LS [T_limnographref18_Disk.obj F0 b0 x0, slR A2 c2 byteR x2]) w w14 [slR A2 c2 byteR x2, boxR b0 52 [.slice A19_0 (p3.2.L).length c19_0, .int .i64 (p3.2.Capacity), .bool (p3.2.Down), .int .i64 (p3.2.Calls), .int .i64 (p3.2.Fail), .int .i64 (p3.2.Crash), .int .i64 (p3.2.Err)], ownR 87 A19_0 c19_0 T_limnographref18_File.rep p3.2.L] := hm19
        refine Rn.v rfl rfl rfl rfl (V.ldB Try.isAgg50 rfl (hm19.get 1 rfl) rfl) (Rn.v rfl rfl rfl rfl (V.mv rfl) ?_)
        obtain ⟨z21, e21, hM⟩ := bindE hM
        obtain ⟨kk21, ke21, kz21, kl21⟩ := idxE e21
        obtain ⟨g21, vs21, hA21, hR21, hrel21⟩ := hm19.ownAt 2 rfl kz21
        subst hA21
        obtain ⟨_, _, rfl, ⟨rfl, _⟩, ⟨_, _, rfl, ⟨A22, c22, rfl, p22, q22, s22⟩, ⟨rfl, _⟩⟩⟩ := hrel21
        have hm24 : Hp Z0 (LS [T_limnographref18_Disk.obj F0 b0 x0, slR A2 c2 byteR x2]) w w14 [slR A2 c2 byteR x2, boxR b0 52 [.slice (some ⟨g21, 0, none⟩) (p3.2.L).length c19_0, .int .i64 (p3.2.Capacity), .bool (p3.2.Down), .int .i64 (p3.2.Calls), .int .i64 (p3.2.Fail), .int .i64 (p3.2.Crash), .int .i64 (p3.2.Err)], ownR 87 (some ⟨g21, 0, none⟩) c19_0 T_limnographref18_File.rep p3.2.L, slR A22 c22 byteR z21.Data] := Hp.knowL [slR A22 c22 byteR z21.Data] _ hm19 (knC (fun _ h => h) ⟨p22, q22, s22⟩ kn0)
        refine Rn.v rfl rfl rfl rfl (V.ixE kk21 Try.underlying50 Try.sizeOf87 rfl rfl ke21 kl21) (Rn.v rfl rfl rfl rfl (V.ldA Try.isAgg87 Try.sizeOf87 rfl (Rd.pre hR21 3) rfl) (Rn.als rfl rfl rfl Try.zeroValue87 rfl Try.sizeOf87 rfl rfl rfl rfl (by first | exact ones rfl | (simp [Value.oneCell']; done)) ?_))
        intro b25 w25 hb25 m25 e25
        have hm27 : Hp Z0 (LS [T_limnographref18_Disk.obj F0 b0 x0, slR A2 c2 byteR x2]) w w25 [slR A2 c2 byteR x2, boxR b0 52 [.slice (some ⟨g21, 0, none⟩) (p3.2.L).length c19_0, .int .i64 (p3.2.Capacity), .bool (p3.2.Down), .int .i64 (p3.2.Calls), .int .i64 (p3.2.Fail), .int .i64 (p3.2.Crash), .int .i64 (p3.2.Err)], ownR 87 (some ⟨g21, 0, none⟩) c19_0 T_limnographref18_File.rep p3.2.L, slR A22 c22 byteR z21.Data, boxR b25 87 [Str (z21.Name), .slice A22 (z21.Data).length c22, .int .i64 (z21.Sure)]] := hm24.addBox hb25 e25 m25
        refine Rn.regEnd (Rn.seq (Rn.reg (Rn.v rfl rfl rfl rfl (V.mv rfl) (Rn.v rfl rfl rfl rfl (V.mv rfl) (Rn.v rfl rfl rfl rfl (V.fa Try.underlying87 rfl Try.sizeOf22 rfl rfl) (Rn.v rfl rfl rfl rfl (V.ldB Try.isAgg22 rfl (hm27.get 4 rfl) rfl) (Rn.v rfl rfl rfl rfl (V.b2s Try.underlying22 Try.underlying9 Try.underlying5 rfl rfl (hm27.get 3 rfl).2.2) (Rn.v rfl rfl rfl rfl (V.mv rfl) (Rn.v rfl rfl rfl rfl (V.b2s Try.underlying22 Try.underlying9 Try.underlying5 rfl rfl (hm27.get 0 rfl).2.2) ?_)))))))))
        obtain ⟨z28, e28, hM⟩ := bindE hM
        refine Rn.v rfl rfl rfl rfl (V.catZ rfl rfl e28) ?_
        obtain ⟨z29, e29, hM⟩ := bindE hM
        refine Rn.s2bH hm27 e29 rfl rfl rfl Try.underlying9 Try.underlying22 Try.underlying5 rfl ?_
        intro A29 c29 w29 hm29
        refine Rn.v rfl rfl rfl rfl (V.fa Try.underlying87 rfl Try.sizeOf3 rfl rfl) (Rn.v rfl rfl rfl rfl (V.ldB Try.isAgg3 rfl (hm29.get 4 rfl) rfl) (Rn.v rfl rfl rfl rfl (V.bldS st87 rfl rfl) ?_))
        have hm33 : Hp Z0 (LS [T_limnographref18_Disk.obj F0 b0 x0, slR A2 c2 byteR x2]) w w29 ([slR A2 c2 byteR x2, slR A22 c22 byteR z21.Data, boxR b25 87 [Str (z21.Name), .slice A22 (z21.Data).length c22, .int .i64 (z21.Sure)], slR A29 c29 byteR z29] ++ [boxR b0 52 [.slice (some ⟨g21, 0, none⟩) (p3.2.L).length c19_0, .int .i64 (p3.2.Capacity), .bool (p3.2.Down), .int .i64 (p3.2.Calls), .int .i64 (p3.2.Fail), .int .i64 (p3.2.Crash), .int .i64 (p3.2.Err)], ownR 87 (some ⟨g21, 0, none⟩) c19_0 T_limnographref18_File.rep p3.2.L]) := hm29.pick [0, 3, 4, 5, 1, 2] rfl (by decide)
        obtain ⟨F32, hm32⟩ := hm33.fold (T_limnographref18_Disk.sh b0 p3.2) ⟨(some ⟨g21, 0, none⟩), c19_0, rfl⟩
        replace hm32 : Hp Z0 (LS [T_limnographref18_Disk.obj F0 b0 x0, slR A2 c2 byteR x2]) w w29 [slR A2 c2 byteR x2, slR A22 c22 byteR z21.Data, boxR b25 87 [Str (z21.Name), .slice A22 (z21.Data).length c22, .int .i64 (z21.Sure)], slR A29 c29 byteR z29, T_limnographref18_Disk.obj F32 b0 p3.2] := hm32
        obtain ⟨p31, e31, hM⟩ := bindE hM
        have hm34 := hm32.know (relR T_limnographref18_File.rep [Str (x1), .slice A29 (z29).length c29, .int .i64 (z21.Sure)] ({ Name := x1, Data := z29, Sure := z21.Sure } : T_limnographref18_File)) (fun _ h => h) (show T_limnographref18_File.rep.rel _ _ _ _ from ⟨_, _, rfl, ⟨rfl, trivial⟩, ⟨_, _, rfl, ⟨_, _, rfl, (hm32.get 3 rfl).1, (hm32.get 3 rfl).2.1, (hm32.get 3 rfl).2.2⟩, ⟨rfl, trivial⟩⟩⟩)
        have hm36 : Hp Z0 (LS [T_limnographref18_Disk.obj F0 b0 x0, slR A2 c2 byteR x2]) w w29 ([slR A2 c2 byteR x2, slR A22 c22 byteR z21.Data, boxR b25 87 [Str (z21.Name), .slice A22 (z21.Data).length c22, .int .i64 (z21.Sure)], slR A29 c29 byteR z29] ++ [T_limnographref18_Disk.obj F32 b0 p3.2, relR T_limnographref18_File.rep [Str (x1), .slice A29 (z29).length c29, .int .i64 (z21.Sure)] ({ Name := x1, Data := z29, Sure := z21.Sure } : T_limnographref18_File)]) := hm34.pick [0, 1, 2, 3, 4, 5] rfl (by decide)
        refine Rn.cl ck41 rfl rfl rfl rfl (m_limnographref18_Disk_put_sim (Z0 := _) _ F32 b0 p3.2 ({ Name := x1, Data := z29, Sure := z21.Sure } : T_limnographref18_File) [Str (x1), .slice A29 (z29).length c29, .int .i64 (z21.Sure)] hm36.lend e31) ?_
        rintro _ w31 ⟨F31_p0, rfl, hq31⟩
        refine ⟨_, rfl, ?_⟩
        have hm38 : Hp Z0 (LS [T_limnographref18_Disk.obj F0 b0 x0, slR A2 c2 byteR x2]) w w31 [slR A2 c2 byteR x2, slR A22 c22 byteR z21.Data, boxR b25 87 [Str (z21.Name), .slice A22 (z21.Data).length c22, .int .i64 (z21.Sure)], slR A29 c29 byteR z29, T_limnographref18_Disk.obj F31_p0 b0 p31] := hm36.callAZ hq31
        refine Rn.regEnd (Rn.seq (Rn.reg (Rn.v rfl rfl rfl rfl (V.as rfl) (Rn.regEnd ?_))))
        refine Rn.retG1 Try.func61 rfl (rvT rfl) ?_
        obtain rfl := someE hM
        exact ⟨F31_p0, rfl, hm38.pick [4] rfl (by decide)⟩

end Go.Proofs.Ytknenggmdnpimaa
