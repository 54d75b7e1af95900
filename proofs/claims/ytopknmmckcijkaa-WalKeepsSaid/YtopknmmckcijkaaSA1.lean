/-
  The calls of functions of the program answer as their plain forms say, part 1. Printed by a program.
-/
import Derived.Test.YtopknmmckcijkaaRows
import Derived.Test.YtopknmmckcijkaaMA
import Derived.Test.YtopknmmckcijkaaK1
import Derived.Test.YtopknmmckcijkaaWv
import Derived.Test.YtopknmmckcijkaaIt
set_option linter.unusedVariables false
set_option linter.unusedSimpArgs false
namespace Go.Proofs.Ytopknmmckcijkaa
open Go Go.RowKit Go.Wk
theorem ck6 : CallOk Try.prog 6 := ⟨_, _, Try.func6, rfl, by kernel_rfl⟩
theorem ck7 : CallOk Try.prog 7 := ⟨_, _, Try.func7, rfl, by kernel_rfl⟩
theorem ck8 : CallOk Try.prog 8 := ⟨_, _, Try.func8, rfl, by kernel_rfl⟩
theorem ck9 : CallOk Try.prog 9 := ⟨_, _, Try.func9, rfl, by kernel_rfl⟩
theorem ck10 : CallOk Try.prog 10 := ⟨_, _, Try.func10, rfl, by kernel_rfl⟩
theorem ck11 : CallOk Try.prog 11 := ⟨_, _, Try.func11, rfl, by kernel_rfl⟩
theorem ck13 : CallOk Try.prog 13 := ⟨_, _, Try.func13, rfl, by kernel_rfl⟩
theorem ck14 : CallOk Try.prog 14 := ⟨_, _, Try.func14, rfl, by kernel_rfl⟩
theorem ck15 : CallOk Try.prog 15 := ⟨_, _, Try.func15, rfl, by kernel_rfl⟩
theorem ck16 : CallOk Try.prog 16 := ⟨_, _, Try.func16, rfl, by kernel_rfl⟩
theorem ck17 : CallOk Try.prog 17 := ⟨_, _, Try.func17, rfl, by kernel_rfl⟩
theorem ck18 : CallOk Try.prog 18 := ⟨_, _, Try.func18, rfl, by kernel_rfl⟩
theorem ck19 : CallOk Try.prog 19 := ⟨_, _, Try.func19, rfl, by kernel_rfl⟩
theorem ck20 : CallOk Try.prog 20 := ⟨_, _, Try.func20, rfl, by kernel_rfl⟩
theorem ck21 : CallOk Try.prog 21 := ⟨_, _, Try.func21, rfl, by kernel_rfl⟩
theorem ck22 : CallOk Try.prog 22 := ⟨_, _, Try.func22, rfl, by kernel_rfl⟩
theorem ck23 : CallOk Try.prog 23 := ⟨_, _, Try.func23, rfl, by kernel_rfl⟩
theorem ck25 : CallOk Try.prog 25 := ⟨_, _, Try.func25, rfl, by kernel_rfl⟩
theorem ck26 : CallOk Try.prog 26 := ⟨_, _, Try.func26, rfl, by kernel_rfl⟩
theorem ck29 : CallOk Try.prog 29 := ⟨_, _, Try.func29, rfl, by kernel_rfl⟩
theorem ck30 : CallOk Try.prog 30 := ⟨_, _, Try.func30, rfl, by kernel_rfl⟩
theorem ck35 : CallOk Try.prog 35 := ⟨_, _, Try.func35, rfl, by kernel_rfl⟩
theorem ck36 : CallOk Try.prog 36 := ⟨_, _, Try.func36, rfl, by kernel_rfl⟩
theorem ck37 : CallOk Try.prog 37 := ⟨_, _, Try.func37, rfl, by kernel_rfl⟩
theorem ck38 : CallOk Try.prog 38 := ⟨_, _, Try.func38, rfl, by kernel_rfl⟩
theorem ck39 : CallOk Try.prog 39 := ⟨_, _, Try.func39, rfl, by kernel_rfl⟩
theorem ck45 : CallOk Try.prog 45 := ⟨_, _, Try.func45, rfl, by kernel_rfl⟩
theorem ck46 : CallOk Try.prog 46 := ⟨_, _, Try.func46, rfl, by kernel_rfl⟩
theorem ck47 : CallOk Try.prog 47 := ⟨_, _, Try.func47, rfl, by kernel_rfl⟩
theorem ck48 : CallOk Try.prog 48 := ⟨_, _, Try.func48, rfl, by kernel_rfl⟩
theorem ck53 : CallOk Try.prog 53 := ⟨_, _, Try.func53, rfl, by kernel_rfl⟩
theorem ck54 : CallOk Try.prog 54 := ⟨_, _, Try.func54, rfl, by kernel_rfl⟩
theorem ck55 : CallOk Try.prog 55 := ⟨_, _, Try.func55, rfl, by kernel_rfl⟩
theorem ck68 : CallOk Try.prog 68 := ⟨_, _, Try.func68, rfl, by kernel_rfl⟩
theorem ck75 : CallOk Try.prog 75 := ⟨_, _, Try.func75, rfl, by kernel_rfl⟩
theorem st29 : StOk Try.prog 29 [.slice none 0 0, .int .i64 0, .int .i64 0] [(0, 1), (1, 1), (2, 1)] := ⟨Try.zeroValue29, _, Try.underlying29, fun w => by kernel_rfl⟩
theorem st34 : StOk Try.prog 34 [Str [], .slice none 0 0] [(0, 1), (1, 1)] := ⟨Try.zeroValue34, _, Try.underlying34, fun w => by kernel_rfl⟩
theorem st57 : StOk Try.prog 57 [.slice none 0 0, .int .i64 0, .int .i64 0] [(0, 1), (1, 1), (2, 1)] := ⟨Try.zeroValue57, _, Try.underlying57, fun w => by kernel_rfl⟩
theorem st71 : StOk Try.prog 71 [.pointer none, Str [], .int .i64 0, .int .i64 0] [(0, 1), (1, 1), (2, 1), (3, 1)] := ⟨Try.zeroValue71, _, Try.underlying71, fun w => by kernel_rfl⟩
theorem st85 : StOk Try.prog 85 [.slice none 0 0, .int .i64 0, .int .i64 0] [(0, 1), (1, 1), (2, 1)] := ⟨Try.zeroValue85, _, Try.underlying85, fun w => by kernel_rfl⟩
theorem el3 : ElOk Try.prog 3 1 8 := elOk_of (by kernel_rfl) (by decide)
theorem el22 : ElOk Try.prog 22 1 24 := elOk_of (by kernel_rfl) (by decide)
theorem el34 : ElOk Try.prog 34 2 40 := elOk_of (by kernel_rfl) (by decide)
set_option maxRecDepth 20000 in
theorem clone_28 {Z0 : Nat → Prop} (w : World) (A : Option Addr) (c : Nat) (l : List UInt8) {r : List UInt8} (h : (slR A c byteR l).H Z0 w) (hM : appL [] l = some r) :
    Calls Try.prog 28 #[.slice A l.length c] w fun x w' => ∃ A' c', x = .returned (.slice A' r.length c') ∧ Hp Z0 No w w' [ownR 5 A' c' byteR r] := by
  have hm0 := Hp.nil Z0 No w
  have hm1 := hm0.know (slR A c byteR l) (fun _ h => h) (hm0.in0 Calm.nil h)
  refine Rn.enter Try.func28 rfl rfl (Nat.le_of_ble_eq_true rfl) ?_
  refine Rn.seq (Rn.reg (Rn.v rfl rfl rfl rfl (V.as rfl) (Rn.regEnd (Rn.seq (Rn.seq (Rn.reg (Rn.v rfl rfl rfl rfl (V.mv rfl) (Rn.v rfl rfl rfl rfl (V.eqlV Try.underlying22 rfl rfl) (Rn.regEnd ?_)))))))))
  cases A with
  | none =>
    obtain rfl := clone_get h
    obtain ⟨_, rfl⟩ := appE hM
    refine Rn.condT rfl (Rn.seq (Rn.reg (Rn.v rfl rfl rfl rfl (V.as rfl) (Rn.regEnd ?_))))
    refine Rn.retG1 Try.func28 rfl (rvT rfl) ?_
    exact ⟨none, 0, rfl, (hm0.addNil 5 byteR)⟩
  | some a =>
    refine Rn.condF rfl (Rn.skip (Rn.seq (Rn.reg ?_)))
    refine Rn.bslS (ps := []) (us := []) rfl rfl rfl Try.underlying22 el5 rfl rfl rfl rfl (by simp) (by decide) ?_
    intro b2 w2 hb2 m2 e2
    have hm2 := hm1.addLit (rep := byteR) (xs := ([] : List UInt8)) (vss := []) hb2 e2 m2 rfl rfl rfl rels0
    refine Rn.v rfl rfl rfl rfl (V.mv rfl) (Rn.appH hm2 1 rfl hM rfl rfl rfl Try.underlying22 el5 rfl rfl rfl rfl (hm2.src 0 rfl) ?_)
    intro A3 c3 w3 hm3
    refine Rn.v rfl rfl rfl rfl (V.as rfl) (Rn.regEnd ?_)
    refine Rn.retG1 Try.func28 rfl (rvT rfl) ?_
    exact ⟨A3, c3, rfl, hm3.pick [1] rfl (by decide)⟩

set_option maxRecDepth 20000 in
theorem m_disk_New_sim {Z0 : Nat → Prop} (w : World) (A0 : Option Addr) (c0 : Nat) (x0 : (List T_api_File)) (x1 : Int) {r : (Option PD)} (f0 : (slR A0 c0 T_api_File.rep x0).H Z0 w) (hM : m_disk_New x0 x1 = some r) :
    Calls Try.prog 10 #[.slice A0 (x0).length c0, .int .i64 (x1)] w fun x w' => ∃ F_0 b_0, x = .returned (.pointer (optP b_0 r)) ∧ Hp Z0 No w w' [optR r (fun z => diskO 63 68 5 F_0 b_0 z)] := by
  unfold m_disk_New at hM
  split at hM
  · rename_i hg
    obtain rfl := someE hM
    refine (dnew_spec (D := All) A0 c0 _ (x0.map fun f : T_api_File => (f.Name, f.Data)) x1 w (by simp; omega) (by simp) (sl_map (g := fun f : T_api_File => (f.Name, f.Data)) (slR_all f0).2.2)).mono ?_
    rintro x w' ⟨h, hx⟩
    rcases h with ⟨rfl, hn⟩ | ⟨s, b, F, hn, rfl, hd, hF⟩
    · rw [hn]; exact ⟨No, 0, rfl, (Hp.nil Z0 No w).ext hx |>.addNone _⟩
    · rw [hn]; exact ⟨F, b, rfl, ((Hp.nil Z0 No w).add (diskO 63 68 5 F b s) hx hF fun _ _ => hd).toSome (R := fun z => diskO 63 68 5 F b z) 0 rfl⟩
  · cases hM

set_option maxRecDepth 20000 in
theorem m_disk_Disk_Read_sim {Z0 : Nat → Prop} (w : World) (F0 : Nat → Prop) (b0 : Nat) (x0 : PD) (x1 : (List UInt8)) {r : ((List UInt8) × Int)} (f0 : (fzR (diskO 63 68 5 F0 b0 x0)).H Z0 w) (hM : m_disk_Disk_Read x0 x1 = some r) :
    Calls Try.prog 16 #[.pointer (some ⟨b0, 0, none⟩), Str (x1)] w fun x w' => ∃ A_0_0 c_0_0, x = .returned (.tuple #[.slice A_0_0 (r.1).length c_0_0, .int .i64 (r.2)]) ∧ Hp Z0 No w w' [ownR 5 A_0_0 c_0_0 byteR r.1] := by
  unfold m_disk_Disk_Read at hM
  split at hM
  · rename_i hg
    obtain rfl := someE hM
    refine (read_spec x1 w hg f0.1).mono ?_
    rintro x w' ⟨hx, h⟩
    have h2 := (Hp.nil Z0 No w).ext hx
    rcases h with ⟨hd, rfl⟩ | ⟨hd, hf, rfl⟩ | ⟨f, A, c, hd, hf, rfl, ho⟩
    · rw [hd]; exact ⟨none, 0, rfl, h2.addNil 5 byteR⟩
    · rw [hd, hf]; exact ⟨none, 0, rfl, h2.addNil 5 byteR⟩
    · rw [hd, hf]; exact ⟨A, c, rfl, (Hp.nil Z0 No w).addOwn hx ho byte_flat⟩
  · cases hM

set_option maxRecDepth 20000 in
theorem m_disk_Disk_Create_sim {Z0 : Nat → Prop} (w : World) (F0 : Nat → Prop) (b0 : Nat) (x0 : PD) (x1 : (List UInt8)) {r : (Int × PD)} (hL : Lent Z0 w [diskO 63 68 5 F0 b0 x0]) (hM : m_disk_Disk_Create x0 x1 = some r) :
    Calls Try.prog 29 #[.pointer (some ⟨b0, 0, none⟩), Str (x1)] w fun x w' => ∃ F_p0, x = .returned (.int .i64 (r.1)) ∧ Hp Z0 (LS [diskO 63 68 5 F0 b0 x0]) w w' [diskO 63 68 5 F_p0 b0 r.2] := by
  unfold m_disk_Disk_Create at hM
  split at hM
  · rename_i hg
    obtain rfl := someE hM
    have hd : DkAt 63 68 5 w b0 F0 x0 := hL.1 0 _ rfl
    refine (create_spec x1 w hg hd).mono ?_
    rintro x w' ⟨rfl, F', d, hx, hF⟩
    exact ⟨F', rfl, hL.turn1 hx hF fun _ => d⟩
  · cases hM

set_option maxRecDepth 20000 in
theorem m_frame_number_sim {Z0 : Nat → Prop} (w : World) (A0 : Option Addr) (c0 : Nat) (x0 : (List UInt8)) {r : UInt32} (f0 : (slR A0 c0 byteR x0).H Z0 w) (hM : m_frame_number x0 = some r) :
    Calls Try.prog 47 #[.slice A0 (x0).length c0] w fun x w' => x = .returned (.int .u32 (((r).toNat : Nat) : Int)) ∧ Hp Z0 No w w' [] := by
  have hm0 := Hp.nil Z0 No w
  have hc0 := Calm.nil
  have hm2 := hm0.know (slR A0 c0 byteR x0) (fun _ h => h) (hm0.in0 hc0 f0)
  replace hc0 := hc0.snoc (r := slR A0 c0 byteR x0) (fun _ h => h)
  refine Rn.enter Try.func47 rfl rfl (Nat.le_of_ble_eq_true rfl) ?_
  refine Rn.seq (Rn.reg (Rn.v rfl rfl rfl rfl (V.as rfl) (Rn.regEnd (Rn.seq ?_))))
  refine Rn.drawP rfl hm2 ?_
  intro w3 hm3
  refine RH.takeP 0 (by kernel_rfl) rfl rfl rfl rfl (V.mv rfl) ?_
  obtain ⟨z4, e4, hM⟩ := bindE hM
  obtain ⟨kk4, ke4, kz4, kl4⟩ := idxE e4
  obtain ⟨b4, o4, vs4, hA4, hD4, hR4, hrel4⟩ := Hp.at hm3 0 rfl kz4
  obtain ⟨rfl, _⟩ := hrel4
  have hm6 : Hp Z0 No w w3 [slR A0 c0 byteR x0, rdR b4 (o4 + kk4 * 1) [.int .u8 (((z4).toNat : Nat) : Int)]] := Hp.knowL [rdR b4 (o4 + kk4 * 1) [.int .u8 (((z4).toNat : Nat) : Int)]] _ hm3 (knC (fun _ h => h) ⟨fun _ => hD4, hR4⟩ kn0)
  refine RH.takeP 1 (by kernel_rfl) rfl rfl rfl rfl (V.ixA' hA4 kk4 Try.underlying22 Try.sizeOf5 rfl rfl ke4 kl4) ?_
  refine RH.takeP 2 (by kernel_rfl) rfl rfl rfl rfl (V.ldR0 Try.isAgg5 rfl (hm6.get 1 rfl).2 rfl) ?_
  refine RH.takeP 3 (by kernel_rfl) rfl rfl rfl rfl (V.cv32 Try.underlying5 Try.underlying89 rfl) ?_
  refine RH.takeP 4 (by kernel_rfl) rfl rfl rfl rfl (V.mv rfl) ?_
  obtain ⟨z7, e7, hM⟩ := bindE hM
  obtain ⟨kk7, ke7, kz7, kl7⟩ := idxE e7
  obtain ⟨b7, o7, vs7, hA7, hD7, hR7, hrel7⟩ := Hp.at hm6 0 rfl kz7
  obtain ⟨rfl, _⟩ := hrel7
  have hm9 : Hp Z0 No w w3 [slR A0 c0 byteR x0, rdR b4 (o4 + kk4 * 1) [.int .u8 (((z4).toNat : Nat) : Int)], rdR b7 (o7 + kk7 * 1) [.int .u8 (((z7).toNat : Nat) : Int)]] := Hp.knowL [rdR b7 (o7 + kk7 * 1) [.int .u8 (((z7).toNat : Nat) : Int)]] _ hm6 (knC (fun _ h => h) ⟨fun _ => hD7, hR7⟩ kn0)
  refine RH.takeP 5 (by kernel_rfl) rfl rfl rfl rfl (V.ixA' hA7 kk7 Try.underlying22 Try.sizeOf5 rfl rfl ke7 kl7) ?_
  refine RH.takeP 6 (by kernel_rfl) rfl rfl rfl rfl (V.ldR0 Try.isAgg5 rfl (hm9.get 2 rfl).2 rfl) ?_
  refine RH.takeP 7 (by kernel_rfl) rfl rfl rfl rfl (V.cv32 Try.underlying5 Try.underlying89 rfl) ?_
  refine RH.takeP 8 (by kernel_rfl) rfl rfl rfl rfl (V.sh32 rfl rfl _ 8 rfl rfl (b32_shl _ _ _ 8 (by decide))) ?_
  refine RH.takeP 9 (by kernel_rfl) rfl rfl rfl rfl (V.o32 rfl rfl (toU32 ((z4).toNat : Int)) ((toU32 ((z7).toNat : Int)) <<< UInt32.ofNat 8) rfl rfl (b32_or _ _ _)) ?_
  refine RH.takeP 10 (by kernel_rfl) rfl rfl rfl rfl (V.mv rfl) ?_
  obtain ⟨z10, e10, hM⟩ := bindE hM
  obtain ⟨kk10, ke10, kz10, kl10⟩ := idxE e10
  obtain ⟨b10, o10, vs10, hA10, hD10, hR10, hrel10⟩ := Hp.at hm9 0 rfl kz10
  obtain ⟨rfl, _⟩ := hrel10
  have hm12 : Hp Z0 No w w3 [slR A0 c0 byteR x0, rdR b4 (o4 + kk4 * 1) [.int .u8 (((z4).toNat : Nat) : Int)], rdR b7 (o7 + kk7 * 1) [.int .u8 (((z7).toNat : Nat) : Int)], rdR b10 (o10 + kk10 * 1) [.int .u8 (((z10).toNat : Nat) : Int)]] := Hp.knowL [rdR b10 (o10 + kk10 * 1) [.int .u8 (((z10).toNat : Nat) : Int)]] _ hm9 (knC (fun _ h => h) ⟨fun _ => hD10, hR10⟩ kn0)
  refine RH.takeP 11 (by kernel_rfl) rfl rfl rfl rfl (V.ixA' hA10 kk10 Try.underlying22 Try.sizeOf5 rfl rfl ke10 kl10) ?_
  refine RH.takeP 12 (by kernel_rfl) rfl rfl rfl rfl (V.ldR0 Try.isAgg5 rfl (hm12.get 3 rfl).2 rfl) ?_
  refine RH.takeP 13 (by kernel_rfl) rfl rfl rfl rfl (V.cv32 Try.underlying5 Try.underlying89 rfl) ?_
  refine RH.takeP 14 (by kernel_rfl) rfl rfl rfl rfl (V.sh32 rfl rfl _ 16 rfl rfl (b32_shl _ _ _ 16 (by decide))) ?_
  refine RH.takeP 15 (by kernel_rfl) rfl rfl rfl rfl (V.o32 rfl rfl ((toU32 ((z4).toNat : Int)) ||| ((toU32 ((z7).toNat : Int)) <<< UInt32.ofNat 8)) ((toU32 ((z10).toNat : Int)) <<< UInt32.ofNat 16) rfl rfl (b32_or _ _ _)) ?_
  refine RH.takeP 16 (by kernel_rfl) rfl rfl rfl rfl (V.mv rfl) ?_
  obtain ⟨z13, e13, hM⟩ := bindE hM
  obtain ⟨kk13, ke13, kz13, kl13⟩ := idxE e13
  obtain ⟨b13, o13, vs13, hA13, hD13, hR13, hrel13⟩ := Hp.at hm12 0 rfl kz13
  obtain ⟨rfl, _⟩ := hrel13
  have hm15 : Hp Z0 No w w3 [slR A0 c0 byteR x0, rdR b4 (o4 + kk4 * 1) [.int .u8 (((z4).toNat : Nat) : Int)], rdR b7 (o7 + kk7 * 1) [.int .u8 (((z7).toNat : Nat) : Int)], rdR b10 (o10 + kk10 * 1) [.int .u8 (((z10).toNat : Nat) : Int)], rdR b13 (o13 + kk13 * 1) [.int .u8 (((z13).toNat : Nat) : Int)]] := Hp.knowL [rdR b13 (o13 + kk13 * 1) [.int .u8 (((z13).toNat : Nat) : Int)]] _ hm12 (knC (fun _ h => h) ⟨fun _ => hD13, hR13⟩ kn0)
  refine RH.takeP 17 (by kernel_rfl) rfl rfl rfl rfl (V.ixA' hA13 kk13 Try.underlying22 Try.sizeOf5 rfl rfl ke13 kl13) ?_
  refine RH.takeP 18 (by kernel_rfl) rfl rfl rfl rfl (V.ldR0 Try.isAgg5 rfl (hm15.get 4 rfl).2 rfl) ?_
  refine RH.takeP 19 (by kernel_rfl) rfl rfl rfl rfl (V.cv32 Try.underlying5 Try.underlying89 rfl) ?_
  refine RH.takeP 20 (by kernel_rfl) rfl rfl rfl rfl (V.sh32 rfl rfl _ 24 rfl rfl (b32_shl _ _ _ 24 (by decide))) ?_
  refine RH.takeP 21 (by kernel_rfl) rfl rfl rfl rfl (V.o32 rfl rfl (((toU32 ((z4).toNat : Int)) ||| ((toU32 ((z7).toNat : Int)) <<< UInt32.ofNat 8)) ||| ((toU32 ((z10).toNat : Int)) <<< UInt32.ofNat 16)) ((toU32 ((z13).toNat : Int)) <<< UInt32.ofNat 24) rfl rfl (b32_or _ _ _)) ?_
  refine RH.takeP 22 (by kernel_rfl) rfl rfl rfl rfl (V.as rfl) ?_
  refine RH.doneP (by kernel_rfl) ?_
  refine Rn.retG1 Try.func47 rfl (rvT rfl) ?_
  obtain rfl := someE hM
  exact ⟨rfl, hm15.pick [] rfl (by decide)⟩

set_option maxRecDepth 20000 in
theorem m_crc_Of_sim {Z0 : Nat → Prop} (w : World) (A0 : Option Addr) (c0 : Nat) (x0 : (List UInt8)) {r : UInt32} (f0 : (slR A0 c0 byteR x0).H Z0 w) (hM : m_crc_Of x0 = some r) :
    Calls Try.prog 53 #[.slice A0 (x0).length c0] w fun x w' => x = .returned (.int .u32 (((r).toNat : Nat) : Int)) ∧ Hp Z0 No w w' [] := by
  unfold m_crc_Of at hM
  split at hM
  · rename_i hg
    obtain rfl := someE hM
    refine (of_spec A0 c0 x0 w (by omega) (slR_all f0).2.2).mono ?_
    rintro x w' ⟨rfl, hx⟩
    exact ⟨rfl, (Hp.nil Z0 No w).ext hx⟩
  · cases hM

set_option maxRecDepth 20000 in
theorem m_crc_More_sim {Z0 : Nat → Prop} (w : World) (x0 : UInt32) (A1 : Option Addr) (c1 : Nat) (x1 : (List UInt8)) {r : UInt32} (f0 : (slR A1 c1 byteR x1).H Z0 w) (hM : m_crc_More x0 x1 = some r) :
    Calls Try.prog 52 #[.int .u32 (((x0).toNat : Nat) : Int), .slice A1 (x1).length c1] w fun x w' => x = .returned (.int .u32 (((r).toNat : Nat) : Int)) ∧ Hp Z0 No w w' [] := by
  unfold m_crc_More at hM
  split at hM
  · rename_i hg
    obtain rfl := someE hM
    refine (more_spec x0 A1 c1 x1 w (by omega) (slR_all f0).2.2).mono ?_
    rintro x w' ⟨rfl, hx⟩
    exact ⟨rfl, (Hp.nil Z0 No w).ext hx⟩
  · cases hM

set_option maxRecDepth 20000 in
theorem m_frame_sum_sim {Z0 : Nat → Prop} (w : World) (A0 : Option Addr) (c0 : Nat) (x0 : (List UInt8)) (A1 : Option Addr) (c1 : Nat) (x1 : (List UInt8)) {r : UInt32} (f0 : (slR A0 c0 byteR x0).H Z0 w) (f1 : (slR A1 c1 byteR x1).H Z0 w) (hM : m_frame_sum x0 x1 = some r) :
    Calls Try.prog 46 #[.slice A0 (x0).length c0, .slice A1 (x1).length c1] w fun x w' => x = .returned (.int .u32 (((r).toNat : Nat) : Int)) ∧ Hp Z0 No w w' [] := by
  have hm0 := Hp.nil Z0 No w
  have hc0 := Calm.nil
  have hm3 := hm0.know (slR A0 c0 byteR x0) (fun _ h => h) (hm0.in0 hc0 f0)
  replace hc0 := hc0.snoc (r := slR A0 c0 byteR x0) (fun _ h => h)
  have hm4 := hm3.know (slR A1 c1 byteR x1) (fun _ h => h) (hm3.in0 hc0 f1)
  replace hc0 := hc0.snoc (r := slR A1 c1 byteR x1) (fun _ h => h)
  refine Rn.enter Try.func46 rfl rfl (Nat.le_of_ble_eq_true rfl) ?_
  refine Rn.seq (Rn.reg (Rn.v rfl rfl rfl rfl (V.as rfl) (Rn.regEnd (Rn.seq (Rn.reg (Rn.v rfl rfl rfl rfl (V.mv rfl) ?_))))))
  obtain ⟨p5, e5, hM⟩ := bindE hM
  refine Rn.cl ck53 rfl rfl rfl rfl (m_crc_Of_sim (Z0 := All) _ A0 c0 x0 (slR_all (hm4.get 0 rfl)) e5) ?_
  rintro _ w5 ⟨rfl, hq5⟩
  refine ⟨_, rfl, ?_⟩
  have hm6 := hm4.call0 hq5
  refine Rn.v rfl rfl rfl rfl (V.mv rfl) ?_
  obtain ⟨p7, e7, hM⟩ := bindE hM
  refine Rn.cl ck52 rfl rfl rfl rfl (m_crc_More_sim (Z0 := All) _ p5 A1 c1 x1 (slR_all (hm6.get 1 rfl)) e7) ?_
  rintro _ w7 ⟨rfl, hq7⟩
  refine ⟨_, rfl, ?_⟩
  have hm8 := hm6.call0 hq7
  refine Rn.v rfl rfl rfl rfl (V.as rfl) (Rn.regEnd ?_)
  refine Rn.retG1 Try.func46 rfl (rvT rfl) ?_
  obtain rfl := someE hM
  exact ⟨rfl, hm8.pick [] rfl (by decide)⟩

set_option maxRecDepth 20000 in
theorem m_bytes_Clone_sim {Z0 : Nat → Prop} (w : World) (A0 : Option Addr) (c0 : Nat) (x0 : (List UInt8)) {r : (List UInt8)} (f0 : (slR A0 c0 byteR x0).H Z0 w) (hM : m_bytes_Clone x0 = some r) :
    Calls Try.prog 28 #[.slice A0 (x0).length c0] w fun x w' => ∃ A_0_0 c_0_0, x = .returned (.slice A_0_0 (r).length c_0_0) ∧ Hp Z0 No w w' [ownR 5 A_0_0 c_0_0 byteR r] := by
  exact clone_28 w A0 c0 x0 f0 hM

set_option maxRecDepth 20000 in
theorem m_frame_First_sim {Z0 : Nat → Prop} (w : World) (A0 : Option Addr) (c0 : Nat) (x0 : (List UInt8)) {r : ((List UInt8) × Int × Int)} (f0 : (slR A0 c0 byteR x0).H Z0 w) (hM : m_frame_First x0 = some r) :
    Calls Try.prog 38 #[.slice A0 (x0).length c0] w fun x w' => ∃ A_0_0 c_0_0, x = .returned (.tuple #[.slice A_0_0 (r.1).length c_0_0, .int .i64 (r.2.1), .int .i64 (r.2.2)]) ∧ Hp Z0 No w w' [ownR 5 A_0_0 c_0_0 byteR r.1] := by
  have hm0 := Hp.nil Z0 No w
  have hc0 := Calm.nil
  have hm2 := hm0.know (slR A0 c0 byteR x0) (fun _ h => h) (hm0.in0 hc0 f0)
  replace hc0 := hc0.snoc (r := slR A0 c0 byteR x0) (fun _ h => h)
  refine Rn.enter Try.func38 rfl rfl (Nat.le_of_ble_eq_true rfl) ?_
  refine Rn.seq (Rn.reg (Rn.v rfl rfl rfl rfl (V.as rfl) (Rn.v rfl rfl rfl rfl (V.as rfl) (Rn.v rfl rfl rfl rfl (V.as rfl) (Rn.regEnd (Rn.seq (Rn.block (Rn.seq (Rn.reg (Rn.v rfl rfl rfl rfl (V.mv rfl) (Rn.v rfl rfl rfl rfl (V.lenV Try.underlying22 rfl) (Rn.v rfl rfl rfl rfl (V.eql rfl rfl) (Rn.v rfl rfl rfl rfl (V.as rfl) (Rn.regEnd ?_))))))))))))))
  refine Rn.condD rfl (fun h3 => ?_) (fun h3 => ?_)
  · replace hM := iteT h3 hM
    refine Rn.seq (Rn.reg (Rn.v rfl rfl rfl rfl (V.as rfl) (Rn.v rfl rfl rfl rfl (V.as rfl) (Rn.v rfl rfl rfl rfl (V.as rfl) (Rn.regEnd ?_)))))
    have hm4 := hm2.addNil 5 byteR
    refine Rn.retG3 Try.func38 rfl (rvT rfl) (rvT rfl) (rvT rfl) ?_
    obtain rfl := someE hM
    exact ⟨none, 0, rfl, hm4.pick [1] rfl (by decide)⟩
  · replace hM := iteF h3 hM
    refine Rn.seq (Rn.reg (Rn.v rfl rfl rfl rfl (V.mv rfl) ?_))
    obtain ⟨z6, e6, hM⟩ := bindE hM
    refine Rn.ixH hm2 0 rfl e6 rfl rfl rfl Try.underlying22 Try.sizeOf5 rfl rfl rfl rfl ?_
    rintro b6 o6 vs6 ⟨rfl, _⟩ hm6
    refine Rn.v rfl rfl rfl rfl (V.ldR0 Try.isAgg5 rfl (hm6.get 1 rfl).2 rfl) (Rn.v rfl rfl rfl rfl (V.neq rfl rfl) (Rn.v rfl rfl rfl rfl (V.as rfl) (Rn.regEnd ?_)))
    refine Rn.condD rfl (fun h8 => ?_) (fun h8 => ?_)
    · replace hM := iteT h8 hM
      refine Rn.seq (Rn.reg (Rn.v rfl rfl rfl rfl (V.as rfl) (Rn.v rfl rfl rfl rfl (V.as rfl) (Rn.v rfl rfl rfl rfl (V.as rfl) (Rn.regEnd ?_)))))
      have hm9 := hm6.addNil 5 byteR
      refine Rn.retG3 Try.func38 rfl (rvT rfl) (rvT rfl) (rvT rfl) ?_
      obtain rfl := someE hM
      exact ⟨none, 0, rfl, hm9.pick [2] rfl (by decide)⟩
    · replace hM := iteF h8 hM
      refine Rn.seq (Rn.reg (Rn.v rfl rfl rfl rfl (V.mv rfl) (Rn.v rfl rfl rfl rfl (V.lenV Try.underlying22 rfl) (Rn.v rfl rfl rfl rfl (V.lss rfl rfl) (Rn.v rfl rfl rfl rfl (V.as rfl) (Rn.regEnd ?_))))))
      refine Rn.condD rfl (fun h11 => ?_) (fun h11 => ?_)
      · replace hM := iteT h11 hM
        refine Rn.seq (Rn.reg (Rn.v rfl rfl rfl rfl (V.as rfl) (Rn.v rfl rfl rfl rfl (V.as rfl) (Rn.v rfl rfl rfl rfl (V.as rfl) (Rn.regEnd ?_)))))
        have hm12 := hm6.addNil 5 byteR
        refine Rn.retG3 Try.func38 rfl (rvT rfl) (rvT rfl) (rvT rfl) ?_
        obtain rfl := someE hM
        exact ⟨none, 0, rfl, hm12.pick [2] rfl (by decide)⟩
      · replace hM := iteF h11 hM
        refine Rn.skip (Rn.inBlock (Rn.seq (Rn.reg (Rn.v rfl rfl rfl rfl (V.mv rfl) ?_))))
        obtain ⟨z14, e14, hM⟩ := bindE hM
        refine Rn.cutH hm6 0 rfl e14 rfl rfl rfl Try.underlying22 Try.sizeOf5 rfl rfl rfl rfl rfl ?_
        intro A14 c14 hm14
        obtain ⟨p16, e16, hM⟩ := bindE hM
        refine Rn.cl ck47 rfl rfl rfl rfl (m_frame_number_sim (Z0 := All) _ A14 c14 z14 (slR_all (hm14.get 2 rfl)) e16) ?_
        rintro _ w16 ⟨rfl, hq16⟩
        refine ⟨_, rfl, ?_⟩
        have hm17 := hm14.call0 hq16
        refine Rn.v rfl rfl rfl rfl (V.as rfl) (Rn.regEnd (Rn.seq (Rn.block (Rn.seq (Rn.reg (Rn.v rfl rfl rfl rfl (V.mv rfl) (Rn.v rfl rfl rfl rfl (V.gtr rfl rfl) (Rn.v rfl rfl rfl rfl (V.as rfl) (Rn.regEnd ?_)))))))))
        refine Rn.condD rfl (fun h18 => ?_) (fun h18 => ?_)
        · replace hM := iteT h18 hM
          refine Rn.seq (Rn.reg (Rn.v rfl rfl rfl rfl (V.as rfl) (Rn.v rfl rfl rfl rfl (V.as rfl) (Rn.v rfl rfl rfl rfl (V.as rfl) (Rn.regEnd ?_)))))
          have hm19 := hm17.addNil 5 byteR
          refine Rn.retG3 Try.func38 rfl (rvT rfl) (rvT rfl) (rvT rfl) ?_
          obtain rfl := someE hM
          exact ⟨none, 0, rfl, hm19.pick [3] rfl (by decide)⟩
        · replace hM := iteF h18 hM
          refine Rn.seq (Rn.reg (Rn.v rfl rfl rfl rfl (V.mv rfl) (Rn.v rfl rfl rfl rfl (V.cv32i (a := p16) Try.underlying89 Try.underlying3 rfl) (Rn.v rfl rfl rfl rfl (V.mv rfl) (Rn.v rfl rfl rfl rfl (V.lenV Try.underlying22 rfl) (Rn.v rfl rfl rfl rfl (V.subW rfl rfl) (Rn.v rfl rfl rfl rfl (V.gtr rfl rfl) (Rn.v rfl rfl rfl rfl (V.as rfl) (Rn.regEnd ?_)))))))))
          refine Rn.condD rfl (fun h21 => ?_) (fun h21 => ?_)
          · replace hM := iteT h21 hM
            refine Rn.seq (Rn.reg (Rn.v rfl rfl rfl rfl (V.as rfl) (Rn.v rfl rfl rfl rfl (V.as rfl) (Rn.v rfl rfl rfl rfl (V.as rfl) (Rn.regEnd ?_)))))
            have hm22 := hm17.addNil 5 byteR
            refine Rn.retG3 Try.func38 rfl (rvT rfl) (rvT rfl) (rvT rfl) ?_
            obtain rfl := someE hM
            exact ⟨none, 0, rfl, hm22.pick [3] rfl (by decide)⟩
          · replace hM := iteF h21 hM
            refine Rn.skip (Rn.inBlock (Rn.seq (Rn.reg (Rn.v rfl rfl rfl rfl (V.mv rfl) (Rn.v rfl rfl rfl rfl (V.cv32i (a := p16) Try.underlying89 Try.underlying3 rfl) (Rn.v rfl rfl rfl rfl (V.addW rfl rfl) (Rn.v rfl rfl rfl rfl (V.as rfl) (Rn.regEnd (Rn.seq (Rn.seq ?_))))))))))
            refine Rn.drawH rfl hm17 ?_
            intro w24 hm24
            refine RH.take 0 (by kernel_rfl) rfl rfl rfl rfl (fun w' hDr => V.mv rfl) ?_
            obtain ⟨z25, e25, hM⟩ := bindE hM
            refine RH.cutH 1 (by kernel_rfl) hm24 0 rfl e25 rfl rfl rfl Try.underlying22 Try.sizeOf5 rfl rfl rfl rfl rfl ?_
            intro A25 c25 hm25
            refine RH.take 2 (by kernel_rfl) rfl rfl rfl rfl (fun w' hDr => V.mv rfl) ?_
            refine RH.take 3 (by kernel_rfl) rfl rfl rfl rfl (fun w' hDr => V.mv rfl) ?_
            obtain ⟨z27, e27, hM⟩ := bindE hM
            refine RH.cutH 4 (by kernel_rfl) hm25 0 rfl e27 rfl rfl rfl Try.underlying22 Try.sizeOf5 rfl rfl rfl rfl rfl ?_
            intro A27 c27 hm27
            refine RH.take 6 (by kernel_rfl) rfl rfl rfl rfl (fun w' hDr => V.mv rfl) ?_
            obtain ⟨z29, e29, hM⟩ := bindE hM
            refine RH.cutH 7 (by kernel_rfl) hm27 0 rfl e29 rfl rfl rfl Try.underlying22 Try.sizeOf5 rfl rfl rfl rfl rfl ?_
            intro A29 c29 hm29
            obtain ⟨p31, e31, hM⟩ := bindE hM
            refine RH.cl ck46 5 (by kernel_rfl) rfl rfl rfl rfl (m_frame_sum_sim (Z0 := All) _ A25 c25 z25 A27 c27 z27 (slR_all (hm29.get 3 rfl)) (slR_all (hm29.get 4 rfl)) e31) ?_
            rintro _ w31 ⟨rfl, hq31⟩
            refine ⟨_, rfl, ((Ext.refl _).trans hq31.fr), ?_⟩
            have hm32 := hm29.call0 hq31
            obtain ⟨p33, e33, hM⟩ := bindE hM
            refine RH.cl ck47 8 (by kernel_rfl) rfl rfl rfl rfl (m_frame_number_sim (Z0 := All) _ A29 c29 z29 (slR_all (hm32.get 5 rfl)) e33) ?_
            rintro _ w33 ⟨rfl, hq33⟩
            refine ⟨_, rfl, (((Ext.refl _).trans hq31.fr).trans hq33.fr), ?_⟩
            have hm34 := hm32.call0 hq33
            refine RH.here fun hS9 => RH.one 9 (by kernel_rfl) rfl rfl rfl rfl (V.neq rfl rfl) hS9 ?_
            refine RH.doneP (by kernel_rfl) ?_
            refine Rn.condD rfl (fun h35 => ?_) (fun h35 => ?_)
            · replace hM := iteT h35 hM
              refine Rn.seq (Rn.reg (Rn.v rfl rfl rfl rfl (V.as rfl) (Rn.v rfl rfl rfl rfl (V.as rfl) (Rn.v rfl rfl rfl rfl (V.as rfl) (Rn.regEnd ?_)))))
              have hm36 := hm34.addNil 5 byteR
              refine Rn.retG3 Try.func38 rfl (rvT rfl) (rvT rfl) (rvT rfl) ?_
              obtain rfl := someE hM
              exact ⟨none, 0, rfl, hm36.pick [6] rfl (by decide)⟩
            · replace hM := iteF h35 hM
              refine Rn.skip (Rn.seq (Rn.reg (Rn.v rfl rfl rfl rfl (V.mv rfl) (Rn.v rfl rfl rfl rfl (V.mv rfl) ?_))))
              obtain ⟨z38, e38, hM⟩ := bindE hM
              refine Rn.cutH hm34 0 rfl e38 rfl rfl rfl Try.underlying22 Try.sizeOf5 rfl rfl rfl rfl rfl ?_
              intro A38 c38 hm38
              obtain ⟨p40, e40, hM⟩ := bindE hM
              refine Rn.cl ck28 rfl rfl rfl rfl (m_bytes_Clone_sim (Z0 := All) _ A38 c38 z38 (slR_all (hm38.get 6 rfl)) e40) ?_
              rintro _ w40 ⟨A40_0_0, c40_0_0, rfl, hq40⟩
              refine ⟨_, rfl, ?_⟩
              have hm42 : Hp Z0 No w w40 [slR A0 c0 byteR x0, rdR b6 o6 [.int .u8 (((z6).toNat : Nat) : Int)], slR A14 c14 byteR z14, slR A25 c25 byteR z25, slR A27 c27 byteR z27, slR A29 c29 byteR z29, slR A38 c38 byteR z38, ownR 5 A40_0_0 c40_0_0 byteR p40] := hm38.callF (flC (ownR_flat byte_flat _ _ _ _) fl0) hq40
              refine Rn.v rfl rfl rfl rfl (V.mv rfl) (Rn.v rfl rfl rfl rfl (V.as rfl) (Rn.v rfl rfl rfl rfl (V.as rfl) (Rn.v rfl rfl rfl rfl (V.as rfl) (Rn.regEnd ?_))))
              refine Rn.retG3 Try.func38 rfl (rvT rfl) (rvT rfl) (rvT rfl) ?_
              obtain rfl := someE hM
              exact ⟨A40_0_0, c40_0_0, rfl, hm42.pick [7] rfl (by decide)⟩

set_option maxRecDepth 20000 in
theorem m_frame_Scan_sim {Z0 : Nat → Prop} (w : World) (A0 : Option Addr) (c0 : Nat) (x0 : (List UInt8)) {r : ((List (List UInt8)) × Int × Int)} (f0 : (slR A0 c0 byteR x0).H Z0 w) (hM : m_frame_Scan x0 = some r) :
    Calls Try.prog 25 #[.slice A0 (x0).length c0] w fun x w' => ∃ A_0_0 c_0_0, x = .returned (.tuple #[.slice A_0_0 (r.1).length c_0_0, .int .i64 (r.2.1), .int .i64 (r.2.2)]) ∧ Hp Z0 No w w' [ownR 22 A_0_0 c_0_0 (Rep.sl byteR) r.1] := by
  have hm0 := Hp.nil Z0 No w
  have hc0 := Calm.nil
  have hm2 := hm0.know (slR A0 c0 byteR x0) (fun _ h => h) (hm0.in0 hc0 f0)
  replace hc0 := hc0.snoc (r := slR A0 c0 byteR x0) (fun _ h => h)
  refine Rn.enter Try.func25 rfl rfl (Nat.le_of_ble_eq_true rfl) ?_
  refine Rn.seq (Rn.reg (Rn.v rfl rfl rfl rfl (V.as rfl) (Rn.v rfl rfl rfl rfl (V.as rfl) (Rn.v rfl rfl rfl rfl (V.as rfl) (Rn.regEnd (Rn.scope ?_))))))
  refine Rn.loopL (r := r) (G := (List (List UInt8)) × Int × Option Addr × Nat) 0 rfl (fun g => [(0, .slice A0 (x0).length c0), (2, .slice (g.2.2.1) ((g.1)).length (g.2.2.2)), (3, .int .i64 ((g.2.1)))]) (fun g w' => Hp Z0 No w w' [slR A0 c0 byteR x0, ownR 22 (g.2.2.1) (g.2.2.2) (Rep.sl byteR) (g.1)]) (fun n g => m_frame_Scan_L1 x0 n g.1 g.2.1) fuel (fun _ => rfl) ?_ ?_
  · clear hM
    rintro m8 ⟨y3, y6, A4, c4⟩ w8 hm8 hM hn8
    replace hm8 : Hp Z0 No w w8 [slR A0 c0 byteR x0, ownR 22 A4 c4 (Rep.sl byteR) y3] := hm8
    show Rn _ _ _ _ _ [(0, .slice A0 (x0).length c0), (2, .slice A4 (y3).length c4), (3, .int .i64 (y6))] _
    replace hM : m_frame_Scan_L1 x0 (m8 + 1) y3 y6 = some r := hM
    rw [m_frame_Scan_L1] at hM
    refine Rn.seq (Rn.seq (Rn.reg (Rn.v rfl rfl rfl rfl (V.mv rfl) (Rn.v rfl rfl rfl rfl (V.mv rfl) (Rn.v rfl rfl rfl rfl (V.lenV Try.underlying22 rfl) (Rn.v rfl rfl rfl rfl (V.eql rfl rfl) (Rn.regEnd ?_)))))))
    refine Rn.condD rfl (fun h9 => ?_) (fun h9 => ?_)
    · replace hM := iteT h9 hM
      refine Rn.seq (Rn.reg (Rn.v rfl rfl rfl rfl (V.mv rfl) (Rn.v rfl rfl rfl rfl (V.mv rfl) (Rn.v rfl rfl rfl rfl (V.as rfl) (Rn.v rfl rfl rfl rfl (V.as rfl) (Rn.v rfl rfl rfl rfl (V.as rfl) (Rn.regEnd ?_)))))))
      refine Rn.retG3 Try.func25 rfl (rvT rfl) (rvT rfl) (rvT rfl) ?_
      obtain rfl := someE hM
      exact ⟨A4, c4, rfl, hm8.pick [1] rfl (by decide)⟩
    · replace hM := iteF h9 hM
      refine Rn.skip (Rn.seq (Rn.reg (Rn.v rfl rfl rfl rfl (V.mv rfl) (Rn.v rfl rfl rfl rfl (V.mv rfl) ?_))))
      obtain ⟨z10, e10, hM⟩ := bindE hM
      refine Rn.cutH hm8 0 rfl e10 rfl rfl rfl Try.underlying22 Try.sizeOf5 rfl rfl rfl rfl rfl ?_
      intro A10 c10 hm10
      obtain ⟨p12, e12, hM⟩ := bindE hM
      refine Rn.cl ck38 rfl rfl rfl rfl (m_frame_First_sim (Z0 := All) _ A10 c10 z10 (slR_all (hm10.get 2 rfl)) e12) ?_
      rintro _ w12 ⟨A12_0_0, c12_0_0, rfl, hq12⟩
      refine ⟨_, rfl, ?_⟩
      have hm14 : Hp Z0 No w w12 [slR A0 c0 byteR x0, ownR 22 A4 c4 (Rep.sl byteR) y3, slR A10 c10 byteR z10, ownR 5 A12_0_0 c12_0_0 byteR p12.1] := hm10.callF (flC (ownR_flat byte_flat _ _ _ _) fl0) hq12
      refine Rn.v rfl rfl rfl rfl (V.mv rfl) (Rn.v rfl rfl rfl rfl (V.ext rfl rfl) (Rn.v rfl rfl rfl rfl (V.ext rfl rfl) (Rn.v rfl rfl rfl rfl (V.ext rfl rfl) (Rn.v rfl rfl rfl rfl (V.as rfl) (Rn.v rfl rfl rfl rfl (V.as rfl) (Rn.v rfl rfl rfl rfl (V.as rfl) (Rn.regEnd (Rn.seq (Rn.seq (Rn.reg (Rn.v rfl rfl rfl rfl (V.mv rfl) (Rn.v rfl rfl rfl rfl (V.eql rfl rfl) (Rn.regEnd ?_)))))))))))))
      refine Rn.condD rfl (fun h15 => ?_) (fun h15 => ?_)
      · replace hM := iteT h15 hM
        refine Rn.seq (Rn.reg (Rn.v rfl rfl rfl rfl (V.mv rfl) (Rn.v rfl rfl rfl rfl (V.mv rfl) ?_)))
        have hm17 := hm14.freeze 3 rfl
        obtain ⟨z18, e18, hM⟩ := bindE hM
        refine Rn.pushH (z := p12.1) (vs := [.slice A12_0_0 (p12.1).length c12_0_0]) hm17 1 rfl e18 rfl rfl rfl rfl Try.underlying24 el22 rfl rfl rfl rfl (fun _ => rfl) (⟨_, _, rfl, (hm17.get 3 rfl).1, (hm17.get 3 rfl).2.1, (hm17.get 3 rfl).2.2⟩) ?_
        intro A18 c18 w18 u18 hm18
        refine Rn.v rfl rfl rfl rfl (V.mv rfl) (Rn.v rfl rfl rfl rfl (V.mv rfl) (Rn.v rfl rfl rfl rfl (V.addW rfl rfl) (Rn.v rfl rfl rfl rfl (V.as rfl) (Rn.v rfl rfl rfl rfl (V.as rfl) (Rn.regEnd (Rn.goto rfl (Rn.seq (Rn.skip ?_))))))))
        exact hn8 (z18, (W64 (y6 + p12.2.1)), A18, c18) _ _ (Sub.cons rfl (Sub.cons rfl (Sub.cons rfl (Sub.nil _)))) (hm18.pick [0, 1] rfl (by decide)) hM
      · replace hM := iteF h15 hM
        refine Rn.skip (Rn.seq (Rn.reg (Rn.v rfl rfl rfl rfl (V.mv rfl) (Rn.v rfl rfl rfl rfl (V.mv rfl) (Rn.v rfl rfl rfl rfl (V.mv rfl) (Rn.v rfl rfl rfl rfl (V.as rfl) (Rn.v rfl rfl rfl rfl (V.as rfl) (Rn.v rfl rfl rfl rfl (V.as rfl) (Rn.regEnd ?_)))))))))
        refine Rn.retG3 Try.func25 rfl (rvT rfl) (rvT rfl) (rvT rfl) ?_
        obtain rfl := someE hM
        exact ⟨A4, c4, rfl, hm14.pick [1] rfl (by decide)⟩
  intro hk1
  refine Rn.seq (Rn.reg (Rn.v rfl rfl rfl rfl (V.as rfl) (Rn.regEnd (Rn.seq (Rn.reg (Rn.v rfl rfl rfl rfl (V.as rfl) (Rn.regEnd (Rn.seq (Rn.label ?_)))))))))
  have hm20 := hm2.addNil 22 (Rep.sl byteR)
  exact hk1 (([] : List (List UInt8)), 0, none, 0) _ _ (Sub.cons rfl (Sub.cons rfl (Sub.cons rfl (Sub.nil _)))) (hm20.pick [0, 1] rfl (by decide)) hM

set_option maxRecDepth 20000 in
theorem m_wal_Records_sim {Z0 : Nat → Prop} (w : World) (A0 : Option Addr) (c0 : Nat) (x0 : (List UInt8)) {r : ((List (List UInt8)) × Int × Int)} (f0 : (slR A0 c0 byteR x0).H Z0 w) (hM : m_wal_Records x0 = some r) :
    Calls Try.prog 7 #[.slice A0 (x0).length c0] w fun x w' => ∃ A_0_0 c_0_0, x = .returned (.tuple #[.slice A_0_0 (r.1).length c_0_0, .int .i64 (r.2.1), .int .i64 (r.2.2)]) ∧ Hp Z0 No w w' [ownR 22 A_0_0 c_0_0 (Rep.sl byteR) r.1] := by
  have hm0 := Hp.nil Z0 No w
  have hc0 := Calm.nil
  have hm2 := hm0.know (slR A0 c0 byteR x0) (fun _ h => h) (hm0.in0 hc0 f0)
  replace hc0 := hc0.snoc (r := slR A0 c0 byteR x0) (fun _ h => h)
  refine Rn.enter Try.func7 rfl rfl (Nat.le_of_ble_eq_true rfl) ?_
  refine Rn.seq (Rn.reg (Rn.v rfl rfl rfl rfl (V.as rfl) (Rn.v rfl rfl rfl rfl (V.as rfl) (Rn.v rfl rfl rfl rfl (V.as rfl) (Rn.regEnd (Rn.seq (Rn.reg (Rn.v rfl rfl rfl rfl (V.mv rfl) ?_))))))))
  obtain ⟨p3, e3, hM⟩ := bindE hM
  refine Rn.cl ck25 rfl rfl rfl rfl (m_frame_Scan_sim (Z0 := Zo Z0 No w [slR A0 c0 byteR x0]) _ A0 c0 x0 (hm2.get 0 rfl) e3) ?_
  rintro _ w3 ⟨A3_0_0, c3_0_0, rfl, hq3⟩
  refine ⟨_, rfl, ?_⟩
  have hm5 : Hp Z0 No w w3 [slR A0 c0 byteR x0, ownR 22 A3_0_0 c3_0_0 (Rep.sl byteR) p3.1] := hm2.callZ hq3
  refine Rn.v rfl rfl rfl rfl (V.mv rfl) (Rn.v rfl rfl rfl rfl (V.ext rfl rfl) (Rn.v rfl rfl rfl rfl (V.ext rfl rfl) (Rn.v rfl rfl rfl rfl (V.ext rfl rfl) (Rn.v rfl rfl rfl rfl (V.as rfl) (Rn.v rfl rfl rfl rfl (V.as rfl) (Rn.v rfl rfl rfl rfl (V.as rfl) (Rn.regEnd (Rn.seq (Rn.seq (Rn.reg (Rn.v rfl rfl rfl rfl (V.mv rfl) (Rn.v rfl rfl rfl rfl (V.neq rfl rfl) (Rn.v rfl rfl rfl rfl (V.mv rfl) ?_)))))))))))))
  refine Rn.cutR [] [(2, .slice A3_0_0 (p3.1).length c3_0_0), (3, .int .i64 (p3.2.1)), (16, .bool (decide ((p3.2.2 ≠ 0) ∧ (p3.2.2 ≠ 2))))] (fun hk6 => ?_) ?_
  · refine Rn.partD (t := 13) rfl (fun h7 => ?_) (fun h7 => ?_)
    · refine Rn.v rfl rfl rfl rfl (V.mv rfl) (Rn.v rfl rfl rfl rfl (V.neq rfl rfl) (Rn.v rfl rfl rfl rfl (V.pkT rfl rfl) ?_))
      refine hk6 _ ?_
      exact Sub.cons rfl (Sub.cons rfl (Sub.cons (lkv _ rfl (by first | exact andT h7 | exact andF h7 | exact orT h7 | exact orF h7 | exact nandF h7 | exact nandT h7 | exact norT h7 | exact norF h7 | (simp [h7]; done) | grind)) (Sub.nil _)))
    · refine Rn.no rfl rfl rfl rfl (Rn.no rfl rfl rfl rfl (Rn.v rfl rfl rfl rfl (V.pkF rfl rfl) ?_))
      refine hk6 _ ?_
      exact Sub.cons rfl (Sub.cons rfl (Sub.cons (lkv _ rfl (by first | exact andT h7 | exact andF h7 | exact orT h7 | exact orF h7 | exact nandF h7 | exact nandT h7 | exact norT h7 | exact norF h7 | (simp [h7]; done) | grind)) (Sub.nil _)))
  refine Rn.regEnd ?_
  refine Rn.condD rfl (fun h8 => ?_) (fun h8 => ?_)
  · replace hM := iteT h8 hM
    refine Rn.seq (Rn.reg (Rn.v rfl rfl rfl rfl (V.as rfl) (Rn.v rfl rfl rfl rfl (V.as rfl) (Rn.v rfl rfl rfl rfl (V.as rfl) (Rn.regEnd ?_)))))
    have hm9 := hm5.addNil 22 (Rep.sl byteR)
    refine Rn.retG3 Try.func7 rfl (rvT rfl) (rvT rfl) (rvT rfl) ?_
    obtain rfl := someE hM
    exact ⟨none, 0, rfl, hm9.pick [2] rfl (by decide)⟩
  · replace hM := iteF h8 hM
    refine Rn.skip (Rn.seq (Rn.reg (Rn.v rfl rfl rfl rfl (V.mv rfl) (Rn.v rfl rfl rfl rfl (V.mv rfl) (Rn.v rfl rfl rfl rfl (V.as rfl) (Rn.v rfl rfl rfl rfl (V.as rfl) (Rn.v rfl rfl rfl rfl (V.as rfl) (Rn.regEnd ?_))))))))
    refine Rn.retG3 Try.func7 rfl (rvT rfl) (rvT rfl) (rvT rfl) ?_
    obtain rfl := someE hM
    exact ⟨A3_0_0, c3_0_0, rfl, hm5.pick [1] rfl (by decide)⟩

set_option maxRecDepth 20000 in
theorem m_disk_Disk_Cut_sim {Z0 : Nat → Prop} (w : World) (F0 : Nat → Prop) (b0 : Nat) (x0 : PD) (x1 : (List UInt8)) (x2 : Int) {r : (Int × PD)} (hL : Lent Z0 w [diskO 63 68 5 F0 b0 x0]) (hM : m_disk_Disk_Cut x0 x1 x2 = some r) :
    Calls Try.prog 30 #[.pointer (some ⟨b0, 0, none⟩), Str (x1), .int .i64 (x2)] w fun x w' => ∃ F_p0, x = .returned (.int .i64 (r.1)) ∧ Hp Z0 (LS [diskO 63 68 5 F0 b0 x0]) w w' [diskO 63 68 5 F_p0 b0 r.2] := by
  unfold m_disk_Disk_Cut at hM
  split at hM
  · rename_i hg
    obtain rfl := someE hM
    have hd : DkAt 63 68 5 w b0 F0 x0 := hL.1 0 _ rfl
    refine (cut_spec x1 x2 w hg hd).mono ?_
    rintro x w' ⟨rfl, F', d, hx, hF⟩
    exact ⟨F', rfl, hL.turn1 hx hF fun _ => d⟩
  · cases hM

set_option maxRecDepth 20000 in
theorem m_wal_Open_sim {Z0 : Nat → Prop} (w : World) (F0 : Nat → Prop) (b0 : Nat) (x0 : PD) (x1 : (List UInt8)) {r : ((Option T_wal_Log) × (List (List UInt8)) × Int × PD)} (hL : Lent Z0 w [diskO 63 68 5 F0 b0 x0]) (hM : m_wal_Open x0 x1 = some r) :
    Calls Try.prog 11 #[.pointer (some ⟨b0, 0, none⟩), Str (x1)] w fun x w' => ∃ F_0 b_0 A_1_0 c_1_0 F_p0, x = .returned (.tuple #[.pointer (optP b_0 r.1), .slice A_1_0 (r.2.1).length c_1_0, .int .i64 (r.2.2.1)]) ∧ Hp Z0 (LS [diskO 63 68 5 F0 b0 x0]) w w' [optR r.1 (fun z => T_wal_Log.obj F_0 b_0 b0 z), ownR 22 A_1_0 c_1_0 (Rep.sl byteR) r.2.1, diskO 63 68 5 F_p0 b0 r.2.2.2] := by
  have hm0 := hL.start
  refine Rn.enter Try.func11 rfl rfl (Nat.le_of_ble_eq_true rfl) ?_
  refine Rn.seq (Rn.reg (Rn.v rfl rfl rfl rfl (V.as rfl) (Rn.v rfl rfl rfl rfl (V.as rfl) (Rn.v rfl rfl rfl rfl (V.as rfl) (Rn.regEnd (Rn.seq (Rn.reg (Rn.v rfl rfl rfl rfl (V.mv rfl) (Rn.v rfl rfl rfl rfl (V.mv rfl) ?_)))))))))
  obtain ⟨p1, e1, hM⟩ := bindE hM
  refine Rn.cl ck16 rfl rfl rfl rfl (m_disk_Disk_Read_sim (Z0 := All) _ F0 b0 x0 x1 (fz_all (hm0.get 0 rfl)) e1) ?_
  rintro _ w1 ⟨A1_0_0, c1_0_0, rfl, hq1⟩
  refine ⟨_, rfl, ?_⟩
  have hm3 : Hp Z0 (LS [diskO 63 68 5 F0 b0 x0]) w w1 [diskO 63 68 5 F0 b0 x0, ownR 5 A1_0_0 c1_0_0 byteR p1.1] := hm0.callF (flC (ownR_flat byte_flat _ _ _ _) fl0) hq1
  refine Rn.v rfl rfl rfl rfl (V.mv rfl) (Rn.v rfl rfl rfl rfl (V.ext rfl rfl) (Rn.v rfl rfl rfl rfl (V.ext rfl rfl) (Rn.v rfl rfl rfl rfl (V.as rfl) (Rn.v rfl rfl rfl rfl (V.as rfl) (Rn.regEnd (Rn.seq (Rn.seq (Rn.reg (Rn.v rfl rfl rfl rfl (V.mv rfl) (Rn.v rfl rfl rfl rfl (V.eql rfl rfl) (Rn.regEnd ?_)))))))))))
  refine Rn.condD rfl (fun h4 => ?_) (fun h4 => ?_)
  · replace hM := iteT h4 hM
    refine Rn.seq (Rn.seq (Rn.reg (Rn.v rfl rfl rfl rfl (V.mv rfl) (Rn.v rfl rfl rfl rfl (V.mv rfl) ?_))))
    obtain ⟨p5, e5, hM⟩ := bindE hM
    have hm6 : Hp Z0 (LS [diskO 63 68 5 F0 b0 x0]) w w1 ([ownR 5 A1_0_0 c1_0_0 byteR p1.1] ++ [diskO 63 68 5 F0 b0 x0]) := hm3.pick [1, 0] rfl (by decide)
    refine Rn.cl ck29 rfl rfl rfl rfl (m_disk_Disk_Create_sim (Z0 := _) _ F0 b0 x0 x1 hm6.lend e5) ?_
    rintro _ w5 ⟨F5_p0, rfl, hq5⟩
    refine ⟨_, rfl, ?_⟩
    have hm8 : Hp Z0 (LS [diskO 63 68 5 F0 b0 x0]) w w5 [ownR 5 A1_0_0 c1_0_0 byteR p1.1, diskO 63 68 5 F5_p0 b0 p5.2] := hm6.callAZ hq5
    refine Rn.v rfl rfl rfl rfl (V.as rfl) (Rn.regEnd (Rn.seq (Rn.reg (Rn.v rfl rfl rfl rfl (V.mv rfl) (Rn.v rfl rfl rfl rfl (V.neq rfl rfl) (Rn.regEnd ?_))))))
    refine Rn.condD rfl (fun h9 => ?_) (fun h9 => ?_)
    · replace hM := iteT h9 hM
      refine Rn.seq (Rn.reg (Rn.v rfl rfl rfl rfl (V.mv rfl) (Rn.v rfl rfl rfl rfl (V.as rfl) (Rn.v rfl rfl rfl rfl (V.as rfl) (Rn.v rfl rfl rfl rfl (V.as rfl) (Rn.regEnd ?_))))))
      have hm11 := hm8.addNone (fun z => T_wal_Log.obj No 0 b0 z)
      have hm12 : Hp Z0 (LS [diskO 63 68 5 F0 b0 x0]) w w5 [ownR 5 A1_0_0 c1_0_0 byteR p1.1, diskO 63 68 5 F5_p0 b0 p5.2, optR (none : Option T_wal_Log) (fun z => T_wal_Log.obj No 0 b0 z)] := hm11
      have hm13 := hm12.addNil 22 (Rep.sl byteR)
      refine Rn.retG3 Try.func11 rfl (rvT rfl) (rvT rfl) (rvT rfl) ?_
      obtain rfl := someE hM
      exact ⟨No, 0, none, 0, F5_p0, rfl, hm13.pick [2, 3, 1] rfl (by decide)⟩
    · replace hM := iteF h9 hM
      refine Rn.skip (Rn.seq (Rn.reg (Rn.v rfl rfl rfl rfl (V.mv rfl) (Rn.v rfl rfl rfl rfl (V.mv rfl) (Rn.v rfl rfl rfl rfl (V.bldS st71 rfl rfl) (Rn.box rfl rfl rfl rfl rfl ?_))))))
      intro b15 w15 hb15 m15 e15
      have hm17 : Hp Z0 (LS [diskO 63 68 5 F0 b0 x0]) w w15 [ownR 5 A1_0_0 c1_0_0 byteR p1.1, diskO 63 68 5 F5_p0 b0 p5.2, boxR b15 71 [.pointer (some ⟨b0, 0, none⟩), Str (x1), .int .i64 (0), .int .i64 (0)]] := hm8.addBox hb15 e15 m15
      refine Rn.v rfl rfl rfl rfl (V.as rfl) (Rn.v rfl rfl rfl rfl (V.as rfl) (Rn.v rfl rfl rfl rfl (V.as rfl) (Rn.regEnd ?_)))
      have hm19 : Hp Z0 (LS [diskO 63 68 5 F0 b0 x0]) w w15 ([ownR 5 A1_0_0 c1_0_0 byteR p1.1, diskO 63 68 5 F5_p0 b0 p5.2] ++ [boxR b15 71 [.pointer (some ⟨b0, 0, none⟩), Str (x1), .int .i64 (0), .int .i64 (0)]]) := hm17.pick [0, 1, 2] rfl (by decide)
      obtain ⟨F18, hm18⟩ := hm19.fold (T_wal_Log.sh b15 b0 ({ name := x1, n := 0, size := 0 } : T_wal_Log)) rfl
      replace hm18 : Hp Z0 (LS [diskO 63 68 5 F0 b0 x0]) w w15 [ownR 5 A1_0_0 c1_0_0 byteR p1.1, diskO 63 68 5 F5_p0 b0 p5.2, T_wal_Log.obj F18 b15 b0 ({ name := x1, n := 0, size := 0 } : T_wal_Log)] := hm18
      have hm20 := hm18.toSome (R := (fun z => T_wal_Log.obj F18 b15 b0 z)) 2 rfl
      have hm21 : Hp Z0 (LS [diskO 63 68 5 F0 b0 x0]) w w15 [ownR 5 A1_0_0 c1_0_0 byteR p1.1, diskO 63 68 5 F5_p0 b0 p5.2, optR (some ({ name := x1, n := 0, size := 0 } : T_wal_Log)) (fun z => T_wal_Log.obj F18 b15 b0 z)] := hm20
      have hm22 := hm21.addNil 22 (Rep.sl byteR)
      refine Rn.retG3 Try.func11 rfl (rvT rfl) (rvT rfl) (rvT rfl) ?_
      obtain rfl := someE hM
      exact ⟨F18, b15, none, 0, F5_p0, rfl, hm22.pick [2, 3, 1] rfl (by decide)⟩
  · replace hM := iteF h4 hM
    refine Rn.skip (Rn.seq (Rn.seq (Rn.reg (Rn.v rfl rfl rfl rfl (V.mv rfl) (Rn.v rfl rfl rfl rfl (V.neq rfl rfl) (Rn.regEnd ?_))))))
    refine Rn.condD rfl (fun h24 => ?_) (fun h24 => ?_)
    · replace hM := iteT h24 hM
      refine Rn.seq (Rn.reg (Rn.v rfl rfl rfl rfl (V.mv rfl) (Rn.v rfl rfl rfl rfl (V.as rfl) (Rn.v rfl rfl rfl rfl (V.as rfl) (Rn.v rfl rfl rfl rfl (V.as rfl) (Rn.regEnd ?_))))))
      have hm26 := hm3.addNone (fun z => T_wal_Log.obj No 0 b0 z)
      have hm27 : Hp Z0 (LS [diskO 63 68 5 F0 b0 x0]) w w1 [diskO 63 68 5 F0 b0 x0, ownR 5 A1_0_0 c1_0_0 byteR p1.1, optR (none : Option T_wal_Log) (fun z => T_wal_Log.obj No 0 b0 z)] := hm26
      have hm28 := hm27.addNil 22 (Rep.sl byteR)
      refine Rn.retG3 Try.func11 rfl (rvT rfl) (rvT rfl) (rvT rfl) ?_
      obtain rfl := someE hM
      exact ⟨No, 0, none, 0, F0, rfl, hm28.pick [2, 3, 0] rfl (by decide)⟩
    · replace hM := iteF h24 hM
      refine Rn.skip (Rn.seq (Rn.reg (Rn.v rfl rfl rfl rfl (V.mv rfl) ?_)))
      have hm32 := hm3.freeze 1 rfl
      obtain ⟨p30, e30, hM⟩ := bindE hM
      refine Rn.cl ck7 rfl rfl rfl rfl (m_wal_Records_sim (Z0 := Zo Z0 (LS [diskO 63 68 5 F0 b0 x0]) w [diskO 63 68 5 F0 b0 x0, slR A1_0_0 c1_0_0 byteR p1.1]) _ A1_0_0 c1_0_0 p1.1 (hm32.get 1 rfl) e30) ?_
      rintro _ w30 ⟨A30_0_0, c30_0_0, rfl, hq30⟩
      refine ⟨_, rfl, ?_⟩
      have hm34 : Hp Z0 (LS [diskO 63 68 5 F0 b0 x0]) w w30 [diskO 63 68 5 F0 b0 x0, slR A1_0_0 c1_0_0 byteR p1.1, ownR 22 A30_0_0 c30_0_0 (Rep.sl byteR) p30.1] := hm32.callZ hq30
      refine Rn.v rfl rfl rfl rfl (V.mv rfl) (Rn.v rfl rfl rfl rfl (V.ext rfl rfl) (Rn.v rfl rfl rfl rfl (V.ext rfl rfl) (Rn.v rfl rfl rfl rfl (V.ext rfl rfl) (Rn.v rfl rfl rfl rfl (V.as rfl) (Rn.v rfl rfl rfl rfl (V.as rfl) (Rn.v rfl rfl rfl rfl (V.as rfl) (Rn.regEnd (Rn.seq (Rn.seq (Rn.reg (Rn.v rfl rfl rfl rfl (V.mv rfl) (Rn.v rfl rfl rfl rfl (V.eql rfl rfl) (Rn.v rfl rfl rfl rfl (V.mv rfl) ?_)))))))))))))
      refine Rn.cutR [] [(0, .pointer (some ⟨b0, 0, none⟩)), (1, Str (x1)), (8, .int .i64 (p30.2.2)), (10, .slice A30_0_0 (p30.1).length c30_0_0), (11, .int .i64 (p30.2.1)), (46, .bool (decide ((p30.2.2 = 0) ∧ (p30.2.1 < (p1.1.length : Int)))))] (fun hk35 => ?_) ?_
      · refine Rn.partD (t := 41) rfl (fun h36 => ?_) (fun h36 => ?_)
        · refine Rn.v rfl rfl rfl rfl (V.mv rfl) (Rn.v rfl rfl rfl rfl (V.mv rfl) (Rn.v rfl rfl rfl rfl (V.lenV Try.underlying22 rfl) (Rn.v rfl rfl rfl rfl (V.lss rfl rfl) (Rn.v rfl rfl rfl rfl (V.pkT rfl rfl) ?_))))
          refine hk35 _ ?_
          exact Sub.cons rfl (Sub.cons rfl (Sub.cons rfl (Sub.cons rfl (Sub.cons rfl (Sub.cons (lkv _ rfl (by first | exact andT h36 | exact andF h36 | exact orT h36 | exact orF h36 | exact nandF h36 | exact nandT h36 | exact norT h36 | exact norF h36 | (simp [h36]; done) | grind)) (Sub.nil _))))))
        · refine Rn.no rfl rfl rfl rfl (Rn.no rfl rfl rfl rfl (Rn.no rfl rfl rfl rfl (Rn.no rfl rfl rfl rfl (Rn.v rfl rfl rfl rfl (V.pkF rfl rfl) ?_))))
          refine hk35 _ ?_
          exact Sub.cons rfl (Sub.cons rfl (Sub.cons rfl (Sub.cons rfl (Sub.cons rfl (Sub.cons (lkv _ rfl (by first | exact andT h36 | exact andF h36 | exact orT h36 | exact orF h36 | exact nandF h36 | exact nandT h36 | exact norT h36 | exact norF h36 | (simp [h36]; done) | grind)) (Sub.nil _))))))
      refine Rn.regEnd ?_
      obtain ⟨j1, hj1, hM⟩ := jnE hM
      refine Rn.joinG (r := r) (G := Int × PD × (Nat → Prop)) (fun g => [(0, .pointer (some ⟨b0, 0, none⟩)), (1, Str (x1)), (8, .int .i64 ((g.1))), (10, .slice A30_0_0 (p30.1).length c30_0_0), (11, .int .i64 (p30.2.1))]) (fun g w' => Hp Z0 (LS [diskO 63 68 5 F0 b0 x0]) w w' [slR A1_0_0 c1_0_0 byteR p1.1, ownR 22 A30_0_0 c30_0_0 (Rep.sl byteR) p30.1, diskO 63 68 5 (g.2.2) b0 (g.2.1)]) (fun g => j1 g.1 g.2.1) ?_ ?_
      · subst hj1
        clear hM
        rintro ⟨y37, y38, F38⟩ w39 hm39 hM
        replace hm39 : Hp Z0 (LS [diskO 63 68 5 F0 b0 x0]) w w39 [slR A1_0_0 c1_0_0 byteR p1.1, ownR 22 A30_0_0 c30_0_0 (Rep.sl byteR) p30.1, diskO 63 68 5 F38 b0 y38] := hm39
        show Rn _ _ _ _ _ [(0, .pointer (some ⟨b0, 0, none⟩)), (1, Str (x1)), (8, .int .i64 (y37)), (10, .slice A30_0_0 (p30.1).length c30_0_0), (11, .int .i64 (p30.2.1))] _
        try dsimp only at hM
        refine Rn.seq (Rn.seq (Rn.reg (Rn.v rfl rfl rfl rfl (V.mv rfl) (Rn.v rfl rfl rfl rfl (V.neq rfl rfl) (Rn.regEnd ?_)))))
        refine Rn.condD rfl (fun h40 => ?_) (fun h40 => ?_)
        · replace hM := iteT h40 hM
          refine Rn.seq (Rn.reg (Rn.v rfl rfl rfl rfl (V.mv rfl) (Rn.v rfl rfl rfl rfl (V.as rfl) (Rn.v rfl rfl rfl rfl (V.as rfl) (Rn.v rfl rfl rfl rfl (V.as rfl) (Rn.regEnd ?_))))))
          have hm42 := hm39.addNone (fun z => T_wal_Log.obj No 0 b0 z)
          have hm43 : Hp Z0 (LS [diskO 63 68 5 F0 b0 x0]) w w39 [slR A1_0_0 c1_0_0 byteR p1.1, ownR 22 A30_0_0 c30_0_0 (Rep.sl byteR) p30.1, diskO 63 68 5 F38 b0 y38, optR (none : Option T_wal_Log) (fun z => T_wal_Log.obj No 0 b0 z)] := hm42
          have hm44 := hm43.addNil 22 (Rep.sl byteR)
          refine Rn.retG3 Try.func11 rfl (rvT rfl) (rvT rfl) (rvT rfl) ?_
          obtain rfl := someE hM
          exact ⟨No, 0, none, 0, F38, rfl, hm44.pick [3, 4, 2] rfl (by decide)⟩
        · replace hM := iteF h40 hM
          refine Rn.skip (Rn.seq (Rn.reg (Rn.v rfl rfl rfl rfl (V.mv rfl) (Rn.v rfl rfl rfl rfl (V.mv rfl) (Rn.v rfl rfl rfl rfl (V.mv rfl) (Rn.v rfl rfl rfl rfl (V.lenV Try.underlying24 rfl) (Rn.v rfl rfl rfl rfl (V.mv rfl) (Rn.v rfl rfl rfl rfl (V.bldS st71 rfl rfl) (Rn.box rfl rfl rfl rfl rfl ?_)))))))))
          intro b46 w46 hb46 m46 e46
          have hm48 : Hp Z0 (LS [diskO 63 68 5 F0 b0 x0]) w w46 [slR A1_0_0 c1_0_0 byteR p1.1, ownR 22 A30_0_0 c30_0_0 (Rep.sl byteR) p30.1, diskO 63 68 5 F38 b0 y38, boxR b46 71 [.pointer (some ⟨b0, 0, none⟩), Str (x1), .int .i64 ((p30.1.length : Int)), .int .i64 (p30.2.1)]] := hm39.addBox hb46 e46 m46
          refine Rn.v rfl rfl rfl rfl (V.mv rfl) (Rn.v rfl rfl rfl rfl (V.as rfl) (Rn.v rfl rfl rfl rfl (V.as rfl) (Rn.v rfl rfl rfl rfl (V.as rfl) (Rn.regEnd ?_))))
          have hm50 : Hp Z0 (LS [diskO 63 68 5 F0 b0 x0]) w w46 ([slR A1_0_0 c1_0_0 byteR p1.1, ownR 22 A30_0_0 c30_0_0 (Rep.sl byteR) p30.1, diskO 63 68 5 F38 b0 y38] ++ [boxR b46 71 [.pointer (some ⟨b0, 0, none⟩), Str (x1), .int .i64 ((p30.1.length : Int)), .int .i64 (p30.2.1)]]) := hm48.pick [0, 1, 2, 3] rfl (by decide)
          obtain ⟨F49, hm49⟩ := hm50.fold (T_wal_Log.sh b46 b0 ({ name := x1, n := (p30.1.length : Int), size := p30.2.1 } : T_wal_Log)) rfl
          replace hm49 : Hp Z0 (LS [diskO 63 68 5 F0 b0 x0]) w w46 [slR A1_0_0 c1_0_0 byteR p1.1, ownR 22 A30_0_0 c30_0_0 (Rep.sl byteR) p30.1, diskO 63 68 5 F38 b0 y38, T_wal_Log.obj F49 b46 b0 ({ name := x1, n := (p30.1.length : Int), size := p30.2.1 } : T_wal_Log)] := hm49
          have hm51 := hm49.toSome (R := (fun z => T_wal_Log.obj F49 b46 b0 z)) 3 rfl
          have hm52 : Hp Z0 (LS [diskO 63 68 5 F0 b0 x0]) w w46 [slR A1_0_0 c1_0_0 byteR p1.1, ownR 22 A30_0_0 c30_0_0 (Rep.sl byteR) p30.1, diskO 63 68 5 F38 b0 y38, optR (some ({ name := x1, n := (p30.1.length : Int), size := p30.2.1 } : T_wal_Log)) (fun z => T_wal_Log.obj F49 b46 b0 z)] := hm51
          refine Rn.retG3 Try.func11 rfl (rvT rfl) (rvT rfl) (rvT rfl) ?_
          obtain rfl := someE hM
          exact ⟨F49, b46, A30_0_0, c30_0_0, F38, rfl, hm52.pick [3, 1, 2] rfl (by decide)⟩
      intro hk1
      clear hj1
      refine Rn.condD rfl (fun h53 => ?_) (fun h53 => ?_)
      · replace hM := iteT h53 hM
        refine Rn.reg (Rn.v rfl rfl rfl rfl (V.mv rfl) (Rn.v rfl rfl rfl rfl (V.mv rfl) (Rn.v rfl rfl rfl rfl (V.mv rfl) ?_)))
        obtain ⟨p54, e54, hM⟩ := bindE hM
        have hm55 : Hp Z0 (LS [diskO 63 68 5 F0 b0 x0]) w w30 ([slR A1_0_0 c1_0_0 byteR p1.1, ownR 22 A30_0_0 c30_0_0 (Rep.sl byteR) p30.1] ++ [diskO 63 68 5 F0 b0 x0]) := hm34.pick [1, 2, 0] rfl (by decide)
        refine Rn.cl ck30 rfl rfl rfl rfl (m_disk_Disk_Cut_sim (Z0 := _) _ F0 b0 x0 x1 p30.2.1 hm55.lend e54) ?_
        rintro _ w54 ⟨F54_p0, rfl, hq54⟩
        refine ⟨_, rfl, ?_⟩
        have hm57 : Hp Z0 (LS [diskO 63 68 5 F0 b0 x0]) w w54 [slR A1_0_0 c1_0_0 byteR p1.1, ownR 22 A30_0_0 c30_0_0 (Rep.sl byteR) p30.1, diskO 63 68 5 F54_p0 b0 p54.2] := hm55.callAZ hq54
        refine Rn.v rfl rfl rfl rfl (V.as rfl) (Rn.regEnd ?_)
        exact hk1 (p54.1, p54.2, F54_p0) _ _ (Sub.cons rfl (Sub.cons rfl (Sub.cons rfl (Sub.cons rfl (Sub.cons rfl (Sub.nil _)))))) (hm57.pick [0, 1, 2] rfl (by decide)) hM
      · replace hM := iteF h53 hM
        refine Rn.skip ?_
        exact hk1 (p30.2.2, x0, F0) _ _ (Sub.cons rfl (Sub.cons rfl (Sub.cons rfl (Sub.cons rfl (Sub.cons rfl (Sub.nil _)))))) (hm34.pick [1, 2, 0] rfl (by decide)) hM

set_option maxRecDepth 20000 in
theorem m_frame_four_sim {Z0 : Nat → Prop} (w : World) (x0 : UInt32) {r : (List UInt8)}  (hM : m_frame_four x0 = some r) :
    Calls Try.prog 45 #[.int .u32 (((x0).toNat : Nat) : Int)] w fun x w' => ∃ A_0_0 c_0_0, x = .returned (.slice A_0_0 (r).length c_0_0) ∧ Hp Z0 No w w' [ownR 5 A_0_0 c_0_0 byteR r] := by
  have hm0 := Hp.nil Z0 No w
  have hc0 := Calm.nil
  refine Rn.enter Try.func45 rfl rfl (Nat.le_of_ble_eq_true rfl) ?_
  refine Rn.seq (Rn.reg (Rn.v rfl rfl rfl rfl (V.as rfl) (Rn.regEnd (Rn.seq (Rn.reg (Rn.v rfl rfl rfl rfl (V.mv rfl) (Rn.v rfl rfl rfl rfl (V.cv8 Try.underlying89 Try.underlying5 rfl) (Rn.v rfl rfl rfl rfl (V.mv rfl) (Rn.v rfl rfl rfl rfl (V.sh32 rfl rfl _ 8 rfl rfl (b32_shr _ _ _ 8 (by decide))) (Rn.v rfl rfl rfl rfl (V.cv8 Try.underlying89 Try.underlying5 rfl) (Rn.v rfl rfl rfl rfl (V.mv rfl) (Rn.v rfl rfl rfl rfl (V.sh32 rfl rfl _ 16 rfl rfl (b32_shr _ _ _ 16 (by decide))) (Rn.v rfl rfl rfl rfl (V.cv8 Try.underlying89 Try.underlying5 rfl) (Rn.v rfl rfl rfl rfl (V.mv rfl) (Rn.v rfl rfl rfl rfl (V.sh32 rfl rfl _ 24 rfl rfl (b32_shr _ _ _ 24 (by decide))) (Rn.v rfl rfl rfl rfl (V.cv8 Try.underlying89 Try.underlying5 rfl) (Rn.bslS rfl rfl rfl Try.underlying22 el5 rfl rfl rfl rfl (by first | exact szs rfl | (simp [Value.cells]; done)) (by decide) ?_)))))))))))))))))
  intro b1 w1 hb1 m1 e1
  have hm2 := hm0.addLit (rep := byteR) (xs := ([toU8 ((x0).toNat : Int), toU8 ((x0 >>> UInt32.ofNat 8).toNat : Int), toU8 ((x0 >>> UInt32.ofNat 16).toNat : Int), toU8 ((x0 >>> UInt32.ofNat 24).toNat : Int)] : List UInt8)) (vss := [[.int .u8 (((toU8 ((x0).toNat : Int)).toNat : Nat) : Int)], [.int .u8 (((toU8 ((x0 >>> UInt32.ofNat 8).toNat : Int)).toNat : Nat) : Int)], [.int .u8 (((toU8 ((x0 >>> UInt32.ofNat 16).toNat : Int)).toNat : Nat) : Int)], [.int .u8 (((toU8 ((x0 >>> UInt32.ofNat 24).toNat : Int)).toNat : Nat) : Int)]]) hb1 e1 m1 rfl rfl rfl ((rels_cons (fun _ _ => ⟨rfl, trivial⟩) (rels_cons (fun _ _ => ⟨rfl, trivial⟩) (rels_cons (fun _ _ => ⟨rfl, trivial⟩) (rels_cons (fun _ _ => ⟨rfl, trivial⟩) rels0)))))
  refine Rn.v rfl rfl rfl rfl (V.as rfl) (Rn.regEnd ?_)
  refine Rn.retG1 Try.func45 rfl (rvT rfl) ?_
  obtain rfl := someE hM
  exact ⟨(some ⟨b1, 0, none⟩), 4, rfl, hm2.pick [0] rfl (by decide)⟩

set_option maxRecDepth 20000 in
theorem m_frame_Wrap_sim {Z0 : Nat → Prop} (w : World) (A0 : Option Addr) (c0 : Nat) (x0 : (List UInt8)) {r : ((List UInt8) × Int)} (f0 : (slR A0 c0 byteR x0).H Z0 w) (hM : m_frame_Wrap x0 = some r) :
    Calls Try.prog 35 #[.slice A0 (x0).length c0] w fun x w' => ∃ A_0_0 c_0_0, x = .returned (.tuple #[.slice A_0_0 (r.1).length c_0_0, .int .i64 (r.2)]) ∧ Hp Z0 No w w' [ownR 5 A_0_0 c_0_0 byteR r.1] := by
  have hm0 := Hp.nil Z0 No w
  have hc0 := Calm.nil
  have hm2 := hm0.know (slR A0 c0 byteR x0) (fun _ h => h) (hm0.in0 hc0 f0)
  replace hc0 := hc0.snoc (r := slR A0 c0 byteR x0) (fun _ h => h)
  refine Rn.enter Try.func35 rfl rfl (Nat.le_of_ble_eq_true rfl) ?_
  refine Rn.seq (Rn.reg (Rn.v rfl rfl rfl rfl (V.as rfl) (Rn.v rfl rfl rfl rfl (V.as rfl) (Rn.regEnd (Rn.seq (Rn.seq (Rn.reg (Rn.v rfl rfl rfl rfl (V.mv rfl) (Rn.v rfl rfl rfl rfl (V.lenV Try.underlying22 rfl) (Rn.v rfl rfl rfl rfl (V.gtr rfl rfl) (Rn.regEnd ?_)))))))))))
  refine Rn.condD rfl (fun h3 => ?_) (fun h3 => ?_)
  · replace hM := iteT h3 hM
    refine Rn.seq (Rn.reg (Rn.v rfl rfl rfl rfl (V.as rfl) (Rn.v rfl rfl rfl rfl (V.as rfl) (Rn.regEnd ?_))))
    have hm4 := hm2.addNil 5 byteR
    refine Rn.retG2 Try.func35 rfl (rvT rfl) (rvT rfl) ?_
    obtain rfl := someE hM
    exact ⟨none, 0, rfl, hm4.pick [1] rfl (by decide)⟩
  · replace hM := iteF h3 hM
    refine Rn.skip (Rn.seq (Rn.reg (Rn.bslS rfl rfl rfl Try.underlying22 el5 rfl rfl rfl rfl (by first | exact szs rfl | (simp [Value.cells]; done)) (by decide) ?_)))
    intro b6 w6 hb6 m6 e6
    have hm7 := hm2.addLit (rep := byteR) (xs := ([(165 : UInt8)] : List UInt8)) (vss := [[.int .u8 ((((165 : UInt8)).toNat : Nat) : Int)]]) hb6 e6 m6 rfl rfl rfl ((rels_cons (fun _ _ => ⟨rfl, trivial⟩) rels0))
    refine Rn.v rfl rfl rfl rfl (V.mv rfl) (Rn.v rfl rfl rfl rfl (V.lenV Try.underlying22 rfl) (Rn.v rfl rfl rfl rfl (V.cv32 Try.underlying3 Try.underlying89 rfl) ?_))
    obtain ⟨p9, e9, hM⟩ := bindE hM
    refine Rn.cl ck45 rfl rfl rfl rfl (m_frame_four_sim (Z0 := All) _ (toU32 (x0.length : Int))  e9) ?_
    rintro _ w9 ⟨A9_0_0, c9_0_0, rfl, hq9⟩
    refine ⟨_, rfl, ?_⟩
    have hm11 : Hp Z0 No w w9 [slR A0 c0 byteR x0, ownR 5 (some ⟨b6, 0, none⟩) 1 byteR ([(165 : UInt8)] : List UInt8), ownR 5 A9_0_0 c9_0_0 byteR p9] := hm7.callF (flC (ownR_flat byte_flat _ _ _ _) fl0) hq9
    obtain ⟨z12, e12, hM⟩ := bindE hM
    refine Rn.appH hm11 1 rfl e12 rfl rfl rfl Try.underlying22 el5 rfl rfl rfl rfl (hm11.srcO 2 rfl) ?_
    intro A12 c12 w12 hm12
    refine Rn.v rfl rfl rfl rfl (V.as rfl) (Rn.regEnd (Rn.seq (Rn.reg (Rn.v rfl rfl rfl rfl (V.mv rfl) (Rn.v rfl rfl rfl rfl (V.mv rfl) (Rn.v rfl rfl rfl rfl (V.mv rfl) ?_))))))
    obtain ⟨p14, e14, hM⟩ := bindE hM
    refine Rn.cl ck46 rfl rfl rfl rfl (m_frame_sum_sim (Z0 := All) _ A12 c12 z12 A0 c0 x0 (own_slR (hm12.get 1 rfl)) (slR_all (hm12.get 0 rfl)) e14) ?_
    rintro _ w14 ⟨rfl, hq14⟩
    refine ⟨_, rfl, ?_⟩
    have hm15 := hm12.call0 hq14
    obtain ⟨p16, e16, hM⟩ := bindE hM
    refine Rn.cl ck45 rfl rfl rfl rfl (m_frame_four_sim (Z0 := All) _ p14  e16) ?_
    rintro _ w16 ⟨A16_0_0, c16_0_0, rfl, hq16⟩
    refine ⟨_, rfl, ?_⟩
    have hm18 : Hp Z0 No w w16 [slR A0 c0 byteR x0, ownR 5 A12 c12 byteR z12, ownR 5 A9_0_0 c9_0_0 byteR p9, ownR 5 A16_0_0 c16_0_0 byteR p16] := hm15.callF (flC (ownR_flat byte_flat _ _ _ _) fl0) hq16
    obtain ⟨z19, e19, hM⟩ := bindE hM
    refine Rn.appH hm18 1 rfl e19 rfl rfl rfl Try.underlying22 el5 rfl rfl rfl rfl (hm18.srcO 3 rfl) ?_
    intro A19 c19 w19 hm19
    refine Rn.v rfl rfl rfl rfl (V.as rfl) (Rn.regEnd (Rn.seq (Rn.reg (Rn.v rfl rfl rfl rfl (V.mv rfl) (Rn.v rfl rfl rfl rfl (V.mv rfl) ?_)))))
    obtain ⟨z21, e21, hM⟩ := bindE hM
    refine Rn.appH hm19 1 rfl e21 rfl rfl rfl Try.underlying22 el5 rfl rfl rfl rfl (hm19.src 0 rfl) ?_
    intro A21 c21 w21 hm21
    refine Rn.v rfl rfl rfl rfl (V.as rfl) (Rn.v rfl rfl rfl rfl (V.as rfl) (Rn.regEnd ?_))
    refine Rn.retG2 Try.func35 rfl (rvT rfl) (rvT rfl) ?_
    obtain rfl := someE hM
    exact ⟨A21, c21, rfl, hm21.pick [1] rfl (by decide)⟩

set_option maxRecDepth 20000 in
theorem m_disk_Disk_Append_sim {Z0 : Nat → Prop} (w : World) (F0 : Nat → Prop) (b0 : Nat) (x0 : PD) (x1 : (List UInt8)) (A2 : Option Addr) (c2 : Nat) (x2 : (List UInt8)) {r : (Int × PD)} (hL : Lent Z0 w [diskO 63 68 5 F0 b0 x0, slR A2 c2 byteR x2]) (hM : m_disk_Disk_Append x0 x1 x2 = some r) :
    Calls Try.prog 36 #[.pointer (some ⟨b0, 0, none⟩), Str (x1), .slice A2 (x2).length c2] w fun x w' => ∃ F_p0, x = .returned (.int .i64 (r.1)) ∧ Hp Z0 (LS [diskO 63 68 5 F0 b0 x0, slR A2 c2 byteR x2]) w w' [diskO 63 68 5 F_p0 b0 r.2] := by
  unfold m_disk_Disk_Append at hM
  split at hM
  · rename_i hg
    obtain rfl := someE hM
    have hd : DkAt 63 68 5 w b0 F0 x0 := hL.1 0 _ rfl
    have hs := hL.1 1 _ rfl
    refine (append_spec x1 x2 A2 c2 _ w hg.1 hg.2.1 (by omega) rfl hs.2.2 (fun b hb hF => hb.2 0 _ rfl hF) hd).mono ?_
    rintro x w' ⟨rfl, F', d, hx, hF⟩
    exact ⟨F', rfl, hL.turn1 hx hF fun _ => d⟩
  · cases hM

set_option maxRecDepth 20000 in
theorem m_wal_Log_Append_sim {Z0 : Nat → Prop} (w : World) (F0 : Nat → Prop) (b0 : Nat) (x0 : T_wal_Log) (A1 : Option Addr) (c1 : Nat) (x1 : (List UInt8)) (FD : Nat → Prop) (bD : Nat) (xD : PD) {r : (Int × T_wal_Log × PD)} (hL : Lent Z0 w [T_wal_Log.obj F0 b0 bD x0, diskO 63 68 5 FD bD xD, slR A1 c1 byteR x1]) (hM : m_wal_Log_Append x0 x1 xD = some r) :
    Calls Try.prog 19 #[.pointer (some ⟨b0, 0, none⟩), .slice A1 (x1).length c1] w fun x w' => ∃ F_p0 F_pD, x = .returned (.int .i64 (r.1)) ∧ Hp Z0 (LS [T_wal_Log.obj F0 b0 bD x0, diskO 63 68 5 FD bD xD, slR A1 c1 byteR x1]) w w' [T_wal_Log.obj F_p0 b0 bD r.2.1, diskO 63 68 5 F_pD bD r.2.2] := by
  have hm0 := hL.start
  refine Rn.enter Try.func19 rfl rfl (Nat.le_of_ble_eq_true rfl) ?_
  refine Rn.seq (Rn.reg (Rn.v rfl rfl rfl rfl (V.as rfl) (Rn.regEnd (Rn.seq (Rn.reg (Rn.v rfl rfl rfl rfl (V.mv rfl) ?_))))))
  obtain ⟨p3, e3, hM⟩ := bindE hM
  refine Rn.cl ck35 rfl rfl rfl rfl (m_frame_Wrap_sim (Z0 := All) _ A1 c1 x1 (slR_all (hm0.get 2 rfl)) e3) ?_
  rintro _ w3 ⟨A3_0_0, c3_0_0, rfl, hq3⟩
  refine ⟨_, rfl, ?_⟩
  have hm5 : Hp Z0 (LS [T_wal_Log.obj F0 b0 bD x0, diskO 63 68 5 FD bD xD, slR A1 c1 byteR x1]) w w3 [T_wal_Log.obj F0 b0 bD x0, diskO 63 68 5 FD bD xD, slR A1 c1 byteR x1, ownR 5 A3_0_0 c3_0_0 byteR p3.1] := hm0.callF (flC (ownR_flat byte_flat _ _ _ _) fl0) hq3
  refine Rn.v rfl rfl rfl rfl (V.mv rfl) (Rn.v rfl rfl rfl rfl (V.ext rfl rfl) (Rn.v rfl rfl rfl rfl (V.ext rfl rfl) (Rn.v rfl rfl rfl rfl (V.as rfl) (Rn.v rfl rfl rfl rfl (V.as rfl) (Rn.regEnd (Rn.seq (Rn.seq (Rn.reg (Rn.v rfl rfl rfl rfl (V.mv rfl) (Rn.v rfl rfl rfl rfl (V.eql rfl rfl) (Rn.regEnd ?_)))))))))))
  have hm7 := hm5.freeze 3 rfl
  obtain ⟨j1, hj1, hM⟩ := jnE hM
  refine Rn.joinG (r := r) (G := Int × T_wal_Log × PD × (Nat → Prop) × (Nat → Prop)) (fun g => [(0, .pointer (some ⟨b0, 0, none⟩)), (5, .slice A3_0_0 (p3.1).length c3_0_0), (6, .int .i64 ((g.1)))]) (fun g w' => Hp Z0 (LS [T_wal_Log.obj F0 b0 bD x0, diskO 63 68 5 FD bD xD, slR A1 c1 byteR x1]) w w' [slR A1 c1 byteR x1, slR A3_0_0 c3_0_0 byteR p3.1, T_wal_Log.obj (g.2.2.2.1) b0 bD (g.2.1), diskO 63 68 5 (g.2.2.2.2) bD (g.2.2.1)]) (fun g => j1 g.1 g.2.1 g.2.2.1) ?_ ?_
  · subst hj1
    clear hM
    rintro ⟨y8, y9, y10, F9, F10⟩ w11 hm11 hM
    replace hm11 : Hp Z0 (LS [T_wal_Log.obj F0 b0 bD x0, diskO 63 68 5 FD bD xD, slR A1 c1 byteR x1]) w w11 [slR A1 c1 byteR x1, slR A3_0_0 c3_0_0 byteR p3.1, T_wal_Log.obj F9 b0 bD y9, diskO 63 68 5 F10 bD y10] := hm11
    show Rn _ _ _ _ _ [(0, .pointer (some ⟨b0, 0, none⟩)), (5, .slice A3_0_0 (p3.1).length c3_0_0), (6, .int .i64 (y8))] _
    try dsimp only at hM
    refine Rn.seq (Rn.seq (Rn.reg (Rn.v rfl rfl rfl rfl (V.mv rfl) (Rn.v rfl rfl rfl rfl (V.eql rfl rfl) (Rn.regEnd ?_)))))
    obtain ⟨j2, hj2, hM⟩ := jnE hM
    refine Rn.joinG (r := r) (G := T_wal_Log × (Nat → Prop) × (Nat → Prop)) (fun g => [(6, .int .i64 (y8))]) (fun g w' => Hp Z0 (LS [T_wal_Log.obj F0 b0 bD x0, diskO 63 68 5 FD bD xD, slR A1 c1 byteR x1]) w w' [slR A1 c1 byteR x1, slR A3_0_0 c3_0_0 byteR p3.1, diskO 63 68 5 (g.2.1) bD y10, T_wal_Log.obj (g.2.2) b0 bD (g.1)]) (fun g => j2 g.1) ?_ ?_
    · subst hj2
      clear hM
      rintro ⟨y13, F12, F13⟩ w14 hm14 hM
      replace hm14 : Hp Z0 (LS [T_wal_Log.obj F0 b0 bD x0, diskO 63 68 5 FD bD xD, slR A1 c1 byteR x1]) w w14 [slR A1 c1 byteR x1, slR A3_0_0 c3_0_0 byteR p3.1, diskO 63 68 5 F12 bD y10, T_wal_Log.obj F13 b0 bD y13] := hm14
      show Rn _ _ _ _ _ [(6, .int .i64 (y8))] _
      try dsimp only at hM
      refine Rn.seq (Rn.reg (Rn.v rfl rfl rfl rfl (V.mv rfl) (Rn.v rfl rfl rfl rfl (V.as rfl) (Rn.regEnd ?_))))
      refine Rn.retG1 Try.func19 rfl (rvT rfl) ?_
      obtain rfl := someE hM
      exact ⟨F13, F12, rfl, hm14.pick [3, 2] rfl (by decide)⟩
    intro hk2
    clear hj2
    refine Rn.condD rfl (fun h15 => ?_) (fun h15 => ?_)
    · replace hM := iteT h15 hM
      refine Rn.seq (Rn.reg (Rn.v rfl rfl rfl rfl (V.mv rfl) (Rn.v rfl rfl rfl rfl (V.nil rfl) (Rn.v rfl rfl rfl rfl (V.fa Try.underlying71 rfl Try.sizeOf3 rfl rfl) ?_))))
      obtain ⟨_, rfl, hm16⟩ := hm11.unf 2 rfl
      replace hm16 : Hp Z0 (LS [T_wal_Log.obj F0 b0 bD x0, diskO 63 68 5 FD bD xD, slR A1 c1 byteR x1]) w w11 [slR A1 c1 byteR x1, slR A3_0_0 c3_0_0 byteR p3.1, diskO 63 68 5 F10 bD y10, boxR b0 71 [.pointer (some ⟨bD, 0, none⟩), Str (y9.name), .int .i64 (y9.n), .int .i64 (y9.size)]] := hm16
      refine Rn.v rfl rfl rfl rfl (V.ldB Try.isAgg3 rfl (hm16.get 3 rfl) rfl) (Rn.v rfl rfl rfl rfl (V.addW rfl rfl) (Rn.v rfl rfl rfl rfl (V.nil rfl) (Rn.v rfl rfl rfl rfl (V.fa Try.underlying71 rfl Try.sizeOf3 rfl rfl) (Rn.st rfl rfl Try.sizeOf3 rfl rfl rfl rfl (by first | exact ones rfl | (simp [Value.oneCell']; done)) (hm16.get 3 rfl) (by first | exact Nat.le_of_ble_eq_true rfl | (simp; done)) ?_))))
      intro w18 m18 x18
      have hm19 : Hp Z0 (LS [T_wal_Log.obj F0 b0 bD x0, diskO 63 68 5 FD bD xD, slR A1 c1 byteR x1]) w w18 [slR A1 c1 byteR x1, slR A3_0_0 c3_0_0 byteR p3.1, diskO 63 68 5 F10 bD y10, boxR b0 71 [.pointer (some ⟨bD, 0, none⟩), Str (y9.name), .int .i64 (W64 (y9.n + 1)), .int .i64 (y9.size)]] := hm16.st 3 rfl x18 m18
      refine Rn.regEnd (Rn.reg (Rn.v rfl rfl rfl rfl (V.mv rfl) (Rn.v rfl rfl rfl rfl (V.nil rfl) (Rn.v rfl rfl rfl rfl (V.fa Try.underlying71 rfl Try.sizeOf3 rfl rfl) (Rn.v rfl rfl rfl rfl (V.ldB Try.isAgg3 rfl (hm19.get 3 rfl) rfl) (Rn.v rfl rfl rfl rfl (V.mv rfl) (Rn.v rfl rfl rfl rfl (V.lenV Try.underlying22 rfl) (Rn.v rfl rfl rfl rfl (V.addW rfl rfl) (Rn.v rfl rfl rfl rfl (V.nil rfl) (Rn.v rfl rfl rfl rfl (V.fa Try.underlying71 rfl Try.sizeOf3 rfl rfl) (Rn.st rfl rfl Try.sizeOf3 rfl rfl rfl rfl (by first | exact ones rfl | (simp [Value.oneCell']; done)) (hm19.get 3 rfl) (by first | exact Nat.le_of_ble_eq_true rfl | (simp; done)) ?_)))))))))))
      intro w20 m20 x20
      have hm21 : Hp Z0 (LS [T_wal_Log.obj F0 b0 bD x0, diskO 63 68 5 FD bD xD, slR A1 c1 byteR x1]) w w20 [slR A1 c1 byteR x1, slR A3_0_0 c3_0_0 byteR p3.1, diskO 63 68 5 F10 bD y10, boxR b0 71 [.pointer (some ⟨bD, 0, none⟩), Str (y9.name), .int .i64 (W64 (y9.n + 1)), .int .i64 (W64 (y9.size + (p3.1.length : Int)))]] := hm19.st 3 rfl x20 m20
      refine Rn.regEnd ?_
      have hm23 : Hp Z0 (LS [T_wal_Log.obj F0 b0 bD x0, diskO 63 68 5 FD bD xD, slR A1 c1 byteR x1]) w w20 ([slR A1 c1 byteR x1, slR A3_0_0 c3_0_0 byteR p3.1, diskO 63 68 5 F10 bD y10] ++ [boxR b0 71 [.pointer (some ⟨bD, 0, none⟩), Str (y9.name), .int .i64 (W64 (y9.n + 1)), .int .i64 (W64 (y9.size + (p3.1.length : Int)))]]) := hm21.pick [0, 1, 2, 3] rfl (by decide)
      obtain ⟨F22, hm22⟩ := hm23.fold (T_wal_Log.sh b0 bD ({ name := y9.name, n := W64 (y9.n + 1), size := W64 (y9.size + (p3.1.length : Int)) } : T_wal_Log)) rfl
      replace hm22 : Hp Z0 (LS [T_wal_Log.obj F0 b0 bD x0, diskO 63 68 5 FD bD xD, slR A1 c1 byteR x1]) w w20 [slR A1 c1 byteR x1, slR A3_0_0 c3_0_0 byteR p3.1, diskO 63 68 5 F10 bD y10, T_wal_Log.obj F22 b0 bD ({ name := y9.name, n := W64 (y9.n + 1), size := W64 (y9.size + (p3.1.length : Int)) } : T_wal_Log)] := hm22
      exact hk2 (({ name := y9.name, n := W64 (y9.n + 1), size := W64 (y9.size + (p3.1.length : Int)) } : T_wal_Log), F10, F22) _ _ (Sub.cons rfl (Sub.nil _)) (hm22.pick [0, 1, 2, 3] rfl (by decide)) hM
    · replace hM := iteF h15 hM
      refine Rn.skip ?_
      exact hk2 (y9, F10, F9) _ _ (Sub.cons rfl (Sub.nil _)) (hm11.pick [0, 1, 3, 2] rfl (by decide)) hM
  intro hk1
  clear hj1
  refine Rn.condD rfl (fun h24 => ?_) (fun h24 => ?_)
  · replace hM := iteT h24 hM
    refine Rn.drawT 9 rfl hm7 (by kernel_rfl) ?_
    intro w25 hm25
    refine RT.v 0 (by kernel_rfl) rfl rfl rfl rfl (V.mv rfl) ?_
    refine RT.v 1 (by kernel_rfl) rfl rfl rfl rfl (V.nil rfl) ?_
    refine RT.v 2 (by kernel_rfl) rfl rfl rfl rfl (V.fa Try.underlying71 rfl Try.sizeOf36 rfl rfl) ?_
    obtain ⟨_, rfl, hm26⟩ := hm25.unf 0 rfl
    replace hm26 : Hp Z0 (LS [T_wal_Log.obj F0 b0 bD x0, diskO 63 68 5 FD bD xD, slR A1 c1 byteR x1]) w w25 [diskO 63 68 5 FD bD xD, slR A1 c1 byteR x1, slR A3_0_0 c3_0_0 byteR p3.1, boxR b0 71 [.pointer (some ⟨bD, 0, none⟩), Str (x0.name), .int .i64 (x0.n), .int .i64 (x0.size)]] := hm26
    refine RT.v 3 (by kernel_rfl) rfl rfl rfl rfl (V.ldB Try.isAgg36 rfl (hm26.get 3 rfl) rfl) ?_
    refine RT.v 4 (by kernel_rfl) rfl rfl rfl rfl (V.mv rfl) ?_
    refine RT.v 5 (by kernel_rfl) rfl rfl rfl rfl (V.nil rfl) ?_
    refine RT.v 6 (by kernel_rfl) rfl rfl rfl rfl (V.fa Try.underlying71 rfl Try.sizeOf9 rfl rfl) ?_
    refine RT.v 7 (by kernel_rfl) rfl rfl rfl rfl (V.ldB Try.isAgg9 rfl (hm26.get 3 rfl) rfl) ?_
    refine RT.v 8 (by kernel_rfl) rfl rfl rfl rfl (V.mv rfl) ?_
    refine RT.tail ?_
    obtain ⟨p28, e28, hM⟩ := bindE hM
    have hm29 := hm26.dup 2 rfl (fun _ h => h)
    have hm31 : Hp Z0 (LS [T_wal_Log.obj F0 b0 bD x0, diskO 63 68 5 FD bD xD, slR A1 c1 byteR x1]) w w25 ([slR A1 c1 byteR x1, slR A3_0_0 c3_0_0 byteR p3.1, boxR b0 71 [.pointer (some ⟨bD, 0, none⟩), Str (x0.name), .int .i64 (x0.n), .int .i64 (x0.size)]] ++ [diskO 63 68 5 FD bD xD, slR A3_0_0 c3_0_0 byteR p3.1]) := hm29.pick [1, 2, 3, 0, 4] rfl (by decide)
    refine RH.cl ck36 9 (by kernel_rfl) rfl rfl rfl rfl (m_disk_Disk_Append_sim (Z0 := _) _ FD bD xD x0.name A3_0_0 c3_0_0 p3.1 hm31.lend e28) ?_
    rintro _ w28 ⟨F28_p0, rfl, hq28⟩
    refine ⟨_, rfl, trivial, ?_⟩
    have hm33 : Hp Z0 (LS [T_wal_Log.obj F0 b0 bD x0, diskO 63 68 5 FD bD xD, slR A1 c1 byteR x1]) w w28 [slR A1 c1 byteR x1, slR A3_0_0 c3_0_0 byteR p3.1, boxR b0 71 [.pointer (some ⟨bD, 0, none⟩), Str (x0.name), .int .i64 (x0.n), .int .i64 (x0.size)], diskO 63 68 5 F28_p0 bD p28.2] := hm31.callAZ hq28
    refine RH.here fun hS10 => RH.one 10 (by kernel_rfl) rfl rfl rfl rfl (V.as rfl) hS10 ?_
    refine RH.doneP (by kernel_rfl) ?_
    have hm35 : Hp Z0 (LS [T_wal_Log.obj F0 b0 bD x0, diskO 63 68 5 FD bD xD, slR A1 c1 byteR x1]) w w28 ([slR A1 c1 byteR x1, slR A3_0_0 c3_0_0 byteR p3.1, diskO 63 68 5 F28_p0 bD p28.2] ++ [boxR b0 71 [.pointer (some ⟨bD, 0, none⟩), Str (x0.name), .int .i64 (x0.n), .int .i64 (x0.size)]]) := hm33.pick [0, 1, 3, 2] rfl (by decide)
    obtain ⟨F34, hm34⟩ := hm35.fold (T_wal_Log.sh b0 bD x0) rfl
    replace hm34 : Hp Z0 (LS [T_wal_Log.obj F0 b0 bD x0, diskO 63 68 5 FD bD xD, slR A1 c1 byteR x1]) w w28 [slR A1 c1 byteR x1, slR A3_0_0 c3_0_0 byteR p3.1, diskO 63 68 5 F28_p0 bD p28.2, T_wal_Log.obj F34 b0 bD x0] := hm34
    exact hk1 (p28.1, x0, p28.2, F34, F28_p0) _ _ (Sub.cons rfl (Sub.cons rfl (Sub.cons rfl (Sub.nil _)))) (hm34.pick [0, 1, 3, 2] rfl (by decide)) hM
  · replace hM := iteF h24 hM
    refine Rn.skip ?_
    exact hk1 (p3.2, x0, xD, F0, FD) _ _ (Sub.cons rfl (Sub.cons rfl (Sub.cons rfl (Sub.nil _)))) (hm7.pick [2, 3, 0, 1] rfl (by decide)) hM

set_option maxRecDepth 20000 in
theorem m_disk_Disk_Sync_sim {Z0 : Nat → Prop} (w : World) (F0 : Nat → Prop) (b0 : Nat) (x0 : PD) (x1 : (List UInt8)) {r : (Int × PD)} (hL : Lent Z0 w [diskO 63 68 5 F0 b0 x0]) (hM : m_disk_Disk_Sync x0 x1 = some r) :
    Calls Try.prog 37 #[.pointer (some ⟨b0, 0, none⟩), Str (x1)] w fun x w' => ∃ F_p0, x = .returned (.int .i64 (r.1)) ∧ Hp Z0 (LS [diskO 63 68 5 F0 b0 x0]) w w' [diskO 63 68 5 F_p0 b0 r.2] := by
  unfold m_disk_Disk_Sync at hM
  split at hM
  · rename_i hg
    obtain rfl := someE hM
    have hd : DkAt 63 68 5 w b0 F0 x0 := hL.1 0 _ rfl
    refine (sync_spec x1 w hg hd).mono ?_
    rintro x w' ⟨rfl, F', d, hx, hF⟩
    exact ⟨F', rfl, hL.turn1 hx hF fun _ => d⟩
  · cases hM

set_option maxRecDepth 20000 in
theorem m_wal_Log_Sync_sim {Z0 : Nat → Prop} (w : World) (F0 : Nat → Prop) (b0 : Nat) (x0 : T_wal_Log) (FD : Nat → Prop) (bD : Nat) (xD : PD) {r : (Int × PD)} (hL : Lent Z0 w [T_wal_Log.obj F0 b0 bD x0, diskO 63 68 5 FD bD xD]) (hM : m_wal_Log_Sync x0 xD = some r) :
    Calls Try.prog 20 #[.pointer (some ⟨b0, 0, none⟩)] w fun x w' => ∃ F_pD F_p0, x = .returned (.int .i64 (r.1)) ∧ Hp Z0 (LS [T_wal_Log.obj F0 b0 bD x0, diskO 63 68 5 FD bD xD]) w w' [diskO 63 68 5 F_pD bD r.2, T_wal_Log.obj F_p0 b0 bD x0] := by
  have hm0 := hL.start
  refine Rn.enter Try.func20 rfl rfl (Nat.le_of_ble_eq_true rfl) ?_
  refine Rn.seq (Rn.reg (Rn.v rfl rfl rfl rfl (V.as rfl) (Rn.regEnd (Rn.seq ?_))))
  refine Rn.drawT 8 rfl hm0 (by kernel_rfl) ?_
  intro w2 hm2
  refine RT.v 0 (by kernel_rfl) rfl rfl rfl rfl (V.mv rfl) ?_
  refine RT.v 1 (by kernel_rfl) rfl rfl rfl rfl (V.nil rfl) ?_
  refine RT.v 2 (by kernel_rfl) rfl rfl rfl rfl (V.fa Try.underlying71 rfl Try.sizeOf36 rfl rfl) ?_
  obtain ⟨_, rfl, hm3⟩ := hm2.unf 0 rfl
  replace hm3 : Hp Z0 (LS [T_wal_Log.obj F0 b0 bD x0, diskO 63 68 5 FD bD xD]) w w2 [diskO 63 68 5 FD bD xD, boxR b0 71 [.pointer (some ⟨bD, 0, none⟩), Str (x0.name), .int .i64 (x0.n), .int .i64 (x0.size)]] := hm3
  refine RT.v 3 (by kernel_rfl) rfl rfl rfl rfl (V.ldB Try.isAgg36 rfl (hm3.get 1 rfl) rfl) ?_
  refine RT.v 4 (by kernel_rfl) rfl rfl rfl rfl (V.mv rfl) ?_
  refine RT.v 5 (by kernel_rfl) rfl rfl rfl rfl (V.nil rfl) ?_
  refine RT.v 6 (by kernel_rfl) rfl rfl rfl rfl (V.fa Try.underlying71 rfl Try.sizeOf9 rfl rfl) ?_
  refine RT.v 7 (by kernel_rfl) rfl rfl rfl rfl (V.ldB Try.isAgg9 rfl (hm3.get 1 rfl) rfl) ?_
  refine RT.tail ?_
  obtain ⟨p5, e5, hM⟩ := bindE hM
  have hm6 : Hp Z0 (LS [T_wal_Log.obj F0 b0 bD x0, diskO 63 68 5 FD bD xD]) w w2 ([boxR b0 71 [.pointer (some ⟨bD, 0, none⟩), Str (x0.name), .int .i64 (x0.n), .int .i64 (x0.size)]] ++ [diskO 63 68 5 FD bD xD]) := hm3.pick [1, 0] rfl (by decide)
  refine RH.cl ck37 8 (by kernel_rfl) rfl rfl rfl rfl (m_disk_Disk_Sync_sim (Z0 := _) _ FD bD xD x0.name hm6.lend e5) ?_
  rintro _ w5 ⟨F5_p0, rfl, hq5⟩
  refine ⟨_, rfl, trivial, ?_⟩
  have hm8 : Hp Z0 (LS [T_wal_Log.obj F0 b0 bD x0, diskO 63 68 5 FD bD xD]) w w5 [boxR b0 71 [.pointer (some ⟨bD, 0, none⟩), Str (x0.name), .int .i64 (x0.n), .int .i64 (x0.size)], diskO 63 68 5 F5_p0 bD p5.2] := hm6.callAZ hq5
  refine RH.here fun hS9 => RH.one 9 (by kernel_rfl) rfl rfl rfl rfl (V.as rfl) hS9 ?_
  refine RH.doneP (by kernel_rfl) ?_
  have hm10 : Hp Z0 (LS [T_wal_Log.obj F0 b0 bD x0, diskO 63 68 5 FD bD xD]) w w5 ([diskO 63 68 5 F5_p0 bD p5.2] ++ [boxR b0 71 [.pointer (some ⟨bD, 0, none⟩), Str (x0.name), .int .i64 (x0.n), .int .i64 (x0.size)]]) := hm8.pick [1, 0] rfl (by decide)
  obtain ⟨F9, hm9⟩ := hm10.fold (T_wal_Log.sh b0 bD x0) rfl
  replace hm9 : Hp Z0 (LS [T_wal_Log.obj F0 b0 bD x0, diskO 63 68 5 FD bD xD]) w w5 [diskO 63 68 5 F5_p0 bD p5.2, T_wal_Log.obj F9 b0 bD x0] := hm9
  refine Rn.retG1 Try.func20 rfl (rvT rfl) ?_
  obtain rfl := someE hM
  exact ⟨F5_p0, F9, rfl, hm9.pick [0, 1] rfl (by decide)⟩

set_option maxRecDepth 20000 in
theorem m_disk_Disk_Crash_sim {Z0 : Nat → Prop} (w : World) (F0 : Nat → Prop) (b0 : Nat) (x0 : PD) (x1 : Int) {r : PD} (hL : Lent Z0 w [diskO 63 68 5 F0 b0 x0]) (hM : m_disk_Disk_Crash x0 x1 = some r) :
    Calls Try.prog 18 #[.pointer (some ⟨b0, 0, none⟩), .int .i64 (x1)] w fun x w' => ∃ F_p0, x = .returned (.tuple #[]) ∧ Hp Z0 (LS [diskO 63 68 5 F0 b0 x0]) w w' [diskO 63 68 5 F_p0 b0 r] := by
  unfold m_disk_Disk_Crash at hM
  split at hM
  · rename_i hg
    obtain rfl := someE hM
    have hd : DkAt 63 68 5 w b0 F0 x0 := hL.1 0 _ rfl
    refine (crash_spec x1 w hg hd).mono ?_
    rintro x w' ⟨rfl, F', d, hx, hF⟩
    exact ⟨F', rfl, hL.turn1 hx hF fun _ => d⟩
  · cases hM

set_option maxRecDepth 20000 in
theorem m_disk_Disk_Boot_sim {Z0 : Nat → Prop} (w : World) (F0 : Nat → Prop) (b0 : Nat) (x0 : PD) (A1 : Option Addr) (c1 : Nat) (x1 : (List Int)) {r : (Int × PD)} (hL : Lent Z0 w [diskO 63 68 5 F0 b0 x0, slR A1 c1 (intR .i64) x1]) (hM : m_disk_Disk_Boot x0 x1 = some r) :
    Calls Try.prog 22 #[.pointer (some ⟨b0, 0, none⟩), .slice A1 (x1).length c1] w fun x w' => ∃ F_p0, x = .returned (.int .i64 (r.1)) ∧ Hp Z0 (LS [diskO 63 68 5 F0 b0 x0, slR A1 c1 (intR .i64) x1]) w w' [diskO 63 68 5 F_p0 b0 r.2] := by
  unfold m_disk_Disk_Boot at hM
  split at hM
  · rename_i hg
    obtain rfl := someE hM
    have hd : DkAt 63 68 5 w b0 F0 x0 := hL.1 0 _ rfl
    have hs := hL.1 1 _ rfl
    refine (boot_spec x1 A1 c1 _ w hg.1 hg.2.1 (by omega) rfl hs.2.2 (fun b hb hF => hb.2 0 _ rfl hF) hd).mono ?_
    rintro x w' ⟨rfl, F', d, hx, hF⟩
    exact ⟨F', rfl, hL.turn1 hx hF fun _ => d⟩
  · cases hM

set_option maxRecDepth 20000 in
theorem m_wal_Log_Size_sim {Z0 : Nat → Prop} (w : World) (F0 : Nat → Prop) (b0 : Nat) (x0 : T_wal_Log) (FD : Nat → Prop) (bD : Nat) (xD : PD) {r : Int} (f0 : (fzR (T_wal_Log.obj F0 b0 bD x0)).H Z0 w) (f1 : (fzR (diskO 63 68 5 FD bD xD)).H Z0 w) (hM : m_wal_Log_Size x0 xD = some r) :
    Calls Try.prog 14 #[.pointer (some ⟨b0, 0, none⟩)] w fun x w' => x = .returned (.int .i64 (r)) ∧ Hp Z0 No w w' [] := by
  have hm0 := Hp.nil Z0 No w
  have hc0 := Calm.nil
  have hm2 := hm0.know (fzR (T_wal_Log.obj F0 b0 bD x0)) (fun _ h => h) (hm0.in0 hc0 f0)
  replace hc0 := hc0.snoc (r := fzR (T_wal_Log.obj F0 b0 bD x0)) (fun _ h => h)
  have hm3 := hm2.know (fzR (diskO 63 68 5 FD bD xD)) (fun _ h => h) (hm2.in0 hc0 f1)
  replace hc0 := hc0.snoc (r := fzR (diskO 63 68 5 FD bD xD)) (fun _ h => h)
  refine Rn.enter Try.func14 rfl rfl (Nat.le_of_ble_eq_true rfl) ?_
  refine Rn.seq (Rn.reg (Rn.v rfl rfl rfl rfl (V.as rfl) (Rn.regEnd (Rn.seq (Rn.reg (Rn.v rfl rfl rfl rfl (V.mv rfl) (Rn.v rfl rfl rfl rfl (V.nil rfl) (Rn.v rfl rfl rfl rfl (V.fa Try.underlying71 rfl Try.sizeOf3 rfl rfl) ?_))))))))
  obtain ⟨_, rfl, hm4⟩ := hm3.unfz 0 rfl
  replace hm4 : Hp Z0 No w w [fzR (T_wal_Log.obj F0 b0 bD x0), fzR (diskO 63 68 5 FD bD xD), fzR (boxR b0 71 [.pointer (some ⟨bD, 0, none⟩), Str (x0.name), .int .i64 (x0.n), .int .i64 (x0.size)])] := hm4
  refine Rn.v rfl rfl rfl rfl (V.ldB Try.isAgg3 rfl (hm4.getz 2 rfl) rfl) (Rn.v rfl rfl rfl rfl (V.as rfl) (Rn.regEnd ?_))
  refine Rn.retG1 Try.func14 rfl (rvT rfl) ?_
  obtain rfl := someE hM
  exact ⟨rfl, hm4.pick [] rfl (by decide)⟩

set_option maxRecDepth 20000 in
theorem m_disk_Disk_Used_sim {Z0 : Nat → Prop} (w : World) (F0 : Nat → Prop) (b0 : Nat) (x0 : PD) {r : Int} (f0 : (fzR (diskO 63 68 5 F0 b0 x0)).H Z0 w) (hM : m_disk_Disk_Used x0 = some r) :
    Calls Try.prog 24 #[.pointer (some ⟨b0, 0, none⟩)] w fun x w' => x = .returned (.int .i64 (r)) ∧ Hp Z0 No w w' [] := by
  unfold m_disk_Disk_Used at hM
  split at hM
  · rename_i hg
    obtain rfl := someE hM
    obtain ⟨mb, ms, ck, bss, h⟩ := f0.1
    refine (used_spec _ w rfl hg h).mono ?_
    rintro x w' ⟨rfl, hx⟩
    exact ⟨rfl, (Hp.nil Z0 No w).ext hx⟩
  · cases hM

set_option maxRecDepth 20000 in
theorem m_limnographlaw19_awake_sim {Z0 : Nat → Prop} (w : World)  {r : Bool}  (hM : m_limnographlaw19_awake  = some r) :
    Calls Try.prog 6 #[] w fun x w' => x = .returned (.bool (r)) ∧ Hp Z0 No w w' [] := by
  have hm0 := Hp.nil Z0 No w
  have hc0 := Calm.nil
  refine Rn.enter Try.func6 rfl rfl (Nat.le_of_ble_eq_true rfl) ?_
  refine Rn.seq (Rn.reg (Rn.v rfl rfl rfl rfl (V.as rfl) (Rn.regEnd (Rn.seq (Rn.reg ?_)))))
  have hm2 := hm0.addNil 34 T_api_File.rep
  obtain ⟨p1, e1, hM⟩ := bindE hM
  refine Rn.cl ck10 rfl rfl rfl rfl (m_disk_New_sim (Z0 := All) _ none 0 ([] : List T_api_File) 100 (own_slR (hm2.get 0 rfl)) e1) ?_
  rintro _ w1 ⟨F1_0, b1_0, rfl, hq1⟩
  refine ⟨_, rfl, ?_⟩
  have hm5 : Hp Z0 No w w1 [ownR 34 none 0 T_api_File.rep ([] : List T_api_File), optR p1 (fun z => diskO 63 68 5 F1_0 b1_0 z)] := hm2.callF (flC (optR_flat fun _ => diskO_flat _ _ _ _ _ _) fl0) hq1
  refine Rn.v rfl rfl rfl rfl (V.as rfl) (Rn.regEnd (Rn.seq (Rn.seq (Rn.reg (Rn.v rfl rfl rfl rfl (V.mv rfl) (Rn.v rfl rfl rfl rfl (V.eqlO Try.underlying36 rfl rfl) (Rn.regEnd ?_)))))))
  refine Rn.condS rfl (fun h6 => ?_) (fun h6 => ?_)
  · replace hM := iteT h6 hM
    refine Rn.seq (Rn.reg (Rn.v rfl rfl rfl rfl (V.as rfl) (Rn.regEnd ?_)))
    refine Rn.retG1 Try.func6 rfl (rvT rfl) ?_
    obtain rfl := someE hM
    exact ⟨rfl, hm5.pick [] rfl (by decide)⟩
  · replace hM := iteF (by rw [h6]; exact Bool.false_ne_true) hM
    refine Rn.skip (Rn.seq (Rn.reg (Rn.v rfl rfl rfl rfl (V.mv rfl) ?_)))
    obtain ⟨z8, e8, hM⟩ := bindE hM
    have hm9 : Hp Z0 No w w1 [ownR 34 none 0 T_api_File.rep ([] : List T_api_File), diskO 63 68 5 F1_0 b1_0 z8] := hm5.optSome 1 rfl e8
    refine Rn.say (t := 10) (.pointer (some ⟨b1_0, 0, none⟩)) rfl (by rw [e8]; rfl) ?_
    obtain ⟨p7, e7, hM⟩ := bindE hM
    have hm10 : Hp Z0 No w w1 ([ownR 34 none 0 T_api_File.rep ([] : List T_api_File)] ++ [diskO 63 68 5 F1_0 b1_0 z8]) := hm9.pick [0, 1] rfl (by decide)
    refine Rn.cl ck11 rfl rfl rfl rfl (m_wal_Open_sim (Z0 := _) _ F1_0 b1_0 z8 ([119] : List UInt8) hm10.lend e7) ?_
    rintro _ w7 ⟨F7_0, b7_0, A7_1_0, c7_1_0, F7_p0, rfl, hq7⟩
    refine ⟨_, rfl, ?_⟩
    have hm14 : Hp Z0 No w w7 [ownR 34 none 0 T_api_File.rep ([] : List T_api_File), optR p7.1 (fun z => T_wal_Log.obj F7_0 b7_0 b1_0 z), ownR 22 A7_1_0 c7_1_0 (Rep.sl byteR) p7.2.1, diskO 63 68 5 F7_p0 b1_0 p7.2.2.2] := hm10.callAZ hq7
    refine Rn.v rfl rfl rfl rfl (V.mv rfl) (Rn.v rfl rfl rfl rfl (V.ext rfl rfl) (Rn.v rfl rfl rfl rfl (V.ext rfl rfl) (Rn.v rfl rfl rfl rfl (V.ext rfl rfl) (Rn.v rfl rfl rfl rfl (V.as rfl) (Rn.v rfl rfl rfl rfl (V.as rfl) (Rn.v rfl rfl rfl rfl (V.as rfl) (Rn.regEnd (Rn.seq (Rn.seq (Rn.reg (Rn.v rfl rfl rfl rfl (V.mv rfl) (Rn.v rfl rfl rfl rfl (V.eqlO Try.underlying38 rfl rfl) (Rn.v rfl rfl rfl rfl (V.mv rfl) ?_)))))))))))))
    refine Rn.cutR [7, 8, 9, 10, 11, 12, 13, 14, 15, 16, 17, 18, 19, 20, 21, 22, 23, 24, 25, 26, 27, 28, 29] [(1, .pointer (optP b1_0 p1)), (2, .pointer (optP b7_0 p7.1)), (4, .int .i64 (p7.2.2.1)), (21, .bool (decide ((((p7.1).isNone) = true) ∨ ((p7.2.1.length : Int) > 0))))] (fun hk15 => ?_) ?_
    · refine Rn.part (t := 17) rfl (fun h16 => ?_) (fun h16 => ?_)
      · refine Rn.no rfl rfl rfl rfl (Rn.no rfl rfl rfl rfl (Rn.no rfl rfl rfl rfl (Rn.v rfl rfl rfl rfl (V.pkT rfl rfl) ?_)))
        refine hk15 _ ?_
        exact Sub.cons rfl (Sub.cons rfl (Sub.cons rfl (Sub.cons (lkv _ rfl (by first | exact andT h16 | exact andF h16 | exact orT h16 | exact orF h16 | exact nandF h16 | exact nandT h16 | exact norT h16 | exact norF h16 | (simp [h16]; done) | grind)) (Sub.nil _))))
      · refine Rn.v rfl rfl rfl rfl (V.mv rfl) (Rn.v rfl rfl rfl rfl (V.lenV Try.underlying24 rfl) (Rn.v rfl rfl rfl rfl (V.gtr rfl rfl) (Rn.v rfl rfl rfl rfl (V.pkF rfl rfl) ?_)))
        refine hk15 _ ?_
        exact Sub.cons rfl (Sub.cons rfl (Sub.cons rfl (Sub.cons (lkv _ rfl (by first | exact andT h16 | exact andF h16 | exact orT h16 | exact orF h16 | exact nandF h16 | exact nandT h16 | exact norT h16 | exact norF h16 | (simp [h16]; done) | grind)) (Sub.nil _))))
    refine Rn.v rfl rfl rfl rfl (V.mv rfl) ?_
    refine Rn.cutR [11, 12, 13, 14, 15, 16, 17, 18, 19, 20, 21, 22, 23, 24, 25, 26, 27, 28, 29] [(1, .pointer (optP b1_0 p1)), (2, .pointer (optP b7_0 p7.1)), (25, .bool (decide (((((p7.1).isNone) = true) ∨ ((p7.2.1.length : Int) > 0)) ∨ (p7.2.2.1 ≠ 0))))] (fun hk17 => ?_) ?_
    · refine Rn.partD (t := 22) rfl (fun h18 => ?_) (fun h18 => ?_)
      · refine Rn.no rfl rfl rfl rfl (Rn.no rfl rfl rfl rfl (Rn.v rfl rfl rfl rfl (V.pkT rfl rfl) ?_))
        refine hk17 _ ?_
        exact Sub.cons rfl (Sub.cons rfl (Sub.cons (lkv _ rfl (by first | exact andT h18 | exact andF h18 | exact orT h18 | exact orF h18 | exact nandF h18 | exact nandT h18 | exact norT h18 | exact norF h18 | (simp [h18]; done) | grind)) (Sub.nil _)))
      · refine Rn.v rfl rfl rfl rfl (V.mv rfl) (Rn.v rfl rfl rfl rfl (V.neq rfl rfl) (Rn.v rfl rfl rfl rfl (V.pkF rfl rfl) ?_))
        refine hk17 _ ?_
        exact Sub.cons rfl (Sub.cons rfl (Sub.cons (lkv _ rfl (by first | exact andT h18 | exact andF h18 | exact orT h18 | exact orF h18 | exact nandF h18 | exact nandT h18 | exact norT h18 | exact norF h18 | (simp [h18]; done) | grind)) (Sub.nil _)))
    refine Rn.v rfl rfl rfl rfl (V.mv rfl) ?_
    obtain ⟨j1, hj1, hM⟩ := jnE hM
    refine Rn.joinR (r := r) (G := Bool × PD × (Option T_wal_Log) × (Nat → Prop) × (Nat → Prop)) [18, 19, 20, 21, 22, 23, 24, 25, 26, 27, 28, 29] (fun g => [(1, .pointer (optP b1_0 p1)), (2, .pointer (optP b7_0 (g.2.2.1))), (32, .bool ((g.1)))]) (fun g w' => Hp Z0 No w w' [ownR 34 none 0 T_api_File.rep ([] : List T_api_File), ownR 22 A7_1_0 c7_1_0 (Rep.sl byteR) p7.2.1, diskO 63 68 5 (g.2.2.2.1) b1_0 (g.2.1), optR (g.2.2.1) (fun z => T_wal_Log.obj (g.2.2.2.2) b7_0 b1_0 z)]) (fun g => j1 g.1 g.2.1 g.2.2.1) ?_ ?_
    · subst hj1
      clear hM
      rintro ⟨y19, y20, y21, F20, F21⟩ w22 hm22 hM
      replace hm22 : Hp Z0 No w w22 [ownR 34 none 0 T_api_File.rep ([] : List T_api_File), ownR 22 A7_1_0 c7_1_0 (Rep.sl byteR) p7.2.1, diskO 63 68 5 F20 b1_0 y20, optR y21 (fun z => T_wal_Log.obj F21 b7_0 b1_0 z)] := hm22
      show Rn _ _ _ _ _ [(1, .pointer (optP b1_0 p1)), (2, .pointer (optP b7_0 y21)), (32, .bool (y19))] _
      try dsimp only at hM
      refine Rn.v rfl rfl rfl rfl (V.mv rfl) ?_
      obtain ⟨j2, hj2, hM⟩ := jnE hM
      refine Rn.joinR (r := r) (G := Bool × PD × (Nat → Prop) × (Nat → Prop)) [23, 24, 25, 26, 27, 28, 29] (fun g => [(1, .pointer (optP b1_0 p1)), (2, .pointer (optP b7_0 y21)), (37, .bool ((g.1)))]) (fun g w' => Hp Z0 No w w' [ownR 34 none 0 T_api_File.rep ([] : List T_api_File), ownR 22 A7_1_0 c7_1_0 (Rep.sl byteR) p7.2.1, optR y21 (fun z => T_wal_Log.obj (g.2.2.1) b7_0 b1_0 z), diskO 63 68 5 (g.2.2.2) b1_0 (g.2.1)]) (fun g => j2 g.1 g.2.1) ?_ ?_
      · subst hj2
        clear hM
        rintro ⟨y24, y25, F23, F25⟩ w26 hm26 hM
        replace hm26 : Hp Z0 No w w26 [ownR 34 none 0 T_api_File.rep ([] : List T_api_File), ownR 22 A7_1_0 c7_1_0 (Rep.sl byteR) p7.2.1, optR y21 (fun z => T_wal_Log.obj F23 b7_0 b1_0 z), diskO 63 68 5 F25 b1_0 y25] := hm26
        show Rn _ _ _ _ _ [(1, .pointer (optP b1_0 p1)), (2, .pointer (optP b7_0 y21)), (37, .bool (y24))] _
        try dsimp only at hM
        refine Rn.v rfl rfl rfl rfl (V.mv rfl) ?_
        obtain ⟨j3, hj3, hM⟩ := jnE hM
        refine Rn.joinR (r := r) (G := Bool × PD × (Option T_wal_Log) × (Nat → Prop) × (Nat → Prop)) [] (fun g => [(1, .pointer (optP b1_0 p1)), (2, .pointer (optP b7_0 (g.2.2.1))), (44, .bool ((g.1)))]) (fun g w' => Hp Z0 No w w' [ownR 34 none 0 T_api_File.rep ([] : List T_api_File), ownR 22 A7_1_0 c7_1_0 (Rep.sl byteR) p7.2.1, diskO 63 68 5 (g.2.2.2.1) b1_0 (g.2.1), optR (g.2.2.1) (fun z => T_wal_Log.obj (g.2.2.2.2) b7_0 b1_0 z)]) (fun g => j3 g.1 g.2.1 g.2.2.1) ?_ ?_
        · subst hj3
          clear hM
          rintro ⟨y27, y28, y29, F28, F29⟩ w30 hm30 hM
          replace hm30 : Hp Z0 No w w30 [ownR 34 none 0 T_api_File.rep ([] : List T_api_File), ownR 22 A7_1_0 c7_1_0 (Rep.sl byteR) p7.2.1, diskO 63 68 5 F28 b1_0 y28, optR y29 (fun z => T_wal_Log.obj F29 b7_0 b1_0 z)] := hm30
          show Rn _ _ _ _ _ [(1, .pointer (optP b1_0 p1)), (2, .pointer (optP b7_0 y29)), (44, .bool (y27))] _
          try dsimp only at hM
          refine Rn.regEnd ?_
          refine Rn.condS rfl (fun h31 => ?_) (fun h31 => ?_)
          · replace hM := iteT h31 hM
            refine Rn.seq (Rn.reg (Rn.v rfl rfl rfl rfl (V.as rfl) (Rn.regEnd ?_)))
            refine Rn.retG1 Try.func6 rfl (rvT rfl) ?_
            obtain rfl := someE hM
            exact ⟨rfl, hm30.pick [] rfl (by decide)⟩
          · replace hM := iteF (by rw [h31]; exact Bool.false_ne_true) hM
            refine Rn.skip (Rn.seq (Rn.reg (Rn.v rfl rfl rfl rfl (V.mv rfl) ?_)))
            refine Rn.say (t := 45) (.pointer (some ⟨b1_0, 0, none⟩)) rfl (by rw [e8]; rfl) ?_
            obtain ⟨p32, e32, hM⟩ := bindE hM
            have hm33 : Hp Z0 No w w30 ([ownR 34 none 0 T_api_File.rep ([] : List T_api_File), ownR 22 A7_1_0 c7_1_0 (Rep.sl byteR) p7.2.1, optR y29 (fun z => T_wal_Log.obj F29 b7_0 b1_0 z)] ++ [diskO 63 68 5 F28 b1_0 y28]) := hm30.pick [0, 1, 3, 2] rfl (by decide)
            refine Rn.cl ck18 rfl rfl rfl rfl (m_disk_Disk_Crash_sim (Z0 := _) _ F28 b1_0 y28 0 hm33.lend e32) ?_
            rintro _ w32 ⟨F32_p0, rfl, hq32⟩
            refine ⟨_, rfl, ?_⟩
            have hm35 : Hp Z0 No w w32 [ownR 34 none 0 T_api_File.rep ([] : List T_api_File), ownR 22 A7_1_0 c7_1_0 (Rep.sl byteR) p7.2.1, optR y29 (fun z => T_wal_Log.obj F29 b7_0 b1_0 z), diskO 63 68 5 F32_p0 b1_0 p32] := hm33.callAZ hq32
            refine Rn.regEnd (Rn.seq (Rn.reg (Rn.v rfl rfl rfl rfl (V.mv rfl) ?_)))
            obtain ⟨z37, e37, hM⟩ := bindE hM
            have hm38 : Hp Z0 No w w32 [ownR 34 none 0 T_api_File.rep ([] : List T_api_File), ownR 22 A7_1_0 c7_1_0 (Rep.sl byteR) p7.2.1, T_wal_Log.obj F29 b7_0 b1_0 z37, diskO 63 68 5 F32_p0 b1_0 p32] := hm35.optSome 2 rfl e37
            refine Rn.say (t := 47) (.pointer (some ⟨b7_0, 0, none⟩)) rfl (by rw [e37]; rfl) ?_
            obtain ⟨p36, e36, hM⟩ := bindE hM
            have hm39 : Hp Z0 No w w32 ([ownR 34 none 0 T_api_File.rep ([] : List T_api_File), ownR 22 A7_1_0 c7_1_0 (Rep.sl byteR) p7.2.1] ++ [T_wal_Log.obj F29 b7_0 b1_0 z37, diskO 63 68 5 F32_p0 b1_0 p32]) := hm38.pick [0, 1, 2, 3] rfl (by decide)
            refine Rn.cl ck20 rfl rfl rfl rfl (m_wal_Log_Sync_sim (Z0 := _) _ F29 b7_0 z37 F32_p0 b1_0 p32 hm39.lend e36) ?_
            rintro _ w36 ⟨F36_pD, F36_p0, rfl, hq36⟩
            refine ⟨_, rfl, ?_⟩
            have hm42 : Hp Z0 No w w36 [ownR 34 none 0 T_api_File.rep ([] : List T_api_File), ownR 22 A7_1_0 c7_1_0 (Rep.sl byteR) p7.2.1, diskO 63 68 5 F36_pD b1_0 p36.2, T_wal_Log.obj F36_p0 b7_0 b1_0 z37] := hm39.callAZ hq36
            refine Rn.regEnd (Rn.seq (Rn.reg (Rn.v rfl rfl rfl rfl (V.mv rfl) (Rn.bslS rfl rfl rfl Try.underlying48 el3 rfl rfl rfl rfl (by first | exact szs rfl | (simp [Value.cells]; done)) (by decide) ?_))))
            intro b43 w43 hb43 m43 e43
            have hm44 := hm42.addLit (rep := (intR .i64)) (xs := ([5] : List Int)) (vss := [[.int .i64 (5)]]) hb43 e43 m43 rfl rfl rfl ((rels_cons (fun _ _ => ⟨rfl, trivial⟩) rels0))
            refine Rn.say (t := 49) (.pointer (some ⟨b1_0, 0, none⟩)) rfl (by rw [e8]; rfl) ?_
            have hm48 := hm44.freeze 4 rfl
            obtain ⟨p46, e46, hM⟩ := bindE hM
            have hm49 := hm48.dup 4 rfl (fun _ h => h)
            have hm51 : Hp Z0 No w w43 ([ownR 34 none 0 T_api_File.rep ([] : List T_api_File), ownR 22 A7_1_0 c7_1_0 (Rep.sl byteR) p7.2.1, T_wal_Log.obj F36_p0 b7_0 b1_0 z37, slR (some ⟨b43, 0, none⟩) 1 (intR .i64) ([5] : List Int)] ++ [diskO 63 68 5 F36_pD b1_0 p36.2, slR (some ⟨b43, 0, none⟩) 1 (intR .i64) ([5] : List Int)]) := hm49.pick [0, 1, 3, 4, 2, 5] rfl (by decide)
            refine Rn.cl ck22 rfl rfl rfl rfl (m_disk_Disk_Boot_sim (Z0 := _) _ F36_pD b1_0 p36.2 (some ⟨b43, 0, none⟩) 1 ([5] : List Int) hm51.lend e46) ?_
            rintro _ w46 ⟨F46_p0, rfl, hq46⟩
            refine ⟨_, rfl, ?_⟩
            have hm53 : Hp Z0 No w w46 [ownR 34 none 0 T_api_File.rep ([] : List T_api_File), ownR 22 A7_1_0 c7_1_0 (Rep.sl byteR) p7.2.1, T_wal_Log.obj F36_p0 b7_0 b1_0 z37, slR (some ⟨b43, 0, none⟩) 1 (intR .i64) ([5] : List Int), diskO 63 68 5 F46_p0 b1_0 p46.2] := hm51.callAZ hq46
            refine Rn.regEnd (Rn.seq (Rn.reg (Rn.v rfl rfl rfl rfl (V.mv rfl) ?_)))
            refine Rn.say (t := 53) (.pointer (some ⟨b1_0, 0, none⟩)) rfl (by rw [e8]; rfl) ?_
            obtain ⟨p54, e54, hM⟩ := bindE hM
            have hm55 : Hp Z0 No w w46 ([ownR 34 none 0 T_api_File.rep ([] : List T_api_File), ownR 22 A7_1_0 c7_1_0 (Rep.sl byteR) p7.2.1, T_wal_Log.obj F36_p0 b7_0 b1_0 z37, slR (some ⟨b43, 0, none⟩) 1 (intR .i64) ([5] : List Int)] ++ [diskO 63 68 5 F46_p0 b1_0 p46.2]) := hm53.pick [0, 1, 2, 3, 4] rfl (by decide)
            refine Rn.cl ck11 rfl rfl rfl rfl (m_wal_Open_sim (Z0 := _) _ F46_p0 b1_0 p46.2 ([119] : List UInt8) hm55.lend e54) ?_
            rintro _ w54 ⟨F54_0, b54_0, A54_1_0, c54_1_0, F54_p0, rfl, hq54⟩
            refine ⟨_, rfl, ?_⟩
            have hm59 : Hp Z0 No w w54 [ownR 34 none 0 T_api_File.rep ([] : List T_api_File), ownR 22 A7_1_0 c7_1_0 (Rep.sl byteR) p7.2.1, T_wal_Log.obj F36_p0 b7_0 b1_0 z37, slR (some ⟨b43, 0, none⟩) 1 (intR .i64) ([5] : List Int), optR p54.1 (fun z => T_wal_Log.obj F54_0 b54_0 b1_0 z), ownR 22 A54_1_0 c54_1_0 (Rep.sl byteR) p54.2.1, diskO 63 68 5 F54_p0 b1_0 p54.2.2.2] := hm55.callAZ hq54
            refine Rn.v rfl rfl rfl rfl (V.mv rfl) (Rn.v rfl rfl rfl rfl (V.ext rfl rfl) (Rn.v rfl rfl rfl rfl (V.ext rfl rfl) (Rn.v rfl rfl rfl rfl (V.ext rfl rfl) (Rn.v rfl rfl rfl rfl (V.as rfl) (Rn.v rfl rfl rfl rfl (V.as rfl) (Rn.v rfl rfl rfl rfl (V.as rfl) (Rn.regEnd (Rn.seq (Rn.reg (Rn.v rfl rfl rfl rfl (V.mv rfl) (Rn.v rfl rfl rfl rfl (V.neqO Try.underlying38 rfl rfl) (Rn.v rfl rfl rfl rfl (V.mv rfl) ?_))))))))))))
            refine Rn.cutR [6, 7, 8, 9, 10, 11, 12, 13, 14, 15, 16, 17, 18, 19, 20, 21, 22, 23, 24, 25, 26, 27, 28] [(1, .pointer (optP b1_0 p1)), (3, .slice A54_1_0 (p54.2.1).length c54_1_0), (5, .pointer (optP b54_0 p54.1)), (63, .bool (decide (((!((p54.1).isNone)) = true) ∧ (p54.2.2.1 = 0))))] (fun hk60 => ?_) ?_
            · refine Rn.part (t := 60) rfl (fun h61 => ?_) (fun h61 => ?_)
              · refine Rn.v rfl rfl rfl rfl (V.mv rfl) (Rn.v rfl rfl rfl rfl (V.eql rfl rfl) (Rn.v rfl rfl rfl rfl (V.pkT rfl rfl) ?_))
                refine hk60 _ ?_
                exact Sub.cons rfl (Sub.cons rfl (Sub.cons rfl (Sub.cons (lkv _ rfl (by first | exact andT h61 | exact andF h61 | exact orT h61 | exact orF h61 | exact nandF h61 | exact nandT h61 | exact norT h61 | exact norF h61 | (simp [h61]; done) | grind)) (Sub.nil _))))
              · refine Rn.no rfl rfl rfl rfl (Rn.no rfl rfl rfl rfl (Rn.v rfl rfl rfl rfl (V.pkF rfl rfl) ?_))
                refine hk60 _ ?_
                exact Sub.cons rfl (Sub.cons rfl (Sub.cons rfl (Sub.cons (lkv _ rfl (by first | exact andT h61 | exact andF h61 | exact orT h61 | exact orF h61 | exact nandF h61 | exact nandT h61 | exact norT h61 | exact norF h61 | (simp [h61]; done) | grind)) (Sub.nil _))))
            refine Rn.v rfl rfl rfl rfl (V.mv rfl) ?_
            refine Rn.cutR [11, 12, 13, 14, 15, 16, 17, 18, 19, 20, 21, 22, 23, 24, 25, 26, 27, 28] [(1, .pointer (optP b1_0 p1)), (3, .slice A54_1_0 (p54.2.1).length c54_1_0), (5, .pointer (optP b54_0 p54.1)), (68, .bool (decide ((((!((p54.1).isNone)) = true) ∧ (p54.2.2.1 = 0)) ∧ ((p54.2.1.length : Int) = 1))))] (fun hk62 => ?_) ?_
            · refine Rn.partD (t := 64) rfl (fun h63 => ?_) (fun h63 => ?_)
              · refine Rn.v rfl rfl rfl rfl (V.mv rfl) (Rn.v rfl rfl rfl rfl (V.lenV Try.underlying24 rfl) (Rn.v rfl rfl rfl rfl (V.eql rfl rfl) (Rn.v rfl rfl rfl rfl (V.pkT rfl rfl) ?_)))
                refine hk62 _ ?_
                exact Sub.cons rfl (Sub.cons rfl (Sub.cons rfl (Sub.cons (lkv _ rfl (by first | exact andT h63 | exact andF h63 | exact orT h63 | exact orF h63 | exact nandF h63 | exact nandT h63 | exact norT h63 | exact norF h63 | (simp [h63]; done) | grind)) (Sub.nil _))))
              · refine Rn.no rfl rfl rfl rfl (Rn.no rfl rfl rfl rfl (Rn.no rfl rfl rfl rfl (Rn.v rfl rfl rfl rfl (V.pkF rfl rfl) ?_)))
                refine hk62 _ ?_
                exact Sub.cons rfl (Sub.cons rfl (Sub.cons rfl (Sub.cons (lkv _ rfl (by first | exact andT h63 | exact andF h63 | exact orT h63 | exact orF h63 | exact nandF h63 | exact nandT h63 | exact norT h63 | exact norF h63 | (simp [h63]; done) | grind)) (Sub.nil _))))
            refine Rn.v rfl rfl rfl rfl (V.mv rfl) ?_
            obtain ⟨j4, hj4, hM⟩ := jnE hM
            refine Rn.joinR (r := r) (G := Bool × (Nat → Prop) × (Nat → Prop) × (Nat → Prop)) [18, 19, 20, 21, 22, 23, 24, 25, 26, 27, 28] (fun g => [(1, .pointer (optP b1_0 p1)), (5, .pointer (optP b54_0 p54.1)), (75, .bool ((g.1)))]) (fun g w' => Hp Z0 No w w' [ownR 34 none 0 T_api_File.rep ([] : List T_api_File), ownR 22 A7_1_0 c7_1_0 (Rep.sl byteR) p7.2.1, T_wal_Log.obj (g.2.1) b7_0 b1_0 z37, slR (some ⟨b43, 0, none⟩) 1 (intR .i64) ([5] : List Int), optR p54.1 (fun z => T_wal_Log.obj (g.2.2.1) b54_0 b1_0 z), ownR 22 A54_1_0 c54_1_0 (Rep.sl byteR) p54.2.1, diskO 63 68 5 (g.2.2.2) b1_0 p54.2.2.2]) (fun g => j4 g.1) ?_ ?_
            · subst hj4
              clear hM
              rintro ⟨y67, F64, F65, F66⟩ w68 hm68 hM
              replace hm68 : Hp Z0 No w w68 [ownR 34 none 0 T_api_File.rep ([] : List T_api_File), ownR 22 A7_1_0 c7_1_0 (Rep.sl byteR) p7.2.1, T_wal_Log.obj F64 b7_0 b1_0 z37, slR (some ⟨b43, 0, none⟩) 1 (intR .i64) ([5] : List Int), optR p54.1 (fun z => T_wal_Log.obj F65 b54_0 b1_0 z), ownR 22 A54_1_0 c54_1_0 (Rep.sl byteR) p54.2.1, diskO 63 68 5 F66 b1_0 p54.2.2.2] := hm68
              show Rn _ _ _ _ _ [(1, .pointer (optP b1_0 p1)), (5, .pointer (optP b54_0 p54.1)), (75, .bool (y67))] _
              try dsimp only at hM
              refine Rn.v rfl rfl rfl rfl (V.mv rfl) ?_
              obtain ⟨j5, hj5, hM⟩ := jnE hM
              refine Rn.joinR (r := r) (G := Bool × (Nat → Prop) × (Nat → Prop) × (Nat → Prop)) [23, 24, 25, 26, 27, 28] (fun g => [(1, .pointer (optP b1_0 p1)), (80, .bool ((g.1)))]) (fun g w' => Hp Z0 No w w' [ownR 34 none 0 T_api_File.rep ([] : List T_api_File), ownR 22 A7_1_0 c7_1_0 (Rep.sl byteR) p7.2.1, T_wal_Log.obj (g.2.1) b7_0 b1_0 z37, slR (some ⟨b43, 0, none⟩) 1 (intR .i64) ([5] : List Int), optR p54.1 (fun z => T_wal_Log.obj (g.2.2.1) b54_0 b1_0 z), ownR 22 A54_1_0 c54_1_0 (Rep.sl byteR) p54.2.1, diskO 63 68 5 (g.2.2.2) b1_0 p54.2.2.2]) (fun g => j5 g.1) ?_ ?_
              · subst hj5
                clear hM
                rintro ⟨y72, F69, F70, F71⟩ w73 hm73 hM
                replace hm73 : Hp Z0 No w w73 [ownR 34 none 0 T_api_File.rep ([] : List T_api_File), ownR 22 A7_1_0 c7_1_0 (Rep.sl byteR) p7.2.1, T_wal_Log.obj F69 b7_0 b1_0 z37, slR (some ⟨b43, 0, none⟩) 1 (intR .i64) ([5] : List Int), optR p54.1 (fun z => T_wal_Log.obj F70 b54_0 b1_0 z), ownR 22 A54_1_0 c54_1_0 (Rep.sl byteR) p54.2.1, diskO 63 68 5 F71 b1_0 p54.2.2.2] := hm73
                show Rn _ _ _ _ _ [(1, .pointer (optP b1_0 p1)), (80, .bool (y72))] _
                try dsimp only at hM
                refine Rn.v rfl rfl rfl rfl (V.mv rfl) ?_
                obtain ⟨j6, hj6, hM⟩ := jnE hM
                refine Rn.joinR (r := r) (G := Bool × (Nat → Prop) × (Nat → Prop) × (Nat → Prop)) [28] (fun g => [(85, .bool ((g.1)))]) (fun g w' => Hp Z0 No w w' [ownR 34 none 0 T_api_File.rep ([] : List T_api_File), ownR 22 A7_1_0 c7_1_0 (Rep.sl byteR) p7.2.1, T_wal_Log.obj (g.2.1) b7_0 b1_0 z37, slR (some ⟨b43, 0, none⟩) 1 (intR .i64) ([5] : List Int), optR p54.1 (fun z => T_wal_Log.obj (g.2.2.1) b54_0 b1_0 z), ownR 22 A54_1_0 c54_1_0 (Rep.sl byteR) p54.2.1, diskO 63 68 5 (g.2.2.2) b1_0 p54.2.2.2]) (fun g => j6 g.1) ?_ ?_
                · subst hj6
                  clear hM
                  rintro ⟨y77, F74, F75, F76⟩ w78 hm78 hM
                  replace hm78 : Hp Z0 No w w78 [ownR 34 none 0 T_api_File.rep ([] : List T_api_File), ownR 22 A7_1_0 c7_1_0 (Rep.sl byteR) p7.2.1, T_wal_Log.obj F74 b7_0 b1_0 z37, slR (some ⟨b43, 0, none⟩) 1 (intR .i64) ([5] : List Int), optR p54.1 (fun z => T_wal_Log.obj F75 b54_0 b1_0 z), ownR 22 A54_1_0 c54_1_0 (Rep.sl byteR) p54.2.1, diskO 63 68 5 F76 b1_0 p54.2.2.2] := hm78
                  show Rn _ _ _ _ _ [(85, .bool (y77))] _
                  try dsimp only at hM
                  refine Rn.v rfl rfl rfl rfl (V.as rfl) (Rn.regEnd ?_)
                  refine Rn.retG1 Try.func6 rfl (rvT rfl) ?_
                  obtain rfl := someE hM
                  exact ⟨rfl, hm78.pick [] rfl (by decide)⟩
                intro hk6
                clear hj6
                refine Rn.part (t := 81) rfl (fun h79 => ?_) (fun h79 => ?_)
                · replace hM := iteT h79 hM
                  refine Rn.v rfl rfl rfl rfl (V.mv rfl) ?_
                  refine Rn.say (t := 82) (.pointer (some ⟨b1_0, 0, none⟩)) rfl (by rw [e8]; rfl) ?_
                  obtain ⟨p80, e80, hM⟩ := bindE hM
                  refine Rn.cl ck24 rfl rfl rfl rfl (m_disk_Disk_Used_sim (Z0 := All) _ F71 b1_0 p54.2.2.2 (fz_all (hm73.get 6 rfl)) e80) ?_
                  rintro _ w80 ⟨rfl, hq80⟩
                  refine ⟨_, rfl, ?_⟩
                  have hm81 := hm73.call0 hq80
                  refine Rn.v rfl rfl rfl rfl (V.eql rfl rfl) (Rn.v rfl rfl rfl rfl (V.pkT rfl rfl) ?_)
                  exact hk6 ((decide (p80 = 10)), F69, F70, F71) _ _ (Sub.cons rfl (Sub.nil _)) (hm81.pick [0, 1, 2, 3, 4, 5, 6] rfl (by decide)) hM
                · replace hM := iteF (by rw [h79]; exact Bool.false_ne_true) hM
                  refine Rn.no rfl rfl rfl rfl (Rn.no rfl rfl rfl rfl (Rn.no rfl rfl rfl rfl (Rn.v rfl rfl rfl rfl (V.pkF rfl rfl) ?_)))
                  exact hk6 (false, F69, F70, F71) _ _ (Sub.cons rfl (Sub.nil _)) (hm73.pick [0, 1, 2, 3, 4, 5, 6] rfl (by decide)) hM
              intro hk5
              clear hj5
              refine Rn.part (t := 76) rfl (fun h82 => ?_) (fun h82 => ?_)
              · replace hM := iteT h82 hM
                refine Rn.v rfl rfl rfl rfl (V.mv rfl) ?_
                obtain ⟨z84, e84, hM⟩ := bindE hM
                have hm85 : Hp Z0 No w w68 [ownR 34 none 0 T_api_File.rep ([] : List T_api_File), ownR 22 A7_1_0 c7_1_0 (Rep.sl byteR) p7.2.1, T_wal_Log.obj F64 b7_0 b1_0 z37, slR (some ⟨b43, 0, none⟩) 1 (intR .i64) ([5] : List Int), T_wal_Log.obj F65 b54_0 b1_0 z84, ownR 22 A54_1_0 c54_1_0 (Rep.sl byteR) p54.2.1, diskO 63 68 5 F66 b1_0 p54.2.2.2] := hm68.optSome 4 rfl e84
                refine Rn.say (t := 77) (.pointer (some ⟨b54_0, 0, none⟩)) rfl (by rw [e84]; rfl) ?_
                obtain ⟨p83, e83, hM⟩ := bindE hM
                refine Rn.cl ck14 rfl rfl rfl rfl (m_wal_Log_Size_sim (Z0 := All) _ F65 b54_0 z84 F66 b1_0 p54.2.2.2 (fz_all (hm85.get 4 rfl)) (fz_all (hm85.get 6 rfl)) e83) ?_
                rintro _ w83 ⟨rfl, hq83⟩
                refine ⟨_, rfl, ?_⟩
                have hm86 := hm85.call0 hq83
                refine Rn.v rfl rfl rfl rfl (V.eql rfl rfl) (Rn.v rfl rfl rfl rfl (V.pkT rfl rfl) ?_)
                have hm87 : Hp Z0 No w w83 [ownR 34 none 0 T_api_File.rep ([] : List T_api_File), ownR 22 A7_1_0 c7_1_0 (Rep.sl byteR) p7.2.1, T_wal_Log.obj F64 b7_0 b1_0 z37, slR (some ⟨b43, 0, none⟩) 1 (intR .i64) ([5] : List Int), optR p54.1 (fun z => T_wal_Log.obj F65 b54_0 b1_0 z), ownR 22 A54_1_0 c54_1_0 (Rep.sl byteR) p54.2.1, diskO 63 68 5 F66 b1_0 p54.2.2.2] := hm86.toOpt (R := (fun z => T_wal_Log.obj F65 b54_0 b1_0 z)) 4 rfl e84
                exact hk5 ((decide (p83 = 10)), F64, F65, F66) _ _ (Sub.cons rfl (Sub.cons rfl (Sub.nil _))) (hm87.pick [0, 1, 2, 3, 4, 5, 6] rfl (by decide)) hM
              · replace hM := iteF (by rw [h82]; exact Bool.false_ne_true) hM
                refine Rn.no rfl rfl rfl rfl (Rn.no rfl rfl rfl rfl (Rn.no rfl rfl rfl rfl (Rn.v rfl rfl rfl rfl (V.pkF rfl rfl) ?_)))
                exact hk5 (false, F64, F65, F66) _ _ (Sub.cons rfl (Sub.cons rfl (Sub.nil _))) (hm68.pick [0, 1, 2, 3, 4, 5, 6] rfl (by decide)) hM
            intro hk4
            clear hj4
            refine Rn.partD (t := 69) rfl (fun h88 => ?_) (fun h88 => ?_)
            · replace hM := iteT h88 hM
              refine Rn.v rfl rfl rfl rfl (V.mv rfl) ?_
              obtain ⟨z89, e89, hM⟩ := bindE hM
              obtain ⟨kk89, ke89, kz89, kl89⟩ := idxE e89
              obtain ⟨g89, vs89, hA89, hR89, hrel89⟩ := hm59.ownAt 5 rfl kz89
              subst hA89
              obtain ⟨A90, c90, rfl, p90, q90, s90⟩ := hrel89
              have hm92 : Hp Z0 No w w54 [ownR 34 none 0 T_api_File.rep ([] : List T_api_File), ownR 22 A7_1_0 c7_1_0 (Rep.sl byteR) p7.2.1, T_wal_Log.obj F36_p0 b7_0 b1_0 z37, slR (some ⟨b43, 0, none⟩) 1 (intR .i64) ([5] : List Int), optR p54.1 (fun z => T_wal_Log.obj F54_0 b54_0 b1_0 z), ownR 22 (some ⟨g89, 0, none⟩) c54_1_0 (Rep.sl byteR) p54.2.1, diskO 63 68 5 F54_p0 b1_0 p54.2.2.2, slR A90 c90 byteR z89] := Hp.knowL [slR A90 c90 byteR z89] _ hm59 (knC (fun _ h => h) ⟨p90, q90, s90⟩ kn0)
              refine Rn.v rfl rfl rfl rfl (V.ixE kk89 Try.underlying24 Try.sizeOf22 rfl rfl ke89 kl89) (Rn.v rfl rfl rfl rfl (V.ldR0 Try.isAgg22 rfl hR89 rfl) (Rn.v rfl rfl rfl rfl (V.b2s Try.underlying22 Try.underlying9 Try.underlying5 rfl rfl (hm92.get 7 rfl).2.2) (Rn.v rfl rfl rfl rfl (V.eqlS rfl rfl) (Rn.v rfl rfl rfl rfl (V.pkT rfl rfl) ?_))))
              exact hk4 ((decide (z89 = ([97] : List UInt8))), F36_p0, F54_0, F54_p0) _ _ (Sub.cons rfl (Sub.cons rfl (Sub.cons rfl (Sub.nil _)))) (hm92.pick [0, 1, 2, 3, 4, 5, 6] rfl (by decide)) hM
            · replace hM := iteF h88 hM
              refine Rn.no rfl rfl rfl rfl (Rn.no rfl rfl rfl rfl (Rn.no rfl rfl rfl rfl (Rn.no rfl rfl rfl rfl (Rn.no rfl rfl rfl rfl (Rn.v rfl rfl rfl rfl (V.pkF rfl rfl) ?_)))))
              exact hk4 (false, F36_p0, F54_0, F54_p0) _ _ (Sub.cons rfl (Sub.cons rfl (Sub.cons rfl (Sub.nil _)))) (hm59.pick [0, 1, 2, 3, 4, 5, 6] rfl (by decide)) hM
        intro hk3
        clear hj3
        refine Rn.part (t := 38) rfl (fun h93 => ?_) (fun h93 => ?_)
        · replace hM := iteT h93 hM
          refine Rn.no rfl rfl rfl rfl (Rn.no rfl rfl rfl rfl (Rn.no rfl rfl rfl rfl (Rn.no rfl rfl rfl rfl (Rn.no rfl rfl rfl rfl (Rn.v rfl rfl rfl rfl (V.pkT rfl rfl) ?_)))))
          exact hk3 (true, y25, y21, F25, F23) _ _ (Sub.cons rfl (Sub.cons rfl (Sub.cons rfl (Sub.nil _)))) (hm26.pick [0, 1, 3, 2] rfl (by decide)) hM
        · replace hM := iteF (by rw [h93]; exact Bool.false_ne_true) hM
          refine Rn.v rfl rfl rfl rfl (V.mv rfl) (Rn.bslS rfl rfl rfl Try.underlying22 el5 rfl rfl rfl rfl (by first | exact szs rfl | (simp [Value.cells]; done)) (by decide) ?_)
          intro b94 w94 hb94 m94 e94
          have hm95 := hm26.addLit (rep := byteR) (xs := ([(98 : UInt8)] : List UInt8)) (vss := [[.int .u8 ((((98 : UInt8)).toNat : Nat) : Int)]]) hb94 e94 m94 rfl rfl rfl ((rels_cons (fun _ _ => ⟨rfl, trivial⟩) rels0))
          refine Rn.cvbH hm95 4 rfl rfl rfl rfl Try.underlying22 Try.underlying5 rfl ?_
          intro w97 hm97
          obtain ⟨z100, e100, hM⟩ := bindE hM
          have hm101 : Hp Z0 No w w97 [ownR 34 none 0 T_api_File.rep ([] : List T_api_File), ownR 22 A7_1_0 c7_1_0 (Rep.sl byteR) p7.2.1, T_wal_Log.obj F23 b7_0 b1_0 z100, diskO 63 68 5 F25 b1_0 y25, slR (some ⟨b94, 0, none⟩) 1 byteR ([(98 : UInt8)] : List UInt8)] := hm97.optSome 2 rfl e100
          refine Rn.say (t := 39) (.pointer (some ⟨b7_0, 0, none⟩)) rfl (by rw [e100]; rfl) ?_
          obtain ⟨p99, e99, hM⟩ := bindE hM
          have hm102 := hm101.dup 4 rfl (fun _ h => h)
          have hm104 : Hp Z0 No w w97 ([ownR 34 none 0 T_api_File.rep ([] : List T_api_File), ownR 22 A7_1_0 c7_1_0 (Rep.sl byteR) p7.2.1, slR (some ⟨b94, 0, none⟩) 1 byteR ([(98 : UInt8)] : List UInt8)] ++ [T_wal_Log.obj F23 b7_0 b1_0 z100, diskO 63 68 5 F25 b1_0 y25, slR (some ⟨b94, 0, none⟩) 1 byteR ([(98 : UInt8)] : List UInt8)]) := hm102.pick [0, 1, 4, 2, 3, 5] rfl (by decide)
          refine Rn.cl ck19 rfl rfl rfl rfl (m_wal_Log_Append_sim (Z0 := _) _ F23 b7_0 z100 (some ⟨b94, 0, none⟩) 1 ([(98 : UInt8)] : List UInt8) F25 b1_0 y25 hm104.lend e99) ?_
          rintro _ w99 ⟨F99_p0, F99_pD, rfl, hq99⟩
          refine ⟨_, rfl, ?_⟩
          have hm107 : Hp Z0 No w w99 [ownR 34 none 0 T_api_File.rep ([] : List T_api_File), ownR 22 A7_1_0 c7_1_0 (Rep.sl byteR) p7.2.1, slR (some ⟨b94, 0, none⟩) 1 byteR ([(98 : UInt8)] : List UInt8), T_wal_Log.obj F99_p0 b7_0 b1_0 p99.2.1, diskO 63 68 5 F99_pD b1_0 p99.2.2] := hm104.callAZ hq99
          refine Rn.v rfl rfl rfl rfl (V.neq rfl rfl) (Rn.v rfl rfl rfl rfl (V.pkF rfl rfl) ?_)
          refine Rn.say (t := 2) (.pointer (some ⟨b7_0, 0, none⟩)) rfl (by rw [e100]; rfl) ?_
          have hm108 := hm107.toSome (R := (fun z => T_wal_Log.obj F99_p0 b7_0 b1_0 z)) 3 rfl
          have hm109 : Hp Z0 No w w99 [ownR 34 none 0 T_api_File.rep ([] : List T_api_File), ownR 22 A7_1_0 c7_1_0 (Rep.sl byteR) p7.2.1, slR (some ⟨b94, 0, none⟩) 1 byteR ([(98 : UInt8)] : List UInt8), optR (some p99.2.1) (fun z => T_wal_Log.obj F99_p0 b7_0 b1_0 z), diskO 63 68 5 F99_pD b1_0 p99.2.2] := hm108
          exact hk3 ((decide (p99.1 ≠ 0)), p99.2.2, (some p99.2.1), F99_pD, F99_p0) _ _ (Sub.cons rfl (Sub.cons rfl (Sub.cons rfl (Sub.nil _)))) (hm109.pick [0, 1, 4, 3] rfl (by decide)) hM
      intro hk2
      clear hj2
      refine Rn.part (t := 33) rfl (fun h110 => ?_) (fun h110 => ?_)
      · replace hM := iteT h110 hM
        refine Rn.no rfl rfl rfl rfl (Rn.no rfl rfl rfl rfl (Rn.no rfl rfl rfl rfl (Rn.v rfl rfl rfl rfl (V.pkT rfl rfl) ?_)))
        exact hk2 (true, y20, F21, F20) _ _ (Sub.cons rfl (Sub.cons rfl (Sub.cons rfl (Sub.nil _)))) (hm22.pick [0, 1, 3, 2] rfl (by decide)) hM
      · replace hM := iteF (by rw [h110]; exact Bool.false_ne_true) hM
        refine Rn.v rfl rfl rfl rfl (V.mv rfl) ?_
        obtain ⟨z112, e112, hM⟩ := bindE hM
        have hm113 : Hp Z0 No w w22 [ownR 34 none 0 T_api_File.rep ([] : List T_api_File), ownR 22 A7_1_0 c7_1_0 (Rep.sl byteR) p7.2.1, diskO 63 68 5 F20 b1_0 y20, T_wal_Log.obj F21 b7_0 b1_0 z112] := hm22.optSome 3 rfl e112
        refine Rn.say (t := 34) (.pointer (some ⟨b7_0, 0, none⟩)) rfl (by rw [e112]; rfl) ?_
        obtain ⟨p111, e111, hM⟩ := bindE hM
        have hm114 : Hp Z0 No w w22 ([ownR 34 none 0 T_api_File.rep ([] : List T_api_File), ownR 22 A7_1_0 c7_1_0 (Rep.sl byteR) p7.2.1] ++ [T_wal_Log.obj F21 b7_0 b1_0 z112, diskO 63 68 5 F20 b1_0 y20]) := hm113.pick [0, 1, 3, 2] rfl (by decide)
        refine Rn.cl ck20 rfl rfl rfl rfl (m_wal_Log_Sync_sim (Z0 := _) _ F21 b7_0 z112 F20 b1_0 y20 hm114.lend e111) ?_
        rintro _ w111 ⟨F111_pD, F111_p0, rfl, hq111⟩
        refine ⟨_, rfl, ?_⟩
        have hm117 : Hp Z0 No w w111 [ownR 34 none 0 T_api_File.rep ([] : List T_api_File), ownR 22 A7_1_0 c7_1_0 (Rep.sl byteR) p7.2.1, diskO 63 68 5 F111_pD b1_0 p111.2, T_wal_Log.obj F111_p0 b7_0 b1_0 z112] := hm114.callAZ hq111
        refine Rn.v rfl rfl rfl rfl (V.neq rfl rfl) (Rn.v rfl rfl rfl rfl (V.pkF rfl rfl) ?_)
        have hm118 : Hp Z0 No w w111 [ownR 34 none 0 T_api_File.rep ([] : List T_api_File), ownR 22 A7_1_0 c7_1_0 (Rep.sl byteR) p7.2.1, diskO 63 68 5 F111_pD b1_0 p111.2, optR y21 (fun z => T_wal_Log.obj F111_p0 b7_0 b1_0 z)] := hm117.toOpt (R := (fun z => T_wal_Log.obj F111_p0 b7_0 b1_0 z)) 3 rfl e112
        exact hk2 ((decide (p111.1 ≠ 0)), p111.2, F111_p0, F111_pD) _ _ (Sub.cons rfl (Sub.cons rfl (Sub.cons rfl (Sub.nil _)))) (hm118.pick [0, 1, 3, 2] rfl (by decide)) hM
    intro hk1
    clear hj1
    refine Rn.partD (t := 26) rfl (fun h119 => ?_) (fun h119 => ?_)
    · replace hM := iteT h119 hM
      refine Rn.no rfl rfl rfl rfl (Rn.no rfl rfl rfl rfl (Rn.no rfl rfl rfl rfl (Rn.no rfl rfl rfl rfl (Rn.no rfl rfl rfl rfl (Rn.v rfl rfl rfl rfl (V.pkT rfl rfl) ?_)))))
      exact hk1 (true, p7.2.2.2, p7.1, F7_p0, F7_0) _ _ (Sub.cons rfl (Sub.cons rfl (Sub.cons rfl (Sub.nil _)))) (hm14.pick [0, 2, 3, 1] rfl (by decide)) hM
    · replace hM := iteF h119 hM
      refine Rn.v rfl rfl rfl rfl (V.mv rfl) (Rn.bslS rfl rfl rfl Try.underlying22 el5 rfl rfl rfl rfl (by first | exact szs rfl | (simp [Value.cells]; done)) (by decide) ?_)
      intro b120 w120 hb120 m120 e120
      have hm121 := hm14.addLit (rep := byteR) (xs := ([(97 : UInt8)] : List UInt8)) (vss := [[.int .u8 ((((97 : UInt8)).toNat : Nat) : Int)]]) hb120 e120 m120 rfl rfl rfl ((rels_cons (fun _ _ => ⟨rfl, trivial⟩) rels0))
      refine Rn.cvbH hm121 4 rfl rfl rfl rfl Try.underlying22 Try.underlying5 rfl ?_
      intro w123 hm123
      obtain ⟨z126, e126, hM⟩ := bindE hM
      have hm127 : Hp Z0 No w w123 [ownR 34 none 0 T_api_File.rep ([] : List T_api_File), T_wal_Log.obj F7_0 b7_0 b1_0 z126, ownR 22 A7_1_0 c7_1_0 (Rep.sl byteR) p7.2.1, diskO 63 68 5 F7_p0 b1_0 p7.2.2.2, slR (some ⟨b120, 0, none⟩) 1 byteR ([(97 : UInt8)] : List UInt8)] := hm123.optSome 1 rfl e126
      refine Rn.say (t := 27) (.pointer (some ⟨b7_0, 0, none⟩)) rfl (by rw [e126]; rfl) ?_
      obtain ⟨p125, e125, hM⟩ := bindE hM
      have hm128 := hm127.dup 4 rfl (fun _ h => h)
      have hm130 : Hp Z0 No w w123 ([ownR 34 none 0 T_api_File.rep ([] : List T_api_File), ownR 22 A7_1_0 c7_1_0 (Rep.sl byteR) p7.2.1, slR (some ⟨b120, 0, none⟩) 1 byteR ([(97 : UInt8)] : List UInt8)] ++ [T_wal_Log.obj F7_0 b7_0 b1_0 z126, diskO 63 68 5 F7_p0 b1_0 p7.2.2.2, slR (some ⟨b120, 0, none⟩) 1 byteR ([(97 : UInt8)] : List UInt8)]) := hm128.pick [0, 2, 4, 1, 3, 5] rfl (by decide)
      refine Rn.cl ck19 rfl rfl rfl rfl (m_wal_Log_Append_sim (Z0 := _) _ F7_0 b7_0 z126 (some ⟨b120, 0, none⟩) 1 ([(97 : UInt8)] : List UInt8) F7_p0 b1_0 p7.2.2.2 hm130.lend e125) ?_
      rintro _ w125 ⟨F125_p0, F125_pD, rfl, hq125⟩
      refine ⟨_, rfl, ?_⟩
      have hm133 : Hp Z0 No w w125 [ownR 34 none 0 T_api_File.rep ([] : List T_api_File), ownR 22 A7_1_0 c7_1_0 (Rep.sl byteR) p7.2.1, slR (some ⟨b120, 0, none⟩) 1 byteR ([(97 : UInt8)] : List UInt8), T_wal_Log.obj F125_p0 b7_0 b1_0 p125.2.1, diskO 63 68 5 F125_pD b1_0 p125.2.2] := hm130.callAZ hq125
      refine Rn.v rfl rfl rfl rfl (V.neq rfl rfl) (Rn.v rfl rfl rfl rfl (V.pkF rfl rfl) ?_)
      refine Rn.say (t := 2) (.pointer (some ⟨b7_0, 0, none⟩)) rfl (by rw [e126]; rfl) ?_
      have hm134 := hm133.toSome (R := (fun z => T_wal_Log.obj F125_p0 b7_0 b1_0 z)) 3 rfl
      have hm135 : Hp Z0 No w w125 [ownR 34 none 0 T_api_File.rep ([] : List T_api_File), ownR 22 A7_1_0 c7_1_0 (Rep.sl byteR) p7.2.1, slR (some ⟨b120, 0, none⟩) 1 byteR ([(97 : UInt8)] : List UInt8), optR (some p125.2.1) (fun z => T_wal_Log.obj F125_p0 b7_0 b1_0 z), diskO 63 68 5 F125_pD b1_0 p125.2.2] := hm134
      exact hk1 ((decide (p125.1 ≠ 0)), p125.2.2, (some p125.2.1), F125_pD, F125_p0) _ _ (Sub.cons rfl (Sub.cons rfl (Sub.cons rfl (Sub.nil _)))) (hm135.pick [0, 1, 4, 3] rfl (by decide)) hM

set_option maxRecDepth 20000 in
theorem m_limnographref04_four_sim {Z0 : Nat → Prop} (w : World) (x0 : Int) {r : (List UInt8)}  (hM : m_limnographref04_four x0 = some r) :
    Calls Try.prog 54 #[.int .i64 (x0)] w fun x w' => x = .returned (Str (r)) ∧ Hp Z0 No w w' [] := by
  have hm0 := Hp.nil Z0 No w
  have hc0 := Calm.nil
  refine Rn.enter Try.func54 rfl rfl (Nat.le_of_ble_eq_true rfl) ?_
  refine Rn.seq (Rn.reg (Rn.v rfl rfl rfl rfl (V.as rfl) (Rn.regEnd (Rn.seq (Rn.reg (Rn.v rfl rfl rfl rfl (V.mv rfl) ?_))))))
  obtain ⟨z1, e1, hM⟩ := bindE hM
  refine Rn.v rfl rfl rfl rfl (V.remZ rfl rfl e1) (Rn.v rfl rfl rfl rfl (V.cv8 Try.underlying3 Try.underlying5 rfl) (Rn.v rfl rfl rfl rfl (V.mv rfl) ?_))
  obtain ⟨z2, e2, hM⟩ := bindE hM
  refine Rn.v rfl rfl rfl rfl (V.quoZ rfl rfl e2) ?_
  obtain ⟨z3, e3, hM⟩ := bindE hM
  refine Rn.v rfl rfl rfl rfl (V.remZ rfl rfl e3) (Rn.v rfl rfl rfl rfl (V.cv8 Try.underlying3 Try.underlying5 rfl) (Rn.v rfl rfl rfl rfl (V.mv rfl) ?_))
  obtain ⟨z4, e4, hM⟩ := bindE hM
  refine Rn.v rfl rfl rfl rfl (V.quoZ rfl rfl e4) ?_
  obtain ⟨z5, e5, hM⟩ := bindE hM
  refine Rn.v rfl rfl rfl rfl (V.remZ rfl rfl e5) (Rn.v rfl rfl rfl rfl (V.cv8 Try.underlying3 Try.underlying5 rfl) (Rn.v rfl rfl rfl rfl (V.mv rfl) ?_))
  obtain ⟨z6, e6, hM⟩ := bindE hM
  refine Rn.v rfl rfl rfl rfl (V.quoZ rfl rfl e6) (Rn.v rfl rfl rfl rfl (V.cv8 Try.underlying3 Try.underlying5 rfl) (Rn.bslS rfl rfl rfl Try.underlying22 el5 rfl rfl rfl rfl (by first | exact szs rfl | (simp [Value.cells]; done)) (by decide) ?_))
  intro b7 w7 hb7 m7 e7
  have hm8 := hm0.addLit (rep := byteR) (xs := ([toU8 z1, toU8 z3, toU8 z5, toU8 z6] : List UInt8)) (vss := [[.int .u8 (((toU8 z1).toNat : Nat) : Int)], [.int .u8 (((toU8 z3).toNat : Nat) : Int)], [.int .u8 (((toU8 z5).toNat : Nat) : Int)], [.int .u8 (((toU8 z6).toNat : Nat) : Int)]]) hb7 e7 m7 rfl rfl rfl ((rels_cons (fun _ _ => ⟨rfl, trivial⟩) (rels_cons (fun _ _ => ⟨rfl, trivial⟩) (rels_cons (fun _ _ => ⟨rfl, trivial⟩) (rels_cons (fun _ _ => ⟨rfl, trivial⟩) rels0)))))
  refine Rn.v rfl rfl rfl rfl (V.b2s Try.underlying22 Try.underlying9 Try.underlying5 rfl rfl (Own.sl (hm8.get 0 rfl))) (Rn.v rfl rfl rfl rfl (V.as rfl) (Rn.regEnd ?_))
  refine Rn.retG1 Try.func54 rfl (rvT rfl) ?_
  obtain rfl := someE hM
  exact ⟨rfl, hm8.pick [] rfl (by decide)⟩

set_option maxRecDepth 20000 in
theorem m_limnographref03_Step_sim {Z0 : Nat → Prop} (w : World) (x0 : UInt32) {r : UInt32}  (hM : m_limnographref03_Step x0 = some r) :
    Calls Try.prog 75 #[.int .u32 (((x0).toNat : Nat) : Int)] w fun x w' => x = .returned (.int .u32 (((r).toNat : Nat) : Int)) ∧ Hp Z0 No w w' [] := by
  have hm0 := Hp.nil Z0 No w
  have hc0 := Calm.nil
  refine Rn.enter Try.func75 rfl rfl (Nat.le_of_ble_eq_true rfl) ?_
  refine Rn.seq (Rn.reg (Rn.v rfl rfl rfl rfl (V.as rfl) (Rn.regEnd (Rn.seq (Rn.reg (Rn.v rfl rfl rfl rfl (V.mv rfl) ?_))))))
  obtain ⟨z1, e1, hM⟩ := bindE hM
  refine Rn.v rfl rfl rfl rfl (V.rem32 rfl rfl e1) (Rn.v rfl rfl rfl rfl (V.as rfl) (Rn.regEnd (Rn.seq (Rn.reg (Rn.v rfl rfl rfl rfl (V.mv rfl) ?_)))))
  obtain ⟨z2, e2, hM⟩ := bindE hM
  refine Rn.v rfl rfl rfl rfl (V.quo32 rfl rfl e2) (Rn.v rfl rfl rfl rfl (V.as rfl) (Rn.regEnd (Rn.seq (Rn.seq (Rn.reg (Rn.v rfl rfl rfl rfl (V.mv rfl) (Rn.v rfl rfl rfl rfl (V.eql rfl rfl) (Rn.regEnd ?_))))))))
  obtain ⟨j1, hj1, hM⟩ := jnE hM
  refine Rn.joinG (r := r) (G := UInt32) (fun g => [(0, .int .u32 (((g).toNat : Nat) : Int))]) (fun g w' => Hp Z0 No w w' []) (fun g => j1 g) ?_ ?_
  · subst hj1
    clear hM
    rintro y3 w4 hm4 hM
    replace hm4 : Hp Z0 No w w4 [] := hm4
    show Rn _ _ _ _ _ [(0, .int .u32 (((y3).toNat : Nat) : Int))] _
    try dsimp only at hM
    refine Rn.seq (Rn.reg (Rn.v rfl rfl rfl rfl (V.mv rfl) (Rn.v rfl rfl rfl rfl (V.as rfl) (Rn.regEnd ?_))))
    refine Rn.retG1 Try.func75 rfl (rvT rfl) ?_
    obtain rfl := someE hM
    exact ⟨rfl, hm4.pick [] rfl (by decide)⟩
  intro hk1
  clear hj1
  refine Rn.condD rfl (fun h5 => ?_) (fun h5 => ?_)
  · replace hM := iteT h5 hM
    refine Rn.reg (Rn.v rfl rfl rfl rfl (V.mv rfl) (Rn.v rfl rfl rfl rfl (V.o32 rfl rfl z2 (2197175160 : UInt32) rfl rfl (b32_xor _ _ _)) (Rn.v rfl rfl rfl rfl (V.as rfl) (Rn.regEnd ?_))))
    exact hk1 (z2 ^^^ (2197175160 : UInt32)) _ _ (Sub.cons rfl (Sub.nil _)) (hm0.pick [] rfl (by decide)) hM
  · replace hM := iteF h5 hM
    refine Rn.skip ?_
    exact hk1 z2 _ _ (Sub.cons rfl (Sub.nil _)) (hm0.pick [] rfl (by decide)) hM

set_option maxRecDepth 20000 in
theorem m_limnographref03_More_sim {Z0 : Nat → Prop} (w : World) (x0 : UInt32) (A1 : Option Addr) (c1 : Nat) (x1 : (List UInt8)) {r : UInt32} (f0 : (slR A1 c1 byteR x1).H Z0 w) (hM : m_limnographref03_More x0 x1 = some r) :
    Calls Try.prog 68 #[.int .u32 (((x0).toNat : Nat) : Int), .slice A1 (x1).length c1] w fun x w' => x = .returned (.int .u32 (((r).toNat : Nat) : Int)) ∧ Hp Z0 No w w' [] := by
  have hm0 := Hp.nil Z0 No w
  have hc0 := Calm.nil
  have hm2 := hm0.know (slR A1 c1 byteR x1) (fun _ h => h) (hm0.in0 hc0 f0)
  replace hc0 := hc0.snoc (r := slR A1 c1 byteR x1) (fun _ h => h)
  refine Rn.enter Try.func68 rfl rfl (Nat.le_of_ble_eq_true rfl) ?_
  refine Rn.seq (Rn.reg (Rn.v rfl rfl rfl rfl (V.as rfl) (Rn.regEnd (Rn.seq (Rn.seq (Rn.reg (Rn.v rfl rfl rfl rfl (V.as rfl) (Rn.regEnd ?_))))))))
  obtain ⟨j1, hj1, hM⟩ := jnE hM
  refine Rn.joinG (r := r) (G := UInt32) (fun g => [(0, .int .u32 (((g).toNat : Nat) : Int))]) (fun g w' => Hp Z0 No w w' [slR A1 c1 byteR x1]) (fun g => j1 g) ?_ ?_
  · subst hj1
    clear hM
    rintro y3 w4 hm4 hM
    replace hm4 : Hp Z0 No w w4 [slR A1 c1 byteR x1] := hm4
    show Rn _ _ _ _ _ [(0, .int .u32 (((y3).toNat : Nat) : Int))] _
    try dsimp only at hM
    refine Rn.seq (Rn.reg (Rn.v rfl rfl rfl rfl (V.mv rfl) (Rn.v rfl rfl rfl rfl (V.as rfl) (Rn.regEnd ?_))))
    refine Rn.retG1 Try.func68 rfl (rvT rfl) ?_
    obtain rfl := someE hM
    exact ⟨rfl, hm4.pick [] rfl (by decide)⟩
  intro hk1
  clear hj1
  refine Rn.block ?_
  refine Rn.loopF (G := UInt32 × Int) (fun g => [(0, .int .u32 ((((g.1)).toNat : Nat) : Int)), (1, .slice A1 (x1).length c1), (5, .int .i64 ((g.2)))]) (fun g w' => Hp Z0 No w w' [slR A1 c1 byteR x1]) (fun n g => m_limnographref03_More_L1 x1 j1 n g.1 g.2) fuel (x0, 0) (Sub.cons rfl (Sub.cons rfl (Sub.cons rfl (Sub.nil _)))) (hm2.pick [0] rfl (by decide)) hM (fun _ => rfl) ?_
  clear hM
  rintro m7 ⟨y5, y6⟩ w7 hm7 hM hn7
  replace hm7 : Hp Z0 No w w7 [slR A1 c1 byteR x1] := hm7
  show Rn _ _ _ _ _ [(0, .int .u32 (((y5).toNat : Nat) : Int)), (1, .slice A1 (x1).length c1), (5, .int .i64 (y6))] _
  replace hM : m_limnographref03_More_L1 x1 j1 (m7 + 1) y5 y6 = some r := hM
  rw [m_limnographref03_More_L1] at hM
  refine Rn.seq (Rn.seq (Rn.reg (Rn.v rfl rfl rfl rfl (V.mv rfl) (Rn.v rfl rfl rfl rfl (V.mv rfl) (Rn.v rfl rfl rfl rfl (V.lenV Try.underlying22 rfl) (Rn.v rfl rfl rfl rfl (V.lss rfl rfl) (Rn.regEnd ?_)))))))
  refine Rn.condD rfl (fun h8 => ?_) (fun h8 => ?_)
  · replace hM := iteT h8 hM
    refine Rn.skip (Rn.seq (Rn.block (Rn.seq (Rn.reg (Rn.v rfl rfl rfl rfl (V.mv rfl) (Rn.v rfl rfl rfl rfl (V.mv rfl) (Rn.v rfl rfl rfl rfl (V.mv rfl) ?_)))))))
    obtain ⟨z9, e9, hM⟩ := bindE hM
    refine Rn.ixH hm7 0 rfl e9 rfl rfl rfl Try.underlying22 Try.sizeOf5 rfl rfl rfl rfl ?_
    rintro b9 o9 vs9 ⟨rfl, _⟩ hm9
    refine Rn.v rfl rfl rfl rfl (V.ldR0 Try.isAgg5 rfl (hm9.get 1 rfl).2 rfl) (Rn.v rfl rfl rfl rfl (V.cv32 Try.underlying5 Try.underlying89 rfl) (Rn.v rfl rfl rfl rfl (V.o32 rfl rfl y5 (toU32 ((z9).toNat : Int)) rfl rfl (b32_xor _ _ _)) (Rn.v rfl rfl rfl rfl (V.as rfl) (Rn.regEnd (Rn.seq (Rn.reg (Rn.v rfl rfl rfl rfl (V.as rfl) (Rn.regEnd ?_))))))))
    obtain ⟨j2, hj2, hM⟩ := jnE hM
    refine Rn.joinG (r := r) (G := UInt32) (fun g => [(0, .int .u32 (((g).toNat : Nat) : Int)), (1, .slice A1 (x1).length c1), (5, .int .i64 (y6))]) (fun g w' => Hp Z0 No w w' [slR A1 c1 byteR x1, rdR b9 o9 [.int .u8 (((z9).toNat : Nat) : Int)]]) (fun g => j2 g) ?_ ?_
    · subst hj2
      clear hM
      rintro y11 w12 hm12 hM
      replace hm12 : Hp Z0 No w w12 [slR A1 c1 byteR x1, rdR b9 o9 [.int .u8 (((z9).toNat : Nat) : Int)]] := hm12
      show Rn _ _ _ _ _ [(0, .int .u32 (((y11).toNat : Nat) : Int)), (1, .slice A1 (x1).length c1), (5, .int .i64 (y6))] _
      try dsimp only at hM
      refine Rn.inBlock (Rn.reg (Rn.v rfl rfl rfl rfl (V.mv rfl) (Rn.v rfl rfl rfl rfl (V.addW rfl rfl) (Rn.v rfl rfl rfl rfl (V.as rfl) (Rn.regEnd ?_)))))
      exact hn7 (y11, (W64 (y6 + 1))) _ _ (Sub.cons rfl (Sub.cons rfl (Sub.cons rfl (Sub.nil _)))) (hm12.pick [0] rfl (by decide)) hM
    intro hk2
    clear hj2
    refine Rn.block ?_
    refine Rn.loopF (G := UInt32 × Int) (fun g => [(0, .int .u32 ((((g.1)).toNat : Nat) : Int)), (1, .slice A1 (x1).length c1), (5, .int .i64 (y6)), (6, .int .i64 ((g.2)))]) (fun g w' => Hp Z0 No w w' [slR A1 c1 byteR x1, rdR b9 o9 [.int .u8 (((z9).toNat : Nat) : Int)]]) (fun n g => m_limnographref03_More_L2 j2 n g.1 g.2) fuel ((y5 ^^^ (toU32 ((z9).toNat : Int))), 0) (Sub.cons rfl (Sub.cons rfl (Sub.cons rfl (Sub.cons rfl (Sub.nil _))))) (hm9.pick [0, 1] rfl (by decide)) hM (fun _ => rfl) ?_
    clear hM
    rintro m15 ⟨y13, y14⟩ w15 hm15 hM hn15
    replace hm15 : Hp Z0 No w w15 [slR A1 c1 byteR x1, rdR b9 o9 [.int .u8 (((z9).toNat : Nat) : Int)]] := hm15
    show Rn _ _ _ _ _ [(0, .int .u32 (((y13).toNat : Nat) : Int)), (1, .slice A1 (x1).length c1), (5, .int .i64 (y6)), (6, .int .i64 (y14))] _
    replace hM : m_limnographref03_More_L2 j2 (m15 + 1) y13 y14 = some r := hM
    rw [m_limnographref03_More_L2] at hM
    refine Rn.seq (Rn.seq (Rn.reg (Rn.v rfl rfl rfl rfl (V.mv rfl) (Rn.v rfl rfl rfl rfl (V.lss rfl rfl) (Rn.regEnd ?_)))))
    refine Rn.condD rfl (fun h16 => ?_) (fun h16 => ?_)
    · replace hM := iteT h16 hM
      refine Rn.skip (Rn.seq (Rn.block (Rn.reg (Rn.v rfl rfl rfl rfl (V.mv rfl) ?_))))
      obtain ⟨p17, e17, hM⟩ := bindE hM
      refine Rn.cl ck75 rfl rfl rfl rfl (m_limnographref03_Step_sim (Z0 := All) _ y13  e17) ?_
      rintro _ w17 ⟨rfl, hq17⟩
      refine ⟨_, rfl, ?_⟩
      have hm18 := hm15.call0 hq17
      refine Rn.v rfl rfl rfl rfl (V.as rfl) (Rn.regEnd (Rn.inBlock (Rn.reg (Rn.v rfl rfl rfl rfl (V.mv rfl) (Rn.v rfl rfl rfl rfl (V.addW rfl rfl) (Rn.v rfl rfl rfl rfl (V.as rfl) (Rn.regEnd ?_)))))))
      exact hn15 (p17, (W64 (y14 + 1))) _ _ (Sub.cons rfl (Sub.cons rfl (Sub.cons rfl (Sub.cons rfl (Sub.nil _))))) (hm18.pick [0, 1] rfl (by decide)) hM
    · replace hM := iteF h16 hM
      refine Rn.exit rfl ?_
      exact hk2 y13 _ _ (Sub.cons rfl (Sub.cons rfl (Sub.cons rfl (Sub.nil _)))) (hm15.pick [0, 1] rfl (by decide)) hM
  · replace hM := iteF h8 hM
    refine Rn.exit rfl ?_
    exact hk1 y5 _ _ (Sub.cons rfl (Sub.nil _)) (hm7.pick [0] rfl (by decide)) hM

set_option maxRecDepth 20000 in
theorem m_limnographref03_Of_sim {Z0 : Nat → Prop} (w : World) (A0 : Option Addr) (c0 : Nat) (x0 : (List UInt8)) {r : UInt32} (f0 : (slR A0 c0 byteR x0).H Z0 w) (hM : m_limnographref03_Of x0 = some r) :
    Calls Try.prog 55 #[.slice A0 (x0).length c0] w fun x w' => x = .returned (.int .u32 (((r).toNat : Nat) : Int)) ∧ Hp Z0 No w w' [] := by
  have hm0 := Hp.nil Z0 No w
  have hc0 := Calm.nil
  have hm2 := hm0.know (slR A0 c0 byteR x0) (fun _ h => h) (hm0.in0 hc0 f0)
  replace hc0 := hc0.snoc (r := slR A0 c0 byteR x0) (fun _ h => h)
  refine Rn.enter Try.func55 rfl rfl (Nat.le_of_ble_eq_true rfl) ?_
  refine Rn.seq (Rn.reg (Rn.v rfl rfl rfl rfl (V.as rfl) (Rn.regEnd (Rn.seq (Rn.reg (Rn.v rfl rfl rfl rfl (V.mv rfl) ?_))))))
  obtain ⟨p3, e3, hM⟩ := bindE hM
  refine Rn.cl ck68 rfl rfl rfl rfl (m_limnographref03_More_sim (Z0 := All) _ (4294967295 : UInt32) A0 c0 x0 (slR_all (hm2.get 0 rfl)) e3) ?_
  rintro _ w3 ⟨rfl, hq3⟩
  refine ⟨_, rfl, ?_⟩
  have hm4 := hm2.call0 hq3
  refine Rn.v rfl rfl rfl rfl (V.ari32 (a := (4294967295 : UInt32)) (b := p3) rfl rfl _ rfl (toU32_sub _ _)) (Rn.v rfl rfl rfl rfl (V.as rfl) (Rn.regEnd ?_))
  refine Rn.retG1 Try.func55 rfl (rvT rfl) ?_
  obtain rfl := someE hM
  exact ⟨rfl, hm4.pick [] rfl (by decide)⟩

set_option maxRecDepth 20000 in
theorem m_limnographref04_Wrap_sim {Z0 : Nat → Prop} (w : World) (A0 : Option Addr) (c0 : Nat) (x0 : (List UInt8)) {r : ((List UInt8) × Int)} (f0 : (slR A0 c0 byteR x0).H Z0 w) (hM : m_limnographref04_Wrap x0 = some r) :
    Calls Try.prog 48 #[.slice A0 (x0).length c0] w fun x w' => ∃ A_0_0 c_0_0, x = .returned (.tuple #[.slice A_0_0 (r.1).length c_0_0, .int .i64 (r.2)]) ∧ Hp Z0 No w w' [slR A_0_0 c_0_0 byteR r.1] := by
  have hm0 := Hp.nil Z0 No w
  have hc0 := Calm.nil
  have hm2 := hm0.know (slR A0 c0 byteR x0) (fun _ h => h) (hm0.in0 hc0 f0)
  replace hc0 := hc0.snoc (r := slR A0 c0 byteR x0) (fun _ h => h)
  refine Rn.enter Try.func48 rfl rfl (Nat.le_of_ble_eq_true rfl) ?_
  refine Rn.seq (Rn.reg (Rn.v rfl rfl rfl rfl (V.as rfl) (Rn.v rfl rfl rfl rfl (V.as rfl) (Rn.regEnd (Rn.seq (Rn.seq (Rn.reg (Rn.v rfl rfl rfl rfl (V.mv rfl) (Rn.v rfl rfl rfl rfl (V.lenV Try.underlying22 rfl) (Rn.v rfl rfl rfl rfl (V.gtr rfl rfl) (Rn.regEnd ?_)))))))))))
  refine Rn.condD rfl (fun h3 => ?_) (fun h3 => ?_)
  · replace hM := iteT h3 hM
    refine Rn.seq (Rn.reg (Rn.v rfl rfl rfl rfl (V.as rfl) (Rn.v rfl rfl rfl rfl (V.as rfl) (Rn.regEnd ?_))))
    have hm4 := hm2.addNil 5 byteR
    have hm7 := hm4.freeze 1 rfl
    refine Rn.retG2 Try.func48 rfl (rvT rfl) (rvT rfl) ?_
    obtain rfl := someE hM
    exact ⟨none, 0, rfl, hm7.pick [1] rfl (by decide)⟩
  · replace hM := iteF h3 hM
    refine Rn.skip (Rn.seq (Rn.reg (Rn.v rfl rfl rfl rfl (V.mv rfl) (Rn.v rfl rfl rfl rfl (V.lenV Try.underlying22 rfl) ?_))))
    obtain ⟨p8, e8, hM⟩ := bindE hM
    refine Rn.cl ck54 rfl rfl rfl rfl (m_limnographref04_four_sim (Z0 := All) _ (x0.length : Int)  e8) ?_
    rintro _ w8 ⟨rfl, hq8⟩
    refine ⟨_, rfl, ?_⟩
    have hm9 := hm2.call0 hq8
    obtain ⟨z10, e10, hM⟩ := bindE hM
    refine Rn.v rfl rfl rfl rfl (V.catZ rfl rfl e10) (Rn.v rfl rfl rfl rfl (V.as rfl) (Rn.regEnd (Rn.seq ?_)))
    refine Rn.drawH rfl hm9 ?_
    intro w11 hm11
    refine RH.take 0 (by kernel_rfl) rfl rfl rfl rfl (fun w' hDr => V.mv rfl) ?_
    refine RH.take 1 (by kernel_rfl) rfl rfl rfl rfl (fun w' hDr => V.mv rfl) ?_
    refine RH.take 2 (by kernel_rfl) rfl rfl rfl rfl (fun w' hDr => V.mv rfl) ?_
    refine RH.take 3 (by kernel_rfl) rfl rfl rfl rfl (fun w' hDr => V.b2s Try.underlying22 Try.underlying9 Try.underlying5 rfl rfl ((hm11.ext hDr).get 0 rfl).2.2) ?_
    obtain ⟨z12, e12, hM⟩ := bindE hM
    refine RH.take 4 (by kernel_rfl) rfl rfl rfl rfl (fun w' hDr => V.catZ rfl rfl e12) ?_
    refine RH.take 10 (by kernel_rfl) rfl rfl rfl rfl (fun w' hDr => V.mv rfl) ?_
    refine RH.take 11 (by kernel_rfl) rfl rfl rfl rfl (fun w' hDr => V.b2s Try.underlying22 Try.underlying9 Try.underlying5 rfl rfl ((hm11.ext hDr).get 0 rfl).2.2) ?_
    obtain ⟨z13, e13, hM⟩ := bindE hM
    refine RH.s2bH 5 (by kernel_rfl) hm11 e13 rfl rfl rfl Try.underlying9 Try.underlying22 Try.underlying5 rfl ?_
    intro A13 c13 w13 hm13 e13
    refine ⟨((Ext.refl _).trans e13), ?_⟩
    obtain ⟨p15, e15, hM⟩ := bindE hM
    refine RH.cl ck55 6 (by kernel_rfl) rfl rfl rfl rfl (m_limnographref03_Of_sim (Z0 := All) _ A13 c13 z13 (slR_all (hm13.get 1 rfl)) e15) ?_
    rintro _ w15 ⟨rfl, hq15⟩
    refine ⟨_, rfl, (((Ext.refl _).trans e13).trans hq15.fr), ?_⟩
    have hm16 := hm13.call0 hq15
    refine RH.here fun hS7 => RH.one 7 (by kernel_rfl) rfl rfl rfl rfl (V.cv32i (a := p15) Try.underlying89 Try.underlying3 rfl) hS7 ?_
    obtain ⟨p17, e17, hM⟩ := bindE hM
    refine RH.cl ck54 8 (by kernel_rfl) rfl rfl rfl rfl (m_limnographref04_four_sim (Z0 := All) _ (p15.toNat : Int)  e17) ?_
    rintro _ w17 ⟨rfl, hq17⟩
    refine ⟨_, rfl, ((((Ext.refl _).trans e13).trans hq15.fr).trans hq17.fr), ?_⟩
    have hm18 := hm16.call0 hq17
    obtain ⟨z19, e19, hM⟩ := bindE hM
    refine RH.here fun hS9 => RH.one 9 (by kernel_rfl) rfl rfl rfl rfl (V.catZ rfl rfl e19) hS9 ?_
    obtain ⟨z20, e20, hM⟩ := bindE hM
    refine RH.here fun hS12 => RH.one 12 (by kernel_rfl) rfl rfl rfl rfl (V.catZ rfl rfl e20) hS12 ?_
    obtain ⟨z21, e21, hM⟩ := bindE hM
    refine RH.s2bH 13 (by kernel_rfl) hm18 e21 rfl rfl rfl Try.underlying9 Try.underlying22 Try.underlying5 rfl ?_
    intro A21 c21 w21 hm21 e21
    refine ⟨(((((Ext.refl _).trans e13).trans hq15.fr).trans hq17.fr).trans e21), ?_⟩
    refine RH.here fun hS14 => RH.one 14 (by kernel_rfl) rfl rfl rfl rfl (V.as rfl) hS14 ?_
    refine RH.here fun hS15 => RH.one 15 (by kernel_rfl) rfl rfl rfl rfl (V.as rfl) hS15 ?_
    refine RH.doneP (by kernel_rfl) ?_
    refine Rn.retG2 Try.func48 rfl (rvT rfl) (rvT rfl) ?_
    obtain rfl := someE hM
    exact ⟨A21, c21, rfl, hm21.pick [2] rfl (by decide)⟩

set_option maxRecDepth 20000 in
theorem m_limnographref04_First_sim {Z0 : Nat → Prop} (w : World) (A0 : Option Addr) (c0 : Nat) (x0 : (List UInt8)) (x1 : Int) {r : T_limnographref04_Got} (f0 : (slR A0 c0 byteR x0).H Z0 w) (hM : m_limnographref04_First x0 x1 = some r) :
    Calls Try.prog 39 #[.slice A0 (x0).length c0, .int .i64 (x1)] w fun x w' => ∃ A_0_0 c_0_0, x = .returned (.agg [.slice A_0_0 (r.B).length c_0_0, .int .i64 (r.N), .int .i64 (r.E)].toArray) ∧ Hp Z0 No w w' [slR A_0_0 c_0_0 byteR r.B] := by
  have hm0 := Hp.nil Z0 No w
  have hc0 := Calm.nil
  have hm2 := hm0.know (slR A0 c0 byteR x0) (fun _ h => h) (hm0.in0 hc0 f0)
  replace hc0 := hc0.snoc (r := slR A0 c0 byteR x0) (fun _ h => h)
  refine Rn.enter Try.func39 rfl rfl (Nat.le_of_ble_eq_true rfl) ?_
  refine Rn.seq (Rn.reg (Rn.alloc rfl rfl rfl Try.zeroValue85 rfl ?_))
  intro b3 w3 hb3 m3 e3
  have hm5 : Hp Z0 No w w3 [slR A0 c0 byteR x0, boxR b3 85 [.slice none 0 0, .int .i64 (0), .int .i64 (0)]] := hm2.addBox hb3 e3 m3
  refine Rn.regEnd (Rn.seq (Rn.reg (Rn.v rfl rfl rfl rfl (V.mv rfl) (Rn.v rfl rfl rfl rfl (V.lenV Try.underlying22 rfl) (Rn.v rfl rfl rfl rfl (V.mv rfl) (Rn.v rfl rfl rfl rfl (V.subW rfl rfl) (Rn.v rfl rfl rfl rfl (V.as rfl) (Rn.regEnd (Rn.seq (Rn.seq (Rn.reg (Rn.v rfl rfl rfl rfl (V.mv rfl) (Rn.v rfl rfl rfl rfl (V.lss rfl rfl) (Rn.regEnd ?_))))))))))))))
  refine Rn.condD rfl (fun h6 => ?_) (fun h6 => ?_)
  · replace hM := iteT h6 hM
    refine Rn.seq (Rn.reg (Rn.v rfl rfl rfl rfl (V.bldS st85 rfl rfl) (Rn.st rfl rfl Try.sizeOf85 rfl rfl rfl rfl (by first | exact ones rfl | (simp [Value.oneCell']; done)) (hm5.get 1 rfl) (by first | exact Nat.le_of_ble_eq_true rfl | (simp; done)) ?_)))
    intro w7 m7 x7
    have hm8 : Hp Z0 No w w7 [slR A0 c0 byteR x0, boxR b3 85 [.slice none 0 0, .int .i64 (0), .int .i64 (2)]] := hm5.st 1 rfl x7 m7
    refine Rn.regEnd ?_
    have hm9 := hm8.addNil 5 byteR
    have hm12 := hm9.freeze 2 rfl
    refine Rn.retG1 Try.func39 rfl (rvC rfl Try.isAgg85 Try.sizeOf85 (hm8.get 1 rfl) rfl) ?_
    obtain rfl := someE hM
    exact ⟨none, 0, rfl, hm12.pick [2] rfl (by decide)⟩
  · replace hM := iteF h6 hM
    refine Rn.skip (Rn.seq (Rn.seq (Rn.reg (Rn.v rfl rfl rfl rfl (V.mv rfl) (Rn.v rfl rfl rfl rfl (V.mv rfl) ?_)))))
    obtain ⟨z13, e13, hM⟩ := bindE hM
    refine Rn.ixH hm5 0 rfl e13 rfl rfl rfl Try.underlying22 Try.sizeOf5 rfl rfl rfl rfl ?_
    rintro b13 o13 vs13 ⟨rfl, _⟩ hm13
    refine Rn.v rfl rfl rfl rfl (V.ldR0 Try.isAgg5 rfl (hm13.get 2 rfl).2 rfl) (Rn.v rfl rfl rfl rfl (V.neq rfl rfl) (Rn.regEnd ?_))
    refine Rn.condD rfl (fun h15 => ?_) (fun h15 => ?_)
    · replace hM := iteT h15 hM
      refine Rn.seq (Rn.reg (Rn.v rfl rfl rfl rfl (V.bldS st85 rfl rfl) (Rn.st rfl rfl Try.sizeOf85 rfl rfl rfl rfl (by first | exact ones rfl | (simp [Value.oneCell']; done)) (hm13.get 1 rfl) (by first | exact Nat.le_of_ble_eq_true rfl | (simp; done)) ?_)))
      intro w16 m16 x16
      have hm17 : Hp Z0 No w w16 [slR A0 c0 byteR x0, boxR b3 85 [.slice none 0 0, .int .i64 (0), .int .i64 (3)], rdR b13 o13 [.int .u8 (((z13).toNat : Nat) : Int)]] := hm13.st 1 rfl x16 m16
      refine Rn.regEnd ?_
      have hm18 := hm17.addNil 5 byteR
      have hm21 := hm18.freeze 3 rfl
      refine Rn.retG1 Try.func39 rfl (rvC rfl Try.isAgg85 Try.sizeOf85 (hm17.get 1 rfl) rfl) ?_
      obtain rfl := someE hM
      exact ⟨none, 0, rfl, hm21.pick [3] rfl (by decide)⟩
    · replace hM := iteF h15 hM
      refine Rn.skip (Rn.seq (Rn.seq (Rn.reg (Rn.v rfl rfl rfl rfl (V.mv rfl) (Rn.v rfl rfl rfl rfl (V.lss rfl rfl) (Rn.regEnd ?_))))))
      refine Rn.condD rfl (fun h22 => ?_) (fun h22 => ?_)
      · replace hM := iteT h22 hM
        refine Rn.seq (Rn.reg (Rn.v rfl rfl rfl rfl (V.bldS st85 rfl rfl) (Rn.st rfl rfl Try.sizeOf85 rfl rfl rfl rfl (by first | exact ones rfl | (simp [Value.oneCell']; done)) (hm13.get 1 rfl) (by first | exact Nat.le_of_ble_eq_true rfl | (simp; done)) ?_)))
        intro w23 m23 x23
        have hm24 : Hp Z0 No w w23 [slR A0 c0 byteR x0, boxR b3 85 [.slice none 0 0, .int .i64 (0), .int .i64 (2)], rdR b13 o13 [.int .u8 (((z13).toNat : Nat) : Int)]] := hm13.st 1 rfl x23 m23
        refine Rn.regEnd ?_
        have hm25 := hm24.addNil 5 byteR
        have hm28 := hm25.freeze 3 rfl
        refine Rn.retG1 Try.func39 rfl (rvC rfl Try.isAgg85 Try.sizeOf85 (hm24.get 1 rfl) rfl) ?_
        obtain rfl := someE hM
        exact ⟨none, 0, rfl, hm28.pick [3] rfl (by decide)⟩
      · replace hM := iteF h22 hM
        refine Rn.skip (Rn.seq (Rn.reg (Rn.v rfl rfl rfl rfl (V.as rfl) (Rn.regEnd (Rn.seq (Rn.seq (Rn.reg (Rn.v rfl rfl rfl rfl (V.as rfl) (Rn.regEnd ?_)))))))))
        obtain ⟨j1, hj1, hM⟩ := jnE hM
        refine Rn.joinG (r := r) (G := Int) (fun g => [(0, .slice A0 (x0).length c0), (1, .int .i64 (x1)), (4, .pointer (some ⟨b3, 0, none⟩)), (5, .int .i64 (W64 ((x0.length : Int) - x1))), (6, .int .i64 (g))]) (fun g w' => Hp Z0 No w w' [slR A0 c0 byteR x0, boxR b3 85 [.slice none 0 0, .int .i64 (0), .int .i64 (0)], rdR b13 o13 [.int .u8 (((z13).toNat : Nat) : Int)]]) (fun g => j1 g) ?_ ?_
        · subst hj1
          clear hM
          rintro y29 w30 hm30 hM
          replace hm30 : Hp Z0 No w w30 [slR A0 c0 byteR x0, boxR b3 85 [.slice none 0 0, .int .i64 (0), .int .i64 (0)], rdR b13 o13 [.int .u8 (((z13).toNat : Nat) : Int)]] := hm30
          show Rn _ _ _ _ _ [(0, .slice A0 (x0).length c0), (1, .int .i64 (x1)), (4, .pointer (some ⟨b3, 0, none⟩)), (5, .int .i64 (W64 ((x0.length : Int) - x1))), (6, .int .i64 (y29))] _
          try dsimp only at hM
          refine Rn.seq (Rn.seq (Rn.reg (Rn.v rfl rfl rfl rfl (V.mv rfl) (Rn.v rfl rfl rfl rfl (V.gtr rfl rfl) (Rn.regEnd ?_)))))
          refine Rn.condD rfl (fun h31 => ?_) (fun h31 => ?_)
          · replace hM := iteT h31 hM
            refine Rn.seq (Rn.reg (Rn.v rfl rfl rfl rfl (V.bldS st85 rfl rfl) (Rn.st rfl rfl Try.sizeOf85 rfl rfl rfl rfl (by first | exact ones rfl | (simp [Value.oneCell']; done)) (hm30.get 1 rfl) (by first | exact Nat.le_of_ble_eq_true rfl | (simp; done)) ?_)))
            intro w32 m32 x32
            have hm33 : Hp Z0 No w w32 [slR A0 c0 byteR x0, boxR b3 85 [.slice none 0 0, .int .i64 (0), .int .i64 (4)], rdR b13 o13 [.int .u8 (((z13).toNat : Nat) : Int)]] := hm30.st 1 rfl x32 m32
            refine Rn.regEnd ?_
            have hm34 := hm33.addNil 5 byteR
            have hm37 := hm34.freeze 3 rfl
            refine Rn.retG1 Try.func39 rfl (rvC rfl Try.isAgg85 Try.sizeOf85 (hm33.get 1 rfl) rfl) ?_
            obtain rfl := someE hM
            exact ⟨none, 0, rfl, hm37.pick [3] rfl (by decide)⟩
          · replace hM := iteF h31 hM
            refine Rn.skip (Rn.seq (Rn.seq (Rn.reg (Rn.v rfl rfl rfl rfl (V.mv rfl) (Rn.v rfl rfl rfl rfl (V.mv rfl) (Rn.v rfl rfl rfl rfl (V.addW rfl rfl) (Rn.v rfl rfl rfl rfl (V.lss rfl rfl) (Rn.regEnd ?_))))))))
            refine Rn.condD rfl (fun h38 => ?_) (fun h38 => ?_)
            · replace hM := iteT h38 hM
              refine Rn.seq (Rn.reg (Rn.v rfl rfl rfl rfl (V.bldS st85 rfl rfl) (Rn.st rfl rfl Try.sizeOf85 rfl rfl rfl rfl (by first | exact ones rfl | (simp [Value.oneCell']; done)) (hm30.get 1 rfl) (by first | exact Nat.le_of_ble_eq_true rfl | (simp; done)) ?_)))
              intro w39 m39 x39
              have hm40 : Hp Z0 No w w39 [slR A0 c0 byteR x0, boxR b3 85 [.slice none 0 0, .int .i64 (0), .int .i64 (2)], rdR b13 o13 [.int .u8 (((z13).toNat : Nat) : Int)]] := hm30.st 1 rfl x39 m39
              refine Rn.regEnd ?_
              have hm41 := hm40.addNil 5 byteR
              have hm44 := hm41.freeze 3 rfl
              refine Rn.retG1 Try.func39 rfl (rvC rfl Try.isAgg85 Try.sizeOf85 (hm40.get 1 rfl) rfl) ?_
              obtain rfl := someE hM
              exact ⟨none, 0, rfl, hm44.pick [3] rfl (by decide)⟩
            · replace hM := iteF h38 hM
              refine Rn.skip (Rn.seq (Rn.reg (Rn.v rfl rfl rfl rfl (V.mv rfl) (Rn.v rfl rfl rfl rfl (V.mv rfl) (Rn.v rfl rfl rfl rfl (V.addW rfl rfl) (Rn.v rfl rfl rfl rfl (V.mv rfl) (Rn.v rfl rfl rfl rfl (V.addW rfl rfl) (Rn.v rfl rfl rfl rfl (V.mv rfl) (Rn.v rfl rfl rfl rfl (V.addW rfl rfl) ?_)))))))))
              obtain ⟨z45, e45, hM⟩ := bindE hM
              refine Rn.cutH hm30 0 rfl e45 rfl rfl rfl Try.underlying22 Try.sizeOf5 rfl rfl rfl rfl rfl ?_
              intro A45 c45 hm45
              refine Rn.v rfl rfl rfl rfl (V.as rfl) (Rn.regEnd (Rn.seq (Rn.reg (Rn.v rfl rfl rfl rfl (V.mv rfl) ?_))))
              obtain ⟨p47, e47, hM⟩ := bindE hM
              refine Rn.cl ck48 rfl rfl rfl rfl (m_limnographref04_Wrap_sim (Z0 := Zo Z0 No w [slR A0 c0 byteR x0, boxR b3 85 [.slice none 0 0, .int .i64 (0), .int .i64 (0)], rdR b13 o13 [.int .u8 (((z13).toNat : Nat) : Int)], slR A45 c45 byteR z45]) _ A45 c45 z45 (hm45.get 3 rfl) e47) ?_
              rintro _ w47 ⟨A47_0_0, c47_0_0, rfl, hq47⟩
              refine ⟨_, rfl, ?_⟩
              have hm49 : Hp Z0 No w w47 [slR A0 c0 byteR x0, boxR b3 85 [.slice none 0 0, .int .i64 (0), .int .i64 (0)], rdR b13 o13 [.int .u8 (((z13).toNat : Nat) : Int)], slR A45 c45 byteR z45, slR A47_0_0 c47_0_0 byteR p47.1] := hm45.callZ hq47
              refine Rn.v rfl rfl rfl rfl (V.mv rfl) (Rn.v rfl rfl rfl rfl (V.ext rfl rfl) (Rn.v rfl rfl rfl rfl (V.ext rfl rfl) (Rn.v rfl rfl rfl rfl (V.as rfl) (Rn.v rfl rfl rfl rfl (V.as rfl) (Rn.regEnd (Rn.seq (Rn.seq ?_)))))))
              refine Rn.drawP rfl hm49 ?_
              intro w50 hm50
              refine RH.takeP 0 (by kernel_rfl) rfl rfl rfl rfl (V.mv rfl) ?_
              refine RH.takeP 1 (by kernel_rfl) rfl rfl rfl rfl (V.b2s Try.underlying22 Try.underlying9 Try.underlying5 rfl rfl (hm50.get 4 rfl).2.2) ?_
              refine RH.takeP 2 (by kernel_rfl) rfl rfl rfl rfl (V.mv rfl) ?_
              refine RH.takeP 3 (by kernel_rfl) rfl rfl rfl rfl (V.mv rfl) ?_
              refine RH.takeP 4 (by kernel_rfl) rfl rfl rfl rfl (V.mv rfl) ?_
              refine RH.takeP 5 (by kernel_rfl) rfl rfl rfl rfl (V.addW rfl rfl) ?_
              refine RH.takeP 6 (by kernel_rfl) rfl rfl rfl rfl (V.mv rfl) ?_
              refine RH.takeP 7 (by kernel_rfl) rfl rfl rfl rfl (V.addW rfl rfl) ?_
              obtain ⟨z51, e51, hM⟩ := bindE hM
              refine RH.cutH 8 (by kernel_rfl) hm50 0 rfl e51 rfl rfl rfl Try.underlying22 Try.sizeOf5 rfl rfl rfl rfl rfl ?_
              intro A51 c51 hm51
              refine RH.takeP 9 (by kernel_rfl) rfl rfl rfl rfl (V.b2s Try.underlying22 Try.underlying9 Try.underlying5 rfl rfl (hm51.get 5 rfl).2.2) ?_
              refine RH.takeP 10 (by kernel_rfl) rfl rfl rfl rfl (V.neqS rfl rfl) ?_
              refine RH.doneP (by kernel_rfl) ?_
              refine Rn.condD rfl (fun h53 => ?_) (fun h53 => ?_)
              · replace hM := iteT h53 hM
                refine Rn.seq (Rn.reg (Rn.v rfl rfl rfl rfl (V.bldS st85 rfl rfl) (Rn.st rfl rfl Try.sizeOf85 rfl rfl rfl rfl (by first | exact ones rfl | (simp [Value.oneCell']; done)) (hm51.get 1 rfl) (by first | exact Nat.le_of_ble_eq_true rfl | (simp; done)) ?_)))
                intro w54 m54 x54
                have hm55 : Hp Z0 No w w54 [slR A0 c0 byteR x0, boxR b3 85 [.slice none 0 0, .int .i64 (0), .int .i64 (5)], rdR b13 o13 [.int .u8 (((z13).toNat : Nat) : Int)], slR A45 c45 byteR z45, slR A47_0_0 c47_0_0 byteR p47.1, slR A51 c51 byteR z51] := hm51.st 1 rfl x54 m54
                refine Rn.regEnd ?_
                have hm56 := hm55.addNil 5 byteR
                have hm59 := hm56.freeze 6 rfl
                refine Rn.retG1 Try.func39 rfl (rvC rfl Try.isAgg85 Try.sizeOf85 (hm55.get 1 rfl) rfl) ?_
                obtain rfl := someE hM
                exact ⟨none, 0, rfl, hm59.pick [6] rfl (by decide)⟩
              · replace hM := iteF h53 hM
                refine Rn.skip (Rn.seq (Rn.reg (Rn.v rfl rfl rfl rfl (V.mv rfl) (Rn.v rfl rfl rfl rfl (V.mv rfl) (Rn.v rfl rfl rfl rfl (V.addW rfl rfl) (Rn.v rfl rfl rfl rfl (V.bldS st85 rfl rfl) (Rn.st rfl rfl Try.sizeOf85 rfl rfl rfl rfl (by first | exact ones rfl | (simp [Value.oneCell']; done)) (hm51.get 1 rfl) (by first | exact Nat.le_of_ble_eq_true rfl | (simp; done)) ?_)))))))
                intro w60 m60 x60
                have hm61 : Hp Z0 No w w60 [slR A0 c0 byteR x0, boxR b3 85 [.slice A45 (z45).length c45, .int .i64 (W64 (9 + y29)), .int .i64 (0)], rdR b13 o13 [.int .u8 (((z13).toNat : Nat) : Int)], slR A45 c45 byteR z45, slR A47_0_0 c47_0_0 byteR p47.1, slR A51 c51 byteR z51] := hm51.st 1 rfl x60 m60
                refine Rn.regEnd ?_
                refine Rn.retG1 Try.func39 rfl (rvC rfl Try.isAgg85 Try.sizeOf85 (hm61.get 1 rfl) rfl) ?_
                obtain rfl := someE hM
                exact ⟨A45, c45, rfl, hm61.pick [3] rfl (by decide)⟩
        intro hk1
        clear hj1
        refine Rn.block ?_
        refine Rn.loopF (G := Int × Int) (fun g => [(0, .slice A0 (x0).length c0), (1, .int .i64 (x1)), (4, .pointer (some ⟨b3, 0, none⟩)), (5, .int .i64 (W64 ((x0.length : Int) - x1))), (6, .int .i64 ((g.1))), (7, .int .i64 ((g.2)))]) (fun g w' => Hp Z0 No w w' [slR A0 c0 byteR x0, boxR b3 85 [.slice none 0 0, .int .i64 (0), .int .i64 (0)], rdR b13 o13 [.int .u8 (((z13).toNat : Nat) : Int)]]) (fun n g => m_limnographref04_First_L1 x0 x1 j1 n g.1 g.2) fuel (0, 4) (Sub.cons rfl (Sub.cons rfl (Sub.cons rfl (Sub.cons rfl (Sub.cons rfl (Sub.cons rfl (Sub.nil _))))))) (hm13.pick [0, 1, 2] rfl (by decide)) hM (fun _ => rfl) ?_
        clear hM
        rintro m64 ⟨y62, y63⟩ w64 hm64 hM hn64
        replace hm64 : Hp Z0 No w w64 [slR A0 c0 byteR x0, boxR b3 85 [.slice none 0 0, .int .i64 (0), .int .i64 (0)], rdR b13 o13 [.int .u8 (((z13).toNat : Nat) : Int)]] := hm64
        show Rn _ _ _ _ _ [(0, .slice A0 (x0).length c0), (1, .int .i64 (x1)), (4, .pointer (some ⟨b3, 0, none⟩)), (5, .int .i64 (W64 ((x0.length : Int) - x1))), (6, .int .i64 (y62)), (7, .int .i64 (y63))] _
        replace hM : m_limnographref04_First_L1 x0 x1 j1 (m64 + 1) y62 y63 = some r := hM
        rw [m_limnographref04_First_L1] at hM
        refine Rn.seq (Rn.seq (Rn.reg (Rn.v rfl rfl rfl rfl (V.mv rfl) (Rn.v rfl rfl rfl rfl (V.gtr rfl rfl) (Rn.regEnd ?_)))))
        refine Rn.condD rfl (fun h65 => ?_) (fun h65 => ?_)
        · replace hM := iteT h65 hM
          refine Rn.skip (Rn.seq (Rn.block (Rn.reg (Rn.v rfl rfl rfl rfl (V.mv rfl) (Rn.v rfl rfl rfl rfl (V.mulW rfl rfl) (Rn.v rfl rfl rfl rfl (V.mv rfl) (Rn.v rfl rfl rfl rfl (V.mv rfl) (Rn.v rfl rfl rfl rfl (V.mv rfl) (Rn.v rfl rfl rfl rfl (V.addW rfl rfl) ?_)))))))))
          obtain ⟨z66, e66, hM⟩ := bindE hM
          refine Rn.ixH hm64 0 rfl e66 rfl rfl rfl Try.underlying22 Try.sizeOf5 rfl rfl rfl rfl ?_
          rintro b66 o66 vs66 ⟨rfl, _⟩ hm66
          refine Rn.v rfl rfl rfl rfl (V.ldR0 Try.isAgg5 rfl (hm66.get 3 rfl).2 rfl) (Rn.v rfl rfl rfl rfl (V.cv8i (a := z66) Try.underlying5 Try.underlying3 rfl) (Rn.v rfl rfl rfl rfl (V.addW rfl rfl) (Rn.v rfl rfl rfl rfl (V.as rfl) (Rn.regEnd (Rn.inBlock (Rn.reg (Rn.v rfl rfl rfl rfl (V.mv rfl) (Rn.v rfl rfl rfl rfl (V.subW rfl rfl) (Rn.v rfl rfl rfl rfl (V.as rfl) (Rn.regEnd ?_))))))))))
          exact hn64 ((W64 ((W64 (256 * y62)) + (z66.toNat : Int))), (W64 (y63 - 1))) _ _ (Sub.cons rfl (Sub.cons rfl (Sub.cons rfl (Sub.cons rfl (Sub.cons rfl (Sub.cons rfl (Sub.nil _))))))) (hm66.pick [0, 1, 2] rfl (by decide)) hM
        · replace hM := iteF h65 hM
          refine Rn.exit rfl ?_
          exact hk1 y62 _ _ (Sub.cons rfl (Sub.cons rfl (Sub.cons rfl (Sub.cons rfl (Sub.cons rfl (Sub.nil _)))))) (hm64.pick [0, 1, 2] rfl (by decide)) hM

set_option maxRecDepth 20000 in
theorem m_limnographref04_Scan_sim {Z0 : Nat → Prop} (w : World) (A0 : Option Addr) (c0 : Nat) (x0 : (List UInt8)) {r : T_limnographref04_Row} (f0 : (slR A0 c0 byteR x0).H Z0 w) (hM : m_limnographref04_Scan x0 = some r) :
    Calls Try.prog 26 #[.slice A0 (x0).length c0] w fun x w' => ∃ A_0_0 c_0_0, x = .returned (.agg [.slice A_0_0 (r.L).length c_0_0, .int .i64 (r.Used), .int .i64 (r.E)].toArray) ∧ Hp Z0 No w w' [slR A_0_0 c_0_0 (Rep.sl byteR) r.L] := by
  have hm0 := Hp.nil Z0 No w
  have hc0 := Calm.nil
  have hm2 := hm0.know (slR A0 c0 byteR x0) (fun _ h => h) (hm0.in0 hc0 f0)
  replace hc0 := hc0.snoc (r := slR A0 c0 byteR x0) (fun _ h => h)
  refine Rn.enter Try.func26 rfl rfl (Nat.le_of_ble_eq_true rfl) ?_
  refine Rn.seq (Rn.reg (Rn.alloc rfl rfl rfl Try.zeroValue57 rfl ?_))
  intro b3 w3 hb3 m3 e3
  have hm5 : Hp Z0 No w w3 [slR A0 c0 byteR x0, boxR b3 57 [.slice none 0 0, .int .i64 (0), .int .i64 (0)]] := hm2.addBox hb3 e3 m3
  refine Rn.regEnd (Rn.seq (Rn.reg (Rn.v rfl rfl rfl rfl (V.bldS st57 rfl rfl) (Rn.als rfl rfl rfl Try.zeroValue57 rfl Try.sizeOf57 rfl rfl rfl rfl (by first | exact ones rfl | (simp [Value.oneCell']; done)) ?_))))
  intro b6 w6 hb6 m6 e6
  have hm8 : Hp Z0 No w w6 [slR A0 c0 byteR x0, boxR b3 57 [.slice none 0 0, .int .i64 (0), .int .i64 (0)], boxR b6 57 [.slice none 0 0, .int .i64 (0), .int .i64 (0)]] := hm5.addBox hb6 e6 m6
  refine Rn.regEnd (Rn.seq ?_)
  obtain ⟨j1, hj1, hM⟩ := jnE hM
  refine Rn.joinG (r := r) (G := T_limnographref04_Row × Option Addr × Nat) (fun g => [(2, .pointer (some ⟨b3, 0, none⟩)), (3, .pointer (some ⟨b6, 0, none⟩))]) (fun g w' => Hp Z0 No w w' [slR A0 c0 byteR x0, boxR b3 57 [.slice none 0 0, .int .i64 (0), .int .i64 (0)], ownR 22 (g.2.1) (g.2.2) (Rep.sl byteR) (g.1).L, boxR b6 57 [.slice (g.2.1) ((g.1).L).length (g.2.2), .int .i64 ((g.1).Used), .int .i64 ((g.1).E)]]) (fun g => j1 g.1) ?_ ?_
  · subst hj1
    clear hM
    rintro ⟨y9, A10, c10⟩ w12 hm12 hM
    replace hm12 : Hp Z0 No w w12 [slR A0 c0 byteR x0, boxR b3 57 [.slice none 0 0, .int .i64 (0), .int .i64 (0)], ownR 22 A10 c10 (Rep.sl byteR) y9.L, boxR b6 57 [.slice A10 (y9.L).length c10, .int .i64 (y9.Used), .int .i64 (y9.E)]] := hm12
    show Rn _ _ _ _ _ [(2, .pointer (some ⟨b3, 0, none⟩)), (3, .pointer (some ⟨b6, 0, none⟩))] _
    try dsimp only at hM
    refine Rn.seq (Rn.reg (Rn.v rfl rfl rfl rfl (V.ldBA _ Try.isAgg57 Try.sizeOf57 rfl (hm12.get 3 rfl) rfl rfl) (Rn.st rfl rfl Try.sizeOf57 rfl rfl rfl rfl (by first | exact ones rfl | (simp [Value.oneCell']; done)) (hm12.get 1 rfl) (by first | exact Nat.le_of_ble_eq_true rfl | (simp; done)) ?_)))
    intro w13 m13 x13
    have hm14 : Hp Z0 No w w13 [slR A0 c0 byteR x0, boxR b3 57 [.slice A10 (y9.L).length c10, .int .i64 (y9.Used), .int .i64 (y9.E)], ownR 22 A10 c10 (Rep.sl byteR) y9.L, boxR b6 57 [.slice A10 (y9.L).length c10, .int .i64 (y9.Used), .int .i64 (y9.E)]] := hm12.st 1 rfl x13 m13
    refine Rn.regEnd ?_
    have hm16 := hm14.freeze 2 rfl
    refine Rn.retG1 Try.func26 rfl (rvC rfl Try.isAgg57 Try.sizeOf57 (hm14.get 1 rfl) rfl) ?_
    obtain rfl := someE hM
    exact ⟨A10, c10, rfl, hm16.pick [2] rfl (by decide)⟩
  intro hk1
  clear hj1
  refine Rn.block ?_
  have hm20 := hm8.addNil 22 (Rep.sl byteR)
  refine Rn.loopF (G := T_limnographref04_Row × Option Addr × Nat) (fun g => [(0, .slice A0 (x0).length c0), (2, .pointer (some ⟨b3, 0, none⟩)), (3, .pointer (some ⟨b6, 0, none⟩))]) (fun g w' => Hp Z0 No w w' [slR A0 c0 byteR x0, boxR b3 57 [.slice none 0 0, .int .i64 (0), .int .i64 (0)], ownR 22 (g.2.1) (g.2.2) (Rep.sl byteR) (g.1).L, boxR b6 57 [.slice (g.2.1) ((g.1).L).length (g.2.2), .int .i64 ((g.1).Used), .int .i64 ((g.1).E)]]) (fun n g => m_limnographref04_Scan_L1 x0 j1 n g.1) fuel (({ L := ([] : List (List UInt8)), Used := 0, E := 0 } : T_limnographref04_Row), none, 0) (Sub.cons rfl (Sub.cons rfl (Sub.cons rfl (Sub.nil _)))) (hm20.pick [0, 1, 3, 2] rfl (by decide)) hM (fun _ => rfl) ?_
  clear hM
  rintro m22 ⟨y17, A18, c18⟩ w22 hm22 hM hn22
  replace hm22 : Hp Z0 No w w22 [slR A0 c0 byteR x0, boxR b3 57 [.slice none 0 0, .int .i64 (0), .int .i64 (0)], ownR 22 A18 c18 (Rep.sl byteR) y17.L, boxR b6 57 [.slice A18 (y17.L).length c18, .int .i64 (y17.Used), .int .i64 (y17.E)]] := hm22
  show Rn _ _ _ _ _ [(0, .slice A0 (x0).length c0), (2, .pointer (some ⟨b3, 0, none⟩)), (3, .pointer (some ⟨b6, 0, none⟩))] _
  replace hM : m_limnographref04_Scan_L1 x0 j1 (m22 + 1) y17 = some r := hM
  rw [m_limnographref04_Scan_L1] at hM
  refine Rn.seq (Rn.seq (Rn.reg (Rn.v rfl rfl rfl rfl (V.fa Try.underlying57 rfl Try.sizeOf3 rfl rfl) (Rn.v rfl rfl rfl rfl (V.ldB Try.isAgg3 rfl (hm22.get 3 rfl) rfl) (Rn.v rfl rfl rfl rfl (V.mv rfl) (Rn.v rfl rfl rfl rfl (V.lenV Try.underlying22 rfl) (Rn.v rfl rfl rfl rfl (V.lss rfl rfl) (Rn.regEnd ?_))))))))
  refine Rn.condD rfl (fun h23 => ?_) (fun h23 => ?_)
  · replace hM := iteT h23 hM
    refine Rn.skip (Rn.block (Rn.seq (Rn.reg (Rn.v rfl rfl rfl rfl (V.mv rfl) (Rn.v rfl rfl rfl rfl (V.fa Try.underlying57 rfl Try.sizeOf3 rfl rfl) (Rn.v rfl rfl rfl rfl (V.ldB Try.isAgg3 rfl (hm22.get 3 rfl) rfl) ?_))))))
    obtain ⟨p24, e24, hM⟩ := bindE hM
    refine Rn.cl ck39 rfl rfl rfl rfl (m_limnographref04_First_sim (Z0 := Zo Z0 No w [slR A0 c0 byteR x0, boxR b3 57 [.slice none 0 0, .int .i64 (0), .int .i64 (0)], ownR 22 A18 c18 (Rep.sl byteR) y17.L, boxR b6 57 [.slice A18 (y17.L).length c18, .int .i64 (y17.Used), .int .i64 (y17.E)]]) _ A0 c0 x0 y17.Used (hm22.get 0 rfl) e24) ?_
    rintro _ w24 ⟨A24_0_0, c24_0_0, rfl, hq24⟩
    refine ⟨_, rfl, ?_⟩
    have hm26 : Hp Z0 No w w24 [slR A0 c0 byteR x0, boxR b3 57 [.slice none 0 0, .int .i64 (0), .int .i64 (0)], ownR 22 A18 c18 (Rep.sl byteR) y17.L, boxR b6 57 [.slice A18 (y17.L).length c18, .int .i64 (y17.Used), .int .i64 (y17.E)], slR A24_0_0 c24_0_0 byteR p24.B] := hm22.callZ hq24
    refine Rn.als rfl rfl rfl Try.zeroValue85 rfl Try.sizeOf85 rfl rfl rfl rfl (by first | exact ones rfl | (simp [Value.oneCell']; done)) ?_
    intro b27 w27 hb27 m27 e27
    have hm29 : Hp Z0 No w w27 [slR A0 c0 byteR x0, boxR b3 57 [.slice none 0 0, .int .i64 (0), .int .i64 (0)], ownR 22 A18 c18 (Rep.sl byteR) y17.L, boxR b6 57 [.slice A18 (y17.L).length c18, .int .i64 (y17.Used), .int .i64 (y17.E)], slR A24_0_0 c24_0_0 byteR p24.B, boxR b27 85 [.slice A24_0_0 (p24.B).length c24_0_0, .int .i64 (p24.N), .int .i64 (p24.E)]] := hm26.addBox hb27 e27 m27
    refine Rn.regEnd (Rn.seq (Rn.seq (Rn.reg (Rn.v rfl rfl rfl rfl (V.fa Try.underlying85 rfl Try.sizeOf25 rfl rfl) (Rn.v rfl rfl rfl rfl (V.ldB Try.isAgg25 rfl (hm29.get 5 rfl) rfl) (Rn.v rfl rfl rfl rfl (V.neq rfl rfl) (Rn.regEnd ?_)))))))
    refine Rn.condD rfl (fun h30 => ?_) (fun h30 => ?_)
    · replace hM := iteT h30 hM
      refine Rn.seq (Rn.reg (Rn.v rfl rfl rfl rfl (V.fa Try.underlying85 rfl Try.sizeOf25 rfl rfl) (Rn.v rfl rfl rfl rfl (V.ldB Try.isAgg25 rfl (hm29.get 5 rfl) rfl) (Rn.v rfl rfl rfl rfl (V.fa Try.underlying57 rfl Try.sizeOf25 rfl rfl) (Rn.st rfl rfl Try.sizeOf25 rfl rfl rfl rfl (by first | exact ones rfl | (simp [Value.oneCell']; done)) (hm29.get 3 rfl) (by first | exact Nat.le_of_ble_eq_true rfl | (simp; done)) ?_)))))
      intro w31 m31 x31
      have hm32 : Hp Z0 No w w31 [slR A0 c0 byteR x0, boxR b3 57 [.slice none 0 0, .int .i64 (0), .int .i64 (0)], ownR 22 A18 c18 (Rep.sl byteR) y17.L, boxR b6 57 [.slice A18 (y17.L).length c18, .int .i64 (y17.Used), .int .i64 (p24.E)], slR A24_0_0 c24_0_0 byteR p24.B, boxR b27 85 [.slice A24_0_0 (p24.B).length c24_0_0, .int .i64 (p24.N), .int .i64 (p24.E)]] := hm29.st 3 rfl x31 m31
      refine Rn.regEnd (Rn.seq (Rn.reg (Rn.v rfl rfl rfl rfl (V.ldBA _ Try.isAgg57 Try.sizeOf57 rfl (hm32.get 3 rfl) rfl rfl) (Rn.st rfl rfl Try.sizeOf57 rfl rfl rfl rfl (by first | exact ones rfl | (simp [Value.oneCell']; done)) (hm32.get 1 rfl) (by first | exact Nat.le_of_ble_eq_true rfl | (simp; done)) ?_))))
      intro w33 m33 x33
      have hm34 : Hp Z0 No w w33 [slR A0 c0 byteR x0, boxR b3 57 [.slice A18 (y17.L).length c18, .int .i64 (y17.Used), .int .i64 (p24.E)], ownR 22 A18 c18 (Rep.sl byteR) y17.L, boxR b6 57 [.slice A18 (y17.L).length c18, .int .i64 (y17.Used), .int .i64 (p24.E)], slR A24_0_0 c24_0_0 byteR p24.B, boxR b27 85 [.slice A24_0_0 (p24.B).length c24_0_0, .int .i64 (p24.N), .int .i64 (p24.E)]] := hm32.st 1 rfl x33 m33
      refine Rn.regEnd ?_
      have hm36 := hm34.freeze 2 rfl
      refine Rn.retG1 Try.func26 rfl (rvC rfl Try.isAgg57 Try.sizeOf57 (hm34.get 1 rfl) rfl) ?_
      obtain rfl := someE hM
      exact ⟨A18, c18, rfl, hm36.pick [2] rfl (by decide)⟩
    · replace hM := iteF h30 hM
      refine Rn.skip (Rn.seq (Rn.reg (Rn.v rfl rfl rfl rfl (V.fa Try.underlying57 rfl Try.sizeOf24 rfl rfl) (Rn.v rfl rfl rfl rfl (V.ldB Try.isAgg24 rfl (hm29.get 3 rfl) rfl) (Rn.v rfl rfl rfl rfl (V.fa Try.underlying85 rfl Try.sizeOf22 rfl rfl) (Rn.v rfl rfl rfl rfl (V.ldB Try.isAgg22 rfl (hm29.get 5 rfl) rfl) ?_))))))
      obtain ⟨z37, e37, hM⟩ := bindE hM
      refine Rn.pushH (z := p24.B) (vs := [.slice A24_0_0 (p24.B).length c24_0_0]) hm29 2 rfl e37 rfl rfl rfl rfl Try.underlying24 el22 rfl rfl rfl rfl (fun _ => rfl) (⟨_, _, rfl, (hm29.get 4 rfl).1, (hm29.get 4 rfl).2.1, (hm29.get 4 rfl).2.2⟩) ?_
      intro A37 c37 w37 u37 hm37
      refine Rn.v rfl rfl rfl rfl (V.fa Try.underlying57 rfl Try.sizeOf24 rfl rfl) (Rn.st rfl rfl Try.sizeOf24 rfl rfl rfl rfl (by first | exact ones rfl | (simp [Value.oneCell']; done)) (hm37.get 3 rfl) (by first | exact Nat.le_of_ble_eq_true rfl | (simp; done)) ?_)
      intro w39 m39 x39
      have hm40 : Hp Z0 No w w39 [slR A0 c0 byteR x0, boxR b3 57 [.slice none 0 0, .int .i64 (0), .int .i64 (0)], ownR 22 A37 c37 (Rep.sl byteR) z37, boxR b6 57 [.slice A37 (z37).length c37, .int .i64 (y17.Used), .int .i64 (y17.E)], slR A24_0_0 c24_0_0 byteR p24.B, boxR b27 85 [.slice A24_0_0 (p24.B).length c24_0_0, .int .i64 (p24.N), .int .i64 (p24.E)]] := hm37.st 3 rfl x39 m39
      refine Rn.regEnd (Rn.reg (Rn.v rfl rfl rfl rfl (V.fa Try.underlying57 rfl Try.sizeOf3 rfl rfl) (Rn.v rfl rfl rfl rfl (V.ldB Try.isAgg3 rfl (hm40.get 3 rfl) rfl) (Rn.v rfl rfl rfl rfl (V.fa Try.underlying85 rfl Try.sizeOf3 rfl rfl) (Rn.v rfl rfl rfl rfl (V.ldB Try.isAgg3 rfl (hm40.get 5 rfl) rfl) (Rn.v rfl rfl rfl rfl (V.addW rfl rfl) (Rn.v rfl rfl rfl rfl (V.fa Try.underlying57 rfl Try.sizeOf3 rfl rfl) (Rn.st rfl rfl Try.sizeOf3 rfl rfl rfl rfl (by first | exact ones rfl | (simp [Value.oneCell']; done)) (hm40.get 3 rfl) (by first | exact Nat.le_of_ble_eq_true rfl | (simp; done)) ?_))))))))
      intro w41 m41 x41
      have hm42 : Hp Z0 No w w41 [slR A0 c0 byteR x0, boxR b3 57 [.slice none 0 0, .int .i64 (0), .int .i64 (0)], ownR 22 A37 c37 (Rep.sl byteR) z37, boxR b6 57 [.slice A37 (z37).length c37, .int .i64 (W64 (y17.Used + p24.N)), .int .i64 (y17.E)], slR A24_0_0 c24_0_0 byteR p24.B, boxR b27 85 [.slice A24_0_0 (p24.B).length c24_0_0, .int .i64 (p24.N), .int .i64 (p24.E)]] := hm40.st 3 rfl x41 m41
      refine Rn.regEnd (Rn.inBlock ?_)
      exact hn22 (({ L := z37, Used := W64 (y17.Used + p24.N), E := y17.E } : T_limnographref04_Row), A37, c37) _ _ (Sub.cons rfl (Sub.cons rfl (Sub.cons rfl (Sub.nil _)))) (hm42.pick [0, 1, 2, 3] rfl (by decide)) hM
  · replace hM := iteF h23 hM
    refine Rn.exit rfl ?_
    exact hk1 (({ L := y17.L, Used := y17.Used, E := y17.E } : T_limnographref04_Row), A18, c18) _ _ (Sub.cons rfl (Sub.cons rfl (Sub.nil _))) (hm22.pick [0, 1, 2, 3] rfl (by decide)) hM

set_option maxRecDepth 20000 in
theorem m_limnographref19_Records_sim {Z0 : Nat → Prop} (w : World) (A0 : Option Addr) (c0 : Nat) (x0 : (List UInt8)) {r : T_limnographref19_Got} (f0 : (slR A0 c0 byteR x0).H Z0 w) (hM : m_limnographref19_Records x0 = some r) :
    Calls Try.prog 8 #[.slice A0 (x0).length c0] w fun x w' => ∃ A_0_0 c_0_0, x = .returned (.agg [.slice A_0_0 (r.L).length c_0_0, .int .i64 (r.Used), .int .i64 (r.E)].toArray) ∧ Hp Z0 No w w' [slR A_0_0 c_0_0 (Rep.sl byteR) r.L] := by
  have hm0 := Hp.nil Z0 No w
  have hc0 := Calm.nil
  have hm2 := hm0.know (slR A0 c0 byteR x0) (fun _ h => h) (hm0.in0 hc0 f0)
  replace hc0 := hc0.snoc (r := slR A0 c0 byteR x0) (fun _ h => h)
  refine Rn.enter Try.func8 rfl rfl (Nat.le_of_ble_eq_true rfl) ?_
  refine Rn.seq (Rn.reg (Rn.alloc rfl rfl rfl Try.zeroValue29 rfl ?_))
  intro b3 w3 hb3 m3 e3
  have hm5 : Hp Z0 No w w3 [slR A0 c0 byteR x0, boxR b3 29 [.slice none 0 0, .int .i64 (0), .int .i64 (0)]] := hm2.addBox hb3 e3 m3
  refine Rn.regEnd (Rn.seq (Rn.reg (Rn.v rfl rfl rfl rfl (V.mv rfl) ?_)))
  obtain ⟨p6, e6, hM⟩ := bindE hM
  refine Rn.cl ck26 rfl rfl rfl rfl (m_limnographref04_Scan_sim (Z0 := Zo Z0 No w [slR A0 c0 byteR x0, boxR b3 29 [.slice none 0 0, .int .i64 (0), .int .i64 (0)]]) _ A0 c0 x0 (hm5.get 0 rfl) e6) ?_
  rintro _ w6 ⟨A6_0_0, c6_0_0, rfl, hq6⟩
  refine ⟨_, rfl, ?_⟩
  have hm8 : Hp Z0 No w w6 [slR A0 c0 byteR x0, boxR b3 29 [.slice none 0 0, .int .i64 (0), .int .i64 (0)], slR A6_0_0 c6_0_0 (Rep.sl byteR) p6.L] := hm5.callZ hq6
  refine Rn.als rfl rfl rfl Try.zeroValue57 rfl Try.sizeOf57 rfl rfl rfl rfl (by first | exact ones rfl | (simp [Value.oneCell']; done)) ?_
  intro b9 w9 hb9 m9 e9
  have hm11 : Hp Z0 No w w9 [slR A0 c0 byteR x0, boxR b3 29 [.slice none 0 0, .int .i64 (0), .int .i64 (0)], slR A6_0_0 c6_0_0 (Rep.sl byteR) p6.L, boxR b9 57 [.slice A6_0_0 (p6.L).length c6_0_0, .int .i64 (p6.Used), .int .i64 (p6.E)]] := hm8.addBox hb9 e9 m9
  refine Rn.regEnd (Rn.seq (Rn.seq (Rn.reg (Rn.v rfl rfl rfl rfl (V.fa Try.underlying57 rfl Try.sizeOf25 rfl rfl) (Rn.v rfl rfl rfl rfl (V.ldB Try.isAgg25 rfl (hm11.get 3 rfl) rfl) (Rn.v rfl rfl rfl rfl (V.neq rfl rfl) (Rn.v rfl rfl rfl rfl (V.mv rfl) ?_)))))))
  refine Rn.cutR [] [(2, .pointer (some ⟨b3, 0, none⟩)), (3, .pointer (some ⟨b9, 0, none⟩)), (13, .bool (decide ((p6.E ≠ 0) ∧ (p6.E ≠ 2))))] (fun hk12 => ?_) ?_
  · refine Rn.partD (t := 9) rfl (fun h13 => ?_) (fun h13 => ?_)
    · refine Rn.v rfl rfl rfl rfl (V.fa Try.underlying57 rfl Try.sizeOf25 rfl rfl) (Rn.v rfl rfl rfl rfl (V.ldB Try.isAgg25 rfl (hm11.get 3 rfl) rfl) (Rn.v rfl rfl rfl rfl (V.neq rfl rfl) (Rn.v rfl rfl rfl rfl (V.pkT rfl rfl) ?_)))
      refine hk12 _ ?_
      exact Sub.cons rfl (Sub.cons rfl (Sub.cons (lkv _ rfl (by first | exact andT h13 | exact andF h13 | exact orT h13 | exact orF h13 | exact nandF h13 | exact nandT h13 | exact norT h13 | exact norF h13 | (simp [h13]; done) | grind)) (Sub.nil _)))
    · refine Rn.no rfl rfl rfl rfl (Rn.no rfl rfl rfl rfl (Rn.no rfl rfl rfl rfl (Rn.v rfl rfl rfl rfl (V.pkF rfl rfl) ?_)))
      refine hk12 _ ?_
      exact Sub.cons rfl (Sub.cons rfl (Sub.cons (lkv _ rfl (by first | exact andT h13 | exact andF h13 | exact orT h13 | exact orF h13 | exact nandF h13 | exact nandT h13 | exact norT h13 | exact norF h13 | (simp [h13]; done) | grind)) (Sub.nil _)))
  refine Rn.regEnd ?_
  refine Rn.condD rfl (fun h14 => ?_) (fun h14 => ?_)
  · replace hM := iteT h14 hM
    refine Rn.seq (Rn.reg (Rn.v rfl rfl rfl rfl (V.bldS st29 rfl rfl) (Rn.st rfl rfl Try.sizeOf29 rfl rfl rfl rfl (by first | exact ones rfl | (simp [Value.oneCell']; done)) (hm11.get 1 rfl) (by first | exact Nat.le_of_ble_eq_true rfl | (simp; done)) ?_)))
    intro w15 m15 x15
    have hm16 : Hp Z0 No w w15 [slR A0 c0 byteR x0, boxR b3 29 [.slice none 0 0, .int .i64 (0), .int .i64 (15)], slR A6_0_0 c6_0_0 (Rep.sl byteR) p6.L, boxR b9 57 [.slice A6_0_0 (p6.L).length c6_0_0, .int .i64 (p6.Used), .int .i64 (p6.E)]] := hm11.st 1 rfl x15 m15
    refine Rn.regEnd ?_
    have hm17 := hm16.addNil 22 (Rep.sl byteR)
    have hm20 := hm17.freeze 4 rfl
    refine Rn.retG1 Try.func8 rfl (rvC rfl Try.isAgg29 Try.sizeOf29 (hm16.get 1 rfl) rfl) ?_
    obtain rfl := someE hM
    exact ⟨none, 0, rfl, hm20.pick [4] rfl (by decide)⟩
  · replace hM := iteF h14 hM
    refine Rn.skip (Rn.seq (Rn.reg (Rn.v rfl rfl rfl rfl (V.fa Try.underlying57 rfl Try.sizeOf24 rfl rfl) (Rn.v rfl rfl rfl rfl (V.ldB Try.isAgg24 rfl (hm11.get 3 rfl) rfl) (Rn.v rfl rfl rfl rfl (V.fa Try.underlying57 rfl Try.sizeOf3 rfl rfl) (Rn.v rfl rfl rfl rfl (V.ldB Try.isAgg3 rfl (hm11.get 3 rfl) rfl) (Rn.v rfl rfl rfl rfl (V.bldS st29 rfl rfl) (Rn.st rfl rfl Try.sizeOf29 rfl rfl rfl rfl (by first | exact ones rfl | (simp [Value.oneCell']; done)) (hm11.get 1 rfl) (by first | exact Nat.le_of_ble_eq_true rfl | (simp; done)) ?_))))))))
    intro w21 m21 x21
    have hm22 : Hp Z0 No w w21 [slR A0 c0 byteR x0, boxR b3 29 [.slice A6_0_0 (p6.L).length c6_0_0, .int .i64 (p6.Used), .int .i64 (0)], slR A6_0_0 c6_0_0 (Rep.sl byteR) p6.L, boxR b9 57 [.slice A6_0_0 (p6.L).length c6_0_0, .int .i64 (p6.Used), .int .i64 (p6.E)]] := hm11.st 1 rfl x21 m21
    refine Rn.regEnd ?_
    refine Rn.retG1 Try.func8 rfl (rvC rfl Try.isAgg29 Try.sizeOf29 (hm22.get 1 rfl) rfl) ?_
    obtain rfl := someE hM
    exact ⟨A6_0_0, c6_0_0, rfl, hm22.pick [2] rfl (by decide)⟩

set_option maxRecDepth 20000 in
theorem m_limnographref04_Same_sim {Z0 : Nat → Prop} (w : World) (A0 : Option Addr) (c0 : Nat) (x0 : (List (List UInt8))) (A1 : Option Addr) (c1 : Nat) (x1 : (List (List UInt8))) {r : Bool} (f0 : (slR A0 c0 (Rep.sl byteR) x0).H Z0 w) (f1 : (slR A1 c1 (Rep.sl byteR) x1).H Z0 w) (hM : m_limnographref04_Same x0 x1 = some r) :
    Calls Try.prog 9 #[.slice A0 (x0).length c0, .slice A1 (x1).length c1] w fun x w' => x = .returned (.bool (r)) ∧ Hp Z0 No w w' [] := by
  have hm0 := Hp.nil Z0 No w
  have hc0 := Calm.nil
  have hm3 := hm0.know (slR A0 c0 (Rep.sl byteR) x0) (fun _ h => h) (hm0.in0 hc0 f0)
  replace hc0 := hc0.snoc (r := slR A0 c0 (Rep.sl byteR) x0) (fun _ h => h)
  have hm4 := hm3.know (slR A1 c1 (Rep.sl byteR) x1) (fun _ h => h) (hm3.in0 hc0 f1)
  replace hc0 := hc0.snoc (r := slR A1 c1 (Rep.sl byteR) x1) (fun _ h => h)
  refine Rn.enter Try.func9 rfl rfl (Nat.le_of_ble_eq_true rfl) ?_
  refine Rn.seq (Rn.reg (Rn.v rfl rfl rfl rfl (V.as rfl) (Rn.regEnd (Rn.seq (Rn.seq (Rn.reg (Rn.v rfl rfl rfl rfl (V.mv rfl) (Rn.v rfl rfl rfl rfl (V.lenV Try.underlying24 rfl) (Rn.v rfl rfl rfl rfl (V.mv rfl) (Rn.v rfl rfl rfl rfl (V.lenV Try.underlying24 rfl) (Rn.v rfl rfl rfl rfl (V.neq rfl rfl) (Rn.regEnd ?_))))))))))))
  refine Rn.condD rfl (fun h5 => ?_) (fun h5 => ?_)
  · replace hM := iteT h5 hM
    refine Rn.seq (Rn.reg (Rn.v rfl rfl rfl rfl (V.as rfl) (Rn.regEnd ?_)))
    refine Rn.retG1 Try.func9 rfl (rvT rfl) ?_
    obtain rfl := someE hM
    exact ⟨rfl, hm4.pick [] rfl (by decide)⟩
  · replace hM := iteF h5 hM
    refine Rn.skip (Rn.seq (Rn.seq (Rn.reg (Rn.v rfl rfl rfl rfl (V.as rfl) (Rn.regEnd ?_)))))
    obtain ⟨j1, hj1, hM⟩ := jnE hM
    refine Rn.joinG (r := r) (G := Unit) (fun g => []) (fun g w' => Hp Z0 No w w' [slR A0 c0 (Rep.sl byteR) x0, slR A1 c1 (Rep.sl byteR) x1]) (fun g => j1 ()) ?_ ?_
    · subst hj1
      clear hM
      rintro _ w6 hm6 hM
      replace hm6 : Hp Z0 No w w6 [slR A0 c0 (Rep.sl byteR) x0, slR A1 c1 (Rep.sl byteR) x1] := hm6
      show Rn _ _ _ _ _ [] _
      try dsimp only at hM
      refine Rn.seq (Rn.reg (Rn.v rfl rfl rfl rfl (V.as rfl) (Rn.regEnd ?_)))
      refine Rn.retG1 Try.func9 rfl (rvT rfl) ?_
      obtain rfl := someE hM
      exact ⟨rfl, hm6.pick [] rfl (by decide)⟩
    intro hk1
    clear hj1
    refine Rn.block ?_
    refine Rn.loopF (G := Int) (fun g => [(0, .slice A0 (x0).length c0), (1, .slice A1 (x1).length c1), (5, .int .i64 (g))]) (fun g w' => Hp Z0 No w w' [slR A0 c0 (Rep.sl byteR) x0, slR A1 c1 (Rep.sl byteR) x1]) (fun n g => m_limnographref04_Same_L1 x0 x1 j1 n g) fuel 0 (Sub.cons rfl (Sub.cons rfl (Sub.cons rfl (Sub.nil _)))) (hm4.pick [0, 1] rfl (by decide)) hM (fun _ => rfl) ?_
    clear hM
    rintro m8 y7 w8 hm8 hM hn8
    replace hm8 : Hp Z0 No w w8 [slR A0 c0 (Rep.sl byteR) x0, slR A1 c1 (Rep.sl byteR) x1] := hm8
    show Rn _ _ _ _ _ [(0, .slice A0 (x0).length c0), (1, .slice A1 (x1).length c1), (5, .int .i64 (y7))] _
    replace hM : m_limnographref04_Same_L1 x0 x1 j1 (m8 + 1) y7 = some r := hM
    rw [m_limnographref04_Same_L1] at hM
    refine Rn.seq (Rn.seq (Rn.reg (Rn.v rfl rfl rfl rfl (V.mv rfl) (Rn.v rfl rfl rfl rfl (V.mv rfl) (Rn.v rfl rfl rfl rfl (V.lenV Try.underlying24 rfl) (Rn.v rfl rfl rfl rfl (V.lss rfl rfl) (Rn.regEnd ?_)))))))
    refine Rn.condD rfl (fun h9 => ?_) (fun h9 => ?_)
    · replace hM := iteT h9 hM
      refine Rn.skip (Rn.seq (Rn.block (Rn.seq ?_)))
      refine Rn.drawP rfl hm8 ?_
      intro w10 hm10
      refine RH.takeP 0 (by kernel_rfl) rfl rfl rfl rfl (V.mv rfl) ?_
      refine RH.takeP 1 (by kernel_rfl) rfl rfl rfl rfl (V.mv rfl) ?_
      obtain ⟨z11, e11, hM⟩ := bindE hM
      obtain ⟨kk11, ke11, kz11, kl11⟩ := idxE e11
      obtain ⟨b11, o11, vs11, hA11, hD11, hR11, hrel11⟩ := Hp.at hm10 0 rfl kz11
      obtain ⟨A12, c12, rfl, p12, q12, s12⟩ := hrel11
      have hm15 : Hp Z0 No w w10 [slR A0 c0 (Rep.sl byteR) x0, slR A1 c1 (Rep.sl byteR) x1, rdR b11 (o11 + kk11 * 1) [.slice A12 (z11).length c12], slR A12 c12 byteR z11] := Hp.knowL [rdR b11 (o11 + kk11 * 1) [.slice A12 (z11).length c12], slR A12 c12 byteR z11] _ hm10 (knC (fun _ h => h) ⟨fun _ => hD11, hR11⟩ (knC (fun _ h => h) ⟨p12, q12, s12⟩ kn0))
      refine RH.takeP 2 (by kernel_rfl) rfl rfl rfl rfl (V.ixA' hA11 kk11 Try.underlying24 Try.sizeOf22 rfl rfl ke11 kl11) ?_
      refine RH.takeP 3 (by kernel_rfl) rfl rfl rfl rfl (V.ldR0 Try.isAgg22 rfl (hm15.get 2 rfl).2 rfl) ?_
      refine RH.takeP 4 (by kernel_rfl) rfl rfl rfl rfl (V.b2s Try.underlying22 Try.underlying9 Try.underlying5 rfl rfl (hm15.get 3 rfl).2.2) ?_
      refine RH.takeP 5 (by kernel_rfl) rfl rfl rfl rfl (V.mv rfl) ?_
      refine RH.takeP 6 (by kernel_rfl) rfl rfl rfl rfl (V.mv rfl) ?_
      obtain ⟨z16, e16, hM⟩ := bindE hM
      obtain ⟨kk16, ke16, kz16, kl16⟩ := idxE e16
      obtain ⟨b16, o16, vs16, hA16, hD16, hR16, hrel16⟩ := Hp.at hm15 1 rfl kz16
      obtain ⟨A17, c17, rfl, p17, q17, s17⟩ := hrel16
      have hm20 : Hp Z0 No w w10 [slR A0 c0 (Rep.sl byteR) x0, slR A1 c1 (Rep.sl byteR) x1, rdR b11 (o11 + kk11 * 1) [.slice A12 (z11).length c12], slR A12 c12 byteR z11, rdR b16 (o16 + kk16 * 1) [.slice A17 (z16).length c17], slR A17 c17 byteR z16] := Hp.knowL [rdR b16 (o16 + kk16 * 1) [.slice A17 (z16).length c17], slR A17 c17 byteR z16] _ hm15 (knC (fun _ h => h) ⟨fun _ => hD16, hR16⟩ (knC (fun _ h => h) ⟨p17, q17, s17⟩ kn0))
      refine RH.takeP 7 (by kernel_rfl) rfl rfl rfl rfl (V.ixA' hA16 kk16 Try.underlying24 Try.sizeOf22 rfl rfl ke16 kl16) ?_
      refine RH.takeP 8 (by kernel_rfl) rfl rfl rfl rfl (V.ldR0 Try.isAgg22 rfl (hm20.get 4 rfl).2 rfl) ?_
      refine RH.takeP 9 (by kernel_rfl) rfl rfl rfl rfl (V.b2s Try.underlying22 Try.underlying9 Try.underlying5 rfl rfl (hm20.get 5 rfl).2.2) ?_
      refine RH.takeP 10 (by kernel_rfl) rfl rfl rfl rfl (V.neqS rfl rfl) ?_
      refine RH.doneP (by kernel_rfl) ?_
      refine Rn.condD rfl (fun h21 => ?_) (fun h21 => ?_)
      · replace hM := iteT h21 hM
        refine Rn.seq (Rn.reg (Rn.v rfl rfl rfl rfl (V.as rfl) (Rn.regEnd ?_)))
        refine Rn.retG1 Try.func9 rfl (rvT rfl) ?_
        obtain rfl := someE hM
        exact ⟨rfl, hm20.pick [] rfl (by decide)⟩
      · replace hM := iteF h21 hM
        refine Rn.skip (Rn.inBlock (Rn.reg (Rn.v rfl rfl rfl rfl (V.mv rfl) (Rn.v rfl rfl rfl rfl (V.addW rfl rfl) (Rn.v rfl rfl rfl rfl (V.as rfl) (Rn.regEnd ?_))))))
        exact hn8 (W64 (y7 + 1)) _ _ (Sub.cons rfl (Sub.cons rfl (Sub.cons rfl (Sub.nil _)))) (hm20.pick [0, 1] rfl (by decide)) hM
    · replace hM := iteF h9 hM
      refine Rn.exit rfl ?_
      exact hk1 () _ _ (Sub.nil _) (hm8.pick [0, 1] rfl (by decide)) hM

set_option maxRecDepth 20000 in
theorem m_limnographlaw19_WalRecords_sim {Z0 : Nat → Prop} (w : World) (A0 : Option Addr) (c0 : Nat) (x0 : (List UInt8)) {r : Bool} (f0 : (slR A0 c0 byteR x0).H Z0 w) (hM : m_limnographlaw19_WalRecords x0 = some r) :
    Calls Try.prog 3 #[.slice A0 (x0).length c0] w fun x w' => x = .returned (.bool (r)) ∧ Hp Z0 No w w' [] := by
  have hm0 := Hp.nil Z0 No w
  have hc0 := Calm.nil
  have hm2 := hm0.know (slR A0 c0 byteR x0) (fun _ h => h) (hm0.in0 hc0 f0)
  replace hc0 := hc0.snoc (r := slR A0 c0 byteR x0) (fun _ h => h)
  refine Rn.enter Try.func3 rfl rfl (Nat.le_of_ble_eq_true rfl) ?_
  refine Rn.seq (Rn.reg (Rn.v rfl rfl rfl rfl (V.as rfl) (Rn.regEnd (Rn.seq (Rn.seq (Rn.reg ?_))))))
  obtain ⟨p3, e3, hM⟩ := bindE hM
  refine Rn.cl ck6 rfl rfl rfl rfl (m_limnographlaw19_awake_sim (Z0 := All) _   e3) ?_
  rintro _ w3 ⟨rfl, hq3⟩
  refine ⟨_, rfl, ?_⟩
  have hm4 := hm2.call0 hq3
  refine Rn.v rfl rfl rfl rfl (V.notB rfl) (Rn.regEnd ?_)
  refine Rn.condS rfl (fun h5 => ?_) (fun h5 => ?_)
  · replace hM := iteT h5 hM
    refine Rn.seq (Rn.reg (Rn.v rfl rfl rfl rfl (V.as rfl) (Rn.regEnd ?_)))
    refine Rn.retG1 Try.func3 rfl (rvT rfl) ?_
    obtain rfl := someE hM
    exact ⟨rfl, hm4.pick [] rfl (by decide)⟩
  · replace hM := iteF (by rw [h5]; exact Bool.false_ne_true) hM
    refine Rn.skip (Rn.seq (Rn.seq (Rn.reg (Rn.v rfl rfl rfl rfl (V.mv rfl) (Rn.v rfl rfl rfl rfl (V.lenV Try.underlying22 rfl) (Rn.v rfl rfl rfl rfl (V.gtr rfl rfl) (Rn.regEnd ?_)))))))
    refine Rn.condD rfl (fun h6 => ?_) (fun h6 => ?_)
    · replace hM := iteT h6 hM
      refine Rn.seq (Rn.reg (Rn.v rfl rfl rfl rfl (V.as rfl) (Rn.regEnd ?_)))
      refine Rn.retG1 Try.func3 rfl (rvT rfl) ?_
      obtain rfl := someE hM
      exact ⟨rfl, hm4.pick [] rfl (by decide)⟩
    · replace hM := iteF h6 hM
      refine Rn.skip (Rn.seq (Rn.reg (Rn.v rfl rfl rfl rfl (V.mv rfl) ?_)))
      obtain ⟨p7, e7, hM⟩ := bindE hM
      refine Rn.cl ck7 rfl rfl rfl rfl (m_wal_Records_sim (Z0 := Zo Z0 No w [slR A0 c0 byteR x0]) _ A0 c0 x0 (hm4.get 0 rfl) e7) ?_
      rintro _ w7 ⟨A7_0_0, c7_0_0, rfl, hq7⟩
      refine ⟨_, rfl, ?_⟩
      have hm9 : Hp Z0 No w w7 [slR A0 c0 byteR x0, ownR 22 A7_0_0 c7_0_0 (Rep.sl byteR) p7.1] := hm4.callZ hq7
      refine Rn.v rfl rfl rfl rfl (V.mv rfl) (Rn.v rfl rfl rfl rfl (V.ext rfl rfl) (Rn.v rfl rfl rfl rfl (V.ext rfl rfl) (Rn.v rfl rfl rfl rfl (V.ext rfl rfl) (Rn.v rfl rfl rfl rfl (V.as rfl) (Rn.v rfl rfl rfl rfl (V.as rfl) (Rn.v rfl rfl rfl rfl (V.as rfl) (Rn.regEnd (Rn.seq (Rn.reg (Rn.v rfl rfl rfl rfl (V.mv rfl) ?_))))))))))
      obtain ⟨p10, e10, hM⟩ := bindE hM
      refine Rn.cl ck8 rfl rfl rfl rfl (m_limnographref19_Records_sim (Z0 := Zo Z0 No w [slR A0 c0 byteR x0, ownR 22 A7_0_0 c7_0_0 (Rep.sl byteR) p7.1]) _ A0 c0 x0 (hm9.get 0 rfl) e10) ?_
      rintro _ w10 ⟨A10_0_0, c10_0_0, rfl, hq10⟩
      refine ⟨_, rfl, ?_⟩
      have hm12 : Hp Z0 No w w10 [slR A0 c0 byteR x0, ownR 22 A7_0_0 c7_0_0 (Rep.sl byteR) p7.1, slR A10_0_0 c10_0_0 (Rep.sl byteR) p10.L] := hm9.callZ hq10
      refine Rn.als rfl rfl rfl Try.zeroValue29 rfl Try.sizeOf29 rfl rfl rfl rfl (by first | exact ones rfl | (simp [Value.oneCell']; done)) ?_
      intro b13 w13 hb13 m13 e13
      have hm15 : Hp Z0 No w w13 [slR A0 c0 byteR x0, ownR 22 A7_0_0 c7_0_0 (Rep.sl byteR) p7.1, slR A10_0_0 c10_0_0 (Rep.sl byteR) p10.L, boxR b13 29 [.slice A10_0_0 (p10.L).length c10_0_0, .int .i64 (p10.Used), .int .i64 (p10.E)]] := hm12.addBox hb13 e13 m13
      refine Rn.regEnd (Rn.seq (Rn.reg (Rn.v rfl rfl rfl rfl (V.mv rfl) (Rn.v rfl rfl rfl rfl (V.fa Try.underlying29 rfl Try.sizeOf24 rfl rfl) (Rn.v rfl rfl rfl rfl (V.ldB Try.isAgg24 rfl (hm15.get 3 rfl) rfl) ?_)))))
      obtain ⟨p16, e16, hM⟩ := bindE hM
      refine Rn.cl ck9 rfl rfl rfl rfl (m_limnographref04_Same_sim (Z0 := All) _ A7_0_0 c7_0_0 p7.1 A10_0_0 c10_0_0 p10.L (own_slR (hm15.get 1 rfl)) (slR_all (hm15.get 2 rfl)) e16) ?_
      rintro _ w16 ⟨rfl, hq16⟩
      refine ⟨_, rfl, ?_⟩
      have hm17 := hm15.call0 hq16
      refine Rn.v rfl rfl rfl rfl (V.mv rfl) ?_
      refine Rn.cutR [10, 11, 12, 13, 14, 15, 16] [(5, .int .i64 (p7.2.2)), (6, .pointer (some ⟨b13, 0, none⟩)), (29, .bool (decide ((p16 = true) ∧ (p7.2.1 = p10.Used))))] (fun hk18 => ?_) ?_
      · refine Rn.part (t := 24) rfl (fun h19 => ?_) (fun h19 => ?_)
        · refine Rn.v rfl rfl rfl rfl (V.mv rfl) (Rn.v rfl rfl rfl rfl (V.fa Try.underlying29 rfl Try.sizeOf3 rfl rfl) (Rn.v rfl rfl rfl rfl (V.ldB Try.isAgg3 rfl (hm17.get 3 rfl) rfl) (Rn.v rfl rfl rfl rfl (V.eql rfl rfl) (Rn.v rfl rfl rfl rfl (V.pkT rfl rfl) ?_))))
          refine hk18 _ ?_
          exact Sub.cons rfl (Sub.cons rfl (Sub.cons (lkv _ rfl (by first | exact andT h19 | exact andF h19 | exact orT h19 | exact orF h19 | exact nandF h19 | exact nandT h19 | exact norT h19 | exact norF h19 | (simp [h19]; done) | grind)) (Sub.nil _)))
        · refine Rn.no rfl rfl rfl rfl (Rn.no rfl rfl rfl rfl (Rn.no rfl rfl rfl rfl (Rn.no rfl rfl rfl rfl (Rn.v rfl rfl rfl rfl (V.pkF rfl rfl) ?_))))
          refine hk18 _ ?_
          exact Sub.cons rfl (Sub.cons rfl (Sub.cons (lkv _ rfl (by first | exact andT h19 | exact andF h19 | exact orT h19 | exact orF h19 | exact nandF h19 | exact nandT h19 | exact norT h19 | exact norF h19 | (simp [h19]; done) | grind)) (Sub.nil _)))
      refine Rn.v rfl rfl rfl rfl (V.mv rfl) ?_
      refine Rn.cutR [16] [(35, .bool (decide (((p16 = true) ∧ (p7.2.1 = p10.Used)) ∧ (p7.2.2 = p10.E))))] (fun hk20 => ?_) ?_
      · refine Rn.partD (t := 30) rfl (fun h21 => ?_) (fun h21 => ?_)
        · refine Rn.v rfl rfl rfl rfl (V.mv rfl) (Rn.v rfl rfl rfl rfl (V.fa Try.underlying29 rfl Try.sizeOf25 rfl rfl) (Rn.v rfl rfl rfl rfl (V.ldB Try.isAgg25 rfl (hm17.get 3 rfl) rfl) (Rn.v rfl rfl rfl rfl (V.eql rfl rfl) (Rn.v rfl rfl rfl rfl (V.pkT rfl rfl) ?_))))
          refine hk20 _ ?_
          exact Sub.cons (lkv _ rfl (by first | exact andT h21 | exact andF h21 | exact orT h21 | exact orF h21 | exact nandF h21 | exact nandT h21 | exact norT h21 | exact norF h21 | (simp [h21]; done) | grind)) (Sub.nil _)
        · refine Rn.no rfl rfl rfl rfl (Rn.no rfl rfl rfl rfl (Rn.no rfl rfl rfl rfl (Rn.no rfl rfl rfl rfl (Rn.v rfl rfl rfl rfl (V.pkF rfl rfl) ?_))))
          refine hk20 _ ?_
          exact Sub.cons (lkv _ rfl (by first | exact andT h21 | exact andF h21 | exact orT h21 | exact orF h21 | exact nandF h21 | exact nandT h21 | exact norT h21 | exact norF h21 | (simp [h21]; done) | grind)) (Sub.nil _)
      refine Rn.v rfl rfl rfl rfl (V.as rfl) (Rn.regEnd ?_)
      refine Rn.retG1 Try.func3 rfl (rvT rfl) ?_
      obtain rfl := someE hM
      exact ⟨rfl, hm17.pick [] rfl (by decide)⟩

set_option maxRecDepth 20000 in
theorem m_disk_Disk_Names_sim {Z0 : Nat → Prop} (w : World) (F0 : Nat → Prop) (b0 : Nat) (x0 : PD) {r : (List (List UInt8))} (f0 : (fzR (diskO 63 68 5 F0 b0 x0)).H Z0 w) (hM : m_disk_Disk_Names x0 = some r) :
    Calls Try.prog 12 #[.pointer (some ⟨b0, 0, none⟩)] w fun x w' => ∃ A_0_0 c_0_0, x = .returned (.slice A_0_0 (r).length c_0_0) ∧ Hp Z0 No w w' [ownR 9 A_0_0 c_0_0 textR r] := by
  unfold m_disk_Disk_Names at hM
  split at hM
  · rename_i hg
    obtain rfl := someE hM
    refine (names_spec w hg f0.1).mono ?_
    rintro x w' ⟨A, c, rfl, ho, hx⟩
    exact ⟨A, c, rfl, (Hp.nil Z0 No w).addOwn hx ho text_flat⟩
  · cases hM

set_option maxRecDepth 20000 in
theorem m_wal_Log_Len_sim {Z0 : Nat → Prop} (w : World) (F0 : Nat → Prop) (b0 : Nat) (x0 : T_wal_Log) (FD : Nat → Prop) (bD : Nat) (xD : PD) {r : Int} (f0 : (fzR (T_wal_Log.obj F0 b0 bD x0)).H Z0 w) (f1 : (fzR (diskO 63 68 5 FD bD xD)).H Z0 w) (hM : m_wal_Log_Len x0 xD = some r) :
    Calls Try.prog 13 #[.pointer (some ⟨b0, 0, none⟩)] w fun x w' => x = .returned (.int .i64 (r)) ∧ Hp Z0 No w w' [] := by
  have hm0 := Hp.nil Z0 No w
  have hc0 := Calm.nil
  have hm2 := hm0.know (fzR (T_wal_Log.obj F0 b0 bD x0)) (fun _ h => h) (hm0.in0 hc0 f0)
  replace hc0 := hc0.snoc (r := fzR (T_wal_Log.obj F0 b0 bD x0)) (fun _ h => h)
  have hm3 := hm2.know (fzR (diskO 63 68 5 FD bD xD)) (fun _ h => h) (hm2.in0 hc0 f1)
  replace hc0 := hc0.snoc (r := fzR (diskO 63 68 5 FD bD xD)) (fun _ h => h)
  refine Rn.enter Try.func13 rfl rfl (Nat.le_of_ble_eq_true rfl) ?_
  refine Rn.seq (Rn.reg (Rn.v rfl rfl rfl rfl (V.as rfl) (Rn.regEnd (Rn.seq (Rn.reg (Rn.v rfl rfl rfl rfl (V.mv rfl) (Rn.v rfl rfl rfl rfl (V.nil rfl) (Rn.v rfl rfl rfl rfl (V.fa Try.underlying71 rfl Try.sizeOf3 rfl rfl) ?_))))))))
  obtain ⟨_, rfl, hm4⟩ := hm3.unfz 0 rfl
  replace hm4 : Hp Z0 No w w [fzR (T_wal_Log.obj F0 b0 bD x0), fzR (diskO 63 68 5 FD bD xD), fzR (boxR b0 71 [.pointer (some ⟨bD, 0, none⟩), Str (x0.name), .int .i64 (x0.n), .int .i64 (x0.size)])] := hm4
  refine Rn.v rfl rfl rfl rfl (V.ldB Try.isAgg3 rfl (hm4.getz 2 rfl) rfl) (Rn.v rfl rfl rfl rfl (V.as rfl) (Rn.regEnd ?_))
  refine Rn.retG1 Try.func13 rfl (rvT rfl) ?_
  obtain rfl := someE hM
  exact ⟨rfl, hm4.pick [] rfl (by decide)⟩

set_option maxRecDepth 20000 in
theorem m_wal_Log_Name_sim {Z0 : Nat → Prop} (w : World) (F0 : Nat → Prop) (b0 : Nat) (x0 : T_wal_Log) (FD : Nat → Prop) (bD : Nat) (xD : PD) {r : (List UInt8)} (f0 : (fzR (T_wal_Log.obj F0 b0 bD x0)).H Z0 w) (f1 : (fzR (diskO 63 68 5 FD bD xD)).H Z0 w) (hM : m_wal_Log_Name x0 xD = some r) :
    Calls Try.prog 15 #[.pointer (some ⟨b0, 0, none⟩)] w fun x w' => x = .returned (Str (r)) ∧ Hp Z0 No w w' [] := by
  have hm0 := Hp.nil Z0 No w
  have hc0 := Calm.nil
  have hm2 := hm0.know (fzR (T_wal_Log.obj F0 b0 bD x0)) (fun _ h => h) (hm0.in0 hc0 f0)
  replace hc0 := hc0.snoc (r := fzR (T_wal_Log.obj F0 b0 bD x0)) (fun _ h => h)
  have hm3 := hm2.know (fzR (diskO 63 68 5 FD bD xD)) (fun _ h => h) (hm2.in0 hc0 f1)
  replace hc0 := hc0.snoc (r := fzR (diskO 63 68 5 FD bD xD)) (fun _ h => h)
  refine Rn.enter Try.func15 rfl rfl (Nat.le_of_ble_eq_true rfl) ?_
  refine Rn.seq (Rn.reg (Rn.v rfl rfl rfl rfl (V.as rfl) (Rn.regEnd (Rn.seq (Rn.reg (Rn.v rfl rfl rfl rfl (V.mv rfl) (Rn.v rfl rfl rfl rfl (V.nil rfl) (Rn.v rfl rfl rfl rfl (V.fa Try.underlying71 rfl Try.sizeOf9 rfl rfl) ?_))))))))
  obtain ⟨_, rfl, hm4⟩ := hm3.unfz 0 rfl
  replace hm4 : Hp Z0 No w w [fzR (T_wal_Log.obj F0 b0 bD x0), fzR (diskO 63 68 5 FD bD xD), fzR (boxR b0 71 [.pointer (some ⟨bD, 0, none⟩), Str (x0.name), .int .i64 (x0.n), .int .i64 (x0.size)])] := hm4
  refine Rn.v rfl rfl rfl rfl (V.ldB Try.isAgg9 rfl (hm4.getz 2 rfl) rfl) (Rn.v rfl rfl rfl rfl (V.as rfl) (Rn.regEnd ?_))
  refine Rn.retG1 Try.func15 rfl (rvT rfl) ?_
  obtain rfl := someE hM
  exact ⟨rfl, hm4.pick [] rfl (by decide)⟩

end Go.Proofs.Ytopknmmckcijkaa
