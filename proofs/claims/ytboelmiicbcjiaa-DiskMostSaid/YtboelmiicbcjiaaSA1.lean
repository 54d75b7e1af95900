/-
  The calls of functions of the program answer as their plain forms say, part 1. Printed by a program.
-/
import Derived.Test.YtboelmiicbcjiaaRows
import Derived.Test.YtboelmiicbcjiaaMA
import Derived.Test.YtboelmiicbcjiaaK1
import Derived.Test.YtboelmiicbcjiaaWv
import Derived.Test.YtboelmiicbcjiaaIt
namespace Go.Proofs.Ytboelmiicbcjiaa
open Go Go.RowKit Go.Wk
theorem ck6 : CallOk Try.prog 6 := ⟨_, _, Try.func6, rfl, by kernel_rfl⟩
theorem ck7 : CallOk Try.prog 7 := ⟨_, _, Try.func7, rfl, by kernel_rfl⟩
theorem ck8 : CallOk Try.prog 8 := ⟨_, _, Try.func8, rfl, by kernel_rfl⟩
theorem ck10 : CallOk Try.prog 10 := ⟨_, _, Try.func10, rfl, by kernel_rfl⟩
theorem ck11 : CallOk Try.prog 11 := ⟨_, _, Try.func11, rfl, by kernel_rfl⟩
theorem ck12 : CallOk Try.prog 12 := ⟨_, _, Try.func12, rfl, by kernel_rfl⟩
theorem ck13 : CallOk Try.prog 13 := ⟨_, _, Try.func13, rfl, by kernel_rfl⟩
theorem ck14 : CallOk Try.prog 14 := ⟨_, _, Try.func14, rfl, by kernel_rfl⟩
theorem ck15 : CallOk Try.prog 15 := ⟨_, _, Try.func15, rfl, by kernel_rfl⟩
theorem ck16 : CallOk Try.prog 16 := ⟨_, _, Try.func16, rfl, by kernel_rfl⟩
theorem ck17 : CallOk Try.prog 17 := ⟨_, _, Try.func17, rfl, by kernel_rfl⟩
theorem ck18 : CallOk Try.prog 18 := ⟨_, _, Try.func18, rfl, by kernel_rfl⟩
theorem ck19 : CallOk Try.prog 19 := ⟨_, _, Try.func19, rfl, by kernel_rfl⟩
theorem ck20 : CallOk Try.prog 20 := ⟨_, _, Try.func20, rfl, by kernel_rfl⟩
theorem ck21 : CallOk Try.prog 21 := ⟨_, _, Try.func21, rfl, by kernel_rfl⟩
theorem ck29 : CallOk Try.prog 29 := ⟨_, _, Try.func29, rfl, by kernel_rfl⟩
theorem ck30 : CallOk Try.prog 30 := ⟨_, _, Try.func30, rfl, by kernel_rfl⟩
theorem ck31 : CallOk Try.prog 31 := ⟨_, _, Try.func31, rfl, by kernel_rfl⟩
theorem ck32 : CallOk Try.prog 32 := ⟨_, _, Try.func32, rfl, by kernel_rfl⟩
theorem ck33 : CallOk Try.prog 33 := ⟨_, _, Try.func33, rfl, by kernel_rfl⟩
theorem ck34 : CallOk Try.prog 34 := ⟨_, _, Try.func34, rfl, by kernel_rfl⟩
theorem ck35 : CallOk Try.prog 35 := ⟨_, _, Try.func35, rfl, by kernel_rfl⟩
theorem ck36 : CallOk Try.prog 36 := ⟨_, _, Try.func36, rfl, by kernel_rfl⟩
theorem ck37 : CallOk Try.prog 37 := ⟨_, _, Try.func37, rfl, by kernel_rfl⟩
theorem ck38 : CallOk Try.prog 38 := ⟨_, _, Try.func38, rfl, by kernel_rfl⟩
theorem ck39 : CallOk Try.prog 39 := ⟨_, _, Try.func39, rfl, by kernel_rfl⟩
theorem ck40 : CallOk Try.prog 40 := ⟨_, _, Try.func40, rfl, by kernel_rfl⟩
theorem ck41 : CallOk Try.prog 41 := ⟨_, _, Try.func41, rfl, by kernel_rfl⟩
theorem ck42 : CallOk Try.prog 42 := ⟨_, _, Try.func42, rfl, by kernel_rfl⟩
theorem ck43 : CallOk Try.prog 43 := ⟨_, _, Try.func43, rfl, by kernel_rfl⟩
theorem ck44 : CallOk Try.prog 44 := ⟨_, _, Try.func44, rfl, by kernel_rfl⟩
theorem ck47 : CallOk Try.prog 47 := ⟨_, _, Try.func47, rfl, by kernel_rfl⟩
theorem ck51 : CallOk Try.prog 51 := ⟨_, _, Try.func51, rfl, by kernel_rfl⟩
theorem ck52 : CallOk Try.prog 52 := ⟨_, _, Try.func52, rfl, by kernel_rfl⟩
theorem st26 : StOk Try.prog 26 [Str [], .slice none 0 0] [(0, 1), (1, 1)] := ⟨Try.zeroValue26, _, Try.underlying26, fun w => by kernel_rfl⟩
theorem st74 : StOk Try.prog 74 [.slice none 0 0, .int .i64 0, .bool false, .int .i64 0, .int .i64 0, .int .i64 0, .int .i64 0] [(0, 1), (1, 1), (2, 1), (3, 1), (4, 1), (5, 1), (6, 1)] := ⟨Try.zeroValue74, _, Try.underlying74, fun w => by kernel_rfl⟩
theorem st78 : StOk Try.prog 78 [Str [], .slice none 0 0, .int .i64 0] [(0, 1), (1, 1), (2, 1)] := ⟨Try.zeroValue78, _, Try.underlying78, fun w => by kernel_rfl⟩
theorem el3 : ElOk Try.prog 3 1 8 := elOk_of (by kernel_rfl) (by decide)
theorem el26 : ElOk Try.prog 26 2 40 := elOk_of (by kernel_rfl) (by decide)
theorem el29 : ElOk Try.prog 29 1 8 := elOk_of (by kernel_rfl) (by decide)
theorem el78 : ElOk Try.prog 78 3 48 := elOk_of (by kernel_rfl) (by decide)
set_option maxRecDepth 20000 in
theorem clone_24 {Z0 : Nat → Prop} (w : World) (A : Option Addr) (c : Nat) (l : List UInt8) {r : List UInt8} (h : (slR A c byteR l).H Z0 w) (hM : appL [] l = some r) :
    Calls Try.prog 24 #[.slice A l.length c] w fun x w' => ∃ A' c', x = .returned (.slice A' r.length c') ∧ Hp Z0 No w w' [ownR 5 A' c' byteR r] := by
  have hm0 := Hp.nil Z0 No w
  have hm1 := hm0.know (slR A c byteR l) (fun _ h => h) (hm0.in0 Calm.nil h)
  refine Rn.enter Try.func24 rfl rfl (Nat.le_of_ble_eq_true rfl) ?_
  refine Rn.seq (Rn.reg (Rn.v rfl rfl rfl rfl (V.as rfl) (Rn.regEnd (Rn.seq (Rn.seq (Rn.reg (Rn.v rfl rfl rfl rfl (V.mv rfl) (Rn.v rfl rfl rfl rfl (V.eqlV Try.underlying24 rfl rfl) (Rn.regEnd ?_)))))))))
  cases A with
  | none =>
    obtain rfl := clone_get h
    obtain ⟨_, rfl⟩ := appE hM
    refine Rn.condT rfl (Rn.seq (Rn.reg (Rn.v rfl rfl rfl rfl (V.as rfl) (Rn.regEnd ?_))))
    refine Rn.retG1 Try.func24 rfl (rvT rfl) ?_
    exact ⟨none, 0, rfl, (hm0.addNil 5 byteR)⟩
  | some a =>
    refine Rn.condF rfl (Rn.skip (Rn.seq (Rn.reg ?_)))
    refine Rn.bslS (ps := []) (us := []) rfl rfl rfl Try.underlying24 el5 rfl rfl rfl rfl (by simp) (by decide) ?_
    intro b2 w2 hb2 m2 e2
    have hm2 := hm1.addLit (rep := byteR) (xs := ([] : List UInt8)) (vss := []) hb2 e2 m2 rfl rfl rfl rels0
    refine Rn.v rfl rfl rfl rfl (V.mv rfl) (Rn.appH hm2 1 rfl hM rfl rfl rfl Try.underlying24 el5 rfl rfl rfl rfl (hm2.src 0 rfl) ?_)
    intro A3 c3 w3 hm3
    refine Rn.v rfl rfl rfl rfl (V.as rfl) (Rn.regEnd ?_)
    refine Rn.retG1 Try.func24 rfl (rvT rfl) ?_
    exact ⟨A3, c3, rfl, hm3.pick [1] rfl (by decide)⟩

set_option maxRecDepth 20000 in
theorem m_disk_New_sim {Z0 : Nat → Prop} (w : World) (A0 : Option Addr) (c0 : Nat) (x0 : (List T_api_File)) (x1 : Int) {r : (Option PD)} (f0 : (slR A0 c0 T_api_File.rep x0).H Z0 w) (hM : m_disk_New x0 x1 = some r) :
    Calls Try.prog 7 #[.slice A0 (x0).length c0, .int .i64 (x1)] w fun x w' => ∃ F_0 b_0, x = .returned (.pointer (optP b_0 r)) ∧ Hp Z0 No w w' [optR r (fun z => diskO 59 64 5 F_0 b_0 z)] := by
  unfold m_disk_New at hM
  split at hM
  · rename_i hg
    obtain rfl := someE hM
    refine (dnew_spec (D := All) A0 c0 _ (x0.map fun f : T_api_File => (f.Name, f.Data)) x1 w (by simp; omega) (by simp) (sl_map (g := fun f : T_api_File => (f.Name, f.Data)) (slR_all f0).2.2)).mono ?_
    rintro x w' ⟨h, hx⟩
    rcases h with ⟨rfl, hn⟩ | ⟨s, b, F, hn, rfl, hd, hF⟩
    · rw [hn]; exact ⟨No, 0, rfl, (Hp.nil Z0 No w).ext hx |>.addNone _⟩
    · rw [hn]; exact ⟨F, b, rfl, ((Hp.nil Z0 No w).add (diskO 59 64 5 F b s) hx hF fun _ _ => hd).toSome (R := fun z => diskO 59 64 5 F b z) 0 rfl⟩
  · cases hM

set_option maxRecDepth 20000 in
theorem m_disk_Disk_Append_sim {Z0 : Nat → Prop} (w : World) (F0 : Nat → Prop) (b0 : Nat) (x0 : PD) (x1 : (List UInt8)) (A2 : Option Addr) (c2 : Nat) (x2 : (List UInt8)) {r : (Int × PD)} (hL : Lent Z0 w [diskO 59 64 5 F0 b0 x0, slR A2 c2 byteR x2]) (hM : m_disk_Disk_Append x0 x1 x2 = some r) :
    Calls Try.prog 11 #[.pointer (some ⟨b0, 0, none⟩), Str (x1), .slice A2 (x2).length c2] w fun x w' => ∃ F_p0, x = .returned (.int .i64 (r.1)) ∧ Hp Z0 (LS [diskO 59 64 5 F0 b0 x0, slR A2 c2 byteR x2]) w w' [diskO 59 64 5 F_p0 b0 r.2] := by
  unfold m_disk_Disk_Append at hM
  split at hM
  · rename_i hg
    obtain rfl := someE hM
    have hd : DkAt 59 64 5 w b0 F0 x0 := hL.1 0 _ rfl
    have hs := hL.1 1 _ rfl
    refine (append_spec x1 x2 A2 c2 _ w hg.1 hg.2.1 (by omega) rfl hs.2.2 (fun b hb hF => hb.2 0 _ rfl hF) hd).mono ?_
    rintro x w' ⟨rfl, F', d, hx, hF⟩
    exact ⟨F', rfl, hL.turn1 hx hF fun _ => d⟩
  · cases hM

set_option maxRecDepth 20000 in
theorem m_disk_Disk_Crash_sim {Z0 : Nat → Prop} (w : World) (F0 : Nat → Prop) (b0 : Nat) (x0 : PD) (x1 : Int) {r : PD} (hL : Lent Z0 w [diskO 59 64 5 F0 b0 x0]) (hM : m_disk_Disk_Crash x0 x1 = some r) :
    Calls Try.prog 15 #[.pointer (some ⟨b0, 0, none⟩), .int .i64 (x1)] w fun x w' => ∃ F_p0, x = .returned (.tuple #[]) ∧ Hp Z0 (LS [diskO 59 64 5 F0 b0 x0]) w w' [diskO 59 64 5 F_p0 b0 r] := by
  unfold m_disk_Disk_Crash at hM
  split at hM
  · rename_i hg
    obtain rfl := someE hM
    have hd : DkAt 59 64 5 w b0 F0 x0 := hL.1 0 _ rfl
    refine (crash_spec x1 w hg hd).mono ?_
    rintro x w' ⟨rfl, F', d, hx, hF⟩
    exact ⟨F', rfl, hL.turn1 hx hF fun _ => d⟩
  · cases hM

set_option maxRecDepth 20000 in
theorem m_disk_Disk_Sync_sim {Z0 : Nat → Prop} (w : World) (F0 : Nat → Prop) (b0 : Nat) (x0 : PD) (x1 : (List UInt8)) {r : (Int × PD)} (hL : Lent Z0 w [diskO 59 64 5 F0 b0 x0]) (hM : m_disk_Disk_Sync x0 x1 = some r) :
    Calls Try.prog 12 #[.pointer (some ⟨b0, 0, none⟩), Str (x1)] w fun x w' => ∃ F_p0, x = .returned (.int .i64 (r.1)) ∧ Hp Z0 (LS [diskO 59 64 5 F0 b0 x0]) w w' [diskO 59 64 5 F_p0 b0 r.2] := by
  unfold m_disk_Disk_Sync at hM
  split at hM
  · rename_i hg
    obtain rfl := someE hM
    have hd : DkAt 59 64 5 w b0 F0 x0 := hL.1 0 _ rfl
    refine (sync_spec x1 w hg hd).mono ?_
    rintro x w' ⟨rfl, F', d, hx, hF⟩
    exact ⟨F', rfl, hL.turn1 hx hF fun _ => d⟩
  · cases hM

set_option maxRecDepth 20000 in
theorem m_disk_Disk_Down_sim {Z0 : Nat → Prop} (w : World) (F0 : Nat → Prop) (b0 : Nat) (x0 : PD) {r : Bool} (f0 : (fzR (diskO 59 64 5 F0 b0 x0)).H Z0 w) (hM : m_disk_Disk_Down x0 = some r) :
    Calls Try.prog 16 #[.pointer (some ⟨b0, 0, none⟩)] w fun x w' => x = .returned (.bool (r)) ∧ Hp Z0 No w w' [] := by
  obtain rfl := someE hM
  refine (down_spec w f0.1).mono ?_
  rintro x w' ⟨rfl, rfl⟩
  exact ⟨rfl, Hp.nil Z0 No w⟩

set_option maxRecDepth 20000 in
theorem m_disk_Disk_Boot_sim {Z0 : Nat → Prop} (w : World) (F0 : Nat → Prop) (b0 : Nat) (x0 : PD) (A1 : Option Addr) (c1 : Nat) (x1 : (List Int)) {r : (Int × PD)} (hL : Lent Z0 w [diskO 59 64 5 F0 b0 x0, slR A1 c1 (intR .i64) x1]) (hM : m_disk_Disk_Boot x0 x1 = some r) :
    Calls Try.prog 17 #[.pointer (some ⟨b0, 0, none⟩), .slice A1 (x1).length c1] w fun x w' => ∃ F_p0, x = .returned (.int .i64 (r.1)) ∧ Hp Z0 (LS [diskO 59 64 5 F0 b0 x0, slR A1 c1 (intR .i64) x1]) w w' [diskO 59 64 5 F_p0 b0 r.2] := by
  unfold m_disk_Disk_Boot at hM
  split at hM
  · rename_i hg
    obtain rfl := someE hM
    have hd : DkAt 59 64 5 w b0 F0 x0 := hL.1 0 _ rfl
    have hs := hL.1 1 _ rfl
    refine (boot_spec x1 A1 c1 _ w hg.1 hg.2.1 (by omega) rfl hs.2.2 (fun b hb hF => hb.2 0 _ rfl hF) hd).mono ?_
    rintro x w' ⟨rfl, F', d, hx, hF⟩
    exact ⟨F', rfl, hL.turn1 hx hF fun _ => d⟩
  · cases hM

set_option maxRecDepth 20000 in
theorem m_disk_Disk_Read_sim {Z0 : Nat → Prop} (w : World) (F0 : Nat → Prop) (b0 : Nat) (x0 : PD) (x1 : (List UInt8)) {r : ((List UInt8) × Int)} (f0 : (fzR (diskO 59 64 5 F0 b0 x0)).H Z0 w) (hM : m_disk_Disk_Read x0 x1 = some r) :
    Calls Try.prog 18 #[.pointer (some ⟨b0, 0, none⟩), Str (x1)] w fun x w' => ∃ A_0_0 c_0_0, x = .returned (.tuple #[.slice A_0_0 (r.1).length c_0_0, .int .i64 (r.2)]) ∧ Hp Z0 No w w' [ownR 5 A_0_0 c_0_0 byteR r.1] := by
  unfold m_disk_Disk_Read at hM
  split at hM
  · rename_i hg
    obtain rfl := someE hM
    refine (read_spec x1 w hg f0.1).mono ?_
    rintro x w' ⟨hx, h⟩
    have h2 := (Hp.nil Z0 No w).ext hx
    rcases h with ⟨hd, rfl⟩ | ⟨hd, hf, rfl⟩ | ⟨f, A, c, hd, hf, rfl, ho⟩
    · rw [hd]; exact ⟨none, 0, rfl, h2.addNil 5 byteR⟩
    · rw [hd, hf]; exact ⟨none, 0, rfl, h2.addNil 5 byteR⟩
    · rw [hd, hf]; exact ⟨A, c, rfl, (Hp.nil Z0 No w).addOwn hx ho byte_flat⟩
  · cases hM

set_option maxRecDepth 20000 in
theorem m_limnographlaw18_awake_sim {Z0 : Nat → Prop} (w : World)  {r : Bool}  (hM : m_limnographlaw18_awake  = some r) :
    Calls Try.prog 6 #[] w fun x w' => x = .returned (.bool (r)) ∧ Hp Z0 No w w' [] := by
  have hm0 := Hp.nil Z0 No w
  have hc0 := Calm.nil
  refine Rn.enter Try.func6 rfl rfl (Nat.le_of_ble_eq_true rfl) ?_
  refine Rn.seq (Rn.reg (Rn.v rfl rfl rfl rfl (V.as rfl) (Rn.regEnd (Rn.seq (Rn.reg (Rn.v rfl rfl rfl rfl (V.bldS st26 rfl rfl) (Rn.bslS rfl rfl rfl Try.underlying23 el26 rfl rfl rfl rfl (by first | exact szs rfl | (simp [Value.cells]; done)) (by decide) ?_)))))))
  intro b1 w1 hb1 m1 e1
  have hm2 := hm0.addLitZ (rep := T_api_File.rep) (xs := ([({ Name := ([97] : List UInt8), Data := [] } : T_api_File)] : List T_api_File)) (vss := [[Str (([97] : List UInt8)), .slice none 0 0]]) hb1 e1 m1 rfl rfl rfl ((relz_cons (show T_api_File.rep.rel _ _ _ _ from ⟨_, _, rfl, ⟨rfl, trivial⟩, ⟨none, 0, rfl, Nat.le_refl _, Nat.zero_le _, Sl.nil _ _ _ _⟩⟩) relz0))
  obtain ⟨p4, e4, hM⟩ := bindE hM
  refine Rn.cl ck7 rfl rfl rfl rfl (m_disk_New_sim (Z0 := All) _ (some ⟨b1, 0, none⟩) 1 ([({ Name := ([97] : List UInt8), Data := [] } : T_api_File)] : List T_api_File) 10 (own_slR (hm2.get 0 rfl)) e4) ?_
  rintro _ w4 ⟨F4_0, b4_0, rfl, hq4⟩
  refine ⟨_, rfl, ?_⟩
  have hm6 : Hp Z0 No w w4 [ownR 26 (some ⟨b1, 0, none⟩) 1 T_api_File.rep ([({ Name := ([97] : List UInt8), Data := [] } : T_api_File)] : List T_api_File), optR p4 (fun z => diskO 59 64 5 F4_0 b4_0 z)] := hm2.callF (flC (optR_flat fun _ => diskO_flat _ _ _ _ _ _) fl0) hq4
  refine Rn.v rfl rfl rfl rfl (V.as rfl) (Rn.regEnd (Rn.seq (Rn.seq (Rn.reg (Rn.v rfl rfl rfl rfl (V.mv rfl) (Rn.v rfl rfl rfl rfl (V.eqlO Try.underlying27 rfl rfl) (Rn.v rfl rfl rfl rfl (V.mv rfl) ?_)))))))
  obtain ⟨j1, hj1, hM⟩ := jnE hM
  refine Rn.joinR (r := r) (G := Bool × (Option PD) × (Nat → Prop)) [] (fun g => [(1, .pointer (optP b4_0 (g.2.1))), (15, .bool ((g.1)))]) (fun g w' => Hp Z0 No w w' [ownR 26 (some ⟨b1, 0, none⟩) 1 T_api_File.rep ([({ Name := ([97] : List UInt8), Data := [] } : T_api_File)] : List T_api_File), optR (g.2.1) (fun z => diskO 59 64 5 (g.2.2) b4_0 z)]) (fun g => j1 g.1 g.2.1) ?_ ?_
  · subst hj1
    clear hM
    rintro ⟨y7, y8, F8⟩ w9 hm9 hM
    replace hm9 : Hp Z0 No w w9 [ownR 26 (some ⟨b1, 0, none⟩) 1 T_api_File.rep ([({ Name := ([97] : List UInt8), Data := [] } : T_api_File)] : List T_api_File), optR y8 (fun z => diskO 59 64 5 F8 b4_0 z)] := hm9
    show Rn _ _ _ _ _ [(1, .pointer (optP b4_0 y8)), (15, .bool (y7))] _
    try dsimp only at hM
    refine Rn.regEnd ?_
    refine Rn.condS rfl (fun h10 => ?_) (fun h10 => ?_)
    · replace hM := iteT h10 hM
      refine Rn.seq (Rn.reg (Rn.v rfl rfl rfl rfl (V.as rfl) (Rn.regEnd ?_)))
      refine Rn.retG1 Try.func6 rfl (rvT rfl) ?_
      obtain rfl := someE hM
      exact ⟨rfl, hm9.pick [] rfl (by decide)⟩
    · replace hM := iteF (by rw [h10]; exact Bool.false_ne_true) hM
      refine Rn.skip (Rn.seq (Rn.reg (Rn.v rfl rfl rfl rfl (V.mv rfl) ?_)))
      obtain ⟨z12, e12, hM⟩ := bindE hM
      have hm13 : Hp Z0 No w w9 [ownR 26 (some ⟨b1, 0, none⟩) 1 T_api_File.rep ([({ Name := ([97] : List UInt8), Data := [] } : T_api_File)] : List T_api_File), diskO 59 64 5 F8 b4_0 z12] := hm9.optSome 1 rfl e12
      refine Rn.say (t := 16) (.pointer (some ⟨b4_0, 0, none⟩)) rfl (by rw [e12]; rfl) ?_
      obtain ⟨p11, e11, hM⟩ := bindE hM
      have hm14 : Hp Z0 No w w9 ([ownR 26 (some ⟨b1, 0, none⟩) 1 T_api_File.rep ([({ Name := ([97] : List UInt8), Data := [] } : T_api_File)] : List T_api_File)] ++ [diskO 59 64 5 F8 b4_0 z12]) := hm13.pick [0, 1] rfl (by decide)
      refine Rn.cl ck15 rfl rfl rfl rfl (m_disk_Disk_Crash_sim (Z0 := _) _ F8 b4_0 z12 0 hm14.lend e11) ?_
      rintro _ w11 ⟨F11_p0, rfl, hq11⟩
      refine ⟨_, rfl, ?_⟩
      have hm16 : Hp Z0 No w w11 [ownR 26 (some ⟨b1, 0, none⟩) 1 T_api_File.rep ([({ Name := ([97] : List UInt8), Data := [] } : T_api_File)] : List T_api_File), diskO 59 64 5 F11_p0 b4_0 p11] := hm14.callAZ hq11
      refine Rn.regEnd (Rn.seq (Rn.seq (Rn.reg (Rn.v rfl rfl rfl rfl (V.mv rfl) ?_))))
      refine Rn.say (t := 18) (.pointer (some ⟨b4_0, 0, none⟩)) rfl (by rw [e12]; rfl) ?_
      obtain ⟨p17, e17, hM⟩ := bindE hM
      have hm18 : Hp Z0 No w w11 ([ownR 26 (some ⟨b1, 0, none⟩) 1 T_api_File.rep ([({ Name := ([97] : List UInt8), Data := [] } : T_api_File)] : List T_api_File)] ++ [diskO 59 64 5 F11_p0 b4_0 p11]) := hm16.pick [0, 1] rfl (by decide)
      refine Rn.cl ck12 rfl rfl rfl rfl (m_disk_Disk_Sync_sim (Z0 := _) _ F11_p0 b4_0 p11 ([97] : List UInt8) hm18.lend e17) ?_
      rintro _ w17 ⟨F17_p0, rfl, hq17⟩
      refine ⟨_, rfl, ?_⟩
      have hm20 : Hp Z0 No w w17 [ownR 26 (some ⟨b1, 0, none⟩) 1 T_api_File.rep ([({ Name := ([97] : List UInt8), Data := [] } : T_api_File)] : List T_api_File), diskO 59 64 5 F17_p0 b4_0 p17.2] := hm18.callAZ hq17
      refine Rn.v rfl rfl rfl rfl (V.neq rfl rfl) (Rn.v rfl rfl rfl rfl (V.mv rfl) ?_)
      obtain ⟨j2, hj2, hM⟩ := jnE hM
      refine Rn.joinR (r := r) (G := Bool × (Nat → Prop)) [8, 9, 10, 11, 12, 13] (fun g => [(1, .pointer (optP b4_0 y8)), (25, .bool ((g.1)))]) (fun g w' => Hp Z0 No w w' [ownR 26 (some ⟨b1, 0, none⟩) 1 T_api_File.rep ([({ Name := ([97] : List UInt8), Data := [] } : T_api_File)] : List T_api_File), diskO 59 64 5 (g.2) b4_0 p17.2]) (fun g => j2 g.1) ?_ ?_
      · subst hj2
        clear hM
        rintro ⟨y22, F21⟩ w23 hm23 hM
        replace hm23 : Hp Z0 No w w23 [ownR 26 (some ⟨b1, 0, none⟩) 1 T_api_File.rep ([({ Name := ([97] : List UInt8), Data := [] } : T_api_File)] : List T_api_File), diskO 59 64 5 F21 b4_0 p17.2] := hm23
        show Rn _ _ _ _ _ [(1, .pointer (optP b4_0 y8)), (25, .bool (y22))] _
        try dsimp only at hM
        refine Rn.v rfl rfl rfl rfl (V.mv rfl) ?_
        obtain ⟨j3, hj3, hM⟩ := jnE hM
        refine Rn.joinR (r := r) (G := Bool × PD × (Nat → Prop)) [] (fun g => [(1, .pointer (optP b4_0 y8)), (31, .bool ((g.1)))]) (fun g w' => Hp Z0 No w w' [ownR 26 (some ⟨b1, 0, none⟩) 1 T_api_File.rep ([({ Name := ([97] : List UInt8), Data := [] } : T_api_File)] : List T_api_File), diskO 59 64 5 (g.2.2) b4_0 (g.2.1)]) (fun g => j3 g.1 g.2.1) ?_ ?_
        · subst hj3
          clear hM
          rintro ⟨y24, y25, F25⟩ w26 hm26 hM
          replace hm26 : Hp Z0 No w w26 [ownR 26 (some ⟨b1, 0, none⟩) 1 T_api_File.rep ([({ Name := ([97] : List UInt8), Data := [] } : T_api_File)] : List T_api_File), diskO 59 64 5 F25 b4_0 y25] := hm26
          show Rn _ _ _ _ _ [(1, .pointer (optP b4_0 y8)), (31, .bool (y24))] _
          try dsimp only at hM
          refine Rn.regEnd ?_
          refine Rn.condS rfl (fun h27 => ?_) (fun h27 => ?_)
          · replace hM := iteT h27 hM
            refine Rn.seq (Rn.reg (Rn.v rfl rfl rfl rfl (V.as rfl) (Rn.regEnd ?_)))
            refine Rn.retG1 Try.func6 rfl (rvT rfl) ?_
            obtain rfl := someE hM
            exact ⟨rfl, hm26.pick [] rfl (by decide)⟩
          · replace hM := iteF (by rw [h27]; exact Bool.false_ne_true) hM
            refine Rn.skip (Rn.seq (Rn.reg (Rn.v rfl rfl rfl rfl (V.mv rfl) ?_)))
            refine Rn.say (t := 33) (.pointer (some ⟨b4_0, 0, none⟩)) rfl (by rw [e12]; rfl) ?_
            obtain ⟨p28, e28, hM⟩ := bindE hM
            refine Rn.cl ck18 rfl rfl rfl rfl (m_disk_Disk_Read_sim (Z0 := All) _ F25 b4_0 y25 ([97] : List UInt8) (fz_all (hm26.get 1 rfl)) e28) ?_
            rintro _ w28 ⟨A28_0_0, c28_0_0, rfl, hq28⟩
            refine ⟨_, rfl, ?_⟩
            have hm30 : Hp Z0 No w w28 [ownR 26 (some ⟨b1, 0, none⟩) 1 T_api_File.rep ([({ Name := ([97] : List UInt8), Data := [] } : T_api_File)] : List T_api_File), diskO 59 64 5 F25 b4_0 y25, ownR 5 A28_0_0 c28_0_0 byteR p28.1] := hm26.callF (flC (ownR_flat byte_flat _ _ _ _) fl0) hq28
            refine Rn.v rfl rfl rfl rfl (V.mv rfl) (Rn.v rfl rfl rfl rfl (V.ext rfl rfl) (Rn.v rfl rfl rfl rfl (V.ext rfl rfl) (Rn.v rfl rfl rfl rfl (V.as rfl) (Rn.v rfl rfl rfl rfl (V.as rfl) (Rn.regEnd (Rn.seq (Rn.reg (Rn.v rfl rfl rfl rfl (V.mv rfl) (Rn.v rfl rfl rfl rfl (V.b2s Try.underlying24 Try.underlying9 Try.underlying5 rfl rfl (Own.sl (hm30.get 2 rfl))) (Rn.v rfl rfl rfl rfl (V.eqlS rfl rfl) (Rn.v rfl rfl rfl rfl (V.mv rfl) ?_)))))))))))
            refine Rn.cutR [7, 8, 9, 10, 11, 12, 13] [(1, .pointer (optP b4_0 y8)), (43, .bool (decide ((p28.1 = ([97, 98] : List UInt8)) ∧ (p28.2 = 0))))] (fun hk31 => ?_) ?_
            · refine Rn.partD (t := 40) rfl (fun h32 => ?_) (fun h32 => ?_)
              · refine Rn.v rfl rfl rfl rfl (V.mv rfl) (Rn.v rfl rfl rfl rfl (V.eql rfl rfl) (Rn.v rfl rfl rfl rfl (V.pkT rfl rfl) ?_))
                refine hk31 _ ?_
                exact Sub.cons rfl (Sub.cons (lkv _ rfl (by first | exact andT h32 | exact andF h32 | exact orT h32 | exact orF h32 | exact nandF h32 | exact nandT h32 | exact norT h32 | exact norF h32 | (simp [h32]; done) | grind)) (Sub.nil _))
              · refine Rn.no rfl rfl rfl rfl (Rn.no rfl rfl rfl rfl (Rn.v rfl rfl rfl rfl (V.pkF rfl rfl) ?_))
                refine hk31 _ ?_
                exact Sub.cons rfl (Sub.cons (lkv _ rfl (by first | exact andT h32 | exact andF h32 | exact orT h32 | exact orF h32 | exact nandF h32 | exact nandT h32 | exact norT h32 | exact norF h32 | (simp [h32]; done) | grind)) (Sub.nil _))
            refine Rn.v rfl rfl rfl rfl (V.mv rfl) ?_
            obtain ⟨j4, hj4, hM⟩ := jnE hM
            refine Rn.joinR (r := r) (G := Bool) [13] (fun g => [(49, .bool (g))]) (fun g w' => Hp Z0 No w w' [ownR 26 (some ⟨b1, 0, none⟩) 1 T_api_File.rep ([({ Name := ([97] : List UInt8), Data := [] } : T_api_File)] : List T_api_File), ownR 5 A28_0_0 c28_0_0 byteR p28.1]) (fun g => j4 g) ?_ ?_
            · subst hj4
              clear hM
              rintro y33 w34 hm34 hM
              replace hm34 : Hp Z0 No w w34 [ownR 26 (some ⟨b1, 0, none⟩) 1 T_api_File.rep ([({ Name := ([97] : List UInt8), Data := [] } : T_api_File)] : List T_api_File), ownR 5 A28_0_0 c28_0_0 byteR p28.1] := hm34
              show Rn _ _ _ _ _ [(49, .bool (y33))] _
              try dsimp only at hM
              refine Rn.v rfl rfl rfl rfl (V.as rfl) (Rn.regEnd ?_)
              refine Rn.retG1 Try.func6 rfl (rvT rfl) ?_
              obtain rfl := someE hM
              exact ⟨rfl, hm34.pick [] rfl (by decide)⟩
            intro hk4
            clear hj4
            refine Rn.partD (t := 44) rfl (fun h35 => ?_) (fun h35 => ?_)
            · replace hM := iteT h35 hM
              refine Rn.v rfl rfl rfl rfl (V.mv rfl) ?_
              obtain ⟨z36, e36, hM⟩ := bindE hM
              refine Rn.mkSlH (rep := byteR) hm30 e36 rfl rfl rfl Try.underlying24 el5 rfl (zs := [.int .u8 ((((0 : UInt8)).toNat : Nat) : Int)]) (by kernel_rfl) rfl rfl (fun _ _ => ⟨rfl, trivial⟩) ?_
              intro b36 w36 hm36
              refine Rn.say (t := 45) (.pointer (some ⟨b4_0, 0, none⟩)) rfl (by rw [e12]; rfl) ?_
              have hm40 := hm36.freeze 3 rfl
              obtain ⟨p38, e38, hM⟩ := bindE hM
              have hm41 := hm40.dup 3 rfl (fun _ h => h)
              have hm43 : Hp Z0 No w w36 ([ownR 26 (some ⟨b1, 0, none⟩) 1 T_api_File.rep ([({ Name := ([97] : List UInt8), Data := [] } : T_api_File)] : List T_api_File), ownR 5 A28_0_0 c28_0_0 byteR p28.1, slR (some ⟨b36, 0, none⟩) (z36).length byteR z36] ++ [diskO 59 64 5 F25 b4_0 y25, slR (some ⟨b36, 0, none⟩) (z36).length byteR z36]) := hm41.pick [0, 2, 3, 1, 4] rfl (by decide)
              refine Rn.cl ck11 rfl rfl rfl rfl (m_disk_Disk_Append_sim (Z0 := _) _ F25 b4_0 y25 ([97] : List UInt8) (some ⟨b36, 0, none⟩) ((z36).length) z36 hm43.lend e38) ?_
              rintro _ w38 ⟨F38_p0, rfl, hq38⟩
              refine ⟨_, rfl, ?_⟩
              have hm45 : Hp Z0 No w w38 [ownR 26 (some ⟨b1, 0, none⟩) 1 T_api_File.rep ([({ Name := ([97] : List UInt8), Data := [] } : T_api_File)] : List T_api_File), ownR 5 A28_0_0 c28_0_0 byteR p28.1, slR (some ⟨b36, 0, none⟩) (z36).length byteR z36, diskO 59 64 5 F38_p0 b4_0 p38.2] := hm43.callAZ hq38
              refine Rn.v rfl rfl rfl rfl (V.eql rfl rfl) (Rn.v rfl rfl rfl rfl (V.pkT rfl rfl) ?_)
              exact hk4 (decide (p38.1 = 12)) _ _ (Sub.cons rfl (Sub.nil _)) (hm45.pick [0, 1] rfl (by decide)) hM
            · replace hM := iteF h35 hM
              refine Rn.no rfl rfl rfl rfl (Rn.no rfl rfl rfl rfl (Rn.no rfl rfl rfl rfl (Rn.no rfl rfl rfl rfl (Rn.v rfl rfl rfl rfl (V.pkF rfl rfl) ?_))))
              exact hk4 false _ _ (Sub.cons rfl (Sub.nil _)) (hm30.pick [0, 2] rfl (by decide)) hM
        intro hk3
        clear hj3
        refine Rn.part (t := 26) rfl (fun h46 => ?_) (fun h46 => ?_)
        · replace hM := iteT h46 hM
          refine Rn.no rfl rfl rfl rfl (Rn.no rfl rfl rfl rfl (Rn.no rfl rfl rfl rfl (Rn.no rfl rfl rfl rfl (Rn.v rfl rfl rfl rfl (V.pkT rfl rfl) ?_))))
          exact hk3 (true, p17.2, F21) _ _ (Sub.cons rfl (Sub.cons rfl (Sub.nil _))) (hm23.pick [0, 1] rfl (by decide)) hM
        · replace hM := iteF (by rw [h46]; exact Bool.false_ne_true) hM
          refine Rn.v rfl rfl rfl rfl (V.mv rfl) (Rn.bslS rfl rfl rfl Try.underlying36 el3 rfl rfl rfl rfl (by first | exact szs rfl | (simp [Value.cells]; done)) (by decide) ?_)
          intro b47 w47 hb47 m47 e47
          have hm48 := hm23.addLit (rep := (intR .i64)) (xs := ([2] : List Int)) (vss := [[.int .i64 (2)]]) hb47 e47 m47 rfl rfl rfl ((rels_cons (fun _ _ => ⟨rfl, trivial⟩) rels0))
          refine Rn.say (t := 27) (.pointer (some ⟨b4_0, 0, none⟩)) rfl (by rw [e12]; rfl) ?_
          have hm52 := hm48.freeze 2 rfl
          obtain ⟨p50, e50, hM⟩ := bindE hM
          have hm53 := hm52.dup 2 rfl (fun _ h => h)
          have hm55 : Hp Z0 No w w47 ([ownR 26 (some ⟨b1, 0, none⟩) 1 T_api_File.rep ([({ Name := ([97] : List UInt8), Data := [] } : T_api_File)] : List T_api_File), slR (some ⟨b47, 0, none⟩) 1 (intR .i64) ([2] : List Int)] ++ [diskO 59 64 5 F21 b4_0 p17.2, slR (some ⟨b47, 0, none⟩) 1 (intR .i64) ([2] : List Int)]) := hm53.pick [0, 2, 1, 3] rfl (by decide)
          refine Rn.cl ck17 rfl rfl rfl rfl (m_disk_Disk_Boot_sim (Z0 := _) _ F21 b4_0 p17.2 (some ⟨b47, 0, none⟩) 1 ([2] : List Int) hm55.lend e50) ?_
          rintro _ w50 ⟨F50_p0, rfl, hq50⟩
          refine ⟨_, rfl, ?_⟩
          have hm57 : Hp Z0 No w w50 [ownR 26 (some ⟨b1, 0, none⟩) 1 T_api_File.rep ([({ Name := ([97] : List UInt8), Data := [] } : T_api_File)] : List T_api_File), slR (some ⟨b47, 0, none⟩) 1 (intR .i64) ([2] : List Int), diskO 59 64 5 F50_p0 b4_0 p50.2] := hm55.callAZ hq50
          refine Rn.v rfl rfl rfl rfl (V.neq rfl rfl) (Rn.v rfl rfl rfl rfl (V.pkF rfl rfl) ?_)
          exact hk3 ((decide (p50.1 ≠ 0)), p50.2, F50_p0) _ _ (Sub.cons rfl (Sub.cons rfl (Sub.nil _))) (hm57.pick [0, 2] rfl (by decide)) hM
      intro hk2
      clear hj2
      refine Rn.partD (t := 21) rfl (fun h58 => ?_) (fun h58 => ?_)
      · replace hM := iteT h58 hM
        refine Rn.no rfl rfl rfl rfl (Rn.no rfl rfl rfl rfl (Rn.no rfl rfl rfl rfl (Rn.v rfl rfl rfl rfl (V.pkT rfl rfl) ?_)))
        exact hk2 (true, F17_p0) _ _ (Sub.cons rfl (Sub.cons rfl (Sub.nil _))) (hm20.pick [0, 1] rfl (by decide)) hM
      · replace hM := iteF h58 hM
        refine Rn.v rfl rfl rfl rfl (V.mv rfl) ?_
        refine Rn.say (t := 22) (.pointer (some ⟨b4_0, 0, none⟩)) rfl (by rw [e12]; rfl) ?_
        obtain ⟨p59, e59, hM⟩ := bindE hM
        refine Rn.cl ck16 rfl rfl rfl rfl (m_disk_Disk_Down_sim (Z0 := All) _ F17_p0 b4_0 p17.2 (fz_all (hm20.get 1 rfl)) e59) ?_
        rintro _ w59 ⟨rfl, hq59⟩
        refine ⟨_, rfl, ?_⟩
        have hm60 := hm20.call0 hq59
        refine Rn.v rfl rfl rfl rfl (V.notB rfl) (Rn.v rfl rfl rfl rfl (V.pkF rfl rfl) ?_)
        exact hk2 ((!p59), F17_p0) _ _ (Sub.cons rfl (Sub.cons rfl (Sub.nil _))) (hm60.pick [0, 1] rfl (by decide)) hM
  intro hk1
  clear hj1
  refine Rn.part (t := 9) rfl (fun h61 => ?_) (fun h61 => ?_)
  · replace hM := iteT h61 hM
    refine Rn.no rfl rfl rfl rfl (Rn.no rfl rfl rfl rfl (Rn.no rfl rfl rfl rfl (Rn.no rfl rfl rfl rfl (Rn.no rfl rfl rfl rfl (Rn.v rfl rfl rfl rfl (V.pkT rfl rfl) ?_)))))
    exact hk1 (true, p4, F4_0) _ _ (Sub.cons rfl (Sub.cons rfl (Sub.nil _))) (hm6.pick [0, 1] rfl (by decide)) hM
  · replace hM := iteF (by rw [h61]; exact Bool.false_ne_true) hM
    refine Rn.v rfl rfl rfl rfl (V.mv rfl) (Rn.bslS rfl rfl rfl Try.underlying24 el5 rfl rfl rfl rfl (by first | exact szs rfl | (simp [Value.cells]; done)) (by decide) ?_)
    intro b62 w62 hb62 m62 e62
    have hm63 := hm6.addLit (rep := byteR) (xs := ([(97 : UInt8), (98 : UInt8), (99 : UInt8)] : List UInt8)) (vss := [[.int .u8 ((((97 : UInt8)).toNat : Nat) : Int)], [.int .u8 ((((98 : UInt8)).toNat : Nat) : Int)], [.int .u8 ((((99 : UInt8)).toNat : Nat) : Int)]]) hb62 e62 m62 rfl rfl rfl ((rels_cons (fun _ _ => ⟨rfl, trivial⟩) (rels_cons (fun _ _ => ⟨rfl, trivial⟩) (rels_cons (fun _ _ => ⟨rfl, trivial⟩) rels0))))
    refine Rn.cvbH hm63 2 rfl rfl rfl rfl Try.underlying24 Try.underlying5 rfl ?_
    intro w65 hm65
    obtain ⟨z68, e68, hM⟩ := bindE hM
    have hm69 : Hp Z0 No w w65 [ownR 26 (some ⟨b1, 0, none⟩) 1 T_api_File.rep ([({ Name := ([97] : List UInt8), Data := [] } : T_api_File)] : List T_api_File), diskO 59 64 5 F4_0 b4_0 z68, slR (some ⟨b62, 0, none⟩) 3 byteR ([(97 : UInt8), (98 : UInt8), (99 : UInt8)] : List UInt8)] := hm65.optSome 1 rfl e68
    refine Rn.say (t := 10) (.pointer (some ⟨b4_0, 0, none⟩)) rfl (by rw [e68]; rfl) ?_
    obtain ⟨p67, e67, hM⟩ := bindE hM
    have hm70 := hm69.dup 2 rfl (fun _ h => h)
    have hm72 : Hp Z0 No w w65 ([ownR 26 (some ⟨b1, 0, none⟩) 1 T_api_File.rep ([({ Name := ([97] : List UInt8), Data := [] } : T_api_File)] : List T_api_File), slR (some ⟨b62, 0, none⟩) 3 byteR ([(97 : UInt8), (98 : UInt8), (99 : UInt8)] : List UInt8)] ++ [diskO 59 64 5 F4_0 b4_0 z68, slR (some ⟨b62, 0, none⟩) 3 byteR ([(97 : UInt8), (98 : UInt8), (99 : UInt8)] : List UInt8)]) := hm70.pick [0, 2, 1, 3] rfl (by decide)
    refine Rn.cl ck11 rfl rfl rfl rfl (m_disk_Disk_Append_sim (Z0 := _) _ F4_0 b4_0 z68 ([97] : List UInt8) (some ⟨b62, 0, none⟩) 3 ([(97 : UInt8), (98 : UInt8), (99 : UInt8)] : List UInt8) hm72.lend e67) ?_
    rintro _ w67 ⟨F67_p0, rfl, hq67⟩
    refine ⟨_, rfl, ?_⟩
    have hm74 : Hp Z0 No w w67 [ownR 26 (some ⟨b1, 0, none⟩) 1 T_api_File.rep ([({ Name := ([97] : List UInt8), Data := [] } : T_api_File)] : List T_api_File), slR (some ⟨b62, 0, none⟩) 3 byteR ([(97 : UInt8), (98 : UInt8), (99 : UInt8)] : List UInt8), diskO 59 64 5 F67_p0 b4_0 p67.2] := hm72.callAZ hq67
    refine Rn.v rfl rfl rfl rfl (V.neq rfl rfl) (Rn.v rfl rfl rfl rfl (V.pkF rfl rfl) ?_)
    refine Rn.say (t := 1) (.pointer (some ⟨b4_0, 0, none⟩)) rfl (by rw [e68]; rfl) ?_
    have hm75 := hm74.toSome (R := (fun z => diskO 59 64 5 F67_p0 b4_0 z)) 2 rfl
    have hm76 : Hp Z0 No w w67 [ownR 26 (some ⟨b1, 0, none⟩) 1 T_api_File.rep ([({ Name := ([97] : List UInt8), Data := [] } : T_api_File)] : List T_api_File), slR (some ⟨b62, 0, none⟩) 3 byteR ([(97 : UInt8), (98 : UInt8), (99 : UInt8)] : List UInt8), optR (some p67.2) (fun z => diskO 59 64 5 F67_p0 b4_0 z)] := hm75
    exact hk1 ((decide (p67.1 ≠ 0)), (some p67.2), F67_p0) _ _ (Sub.cons rfl (Sub.cons rfl (Sub.nil _))) (hm76.pick [0, 2] rfl (by decide)) hM

set_option maxRecDepth 20000 in
theorem m_limnographref18_Bulk_sim {Z0 : Nat → Prop} (w : World) (A0 : Option Addr) (c0 : Nat) (x0 : (List T_api_File)) (x1 : Int) {r : Int} (f0 : (slR A0 c0 T_api_File.rep x0).H Z0 w) (hM : m_limnographref18_Bulk x0 x1 = some r) :
    Calls Try.prog 20 #[.slice A0 (x0).length c0, .int .i64 (x1)] w fun x w' => x = .returned (.int .i64 (r)) ∧ Hp Z0 No w w' [] := by
  have hm0 := Hp.nil Z0 No w
  have hc0 := Calm.nil
  have hm2 := hm0.know (slR A0 c0 T_api_File.rep x0) (fun _ h => h) (hm0.in0 hc0 f0)
  replace hc0 := hc0.snoc (r := slR A0 c0 T_api_File.rep x0) (fun _ h => h)
  refine Rn.enter Try.func20 rfl rfl (Nat.le_of_ble_eq_true rfl) ?_
  refine Rn.seq (Rn.reg (Rn.v rfl rfl rfl rfl (V.as rfl) (Rn.regEnd (Rn.seq (Rn.reg (Rn.v rfl rfl rfl rfl (V.as rfl) (Rn.regEnd (Rn.seq (Rn.seq (Rn.reg (Rn.v rfl rfl rfl rfl (V.as rfl) (Rn.regEnd ?_))))))))))))
  obtain ⟨j1, hj1, hM⟩ := jnE hM
  refine Rn.joinG (r := r) (G := Int) (fun g => [(5, .int .i64 (g))]) (fun g w' => Hp Z0 No w w' [slR A0 c0 T_api_File.rep x0]) (fun g => j1 g) ?_ ?_
  · subst hj1
    clear hM
    rintro y3 w4 hm4 hM
    replace hm4 : Hp Z0 No w w4 [slR A0 c0 T_api_File.rep x0] := hm4
    show Rn _ _ _ _ _ [(5, .int .i64 (y3))] _
    try dsimp only at hM
    refine Rn.seq (Rn.reg (Rn.v rfl rfl rfl rfl (V.mv rfl) (Rn.v rfl rfl rfl rfl (V.as rfl) (Rn.regEnd ?_))))
    refine Rn.retG1 Try.func20 rfl (rvT rfl) ?_
    obtain rfl := someE hM
    exact ⟨rfl, hm4.pick [] rfl (by decide)⟩
  intro hk1
  clear hj1
  refine Rn.block ?_
  refine Rn.loopF (G := Int × Int) (fun g => [(0, .slice A0 (x0).length c0), (1, .int .i64 (x1)), (5, .int .i64 ((g.1))), (6, .int .i64 ((g.2)))]) (fun g w' => Hp Z0 No w w' [slR A0 c0 T_api_File.rep x0]) (fun n g => m_limnographref18_Bulk_L1 x0 x1 j1 n g.1 g.2) fuel (0, 0) (Sub.cons rfl (Sub.cons rfl (Sub.cons rfl (Sub.cons rfl (Sub.nil _))))) (hm2.pick [0] rfl (by decide)) hM (fun _ => rfl) ?_
  clear hM
  rintro m7 ⟨y5, y6⟩ w7 hm7 hM hn7
  replace hm7 : Hp Z0 No w w7 [slR A0 c0 T_api_File.rep x0] := hm7
  show Rn _ _ _ _ _ [(0, .slice A0 (x0).length c0), (1, .int .i64 (x1)), (5, .int .i64 (y5)), (6, .int .i64 (y6))] _
  replace hM : m_limnographref18_Bulk_L1 x0 x1 j1 (m7 + 1) y5 y6 = some r := hM
  rw [m_limnographref18_Bulk_L1] at hM
  refine Rn.seq (Rn.seq (Rn.reg (Rn.v rfl rfl rfl rfl (V.mv rfl) (Rn.v rfl rfl rfl rfl (V.mv rfl) (Rn.v rfl rfl rfl rfl (V.lenV Try.underlying23 rfl) (Rn.v rfl rfl rfl rfl (V.lss rfl rfl) (Rn.v rfl rfl rfl rfl (V.mv rfl) ?_)))))))
  refine Rn.cutR [] [(0, .slice A0 (x0).length c0), (1, .int .i64 (x1)), (5, .int .i64 (y5)), (6, .int .i64 (y6)), (15, .bool (decide ((y6 < (x0.length : Int)) ∧ (y5 ≤ x1))))] (fun hk8 => ?_) ?_
  · refine Rn.partD (t := 11) rfl (fun h9 => ?_) (fun h9 => ?_)
    · refine Rn.v rfl rfl rfl rfl (V.mv rfl) (Rn.v rfl rfl rfl rfl (V.mv rfl) (Rn.v rfl rfl rfl rfl (V.leq rfl rfl) (Rn.v rfl rfl rfl rfl (V.pkT rfl rfl) ?_)))
      refine hk8 _ ?_
      exact Sub.cons rfl (Sub.cons rfl (Sub.cons rfl (Sub.cons rfl (Sub.cons (lkv _ rfl (by first | exact andT h9 | exact andF h9 | exact orT h9 | exact orF h9 | exact nandF h9 | exact nandT h9 | exact norT h9 | exact norF h9 | (simp [h9]; done) | grind)) (Sub.nil _)))))
    · refine Rn.no rfl rfl rfl rfl (Rn.no rfl rfl rfl rfl (Rn.no rfl rfl rfl rfl (Rn.v rfl rfl rfl rfl (V.pkF rfl rfl) ?_)))
      refine hk8 _ ?_
      exact Sub.cons rfl (Sub.cons rfl (Sub.cons rfl (Sub.cons rfl (Sub.cons (lkv _ rfl (by first | exact andT h9 | exact andF h9 | exact orT h9 | exact orF h9 | exact nandF h9 | exact nandT h9 | exact norT h9 | exact norF h9 | (simp [h9]; done) | grind)) (Sub.nil _)))))
  refine Rn.regEnd ?_
  refine Rn.condD rfl (fun h10 => ?_) (fun h10 => ?_)
  · replace hM := iteT h10 hM
    refine Rn.skip (Rn.seq (Rn.block (Rn.reg (Rn.v rfl rfl rfl rfl (V.mv rfl) (Rn.v rfl rfl rfl rfl (V.addW rfl rfl) (Rn.v rfl rfl rfl rfl (V.mv rfl) (Rn.v rfl rfl rfl rfl (V.mv rfl) ?_)))))))
    obtain ⟨z11, e11, hM⟩ := bindE hM
    refine Rn.ixH hm7 0 rfl e11 rfl rfl rfl Try.underlying23 Try.sizeOf26 rfl rfl rfl rfl ?_
    rintro b11 o11 vs11 ⟨_, _, rfl, ⟨rfl, _⟩, ⟨A12, c12, rfl, p12, q12, s12⟩⟩ hm11
    have hm15 : Hp Z0 No w w7 [slR A0 c0 T_api_File.rep x0, rdR b11 o11 [Str (z11.Name), .slice A12 (z11.Data).length c12], slR A12 c12 byteR z11.Data] := Hp.know1 (M := [slR A12 c12 byteR z11.Data]) hm11 (fun _ h => h) (knC (fun _ h => h) ⟨p12, q12, s12⟩ kn0)
    refine Rn.v rfl rfl rfl rfl (V.fa Try.underlying26 rfl Try.sizeOf24 rfl rfl) (Rn.v rfl rfl rfl rfl (V.ldR Try.isAgg24 rfl (hm15.get 1 rfl).2 rfl) (Rn.v rfl rfl rfl rfl (V.lenV Try.underlying24 rfl) (Rn.v rfl rfl rfl rfl (V.mv rfl) (Rn.v rfl rfl rfl rfl (V.addW rfl rfl) (Rn.v rfl rfl rfl rfl (V.mini rfl rfl) (Rn.v rfl rfl rfl rfl (V.addW rfl rfl) (Rn.v rfl rfl rfl rfl (V.as rfl) (Rn.regEnd (Rn.inBlock (Rn.reg (Rn.v rfl rfl rfl rfl (V.mv rfl) (Rn.v rfl rfl rfl rfl (V.addW rfl rfl) (Rn.v rfl rfl rfl rfl (V.as rfl) (Rn.regEnd ?_))))))))))))))
    exact hn7 ((W64 ((W64 (y5 + 1)) + (min (z11.Data.length : Int) (W64 (x1 + 1))))), (W64 (y6 + 1))) _ _ (Sub.cons rfl (Sub.cons rfl (Sub.cons rfl (Sub.cons rfl (Sub.nil _))))) (hm15.pick [0] rfl (by decide)) hM
  · replace hM := iteF h10 hM
    refine Rn.exit rfl ?_
    exact hk1 y5 _ _ (Sub.cons rfl (Sub.nil _)) (hm7.pick [0] rfl (by decide)) hM

set_option maxRecDepth 20000 in
theorem m_limnographlaw18_few_sim {Z0 : Nat → Prop} (w : World) (A0 : Option Addr) (c0 : Nat) (x0 : (List T_limnographlaw18_Act)) {r : Bool} (f0 : (slR A0 c0 T_limnographlaw18_Act.rep x0).H Z0 w) (hM : m_limnographlaw18_few x0 = some r) :
    Calls Try.prog 10 #[.slice A0 (x0).length c0] w fun x w' => x = .returned (.bool (r)) ∧ Hp Z0 No w w' [] := by
  have hm0 := Hp.nil Z0 No w
  have hc0 := Calm.nil
  have hm2 := hm0.know (slR A0 c0 T_limnographlaw18_Act.rep x0) (fun _ h => h) (hm0.in0 hc0 f0)
  replace hc0 := hc0.snoc (r := slR A0 c0 T_limnographlaw18_Act.rep x0) (fun _ h => h)
  refine Rn.enter Try.func10 rfl rfl (Nat.le_of_ble_eq_true rfl) ?_
  refine Rn.seq (Rn.reg (Rn.v rfl rfl rfl rfl (V.as rfl) (Rn.regEnd (Rn.seq (Rn.seq (Rn.reg (Rn.v rfl rfl rfl rfl (V.mv rfl) (Rn.v rfl rfl rfl rfl (V.lenV Try.underlying35 rfl) (Rn.v rfl rfl rfl rfl (V.gtr rfl rfl) (Rn.regEnd ?_))))))))))
  refine Rn.condD rfl (fun h3 => ?_) (fun h3 => ?_)
  · replace hM := iteT h3 hM
    refine Rn.seq (Rn.reg (Rn.v rfl rfl rfl rfl (V.as rfl) (Rn.regEnd ?_)))
    refine Rn.retG1 Try.func10 rfl (rvT rfl) ?_
    obtain rfl := someE hM
    exact ⟨rfl, hm2.pick [] rfl (by decide)⟩
  · replace hM := iteF h3 hM
    refine Rn.skip (Rn.seq (Rn.seq (Rn.reg (Rn.v rfl rfl rfl rfl (V.as rfl) (Rn.regEnd ?_)))))
    obtain ⟨j1, hj1, hM⟩ := jnE hM
    refine Rn.joinG (r := r) (G := Unit) (fun g => []) (fun g w' => Hp Z0 No w w' [slR A0 c0 T_limnographlaw18_Act.rep x0]) (fun g => j1 ()) ?_ ?_
    · subst hj1
      clear hM
      rintro _ w4 hm4 hM
      replace hm4 : Hp Z0 No w w4 [slR A0 c0 T_limnographlaw18_Act.rep x0] := hm4
      show Rn _ _ _ _ _ [] _
      try dsimp only at hM
      refine Rn.seq (Rn.reg (Rn.v rfl rfl rfl rfl (V.as rfl) (Rn.regEnd ?_)))
      refine Rn.retG1 Try.func10 rfl (rvT rfl) ?_
      obtain rfl := someE hM
      exact ⟨rfl, hm4.pick [] rfl (by decide)⟩
    intro hk1
    clear hj1
    refine Rn.block ?_
    refine Rn.loopF (G := Int) (fun g => [(0, .slice A0 (x0).length c0), (3, .int .i64 (g))]) (fun g w' => Hp Z0 No w w' [slR A0 c0 T_limnographlaw18_Act.rep x0]) (fun n g => m_limnographlaw18_few_L1 x0 j1 n g) fuel 0 (Sub.cons rfl (Sub.cons rfl (Sub.nil _))) (hm2.pick [0] rfl (by decide)) hM (fun _ => rfl) ?_
    clear hM
    rintro m6 y5 w6 hm6 hM hn6
    replace hm6 : Hp Z0 No w w6 [slR A0 c0 T_limnographlaw18_Act.rep x0] := hm6
    show Rn _ _ _ _ _ [(0, .slice A0 (x0).length c0), (3, .int .i64 (y5))] _
    replace hM : m_limnographlaw18_few_L1 x0 j1 (m6 + 1) y5 = some r := hM
    rw [m_limnographlaw18_few_L1] at hM
    refine Rn.seq (Rn.seq (Rn.reg (Rn.v rfl rfl rfl rfl (V.mv rfl) (Rn.v rfl rfl rfl rfl (V.mv rfl) (Rn.v rfl rfl rfl rfl (V.lenV Try.underlying35 rfl) (Rn.v rfl rfl rfl rfl (V.lss rfl rfl) (Rn.regEnd ?_)))))))
    refine Rn.condD rfl (fun h7 => ?_) (fun h7 => ?_)
    · replace hM := iteT h7 hM
      refine Rn.skip (Rn.seq (Rn.block (Rn.seq (Rn.reg (Rn.v rfl rfl rfl rfl (V.mv rfl) (Rn.v rfl rfl rfl rfl (V.mv rfl) ?_))))))
      obtain ⟨z8, e8, hM⟩ := bindE hM
      refine Rn.ixH hm6 0 rfl e8 rfl rfl rfl Try.underlying35 Try.sizeOf42 rfl rfl rfl rfl ?_
      rintro b8 o8 vs8 ⟨_, _, rfl, ⟨rfl, _⟩, ⟨_, _, rfl, ⟨rfl, _⟩, ⟨_, _, rfl, ⟨rfl, _⟩, ⟨_, _, rfl, ⟨rfl, _⟩, ⟨_, _, rfl, ⟨rfl, _⟩, ⟨A9, c9, rfl, p9, q9, s9⟩⟩⟩⟩⟩⟩ hm8
      have hm12 : Hp Z0 No w w6 [slR A0 c0 T_limnographlaw18_Act.rep x0, rdR b8 o8 [.int .i64 (z8.Kind), Str (z8.A), Str (z8.B), .int .i64 (z8.N), .int .i64 (z8.Code), .slice A9 (z8.Keep).length c9], slR A9 c9 (intR .i64) z8.Keep] := Hp.know1 (M := [slR A9 c9 (intR .i64) z8.Keep]) hm8 (fun _ h => h) (knC (fun _ h => h) ⟨p9, q9, s9⟩ kn0)
      refine Rn.v rfl rfl rfl rfl (V.fa Try.underlying42 rfl Try.sizeOf9 rfl rfl) (Rn.v rfl rfl rfl rfl (V.ldR Try.isAgg9 rfl (hm12.get 1 rfl).2 rfl) (Rn.v rfl rfl rfl rfl (V.lenS Try.underlying9 rfl) (Rn.v rfl rfl rfl rfl (V.gtr rfl rfl) (Rn.v rfl rfl rfl rfl (V.mv rfl) ?_))))
      obtain ⟨j2, hj2, hM⟩ := jnE hM
      refine Rn.joinR (r := r) (G := Bool) [16, 17, 18, 19, 20, 21, 22, 23, 24] (fun g => [(0, .slice A0 (x0).length c0), (3, .int .i64 (y5)), (28, .bool (g))]) (fun g w' => Hp Z0 No w w' [slR A0 c0 T_limnographlaw18_Act.rep x0, rdR b8 o8 [.int .i64 (z8.Kind), Str (z8.A), Str (z8.B), .int .i64 (z8.N), .int .i64 (z8.Code), .slice A9 (z8.Keep).length c9], slR A9 c9 (intR .i64) z8.Keep]) (fun g => j2 g) ?_ ?_
      · subst hj2
        clear hM
        rintro y13 w14 hm14 hM
        replace hm14 : Hp Z0 No w w14 [slR A0 c0 T_limnographlaw18_Act.rep x0, rdR b8 o8 [.int .i64 (z8.Kind), Str (z8.A), Str (z8.B), .int .i64 (z8.N), .int .i64 (z8.Code), .slice A9 (z8.Keep).length c9], slR A9 c9 (intR .i64) z8.Keep] := hm14
        show Rn _ _ _ _ _ [(0, .slice A0 (x0).length c0), (3, .int .i64 (y5)), (28, .bool (y13))] _
        try dsimp only at hM
        refine Rn.v rfl rfl rfl rfl (V.mv rfl) ?_
        obtain ⟨j3, hj3, hM⟩ := jnE hM
        refine Rn.joinR (r := r) (G := Bool) [] (fun g => [(0, .slice A0 (x0).length c0), (3, .int .i64 (y5)), (37, .bool (g))]) (fun g w' => Hp Z0 No w w' [slR A0 c0 T_limnographlaw18_Act.rep x0, rdR b8 o8 [.int .i64 (z8.Kind), Str (z8.A), Str (z8.B), .int .i64 (z8.N), .int .i64 (z8.Code), .slice A9 (z8.Keep).length c9], slR A9 c9 (intR .i64) z8.Keep]) (fun g => j3 g) ?_ ?_
        · subst hj3
          clear hM
          rintro y15 w16 hm16 hM
          replace hm16 : Hp Z0 No w w16 [slR A0 c0 T_limnographlaw18_Act.rep x0, rdR b8 o8 [.int .i64 (z8.Kind), Str (z8.A), Str (z8.B), .int .i64 (z8.N), .int .i64 (z8.Code), .slice A9 (z8.Keep).length c9], slR A9 c9 (intR .i64) z8.Keep] := hm16
          show Rn _ _ _ _ _ [(0, .slice A0 (x0).length c0), (3, .int .i64 (y5)), (37, .bool (y15))] _
          try dsimp only at hM
          refine Rn.regEnd ?_
          refine Rn.condS rfl (fun h17 => ?_) (fun h17 => ?_)
          · replace hM := iteT h17 hM
            refine Rn.seq (Rn.reg (Rn.v rfl rfl rfl rfl (V.as rfl) (Rn.regEnd ?_)))
            refine Rn.retG1 Try.func10 rfl (rvT rfl) ?_
            obtain rfl := someE hM
            exact ⟨rfl, hm16.pick [] rfl (by decide)⟩
          · replace hM := iteF (by rw [h17]; exact Bool.false_ne_true) hM
            refine Rn.skip (Rn.inBlock (Rn.reg (Rn.v rfl rfl rfl rfl (V.mv rfl) (Rn.v rfl rfl rfl rfl (V.addW rfl rfl) (Rn.v rfl rfl rfl rfl (V.as rfl) (Rn.regEnd ?_))))))
            exact hn6 (W64 (y5 + 1)) _ _ (Sub.cons rfl (Sub.cons rfl (Sub.nil _))) (hm16.pick [0] rfl (by decide)) hM
        intro hk3
        clear hj3
        refine Rn.part (t := 29) rfl (fun h18 => ?_) (fun h18 => ?_)
        · replace hM := iteT h18 hM
          refine Rn.no rfl rfl rfl rfl (Rn.no rfl rfl rfl rfl (Rn.no rfl rfl rfl rfl (Rn.no rfl rfl rfl rfl (Rn.no rfl rfl rfl rfl (Rn.no rfl rfl rfl rfl (Rn.no rfl rfl rfl rfl (Rn.v rfl rfl rfl rfl (V.pkT rfl rfl) ?_)))))))
          exact hk3 true _ _ (Sub.cons rfl (Sub.cons rfl (Sub.cons rfl (Sub.nil _)))) (hm14.pick [0, 1, 2] rfl (by decide)) hM
        · replace hM := iteF (by rw [h18]; exact Bool.false_ne_true) hM
          refine Rn.v rfl rfl rfl rfl (V.mv rfl) (Rn.v rfl rfl rfl rfl (V.mv rfl) ?_)
          obtain ⟨z19, e19, hM⟩ := bindE hM
          refine Rn.ixH hm14 0 rfl e19 rfl rfl rfl Try.underlying35 Try.sizeOf42 rfl rfl rfl rfl ?_
          rintro b19 o19 vs19 ⟨_, _, rfl, ⟨rfl, _⟩, ⟨_, _, rfl, ⟨rfl, _⟩, ⟨_, _, rfl, ⟨rfl, _⟩, ⟨_, _, rfl, ⟨rfl, _⟩, ⟨_, _, rfl, ⟨rfl, _⟩, ⟨A20, c20, rfl, p20, q20, s20⟩⟩⟩⟩⟩⟩ hm19
          have hm23 : Hp Z0 No w w14 [slR A0 c0 T_limnographlaw18_Act.rep x0, rdR b8 o8 [.int .i64 (z8.Kind), Str (z8.A), Str (z8.B), .int .i64 (z8.N), .int .i64 (z8.Code), .slice A9 (z8.Keep).length c9], slR A9 c9 (intR .i64) z8.Keep, rdR b19 o19 [.int .i64 (z19.Kind), Str (z19.A), Str (z19.B), .int .i64 (z19.N), .int .i64 (z19.Code), .slice A20 (z19.Keep).length c20], slR A20 c20 (intR .i64) z19.Keep] := Hp.know1 (M := [slR A20 c20 (intR .i64) z19.Keep]) hm19 (fun _ h => h) (knC (fun _ h => h) ⟨p20, q20, s20⟩ kn0)
          refine Rn.v rfl rfl rfl rfl (V.fa Try.underlying42 rfl Try.sizeOf36 rfl rfl) (Rn.v rfl rfl rfl rfl (V.ldR Try.isAgg36 rfl (hm23.get 3 rfl).2 rfl) (Rn.v rfl rfl rfl rfl (V.lenV Try.underlying36 rfl) (Rn.v rfl rfl rfl rfl (V.gtr rfl rfl) (Rn.v rfl rfl rfl rfl (V.pkF rfl rfl) ?_))))
          exact hk3 (decide ((z19.Keep.length : Int) > 100)) _ _ (Sub.cons rfl (Sub.cons rfl (Sub.cons rfl (Sub.nil _)))) (hm23.pick [0, 1, 2] rfl (by decide)) hM
      intro hk2
      clear hj2
      refine Rn.partD (t := 20) rfl (fun h24 => ?_) (fun h24 => ?_)
      · replace hM := iteT h24 hM
        refine Rn.no rfl rfl rfl rfl (Rn.no rfl rfl rfl rfl (Rn.no rfl rfl rfl rfl (Rn.no rfl rfl rfl rfl (Rn.no rfl rfl rfl rfl (Rn.no rfl rfl rfl rfl (Rn.no rfl rfl rfl rfl (Rn.v rfl rfl rfl rfl (V.pkT rfl rfl) ?_)))))))
        exact hk2 true _ _ (Sub.cons rfl (Sub.cons rfl (Sub.cons rfl (Sub.nil _)))) (hm12.pick [0, 1, 2] rfl (by decide)) hM
      · replace hM := iteF h24 hM
        refine Rn.v rfl rfl rfl rfl (V.mv rfl) (Rn.v rfl rfl rfl rfl (V.mv rfl) ?_)
        obtain ⟨z25, e25, hM⟩ := bindE hM
        refine Rn.ixH hm12 0 rfl e25 rfl rfl rfl Try.underlying35 Try.sizeOf42 rfl rfl rfl rfl ?_
        rintro b25 o25 vs25 ⟨_, _, rfl, ⟨rfl, _⟩, ⟨_, _, rfl, ⟨rfl, _⟩, ⟨_, _, rfl, ⟨rfl, _⟩, ⟨_, _, rfl, ⟨rfl, _⟩, ⟨_, _, rfl, ⟨rfl, _⟩, ⟨A26, c26, rfl, p26, q26, s26⟩⟩⟩⟩⟩⟩ hm25
        have hm29 : Hp Z0 No w w6 [slR A0 c0 T_limnographlaw18_Act.rep x0, rdR b8 o8 [.int .i64 (z8.Kind), Str (z8.A), Str (z8.B), .int .i64 (z8.N), .int .i64 (z8.Code), .slice A9 (z8.Keep).length c9], slR A9 c9 (intR .i64) z8.Keep, rdR b25 o25 [.int .i64 (z25.Kind), Str (z25.A), Str (z25.B), .int .i64 (z25.N), .int .i64 (z25.Code), .slice A26 (z25.Keep).length c26], slR A26 c26 (intR .i64) z25.Keep] := Hp.know1 (M := [slR A26 c26 (intR .i64) z25.Keep]) hm25 (fun _ h => h) (knC (fun _ h => h) ⟨p26, q26, s26⟩ kn0)
        refine Rn.v rfl rfl rfl rfl (V.fa Try.underlying42 rfl Try.sizeOf9 rfl rfl) (Rn.v rfl rfl rfl rfl (V.ldR Try.isAgg9 rfl (hm29.get 3 rfl).2 rfl) (Rn.v rfl rfl rfl rfl (V.lenS Try.underlying9 rfl) (Rn.v rfl rfl rfl rfl (V.gtr rfl rfl) (Rn.v rfl rfl rfl rfl (V.pkF rfl rfl) ?_))))
        exact hk2 (decide ((z25.B.length : Int) > 100)) _ _ (Sub.cons rfl (Sub.cons rfl (Sub.cons rfl (Sub.nil _)))) (hm29.pick [0, 1, 2] rfl (by decide)) hM
    · replace hM := iteF h7 hM
      refine Rn.exit rfl ?_
      exact hk1 () _ _ (Sub.nil _) (hm6.pick [0] rfl (by decide)) hM

set_option maxRecDepth 20000 in
theorem m_limnographref18_Name_sim {Z0 : Nat → Prop} (w : World) (x0 : (List UInt8)) {r : Bool}  (hM : m_limnographref18_Name x0 = some r) :
    Calls Try.prog 29 #[Str (x0)] w fun x w' => x = .returned (.bool (r)) ∧ Hp Z0 No w w' [] := by
  have hm0 := Hp.nil Z0 No w
  have hc0 := Calm.nil
  refine Rn.enter Try.func29 rfl rfl (Nat.le_of_ble_eq_true rfl) ?_
  refine Rn.seq (Rn.reg (Rn.v rfl rfl rfl rfl (V.as rfl) (Rn.regEnd (Rn.seq (Rn.seq (Rn.reg (Rn.v rfl rfl rfl rfl (V.mv rfl) (Rn.v rfl rfl rfl rfl (V.lenS Try.underlying9 rfl) (Rn.v rfl rfl rfl rfl (V.lss rfl rfl) (Rn.v rfl rfl rfl rfl (V.mv rfl) ?_))))))))))
  refine Rn.cutR [] [(0, Str (x0)), (12, .bool (decide (((x0.length : Int) < 1) ∨ ((x0.length : Int) > 32))))] (fun hk1 => ?_) ?_
  · refine Rn.partD (t := 8) rfl (fun h2 => ?_) (fun h2 => ?_)
    · refine Rn.no rfl rfl rfl rfl (Rn.no rfl rfl rfl rfl (Rn.no rfl rfl rfl rfl (Rn.v rfl rfl rfl rfl (V.pkT rfl rfl) ?_)))
      refine hk1 _ ?_
      exact Sub.cons rfl (Sub.cons (lkv _ rfl (by first | exact andT h2 | exact andF h2 | exact orT h2 | exact orF h2 | exact nandF h2 | exact nandT h2 | exact norT h2 | exact norF h2 | (simp [h2]; done) | grind)) (Sub.nil _))
    · refine Rn.v rfl rfl rfl rfl (V.mv rfl) (Rn.v rfl rfl rfl rfl (V.lenS Try.underlying9 rfl) (Rn.v rfl rfl rfl rfl (V.gtr rfl rfl) (Rn.v rfl rfl rfl rfl (V.pkF rfl rfl) ?_)))
      refine hk1 _ ?_
      exact Sub.cons rfl (Sub.cons (lkv _ rfl (by first | exact andT h2 | exact andF h2 | exact orT h2 | exact orF h2 | exact nandF h2 | exact nandT h2 | exact norT h2 | exact norF h2 | (simp [h2]; done) | grind)) (Sub.nil _))
  refine Rn.regEnd ?_
  refine Rn.condD rfl (fun h3 => ?_) (fun h3 => ?_)
  · replace hM := iteT h3 hM
    refine Rn.seq (Rn.reg (Rn.v rfl rfl rfl rfl (V.as rfl) (Rn.regEnd ?_)))
    refine Rn.retG1 Try.func29 rfl (rvT rfl) ?_
    obtain rfl := someE hM
    exact ⟨rfl, hm0.pick [] rfl (by decide)⟩
  · replace hM := iteF h3 hM
    refine Rn.skip (Rn.seq (Rn.seq (Rn.reg (Rn.v rfl rfl rfl rfl (V.as rfl) (Rn.regEnd ?_)))))
    obtain ⟨j1, hj1, hM⟩ := jnE hM
    refine Rn.joinG (r := r) (G := Unit) (fun g => []) (fun g w' => Hp Z0 No w w' []) (fun g => j1 ()) ?_ ?_
    · subst hj1
      clear hM
      rintro _ w4 hm4 hM
      replace hm4 : Hp Z0 No w w4 [] := hm4
      show Rn _ _ _ _ _ [] _
      try dsimp only at hM
      refine Rn.seq (Rn.reg (Rn.v rfl rfl rfl rfl (V.as rfl) (Rn.regEnd ?_)))
      refine Rn.retG1 Try.func29 rfl (rvT rfl) ?_
      obtain rfl := someE hM
      exact ⟨rfl, hm4.pick [] rfl (by decide)⟩
    intro hk1
    clear hj1
    refine Rn.block ?_
    refine Rn.loopF (G := Int) (fun g => [(0, Str (x0)), (3, .int .i64 (g))]) (fun g w' => Hp Z0 No w w' []) (fun n g => m_limnographref18_Name_L1 x0 j1 n g) fuel 0 (Sub.cons rfl (Sub.cons rfl (Sub.nil _))) (hm0.pick [] rfl (by decide)) hM (fun _ => rfl) ?_
    clear hM
    rintro m6 y5 w6 hm6 hM hn6
    replace hm6 : Hp Z0 No w w6 [] := hm6
    show Rn _ _ _ _ _ [(0, Str (x0)), (3, .int .i64 (y5))] _
    replace hM : m_limnographref18_Name_L1 x0 j1 (m6 + 1) y5 = some r := hM
    rw [m_limnographref18_Name_L1] at hM
    refine Rn.seq (Rn.seq (Rn.reg (Rn.v rfl rfl rfl rfl (V.mv rfl) (Rn.v rfl rfl rfl rfl (V.mv rfl) (Rn.v rfl rfl rfl rfl (V.lenS Try.underlying9 rfl) (Rn.v rfl rfl rfl rfl (V.lss rfl rfl) (Rn.regEnd ?_)))))))
    refine Rn.condD rfl (fun h7 => ?_) (fun h7 => ?_)
    · replace hM := iteT h7 hM
      refine Rn.skip (Rn.seq (Rn.block (Rn.seq (Rn.reg (Rn.v rfl rfl rfl rfl (V.mv rfl) (Rn.v rfl rfl rfl rfl (V.mv rfl) ?_))))))
      obtain ⟨z8, e8, hM⟩ := bindE hM
      refine Rn.v rfl rfl rfl rfl (V.idxSZ Try.underlying9 rfl rfl e8) (Rn.v rfl rfl rfl rfl (V.as rfl) (Rn.regEnd (Rn.seq (Rn.reg (Rn.v rfl rfl rfl rfl (V.mv rfl) (Rn.v rfl rfl rfl rfl (V.geq rfl rfl) (Rn.v rfl rfl rfl rfl (V.mv rfl) ?_)))))))
      refine Rn.cutR [6, 7, 8, 9, 10, 11, 12, 13, 14, 15, 16, 17, 18, 19, 20, 21, 22, 23] [(0, Str (x0)), (3, .int .i64 (y5)), (4, .int .u8 (((z8).toNat : Nat) : Int)), (27, .bool (decide ((((z8).toNat : Int) ≥ 97) ∧ (((z8).toNat : Int) ≤ 122))))] (fun hk9 => ?_) ?_
      · refine Rn.partD (t := 24) rfl (fun h10 => ?_) (fun h10 => ?_)
        · refine Rn.v rfl rfl rfl rfl (V.mv rfl) (Rn.v rfl rfl rfl rfl (V.leq rfl rfl) (Rn.v rfl rfl rfl rfl (V.pkT rfl rfl) ?_))
          refine hk9 _ ?_
          exact Sub.cons rfl (Sub.cons rfl (Sub.cons rfl (Sub.cons (lkv _ rfl (by first | exact andT h10 | exact andF h10 | exact orT h10 | exact orF h10 | exact nandF h10 | exact nandT h10 | exact norT h10 | exact norF h10 | (simp [h10]; done) | grind)) (Sub.nil _))))
        · refine Rn.no rfl rfl rfl rfl (Rn.no rfl rfl rfl rfl (Rn.v rfl rfl rfl rfl (V.pkF rfl rfl) ?_))
          refine hk9 _ ?_
          exact Sub.cons rfl (Sub.cons rfl (Sub.cons rfl (Sub.cons (lkv _ rfl (by first | exact andT h10 | exact andF h10 | exact orT h10 | exact orF h10 | exact nandF h10 | exact nandT h10 | exact norT h10 | exact norF h10 | (simp [h10]; done) | grind)) (Sub.nil _))))
      refine Rn.v rfl rfl rfl rfl (V.notD rfl) (Rn.v rfl rfl rfl rfl (V.mv rfl) ?_)
      refine Rn.cutR [16, 17, 18, 19, 20, 21, 22, 23] [(0, Str (x0)), (3, .int .i64 (y5)), (4, .int .u8 (((z8).toNat : Nat) : Int)), (37, .bool (decide ((¬ ((((z8).toNat : Int) ≥ 97) ∧ (((z8).toNat : Int) ≤ 122))) ∧ (¬ ((((z8).toNat : Int) ≥ 48) ∧ (((z8).toNat : Int) ≤ 57))))))] (fun hk11 => ?_) ?_
      · refine Rn.partD (t := 29) rfl (fun h12 => ?_) (fun h12 => ?_)
        · refine Rn.v rfl rfl rfl rfl (V.mv rfl) (Rn.v rfl rfl rfl rfl (V.geq rfl rfl) (Rn.v rfl rfl rfl rfl (V.mv rfl) ?_))
          refine Rn.cutR [14, 15, 16, 17, 18, 19, 20, 21, 22, 23] [(0, Str (x0)), (3, .int .i64 (y5)), (4, .int .u8 (((z8).toNat : Nat) : Int)), (29, .bool true), (35, .bool (decide ((((z8).toNat : Int) ≥ 48) ∧ (((z8).toNat : Int) ≤ 57))))] (fun hk13 => ?_) ?_
          · refine Rn.partD (t := 32) rfl (fun h14 => ?_) (fun h14 => ?_)
            · refine Rn.v rfl rfl rfl rfl (V.mv rfl) (Rn.v rfl rfl rfl rfl (V.leq rfl rfl) (Rn.v rfl rfl rfl rfl (V.pkT rfl rfl) ?_))
              refine hk13 _ ?_
              exact Sub.cons rfl (Sub.cons rfl (Sub.cons rfl (Sub.cons rfl (Sub.cons (lkv _ rfl (by first | exact andT h14 | exact andF h14 | exact orT h14 | exact orF h14 | exact nandF h14 | exact nandT h14 | exact norT h14 | exact norF h14 | (simp [h14]; done) | grind)) (Sub.nil _)))))
            · refine Rn.no rfl rfl rfl rfl (Rn.no rfl rfl rfl rfl (Rn.v rfl rfl rfl rfl (V.pkF rfl rfl) ?_))
              refine hk13 _ ?_
              exact Sub.cons rfl (Sub.cons rfl (Sub.cons rfl (Sub.cons rfl (Sub.cons (lkv _ rfl (by first | exact andT h14 | exact andF h14 | exact orT h14 | exact orF h14 | exact nandF h14 | exact nandT h14 | exact norT h14 | exact norF h14 | (simp [h14]; done) | grind)) (Sub.nil _)))))
          refine Rn.v rfl rfl rfl rfl (V.notD rfl) (Rn.v rfl rfl rfl rfl (V.pkT rfl rfl) ?_)
          refine hk11 _ ?_
          exact Sub.cons rfl (Sub.cons rfl (Sub.cons rfl (Sub.cons (lkv _ rfl (by first | exact andT h12 | exact andF h12 | exact orT h12 | exact orF h12 | exact nandF h12 | exact nandT h12 | exact norT h12 | exact norF h12 | (simp [h12]; done) | grind)) (Sub.nil _))))
        · refine Rn.no rfl rfl rfl rfl (Rn.no rfl rfl rfl rfl (Rn.no rfl rfl rfl rfl (Rn.no rfl rfl rfl rfl (Rn.no rfl rfl rfl rfl (Rn.no rfl rfl rfl rfl (Rn.no rfl rfl rfl rfl (Rn.v rfl rfl rfl rfl (V.pkF rfl rfl) ?_)))))))
          refine hk11 _ ?_
          exact Sub.cons rfl (Sub.cons rfl (Sub.cons rfl (Sub.cons (lkv _ rfl (by first | exact andT h12 | exact andF h12 | exact orT h12 | exact orF h12 | exact nandF h12 | exact nandT h12 | exact norT h12 | exact norF h12 | (simp [h12]; done) | grind)) (Sub.nil _))))
      refine Rn.v rfl rfl rfl rfl (V.mv rfl) ?_
      refine Rn.cutR [20, 21, 22, 23] [(0, Str (x0)), (3, .int .i64 (y5)), (4, .int .u8 (((z8).toNat : Nat) : Int)), (41, .bool (decide (((¬ ((((z8).toNat : Int) ≥ 97) ∧ (((z8).toNat : Int) ≤ 122))) ∧ (¬ ((((z8).toNat : Int) ≥ 48) ∧ (((z8).toNat : Int) ≤ 57)))) ∧ (((z8).toNat : Int) ≠ 46))))] (fun hk15 => ?_) ?_
      · refine Rn.partD (t := 38) rfl (fun h16 => ?_) (fun h16 => ?_)
        · refine Rn.v rfl rfl rfl rfl (V.mv rfl) (Rn.v rfl rfl rfl rfl (V.neq rfl rfl) (Rn.v rfl rfl rfl rfl (V.pkT rfl rfl) ?_))
          refine hk15 _ ?_
          exact Sub.cons rfl (Sub.cons rfl (Sub.cons rfl (Sub.cons (lkv _ rfl (by first | exact andT h16 | exact andF h16 | exact orT h16 | exact orF h16 | exact nandF h16 | exact nandT h16 | exact norT h16 | exact norF h16 | (simp [h16]; done) | grind)) (Sub.nil _))))
        · refine Rn.no rfl rfl rfl rfl (Rn.no rfl rfl rfl rfl (Rn.v rfl rfl rfl rfl (V.pkF rfl rfl) ?_))
          refine hk15 _ ?_
          exact Sub.cons rfl (Sub.cons rfl (Sub.cons rfl (Sub.cons (lkv _ rfl (by first | exact andT h16 | exact andF h16 | exact orT h16 | exact orF h16 | exact nandF h16 | exact nandT h16 | exact norT h16 | exact norF h16 | (simp [h16]; done) | grind)) (Sub.nil _))))
      refine Rn.v rfl rfl rfl rfl (V.mv rfl) ?_
      refine Rn.cutR [] [(0, Str (x0)), (3, .int .i64 (y5)), (45, .bool (decide ((((¬ ((((z8).toNat : Int) ≥ 97) ∧ (((z8).toNat : Int) ≤ 122))) ∧ (¬ ((((z8).toNat : Int) ≥ 48) ∧ (((z8).toNat : Int) ≤ 57)))) ∧ (((z8).toNat : Int) ≠ 46)) ∧ (((z8).toNat : Int) ≠ 45))))] (fun hk17 => ?_) ?_
      · refine Rn.partD (t := 42) rfl (fun h18 => ?_) (fun h18 => ?_)
        · refine Rn.v rfl rfl rfl rfl (V.mv rfl) (Rn.v rfl rfl rfl rfl (V.neq rfl rfl) (Rn.v rfl rfl rfl rfl (V.pkT rfl rfl) ?_))
          refine hk17 _ ?_
          exact Sub.cons rfl (Sub.cons rfl (Sub.cons (lkv _ rfl (by first | exact andT h18 | exact andF h18 | exact orT h18 | exact orF h18 | exact nandF h18 | exact nandT h18 | exact norT h18 | exact norF h18 | (simp [h18]; done) | grind)) (Sub.nil _)))
        · refine Rn.no rfl rfl rfl rfl (Rn.no rfl rfl rfl rfl (Rn.v rfl rfl rfl rfl (V.pkF rfl rfl) ?_))
          refine hk17 _ ?_
          exact Sub.cons rfl (Sub.cons rfl (Sub.cons (lkv _ rfl (by first | exact andT h18 | exact andF h18 | exact orT h18 | exact orF h18 | exact nandF h18 | exact nandT h18 | exact norT h18 | exact norF h18 | (simp [h18]; done) | grind)) (Sub.nil _)))
      refine Rn.regEnd ?_
      refine Rn.condD rfl (fun h19 => ?_) (fun h19 => ?_)
      · replace hM := iteT h19 hM
        refine Rn.seq (Rn.reg (Rn.v rfl rfl rfl rfl (V.as rfl) (Rn.regEnd ?_)))
        refine Rn.retG1 Try.func29 rfl (rvT rfl) ?_
        obtain rfl := someE hM
        exact ⟨rfl, hm6.pick [] rfl (by decide)⟩
      · replace hM := iteF h19 hM
        refine Rn.skip (Rn.inBlock (Rn.reg (Rn.v rfl rfl rfl rfl (V.mv rfl) (Rn.v rfl rfl rfl rfl (V.addW rfl rfl) (Rn.v rfl rfl rfl rfl (V.as rfl) (Rn.regEnd ?_))))))
        exact hn6 (W64 (y5 + 1)) _ _ (Sub.cons rfl (Sub.cons rfl (Sub.nil _))) (hm6.pick [] rfl (by decide)) hM
    · replace hM := iteF h7 hM
      refine Rn.exit rfl ?_
      exact hk1 () _ _ (Sub.nil _) (hm6.pick [] rfl (by decide)) hM

set_option maxRecDepth 20000 in
theorem m_limnographref18_Disk_Find_sim {Z0 : Nat → Prop} (w : World) (F0 : Nat → Prop) (b0 : Nat) (x0 : T_limnographref18_Disk) (x1 : (List UInt8)) {r : Int} (f0 : (fzR (T_limnographref18_Disk.obj F0 b0 x0)).H Z0 w) (hM : m_limnographref18_Disk_Find x0 x1 = some r) :
    Calls Try.prog 30 #[.pointer (some ⟨b0, 0, none⟩), Str (x1)] w fun x w' => x = .returned (.int .i64 (r)) ∧ Hp Z0 No w w' [] := by
  have hm0 := Hp.nil Z0 No w
  have hc0 := Calm.nil
  have hm2 := hm0.know (fzR (T_limnographref18_Disk.obj F0 b0 x0)) (fun _ h => h) (hm0.in0 hc0 f0)
  replace hc0 := hc0.snoc (r := fzR (T_limnographref18_Disk.obj F0 b0 x0)) (fun _ h => h)
  refine Rn.enter Try.func30 rfl rfl (Nat.le_of_ble_eq_true rfl) ?_
  refine Rn.seq (Rn.reg (Rn.v rfl rfl rfl rfl (V.as rfl) (Rn.regEnd (Rn.seq (Rn.seq (Rn.reg (Rn.v rfl rfl rfl rfl (V.as rfl) (Rn.regEnd ?_))))))))
  obtain ⟨j1, hj1, hM⟩ := jnE hM
  refine Rn.joinG (r := r) (G := Unit) (fun g => []) (fun g w' => Hp Z0 No w w' [fzR (T_limnographref18_Disk.obj F0 b0 x0)]) (fun g => j1 ()) ?_ ?_
  · subst hj1
    clear hM
    rintro _ w3 hm3 hM
    replace hm3 : Hp Z0 No w w3 [fzR (T_limnographref18_Disk.obj F0 b0 x0)] := hm3
    show Rn _ _ _ _ _ [] _
    try dsimp only at hM
    refine Rn.seq (Rn.reg (Rn.v rfl rfl rfl rfl (V.as rfl) (Rn.regEnd ?_)))
    refine Rn.retG1 Try.func30 rfl (rvT rfl) ?_
    obtain rfl := someE hM
    exact ⟨rfl, hm3.pick [] rfl (by decide)⟩
  intro hk1
  clear hj1
  refine Rn.block ?_
  refine Rn.loopF (G := Int) (fun g => [(0, .pointer (some ⟨b0, 0, none⟩)), (1, Str (x1)), (5, .int .i64 (g))]) (fun g w' => Hp Z0 No w w' [fzR (T_limnographref18_Disk.obj F0 b0 x0)]) (fun n g => m_limnographref18_Disk_Find_L1 x0 x1 j1 n g) fuel 0 (Sub.cons rfl (Sub.cons rfl (Sub.cons rfl (Sub.nil _)))) (hm2.pick [0] rfl (by decide)) hM (fun _ => rfl) ?_
  clear hM
  rintro m5 y4 w5 hm5 hM hn5
  replace hm5 : Hp Z0 No w w5 [fzR (T_limnographref18_Disk.obj F0 b0 x0)] := hm5
  show Rn _ _ _ _ _ [(0, .pointer (some ⟨b0, 0, none⟩)), (1, Str (x1)), (5, .int .i64 (y4))] _
  replace hM : m_limnographref18_Disk_Find_L1 x0 x1 j1 (m5 + 1) y4 = some r := hM
  rw [m_limnographref18_Disk_Find_L1] at hM
  refine Rn.seq (Rn.seq (Rn.reg (Rn.v rfl rfl rfl rfl (V.mv rfl) (Rn.v rfl rfl rfl rfl (V.mv rfl) (Rn.v rfl rfl rfl rfl (V.nil rfl) (Rn.v rfl rfl rfl rfl (V.fa Try.underlying74 rfl Try.sizeOf72 rfl rfl) ?_))))))
  obtain ⟨_, ⟨A6_0, c6_0, rfl⟩, hm6⟩ := hm5.unfz 0 rfl
  replace hm6 : Hp Z0 No w w5 [fzR (T_limnographref18_Disk.obj F0 b0 x0), fzR (boxR b0 74 [.slice A6_0 (x0.L).length c6_0, .int .i64 (x0.Capacity), .bool (x0.Down), .int .i64 (x0.Calls), .int .i64 (x0.Fail), .int .i64 (x0.Crash), .int .i64 (x0.Err)]), fzR (ownR 78 A6_0 c6_0 T_limnographref18_File.rep x0.L)] := hm6
  have hm10 := hm6.fzSl 2 rfl
  refine Rn.v rfl rfl rfl rfl (V.ldB Try.isAgg72 rfl (hm10.getz 1 rfl) rfl) (Rn.v rfl rfl rfl rfl (V.lenV Try.underlying72 rfl) (Rn.v rfl rfl rfl rfl (V.lss rfl rfl) (Rn.regEnd ?_)))
  refine Rn.condD rfl (fun h11 => ?_) (fun h11 => ?_)
  · replace hM := iteT h11 hM
    refine Rn.skip (Rn.seq (Rn.block (Rn.seq (Rn.reg (Rn.v rfl rfl rfl rfl (V.mv rfl) (Rn.v rfl rfl rfl rfl (V.nil rfl) (Rn.v rfl rfl rfl rfl (V.fa Try.underlying74 rfl Try.sizeOf72 rfl rfl) (Rn.v rfl rfl rfl rfl (V.ldB Try.isAgg72 rfl (hm10.getz 1 rfl) rfl) (Rn.v rfl rfl rfl rfl (V.mv rfl) ?_)))))))))
    obtain ⟨z12, e12, hM⟩ := bindE hM
    refine Rn.ixH hm10 3 rfl e12 rfl rfl rfl Try.underlying72 Try.sizeOf78 rfl rfl rfl rfl ?_
    rintro b12 o12 vs12 ⟨_, _, rfl, ⟨rfl, _⟩, ⟨_, _, rfl, ⟨A13, c13, rfl, p13, q13, s13⟩, ⟨rfl, _⟩⟩⟩ hm12
    have hm16 : Hp Z0 No w w5 [fzR (T_limnographref18_Disk.obj F0 b0 x0), fzR (boxR b0 74 [.slice A6_0 (x0.L).length c6_0, .int .i64 (x0.Capacity), .bool (x0.Down), .int .i64 (x0.Calls), .int .i64 (x0.Fail), .int .i64 (x0.Crash), .int .i64 (x0.Err)]), fzR (ownR 78 A6_0 c6_0 T_limnographref18_File.rep x0.L), slR A6_0 c6_0 T_limnographref18_File.rep x0.L, rdR b12 o12 [Str (z12.Name), .slice A13 (z12.Data).length c13, .int .i64 (z12.Sure)], slR A13 c13 byteR z12.Data] := Hp.know1 (M := [slR A13 c13 byteR z12.Data]) hm12 (fun _ h => h) (knC (fun _ h => h) ⟨p13, q13, s13⟩ kn0)
    refine Rn.v rfl rfl rfl rfl (V.fa Try.underlying78 rfl Try.sizeOf9 rfl rfl) (Rn.v rfl rfl rfl rfl (V.ldR0 Try.isAgg9 rfl (hm16.get 4 rfl).2 rfl) (Rn.v rfl rfl rfl rfl (V.mv rfl) (Rn.v rfl rfl rfl rfl (V.eqlS rfl rfl) (Rn.regEnd ?_))))
    refine Rn.condD rfl (fun h17 => ?_) (fun h17 => ?_)
    · replace hM := iteT h17 hM
      refine Rn.seq (Rn.reg (Rn.v rfl rfl rfl rfl (V.mv rfl) (Rn.v rfl rfl rfl rfl (V.as rfl) (Rn.regEnd ?_))))
      refine Rn.retG1 Try.func30 rfl (rvT rfl) ?_
      obtain rfl := someE hM
      exact ⟨rfl, hm16.pick [] rfl (by decide)⟩
    · replace hM := iteF h17 hM
      refine Rn.skip (Rn.inBlock (Rn.reg (Rn.v rfl rfl rfl rfl (V.mv rfl) (Rn.v rfl rfl rfl rfl (V.addW rfl rfl) (Rn.v rfl rfl rfl rfl (V.as rfl) (Rn.regEnd ?_))))))
      exact hn5 (W64 (y4 + 1)) _ _ (Sub.cons rfl (Sub.cons rfl (Sub.cons rfl (Sub.nil _)))) (hm16.pick [0] rfl (by decide)) hM
  · replace hM := iteF h11 hM
    refine Rn.exit rfl ?_
    exact hk1 () _ _ (Sub.nil _) (hm10.pick [0] rfl (by decide)) hM

set_option maxRecDepth 20000 in
theorem m_limnographref18_Disk_Used_sim {Z0 : Nat → Prop} (w : World) (F0 : Nat → Prop) (b0 : Nat) (x0 : T_limnographref18_Disk) {r : Int} (f0 : (fzR (T_limnographref18_Disk.obj F0 b0 x0)).H Z0 w) (hM : m_limnographref18_Disk_Used x0 = some r) :
    Calls Try.prog 31 #[.pointer (some ⟨b0, 0, none⟩)] w fun x w' => x = .returned (.int .i64 (r)) ∧ Hp Z0 No w w' [] := by
  have hm0 := Hp.nil Z0 No w
  have hc0 := Calm.nil
  have hm2 := hm0.know (fzR (T_limnographref18_Disk.obj F0 b0 x0)) (fun _ h => h) (hm0.in0 hc0 f0)
  replace hc0 := hc0.snoc (r := fzR (T_limnographref18_Disk.obj F0 b0 x0)) (fun _ h => h)
  refine Rn.enter Try.func31 rfl rfl (Nat.le_of_ble_eq_true rfl) ?_
  refine Rn.seq (Rn.reg (Rn.v rfl rfl rfl rfl (V.as rfl) (Rn.regEnd (Rn.seq (Rn.reg (Rn.v rfl rfl rfl rfl (V.as rfl) (Rn.regEnd (Rn.seq (Rn.seq (Rn.reg (Rn.v rfl rfl rfl rfl (V.as rfl) (Rn.regEnd ?_))))))))))))
  obtain ⟨j1, hj1, hM⟩ := jnE hM
  refine Rn.joinG (r := r) (G := Int) (fun g => [(3, .int .i64 (g))]) (fun g w' => Hp Z0 No w w' [fzR (T_limnographref18_Disk.obj F0 b0 x0)]) (fun g => j1 g) ?_ ?_
  · subst hj1
    clear hM
    rintro y3 w4 hm4 hM
    replace hm4 : Hp Z0 No w w4 [fzR (T_limnographref18_Disk.obj F0 b0 x0)] := hm4
    show Rn _ _ _ _ _ [(3, .int .i64 (y3))] _
    try dsimp only at hM
    refine Rn.seq (Rn.reg (Rn.v rfl rfl rfl rfl (V.mv rfl) (Rn.v rfl rfl rfl rfl (V.as rfl) (Rn.regEnd ?_))))
    refine Rn.retG1 Try.func31 rfl (rvT rfl) ?_
    obtain rfl := someE hM
    exact ⟨rfl, hm4.pick [] rfl (by decide)⟩
  intro hk1
  clear hj1
  refine Rn.block ?_
  refine Rn.loopF (G := Int × Int) (fun g => [(0, .pointer (some ⟨b0, 0, none⟩)), (3, .int .i64 ((g.1))), (4, .int .i64 ((g.2)))]) (fun g w' => Hp Z0 No w w' [fzR (T_limnographref18_Disk.obj F0 b0 x0)]) (fun n g => m_limnographref18_Disk_Used_L1 x0 j1 n g.1 g.2) fuel (0, 0) (Sub.cons rfl (Sub.cons rfl (Sub.cons rfl (Sub.nil _)))) (hm2.pick [0] rfl (by decide)) hM (fun _ => rfl) ?_
  clear hM
  rintro m7 ⟨y5, y6⟩ w7 hm7 hM hn7
  replace hm7 : Hp Z0 No w w7 [fzR (T_limnographref18_Disk.obj F0 b0 x0)] := hm7
  show Rn _ _ _ _ _ [(0, .pointer (some ⟨b0, 0, none⟩)), (3, .int .i64 (y5)), (4, .int .i64 (y6))] _
  replace hM : m_limnographref18_Disk_Used_L1 x0 j1 (m7 + 1) y5 y6 = some r := hM
  rw [m_limnographref18_Disk_Used_L1] at hM
  refine Rn.seq (Rn.seq (Rn.reg (Rn.v rfl rfl rfl rfl (V.mv rfl) (Rn.v rfl rfl rfl rfl (V.mv rfl) (Rn.v rfl rfl rfl rfl (V.nil rfl) (Rn.v rfl rfl rfl rfl (V.fa Try.underlying74 rfl Try.sizeOf72 rfl rfl) ?_))))))
  obtain ⟨_, ⟨A8_0, c8_0, rfl⟩, hm8⟩ := hm7.unfz 0 rfl
  replace hm8 : Hp Z0 No w w7 [fzR (T_limnographref18_Disk.obj F0 b0 x0), fzR (boxR b0 74 [.slice A8_0 (x0.L).length c8_0, .int .i64 (x0.Capacity), .bool (x0.Down), .int .i64 (x0.Calls), .int .i64 (x0.Fail), .int .i64 (x0.Crash), .int .i64 (x0.Err)]), fzR (ownR 78 A8_0 c8_0 T_limnographref18_File.rep x0.L)] := hm8
  have hm12 := hm8.fzSl 2 rfl
  refine Rn.v rfl rfl rfl rfl (V.ldB Try.isAgg72 rfl (hm12.getz 1 rfl) rfl) (Rn.v rfl rfl rfl rfl (V.lenV Try.underlying72 rfl) (Rn.v rfl rfl rfl rfl (V.lss rfl rfl) (Rn.regEnd ?_)))
  refine Rn.condD rfl (fun h13 => ?_) (fun h13 => ?_)
  · replace hM := iteT h13 hM
    refine Rn.skip (Rn.seq (Rn.block (Rn.reg (Rn.v rfl rfl rfl rfl (V.mv rfl) (Rn.v rfl rfl rfl rfl (V.mv rfl) (Rn.v rfl rfl rfl rfl (V.nil rfl) (Rn.v rfl rfl rfl rfl (V.fa Try.underlying74 rfl Try.sizeOf72 rfl rfl) (Rn.v rfl rfl rfl rfl (V.ldB Try.isAgg72 rfl (hm12.getz 1 rfl) rfl) (Rn.v rfl rfl rfl rfl (V.mv rfl) ?_)))))))))
    obtain ⟨z14, e14, hM⟩ := bindE hM
    refine Rn.ixH hm12 3 rfl e14 rfl rfl rfl Try.underlying72 Try.sizeOf78 rfl rfl rfl rfl ?_
    rintro b14 o14 vs14 ⟨_, _, rfl, ⟨rfl, _⟩, ⟨_, _, rfl, ⟨A15, c15, rfl, p15, q15, s15⟩, ⟨rfl, _⟩⟩⟩ hm14
    have hm18 : Hp Z0 No w w7 [fzR (T_limnographref18_Disk.obj F0 b0 x0), fzR (boxR b0 74 [.slice A8_0 (x0.L).length c8_0, .int .i64 (x0.Capacity), .bool (x0.Down), .int .i64 (x0.Calls), .int .i64 (x0.Fail), .int .i64 (x0.Crash), .int .i64 (x0.Err)]), fzR (ownR 78 A8_0 c8_0 T_limnographref18_File.rep x0.L), slR A8_0 c8_0 T_limnographref18_File.rep x0.L, rdR b14 o14 [Str (z14.Name), .slice A15 (z14.Data).length c15, .int .i64 (z14.Sure)], slR A15 c15 byteR z14.Data] := Hp.know1 (M := [slR A15 c15 byteR z14.Data]) hm14 (fun _ h => h) (knC (fun _ h => h) ⟨p15, q15, s15⟩ kn0)
    refine Rn.v rfl rfl rfl rfl (V.fa Try.underlying78 rfl Try.sizeOf24 rfl rfl) (Rn.v rfl rfl rfl rfl (V.ldR Try.isAgg24 rfl (hm18.get 4 rfl).2 rfl) (Rn.v rfl rfl rfl rfl (V.lenV Try.underlying24 rfl) (Rn.v rfl rfl rfl rfl (V.addW rfl rfl) (Rn.v rfl rfl rfl rfl (V.as rfl) (Rn.regEnd (Rn.inBlock (Rn.reg (Rn.v rfl rfl rfl rfl (V.mv rfl) (Rn.v rfl rfl rfl rfl (V.addW rfl rfl) (Rn.v rfl rfl rfl rfl (V.as rfl) (Rn.regEnd ?_)))))))))))
    exact hn7 ((W64 (y5 + (z14.Data.length : Int))), (W64 (y6 + 1))) _ _ (Sub.cons rfl (Sub.cons rfl (Sub.cons rfl (Sub.nil _)))) (hm18.pick [0] rfl (by decide)) hM
  · replace hM := iteF h13 hM
    refine Rn.exit rfl ?_
    exact hk1 y5 _ _ (Sub.cons rfl (Sub.nil _)) (hm12.pick [0] rfl (by decide)) hM

set_option maxRecDepth 20000 in
theorem m_limnographref18_Disk_without_sim {Z0 : Nat → Prop} (w : World) (F0 : Nat → Prop) (b0 : Nat) (x0 : T_limnographref18_Disk) (x1 : (List UInt8)) {r : (List T_limnographref18_File)} (hL : Lent Z0 w [T_limnographref18_Disk.obj F0 b0 x0]) (hM : m_limnographref18_Disk_without x0 x1 = some r) :
    Calls Try.prog 51 #[.pointer (some ⟨b0, 0, none⟩), Str (x1)] w fun x w' => ∃ A_0_0 c_0_0 F_p0, x = .returned (.slice A_0_0 (r).length c_0_0) ∧ Hp Z0 (LS [T_limnographref18_Disk.obj F0 b0 x0]) w w' [ownR 78 A_0_0 c_0_0 T_limnographref18_File.rep r, T_limnographref18_Disk.obj F_p0 b0 x0] := by
  have hm0 := hL.start
  refine Rn.enter Try.func51 rfl rfl (Nat.le_of_ble_eq_true rfl) ?_
  refine Rn.seq (Rn.reg (Rn.v rfl rfl rfl rfl (V.as rfl) (Rn.regEnd (Rn.seq (Rn.reg (Rn.v rfl rfl rfl rfl (V.as rfl) (Rn.regEnd (Rn.seq (Rn.seq (Rn.reg (Rn.v rfl rfl rfl rfl (V.as rfl) (Rn.regEnd ?_))))))))))))
  obtain ⟨j1, hj1, hM⟩ := jnE hM
  refine Rn.joinG (r := r) (G := (List T_limnographref18_File) × (Nat → Prop) × Option Addr × Nat) (fun g => [(5, .slice (g.2.2.1) ((g.1)).length (g.2.2.2))]) (fun g w' => Hp Z0 (LS [T_limnographref18_Disk.obj F0 b0 x0]) w w' [T_limnographref18_Disk.obj (g.2.1) b0 x0, ownR 78 (g.2.2.1) (g.2.2.2) T_limnographref18_File.rep (g.1)]) (fun g => j1 g.1) ?_ ?_
  · subst hj1
    clear hM
    rintro ⟨y3, F2, A4, c4⟩ w6 hm6 hM
    replace hm6 : Hp Z0 (LS [T_limnographref18_Disk.obj F0 b0 x0]) w w6 [T_limnographref18_Disk.obj F2 b0 x0, ownR 78 A4 c4 T_limnographref18_File.rep y3] := hm6
    show Rn _ _ _ _ _ [(5, .slice A4 (y3).length c4)] _
    try dsimp only at hM
    refine Rn.seq (Rn.reg (Rn.v rfl rfl rfl rfl (V.mv rfl) (Rn.v rfl rfl rfl rfl (V.as rfl) (Rn.regEnd ?_))))
    refine Rn.retG1 Try.func51 rfl (rvT rfl) ?_
    obtain rfl := someE hM
    exact ⟨A4, c4, F2, rfl, hm6.pick [1, 0] rfl (by decide)⟩
  intro hk1
  clear hj1
  refine Rn.block ?_
  have hm12 := hm0.addNil 78 T_limnographref18_File.rep
  refine Rn.loopF (G := (List T_limnographref18_File) × Int × (Nat → Prop) × Option Addr × Nat) (fun g => [(0, .pointer (some ⟨b0, 0, none⟩)), (1, Str (x1)), (5, .slice (g.2.2.2.1) ((g.1)).length (g.2.2.2.2)), (6, .int .i64 ((g.2.1)))]) (fun g w' => Hp Z0 (LS [T_limnographref18_Disk.obj F0 b0 x0]) w w' [T_limnographref18_Disk.obj (g.2.2.1) b0 x0, ownR 78 (g.2.2.2.1) (g.2.2.2.2) T_limnographref18_File.rep (g.1)]) (fun n g => m_limnographref18_Disk_without_L1 x0 x1 j1 n g.1 g.2.1) fuel (([] : List T_limnographref18_File), 0, F0, none, 0) (Sub.cons rfl (Sub.cons rfl (Sub.cons rfl (Sub.cons rfl (Sub.nil _))))) (hm12.pick [0, 1] rfl (by decide)) hM (fun _ => rfl) ?_
  clear hM
  rintro m14 ⟨y8, y11, F7, A9, c9⟩ w14 hm14 hM hn14
  replace hm14 : Hp Z0 (LS [T_limnographref18_Disk.obj F0 b0 x0]) w w14 [T_limnographref18_Disk.obj F7 b0 x0, ownR 78 A9 c9 T_limnographref18_File.rep y8] := hm14
  show Rn _ _ _ _ _ [(0, .pointer (some ⟨b0, 0, none⟩)), (1, Str (x1)), (5, .slice A9 (y8).length c9), (6, .int .i64 (y11))] _
  replace hM : m_limnographref18_Disk_without_L1 x0 x1 j1 (m14 + 1) y8 y11 = some r := hM
  rw [m_limnographref18_Disk_without_L1] at hM
  refine Rn.seq (Rn.seq (Rn.reg (Rn.v rfl rfl rfl rfl (V.mv rfl) (Rn.v rfl rfl rfl rfl (V.mv rfl) (Rn.v rfl rfl rfl rfl (V.nil rfl) (Rn.v rfl rfl rfl rfl (V.fa Try.underlying74 rfl Try.sizeOf72 rfl rfl) ?_))))))
  obtain ⟨_, ⟨A15_0, c15_0, rfl⟩, hm15⟩ := hm14.unf 0 rfl
  replace hm15 : Hp Z0 (LS [T_limnographref18_Disk.obj F0 b0 x0]) w w14 [ownR 78 A9 c9 T_limnographref18_File.rep y8, boxR b0 74 [.slice A15_0 (x0.L).length c15_0, .int .i64 (x0.Capacity), .bool (x0.Down), .int .i64 (x0.Calls), .int .i64 (x0.Fail), .int .i64 (x0.Crash), .int .i64 (x0.Err)], ownR 78 A15_0 c15_0 T_limnographref18_File.rep x0.L] := hm15
  refine Rn.v rfl rfl rfl rfl (V.ldB Try.isAgg72 rfl (hm15.get 1 rfl) rfl) (Rn.v rfl rfl rfl rfl (V.lenV Try.underlying72 rfl) (Rn.v rfl rfl rfl rfl (V.lss rfl rfl) (Rn.regEnd ?_)))
  refine Rn.condD rfl (fun h17 => ?_) (fun h17 => ?_)
  · replace hM := iteT h17 hM
    refine Rn.skip (Rn.seq ?_)
    have hm19 : Hp Z0 (LS [T_limnographref18_Disk.obj F0 b0 x0]) w w14 ([ownR 78 A9 c9 T_limnographref18_File.rep y8] ++ [boxR b0 74 [.slice A15_0 (x0.L).length c15_0, .int .i64 (x0.Capacity), .bool (x0.Down), .int .i64 (x0.Calls), .int .i64 (x0.Fail), .int .i64 (x0.Crash), .int .i64 (x0.Err)], ownR 78 A15_0 c15_0 T_limnographref18_File.rep x0.L]) := hm15.pick [0, 1, 2] rfl (by decide)
    obtain ⟨F18, hm18⟩ := hm19.fold (T_limnographref18_Disk.sh b0 x0) ⟨A15_0, c15_0, rfl⟩
    replace hm18 : Hp Z0 (LS [T_limnographref18_Disk.obj F0 b0 x0]) w w14 [ownR 78 A9 c9 T_limnographref18_File.rep y8, T_limnographref18_Disk.obj F18 b0 x0] := hm18
    obtain ⟨j2, hj2, hM⟩ := jnE hM
    refine Rn.joinG (r := r) (G := (List T_limnographref18_File) × (Nat → Prop) × Option Addr × Nat) (fun g => [(0, .pointer (some ⟨b0, 0, none⟩)), (1, Str (x1)), (5, .slice (g.2.2.1) ((g.1)).length (g.2.2.2)), (6, .int .i64 (y11))]) (fun g w' => Hp Z0 (LS [T_limnographref18_Disk.obj F0 b0 x0]) w w' [T_limnographref18_Disk.obj (g.2.1) b0 x0, ownR 78 (g.2.2.1) (g.2.2.2) T_limnographref18_File.rep (g.1)]) (fun g => j2 g.1) ?_ ?_
    · subst hj2
      clear hM
      rintro ⟨y21, F20, A22, c22⟩ w24 hm24 hM
      replace hm24 : Hp Z0 (LS [T_limnographref18_Disk.obj F0 b0 x0]) w w24 [T_limnographref18_Disk.obj F20 b0 x0, ownR 78 A22 c22 T_limnographref18_File.rep y21] := hm24
      show Rn _ _ _ _ _ [(0, .pointer (some ⟨b0, 0, none⟩)), (1, Str (x1)), (5, .slice A22 (y21).length c22), (6, .int .i64 (y11))] _
      try dsimp only at hM
      refine Rn.reg (Rn.v rfl rfl rfl rfl (V.mv rfl) (Rn.v rfl rfl rfl rfl (V.addW rfl rfl) (Rn.v rfl rfl rfl rfl (V.as rfl) (Rn.regEnd ?_))))
      exact hn14 (y21, (W64 (y11 + 1)), F20, A22, c22) _ _ (Sub.cons rfl (Sub.cons rfl (Sub.cons rfl (Sub.cons rfl (Sub.nil _))))) (hm24.pick [0, 1] rfl (by decide)) hM
    intro hk2
    clear hj2
    refine Rn.block (Rn.seq (Rn.reg (Rn.v rfl rfl rfl rfl (V.mv rfl) (Rn.v rfl rfl rfl rfl (V.nil rfl) (Rn.v rfl rfl rfl rfl (V.fa Try.underlying74 rfl Try.sizeOf72 rfl rfl) ?_)))))
    obtain ⟨_, ⟨A25_0, c25_0, rfl⟩, hm25⟩ := hm18.unf 1 rfl
    replace hm25 : Hp Z0 (LS [T_limnographref18_Disk.obj F0 b0 x0]) w w14 [ownR 78 A9 c9 T_limnographref18_File.rep y8, boxR b0 74 [.slice A25_0 (x0.L).length c25_0, .int .i64 (x0.Capacity), .bool (x0.Down), .int .i64 (x0.Calls), .int .i64 (x0.Fail), .int .i64 (x0.Crash), .int .i64 (x0.Err)], ownR 78 A25_0 c25_0 T_limnographref18_File.rep x0.L] := hm25
    refine Rn.v rfl rfl rfl rfl (V.ldB Try.isAgg72 rfl (hm25.get 1 rfl) rfl) (Rn.v rfl rfl rfl rfl (V.mv rfl) ?_)
    obtain ⟨z27, e27, hM⟩ := bindE hM
    obtain ⟨kk27, ke27, kz27, kl27⟩ := idxE e27
    obtain ⟨g27, vs27, hA27, hR27, hrel27⟩ := hm25.ownAt 2 rfl kz27
    subst hA27
    obtain ⟨_, _, rfl, ⟨rfl, _⟩, ⟨_, _, rfl, ⟨A28, c28, rfl, p28, q28, s28⟩, ⟨rfl, _⟩⟩⟩ := hrel27
    have hm30 : Hp Z0 (LS [T_limnographref18_Disk.obj F0 b0 x0]) w w14 [ownR 78 A9 c9 T_limnographref18_File.rep y8, boxR b0 74 [.slice (some ⟨g27, 0, none⟩) (x0.L).length c25_0, .int .i64 (x0.Capacity), .bool (x0.Down), .int .i64 (x0.Calls), .int .i64 (x0.Fail), .int .i64 (x0.Crash), .int .i64 (x0.Err)], ownR 78 (some ⟨g27, 0, none⟩) c25_0 T_limnographref18_File.rep x0.L, slR A28 c28 byteR z27.Data] := Hp.knowL [slR A28 c28 byteR z27.Data] _ hm25 (knC (fun _ h => h) ⟨p28, q28, s28⟩ kn0)
    refine Rn.v rfl rfl rfl rfl (V.ixE kk27 Try.underlying72 Try.sizeOf78 rfl rfl ke27 kl27) (Rn.v rfl rfl rfl rfl (V.fa Try.underlying78 rfl Try.sizeOf9 rfl rfl) (Rn.v rfl rfl rfl rfl (V.ldR0 Try.isAgg9 rfl hR27 rfl) (Rn.v rfl rfl rfl rfl (V.mv rfl) (Rn.v rfl rfl rfl rfl (V.neqS rfl rfl) (Rn.regEnd ?_)))))
    refine Rn.condD rfl (fun h31 => ?_) (fun h31 => ?_)
    · replace hM := iteT h31 hM
      refine Rn.reg (Rn.v rfl rfl rfl rfl (V.mv rfl) (Rn.v rfl rfl rfl rfl (V.mv rfl) (Rn.v rfl rfl rfl rfl (V.nil rfl) (Rn.v rfl rfl rfl rfl (V.fa Try.underlying74 rfl Try.sizeOf72 rfl rfl) (Rn.v rfl rfl rfl rfl (V.ldB Try.isAgg72 rfl (hm30.get 1 rfl) rfl) (Rn.v rfl rfl rfl rfl (V.mv rfl) ?_))))))
      obtain ⟨z32, e32, hM⟩ := bindE hM
      obtain ⟨kk32, ke32, kz32, kl32⟩ := idxE e32
      obtain ⟨vs32, hR32, hrel32⟩ := hm30.ownAtL 2 rfl kz32
      obtain ⟨_, _, rfl, ⟨rfl, _⟩, ⟨_, _, rfl, ⟨A33, c33, rfl, p33, q33, s33⟩, ⟨rfl, _⟩⟩⟩ := hrel32
      have hm35 : Hp Z0 (LS [T_limnographref18_Disk.obj F0 b0 x0]) w w14 [ownR 78 A9 c9 T_limnographref18_File.rep y8, boxR b0 74 [.slice (some ⟨g27, 0, none⟩) (x0.L).length c25_0, .int .i64 (x0.Capacity), .bool (x0.Down), .int .i64 (x0.Calls), .int .i64 (x0.Fail), .int .i64 (x0.Crash), .int .i64 (x0.Err)], ownR 78 (some ⟨g27, 0, none⟩) c25_0 T_limnographref18_File.rep x0.L, slR A28 c28 byteR z27.Data, slR A33 c33 byteR z32.Data] := Hp.knowL [slR A33 c33 byteR z32.Data] _ hm30 (knC (fun _ h => h) ⟨p33, q33, s33⟩ kn0)
      refine Rn.v rfl rfl rfl rfl (V.ixE kk32 Try.underlying72 Try.sizeOf78 rfl rfl ke32 kl32) (Rn.v rfl rfl rfl rfl (V.ldA Try.isAgg78 Try.sizeOf78 rfl (Rd.pre hR32 3) rfl) ?_)
      obtain ⟨z36, e36, hM⟩ := bindE hM
      refine Rn.pushH (z := z32) (vs := [Str (z32.Name), .slice A33 (z32.Data).length c33, .int .i64 (z32.Sure)]) hm35 0 rfl e36 rfl rfl rfl rfl Try.underlying72 el78 rfl rfl rfl rfl (fun _ => rfl) (⟨_, _, rfl, ⟨rfl, trivial⟩, ⟨_, _, rfl, ⟨_, _, rfl, (hm35.get 4 rfl).1, (hm35.get 4 rfl).2.1, (hm35.get 4 rfl).2.2⟩, ⟨rfl, trivial⟩⟩⟩) ?_
      intro A36 c36 w36 u36 hm36
      refine Rn.v rfl rfl rfl rfl (V.as rfl) (Rn.regEnd (Rn.inBlock ?_))
      have hm39 : Hp Z0 (LS [T_limnographref18_Disk.obj F0 b0 x0]) w w36 ([ownR 78 A36 c36 T_limnographref18_File.rep z36, slR A28 c28 byteR z27.Data, slR A33 c33 byteR z32.Data] ++ [boxR b0 74 [.slice (some ⟨g27, 0, none⟩) (x0.L).length c25_0, .int .i64 (x0.Capacity), .bool (x0.Down), .int .i64 (x0.Calls), .int .i64 (x0.Fail), .int .i64 (x0.Crash), .int .i64 (x0.Err)], ownR 78 (some ⟨g27, 0, none⟩) c25_0 T_limnographref18_File.rep x0.L]) := hm36.pick [0, 3, 4, 1, 2] rfl (by decide)
      obtain ⟨F38, hm38⟩ := hm39.fold (T_limnographref18_Disk.sh b0 x0) ⟨(some ⟨g27, 0, none⟩), c25_0, rfl⟩
      replace hm38 : Hp Z0 (LS [T_limnographref18_Disk.obj F0 b0 x0]) w w36 [ownR 78 A36 c36 T_limnographref18_File.rep z36, slR A28 c28 byteR z27.Data, slR A33 c33 byteR z32.Data, T_limnographref18_Disk.obj F38 b0 x0] := hm38
      exact hk2 (z36, F38, A36, c36) _ _ (Sub.cons rfl (Sub.cons rfl (Sub.cons rfl (Sub.cons rfl (Sub.nil _))))) (hm38.pick [3, 0] rfl (by decide)) hM
    · replace hM := iteF h31 hM
      refine Rn.skip (Rn.inBlock ?_)
      have hm41 : Hp Z0 (LS [T_limnographref18_Disk.obj F0 b0 x0]) w w14 ([ownR 78 A9 c9 T_limnographref18_File.rep y8, slR A28 c28 byteR z27.Data] ++ [boxR b0 74 [.slice (some ⟨g27, 0, none⟩) (x0.L).length c25_0, .int .i64 (x0.Capacity), .bool (x0.Down), .int .i64 (x0.Calls), .int .i64 (x0.Fail), .int .i64 (x0.Crash), .int .i64 (x0.Err)], ownR 78 (some ⟨g27, 0, none⟩) c25_0 T_limnographref18_File.rep x0.L]) := hm30.pick [0, 3, 1, 2] rfl (by decide)
      obtain ⟨F40, hm40⟩ := hm41.fold (T_limnographref18_Disk.sh b0 x0) ⟨(some ⟨g27, 0, none⟩), c25_0, rfl⟩
      replace hm40 : Hp Z0 (LS [T_limnographref18_Disk.obj F0 b0 x0]) w w14 [ownR 78 A9 c9 T_limnographref18_File.rep y8, slR A28 c28 byteR z27.Data, T_limnographref18_Disk.obj F40 b0 x0] := hm40
      exact hk2 (y8, F40, A9, c9) _ _ (Sub.cons rfl (Sub.cons rfl (Sub.cons rfl (Sub.cons rfl (Sub.nil _))))) (hm40.pick [2, 0] rfl (by decide)) hM
  · replace hM := iteF h17 hM
    refine Rn.exit rfl ?_
    have hm43 : Hp Z0 (LS [T_limnographref18_Disk.obj F0 b0 x0]) w w14 ([ownR 78 A9 c9 T_limnographref18_File.rep y8] ++ [boxR b0 74 [.slice A15_0 (x0.L).length c15_0, .int .i64 (x0.Capacity), .bool (x0.Down), .int .i64 (x0.Calls), .int .i64 (x0.Fail), .int .i64 (x0.Crash), .int .i64 (x0.Err)], ownR 78 A15_0 c15_0 T_limnographref18_File.rep x0.L]) := hm15.pick [0, 1, 2] rfl (by decide)
    obtain ⟨F42, hm42⟩ := hm43.fold (T_limnographref18_Disk.sh b0 x0) ⟨A15_0, c15_0, rfl⟩
    replace hm42 : Hp Z0 (LS [T_limnographref18_Disk.obj F0 b0 x0]) w w14 [ownR 78 A9 c9 T_limnographref18_File.rep y8, T_limnographref18_Disk.obj F42 b0 x0] := hm42
    exact hk1 (y8, F42, A9, c9) _ _ (Sub.cons rfl (Sub.nil _)) (hm42.pick [1, 0] rfl (by decide)) hM

set_option maxRecDepth 20000 in
theorem m_limnographref18_Disk_put_sim {Z0 : Nat → Prop} (w : World) (F0 : Nat → Prop) (b0 : Nat) (x0 : T_limnographref18_Disk) (x1 : T_limnographref18_File) (cs1 : List Value) {r : T_limnographref18_Disk} (hL : Lent Z0 w [T_limnographref18_Disk.obj F0 b0 x0, relR T_limnographref18_File.rep cs1 x1]) (hM : m_limnographref18_Disk_put x0 x1 = some r) :
    Calls Try.prog 32 #[.pointer (some ⟨b0, 0, none⟩), .agg cs1.toArray] w fun x w' => ∃ F_p0, x = .returned (.tuple #[]) ∧ Hp Z0 (LS [T_limnographref18_Disk.obj F0 b0 x0, relR T_limnographref18_File.rep cs1 x1]) w w' [T_limnographref18_Disk.obj F_p0 b0 r] := by
  have hm0 := hL.start
  have h1 := hm0.get 1 rfl
  obtain ⟨_, _, rfl, ⟨rfl, _⟩, ⟨_, _, rfl, ⟨A2, c2, rfl, p2, q2, s2⟩, ⟨rfl, _⟩⟩⟩ := h1
  have hm5 : Hp Z0 (LS [T_limnographref18_Disk.obj F0 b0 x0, relR T_limnographref18_File.rep [Str (x1.Name), .slice A2 (x1.Data).length c2, .int .i64 (x1.Sure)] x1]) w w [T_limnographref18_Disk.obj F0 b0 x0, relR T_limnographref18_File.rep [Str (x1.Name), .slice A2 (x1.Data).length c2, .int .i64 (x1.Sure)] x1, slR A2 c2 byteR x1.Data] := Hp.knowL [slR A2 c2 byteR x1.Data] _ hm0 (knC (fun _ h => h) ⟨p2, q2, s2⟩ kn0)
  refine Rn.enter Try.func32 rfl rfl (Nat.le_of_ble_eq_true rfl) ?_
  refine Rn.seq (Rn.reg (Rn.box rfl rfl rfl rfl rfl ?_))
  intro b6 w6 hb6 m6 e6
  have hm8 : Hp Z0 (LS [T_limnographref18_Disk.obj F0 b0 x0, relR T_limnographref18_File.rep [Str (x1.Name), .slice A2 (x1.Data).length c2, .int .i64 (x1.Sure)] x1]) w w6 [T_limnographref18_Disk.obj F0 b0 x0, relR T_limnographref18_File.rep [Str (x1.Name), .slice A2 (x1.Data).length c2, .int .i64 (x1.Sure)] x1, slR A2 c2 byteR x1.Data, boxR b6 78 [Str (x1.Name), .slice A2 (x1.Data).length c2, .int .i64 (x1.Sure)]] := hm5.addBox hb6 e6 m6
  refine Rn.regEnd (Rn.seq (Rn.reg (Rn.v rfl rfl rfl rfl (V.mv rfl) (Rn.v rfl rfl rfl rfl (V.fa Try.underlying78 rfl Try.sizeOf9 rfl rfl) (Rn.v rfl rfl rfl rfl (V.ldB Try.isAgg9 rfl (hm8.get 3 rfl) rfl) ?_)))))
  obtain ⟨p9, e9, hM⟩ := bindE hM
  have hm10 : Hp Z0 (LS [T_limnographref18_Disk.obj F0 b0 x0, relR T_limnographref18_File.rep [Str (x1.Name), .slice A2 (x1.Data).length c2, .int .i64 (x1.Sure)] x1]) w w6 ([relR T_limnographref18_File.rep [Str (x1.Name), .slice A2 (x1.Data).length c2, .int .i64 (x1.Sure)] x1, slR A2 c2 byteR x1.Data, boxR b6 78 [Str (x1.Name), .slice A2 (x1.Data).length c2, .int .i64 (x1.Sure)]] ++ [T_limnographref18_Disk.obj F0 b0 x0]) := hm8.pick [1, 2, 3, 0] rfl (by decide)
  refine Rn.cl ck51 rfl rfl rfl rfl (m_limnographref18_Disk_without_sim (Z0 := _) _ F0 b0 x0 x1.Name hm10.lend e9) ?_
  rintro _ w9 ⟨A9_0_0, c9_0_0, F9_p0, rfl, hq9⟩
  refine ⟨_, rfl, ?_⟩
  have hm13 : Hp Z0 (LS [T_limnographref18_Disk.obj F0 b0 x0, relR T_limnographref18_File.rep [Str (x1.Name), .slice A2 (x1.Data).length c2, .int .i64 (x1.Sure)] x1]) w w9 [relR T_limnographref18_File.rep [Str (x1.Name), .slice A2 (x1.Data).length c2, .int .i64 (x1.Sure)] x1, slR A2 c2 byteR x1.Data, boxR b6 78 [Str (x1.Name), .slice A2 (x1.Data).length c2, .int .i64 (x1.Sure)], ownR 78 A9_0_0 c9_0_0 T_limnographref18_File.rep p9, T_limnographref18_Disk.obj F9_p0 b0 x0] := hm10.callAZ hq9
  refine Rn.v rfl rfl rfl rfl (V.as rfl) (Rn.regEnd (Rn.seq (Rn.reg (Rn.v rfl rfl rfl rfl (V.mv rfl) (Rn.v rfl rfl rfl rfl (V.lenV Try.underlying72 rfl) (Rn.v rfl rfl rfl rfl (V.as rfl) (Rn.regEnd (Rn.seq ?_))))))))
  obtain ⟨j1, hj1, hM⟩ := jnE hM
  refine Rn.joinG (r := r) (G := Int × (Nat → Prop)) (fun g => [(0, .pointer (some ⟨b0, 0, none⟩)), (3, .pointer (some ⟨b6, 0, none⟩)), (4, .slice A9_0_0 (p9).length c9_0_0), (5, .int .i64 ((g.1)))]) (fun g w' => Hp Z0 (LS [T_limnographref18_Disk.obj F0 b0 x0, relR T_limnographref18_File.rep [Str (x1.Name), .slice A2 (x1.Data).length c2, .int .i64 (x1.Sure)] x1]) w w' [relR T_limnographref18_File.rep [Str (x1.Name), .slice A2 (x1.Data).length c2, .int .i64 (x1.Sure)] x1, slR A2 c2 byteR x1.Data, boxR b6 78 [Str (x1.Name), .slice A2 (x1.Data).length c2, .int .i64 (x1.Sure)], ownR 78 A9_0_0 c9_0_0 T_limnographref18_File.rep p9, T_limnographref18_Disk.obj (g.2) b0 x0]) (fun g => j1 g.1) ?_ ?_
  · subst hj1
    clear hM
    rintro ⟨y15, F14⟩ w16 hm16 hM
    replace hm16 : Hp Z0 (LS [T_limnographref18_Disk.obj F0 b0 x0, relR T_limnographref18_File.rep [Str (x1.Name), .slice A2 (x1.Data).length c2, .int .i64 (x1.Sure)] x1]) w w16 [relR T_limnographref18_File.rep [Str (x1.Name), .slice A2 (x1.Data).length c2, .int .i64 (x1.Sure)] x1, slR A2 c2 byteR x1.Data, boxR b6 78 [Str (x1.Name), .slice A2 (x1.Data).length c2, .int .i64 (x1.Sure)], ownR 78 A9_0_0 c9_0_0 T_limnographref18_File.rep p9, T_limnographref18_Disk.obj F14 b0 x0] := hm16
    show Rn _ _ _ _ _ [(0, .pointer (some ⟨b0, 0, none⟩)), (3, .pointer (some ⟨b6, 0, none⟩)), (4, .slice A9_0_0 (p9).length c9_0_0), (5, .int .i64 (y15))] _
    try dsimp only at hM
    refine Rn.seq (Rn.reg (Rn.v rfl rfl rfl rfl (V.as rfl) (Rn.regEnd (Rn.seq (Rn.reg (Rn.v rfl rfl rfl rfl (V.mv rfl) (Rn.v rfl rfl rfl rfl (V.mv rfl) (Rn.v rfl rfl rfl rfl (V.mv rfl) ?_))))))))
    have hm19 := hm16.freeze 3 rfl
    obtain ⟨z17, e17, hM⟩ := bindE hM
    refine Rn.cutH hm19 3 rfl e17 rfl rfl rfl Try.underlying72 Try.sizeOf78 rfl rfl rfl rfl rfl ?_
    intro A17 c17 hm17
    have hm22 := hm17.addNil 78 T_limnographref18_File.rep
    obtain ⟨z21, e21, hM⟩ := bindE hM
    refine Rn.appH hm22 6 rfl e21 rfl rfl rfl Try.underlying72 el78 rfl rfl rfl rfl (hm22.src 5 rfl) ?_
    intro A21 c21 w21 hm21
    refine Rn.v rfl rfl rfl rfl (V.as rfl) (Rn.regEnd (Rn.seq (Rn.reg (Rn.v rfl rfl rfl rfl (V.mv rfl) (Rn.v rfl rfl rfl rfl (V.ldBA _ Try.isAgg78 Try.sizeOf78 rfl (hm21.get 2 rfl) rfl rfl) ?_)))))
    obtain ⟨z25, e25, hM⟩ := bindE hM
    refine Rn.pushH (z := ({ Name := x1.Name, Data := x1.Data, Sure := x1.Sure } : T_limnographref18_File)) (vs := [Str (x1.Name), .slice A2 (x1.Data).length c2, .int .i64 (x1.Sure)]) hm21 6 rfl e25 rfl rfl rfl rfl Try.underlying72 el78 rfl rfl rfl rfl (fun _ => rfl) (⟨_, _, rfl, ⟨rfl, trivial⟩, ⟨_, _, rfl, ⟨_, _, rfl, (hm21.get 1 rfl).1, (hm21.get 1 rfl).2.1, (hm21.get 1 rfl).2.2⟩, ⟨rfl, trivial⟩⟩⟩) ?_
    intro A25 c25 w25 u25 hm25
    refine Rn.v rfl rfl rfl rfl (V.as rfl) (Rn.regEnd (Rn.reg (Rn.v rfl rfl rfl rfl (V.mv rfl) (Rn.v rfl rfl rfl rfl (V.mv rfl) (Rn.v rfl rfl rfl rfl (V.mv rfl) (Rn.v rfl rfl rfl rfl (V.mv rfl) ?_))))))
    obtain ⟨z27, e27, hM⟩ := bindE hM
    refine Rn.cutH hm25 3 rfl e27 rfl rfl rfl Try.underlying72 Try.sizeOf78 rfl rfl rfl rfl rfl ?_
    intro A27 c27 hm27
    obtain ⟨z29, e29, hM⟩ := bindE hM
    refine Rn.appH hm27 6 rfl e29 rfl rfl rfl Try.underlying72 el78 rfl rfl rfl rfl (hm27.src 7 rfl) ?_
    intro A29 c29 w29 hm29
    refine Rn.v rfl rfl rfl rfl (V.nil rfl) (Rn.v rfl rfl rfl rfl (V.fa Try.underlying74 rfl Try.sizeOf72 rfl rfl) ?_)
    obtain ⟨_, ⟨A31_0, c31_0, rfl⟩, hm31⟩ := hm29.unf 4 rfl
    replace hm31 : Hp Z0 (LS [T_limnographref18_Disk.obj F0 b0 x0, relR T_limnographref18_File.rep [Str (x1.Name), .slice A2 (x1.Data).length c2, .int .i64 (x1.Sure)] x1]) w w29 [relR T_limnographref18_File.rep [Str (x1.Name), .slice A2 (x1.Data).length c2, .int .i64 (x1.Sure)] x1, slR A2 c2 byteR x1.Data, boxR b6 78 [Str (x1.Name), .slice A2 (x1.Data).length c2, .int .i64 (x1.Sure)], slR A9_0_0 c9_0_0 T_limnographref18_File.rep p9, slR A17 c17 T_limnographref18_File.rep z17, ownR 78 A29 c29 T_limnographref18_File.rep z29, slR A27 c27 T_limnographref18_File.rep z27, boxR b0 74 [.slice A31_0 (x0.L).length c31_0, .int .i64 (x0.Capacity), .bool (x0.Down), .int .i64 (x0.Calls), .int .i64 (x0.Fail), .int .i64 (x0.Crash), .int .i64 (x0.Err)], ownR 78 A31_0 c31_0 T_limnographref18_File.rep x0.L] := hm31
    refine Rn.st rfl rfl Try.sizeOf72 rfl rfl rfl rfl (by first | exact ones rfl | (simp [Value.oneCell']; done)) (hm31.get 7 rfl) (by first | exact Nat.le_of_ble_eq_true rfl | (simp; done)) ?_
    intro w33 m33 x33
    have hm34 : Hp Z0 (LS [T_limnographref18_Disk.obj F0 b0 x0, relR T_limnographref18_File.rep [Str (x1.Name), .slice A2 (x1.Data).length c2, .int .i64 (x1.Sure)] x1]) w w33 [relR T_limnographref18_File.rep [Str (x1.Name), .slice A2 (x1.Data).length c2, .int .i64 (x1.Sure)] x1, slR A2 c2 byteR x1.Data, boxR b6 78 [Str (x1.Name), .slice A2 (x1.Data).length c2, .int .i64 (x1.Sure)], slR A9_0_0 c9_0_0 T_limnographref18_File.rep p9, slR A17 c17 T_limnographref18_File.rep z17, ownR 78 A29 c29 T_limnographref18_File.rep z29, slR A27 c27 T_limnographref18_File.rep z27, boxR b0 74 [.slice A29 (z29).length c29, .int .i64 (x0.Capacity), .bool (x0.Down), .int .i64 (x0.Calls), .int .i64 (x0.Fail), .int .i64 (x0.Crash), .int .i64 (x0.Err)], ownR 78 A31_0 c31_0 T_limnographref18_File.rep x0.L] := hm31.st 7 rfl x33 m33
    refine Rn.regEnd ?_
    have hm36 : Hp Z0 (LS [T_limnographref18_Disk.obj F0 b0 x0, relR T_limnographref18_File.rep [Str (x1.Name), .slice A2 (x1.Data).length c2, .int .i64 (x1.Sure)] x1]) w w33 ([relR T_limnographref18_File.rep [Str (x1.Name), .slice A2 (x1.Data).length c2, .int .i64 (x1.Sure)] x1, slR A2 c2 byteR x1.Data, boxR b6 78 [Str (x1.Name), .slice A2 (x1.Data).length c2, .int .i64 (x1.Sure)], slR A9_0_0 c9_0_0 T_limnographref18_File.rep p9, slR A17 c17 T_limnographref18_File.rep z17, slR A27 c27 T_limnographref18_File.rep z27, ownR 78 A31_0 c31_0 T_limnographref18_File.rep x0.L] ++ [boxR b0 74 [.slice A29 (z29).length c29, .int .i64 (x0.Capacity), .bool (x0.Down), .int .i64 (x0.Calls), .int .i64 (x0.Fail), .int .i64 (x0.Crash), .int .i64 (x0.Err)], ownR 78 A29 c29 T_limnographref18_File.rep z29]) := hm34.pick [0, 1, 2, 3, 4, 6, 8, 7, 5] rfl (by decide)
    obtain ⟨F35, hm35⟩ := hm36.fold (T_limnographref18_Disk.sh b0 ({ L := z29, Capacity := x0.Capacity, Down := x0.Down, Calls := x0.Calls, Fail := x0.Fail, Crash := x0.Crash, Err := x0.Err } : T_limnographref18_Disk)) ⟨A29, c29, rfl⟩
    replace hm35 : Hp Z0 (LS [T_limnographref18_Disk.obj F0 b0 x0, relR T_limnographref18_File.rep [Str (x1.Name), .slice A2 (x1.Data).length c2, .int .i64 (x1.Sure)] x1]) w w33 [relR T_limnographref18_File.rep [Str (x1.Name), .slice A2 (x1.Data).length c2, .int .i64 (x1.Sure)] x1, slR A2 c2 byteR x1.Data, boxR b6 78 [Str (x1.Name), .slice A2 (x1.Data).length c2, .int .i64 (x1.Sure)], slR A9_0_0 c9_0_0 T_limnographref18_File.rep p9, slR A17 c17 T_limnographref18_File.rep z17, slR A27 c27 T_limnographref18_File.rep z27, ownR 78 A31_0 c31_0 T_limnographref18_File.rep x0.L, T_limnographref18_Disk.obj F35 b0 ({ L := z29, Capacity := x0.Capacity, Down := x0.Down, Calls := x0.Calls, Fail := x0.Fail, Crash := x0.Crash, Err := x0.Err } : T_limnographref18_Disk)] := hm35
    refine Rn.end0 Try.func32 rfl ?_
    obtain rfl := someE hM
    exact ⟨F35, rfl, hm35.pick [7] rfl (by decide)⟩
  intro hk1
  clear hj1
  refine Rn.block ?_
  refine Rn.loopF (G := Int × (Nat → Prop)) (fun g => [(0, .pointer (some ⟨b0, 0, none⟩)), (3, .pointer (some ⟨b6, 0, none⟩)), (4, .slice A9_0_0 (p9).length c9_0_0), (5, .int .i64 ((g.1)))]) (fun g w' => Hp Z0 (LS [T_limnographref18_Disk.obj F0 b0 x0, relR T_limnographref18_File.rep [Str (x1.Name), .slice A2 (x1.Data).length c2, .int .i64 (x1.Sure)] x1]) w w' [relR T_limnographref18_File.rep [Str (x1.Name), .slice A2 (x1.Data).length c2, .int .i64 (x1.Sure)] x1, slR A2 c2 byteR x1.Data, boxR b6 78 [Str (x1.Name), .slice A2 (x1.Data).length c2, .int .i64 (x1.Sure)], ownR 78 A9_0_0 c9_0_0 T_limnographref18_File.rep p9, T_limnographref18_Disk.obj (g.2) b0 x0]) (fun n g => m_limnographref18_Disk_put_L1 x1 p9 j1 n g.1) fuel ((p9.length : Int), F9_p0) (Sub.cons rfl (Sub.cons rfl (Sub.cons rfl (Sub.cons rfl (Sub.nil _))))) (hm13.pick [0, 1, 2, 3, 4] rfl (by decide)) hM (fun _ => rfl) ?_
  clear hM
  rintro m39 ⟨y38, F37⟩ w39 hm39 hM hn39
  replace hm39 : Hp Z0 (LS [T_limnographref18_Disk.obj F0 b0 x0, relR T_limnographref18_File.rep [Str (x1.Name), .slice A2 (x1.Data).length c2, .int .i64 (x1.Sure)] x1]) w w39 [relR T_limnographref18_File.rep [Str (x1.Name), .slice A2 (x1.Data).length c2, .int .i64 (x1.Sure)] x1, slR A2 c2 byteR x1.Data, boxR b6 78 [Str (x1.Name), .slice A2 (x1.Data).length c2, .int .i64 (x1.Sure)], ownR 78 A9_0_0 c9_0_0 T_limnographref18_File.rep p9, T_limnographref18_Disk.obj F37 b0 x0] := hm39
  show Rn _ _ _ _ _ [(0, .pointer (some ⟨b0, 0, none⟩)), (3, .pointer (some ⟨b6, 0, none⟩)), (4, .slice A9_0_0 (p9).length c9_0_0), (5, .int .i64 (y38))] _
  replace hM : m_limnographref18_Disk_put_L1 x1 p9 j1 (m39 + 1) y38 = some r := hM
  rw [m_limnographref18_Disk_put_L1] at hM
  refine Rn.seq (Rn.seq ?_)
  obtain ⟨j2, hj2, hM⟩ := jnE hM
  refine Rn.joinG (r := r) (G := Bool × (Nat → Prop)) (fun g => [(0, .pointer (some ⟨b0, 0, none⟩)), (3, .pointer (some ⟨b6, 0, none⟩)), (4, .slice A9_0_0 (p9).length c9_0_0), (5, .int .i64 (y38)), (25, .bool ((g.1)))]) (fun g w' => Hp Z0 (LS [T_limnographref18_Disk.obj F0 b0 x0, relR T_limnographref18_File.rep [Str (x1.Name), .slice A2 (x1.Data).length c2, .int .i64 (x1.Sure)] x1]) w w' [relR T_limnographref18_File.rep [Str (x1.Name), .slice A2 (x1.Data).length c2, .int .i64 (x1.Sure)] x1, slR A2 c2 byteR x1.Data, boxR b6 78 [Str (x1.Name), .slice A2 (x1.Data).length c2, .int .i64 (x1.Sure)], ownR 78 A9_0_0 c9_0_0 T_limnographref18_File.rep p9, T_limnographref18_Disk.obj (g.2) b0 x0]) (fun g => j2 g.1) ?_ ?_
  · subst hj2
    clear hM
    rintro ⟨y41, F40⟩ w42 hm42 hM
    replace hm42 : Hp Z0 (LS [T_limnographref18_Disk.obj F0 b0 x0, relR T_limnographref18_File.rep [Str (x1.Name), .slice A2 (x1.Data).length c2, .int .i64 (x1.Sure)] x1]) w w42 [relR T_limnographref18_File.rep [Str (x1.Name), .slice A2 (x1.Data).length c2, .int .i64 (x1.Sure)] x1, slR A2 c2 byteR x1.Data, boxR b6 78 [Str (x1.Name), .slice A2 (x1.Data).length c2, .int .i64 (x1.Sure)], ownR 78 A9_0_0 c9_0_0 T_limnographref18_File.rep p9, T_limnographref18_Disk.obj F40 b0 x0] := hm42
    show Rn _ _ _ _ _ [(0, .pointer (some ⟨b0, 0, none⟩)), (3, .pointer (some ⟨b6, 0, none⟩)), (4, .slice A9_0_0 (p9).length c9_0_0), (5, .int .i64 (y38)), (25, .bool (y41))] _
    try dsimp only at hM
    refine Rn.condS rfl (fun h43 => ?_) (fun h43 => ?_)
    · replace hM := iteT h43 hM
      refine Rn.skip (Rn.block (Rn.reg (Rn.v rfl rfl rfl rfl (V.mv rfl) (Rn.v rfl rfl rfl rfl (V.subW rfl rfl) (Rn.v rfl rfl rfl rfl (V.as rfl) (Rn.regEnd (Rn.inBlock ?_)))))))
      exact hn39 ((W64 (y38 - 1)), F40) _ _ (Sub.cons rfl (Sub.cons rfl (Sub.cons rfl (Sub.cons rfl (Sub.nil _))))) (hm42.pick [0, 1, 2, 3, 4] rfl (by decide)) hM
    · replace hM := iteF (by rw [h43]; exact Bool.false_ne_true) hM
      refine Rn.exit rfl ?_
      exact hk1 (y38, F40) _ _ (Sub.cons rfl (Sub.cons rfl (Sub.cons rfl (Sub.cons rfl (Sub.nil _))))) (hm42.pick [0, 1, 2, 3, 4] rfl (by decide)) hM
  intro hk2
  clear hj2
  refine Rn.drawP rfl hm39 ?_
  intro w44 hm44
  refine RH.takeP 0 (by kernel_rfl) rfl rfl rfl rfl (V.mv rfl) ?_
  refine RH.takeP 1 (by kernel_rfl) rfl rfl rfl rfl (V.gtr rfl rfl) ?_
  refine RH.takeP 2 (by kernel_rfl) rfl rfl rfl rfl (V.mv rfl) ?_
  refine RH.partD (t := 15) rfl (fun h45 => ?_) (fun h45 => ?_)
  · replace hM := iteT h45 hM
    refine RH.takeP 3 (by kernel_rfl) rfl rfl rfl rfl (V.mv rfl) ?_
    refine RH.takeP 4 (by kernel_rfl) rfl rfl rfl rfl (V.mv rfl) ?_
    refine RH.takeP 5 (by kernel_rfl) rfl rfl rfl rfl (V.subW rfl rfl) ?_
    obtain ⟨z46, e46, hM⟩ := bindE hM
    obtain ⟨kk46, ke46, kz46, kl46⟩ := idxE e46
    obtain ⟨g46, vs46, hA46, hR46, hrel46⟩ := hm44.ownAt 3 rfl kz46
    subst hA46
    obtain ⟨_, _, rfl, ⟨rfl, _⟩, ⟨_, _, rfl, ⟨A47, c47, rfl, p47, q47, s47⟩, ⟨rfl, _⟩⟩⟩ := hrel46
    have hm49 : Hp Z0 (LS [T_limnographref18_Disk.obj F0 b0 x0, relR T_limnographref18_File.rep [Str (x1.Name), .slice A2 (x1.Data).length c2, .int .i64 (x1.Sure)] x1]) w w44 [relR T_limnographref18_File.rep [Str (x1.Name), .slice A2 (x1.Data).length c2, .int .i64 (x1.Sure)] x1, slR A2 c2 byteR x1.Data, boxR b6 78 [Str (x1.Name), .slice A2 (x1.Data).length c2, .int .i64 (x1.Sure)], ownR 78 (some ⟨g46, 0, none⟩) c9_0_0 T_limnographref18_File.rep p9, T_limnographref18_Disk.obj F37 b0 x0, slR A47 c47 byteR z46.Data] := Hp.knowL [slR A47 c47 byteR z46.Data] _ hm44 (knC (fun _ h => h) ⟨p47, q47, s47⟩ kn0)
    refine RH.takeP 6 (by kernel_rfl) rfl rfl rfl rfl (V.ixE kk46 Try.underlying72 Try.sizeOf78 rfl rfl ke46 kl46) ?_
    refine RH.takeP 7 (by kernel_rfl) rfl rfl rfl rfl (V.fa Try.underlying78 rfl Try.sizeOf9 rfl rfl) ?_
    refine RH.takeP 8 (by kernel_rfl) rfl rfl rfl rfl (V.ldR0 Try.isAgg9 rfl hR46 rfl) ?_
    refine RH.takeP 9 (by kernel_rfl) rfl rfl rfl rfl (V.fa Try.underlying78 rfl Try.sizeOf9 rfl rfl) ?_
    refine RH.takeP 10 (by kernel_rfl) rfl rfl rfl rfl (V.ldB Try.isAgg9 rfl (hm49.get 2 rfl) rfl) ?_
    refine RH.takeP 11 (by kernel_rfl) rfl rfl rfl rfl (V.gtrS rfl rfl) ?_
    refine RH.takeP 12 (by kernel_rfl) rfl rfl rfl rfl (V.pkT rfl rfl) ?_
    refine RH.doneP (by kernel_rfl) ?_
    exact hk2 ((Op.bytesLess x1.Name z46.Name), F37) _ _ (Sub.cons rfl (Sub.cons rfl (Sub.cons rfl (Sub.cons rfl (Sub.cons rfl (Sub.nil _)))))) (hm49.pick [0, 1, 2, 3, 4] rfl (by decide)) hM
  · replace hM := iteF h45 hM
    refine RH.no 3 (by kernel_rfl) rfl rfl rfl rfl ?_
    refine RH.no 4 (by kernel_rfl) rfl rfl rfl rfl ?_
    refine RH.no 5 (by kernel_rfl) rfl rfl rfl rfl ?_
    refine RH.no 6 (by kernel_rfl) rfl rfl rfl rfl ?_
    refine RH.no 7 (by kernel_rfl) rfl rfl rfl rfl ?_
    refine RH.no 8 (by kernel_rfl) rfl rfl rfl rfl ?_
    refine RH.no 9 (by kernel_rfl) rfl rfl rfl rfl ?_
    refine RH.no 10 (by kernel_rfl) rfl rfl rfl rfl ?_
    refine RH.no 11 (by kernel_rfl) rfl rfl rfl rfl ?_
    refine RH.takeP 12 (by kernel_rfl) rfl rfl rfl rfl (V.pkF rfl rfl) ?_
    refine RH.doneP (by kernel_rfl) ?_
    exact hk2 (false, F37) _ _ (Sub.cons rfl (Sub.cons rfl (Sub.cons rfl (Sub.cons rfl (Sub.cons rfl (Sub.nil _)))))) (hm44.pick [0, 1, 2, 3, 4] rfl (by decide)) hM

set_option maxRecDepth 20000 in
theorem m_limnographref18_New_sim {Z0 : Nat → Prop} (w : World) (A0 : Option Addr) (c0 : Nat) (x0 : (List T_api_File)) (x1 : Int) {r : (Option T_limnographref18_Disk)} (f0 : (slR A0 c0 T_api_File.rep x0).H Z0 w) (hM : m_limnographref18_New x0 x1 = some r) :
    Calls Try.prog 13 #[.slice A0 (x0).length c0, .int .i64 (x1)] w fun x w' => ∃ F_0 b_0, x = .returned (.pointer (optP b_0 r)) ∧ Hp Z0 No w w' [optR r (fun z => T_limnographref18_Disk.obj F_0 b_0 z)] := by
  have hm0 := Hp.nil Z0 No w
  have hc0 := Calm.nil
  have hm2 := hm0.know (slR A0 c0 T_api_File.rep x0) (fun _ h => h) (hm0.in0 hc0 f0)
  replace hc0 := hc0.snoc (r := slR A0 c0 T_api_File.rep x0) (fun _ h => h)
  refine Rn.enter Try.func13 rfl rfl (Nat.le_of_ble_eq_true rfl) ?_
  refine Rn.seq (Rn.reg (Rn.v rfl rfl rfl rfl (V.as rfl) (Rn.regEnd (Rn.seq (Rn.seq (Rn.reg (Rn.v rfl rfl rfl rfl (V.mv rfl) (Rn.v rfl rfl rfl rfl (V.lss rfl rfl) (Rn.v rfl rfl rfl rfl (V.mv rfl) ?_)))))))))
  refine Rn.cutR [6, 7, 8, 9, 10] [(0, .slice A0 (x0).length c0), (1, .int .i64 (x1)), (13, .bool (decide ((x1 < 1) ∨ (x1 > 4194304))))] (fun hk3 => ?_) ?_
  · refine Rn.partD (t := 10) rfl (fun h4 => ?_) (fun h4 => ?_)
    · refine Rn.no rfl rfl rfl rfl (Rn.no rfl rfl rfl rfl (Rn.v rfl rfl rfl rfl (V.pkT rfl rfl) ?_))
      refine hk3 _ ?_
      exact Sub.cons rfl (Sub.cons rfl (Sub.cons (lkv _ rfl (by first | exact andT h4 | exact andF h4 | exact orT h4 | exact orF h4 | exact nandF h4 | exact nandT h4 | exact norT h4 | exact norF h4 | (simp [h4]; done) | grind)) (Sub.nil _)))
    · refine Rn.v rfl rfl rfl rfl (V.mv rfl) (Rn.v rfl rfl rfl rfl (V.gtr rfl rfl) (Rn.v rfl rfl rfl rfl (V.pkF rfl rfl) ?_))
      refine hk3 _ ?_
      exact Sub.cons rfl (Sub.cons rfl (Sub.cons (lkv _ rfl (by first | exact andT h4 | exact andF h4 | exact orT h4 | exact orF h4 | exact nandF h4 | exact nandT h4 | exact norT h4 | exact norF h4 | (simp [h4]; done) | grind)) (Sub.nil _)))
  refine Rn.v rfl rfl rfl rfl (V.mv rfl) ?_
  refine Rn.cutR [] [(0, .slice A0 (x0).length c0), (1, .int .i64 (x1)), (18, .bool (decide (((x1 < 1) ∨ (x1 > 4194304)) ∨ ((x0.length : Int) > 4096))))] (fun hk5 => ?_) ?_
  · refine Rn.partD (t := 14) rfl (fun h6 => ?_) (fun h6 => ?_)
    · refine Rn.no rfl rfl rfl rfl (Rn.no rfl rfl rfl rfl (Rn.no rfl rfl rfl rfl (Rn.v rfl rfl rfl rfl (V.pkT rfl rfl) ?_)))
      refine hk5 _ ?_
      exact Sub.cons rfl (Sub.cons rfl (Sub.cons (lkv _ rfl (by first | exact andT h6 | exact andF h6 | exact orT h6 | exact orF h6 | exact nandF h6 | exact nandT h6 | exact norT h6 | exact norF h6 | (simp [h6]; done) | grind)) (Sub.nil _)))
    · refine Rn.v rfl rfl rfl rfl (V.mv rfl) (Rn.v rfl rfl rfl rfl (V.lenV Try.underlying23 rfl) (Rn.v rfl rfl rfl rfl (V.gtr rfl rfl) (Rn.v rfl rfl rfl rfl (V.pkF rfl rfl) ?_)))
      refine hk5 _ ?_
      exact Sub.cons rfl (Sub.cons rfl (Sub.cons (lkv _ rfl (by first | exact andT h6 | exact andF h6 | exact orT h6 | exact orF h6 | exact nandF h6 | exact nandT h6 | exact norT h6 | exact norF h6 | (simp [h6]; done) | grind)) (Sub.nil _)))
  refine Rn.regEnd ?_
  refine Rn.condD rfl (fun h7 => ?_) (fun h7 => ?_)
  · replace hM := iteT h7 hM
    refine Rn.seq (Rn.reg (Rn.v rfl rfl rfl rfl (V.as rfl) (Rn.regEnd ?_)))
    have hm9 := hm2.addNone (fun z => T_limnographref18_Disk.obj No 0 z)
    have hm10 : Hp Z0 No w w [slR A0 c0 T_api_File.rep x0, optR (none : Option T_limnographref18_Disk) (fun z => T_limnographref18_Disk.obj No 0 z)] := hm9
    refine Rn.retG1 Try.func13 rfl (rvT rfl) ?_
    obtain rfl := someE hM
    exact ⟨No, 0, rfl, hm10.pick [1] rfl (by decide)⟩
  · replace hM := iteF h7 hM
    refine Rn.skip (Rn.seq (Rn.reg (Rn.v rfl rfl rfl rfl (V.mv rfl) (Rn.v rfl rfl rfl rfl (V.bldS st74 rfl rfl) (Rn.box rfl rfl rfl rfl rfl ?_)))))
    intro b11 w11 hb11 m11 e11
    have hm13 : Hp Z0 No w w11 [slR A0 c0 T_api_File.rep x0, boxR b11 74 [.slice none 0 0, .int .i64 (x1), .bool false, .int .i64 (0), .int .i64 ((-1)), .int .i64 ((-1)), .int .i64 (0)]] := hm2.addBox hb11 e11 m11
    refine Rn.v rfl rfl rfl rfl (V.as rfl) (Rn.regEnd (Rn.seq (Rn.seq (Rn.reg (Rn.v rfl rfl rfl rfl (V.as rfl) (Rn.regEnd ?_))))))
    have hm14 := hm13.addNil 78 T_limnographref18_File.rep
    have hm17 : Hp Z0 No w w11 ([slR A0 c0 T_api_File.rep x0] ++ [boxR b11 74 [.slice none (([] : List T_limnographref18_File)).length 0, .int .i64 (x1), .bool false, .int .i64 (0), .int .i64 ((-1)), .int .i64 ((-1)), .int .i64 (0)], ownR 78 none 0 T_limnographref18_File.rep ([] : List T_limnographref18_File)]) := hm14.pick [0, 1, 2] rfl (by decide)
    obtain ⟨F16, hm16⟩ := hm17.fold (T_limnographref18_Disk.sh b11 ({ L := ([] : List T_limnographref18_File), Capacity := x1, Down := false, Calls := 0, Fail := (-1), Crash := (-1), Err := 0 } : T_limnographref18_Disk)) ⟨none, 0, rfl⟩
    replace hm16 : Hp Z0 No w w11 [slR A0 c0 T_api_File.rep x0, T_limnographref18_Disk.obj F16 b11 ({ L := ([] : List T_limnographref18_File), Capacity := x1, Down := false, Calls := 0, Fail := (-1), Crash := (-1), Err := 0 } : T_limnographref18_Disk)] := hm16
    obtain ⟨j1, hj1, hM⟩ := jnE hM
    refine Rn.joinG (r := r) (G := T_limnographref18_Disk × (Nat → Prop)) (fun g => [(5, .pointer (some ⟨b11, 0, none⟩))]) (fun g w' => Hp Z0 No w w' [slR A0 c0 T_api_File.rep x0, T_limnographref18_Disk.obj (g.2) b11 (g.1)]) (fun g => j1 g.1) ?_ ?_
    · subst hj1
      clear hM
      rintro ⟨y18, F18⟩ w19 hm19 hM
      replace hm19 : Hp Z0 No w w19 [slR A0 c0 T_api_File.rep x0, T_limnographref18_Disk.obj F18 b11 y18] := hm19
      show Rn _ _ _ _ _ [(5, .pointer (some ⟨b11, 0, none⟩))] _
      try dsimp only at hM
      refine Rn.seq (Rn.reg (Rn.v rfl rfl rfl rfl (V.mv rfl) (Rn.v rfl rfl rfl rfl (V.as rfl) (Rn.regEnd ?_))))
      have hm20 := hm19.toSome (R := (fun z => T_limnographref18_Disk.obj F18 b11 z)) 1 rfl
      have hm21 : Hp Z0 No w w19 [slR A0 c0 T_api_File.rep x0, optR (some y18) (fun z => T_limnographref18_Disk.obj F18 b11 z)] := hm20
      refine Rn.retG1 Try.func13 rfl (rvT rfl) ?_
      obtain rfl := someE hM
      exact ⟨F18, b11, rfl, hm21.pick [1] rfl (by decide)⟩
    intro hk1
    clear hj1
    refine Rn.block ?_
    refine Rn.loopF (G := Int × T_limnographref18_Disk × (Nat → Prop)) (fun g => [(0, .slice A0 (x0).length c0), (1, .int .i64 (x1)), (5, .pointer (some ⟨b11, 0, none⟩)), (6, .int .i64 ((g.1)))]) (fun g w' => Hp Z0 No w w' [slR A0 c0 T_api_File.rep x0, T_limnographref18_Disk.obj (g.2.2) b11 (g.2.1)]) (fun n g => m_limnographref18_New_L1 x0 x1 j1 n g.1 g.2.1) fuel (0, ({ L := ([] : List T_limnographref18_File), Capacity := x1, Down := false, Calls := 0, Fail := (-1), Crash := (-1), Err := 0 } : T_limnographref18_Disk), F16) (Sub.cons rfl (Sub.cons rfl (Sub.cons rfl (Sub.cons rfl (Sub.nil _))))) (hm16.pick [0, 1] rfl (by decide)) hM (fun _ => rfl) ?_
    clear hM
    rintro m24 ⟨y22, y23, F23⟩ w24 hm24 hM hn24
    replace hm24 : Hp Z0 No w w24 [slR A0 c0 T_api_File.rep x0, T_limnographref18_Disk.obj F23 b11 y23] := hm24
    show Rn _ _ _ _ _ [(0, .slice A0 (x0).length c0), (1, .int .i64 (x1)), (5, .pointer (some ⟨b11, 0, none⟩)), (6, .int .i64 (y22))] _
    replace hM : m_limnographref18_New_L1 x0 x1 j1 (m24 + 1) y22 y23 = some r := hM
    rw [m_limnographref18_New_L1] at hM
    refine Rn.seq (Rn.seq (Rn.reg (Rn.v rfl rfl rfl rfl (V.mv rfl) (Rn.v rfl rfl rfl rfl (V.mv rfl) (Rn.v rfl rfl rfl rfl (V.lenV Try.underlying23 rfl) (Rn.v rfl rfl rfl rfl (V.lss rfl rfl) (Rn.regEnd ?_)))))))
    refine Rn.condD rfl (fun h25 => ?_) (fun h25 => ?_)
    · replace hM := iteT h25 hM
      refine Rn.skip (Rn.seq (Rn.block (Rn.seq (Rn.reg (Rn.v rfl rfl rfl rfl (V.mv rfl) (Rn.v rfl rfl rfl rfl (V.mv rfl) ?_))))))
      obtain ⟨z26, e26, hM⟩ := bindE hM
      refine Rn.ixH hm24 0 rfl e26 rfl rfl rfl Try.underlying23 Try.sizeOf26 rfl rfl rfl rfl ?_
      rintro b26 o26 vs26 ⟨_, _, rfl, ⟨rfl, _⟩, ⟨A27, c27, rfl, p27, q27, s27⟩⟩ hm26
      have hm30 : Hp Z0 No w w24 [slR A0 c0 T_api_File.rep x0, T_limnographref18_Disk.obj F23 b11 y23, rdR b26 o26 [Str (z26.Name), .slice A27 (z26.Data).length c27], slR A27 c27 byteR z26.Data] := Hp.know1 (M := [slR A27 c27 byteR z26.Data]) hm26 (fun _ h => h) (knC (fun _ h => h) ⟨p27, q27, s27⟩ kn0)
      refine Rn.v rfl rfl rfl rfl (V.ldA Try.isAgg26 Try.sizeOf26 rfl (Rd.pre (hm30.get 2 rfl).2 2) rfl) (Rn.als rfl rfl rfl Try.zeroValue26 rfl Try.sizeOf26 rfl rfl rfl rfl (by first | exact ones rfl | (simp [Value.oneCell']; done)) ?_)
      intro b31 w31 hb31 m31 e31
      have hm33 : Hp Z0 No w w31 [slR A0 c0 T_api_File.rep x0, T_limnographref18_Disk.obj F23 b11 y23, rdR b26 o26 [Str (z26.Name), .slice A27 (z26.Data).length c27], slR A27 c27 byteR z26.Data, boxR b31 26 [Str (z26.Name), .slice A27 (z26.Data).length c27]] := hm30.addBox hb31 e31 m31
      refine Rn.regEnd (Rn.seq (Rn.seq ?_))
      obtain ⟨j2, hj2, hM⟩ := jnE hM
      refine Rn.joinG (r := r) (G := Bool × (Nat → Prop)) (fun g => [(0, .slice A0 (x0).length c0), (1, .int .i64 (x1)), (5, .pointer (some ⟨b11, 0, none⟩)), (6, .int .i64 (y22)), (7, .pointer (some ⟨b31, 0, none⟩)), (52, .bool ((g.1)))]) (fun g w' => Hp Z0 No w w' [slR A0 c0 T_api_File.rep x0, T_limnographref18_Disk.obj (g.2) b11 y23, rdR b26 o26 [Str (z26.Name), .slice A27 (z26.Data).length c27], slR A27 c27 byteR z26.Data, boxR b31 26 [Str (z26.Name), .slice A27 (z26.Data).length c27]]) (fun g => j2 g.1) ?_ ?_
      · subst hj2
        clear hM
        rintro ⟨y35, F34⟩ w36 hm36 hM
        replace hm36 : Hp Z0 No w w36 [slR A0 c0 T_api_File.rep x0, T_limnographref18_Disk.obj F34 b11 y23, rdR b26 o26 [Str (z26.Name), .slice A27 (z26.Data).length c27], slR A27 c27 byteR z26.Data, boxR b31 26 [Str (z26.Name), .slice A27 (z26.Data).length c27]] := hm36
        show Rn _ _ _ _ _ [(0, .slice A0 (x0).length c0), (1, .int .i64 (x1)), (5, .pointer (some ⟨b11, 0, none⟩)), (6, .int .i64 (y22)), (7, .pointer (some ⟨b31, 0, none⟩)), (52, .bool (y35))] _
        try dsimp only at hM
        refine Rn.condS rfl (fun h37 => ?_) (fun h37 => ?_)
        · replace hM := iteT h37 hM
          refine Rn.seq (Rn.reg (Rn.v rfl rfl rfl rfl (V.as rfl) (Rn.regEnd ?_)))
          have hm39 := hm36.addNone (fun z => T_limnographref18_Disk.obj No 0 z)
          have hm40 : Hp Z0 No w w36 [slR A0 c0 T_api_File.rep x0, T_limnographref18_Disk.obj F34 b11 y23, rdR b26 o26 [Str (z26.Name), .slice A27 (z26.Data).length c27], slR A27 c27 byteR z26.Data, boxR b31 26 [Str (z26.Name), .slice A27 (z26.Data).length c27], optR (none : Option T_limnographref18_Disk) (fun z => T_limnographref18_Disk.obj No 0 z)] := hm39
          refine Rn.retG1 Try.func13 rfl (rvT rfl) ?_
          obtain rfl := someE hM
          exact ⟨No, 0, rfl, hm40.pick [5] rfl (by decide)⟩
        · replace hM := iteF (by rw [h37]; exact Bool.false_ne_true) hM
          refine Rn.skip (Rn.reg (Rn.v rfl rfl rfl rfl (V.mv rfl) (Rn.v rfl rfl rfl rfl (V.fa Try.underlying26 rfl Try.sizeOf9 rfl rfl) (Rn.v rfl rfl rfl rfl (V.ldB Try.isAgg9 rfl (hm36.get 4 rfl) rfl) (Rn.v rfl rfl rfl rfl (V.fa Try.underlying26 rfl Try.sizeOf24 rfl rfl) (Rn.v rfl rfl rfl rfl (V.ldB Try.isAgg24 rfl (hm36.get 4 rfl) rfl) (Rn.v rfl rfl rfl rfl (V.fa Try.underlying26 rfl Try.sizeOf24 rfl rfl) (Rn.v rfl rfl rfl rfl (V.ldB Try.isAgg24 rfl (hm36.get 4 rfl) rfl) (Rn.v rfl rfl rfl rfl (V.lenV Try.underlying24 rfl) (Rn.v rfl rfl rfl rfl (V.bldS st78 rfl rfl) ?_))))))))))
          obtain ⟨p41, e41, hM⟩ := bindE hM
          have hm42 := hm36.know (relR T_limnographref18_File.rep [Str (z26.Name), .slice A27 (z26.Data).length c27, .int .i64 ((z26.Data.length : Int))] ({ Name := z26.Name, Data := z26.Data, Sure := (z26.Data.length : Int) } : T_limnographref18_File)) (fun _ h => h) (show T_limnographref18_File.rep.rel _ _ _ _ from ⟨_, _, rfl, ⟨rfl, trivial⟩, ⟨_, _, rfl, ⟨_, _, rfl, (hm36.get 3 rfl).1, (hm36.get 3 rfl).2.1, (hm36.get 3 rfl).2.2⟩, ⟨rfl, trivial⟩⟩⟩)
          have hm44 : Hp Z0 No w w36 ([slR A0 c0 T_api_File.rep x0, rdR b26 o26 [Str (z26.Name), .slice A27 (z26.Data).length c27], slR A27 c27 byteR z26.Data, boxR b31 26 [Str (z26.Name), .slice A27 (z26.Data).length c27]] ++ [T_limnographref18_Disk.obj F34 b11 y23, relR T_limnographref18_File.rep [Str (z26.Name), .slice A27 (z26.Data).length c27, .int .i64 ((z26.Data.length : Int))] ({ Name := z26.Name, Data := z26.Data, Sure := (z26.Data.length : Int) } : T_limnographref18_File)]) := hm42.pick [0, 2, 3, 4, 1, 5] rfl (by decide)
          refine Rn.cl ck32 rfl rfl rfl rfl (m_limnographref18_Disk_put_sim (Z0 := _) _ F34 b11 y23 ({ Name := z26.Name, Data := z26.Data, Sure := (z26.Data.length : Int) } : T_limnographref18_File) [Str (z26.Name), .slice A27 (z26.Data).length c27, .int .i64 ((z26.Data.length : Int))] hm44.lend e41) ?_
          rintro _ w41 ⟨F41_p0, rfl, hq41⟩
          refine ⟨_, rfl, ?_⟩
          have hm46 : Hp Z0 No w w41 [slR A0 c0 T_api_File.rep x0, rdR b26 o26 [Str (z26.Name), .slice A27 (z26.Data).length c27], slR A27 c27 byteR z26.Data, boxR b31 26 [Str (z26.Name), .slice A27 (z26.Data).length c27], T_limnographref18_Disk.obj F41_p0 b11 p41] := hm44.callAZ hq41
          refine Rn.regEnd (Rn.inBlock (Rn.reg (Rn.v rfl rfl rfl rfl (V.mv rfl) (Rn.v rfl rfl rfl rfl (V.addW rfl rfl) (Rn.v rfl rfl rfl rfl (V.as rfl) (Rn.regEnd ?_))))))
          exact hn24 ((W64 (y22 + 1)), p41, F41_p0) _ _ (Sub.cons rfl (Sub.cons rfl (Sub.cons rfl (Sub.cons rfl (Sub.nil _))))) (hm46.pick [0, 4] rfl (by decide)) hM
      intro hk2
      clear hj2
      refine Rn.drawH rfl hm33 ?_
      intro w47 hm47
      refine RH.here fun hS0 => RH.one 0 (by kernel_rfl) rfl rfl rfl rfl (V.fa Try.underlying26 rfl Try.sizeOf9 rfl rfl) hS0 ?_
      refine RH.here fun hS1 => RH.one 1 (by kernel_rfl) rfl rfl rfl rfl (V.ldB Try.isAgg9 rfl (hm47.get 4 rfl) rfl) hS1 ?_
      obtain ⟨p48, e48, hM⟩ := bindE hM
      refine RH.cl ck29 2 (by kernel_rfl) rfl rfl rfl rfl (m_limnographref18_Name_sim (Z0 := All) _ z26.Name  e48) ?_
      rintro _ w48 ⟨rfl, hq48⟩
      refine ⟨_, rfl, ((Ext.refl _).trans hq48.fr), ?_⟩
      have hm49 := hm47.call0 hq48
      refine RH.here fun hS3 => RH.one 3 (by kernel_rfl) rfl rfl rfl rfl (V.notB rfl) hS3 ?_
      refine RH.here fun hS4 => RH.one 4 (by kernel_rfl) rfl rfl rfl rfl (V.mv rfl) hS4 ?_
      refine RH.part (t := 36) rfl (fun h50 => ?_) (fun h50 => ?_)
      · replace hM := iteT h50 hM
        refine RH.no 5 (by kernel_rfl) rfl rfl rfl rfl ?_
        refine RH.no 6 (by kernel_rfl) rfl rfl rfl rfl ?_
        refine RH.no 7 (by kernel_rfl) rfl rfl rfl rfl ?_
        refine RH.no 8 (by kernel_rfl) rfl rfl rfl rfl ?_
        refine RH.no 9 (by kernel_rfl) rfl rfl rfl rfl ?_
        refine RH.here fun hS10 => RH.one 10 (by kernel_rfl) rfl rfl rfl rfl (V.pkT rfl rfl) hS10 ?_
        refine RH.here fun hS11 => RH.one 11 (by kernel_rfl) rfl rfl rfl rfl (V.mv rfl) hS11 ?_
        refine RH.no 12 (by kernel_rfl) rfl rfl rfl rfl ?_
        refine RH.no 13 (by kernel_rfl) rfl rfl rfl rfl ?_
        refine RH.no 14 (by kernel_rfl) rfl rfl rfl rfl ?_
        refine RH.no 15 (by kernel_rfl) rfl rfl rfl rfl ?_
        refine RH.no 16 (by kernel_rfl) rfl rfl rfl rfl ?_
        refine RH.no 17 (by kernel_rfl) rfl rfl rfl rfl ?_
        refine RH.no 18 (by kernel_rfl) rfl rfl rfl rfl ?_
        refine RH.no 19 (by kernel_rfl) rfl rfl rfl rfl ?_
        refine RH.here fun hS20 => RH.one 20 (by kernel_rfl) rfl rfl rfl rfl (V.pkT rfl rfl) hS20 ?_
        refine RH.doneP (by kernel_rfl) ?_
        exact hk2 (true, F23) _ _ (Sub.cons rfl (Sub.cons rfl (Sub.cons rfl (Sub.cons rfl (Sub.cons rfl (Sub.cons rfl (Sub.nil _))))))) (hm49.pick [0, 1, 2, 3, 4] rfl (by decide)) hM
      · replace hM := iteF (by rw [h50]; exact Bool.false_ne_true) hM
        refine RH.take 5 (by kernel_rfl) rfl rfl rfl rfl (fun w' hDr => V.mv rfl) ?_
        refine RH.here fun hS6 => RH.one 6 (by kernel_rfl) rfl rfl rfl rfl (V.fa Try.underlying26 rfl Try.sizeOf9 rfl rfl) hS6 ?_
        refine RH.here fun hS7 => RH.one 7 (by kernel_rfl) rfl rfl rfl rfl (V.ldB Try.isAgg9 rfl (hm49.get 4 rfl) rfl) hS7 ?_
        obtain ⟨p51, e51, hM⟩ := bindE hM
        refine RH.cl ck30 8 (by kernel_rfl) rfl rfl rfl rfl (m_limnographref18_Disk_Find_sim (Z0 := All) _ F23 b11 y23 z26.Name (fz_all (hm49.get 1 rfl)) e51) ?_
        rintro _ w51 ⟨rfl, hq51⟩
        refine ⟨_, rfl, (((Ext.refl _).trans hq48.fr).trans hq51.fr), ?_⟩
        have hm52 := hm49.call0 hq51
        refine RH.here fun hS9 => RH.one 9 (by kernel_rfl) rfl rfl rfl rfl (V.geq rfl rfl) hS9 ?_
        refine RH.here fun hS10 => RH.one 10 (by kernel_rfl) rfl rfl rfl rfl (V.pkF rfl rfl) hS10 ?_
        refine RH.here fun hS11 => RH.one 11 (by kernel_rfl) rfl rfl rfl rfl (V.mv rfl) hS11 ?_
        refine RH.partD (t := 43) rfl (fun h53 => ?_) (fun h53 => ?_)
        · replace hM := iteT h53 hM
          refine RH.no 12 (by kernel_rfl) rfl rfl rfl rfl ?_
          refine RH.no 13 (by kernel_rfl) rfl rfl rfl rfl ?_
          refine RH.no 14 (by kernel_rfl) rfl rfl rfl rfl ?_
          refine RH.no 15 (by kernel_rfl) rfl rfl rfl rfl ?_
          refine RH.no 16 (by kernel_rfl) rfl rfl rfl rfl ?_
          refine RH.no 17 (by kernel_rfl) rfl rfl rfl rfl ?_
          refine RH.no 18 (by kernel_rfl) rfl rfl rfl rfl ?_
          refine RH.no 19 (by kernel_rfl) rfl rfl rfl rfl ?_
          refine RH.here fun hS20 => RH.one 20 (by kernel_rfl) rfl rfl rfl rfl (V.pkT rfl rfl) hS20 ?_
          refine RH.doneP (by kernel_rfl) ?_
          exact hk2 (true, F23) _ _ (Sub.cons rfl (Sub.cons rfl (Sub.cons rfl (Sub.cons rfl (Sub.cons rfl (Sub.cons rfl (Sub.nil _))))))) (hm52.pick [0, 1, 2, 3, 4] rfl (by decide)) hM
        · replace hM := iteF h53 hM
          refine RH.take 12 (by kernel_rfl) rfl rfl rfl rfl (fun w' hDr => V.fa Try.underlying26 rfl Try.sizeOf24 rfl rfl) ?_
          refine RH.take 13 (by kernel_rfl) rfl rfl rfl rfl (fun w' hDr => V.ldB Try.isAgg24 rfl ((hm47.ext hDr).get 4 rfl) rfl) ?_
          refine RH.take 14 (by kernel_rfl) rfl rfl rfl rfl (fun w' hDr => V.lenV Try.underlying24 rfl) ?_
          refine RH.take 15 (by kernel_rfl) rfl rfl rfl rfl (fun w' hDr => V.mv rfl) ?_
          refine RH.here fun hS16 => RH.one 16 (by kernel_rfl) rfl rfl rfl rfl (V.mv rfl) hS16 ?_
          obtain ⟨p54, e54, hM⟩ := bindE hM
          refine RH.cl ck31 17 (by kernel_rfl) rfl rfl rfl rfl (m_limnographref18_Disk_Used_sim (Z0 := All) _ F23 b11 y23 (fz_all (hm52.get 1 rfl)) e54) ?_
          rintro _ w54 ⟨rfl, hq54⟩
          refine ⟨_, rfl, ((((Ext.refl _).trans hq48.fr).trans hq51.fr).trans hq54.fr), ?_⟩
          have hm55 := hm52.call0 hq54
          refine RH.here fun hS18 => RH.one 18 (by kernel_rfl) rfl rfl rfl rfl (V.subW rfl rfl) hS18 ?_
          refine RH.here fun hS19 => RH.one 19 (by kernel_rfl) rfl rfl rfl rfl (V.gtr rfl rfl) hS19 ?_
          refine RH.here fun hS20 => RH.one 20 (by kernel_rfl) rfl rfl rfl rfl (V.pkF rfl rfl) hS20 ?_
          refine RH.doneP (by kernel_rfl) ?_
          exact hk2 ((decide ((z26.Data.length : Int) > W64 (x1 - p54))), F23) _ _ (Sub.cons rfl (Sub.cons rfl (Sub.cons rfl (Sub.cons rfl (Sub.cons rfl (Sub.cons rfl (Sub.nil _))))))) (hm55.pick [0, 1, 2, 3, 4] rfl (by decide)) hM
    · replace hM := iteF h25 hM
      refine Rn.exit rfl ?_
      exact hk1 (y23, F23) _ _ (Sub.cons rfl (Sub.nil _)) (hm24.pick [0, 1] rfl (by decide)) hM

set_option maxRecDepth 20000 in
theorem m_disk_Disk_Calls_sim {Z0 : Nat → Prop} (w : World) (F0 : Nat → Prop) (b0 : Nat) (x0 : PD) {r : Int} (f0 : (fzR (diskO 59 64 5 F0 b0 x0)).H Z0 w) (hM : m_disk_Disk_Calls x0 = some r) :
    Calls Try.prog 47 #[.pointer (some ⟨b0, 0, none⟩)] w fun x w' => x = .returned (.int .i64 (r)) ∧ Hp Z0 No w w' [] := by
  obtain rfl := someE hM
  refine (calls_spec w f0.1).mono ?_
  rintro x w' ⟨rfl, rfl⟩
  exact ⟨rfl, Hp.nil Z0 No w⟩

set_option maxRecDepth 20000 in
theorem m_disk_Disk_Names_sim {Z0 : Nat → Prop} (w : World) (F0 : Nat → Prop) (b0 : Nat) (x0 : PD) {r : (List (List UInt8))} (f0 : (fzR (diskO 59 64 5 F0 b0 x0)).H Z0 w) (hM : m_disk_Disk_Names x0 = some r) :
    Calls Try.prog 9 #[.pointer (some ⟨b0, 0, none⟩)] w fun x w' => ∃ A_0_0 c_0_0, x = .returned (.slice A_0_0 (r).length c_0_0) ∧ Hp Z0 No w w' [ownR 9 A_0_0 c_0_0 textR r] := by
  unfold m_disk_Disk_Names at hM
  split at hM
  · rename_i hg
    obtain rfl := someE hM
    refine (names_spec w hg f0.1).mono ?_
    rintro x w' ⟨A, c, rfl, ho, hx⟩
    exact ⟨A, c, rfl, (Hp.nil Z0 No w).addOwn hx ho text_flat⟩
  · cases hM

set_option maxRecDepth 20000 in
theorem m_disk_Disk_Size_sim {Z0 : Nat → Prop} (w : World) (F0 : Nat → Prop) (b0 : Nat) (x0 : PD) (x1 : (List UInt8)) {r : (Int × Int × Int)} (f0 : (fzR (diskO 59 64 5 F0 b0 x0)).H Z0 w) (hM : m_disk_Disk_Size x0 x1 = some r) :
    Calls Try.prog 19 #[.pointer (some ⟨b0, 0, none⟩), Str (x1)] w fun x w' => x = .returned (.tuple #[.int .i64 (r.1), .int .i64 (r.2.1), .int .i64 (r.2.2)]) ∧ Hp Z0 No w w' [] := by
  obtain rfl := someE hM
  refine (size_spec x1 w f0.1).mono ?_
  rintro x w' ⟨hx, h⟩
  have h2 := (Hp.nil Z0 No w).ext hx
  rcases h with ⟨hd, rfl⟩ | ⟨hd, hf, rfl⟩ | ⟨f, hd, hf, rfl⟩
  · rw [hd]; exact ⟨rfl, h2⟩
  · rw [hd, hf]; exact ⟨rfl, h2⟩
  · rw [hd, hf]; exact ⟨rfl, h2⟩

set_option maxRecDepth 20000 in
theorem m_disk_Disk_Used_sim {Z0 : Nat → Prop} (w : World) (F0 : Nat → Prop) (b0 : Nat) (x0 : PD) {r : Int} (f0 : (fzR (diskO 59 64 5 F0 b0 x0)).H Z0 w) (hM : m_disk_Disk_Used x0 = some r) :
    Calls Try.prog 22 #[.pointer (some ⟨b0, 0, none⟩)] w fun x w' => x = .returned (.int .i64 (r)) ∧ Hp Z0 No w w' [] := by
  unfold m_disk_Disk_Used at hM
  split at hM
  · rename_i hg
    obtain rfl := someE hM
    obtain ⟨mb, ms, ck, bss, h⟩ := f0.1
    refine (used_spec _ w rfl hg h).mono ?_
    rintro x w' ⟨rfl, hx⟩
    exact ⟨rfl, (Hp.nil Z0 No w).ext hx⟩
  · cases hM

set_option maxRecDepth 20000 in
theorem m_limnographlaw18_same_sim {Z0 : Nat → Prop} (w : World) (F0 : Nat → Prop) (b0 : Nat) (x0 : PD) (F1 : Nat → Prop) (b1 : Nat) (x1 : T_limnographref18_Disk) {r : Bool} (f0 : (fzR (diskO 59 64 5 F0 b0 x0)).H Z0 w) (f1 : (fzR (T_limnographref18_Disk.obj F1 b1 x1)).H Z0 w) (hM : m_limnographlaw18_same x0 x1 = some r) :
    Calls Try.prog 21 #[.pointer (some ⟨b0, 0, none⟩), .pointer (some ⟨b1, 0, none⟩)] w fun x w' => x = .returned (.bool (r)) ∧ Hp Z0 No w w' [] := by
  have hm0 := Hp.nil Z0 No w
  have hc0 := Calm.nil
  have hm3 := hm0.know (fzR (diskO 59 64 5 F0 b0 x0)) (fun _ h => h) (hm0.in0 hc0 f0)
  replace hc0 := hc0.snoc (r := fzR (diskO 59 64 5 F0 b0 x0)) (fun _ h => h)
  have hm4 := hm3.know (fzR (T_limnographref18_Disk.obj F1 b1 x1)) (fun _ h => h) (hm3.in0 hc0 f1)
  replace hc0 := hc0.snoc (r := fzR (T_limnographref18_Disk.obj F1 b1 x1)) (fun _ h => h)
  refine Rn.enter Try.func21 rfl rfl (Nat.le_of_ble_eq_true rfl) ?_
  refine Rn.seq (Rn.reg (Rn.v rfl rfl rfl rfl (V.as rfl) (Rn.regEnd (Rn.seq (Rn.seq ?_)))))
  obtain ⟨j1, hj1, hM⟩ := jnE hM
  refine Rn.joinG (r := r) (G := Bool) (fun g => [(0, .pointer (some ⟨b0, 0, none⟩)), (1, .pointer (some ⟨b1, 0, none⟩)), (34, .bool (g))]) (fun g w' => Hp Z0 No w w' [fzR (diskO 59 64 5 F0 b0 x0), fzR (T_limnographref18_Disk.obj F1 b1 x1)]) (fun g => j1 g) ?_ ?_
  · subst hj1
    clear hM
    rintro y5 w6 hm6 hM
    replace hm6 : Hp Z0 No w w6 [fzR (diskO 59 64 5 F0 b0 x0), fzR (T_limnographref18_Disk.obj F1 b1 x1)] := hm6
    show Rn _ _ _ _ _ [(0, .pointer (some ⟨b0, 0, none⟩)), (1, .pointer (some ⟨b1, 0, none⟩)), (34, .bool (y5))] _
    try dsimp only at hM
    refine Rn.condS rfl (fun h7 => ?_) (fun h7 => ?_)
    · replace hM := iteT h7 hM
      refine Rn.seq (Rn.reg (Rn.v rfl rfl rfl rfl (V.as rfl) (Rn.regEnd ?_)))
      refine Rn.retG1 Try.func21 rfl (rvT rfl) ?_
      obtain rfl := someE hM
      exact ⟨rfl, hm6.pick [] rfl (by decide)⟩
    · replace hM := iteF (by rw [h7]; exact Bool.false_ne_true) hM
      refine Rn.skip (Rn.seq (Rn.reg (Rn.v rfl rfl rfl rfl (V.mv rfl) ?_)))
      obtain ⟨p8, e8, hM⟩ := bindE hM
      refine Rn.cl ck9 rfl rfl rfl rfl (m_disk_Disk_Names_sim (Z0 := All) _ F0 b0 x0 (fz_fz (hm6.get 0 rfl)) e8) ?_
      rintro _ w8 ⟨A8_0_0, c8_0_0, rfl, hq8⟩
      refine ⟨_, rfl, ?_⟩
      have hm10 : Hp Z0 No w w8 [fzR (diskO 59 64 5 F0 b0 x0), fzR (T_limnographref18_Disk.obj F1 b1 x1), ownR 9 A8_0_0 c8_0_0 textR p8] := hm6.callF (flC (ownR_flat text_flat _ _ _ _) fl0) hq8
      refine Rn.v rfl rfl rfl rfl (V.as rfl) (Rn.regEnd (Rn.seq (Rn.seq (Rn.reg (Rn.v rfl rfl rfl rfl (V.mv rfl) (Rn.v rfl rfl rfl rfl (V.nil rfl) (Rn.v rfl rfl rfl rfl (V.fa Try.underlying74 rfl Try.sizeOf4 rfl rfl) ?_)))))))
      obtain ⟨_, ⟨A11_0, c11_0, rfl⟩, hm11⟩ := hm10.unfz 1 rfl
      replace hm11 : Hp Z0 No w w8 [fzR (diskO 59 64 5 F0 b0 x0), fzR (T_limnographref18_Disk.obj F1 b1 x1), ownR 9 A8_0_0 c8_0_0 textR p8, fzR (boxR b1 74 [.slice A11_0 (x1.L).length c11_0, .int .i64 (x1.Capacity), .bool (x1.Down), .int .i64 (x1.Calls), .int .i64 (x1.Fail), .int .i64 (x1.Crash), .int .i64 (x1.Err)]), fzR (ownR 78 A11_0 c11_0 T_limnographref18_File.rep x1.L)] := hm11
      have hm15 := hm11.fzSl 4 rfl
      refine Rn.v rfl rfl rfl rfl (V.ldB Try.isAgg4 rfl (hm15.getz 3 rfl) rfl) (Rn.regEnd ?_)
      refine Rn.condS rfl (fun h16 => ?_) (fun h16 => ?_)
      · replace hM := iteT h16 hM
        refine Rn.seq (Rn.reg (Rn.v rfl rfl rfl rfl (V.mv rfl) ?_))
        obtain ⟨p17, e17, hM⟩ := bindE hM
        refine Rn.cl ck18 rfl rfl rfl rfl (m_disk_Disk_Read_sim (Z0 := All) _ F0 b0 x0 ([97] : List UInt8) (fz_fz (hm15.get 0 rfl)) e17) ?_
        rintro _ w17 ⟨A17_0_0, c17_0_0, rfl, hq17⟩
        refine ⟨_, rfl, ?_⟩
        have hm19 : Hp Z0 No w w17 [fzR (diskO 59 64 5 F0 b0 x0), fzR (T_limnographref18_Disk.obj F1 b1 x1), ownR 9 A8_0_0 c8_0_0 textR p8, fzR (boxR b1 74 [.slice A11_0 (x1.L).length c11_0, .int .i64 (x1.Capacity), .bool (x1.Down), .int .i64 (x1.Calls), .int .i64 (x1.Fail), .int .i64 (x1.Crash), .int .i64 (x1.Err)]), fzR (ownR 78 A11_0 c11_0 T_limnographref18_File.rep x1.L), slR A11_0 c11_0 T_limnographref18_File.rep x1.L, ownR 5 A17_0_0 c17_0_0 byteR p17.1] := hm15.callF (flC (ownR_flat byte_flat _ _ _ _) fl0) hq17
        refine Rn.v rfl rfl rfl rfl (V.mv rfl) (Rn.v rfl rfl rfl rfl (V.ext rfl rfl) (Rn.v rfl rfl rfl rfl (V.ext rfl rfl) (Rn.v rfl rfl rfl rfl (V.as rfl) (Rn.v rfl rfl rfl rfl (V.as rfl) (Rn.regEnd (Rn.seq (Rn.reg (Rn.v rfl rfl rfl rfl (V.mv rfl) ?_))))))))
        obtain ⟨p20, e20, hM⟩ := bindE hM
        refine Rn.cl ck19 rfl rfl rfl rfl (m_disk_Disk_Size_sim (Z0 := All) _ F0 b0 x0 ([97] : List UInt8) (fz_fz (hm19.get 0 rfl)) e20) ?_
        rintro _ w20 ⟨rfl, hq20⟩
        refine ⟨_, rfl, ?_⟩
        have hm21 := hm19.call0 hq20
        refine Rn.v rfl rfl rfl rfl (V.mv rfl) (Rn.v rfl rfl rfl rfl (V.ext rfl rfl) (Rn.v rfl rfl rfl rfl (V.ext rfl rfl) (Rn.v rfl rfl rfl rfl (V.ext rfl rfl) (Rn.v rfl rfl rfl rfl (V.as rfl) (Rn.v rfl rfl rfl rfl (V.as rfl) (Rn.v rfl rfl rfl rfl (V.as rfl) (Rn.regEnd (Rn.seq (Rn.reg (Rn.v rfl rfl rfl rfl (V.mv rfl) (Rn.v rfl rfl rfl rfl (V.lenV Try.underlying32 rfl) (Rn.v rfl rfl rfl rfl (V.eql rfl rfl) (Rn.v rfl rfl rfl rfl (V.mv rfl) ?_)))))))))))))
        obtain ⟨j2, hj2, hM⟩ := jnE hM
        refine Rn.joinR (r := r) (G := Bool) [8, 9, 10, 11, 12, 13, 14, 15, 16, 17, 18, 19, 20, 21, 22, 23, 24, 25, 26, 27, 28, 29] (fun g => [(6, .slice A17_0_0 (p17.1).length c17_0_0), (7, .int .i64 (p17.2)), (8, .int .i64 (p20.1)), (9, .int .i64 (p20.2.1)), (10, .int .i64 (p20.2.2)), (59, .bool (g))]) (fun g w' => Hp Z0 No w w' [fzR (diskO 59 64 5 F0 b0 x0), fzR (T_limnographref18_Disk.obj F1 b1 x1), ownR 9 A8_0_0 c8_0_0 textR p8, fzR (boxR b1 74 [.slice A11_0 (x1.L).length c11_0, .int .i64 (x1.Capacity), .bool (x1.Down), .int .i64 (x1.Calls), .int .i64 (x1.Fail), .int .i64 (x1.Crash), .int .i64 (x1.Err)]), fzR (ownR 78 A11_0 c11_0 T_limnographref18_File.rep x1.L), slR A11_0 c11_0 T_limnographref18_File.rep x1.L, ownR 5 A17_0_0 c17_0_0 byteR p17.1]) (fun g => j2 g) ?_ ?_
        · subst hj2
          clear hM
          rintro y22 w23 hm23 hM
          replace hm23 : Hp Z0 No w w23 [fzR (diskO 59 64 5 F0 b0 x0), fzR (T_limnographref18_Disk.obj F1 b1 x1), ownR 9 A8_0_0 c8_0_0 textR p8, fzR (boxR b1 74 [.slice A11_0 (x1.L).length c11_0, .int .i64 (x1.Capacity), .bool (x1.Down), .int .i64 (x1.Calls), .int .i64 (x1.Fail), .int .i64 (x1.Crash), .int .i64 (x1.Err)]), fzR (ownR 78 A11_0 c11_0 T_limnographref18_File.rep x1.L), slR A11_0 c11_0 T_limnographref18_File.rep x1.L, ownR 5 A17_0_0 c17_0_0 byteR p17.1] := hm23
          show Rn _ _ _ _ _ [(6, .slice A17_0_0 (p17.1).length c17_0_0), (7, .int .i64 (p17.2)), (8, .int .i64 (p20.1)), (9, .int .i64 (p20.2.1)), (10, .int .i64 (p20.2.2)), (59, .bool (y22))] _
          try dsimp only at hM
          refine Rn.v rfl rfl rfl rfl (V.mv rfl) ?_
          refine Rn.cutR [13, 14, 15, 16, 17, 18, 19, 20, 21, 22, 23, 24, 25, 26, 27, 28, 29] [(7, .int .i64 (p17.2)), (8, .int .i64 (p20.1)), (9, .int .i64 (p20.2.1)), (10, .int .i64 (p20.2.2)), (64, .bool (decide ((y22 = true) ∧ ((p17.1.length : Int) = 0))))] (fun hk24 => ?_) ?_
          · refine Rn.part (t := 60) rfl (fun h25 => ?_) (fun h25 => ?_)
            · refine Rn.v rfl rfl rfl rfl (V.mv rfl) (Rn.v rfl rfl rfl rfl (V.lenV Try.underlying24 rfl) (Rn.v rfl rfl rfl rfl (V.eql rfl rfl) (Rn.v rfl rfl rfl rfl (V.pkT rfl rfl) ?_)))
              refine hk24 _ ?_
              exact Sub.cons rfl (Sub.cons rfl (Sub.cons rfl (Sub.cons rfl (Sub.cons (lkv _ rfl (by first | exact andT h25 | exact andF h25 | exact orT h25 | exact orF h25 | exact nandF h25 | exact nandT h25 | exact norT h25 | exact norF h25 | (simp [h25]; done) | grind)) (Sub.nil _)))))
            · refine Rn.no rfl rfl rfl rfl (Rn.no rfl rfl rfl rfl (Rn.no rfl rfl rfl rfl (Rn.v rfl rfl rfl rfl (V.pkF rfl rfl) ?_)))
              refine hk24 _ ?_
              exact Sub.cons rfl (Sub.cons rfl (Sub.cons rfl (Sub.cons rfl (Sub.cons (lkv _ rfl (by first | exact andT h25 | exact andF h25 | exact orT h25 | exact orF h25 | exact nandF h25 | exact nandT h25 | exact norT h25 | exact norF h25 | (simp [h25]; done) | grind)) (Sub.nil _)))))
          refine Rn.v rfl rfl rfl rfl (V.mv rfl) ?_
          refine Rn.cutR [17, 18, 19, 20, 21, 22, 23, 24, 25, 26, 27, 28, 29] [(8, .int .i64 (p20.1)), (9, .int .i64 (p20.2.1)), (10, .int .i64 (p20.2.2)), (68, .bool (decide (((y22 = true) ∧ ((p17.1.length : Int) = 0)) ∧ (p17.2 = 13))))] (fun hk26 => ?_) ?_
          · refine Rn.partD (t := 65) rfl (fun h27 => ?_) (fun h27 => ?_)
            · refine Rn.v rfl rfl rfl rfl (V.mv rfl) (Rn.v rfl rfl rfl rfl (V.eql rfl rfl) (Rn.v rfl rfl rfl rfl (V.pkT rfl rfl) ?_))
              refine hk26 _ ?_
              exact Sub.cons rfl (Sub.cons rfl (Sub.cons rfl (Sub.cons (lkv _ rfl (by first | exact andT h27 | exact andF h27 | exact orT h27 | exact orF h27 | exact nandF h27 | exact nandT h27 | exact norT h27 | exact norF h27 | (simp [h27]; done) | grind)) (Sub.nil _))))
            · refine Rn.no rfl rfl rfl rfl (Rn.no rfl rfl rfl rfl (Rn.v rfl rfl rfl rfl (V.pkF rfl rfl) ?_))
              refine hk26 _ ?_
              exact Sub.cons rfl (Sub.cons rfl (Sub.cons rfl (Sub.cons (lkv _ rfl (by first | exact andT h27 | exact andF h27 | exact orT h27 | exact orF h27 | exact nandF h27 | exact nandT h27 | exact norT h27 | exact norF h27 | (simp [h27]; done) | grind)) (Sub.nil _))))
          refine Rn.v rfl rfl rfl rfl (V.mv rfl) ?_
          refine Rn.cutR [21, 22, 23, 24, 25, 26, 27, 28, 29] [(9, .int .i64 (p20.2.1)), (10, .int .i64 (p20.2.2)), (72, .bool (decide ((((y22 = true) ∧ ((p17.1.length : Int) = 0)) ∧ (p17.2 = 13)) ∧ (p20.1 = 0))))] (fun hk28 => ?_) ?_
          · refine Rn.partD (t := 69) rfl (fun h29 => ?_) (fun h29 => ?_)
            · refine Rn.v rfl rfl rfl rfl (V.mv rfl) (Rn.v rfl rfl rfl rfl (V.eql rfl rfl) (Rn.v rfl rfl rfl rfl (V.pkT rfl rfl) ?_))
              refine hk28 _ ?_
              exact Sub.cons rfl (Sub.cons rfl (Sub.cons (lkv _ rfl (by first | exact andT h29 | exact andF h29 | exact orT h29 | exact orF h29 | exact nandF h29 | exact nandT h29 | exact norT h29 | exact norF h29 | (simp [h29]; done) | grind)) (Sub.nil _)))
            · refine Rn.no rfl rfl rfl rfl (Rn.no rfl rfl rfl rfl (Rn.v rfl rfl rfl rfl (V.pkF rfl rfl) ?_))
              refine hk28 _ ?_
              exact Sub.cons rfl (Sub.cons rfl (Sub.cons (lkv _ rfl (by first | exact andT h29 | exact andF h29 | exact orT h29 | exact orF h29 | exact nandF h29 | exact nandT h29 | exact norT h29 | exact norF h29 | (simp [h29]; done) | grind)) (Sub.nil _)))
          refine Rn.v rfl rfl rfl rfl (V.mv rfl) ?_
          refine Rn.cutR [25, 26, 27, 28, 29] [(10, .int .i64 (p20.2.2)), (76, .bool (decide (((((y22 = true) ∧ ((p17.1.length : Int) = 0)) ∧ (p17.2 = 13)) ∧ (p20.1 = 0)) ∧ (p20.2.1 = 0))))] (fun hk30 => ?_) ?_
          · refine Rn.partD (t := 73) rfl (fun h31 => ?_) (fun h31 => ?_)
            · refine Rn.v rfl rfl rfl rfl (V.mv rfl) (Rn.v rfl rfl rfl rfl (V.eql rfl rfl) (Rn.v rfl rfl rfl rfl (V.pkT rfl rfl) ?_))
              refine hk30 _ ?_
              exact Sub.cons rfl (Sub.cons (lkv _ rfl (by first | exact andT h31 | exact andF h31 | exact orT h31 | exact orF h31 | exact nandF h31 | exact nandT h31 | exact norT h31 | exact norF h31 | (simp [h31]; done) | grind)) (Sub.nil _))
            · refine Rn.no rfl rfl rfl rfl (Rn.no rfl rfl rfl rfl (Rn.v rfl rfl rfl rfl (V.pkF rfl rfl) ?_))
              refine hk30 _ ?_
              exact Sub.cons rfl (Sub.cons (lkv _ rfl (by first | exact andT h31 | exact andF h31 | exact orT h31 | exact orF h31 | exact nandF h31 | exact nandT h31 | exact norT h31 | exact norF h31 | (simp [h31]; done) | grind)) (Sub.nil _))
          refine Rn.v rfl rfl rfl rfl (V.mv rfl) ?_
          refine Rn.cutR [29] [(80, .bool (decide ((((((y22 = true) ∧ ((p17.1.length : Int) = 0)) ∧ (p17.2 = 13)) ∧ (p20.1 = 0)) ∧ (p20.2.1 = 0)) ∧ (p20.2.2 = 13))))] (fun hk32 => ?_) ?_
          · refine Rn.partD (t := 77) rfl (fun h33 => ?_) (fun h33 => ?_)
            · refine Rn.v rfl rfl rfl rfl (V.mv rfl) (Rn.v rfl rfl rfl rfl (V.eql rfl rfl) (Rn.v rfl rfl rfl rfl (V.pkT rfl rfl) ?_))
              refine hk32 _ ?_
              exact Sub.cons (lkv _ rfl (by first | exact andT h33 | exact andF h33 | exact orT h33 | exact orF h33 | exact nandF h33 | exact nandT h33 | exact norT h33 | exact norF h33 | (simp [h33]; done) | grind)) (Sub.nil _)
            · refine Rn.no rfl rfl rfl rfl (Rn.no rfl rfl rfl rfl (Rn.v rfl rfl rfl rfl (V.pkF rfl rfl) ?_))
              refine hk32 _ ?_
              exact Sub.cons (lkv _ rfl (by first | exact andT h33 | exact andF h33 | exact orT h33 | exact orF h33 | exact nandF h33 | exact nandT h33 | exact norT h33 | exact norF h33 | (simp [h33]; done) | grind)) (Sub.nil _)
          refine Rn.v rfl rfl rfl rfl (V.as rfl) (Rn.regEnd ?_)
          refine Rn.retG1 Try.func21 rfl (rvT rfl) ?_
          obtain rfl := someE hM
          exact ⟨rfl, hm23.pick [] rfl (by decide)⟩
        intro hk2
        clear hj2
        refine Rn.partD (t := 55) rfl (fun h34 => ?_) (fun h34 => ?_)
        · replace hM := iteT h34 hM
          refine Rn.v rfl rfl rfl rfl (V.mv rfl) ?_
          obtain ⟨p35, e35, hM⟩ := bindE hM
          refine Rn.cl ck22 rfl rfl rfl rfl (m_disk_Disk_Used_sim (Z0 := All) _ F0 b0 x0 (fz_fz (hm21.get 0 rfl)) e35) ?_
          rintro _ w35 ⟨rfl, hq35⟩
          refine ⟨_, rfl, ?_⟩
          have hm36 := hm21.call0 hq35
          refine Rn.v rfl rfl rfl rfl (V.eql rfl rfl) (Rn.v rfl rfl rfl rfl (V.pkT rfl rfl) ?_)
          exact hk2 (decide (p35 = 0)) _ _ (Sub.cons rfl (Sub.cons rfl (Sub.cons rfl (Sub.cons rfl (Sub.cons rfl (Sub.cons rfl (Sub.nil _))))))) (hm36.pick [0, 1, 2, 3, 4, 5, 6] rfl (by decide)) hM
        · replace hM := iteF h34 hM
          refine Rn.no rfl rfl rfl rfl (Rn.no rfl rfl rfl rfl (Rn.no rfl rfl rfl rfl (Rn.v rfl rfl rfl rfl (V.pkF rfl rfl) ?_)))
          exact hk2 false _ _ (Sub.cons rfl (Sub.cons rfl (Sub.cons rfl (Sub.cons rfl (Sub.cons rfl (Sub.cons rfl (Sub.nil _))))))) (hm21.pick [0, 1, 2, 3, 4, 5, 6] rfl (by decide)) hM
      · replace hM := iteF (by rw [h16]; exact Bool.false_ne_true) hM
        refine Rn.skip (Rn.seq (Rn.seq (Rn.reg (Rn.v rfl rfl rfl rfl (V.mv rfl) (Rn.v rfl rfl rfl rfl (V.lenV Try.underlying32 rfl) (Rn.v rfl rfl rfl rfl (V.mv rfl) (Rn.v rfl rfl rfl rfl (V.nil rfl) (Rn.v rfl rfl rfl rfl (V.fa Try.underlying74 rfl Try.sizeOf72 rfl rfl) (Rn.v rfl rfl rfl rfl (V.ldB Try.isAgg72 rfl (hm15.getz 3 rfl) rfl) (Rn.v rfl rfl rfl rfl (V.lenV Try.underlying72 rfl) (Rn.v rfl rfl rfl rfl (V.neq rfl rfl) (Rn.v rfl rfl rfl rfl (V.mv rfl) ?_))))))))))))
        obtain ⟨j3, hj3, hM⟩ := jnE hM
        refine Rn.joinR (r := r) (G := Bool) [] (fun g => [(0, .pointer (some ⟨b0, 0, none⟩)), (1, .pointer (some ⟨b1, 0, none⟩)), (5, .slice A8_0_0 (p8).length c8_0_0), (95, .bool (g))]) (fun g w' => Hp Z0 No w w' [fzR (diskO 59 64 5 F0 b0 x0), fzR (T_limnographref18_Disk.obj F1 b1 x1), ownR 9 A8_0_0 c8_0_0 textR p8, fzR (boxR b1 74 [.slice A11_0 (x1.L).length c11_0, .int .i64 (x1.Capacity), .bool (x1.Down), .int .i64 (x1.Calls), .int .i64 (x1.Fail), .int .i64 (x1.Crash), .int .i64 (x1.Err)]), fzR (ownR 78 A11_0 c11_0 T_limnographref18_File.rep x1.L), slR A11_0 c11_0 T_limnographref18_File.rep x1.L]) (fun g => j3 g) ?_ ?_
        · subst hj3
          clear hM
          rintro y37 w38 hm38 hM
          replace hm38 : Hp Z0 No w w38 [fzR (diskO 59 64 5 F0 b0 x0), fzR (T_limnographref18_Disk.obj F1 b1 x1), ownR 9 A8_0_0 c8_0_0 textR p8, fzR (boxR b1 74 [.slice A11_0 (x1.L).length c11_0, .int .i64 (x1.Capacity), .bool (x1.Down), .int .i64 (x1.Calls), .int .i64 (x1.Fail), .int .i64 (x1.Crash), .int .i64 (x1.Err)]), fzR (ownR 78 A11_0 c11_0 T_limnographref18_File.rep x1.L), slR A11_0 c11_0 T_limnographref18_File.rep x1.L] := hm38
          show Rn _ _ _ _ _ [(0, .pointer (some ⟨b0, 0, none⟩)), (1, .pointer (some ⟨b1, 0, none⟩)), (5, .slice A8_0_0 (p8).length c8_0_0), (95, .bool (y37))] _
          try dsimp only at hM
          refine Rn.regEnd ?_
          refine Rn.condS rfl (fun h39 => ?_) (fun h39 => ?_)
          · replace hM := iteT h39 hM
            refine Rn.seq (Rn.reg (Rn.v rfl rfl rfl rfl (V.as rfl) (Rn.regEnd ?_)))
            refine Rn.retG1 Try.func21 rfl (rvT rfl) ?_
            obtain rfl := someE hM
            exact ⟨rfl, hm38.pick [] rfl (by decide)⟩
          · replace hM := iteF (by rw [h39]; exact Bool.false_ne_true) hM
            refine Rn.skip (Rn.seq (Rn.seq (Rn.reg (Rn.v rfl rfl rfl rfl (V.as rfl) (Rn.regEnd ?_)))))
            obtain ⟨j4, hj4, hM⟩ := jnE hM
            refine Rn.joinG (r := r) (G := Unit) (fun g => []) (fun g w' => Hp Z0 No w w' [fzR (diskO 59 64 5 F0 b0 x0), fzR (T_limnographref18_Disk.obj F1 b1 x1), ownR 9 A8_0_0 c8_0_0 textR p8, fzR (boxR b1 74 [.slice A11_0 (x1.L).length c11_0, .int .i64 (x1.Capacity), .bool (x1.Down), .int .i64 (x1.Calls), .int .i64 (x1.Fail), .int .i64 (x1.Crash), .int .i64 (x1.Err)]), fzR (ownR 78 A11_0 c11_0 T_limnographref18_File.rep x1.L), slR A11_0 c11_0 T_limnographref18_File.rep x1.L]) (fun g => j4 ()) ?_ ?_
            · subst hj4
              clear hM
              rintro _ w40 hm40 hM
              replace hm40 : Hp Z0 No w w40 [fzR (diskO 59 64 5 F0 b0 x0), fzR (T_limnographref18_Disk.obj F1 b1 x1), ownR 9 A8_0_0 c8_0_0 textR p8, fzR (boxR b1 74 [.slice A11_0 (x1.L).length c11_0, .int .i64 (x1.Capacity), .bool (x1.Down), .int .i64 (x1.Calls), .int .i64 (x1.Fail), .int .i64 (x1.Crash), .int .i64 (x1.Err)]), fzR (ownR 78 A11_0 c11_0 T_limnographref18_File.rep x1.L), slR A11_0 c11_0 T_limnographref18_File.rep x1.L] := hm40
              show Rn _ _ _ _ _ [] _
              try dsimp only at hM
              refine Rn.seq (Rn.reg (Rn.v rfl rfl rfl rfl (V.as rfl) (Rn.regEnd ?_)))
              refine Rn.retG1 Try.func21 rfl (rvT rfl) ?_
              obtain rfl := someE hM
              exact ⟨rfl, hm40.pick [] rfl (by decide)⟩
            intro hk4
            clear hj4
            refine Rn.block ?_
            refine Rn.loopF (G := Int) (fun g => [(0, .pointer (some ⟨b0, 0, none⟩)), (1, .pointer (some ⟨b1, 0, none⟩)), (5, .slice A8_0_0 (p8).length c8_0_0), (11, .int .i64 (g))]) (fun g w' => Hp Z0 No w w' [fzR (diskO 59 64 5 F0 b0 x0), fzR (T_limnographref18_Disk.obj F1 b1 x1), ownR 9 A8_0_0 c8_0_0 textR p8, fzR (boxR b1 74 [.slice A11_0 (x1.L).length c11_0, .int .i64 (x1.Capacity), .bool (x1.Down), .int .i64 (x1.Calls), .int .i64 (x1.Fail), .int .i64 (x1.Crash), .int .i64 (x1.Err)]), fzR (ownR 78 A11_0 c11_0 T_limnographref18_File.rep x1.L), slR A11_0 c11_0 T_limnographref18_File.rep x1.L]) (fun n g => m_limnographlaw18_same_L1 x0 x1 p8 j4 n g) fuel 0 (Sub.cons rfl (Sub.cons rfl (Sub.cons rfl (Sub.cons rfl (Sub.nil _))))) (hm38.pick [0, 1, 2, 3, 4, 5] rfl (by decide)) hM (fun _ => rfl) ?_
            clear hM
            rintro m42 y41 w42 hm42 hM hn42
            replace hm42 : Hp Z0 No w w42 [fzR (diskO 59 64 5 F0 b0 x0), fzR (T_limnographref18_Disk.obj F1 b1 x1), ownR 9 A8_0_0 c8_0_0 textR p8, fzR (boxR b1 74 [.slice A11_0 (x1.L).length c11_0, .int .i64 (x1.Capacity), .bool (x1.Down), .int .i64 (x1.Calls), .int .i64 (x1.Fail), .int .i64 (x1.Crash), .int .i64 (x1.Err)]), fzR (ownR 78 A11_0 c11_0 T_limnographref18_File.rep x1.L), slR A11_0 c11_0 T_limnographref18_File.rep x1.L] := hm42
            show Rn _ _ _ _ _ [(0, .pointer (some ⟨b0, 0, none⟩)), (1, .pointer (some ⟨b1, 0, none⟩)), (5, .slice A8_0_0 (p8).length c8_0_0), (11, .int .i64 (y41))] _
            replace hM : m_limnographlaw18_same_L1 x0 x1 p8 j4 (m42 + 1) y41 = some r := hM
            rw [m_limnographlaw18_same_L1] at hM
            refine Rn.seq (Rn.seq (Rn.reg (Rn.v rfl rfl rfl rfl (V.mv rfl) (Rn.v rfl rfl rfl rfl (V.mv rfl) (Rn.v rfl rfl rfl rfl (V.lenV Try.underlying32 rfl) (Rn.v rfl rfl rfl rfl (V.lss rfl rfl) (Rn.regEnd ?_)))))))
            refine Rn.condD rfl (fun h43 => ?_) (fun h43 => ?_)
            · replace hM := iteT h43 hM
              refine Rn.skip (Rn.seq (Rn.block (Rn.seq (Rn.reg (Rn.v rfl rfl rfl rfl (V.mv rfl) (Rn.v rfl rfl rfl rfl (V.mv rfl) (Rn.v rfl rfl rfl rfl (V.mv rfl) ?_)))))))
              obtain ⟨z44, e44, hM⟩ := bindE hM
              obtain ⟨kk44, ke44, kz44, kl44⟩ := idxE e44
              obtain ⟨g44, vs44, hA44, hR44, hrel44⟩ := hm42.ownAt 2 rfl kz44
              subst hA44
              obtain ⟨rfl, _⟩ := hrel44
              refine Rn.v rfl rfl rfl rfl (V.ixE kk44 Try.underlying32 Try.sizeOf9 rfl rfl ke44 kl44) (Rn.v rfl rfl rfl rfl (V.ldR0 Try.isAgg9 rfl hR44 rfl) ?_)
              obtain ⟨p45, e45, hM⟩ := bindE hM
              refine Rn.cl ck18 rfl rfl rfl rfl (m_disk_Disk_Read_sim (Z0 := All) _ F0 b0 x0 z44 (fz_fz (hm42.get 0 rfl)) e45) ?_
              rintro _ w45 ⟨A45_0_0, c45_0_0, rfl, hq45⟩
              refine ⟨_, rfl, ?_⟩
              have hm47 : Hp Z0 No w w45 [fzR (diskO 59 64 5 F0 b0 x0), fzR (T_limnographref18_Disk.obj F1 b1 x1), ownR 9 (some ⟨g44, 0, none⟩) c8_0_0 textR p8, fzR (boxR b1 74 [.slice A11_0 (x1.L).length c11_0, .int .i64 (x1.Capacity), .bool (x1.Down), .int .i64 (x1.Calls), .int .i64 (x1.Fail), .int .i64 (x1.Crash), .int .i64 (x1.Err)]), fzR (ownR 78 A11_0 c11_0 T_limnographref18_File.rep x1.L), slR A11_0 c11_0 T_limnographref18_File.rep x1.L, ownR 5 A45_0_0 c45_0_0 byteR p45.1] := hm42.callF (flC (ownR_flat byte_flat _ _ _ _) fl0) hq45
              refine Rn.v rfl rfl rfl rfl (V.mv rfl) (Rn.v rfl rfl rfl rfl (V.ext rfl rfl) (Rn.v rfl rfl rfl rfl (V.ext rfl rfl) (Rn.v rfl rfl rfl rfl (V.as rfl) (Rn.v rfl rfl rfl rfl (V.as rfl) (Rn.regEnd (Rn.seq (Rn.reg (Rn.v rfl rfl rfl rfl (V.mv rfl) (Rn.v rfl rfl rfl rfl (V.mv rfl) (Rn.v rfl rfl rfl rfl (V.mv rfl) ?_))))))))))
              obtain ⟨z48, e48, hM⟩ := bindE hM
              obtain ⟨kk48, ke48, kz48, kl48⟩ := idxE e48
              obtain ⟨vs48, hR48, hrel48⟩ := hm47.ownAtL 2 rfl kz48
              obtain ⟨rfl, _⟩ := hrel48
              refine Rn.v rfl rfl rfl rfl (V.ixE kk48 Try.underlying32 Try.sizeOf9 rfl rfl ke48 kl48) (Rn.v rfl rfl rfl rfl (V.ldR0 Try.isAgg9 rfl hR48 rfl) ?_)
              obtain ⟨p49, e49, hM⟩ := bindE hM
              refine Rn.cl ck19 rfl rfl rfl rfl (m_disk_Disk_Size_sim (Z0 := All) _ F0 b0 x0 z48 (fz_fz (hm47.get 0 rfl)) e49) ?_
              rintro _ w49 ⟨rfl, hq49⟩
              refine ⟨_, rfl, ?_⟩
              have hm50 := hm47.call0 hq49
              refine Rn.v rfl rfl rfl rfl (V.mv rfl) (Rn.v rfl rfl rfl rfl (V.ext rfl rfl) (Rn.v rfl rfl rfl rfl (V.ext rfl rfl) (Rn.v rfl rfl rfl rfl (V.ext rfl rfl) (Rn.v rfl rfl rfl rfl (V.as rfl) (Rn.v rfl rfl rfl rfl (V.as rfl) (Rn.v rfl rfl rfl rfl (V.as rfl) (Rn.regEnd (Rn.seq (Rn.reg (Rn.v rfl rfl rfl rfl (V.mv rfl) (Rn.v rfl rfl rfl rfl (V.nil rfl) (Rn.v rfl rfl rfl rfl (V.fa Try.underlying74 rfl Try.sizeOf72 rfl rfl) (Rn.v rfl rfl rfl rfl (V.ldB Try.isAgg72 rfl (hm50.getz 3 rfl) rfl) (Rn.v rfl rfl rfl rfl (V.mv rfl) ?_))))))))))))))
              obtain ⟨z51, e51, hM⟩ := bindE hM
              refine Rn.ixH hm50 5 rfl e51 rfl rfl rfl Try.underlying72 Try.sizeOf78 rfl rfl rfl rfl ?_
              rintro b51 o51 vs51 ⟨_, _, rfl, ⟨rfl, _⟩, ⟨_, _, rfl, ⟨A52, c52, rfl, p52, q52, s52⟩, ⟨rfl, _⟩⟩⟩ hm51
              have hm55 : Hp Z0 No w w49 [fzR (diskO 59 64 5 F0 b0 x0), fzR (T_limnographref18_Disk.obj F1 b1 x1), ownR 9 (some ⟨g44, 0, none⟩) c8_0_0 textR p8, fzR (boxR b1 74 [.slice A11_0 (x1.L).length c11_0, .int .i64 (x1.Capacity), .bool (x1.Down), .int .i64 (x1.Calls), .int .i64 (x1.Fail), .int .i64 (x1.Crash), .int .i64 (x1.Err)]), fzR (ownR 78 A11_0 c11_0 T_limnographref18_File.rep x1.L), slR A11_0 c11_0 T_limnographref18_File.rep x1.L, ownR 5 A45_0_0 c45_0_0 byteR p45.1, rdR b51 o51 [Str (z51.Name), .slice A52 (z51.Data).length c52, .int .i64 (z51.Sure)], slR A52 c52 byteR z51.Data] := Hp.know1 (M := [slR A52 c52 byteR z51.Data]) hm51 (fun _ h => h) (knC (fun _ h => h) ⟨p52, q52, s52⟩ kn0)
              refine Rn.v rfl rfl rfl rfl (V.ldA Try.isAgg78 Try.sizeOf78 rfl (Rd.pre (hm55.get 7 rfl).2 3) rfl) (Rn.als rfl rfl rfl Try.zeroValue78 rfl Try.sizeOf78 rfl rfl rfl rfl (by first | exact ones rfl | (simp [Value.oneCell']; done)) ?_)
              intro b56 w56 hb56 m56 e56
              have hm58 : Hp Z0 No w w56 [fzR (diskO 59 64 5 F0 b0 x0), fzR (T_limnographref18_Disk.obj F1 b1 x1), ownR 9 (some ⟨g44, 0, none⟩) c8_0_0 textR p8, fzR (boxR b1 74 [.slice A11_0 (x1.L).length c11_0, .int .i64 (x1.Capacity), .bool (x1.Down), .int .i64 (x1.Calls), .int .i64 (x1.Fail), .int .i64 (x1.Crash), .int .i64 (x1.Err)]), fzR (ownR 78 A11_0 c11_0 T_limnographref18_File.rep x1.L), slR A11_0 c11_0 T_limnographref18_File.rep x1.L, ownR 5 A45_0_0 c45_0_0 byteR p45.1, rdR b51 o51 [Str (z51.Name), .slice A52 (z51.Data).length c52, .int .i64 (z51.Sure)], slR A52 c52 byteR z51.Data, boxR b56 78 [Str (z51.Name), .slice A52 (z51.Data).length c52, .int .i64 (z51.Sure)]] := hm55.addBox hb56 e56 m56
              refine Rn.regEnd (Rn.seq (Rn.seq ?_))
              obtain ⟨j5, hj5, hM⟩ := jnE hM
              refine Rn.joinG (r := r) (G := Bool) (fun g => [(0, .pointer (some ⟨b0, 0, none⟩)), (1, .pointer (some ⟨b1, 0, none⟩)), (5, .slice (some ⟨g44, 0, none⟩) (p8).length c8_0_0), (11, .int .i64 (y41)), (12, .slice A45_0_0 (p45.1).length c45_0_0), (163, .bool (g))]) (fun g w' => Hp Z0 No w w' [fzR (diskO 59 64 5 F0 b0 x0), fzR (T_limnographref18_Disk.obj F1 b1 x1), ownR 9 (some ⟨g44, 0, none⟩) c8_0_0 textR p8, fzR (boxR b1 74 [.slice A11_0 (x1.L).length c11_0, .int .i64 (x1.Capacity), .bool (x1.Down), .int .i64 (x1.Calls), .int .i64 (x1.Fail), .int .i64 (x1.Crash), .int .i64 (x1.Err)]), fzR (ownR 78 A11_0 c11_0 T_limnographref18_File.rep x1.L), slR A11_0 c11_0 T_limnographref18_File.rep x1.L, ownR 5 A45_0_0 c45_0_0 byteR p45.1, rdR b51 o51 [Str (z51.Name), .slice A52 (z51.Data).length c52, .int .i64 (z51.Sure)], slR A52 c52 byteR z51.Data, boxR b56 78 [Str (z51.Name), .slice A52 (z51.Data).length c52, .int .i64 (z51.Sure)]]) (fun g => j5 g) ?_ ?_
              · subst hj5
                clear hM
                rintro y59 w60 hm60 hM
                replace hm60 : Hp Z0 No w w60 [fzR (diskO 59 64 5 F0 b0 x0), fzR (T_limnographref18_Disk.obj F1 b1 x1), ownR 9 (some ⟨g44, 0, none⟩) c8_0_0 textR p8, fzR (boxR b1 74 [.slice A11_0 (x1.L).length c11_0, .int .i64 (x1.Capacity), .bool (x1.Down), .int .i64 (x1.Calls), .int .i64 (x1.Fail), .int .i64 (x1.Crash), .int .i64 (x1.Err)]), fzR (ownR 78 A11_0 c11_0 T_limnographref18_File.rep x1.L), slR A11_0 c11_0 T_limnographref18_File.rep x1.L, ownR 5 A45_0_0 c45_0_0 byteR p45.1, rdR b51 o51 [Str (z51.Name), .slice A52 (z51.Data).length c52, .int .i64 (z51.Sure)], slR A52 c52 byteR z51.Data, boxR b56 78 [Str (z51.Name), .slice A52 (z51.Data).length c52, .int .i64 (z51.Sure)]] := hm60
                show Rn _ _ _ _ _ [(0, .pointer (some ⟨b0, 0, none⟩)), (1, .pointer (some ⟨b1, 0, none⟩)), (5, .slice (some ⟨g44, 0, none⟩) (p8).length c8_0_0), (11, .int .i64 (y41)), (12, .slice A45_0_0 (p45.1).length c45_0_0), (163, .bool (y59))] _
                try dsimp only at hM
                refine Rn.condS rfl (fun h61 => ?_) (fun h61 => ?_)
                · replace hM := iteT h61 hM
                  refine Rn.seq (Rn.reg (Rn.v rfl rfl rfl rfl (V.as rfl) (Rn.regEnd ?_)))
                  refine Rn.retG1 Try.func21 rfl (rvT rfl) ?_
                  obtain rfl := someE hM
                  exact ⟨rfl, hm60.pick [] rfl (by decide)⟩
                · replace hM := iteF (by rw [h61]; exact Bool.false_ne_true) hM
                  refine Rn.skip (Rn.seq (Rn.reg (Rn.v rfl rfl rfl rfl (V.as rfl) (Rn.regEnd ?_))))
                  obtain ⟨j6, hj6, hM⟩ := jnE hM
                  refine Rn.joinG (r := r) (G := Unit) (fun g => [(0, .pointer (some ⟨b0, 0, none⟩)), (1, .pointer (some ⟨b1, 0, none⟩)), (5, .slice (some ⟨g44, 0, none⟩) (p8).length c8_0_0), (11, .int .i64 (y41))]) (fun g w' => Hp Z0 No w w' [fzR (diskO 59 64 5 F0 b0 x0), fzR (T_limnographref18_Disk.obj F1 b1 x1), ownR 9 (some ⟨g44, 0, none⟩) c8_0_0 textR p8, fzR (boxR b1 74 [.slice A11_0 (x1.L).length c11_0, .int .i64 (x1.Capacity), .bool (x1.Down), .int .i64 (x1.Calls), .int .i64 (x1.Fail), .int .i64 (x1.Crash), .int .i64 (x1.Err)]), fzR (ownR 78 A11_0 c11_0 T_limnographref18_File.rep x1.L), slR A11_0 c11_0 T_limnographref18_File.rep x1.L, rdR b51 o51 [Str (z51.Name), .slice A52 (z51.Data).length c52, .int .i64 (z51.Sure)], slR A52 c52 byteR z51.Data, boxR b56 78 [Str (z51.Name), .slice A52 (z51.Data).length c52, .int .i64 (z51.Sure)]]) (fun g => j6 ()) ?_ ?_
                  · subst hj6
                    clear hM
                    rintro _ w62 hm62 hM
                    replace hm62 : Hp Z0 No w w62 [fzR (diskO 59 64 5 F0 b0 x0), fzR (T_limnographref18_Disk.obj F1 b1 x1), ownR 9 (some ⟨g44, 0, none⟩) c8_0_0 textR p8, fzR (boxR b1 74 [.slice A11_0 (x1.L).length c11_0, .int .i64 (x1.Capacity), .bool (x1.Down), .int .i64 (x1.Calls), .int .i64 (x1.Fail), .int .i64 (x1.Crash), .int .i64 (x1.Err)]), fzR (ownR 78 A11_0 c11_0 T_limnographref18_File.rep x1.L), slR A11_0 c11_0 T_limnographref18_File.rep x1.L, rdR b51 o51 [Str (z51.Name), .slice A52 (z51.Data).length c52, .int .i64 (z51.Sure)], slR A52 c52 byteR z51.Data, boxR b56 78 [Str (z51.Name), .slice A52 (z51.Data).length c52, .int .i64 (z51.Sure)]] := hm62
                    show Rn _ _ _ _ _ [(0, .pointer (some ⟨b0, 0, none⟩)), (1, .pointer (some ⟨b1, 0, none⟩)), (5, .slice (some ⟨g44, 0, none⟩) (p8).length c8_0_0), (11, .int .i64 (y41))] _
                    try dsimp only at hM
                    refine Rn.inBlock (Rn.reg (Rn.v rfl rfl rfl rfl (V.mv rfl) (Rn.v rfl rfl rfl rfl (V.addW rfl rfl) (Rn.v rfl rfl rfl rfl (V.as rfl) (Rn.regEnd ?_)))))
                    exact hn42 (W64 (y41 + 1)) _ _ (Sub.cons rfl (Sub.cons rfl (Sub.cons rfl (Sub.cons rfl (Sub.nil _))))) (hm62.pick [0, 1, 2, 3, 4, 5] rfl (by decide)) hM
                  intro hk6
                  clear hj6
                  refine Rn.block ?_
                  refine Rn.loopF (G := (List UInt8) × Int) (fun g => [(0, .pointer (some ⟨b0, 0, none⟩)), (1, .pointer (some ⟨b1, 0, none⟩)), (5, .slice (some ⟨g44, 0, none⟩) (p8).length c8_0_0), (11, .int .i64 (y41)), (12, .slice A45_0_0 (p45.1).length c45_0_0), (18, .int .i64 ((g.2)))]) (fun g w' => Hp Z0 No w w' [fzR (diskO 59 64 5 F0 b0 x0), fzR (T_limnographref18_Disk.obj F1 b1 x1), ownR 9 (some ⟨g44, 0, none⟩) c8_0_0 textR p8, fzR (boxR b1 74 [.slice A11_0 (x1.L).length c11_0, .int .i64 (x1.Capacity), .bool (x1.Down), .int .i64 (x1.Calls), .int .i64 (x1.Fail), .int .i64 (x1.Crash), .int .i64 (x1.Err)]), fzR (ownR 78 A11_0 c11_0 T_limnographref18_File.rep x1.L), slR A11_0 c11_0 T_limnographref18_File.rep x1.L, ownR 5 A45_0_0 c45_0_0 byteR (g.1), rdR b51 o51 [Str (z51.Name), .slice A52 (z51.Data).length c52, .int .i64 (z51.Sure)], slR A52 c52 byteR z51.Data, boxR b56 78 [Str (z51.Name), .slice A52 (z51.Data).length c52, .int .i64 (z51.Sure)]] ∧ (g.1).length = (p45.1).length) (fun n g => m_limnographlaw18_same_L2 p45 j6 n g.1 g.2) fuel (p45.1, 0) (Sub.cons rfl (Sub.cons rfl (Sub.cons rfl (Sub.cons rfl (Sub.cons rfl (Sub.cons rfl (Sub.nil _))))))) (⟨hm60.pick [0, 1, 2, 3, 4, 5, 6, 7, 8, 9] rfl (by decide), rfl⟩) hM (fun _ => rfl) ?_
                  clear hM
                  rintro m65 ⟨y63, y64⟩ w65 ⟨hm65, hl63⟩ hM hn65
                  replace hl63 : y63.length = (p45.1).length := hl63
                  replace hm65 : Hp Z0 No w w65 [fzR (diskO 59 64 5 F0 b0 x0), fzR (T_limnographref18_Disk.obj F1 b1 x1), ownR 9 (some ⟨g44, 0, none⟩) c8_0_0 textR p8, fzR (boxR b1 74 [.slice A11_0 (x1.L).length c11_0, .int .i64 (x1.Capacity), .bool (x1.Down), .int .i64 (x1.Calls), .int .i64 (x1.Fail), .int .i64 (x1.Crash), .int .i64 (x1.Err)]), fzR (ownR 78 A11_0 c11_0 T_limnographref18_File.rep x1.L), slR A11_0 c11_0 T_limnographref18_File.rep x1.L, ownR 5 A45_0_0 c45_0_0 byteR y63, rdR b51 o51 [Str (z51.Name), .slice A52 (z51.Data).length c52, .int .i64 (z51.Sure)], slR A52 c52 byteR z51.Data, boxR b56 78 [Str (z51.Name), .slice A52 (z51.Data).length c52, .int .i64 (z51.Sure)]] := hm65
                  show Rn _ _ _ _ _ [(0, .pointer (some ⟨b0, 0, none⟩)), (1, .pointer (some ⟨b1, 0, none⟩)), (5, .slice (some ⟨g44, 0, none⟩) (p8).length c8_0_0), (11, .int .i64 (y41)), (12, .slice A45_0_0 (p45.1).length c45_0_0), (18, .int .i64 (y64))] _
                  replace hM : m_limnographlaw18_same_L2 p45 j6 (m65 + 1) y63 y64 = some r := hM
                  rw [m_limnographlaw18_same_L2] at hM
                  refine Rn.seq (Rn.seq (Rn.reg (Rn.v rfl rfl rfl rfl (V.mv rfl) (Rn.v rfl rfl rfl rfl (V.mv rfl) (Rn.v rfl rfl rfl rfl (V.lenV Try.underlying24 rfl) (Rn.v rfl rfl rfl rfl (V.lss rfl rfl) (Rn.regEnd ?_)))))))
                  refine Rn.condD rfl (fun h66 => ?_) (fun h66 => ?_)
                  · replace hM := iteT h66 hM
                    refine Rn.skip (Rn.seq (Rn.block (Rn.reg (Rn.v rfl rfl rfl rfl (V.mv rfl) (Rn.v rfl rfl rfl rfl (V.mv rfl) (Rn.v rfl rfl rfl rfl (V.mv rfl) (Rn.v rfl rfl rfl rfl (V.mv rfl) ?_)))))))
                    obtain ⟨z67, e67, hM⟩ := bindE hM
                    obtain ⟨kk67, ke67, kz67, kl67⟩ := idxE e67
                    obtain ⟨g67, vs67, hA67, hR67, hrel67⟩ := hm65.ownAt 6 rfl kz67
                    subst hA67
                    obtain ⟨rfl, _⟩ := hrel67
                    refine Rn.v rfl rfl rfl rfl (V.ixE kk67 Try.underlying24 Try.sizeOf5 rfl rfl ke67 (Nat.lt_of_lt_of_eq kl67 hl63)) (Rn.v rfl rfl rfl rfl (V.ldR0 Try.isAgg5 rfl hR67 rfl) (Rn.v rfl rfl rfl rfl (V.ari8 (a := z67) (b := (1 : UInt8)) rfl rfl _ rfl (toU8_add _ _)) ?_))
                    obtain ⟨z68, e68, hM⟩ := bindE hM
                    obtain ⟨kk68, ke68, kz68, kl68⟩ := idxE e68
                    obtain ⟨vs68, hR68, hrel68⟩ := hm65.ownAtL 6 rfl kz68
                    obtain ⟨rfl, _⟩ := hrel68
                    refine Rn.v rfl rfl rfl rfl (V.ixE kk68 Try.underlying24 Try.sizeOf5 rfl rfl ke68 (Nat.lt_of_lt_of_eq kl68 hl63)) (Rn.stI hm65 6 rfl ke68 kl68 rfl rfl Try.sizeOf5 rfl rfl rfl (vs := [.int .u8 (((z67 + (1 : UInt8)).toNat : Nat) : Int)]) rfl (⟨rfl, trivial⟩) ?_)
                    intro w69 hm69
                    refine Rn.regEnd (Rn.inBlock (Rn.reg (Rn.v rfl rfl rfl rfl (V.mv rfl) (Rn.v rfl rfl rfl rfl (V.addW rfl rfl) (Rn.v rfl rfl rfl rfl (V.as rfl) (Rn.regEnd ?_))))))
                    exact hn65 ((setI y63 y64 (z67 + (1 : UInt8))), (W64 (y64 + 1))) _ _ (Sub.cons rfl (Sub.cons rfl (Sub.cons rfl (Sub.cons rfl (Sub.cons rfl (Sub.cons rfl (Sub.nil _))))))) (⟨hm69.pick [0, 1, 2, 3, 4, 5, 6, 7, 8, 9] rfl (by decide), ((length_setI _ _ _).trans hl63)⟩) hM
                  · replace hM := iteF h66 hM
                    refine Rn.exit rfl ?_
                    exact hk6 () _ _ (Sub.cons rfl (Sub.cons rfl (Sub.cons rfl (Sub.cons rfl (Sub.nil _))))) (hm65.pick [0, 1, 2, 3, 4, 5, 7, 8, 9] rfl (by decide)) hM
              intro hk5
              clear hj5
              refine Rn.drawP rfl hm58 ?_
              intro w70 hm70
              refine RH.takeP 0 (by kernel_rfl) rfl rfl rfl rfl (V.mv rfl) ?_
              refine RH.takeP 1 (by kernel_rfl) rfl rfl rfl rfl (V.mv rfl) ?_
              obtain ⟨z71, e71, hM⟩ := bindE hM
              obtain ⟨kk71, ke71, kz71, kl71⟩ := idxE e71
              obtain ⟨vs71, hR71, hrel71⟩ := hm70.ownAtL 2 rfl kz71
              obtain ⟨rfl, _⟩ := hrel71
              refine RH.takeP 2 (by kernel_rfl) rfl rfl rfl rfl (V.ixE kk71 Try.underlying32 Try.sizeOf9 rfl rfl ke71 kl71) ?_
              refine RH.takeP 3 (by kernel_rfl) rfl rfl rfl rfl (V.ldR0 Try.isAgg9 rfl hR71 rfl) ?_
              refine RH.takeP 4 (by kernel_rfl) rfl rfl rfl rfl (V.fa Try.underlying78 rfl Try.sizeOf9 rfl rfl) ?_
              refine RH.takeP 5 (by kernel_rfl) rfl rfl rfl rfl (V.ldB Try.isAgg9 rfl (hm70.get 9 rfl) rfl) ?_
              refine RH.takeP 6 (by kernel_rfl) rfl rfl rfl rfl (V.neqS rfl rfl) ?_
              refine RH.takeP 7 (by kernel_rfl) rfl rfl rfl rfl (V.mv rfl) ?_
              refine RH.partD (t := 135) rfl (fun h72 => ?_) (fun h72 => ?_)
              · replace hM := iteT h72 hM
                refine RH.no 8 (by kernel_rfl) rfl rfl rfl rfl ?_
                refine RH.no 9 (by kernel_rfl) rfl rfl rfl rfl ?_
                refine RH.takeP 10 (by kernel_rfl) rfl rfl rfl rfl (V.pkT rfl rfl) ?_
                refine RH.takeP 11 (by kernel_rfl) rfl rfl rfl rfl (V.mv rfl) ?_
                refine RH.no 12 (by kernel_rfl) rfl rfl rfl rfl ?_
                refine RH.no 13 (by kernel_rfl) rfl rfl rfl rfl ?_
                refine RH.takeP 14 (by kernel_rfl) rfl rfl rfl rfl (V.pkT rfl rfl) ?_
                refine RH.takeP 15 (by kernel_rfl) rfl rfl rfl rfl (V.mv rfl) ?_
                refine RH.no 16 (by kernel_rfl) rfl rfl rfl rfl ?_
                refine RH.no 17 (by kernel_rfl) rfl rfl rfl rfl ?_
                refine RH.no 18 (by kernel_rfl) rfl rfl rfl rfl ?_
                refine RH.no 19 (by kernel_rfl) rfl rfl rfl rfl ?_
                refine RH.no 20 (by kernel_rfl) rfl rfl rfl rfl ?_
                refine RH.no 21 (by kernel_rfl) rfl rfl rfl rfl ?_
                refine RH.takeP 22 (by kernel_rfl) rfl rfl rfl rfl (V.pkT rfl rfl) ?_
                refine RH.takeP 23 (by kernel_rfl) rfl rfl rfl rfl (V.mv rfl) ?_
                refine RH.no 24 (by kernel_rfl) rfl rfl rfl rfl ?_
                refine RH.no 25 (by kernel_rfl) rfl rfl rfl rfl ?_
                refine RH.no 26 (by kernel_rfl) rfl rfl rfl rfl ?_
                refine RH.no 27 (by kernel_rfl) rfl rfl rfl rfl ?_
                refine RH.no 28 (by kernel_rfl) rfl rfl rfl rfl ?_
                refine RH.takeP 29 (by kernel_rfl) rfl rfl rfl rfl (V.pkT rfl rfl) ?_
                refine RH.takeP 30 (by kernel_rfl) rfl rfl rfl rfl (V.mv rfl) ?_
                refine RH.no 31 (by kernel_rfl) rfl rfl rfl rfl ?_
                refine RH.no 32 (by kernel_rfl) rfl rfl rfl rfl ?_
                refine RH.no 33 (by kernel_rfl) rfl rfl rfl rfl ?_
                refine RH.no 34 (by kernel_rfl) rfl rfl rfl rfl ?_
                refine RH.takeP 35 (by kernel_rfl) rfl rfl rfl rfl (V.pkT rfl rfl) ?_
                refine RH.doneP (by kernel_rfl) ?_
                exact hk5 true _ _ (Sub.cons rfl (Sub.cons rfl (Sub.cons rfl (Sub.cons rfl (Sub.cons rfl (Sub.cons rfl (Sub.nil _))))))) (hm70.pick [0, 1, 2, 3, 4, 5, 6, 7, 8, 9] rfl (by decide)) hM
              · replace hM := iteF h72 hM
                refine RH.takeP 8 (by kernel_rfl) rfl rfl rfl rfl (V.mv rfl) ?_
                refine RH.takeP 9 (by kernel_rfl) rfl rfl rfl rfl (V.neq rfl rfl) ?_
                refine RH.takeP 10 (by kernel_rfl) rfl rfl rfl rfl (V.pkF rfl rfl) ?_
                refine RH.takeP 11 (by kernel_rfl) rfl rfl rfl rfl (V.mv rfl) ?_
                refine RH.partD (t := 139) rfl (fun h73 => ?_) (fun h73 => ?_)
                · replace hM := iteT h73 hM
                  refine RH.no 12 (by kernel_rfl) rfl rfl rfl rfl ?_
                  refine RH.no 13 (by kernel_rfl) rfl rfl rfl rfl ?_
                  refine RH.takeP 14 (by kernel_rfl) rfl rfl rfl rfl (V.pkT rfl rfl) ?_
                  refine RH.takeP 15 (by kernel_rfl) rfl rfl rfl rfl (V.mv rfl) ?_
                  refine RH.no 16 (by kernel_rfl) rfl rfl rfl rfl ?_
                  refine RH.no 17 (by kernel_rfl) rfl rfl rfl rfl ?_
                  refine RH.no 18 (by kernel_rfl) rfl rfl rfl rfl ?_
                  refine RH.no 19 (by kernel_rfl) rfl rfl rfl rfl ?_
                  refine RH.no 20 (by kernel_rfl) rfl rfl rfl rfl ?_
                  refine RH.no 21 (by kernel_rfl) rfl rfl rfl rfl ?_
                  refine RH.takeP 22 (by kernel_rfl) rfl rfl rfl rfl (V.pkT rfl rfl) ?_
                  refine RH.takeP 23 (by kernel_rfl) rfl rfl rfl rfl (V.mv rfl) ?_
                  refine RH.no 24 (by kernel_rfl) rfl rfl rfl rfl ?_
                  refine RH.no 25 (by kernel_rfl) rfl rfl rfl rfl ?_
                  refine RH.no 26 (by kernel_rfl) rfl rfl rfl rfl ?_
                  refine RH.no 27 (by kernel_rfl) rfl rfl rfl rfl ?_
                  refine RH.no 28 (by kernel_rfl) rfl rfl rfl rfl ?_
                  refine RH.takeP 29 (by kernel_rfl) rfl rfl rfl rfl (V.pkT rfl rfl) ?_
                  refine RH.takeP 30 (by kernel_rfl) rfl rfl rfl rfl (V.mv rfl) ?_
                  refine RH.no 31 (by kernel_rfl) rfl rfl rfl rfl ?_
                  refine RH.no 32 (by kernel_rfl) rfl rfl rfl rfl ?_
                  refine RH.no 33 (by kernel_rfl) rfl rfl rfl rfl ?_
                  refine RH.no 34 (by kernel_rfl) rfl rfl rfl rfl ?_
                  refine RH.takeP 35 (by kernel_rfl) rfl rfl rfl rfl (V.pkT rfl rfl) ?_
                  refine RH.doneP (by kernel_rfl) ?_
                  exact hk5 true _ _ (Sub.cons rfl (Sub.cons rfl (Sub.cons rfl (Sub.cons rfl (Sub.cons rfl (Sub.cons rfl (Sub.nil _))))))) (hm70.pick [0, 1, 2, 3, 4, 5, 6, 7, 8, 9] rfl (by decide)) hM
                · replace hM := iteF h73 hM
                  refine RH.takeP 12 (by kernel_rfl) rfl rfl rfl rfl (V.mv rfl) ?_
                  refine RH.takeP 13 (by kernel_rfl) rfl rfl rfl rfl (V.neq rfl rfl) ?_
                  refine RH.takeP 14 (by kernel_rfl) rfl rfl rfl rfl (V.pkF rfl rfl) ?_
                  refine RH.takeP 15 (by kernel_rfl) rfl rfl rfl rfl (V.mv rfl) ?_
                  refine RH.partD (t := 143) rfl (fun h74 => ?_) (fun h74 => ?_)
                  · replace hM := iteT h74 hM
                    refine RH.no 16 (by kernel_rfl) rfl rfl rfl rfl ?_
                    refine RH.no 17 (by kernel_rfl) rfl rfl rfl rfl ?_
                    refine RH.no 18 (by kernel_rfl) rfl rfl rfl rfl ?_
                    refine RH.no 19 (by kernel_rfl) rfl rfl rfl rfl ?_
                    refine RH.no 20 (by kernel_rfl) rfl rfl rfl rfl ?_
                    refine RH.no 21 (by kernel_rfl) rfl rfl rfl rfl ?_
                    refine RH.takeP 22 (by kernel_rfl) rfl rfl rfl rfl (V.pkT rfl rfl) ?_
                    refine RH.takeP 23 (by kernel_rfl) rfl rfl rfl rfl (V.mv rfl) ?_
                    refine RH.no 24 (by kernel_rfl) rfl rfl rfl rfl ?_
                    refine RH.no 25 (by kernel_rfl) rfl rfl rfl rfl ?_
                    refine RH.no 26 (by kernel_rfl) rfl rfl rfl rfl ?_
                    refine RH.no 27 (by kernel_rfl) rfl rfl rfl rfl ?_
                    refine RH.no 28 (by kernel_rfl) rfl rfl rfl rfl ?_
                    refine RH.takeP 29 (by kernel_rfl) rfl rfl rfl rfl (V.pkT rfl rfl) ?_
                    refine RH.takeP 30 (by kernel_rfl) rfl rfl rfl rfl (V.mv rfl) ?_
                    refine RH.no 31 (by kernel_rfl) rfl rfl rfl rfl ?_
                    refine RH.no 32 (by kernel_rfl) rfl rfl rfl rfl ?_
                    refine RH.no 33 (by kernel_rfl) rfl rfl rfl rfl ?_
                    refine RH.no 34 (by kernel_rfl) rfl rfl rfl rfl ?_
                    refine RH.takeP 35 (by kernel_rfl) rfl rfl rfl rfl (V.pkT rfl rfl) ?_
                    refine RH.doneP (by kernel_rfl) ?_
                    exact hk5 true _ _ (Sub.cons rfl (Sub.cons rfl (Sub.cons rfl (Sub.cons rfl (Sub.cons rfl (Sub.cons rfl (Sub.nil _))))))) (hm70.pick [0, 1, 2, 3, 4, 5, 6, 7, 8, 9] rfl (by decide)) hM
                  · replace hM := iteF h74 hM
                    refine RH.takeP 16 (by kernel_rfl) rfl rfl rfl rfl (V.mv rfl) ?_
                    refine RH.takeP 17 (by kernel_rfl) rfl rfl rfl rfl (V.b2s Try.underlying24 Try.underlying9 Try.underlying5 rfl rfl (Own.sl (hm70.get 6 rfl))) ?_
                    refine RH.takeP 18 (by kernel_rfl) rfl rfl rfl rfl (V.fa Try.underlying78 rfl Try.sizeOf24 rfl rfl) ?_
                    refine RH.takeP 19 (by kernel_rfl) rfl rfl rfl rfl (V.ldB Try.isAgg24 rfl (hm70.get 9 rfl) rfl) ?_
                    refine RH.takeP 20 (by kernel_rfl) rfl rfl rfl rfl (V.b2s Try.underlying24 Try.underlying9 Try.underlying5 rfl rfl (hm70.get 8 rfl).2.2) ?_
                    refine RH.takeP 21 (by kernel_rfl) rfl rfl rfl rfl (V.neqS rfl rfl) ?_
                    refine RH.takeP 22 (by kernel_rfl) rfl rfl rfl rfl (V.pkF rfl rfl) ?_
                    refine RH.takeP 23 (by kernel_rfl) rfl rfl rfl rfl (V.mv rfl) ?_
                    refine RH.partD (t := 151) rfl (fun h75 => ?_) (fun h75 => ?_)
                    · replace hM := iteT h75 hM
                      refine RH.no 24 (by kernel_rfl) rfl rfl rfl rfl ?_
                      refine RH.no 25 (by kernel_rfl) rfl rfl rfl rfl ?_
                      refine RH.no 26 (by kernel_rfl) rfl rfl rfl rfl ?_
                      refine RH.no 27 (by kernel_rfl) rfl rfl rfl rfl ?_
                      refine RH.no 28 (by kernel_rfl) rfl rfl rfl rfl ?_
                      refine RH.takeP 29 (by kernel_rfl) rfl rfl rfl rfl (V.pkT rfl rfl) ?_
                      refine RH.takeP 30 (by kernel_rfl) rfl rfl rfl rfl (V.mv rfl) ?_
                      refine RH.no 31 (by kernel_rfl) rfl rfl rfl rfl ?_
                      refine RH.no 32 (by kernel_rfl) rfl rfl rfl rfl ?_
                      refine RH.no 33 (by kernel_rfl) rfl rfl rfl rfl ?_
                      refine RH.no 34 (by kernel_rfl) rfl rfl rfl rfl ?_
                      refine RH.takeP 35 (by kernel_rfl) rfl rfl rfl rfl (V.pkT rfl rfl) ?_
                      refine RH.doneP (by kernel_rfl) ?_
                      exact hk5 true _ _ (Sub.cons rfl (Sub.cons rfl (Sub.cons rfl (Sub.cons rfl (Sub.cons rfl (Sub.cons rfl (Sub.nil _))))))) (hm70.pick [0, 1, 2, 3, 4, 5, 6, 7, 8, 9] rfl (by decide)) hM
                    · replace hM := iteF h75 hM
                      refine RH.takeP 24 (by kernel_rfl) rfl rfl rfl rfl (V.mv rfl) ?_
                      refine RH.takeP 25 (by kernel_rfl) rfl rfl rfl rfl (V.fa Try.underlying78 rfl Try.sizeOf24 rfl rfl) ?_
                      refine RH.takeP 26 (by kernel_rfl) rfl rfl rfl rfl (V.ldB Try.isAgg24 rfl (hm70.get 9 rfl) rfl) ?_
                      refine RH.takeP 27 (by kernel_rfl) rfl rfl rfl rfl (V.lenV Try.underlying24 rfl) ?_
                      refine RH.takeP 28 (by kernel_rfl) rfl rfl rfl rfl (V.neq rfl rfl) ?_
                      refine RH.takeP 29 (by kernel_rfl) rfl rfl rfl rfl (V.pkF rfl rfl) ?_
                      refine RH.takeP 30 (by kernel_rfl) rfl rfl rfl rfl (V.mv rfl) ?_
                      refine RH.partD (t := 158) rfl (fun h76 => ?_) (fun h76 => ?_)
                      · replace hM := iteT h76 hM
                        refine RH.no 31 (by kernel_rfl) rfl rfl rfl rfl ?_
                        refine RH.no 32 (by kernel_rfl) rfl rfl rfl rfl ?_
                        refine RH.no 33 (by kernel_rfl) rfl rfl rfl rfl ?_
                        refine RH.no 34 (by kernel_rfl) rfl rfl rfl rfl ?_
                        refine RH.takeP 35 (by kernel_rfl) rfl rfl rfl rfl (V.pkT rfl rfl) ?_
                        refine RH.doneP (by kernel_rfl) ?_
                        exact hk5 true _ _ (Sub.cons rfl (Sub.cons rfl (Sub.cons rfl (Sub.cons rfl (Sub.cons rfl (Sub.cons rfl (Sub.nil _))))))) (hm70.pick [0, 1, 2, 3, 4, 5, 6, 7, 8, 9] rfl (by decide)) hM
                      · replace hM := iteF h76 hM
                        refine RH.takeP 31 (by kernel_rfl) rfl rfl rfl rfl (V.mv rfl) ?_
                        refine RH.takeP 32 (by kernel_rfl) rfl rfl rfl rfl (V.fa Try.underlying78 rfl Try.sizeOf3 rfl rfl) ?_
                        refine RH.takeP 33 (by kernel_rfl) rfl rfl rfl rfl (V.ldB Try.isAgg3 rfl (hm70.get 9 rfl) rfl) ?_
                        refine RH.takeP 34 (by kernel_rfl) rfl rfl rfl rfl (V.neq rfl rfl) ?_
                        refine RH.takeP 35 (by kernel_rfl) rfl rfl rfl rfl (V.pkF rfl rfl) ?_
                        refine RH.doneP (by kernel_rfl) ?_
                        exact hk5 (decide (p49.2.1 ≠ z51.Sure)) _ _ (Sub.cons rfl (Sub.cons rfl (Sub.cons rfl (Sub.cons rfl (Sub.cons rfl (Sub.cons rfl (Sub.nil _))))))) (hm70.pick [0, 1, 2, 3, 4, 5, 6, 7, 8, 9] rfl (by decide)) hM
            · replace hM := iteF h43 hM
              refine Rn.exit rfl ?_
              exact hk4 () _ _ (Sub.nil _) (hm42.pick [0, 1, 2, 3, 4, 5] rfl (by decide)) hM
        intro hk3
        clear hj3
        refine Rn.partD (t := 89) rfl (fun h77 => ?_) (fun h77 => ?_)
        · replace hM := iteT h77 hM
          refine Rn.no rfl rfl rfl rfl (Rn.no rfl rfl rfl rfl (Rn.no rfl rfl rfl rfl (Rn.no rfl rfl rfl rfl (Rn.no rfl rfl rfl rfl (Rn.v rfl rfl rfl rfl (V.pkT rfl rfl) ?_)))))
          exact hk3 true _ _ (Sub.cons rfl (Sub.cons rfl (Sub.cons rfl (Sub.cons rfl (Sub.nil _))))) (hm15.pick [0, 1, 2, 3, 4, 5] rfl (by decide)) hM
        · replace hM := iteF h77 hM
          refine Rn.v rfl rfl rfl rfl (V.mv rfl) ?_
          obtain ⟨p78, e78, hM⟩ := bindE hM
          refine Rn.cl ck22 rfl rfl rfl rfl (m_disk_Disk_Used_sim (Z0 := All) _ F0 b0 x0 (fz_fz (hm15.get 0 rfl)) e78) ?_
          rintro _ w78 ⟨rfl, hq78⟩
          refine ⟨_, rfl, ?_⟩
          have hm79 := hm15.call0 hq78
          refine Rn.v rfl rfl rfl rfl (V.mv rfl) ?_
          obtain ⟨p80, e80, hM⟩ := bindE hM
          refine Rn.cl ck31 rfl rfl rfl rfl (m_limnographref18_Disk_Used_sim (Z0 := All) _ F1 b1 x1 (fz_fz (hm79.get 1 rfl)) e80) ?_
          rintro _ w80 ⟨rfl, hq80⟩
          refine ⟨_, rfl, ?_⟩
          have hm81 := hm79.call0 hq80
          refine Rn.v rfl rfl rfl rfl (V.neq rfl rfl) (Rn.v rfl rfl rfl rfl (V.pkF rfl rfl) ?_)
          exact hk3 (decide (p78 ≠ p80)) _ _ (Sub.cons rfl (Sub.cons rfl (Sub.cons rfl (Sub.cons rfl (Sub.nil _))))) (hm81.pick [0, 1, 2, 3, 4, 5] rfl (by decide)) hM
  intro hk1
  clear hj1
  refine Rn.drawH rfl hm4 ?_
  intro w82 hm82
  refine RH.take 0 (by kernel_rfl) rfl rfl rfl rfl (fun w' hDr => V.mv rfl) ?_
  refine RH.take 2 (by kernel_rfl) rfl rfl rfl rfl (fun w' hDr => V.mv rfl) ?_
  refine RH.take 3 (by kernel_rfl) rfl rfl rfl rfl (fun w' hDr => V.nil rfl) ?_
  refine RH.take 4 (by kernel_rfl) rfl rfl rfl rfl (fun w' hDr => V.fa Try.underlying74 rfl Try.sizeOf4 rfl rfl) ?_
  obtain ⟨_, ⟨A83_0, c83_0, rfl⟩, hm83⟩ := hm82.unfz 1 rfl
  replace hm83 : Hp Z0 No w w82 [fzR (diskO 59 64 5 F0 b0 x0), fzR (T_limnographref18_Disk.obj F1 b1 x1), fzR (boxR b1 74 [.slice A83_0 (x1.L).length c83_0, .int .i64 (x1.Capacity), .bool (x1.Down), .int .i64 (x1.Calls), .int .i64 (x1.Fail), .int .i64 (x1.Crash), .int .i64 (x1.Err)]), fzR (ownR 78 A83_0 c83_0 T_limnographref18_File.rep x1.L)] := hm83
  have hm87 := hm83.fzSl 3 rfl
  refine RH.take 5 (by kernel_rfl) rfl rfl rfl rfl (fun w' hDr => V.ldB Try.isAgg4 rfl ((hm87.ext hDr).getz 2 rfl) rfl) ?_
  obtain ⟨p88, e88, hM⟩ := bindE hM
  refine RH.cl ck16 1 (by kernel_rfl) rfl rfl rfl rfl (m_disk_Disk_Down_sim (Z0 := All) _ F0 b0 x0 (fz_fz (hm87.get 0 rfl)) e88) ?_
  rintro _ w88 ⟨rfl, hq88⟩
  refine ⟨_, rfl, ((Ext.refl _).trans hq88.fr), ?_⟩
  have hm89 := hm87.call0 hq88
  refine RH.here fun hS6 => RH.one 6 (by kernel_rfl) rfl rfl rfl rfl (V.neqB Try.underlying4 rfl rfl) hS6 ?_
  refine RH.here fun hS7 => RH.one 7 (by kernel_rfl) rfl rfl rfl rfl (V.mv rfl) hS7 ?_
  refine RH.partD (t := 26) rfl (fun h90 => ?_) (fun h90 => ?_)
  · replace hM := iteT h90 hM
    refine RH.no 8 (by kernel_rfl) rfl rfl rfl rfl ?_
    refine RH.no 9 (by kernel_rfl) rfl rfl rfl rfl ?_
    refine RH.no 10 (by kernel_rfl) rfl rfl rfl rfl ?_
    refine RH.no 11 (by kernel_rfl) rfl rfl rfl rfl ?_
    refine RH.no 12 (by kernel_rfl) rfl rfl rfl rfl ?_
    refine RH.no 13 (by kernel_rfl) rfl rfl rfl rfl ?_
    refine RH.no 14 (by kernel_rfl) rfl rfl rfl rfl ?_
    refine RH.here fun hS15 => RH.one 15 (by kernel_rfl) rfl rfl rfl rfl (V.pkT rfl rfl) hS15 ?_
    refine RH.doneP (by kernel_rfl) ?_
    exact hk1 true _ _ (Sub.cons rfl (Sub.cons rfl (Sub.cons rfl (Sub.nil _)))) (hm89.pick [0, 1] rfl (by decide)) hM
  · replace hM := iteF h90 hM
    refine RH.take 8 (by kernel_rfl) rfl rfl rfl rfl (fun w' hDr => V.mv rfl) ?_
    refine RH.take 10 (by kernel_rfl) rfl rfl rfl rfl (fun w' hDr => V.mv rfl) ?_
    refine RH.take 11 (by kernel_rfl) rfl rfl rfl rfl (fun w' hDr => V.nil rfl) ?_
    refine RH.take 12 (by kernel_rfl) rfl rfl rfl rfl (fun w' hDr => V.fa Try.underlying74 rfl Try.sizeOf3 rfl rfl) ?_
    refine RH.take 13 (by kernel_rfl) rfl rfl rfl rfl (fun w' hDr => V.ldB Try.isAgg3 rfl ((hm87.ext hDr).getz 2 rfl) rfl) ?_
    obtain ⟨p91, e91, hM⟩ := bindE hM
    refine RH.cl ck47 9 (by kernel_rfl) rfl rfl rfl rfl (m_disk_Disk_Calls_sim (Z0 := All) _ F0 b0 x0 (fz_fz (hm89.get 0 rfl)) e91) ?_
    rintro _ w91 ⟨rfl, hq91⟩
    refine ⟨_, rfl, (((Ext.refl _).trans hq88.fr).trans hq91.fr), ?_⟩
    have hm92 := hm89.call0 hq91
    refine RH.here fun hS14 => RH.one 14 (by kernel_rfl) rfl rfl rfl rfl (V.neq rfl rfl) hS14 ?_
    refine RH.here fun hS15 => RH.one 15 (by kernel_rfl) rfl rfl rfl rfl (V.pkF rfl rfl) hS15 ?_
    refine RH.doneP (by kernel_rfl) ?_
    exact hk1 (decide (p91 ≠ x1.Calls)) _ _ (Sub.cons rfl (Sub.cons rfl (Sub.cons rfl (Sub.nil _)))) (hm92.pick [0, 1] rfl (by decide)) hM

set_option maxRecDepth 20000 in
theorem m_disk_Disk_Fail_sim {Z0 : Nat → Prop} (w : World) (F0 : Nat → Prop) (b0 : Nat) (x0 : PD) (x1 : Int) (x2 : Int) {r : PD} (hL : Lent Z0 w [diskO 59 64 5 F0 b0 x0]) (hM : m_disk_Disk_Fail x0 x1 x2 = some r) :
    Calls Try.prog 42 #[.pointer (some ⟨b0, 0, none⟩), .int .i64 (x1), .int .i64 (x2)] w fun x w' => ∃ F_p0, x = .returned (.tuple #[]) ∧ Hp Z0 (LS [diskO 59 64 5 F0 b0 x0]) w w' [diskO 59 64 5 F_p0 b0 r] := by
  unfold m_disk_Disk_Fail at hM
  split at hM
  · rename_i hg
    obtain rfl := someE hM
    have hd : DkAt 59 64 5 w b0 F0 x0 := hL.1 0 _ rfl
    refine (fail_spec x1 x2 w hg hd).mono ?_
    rintro x w' ⟨rfl, F', d, hx, hF⟩
    exact ⟨F', rfl, hL.turn1 hx hF fun _ => d⟩
  · cases hM

set_option maxRecDepth 20000 in
theorem m_limnographref18_Arm_sim {Z0 : Nat → Prop} (w : World) (x0 : Int) (x1 : Int) {r : Int}  (hM : m_limnographref18_Arm x0 x1 = some r) :
    Calls Try.prog 43 #[.int .i64 (x0), .int .i64 (x1)] w fun x w' => x = .returned (.int .i64 (r)) ∧ Hp Z0 No w w' [] := by
  have hm0 := Hp.nil Z0 No w
  have hc0 := Calm.nil
  refine Rn.enter Try.func43 rfl rfl (Nat.le_of_ble_eq_true rfl) ?_
  refine Rn.seq (Rn.reg (Rn.v rfl rfl rfl rfl (V.as rfl) (Rn.regEnd (Rn.seq (Rn.seq (Rn.reg (Rn.v rfl rfl rfl rfl (V.mv rfl) (Rn.v rfl rfl rfl rfl (V.lss rfl rfl) (Rn.v rfl rfl rfl rfl (V.mv rfl) ?_)))))))))
  refine Rn.cutR [] [(0, .int .i64 (x0)), (10, .bool (decide ((x0 < 0) ∨ (x1 = 0))))] (fun hk1 => ?_) ?_
  · refine Rn.partD (t := 7) rfl (fun h2 => ?_) (fun h2 => ?_)
    · refine Rn.no rfl rfl rfl rfl (Rn.no rfl rfl rfl rfl (Rn.v rfl rfl rfl rfl (V.pkT rfl rfl) ?_))
      refine hk1 _ ?_
      exact Sub.cons rfl (Sub.cons (lkv _ rfl (by first | exact andT h2 | exact andF h2 | exact orT h2 | exact orF h2 | exact nandF h2 | exact nandT h2 | exact norT h2 | exact norF h2 | (simp [h2]; done) | grind)) (Sub.nil _))
    · refine Rn.v rfl rfl rfl rfl (V.mv rfl) (Rn.v rfl rfl rfl rfl (V.eql rfl rfl) (Rn.v rfl rfl rfl rfl (V.pkF rfl rfl) ?_))
      refine hk1 _ ?_
      exact Sub.cons rfl (Sub.cons (lkv _ rfl (by first | exact andT h2 | exact andF h2 | exact orT h2 | exact orF h2 | exact nandF h2 | exact nandT h2 | exact norT h2 | exact norF h2 | (simp [h2]; done) | grind)) (Sub.nil _))
  refine Rn.regEnd ?_
  refine Rn.condD rfl (fun h3 => ?_) (fun h3 => ?_)
  · replace hM := iteT h3 hM
    refine Rn.seq (Rn.reg (Rn.v rfl rfl rfl rfl (V.as rfl) (Rn.regEnd ?_)))
    refine Rn.retG1 Try.func43 rfl (rvT rfl) ?_
    obtain rfl := someE hM
    exact ⟨rfl, hm0.pick [] rfl (by decide)⟩
  · replace hM := iteF h3 hM
    refine Rn.skip (Rn.seq (Rn.reg (Rn.v rfl rfl rfl rfl (V.mv rfl) (Rn.v rfl rfl rfl rfl (V.as rfl) (Rn.regEnd ?_)))))
    refine Rn.retG1 Try.func43 rfl (rvT rfl) ?_
    obtain rfl := someE hM
    exact ⟨rfl, hm0.pick [] rfl (by decide)⟩

set_option maxRecDepth 20000 in
theorem m_disk_Disk_Create_sim {Z0 : Nat → Prop} (w : World) (F0 : Nat → Prop) (b0 : Nat) (x0 : PD) (x1 : (List UInt8)) {r : (Int × PD)} (hL : Lent Z0 w [diskO 59 64 5 F0 b0 x0]) (hM : m_disk_Disk_Create x0 x1 = some r) :
    Calls Try.prog 8 #[.pointer (some ⟨b0, 0, none⟩), Str (x1)] w fun x w' => ∃ F_p0, x = .returned (.int .i64 (r.1)) ∧ Hp Z0 (LS [diskO 59 64 5 F0 b0 x0]) w w' [diskO 59 64 5 F_p0 b0 r.2] := by
  unfold m_disk_Disk_Create at hM
  split at hM
  · rename_i hg
    obtain rfl := someE hM
    have hd : DkAt 59 64 5 w b0 F0 x0 := hL.1 0 _ rfl
    refine (create_spec x1 w hg hd).mono ?_
    rintro x w' ⟨rfl, F', d, hx, hF⟩
    exact ⟨F', rfl, hL.turn1 hx hF fun _ => d⟩
  · cases hM

set_option maxRecDepth 20000 in
theorem m_limnographref18_Disk_begin_sim {Z0 : Nat → Prop} (w : World) (F0 : Nat → Prop) (b0 : Nat) (x0 : T_limnographref18_Disk) {r : (Int × T_limnographref18_Disk)} (hL : Lent Z0 w [T_limnographref18_Disk.obj F0 b0 x0]) (hM : m_limnographref18_Disk_begin x0 = some r) :
    Calls Try.prog 52 #[.pointer (some ⟨b0, 0, none⟩)] w fun x w' => ∃ F_p0, x = .returned (.int .i64 (r.1)) ∧ Hp Z0 (LS [T_limnographref18_Disk.obj F0 b0 x0]) w w' [T_limnographref18_Disk.obj F_p0 b0 r.2] := by
  have hm0 := hL.start
  refine Rn.enter Try.func52 rfl rfl (Nat.le_of_ble_eq_true rfl) ?_
  refine Rn.seq (Rn.reg (Rn.v rfl rfl rfl rfl (V.as rfl) (Rn.regEnd (Rn.seq (Rn.seq (Rn.reg (Rn.v rfl rfl rfl rfl (V.mv rfl) (Rn.v rfl rfl rfl rfl (V.nil rfl) (Rn.v rfl rfl rfl rfl (V.fa Try.underlying74 rfl Try.sizeOf4 rfl rfl) ?_)))))))))
  obtain ⟨_, ⟨A2_0, c2_0, rfl⟩, hm2⟩ := hm0.unf 0 rfl
  replace hm2 : Hp Z0 (LS [T_limnographref18_Disk.obj F0 b0 x0]) w w [boxR b0 74 [.slice A2_0 (x0.L).length c2_0, .int .i64 (x0.Capacity), .bool (x0.Down), .int .i64 (x0.Calls), .int .i64 (x0.Fail), .int .i64 (x0.Crash), .int .i64 (x0.Err)], ownR 78 A2_0 c2_0 T_limnographref18_File.rep x0.L] := hm2
  refine Rn.v rfl rfl rfl rfl (V.ldB Try.isAgg4 rfl (hm2.get 0 rfl) rfl) (Rn.regEnd ?_)
  refine Rn.condS rfl (fun h4 => ?_) (fun h4 => ?_)
  · replace hM := iteT h4 hM
    refine Rn.seq (Rn.reg (Rn.v rfl rfl rfl rfl (V.as rfl) (Rn.regEnd ?_)))
    have hm6 : Hp Z0 (LS [T_limnographref18_Disk.obj F0 b0 x0]) w w ([] ++ [boxR b0 74 [.slice A2_0 (x0.L).length c2_0, .int .i64 (x0.Capacity), .bool (x0.Down), .int .i64 (x0.Calls), .int .i64 (x0.Fail), .int .i64 (x0.Crash), .int .i64 (x0.Err)], ownR 78 A2_0 c2_0 T_limnographref18_File.rep x0.L]) := hm2.pick [0, 1] rfl (by decide)
    obtain ⟨F5, hm5⟩ := hm6.fold (T_limnographref18_Disk.sh b0 x0) ⟨A2_0, c2_0, rfl⟩
    replace hm5 : Hp Z0 (LS [T_limnographref18_Disk.obj F0 b0 x0]) w w [T_limnographref18_Disk.obj F5 b0 x0] := hm5
    refine Rn.retG1 Try.func52 rfl (rvT rfl) ?_
    obtain rfl := someE hM
    exact ⟨F5, rfl, hm5.pick [0] rfl (by decide)⟩
  · replace hM := iteF (by rw [h4]; exact Bool.false_ne_true) hM
    refine Rn.skip (Rn.seq (Rn.reg (Rn.v rfl rfl rfl rfl (V.mv rfl) (Rn.v rfl rfl rfl rfl (V.mv rfl) (Rn.v rfl rfl rfl rfl (V.nil rfl) (Rn.v rfl rfl rfl rfl (V.fa Try.underlying74 rfl Try.sizeOf3 rfl rfl) (Rn.v rfl rfl rfl rfl (V.ldB Try.isAgg3 rfl (hm2.get 0 rfl) rfl) (Rn.v rfl rfl rfl rfl (V.addW rfl rfl) (Rn.v rfl rfl rfl rfl (V.nil rfl) (Rn.v rfl rfl rfl rfl (V.fa Try.underlying74 rfl Try.sizeOf3 rfl rfl) (Rn.st rfl rfl Try.sizeOf3 rfl rfl rfl rfl (by first | exact ones rfl | (simp [Value.oneCell']; done)) (hm2.get 0 rfl) (by first | exact Nat.le_of_ble_eq_true rfl | (simp; done)) ?_)))))))))))
    intro w7 m7 x7
    have hm8 : Hp Z0 (LS [T_limnographref18_Disk.obj F0 b0 x0]) w w7 [boxR b0 74 [.slice A2_0 (x0.L).length c2_0, .int .i64 (x0.Capacity), .bool (x0.Down), .int .i64 (W64 (x0.Calls + 1)), .int .i64 (x0.Fail), .int .i64 (x0.Crash), .int .i64 (x0.Err)], ownR 78 A2_0 c2_0 T_limnographref18_File.rep x0.L] := hm2.st 0 rfl x7 m7
    refine Rn.regEnd (Rn.seq ?_)
    refine Rn.drawP rfl hm8 ?_
    intro w9 hm9
    refine RH.takeP 0 (by kernel_rfl) rfl rfl rfl rfl (V.mv rfl) ?_
    refine RH.takeP 1 (by kernel_rfl) rfl rfl rfl rfl (V.nil rfl) ?_
    refine RH.takeP 2 (by kernel_rfl) rfl rfl rfl rfl (V.fa Try.underlying74 rfl Try.sizeOf3 rfl rfl) ?_
    refine RH.takeP 3 (by kernel_rfl) rfl rfl rfl rfl (V.ldB Try.isAgg3 rfl (hm9.get 0 rfl) rfl) ?_
    refine RH.takeP 4 (by kernel_rfl) rfl rfl rfl rfl (V.eql rfl rfl) ?_
    refine RH.takeP 5 (by kernel_rfl) rfl rfl rfl rfl (V.mv rfl) ?_
    refine RH.takeP 6 (by kernel_rfl) rfl rfl rfl rfl (V.nil rfl) ?_
    refine RH.takeP 7 (by kernel_rfl) rfl rfl rfl rfl (V.fa Try.underlying74 rfl Try.sizeOf3 rfl rfl) ?_
    refine RH.takeP 8 (by kernel_rfl) rfl rfl rfl rfl (V.ldB Try.isAgg3 rfl (hm9.get 0 rfl) rfl) ?_
    refine RH.takeP 9 (by kernel_rfl) rfl rfl rfl rfl (V.eql rfl rfl) ?_
    refine RH.takeP 10 (by kernel_rfl) rfl rfl rfl rfl (V.as rfl) ?_
    refine RH.takeP 11 (by kernel_rfl) rfl rfl rfl rfl (V.as rfl) ?_
    refine RH.doneP (by kernel_rfl) ?_
    refine Rn.seq (Rn.seq (Rn.reg (Rn.v rfl rfl rfl rfl (V.mv rfl) (Rn.v rfl rfl rfl rfl (V.nil rfl) (Rn.v rfl rfl rfl rfl (V.fa Try.underlying74 rfl Try.sizeOf3 rfl rfl) (Rn.v rfl rfl rfl rfl (V.ldB Try.isAgg3 rfl (hm9.get 0 rfl) rfl) (Rn.v rfl rfl rfl rfl (V.geq rfl rfl) (Rn.regEnd ?_))))))))
    have hm11 : Hp Z0 (LS [T_limnographref18_Disk.obj F0 b0 x0]) w w9 ([] ++ [boxR b0 74 [.slice A2_0 (x0.L).length c2_0, .int .i64 (x0.Capacity), .bool (x0.Down), .int .i64 (W64 (x0.Calls + 1)), .int .i64 (x0.Fail), .int .i64 (x0.Crash), .int .i64 (x0.Err)], ownR 78 A2_0 c2_0 T_limnographref18_File.rep x0.L]) := hm9.pick [0, 1] rfl (by decide)
    obtain ⟨F10, hm10⟩ := hm11.fold (T_limnographref18_Disk.sh b0 ({ L := x0.L, Capacity := x0.Capacity, Down := x0.Down, Calls := W64 (x0.Calls + 1), Fail := x0.Fail, Crash := x0.Crash, Err := x0.Err } : T_limnographref18_Disk)) ⟨A2_0, c2_0, rfl⟩
    replace hm10 : Hp Z0 (LS [T_limnographref18_Disk.obj F0 b0 x0]) w w9 [T_limnographref18_Disk.obj F10 b0 ({ L := x0.L, Capacity := x0.Capacity, Down := x0.Down, Calls := W64 (x0.Calls + 1), Fail := x0.Fail, Crash := x0.Crash, Err := x0.Err } : T_limnographref18_Disk)] := hm10
    obtain ⟨j1, hj1, hM⟩ := jnE hM
    refine Rn.joinG (r := r) (G := T_limnographref18_Disk × (Nat → Prop)) (fun g => [(0, .pointer (some ⟨b0, 0, none⟩)), (3, .bool (decide (x0.Crash = 0))), (4, .bool (decide (x0.Fail = 0)))]) (fun g w' => Hp Z0 (LS [T_limnographref18_Disk.obj F0 b0 x0]) w w' [T_limnographref18_Disk.obj (g.2) b0 (g.1)]) (fun g => j1 g.1) ?_ ?_
    · subst hj1
      clear hM
      rintro ⟨y12, F12⟩ w13 hm13 hM
      replace hm13 : Hp Z0 (LS [T_limnographref18_Disk.obj F0 b0 x0]) w w13 [T_limnographref18_Disk.obj F12 b0 y12] := hm13
      show Rn _ _ _ _ _ [(0, .pointer (some ⟨b0, 0, none⟩)), (3, .bool (decide (x0.Crash = 0))), (4, .bool (decide (x0.Fail = 0)))] _
      try dsimp only at hM
      refine Rn.seq (Rn.seq (Rn.reg (Rn.v rfl rfl rfl rfl (V.mv rfl) (Rn.v rfl rfl rfl rfl (V.nil rfl) (Rn.v rfl rfl rfl rfl (V.fa Try.underlying74 rfl Try.sizeOf3 rfl rfl) ?_)))))
      obtain ⟨_, ⟨A14_0, c14_0, rfl⟩, hm14⟩ := hm13.unf 0 rfl
      replace hm14 : Hp Z0 (LS [T_limnographref18_Disk.obj F0 b0 x0]) w w13 [boxR b0 74 [.slice A14_0 (y12.L).length c14_0, .int .i64 (y12.Capacity), .bool (y12.Down), .int .i64 (y12.Calls), .int .i64 (y12.Fail), .int .i64 (y12.Crash), .int .i64 (y12.Err)], ownR 78 A14_0 c14_0 T_limnographref18_File.rep y12.L] := hm14
      refine Rn.v rfl rfl rfl rfl (V.ldB Try.isAgg3 rfl (hm14.get 0 rfl) rfl) (Rn.v rfl rfl rfl rfl (V.geq rfl rfl) (Rn.regEnd ?_))
      have hm17 : Hp Z0 (LS [T_limnographref18_Disk.obj F0 b0 x0]) w w13 ([] ++ [boxR b0 74 [.slice A14_0 (y12.L).length c14_0, .int .i64 (y12.Capacity), .bool (y12.Down), .int .i64 (y12.Calls), .int .i64 (y12.Fail), .int .i64 (y12.Crash), .int .i64 (y12.Err)], ownR 78 A14_0 c14_0 T_limnographref18_File.rep y12.L]) := hm14.pick [0, 1] rfl (by decide)
      obtain ⟨F16, hm16⟩ := hm17.fold (T_limnographref18_Disk.sh b0 y12) ⟨A14_0, c14_0, rfl⟩
      replace hm16 : Hp Z0 (LS [T_limnographref18_Disk.obj F0 b0 x0]) w w13 [T_limnographref18_Disk.obj F16 b0 y12] := hm16
      obtain ⟨j2, hj2, hM⟩ := jnE hM
      refine Rn.joinG (r := r) (G := T_limnographref18_Disk × (Nat → Prop)) (fun g => [(0, .pointer (some ⟨b0, 0, none⟩)), (3, .bool (decide (x0.Crash = 0))), (4, .bool (decide (x0.Fail = 0)))]) (fun g w' => Hp Z0 (LS [T_limnographref18_Disk.obj F0 b0 x0]) w w' [T_limnographref18_Disk.obj (g.2) b0 (g.1)]) (fun g => j2 g.1) ?_ ?_
      · subst hj2
        clear hM
        rintro ⟨y18, F18⟩ w19 hm19 hM
        replace hm19 : Hp Z0 (LS [T_limnographref18_Disk.obj F0 b0 x0]) w w19 [T_limnographref18_Disk.obj F18 b0 y18] := hm19
        show Rn _ _ _ _ _ [(0, .pointer (some ⟨b0, 0, none⟩)), (3, .bool (decide (x0.Crash = 0))), (4, .bool (decide (x0.Fail = 0)))] _
        try dsimp only at hM
        refine Rn.seq (Rn.seq (Rn.reg (Rn.v rfl rfl rfl rfl (V.mv rfl) (Rn.regEnd ?_))))
        refine Rn.condD rfl (fun h20 => ?_) (fun h20 => ?_)
        · replace hM := iteT h20 hM
          refine Rn.seq (Rn.reg (Rn.v rfl rfl rfl rfl (V.mv rfl) (Rn.v rfl rfl rfl rfl (V.nil rfl) (Rn.v rfl rfl rfl rfl (V.fa Try.underlying74 rfl Try.sizeOf4 rfl rfl) ?_))))
          obtain ⟨_, ⟨A21_0, c21_0, rfl⟩, hm21⟩ := hm19.unf 0 rfl
          replace hm21 : Hp Z0 (LS [T_limnographref18_Disk.obj F0 b0 x0]) w w19 [boxR b0 74 [.slice A21_0 (y18.L).length c21_0, .int .i64 (y18.Capacity), .bool (y18.Down), .int .i64 (y18.Calls), .int .i64 (y18.Fail), .int .i64 (y18.Crash), .int .i64 (y18.Err)], ownR 78 A21_0 c21_0 T_limnographref18_File.rep y18.L] := hm21
          refine Rn.st rfl rfl Try.sizeOf4 rfl rfl rfl rfl (by first | exact ones rfl | (simp [Value.oneCell']; done)) (hm21.get 0 rfl) (by first | exact Nat.le_of_ble_eq_true rfl | (simp; done)) ?_
          intro w23 m23 x23
          have hm24 : Hp Z0 (LS [T_limnographref18_Disk.obj F0 b0 x0]) w w23 [boxR b0 74 [.slice A21_0 (y18.L).length c21_0, .int .i64 (y18.Capacity), .bool true, .int .i64 (y18.Calls), .int .i64 (y18.Fail), .int .i64 (y18.Crash), .int .i64 (y18.Err)], ownR 78 A21_0 c21_0 T_limnographref18_File.rep y18.L] := hm21.st 0 rfl x23 m23
          refine Rn.regEnd (Rn.seq (Rn.reg (Rn.v rfl rfl rfl rfl (V.as rfl) (Rn.regEnd ?_))))
          have hm26 : Hp Z0 (LS [T_limnographref18_Disk.obj F0 b0 x0]) w w23 ([] ++ [boxR b0 74 [.slice A21_0 (y18.L).length c21_0, .int .i64 (y18.Capacity), .bool true, .int .i64 (y18.Calls), .int .i64 (y18.Fail), .int .i64 (y18.Crash), .int .i64 (y18.Err)], ownR 78 A21_0 c21_0 T_limnographref18_File.rep y18.L]) := hm24.pick [0, 1] rfl (by decide)
          obtain ⟨F25, hm25⟩ := hm26.fold (T_limnographref18_Disk.sh b0 ({ L := y18.L, Capacity := y18.Capacity, Down := true, Calls := y18.Calls, Fail := y18.Fail, Crash := y18.Crash, Err := y18.Err } : T_limnographref18_Disk)) ⟨A21_0, c21_0, rfl⟩
          replace hm25 : Hp Z0 (LS [T_limnographref18_Disk.obj F0 b0 x0]) w w23 [T_limnographref18_Disk.obj F25 b0 ({ L := y18.L, Capacity := y18.Capacity, Down := true, Calls := y18.Calls, Fail := y18.Fail, Crash := y18.Crash, Err := y18.Err } : T_limnographref18_Disk)] := hm25
          refine Rn.retG1 Try.func52 rfl (rvT rfl) ?_
          obtain rfl := someE hM
          exact ⟨F25, rfl, hm25.pick [0] rfl (by decide)⟩
        · replace hM := iteF h20 hM
          refine Rn.skip (Rn.seq (Rn.seq (Rn.reg (Rn.v rfl rfl rfl rfl (V.mv rfl) (Rn.regEnd ?_)))))
          refine Rn.condD rfl (fun h27 => ?_) (fun h27 => ?_)
          · replace hM := iteT h27 hM
            refine Rn.seq (Rn.reg (Rn.v rfl rfl rfl rfl (V.mv rfl) (Rn.v rfl rfl rfl rfl (V.nil rfl) (Rn.v rfl rfl rfl rfl (V.fa Try.underlying74 rfl Try.sizeOf29 rfl rfl) ?_))))
            obtain ⟨_, ⟨A28_0, c28_0, rfl⟩, hm28⟩ := hm19.unf 0 rfl
            replace hm28 : Hp Z0 (LS [T_limnographref18_Disk.obj F0 b0 x0]) w w19 [boxR b0 74 [.slice A28_0 (y18.L).length c28_0, .int .i64 (y18.Capacity), .bool (y18.Down), .int .i64 (y18.Calls), .int .i64 (y18.Fail), .int .i64 (y18.Crash), .int .i64 (y18.Err)], ownR 78 A28_0 c28_0 T_limnographref18_File.rep y18.L] := hm28
            refine Rn.v rfl rfl rfl rfl (V.ldB Try.isAgg29 rfl (hm28.get 0 rfl) rfl) (Rn.v rfl rfl rfl rfl (V.as rfl) (Rn.regEnd ?_))
            have hm31 : Hp Z0 (LS [T_limnographref18_Disk.obj F0 b0 x0]) w w19 ([] ++ [boxR b0 74 [.slice A28_0 (y18.L).length c28_0, .int .i64 (y18.Capacity), .bool (y18.Down), .int .i64 (y18.Calls), .int .i64 (y18.Fail), .int .i64 (y18.Crash), .int .i64 (y18.Err)], ownR 78 A28_0 c28_0 T_limnographref18_File.rep y18.L]) := hm28.pick [0, 1] rfl (by decide)
            obtain ⟨F30, hm30⟩ := hm31.fold (T_limnographref18_Disk.sh b0 y18) ⟨A28_0, c28_0, rfl⟩
            replace hm30 : Hp Z0 (LS [T_limnographref18_Disk.obj F0 b0 x0]) w w19 [T_limnographref18_Disk.obj F30 b0 y18] := hm30
            refine Rn.retG1 Try.func52 rfl (rvT rfl) ?_
            obtain rfl := someE hM
            exact ⟨F30, rfl, hm30.pick [0] rfl (by decide)⟩
          · replace hM := iteF h27 hM
            refine Rn.skip (Rn.seq (Rn.reg (Rn.v rfl rfl rfl rfl (V.as rfl) (Rn.regEnd ?_))))
            refine Rn.retG1 Try.func52 rfl (rvT rfl) ?_
            obtain rfl := someE hM
            exact ⟨F18, rfl, hm19.pick [0] rfl (by decide)⟩
      intro hk2
      clear hj2
      refine Rn.condD rfl (fun h32 => ?_) (fun h32 => ?_)
      · replace hM := iteT h32 hM
        refine Rn.reg (Rn.v rfl rfl rfl rfl (V.mv rfl) (Rn.v rfl rfl rfl rfl (V.mv rfl) (Rn.v rfl rfl rfl rfl (V.nil rfl) (Rn.v rfl rfl rfl rfl (V.fa Try.underlying74 rfl Try.sizeOf3 rfl rfl) ?_))))
        obtain ⟨_, ⟨A33_0, c33_0, rfl⟩, hm33⟩ := hm16.unf 0 rfl
        replace hm33 : Hp Z0 (LS [T_limnographref18_Disk.obj F0 b0 x0]) w w13 [boxR b0 74 [.slice A33_0 (y12.L).length c33_0, .int .i64 (y12.Capacity), .bool (y12.Down), .int .i64 (y12.Calls), .int .i64 (y12.Fail), .int .i64 (y12.Crash), .int .i64 (y12.Err)], ownR 78 A33_0 c33_0 T_limnographref18_File.rep y12.L] := hm33
        refine Rn.v rfl rfl rfl rfl (V.ldB Try.isAgg3 rfl (hm33.get 0 rfl) rfl) (Rn.v rfl rfl rfl rfl (V.subW rfl rfl) (Rn.v rfl rfl rfl rfl (V.nil rfl) (Rn.v rfl rfl rfl rfl (V.fa Try.underlying74 rfl Try.sizeOf3 rfl rfl) (Rn.st rfl rfl Try.sizeOf3 rfl rfl rfl rfl (by first | exact ones rfl | (simp [Value.oneCell']; done)) (hm33.get 0 rfl) (by first | exact Nat.le_of_ble_eq_true rfl | (simp; done)) ?_))))
        intro w35 m35 x35
        have hm36 : Hp Z0 (LS [T_limnographref18_Disk.obj F0 b0 x0]) w w35 [boxR b0 74 [.slice A33_0 (y12.L).length c33_0, .int .i64 (y12.Capacity), .bool (y12.Down), .int .i64 (y12.Calls), .int .i64 (W64 (y12.Fail - 1)), .int .i64 (y12.Crash), .int .i64 (y12.Err)], ownR 78 A33_0 c33_0 T_limnographref18_File.rep y12.L] := hm33.st 0 rfl x35 m35
        refine Rn.regEnd ?_
        have hm38 : Hp Z0 (LS [T_limnographref18_Disk.obj F0 b0 x0]) w w35 ([] ++ [boxR b0 74 [.slice A33_0 (y12.L).length c33_0, .int .i64 (y12.Capacity), .bool (y12.Down), .int .i64 (y12.Calls), .int .i64 (W64 (y12.Fail - 1)), .int .i64 (y12.Crash), .int .i64 (y12.Err)], ownR 78 A33_0 c33_0 T_limnographref18_File.rep y12.L]) := hm36.pick [0, 1] rfl (by decide)
        obtain ⟨F37, hm37⟩ := hm38.fold (T_limnographref18_Disk.sh b0 ({ L := y12.L, Capacity := y12.Capacity, Down := y12.Down, Calls := y12.Calls, Fail := W64 (y12.Fail - 1), Crash := y12.Crash, Err := y12.Err } : T_limnographref18_Disk)) ⟨A33_0, c33_0, rfl⟩
        replace hm37 : Hp Z0 (LS [T_limnographref18_Disk.obj F0 b0 x0]) w w35 [T_limnographref18_Disk.obj F37 b0 ({ L := y12.L, Capacity := y12.Capacity, Down := y12.Down, Calls := y12.Calls, Fail := W64 (y12.Fail - 1), Crash := y12.Crash, Err := y12.Err } : T_limnographref18_Disk)] := hm37
        exact hk2 (({ L := y12.L, Capacity := y12.Capacity, Down := y12.Down, Calls := y12.Calls, Fail := W64 (y12.Fail - 1), Crash := y12.Crash, Err := y12.Err } : T_limnographref18_Disk), F37) _ _ (Sub.cons rfl (Sub.cons rfl (Sub.cons rfl (Sub.nil _)))) (hm37.pick [0] rfl (by decide)) hM
      · replace hM := iteF h32 hM
        refine Rn.skip ?_
        exact hk2 (y12, F16) _ _ (Sub.cons rfl (Sub.cons rfl (Sub.cons rfl (Sub.nil _)))) (hm16.pick [0] rfl (by decide)) hM
    intro hk1
    clear hj1
    refine Rn.condD rfl (fun h39 => ?_) (fun h39 => ?_)
    · replace hM := iteT h39 hM
      refine Rn.reg (Rn.v rfl rfl rfl rfl (V.mv rfl) (Rn.v rfl rfl rfl rfl (V.mv rfl) (Rn.v rfl rfl rfl rfl (V.nil rfl) (Rn.v rfl rfl rfl rfl (V.fa Try.underlying74 rfl Try.sizeOf3 rfl rfl) ?_))))
      obtain ⟨_, ⟨A40_0, c40_0, rfl⟩, hm40⟩ := hm10.unf 0 rfl
      replace hm40 : Hp Z0 (LS [T_limnographref18_Disk.obj F0 b0 x0]) w w9 [boxR b0 74 [.slice A40_0 (({ L := x0.L, Capacity := x0.Capacity, Down := x0.Down, Calls := W64 (x0.Calls + 1), Fail := x0.Fail, Crash := x0.Crash, Err := x0.Err } : T_limnographref18_Disk).L).length c40_0, .int .i64 (({ L := x0.L, Capacity := x0.Capacity, Down := x0.Down, Calls := W64 (x0.Calls + 1), Fail := x0.Fail, Crash := x0.Crash, Err := x0.Err } : T_limnographref18_Disk).Capacity), .bool (({ L := x0.L, Capacity := x0.Capacity, Down := x0.Down, Calls := W64 (x0.Calls + 1), Fail := x0.Fail, Crash := x0.Crash, Err := x0.Err } : T_limnographref18_Disk).Down), .int .i64 (({ L := x0.L, Capacity := x0.Capacity, Down := x0.Down, Calls := W64 (x0.Calls + 1), Fail := x0.Fail, Crash := x0.Crash, Err := x0.Err } : T_limnographref18_Disk).Calls), .int .i64 (({ L := x0.L, Capacity := x0.Capacity, Down := x0.Down, Calls := W64 (x0.Calls + 1), Fail := x0.Fail, Crash := x0.Crash, Err := x0.Err } : T_limnographref18_Disk).Fail), .int .i64 (({ L := x0.L, Capacity := x0.Capacity, Down := x0.Down, Calls := W64 (x0.Calls + 1), Fail := x0.Fail, Crash := x0.Crash, Err := x0.Err } : T_limnographref18_Disk).Crash), .int .i64 (({ L := x0.L, Capacity := x0.Capacity, Down := x0.Down, Calls := W64 (x0.Calls + 1), Fail := x0.Fail, Crash := x0.Crash, Err := x0.Err } : T_limnographref18_Disk).Err)], ownR 78 A40_0 c40_0 T_limnographref18_File.rep (({ L := x0.L, Capacity := x0.Capacity, Down := x0.Down, Calls := W64 (x0.Calls + 1), Fail := x0.Fail, Crash := x0.Crash, Err := x0.Err } : T_limnographref18_Disk).L)] := hm40
      refine Rn.v rfl rfl rfl rfl (V.ldB Try.isAgg3 rfl (hm40.get 0 rfl) rfl) (Rn.v rfl rfl rfl rfl (V.subW rfl rfl) (Rn.v rfl rfl rfl rfl (V.nil rfl) (Rn.v rfl rfl rfl rfl (V.fa Try.underlying74 rfl Try.sizeOf3 rfl rfl) (Rn.st rfl rfl Try.sizeOf3 rfl rfl rfl rfl (by first | exact ones rfl | (simp [Value.oneCell']; done)) (hm40.get 0 rfl) (by first | exact Nat.le_of_ble_eq_true rfl | (simp; done)) ?_))))
      intro w42 m42 x42
      have hm43 : Hp Z0 (LS [T_limnographref18_Disk.obj F0 b0 x0]) w w42 [boxR b0 74 [.slice A40_0 (({ L := x0.L, Capacity := x0.Capacity, Down := x0.Down, Calls := W64 (x0.Calls + 1), Fail := x0.Fail, Crash := x0.Crash, Err := x0.Err } : T_limnographref18_Disk).L).length c40_0, .int .i64 (({ L := x0.L, Capacity := x0.Capacity, Down := x0.Down, Calls := W64 (x0.Calls + 1), Fail := x0.Fail, Crash := x0.Crash, Err := x0.Err } : T_limnographref18_Disk).Capacity), .bool (({ L := x0.L, Capacity := x0.Capacity, Down := x0.Down, Calls := W64 (x0.Calls + 1), Fail := x0.Fail, Crash := x0.Crash, Err := x0.Err } : T_limnographref18_Disk).Down), .int .i64 (({ L := x0.L, Capacity := x0.Capacity, Down := x0.Down, Calls := W64 (x0.Calls + 1), Fail := x0.Fail, Crash := x0.Crash, Err := x0.Err } : T_limnographref18_Disk).Calls), .int .i64 (({ L := x0.L, Capacity := x0.Capacity, Down := x0.Down, Calls := W64 (x0.Calls + 1), Fail := x0.Fail, Crash := x0.Crash, Err := x0.Err } : T_limnographref18_Disk).Fail), .int .i64 (W64 ((({ L := x0.L, Capacity := x0.Capacity, Down := x0.Down, Calls := W64 (x0.Calls + 1), Fail := x0.Fail, Crash := x0.Crash, Err := x0.Err } : T_limnographref18_Disk).Crash) - 1)), .int .i64 (({ L := x0.L, Capacity := x0.Capacity, Down := x0.Down, Calls := W64 (x0.Calls + 1), Fail := x0.Fail, Crash := x0.Crash, Err := x0.Err } : T_limnographref18_Disk).Err)], ownR 78 A40_0 c40_0 T_limnographref18_File.rep (({ L := x0.L, Capacity := x0.Capacity, Down := x0.Down, Calls := W64 (x0.Calls + 1), Fail := x0.Fail, Crash := x0.Crash, Err := x0.Err } : T_limnographref18_Disk).L)] := hm40.st 0 rfl x42 m42
      refine Rn.regEnd ?_
      have hm45 : Hp Z0 (LS [T_limnographref18_Disk.obj F0 b0 x0]) w w42 ([] ++ [boxR b0 74 [.slice A40_0 (({ L := x0.L, Capacity := x0.Capacity, Down := x0.Down, Calls := W64 (x0.Calls + 1), Fail := x0.Fail, Crash := x0.Crash, Err := x0.Err } : T_limnographref18_Disk).L).length c40_0, .int .i64 (({ L := x0.L, Capacity := x0.Capacity, Down := x0.Down, Calls := W64 (x0.Calls + 1), Fail := x0.Fail, Crash := x0.Crash, Err := x0.Err } : T_limnographref18_Disk).Capacity), .bool (({ L := x0.L, Capacity := x0.Capacity, Down := x0.Down, Calls := W64 (x0.Calls + 1), Fail := x0.Fail, Crash := x0.Crash, Err := x0.Err } : T_limnographref18_Disk).Down), .int .i64 (({ L := x0.L, Capacity := x0.Capacity, Down := x0.Down, Calls := W64 (x0.Calls + 1), Fail := x0.Fail, Crash := x0.Crash, Err := x0.Err } : T_limnographref18_Disk).Calls), .int .i64 (({ L := x0.L, Capacity := x0.Capacity, Down := x0.Down, Calls := W64 (x0.Calls + 1), Fail := x0.Fail, Crash := x0.Crash, Err := x0.Err } : T_limnographref18_Disk).Fail), .int .i64 (W64 ((({ L := x0.L, Capacity := x0.Capacity, Down := x0.Down, Calls := W64 (x0.Calls + 1), Fail := x0.Fail, Crash := x0.Crash, Err := x0.Err } : T_limnographref18_Disk).Crash) - 1)), .int .i64 (({ L := x0.L, Capacity := x0.Capacity, Down := x0.Down, Calls := W64 (x0.Calls + 1), Fail := x0.Fail, Crash := x0.Crash, Err := x0.Err } : T_limnographref18_Disk).Err)], ownR 78 A40_0 c40_0 T_limnographref18_File.rep (({ L := x0.L, Capacity := x0.Capacity, Down := x0.Down, Calls := W64 (x0.Calls + 1), Fail := x0.Fail, Crash := x0.Crash, Err := x0.Err } : T_limnographref18_Disk).L)]) := hm43.pick [0, 1] rfl (by decide)
      obtain ⟨F44, hm44⟩ := hm45.fold (T_limnographref18_Disk.sh b0 ({ L := ({ L := x0.L, Capacity := x0.Capacity, Down := x0.Down, Calls := W64 (x0.Calls + 1), Fail := x0.Fail, Crash := x0.Crash, Err := x0.Err } : T_limnographref18_Disk).L, Capacity := ({ L := x0.L, Capacity := x0.Capacity, Down := x0.Down, Calls := W64 (x0.Calls + 1), Fail := x0.Fail, Crash := x0.Crash, Err := x0.Err } : T_limnographref18_Disk).Capacity, Down := ({ L := x0.L, Capacity := x0.Capacity, Down := x0.Down, Calls := W64 (x0.Calls + 1), Fail := x0.Fail, Crash := x0.Crash, Err := x0.Err } : T_limnographref18_Disk).Down, Calls := ({ L := x0.L, Capacity := x0.Capacity, Down := x0.Down, Calls := W64 (x0.Calls + 1), Fail := x0.Fail, Crash := x0.Crash, Err := x0.Err } : T_limnographref18_Disk).Calls, Fail := ({ L := x0.L, Capacity := x0.Capacity, Down := x0.Down, Calls := W64 (x0.Calls + 1), Fail := x0.Fail, Crash := x0.Crash, Err := x0.Err } : T_limnographref18_Disk).Fail, Crash := W64 ((({ L := x0.L, Capacity := x0.Capacity, Down := x0.Down, Calls := W64 (x0.Calls + 1), Fail := x0.Fail, Crash := x0.Crash, Err := x0.Err } : T_limnographref18_Disk).Crash) - 1), Err := ({ L := x0.L, Capacity := x0.Capacity, Down := x0.Down, Calls := W64 (x0.Calls + 1), Fail := x0.Fail, Crash := x0.Crash, Err := x0.Err } : T_limnographref18_Disk).Err } : T_limnographref18_Disk)) ⟨A40_0, c40_0, rfl⟩
      replace hm44 : Hp Z0 (LS [T_limnographref18_Disk.obj F0 b0 x0]) w w42 [T_limnographref18_Disk.obj F44 b0 ({ L := ({ L := x0.L, Capacity := x0.Capacity, Down := x0.Down, Calls := W64 (x0.Calls + 1), Fail := x0.Fail, Crash := x0.Crash, Err := x0.Err } : T_limnographref18_Disk).L, Capacity := ({ L := x0.L, Capacity := x0.Capacity, Down := x0.Down, Calls := W64 (x0.Calls + 1), Fail := x0.Fail, Crash := x0.Crash, Err := x0.Err } : T_limnographref18_Disk).Capacity, Down := ({ L := x0.L, Capacity := x0.Capacity, Down := x0.Down, Calls := W64 (x0.Calls + 1), Fail := x0.Fail, Crash := x0.Crash, Err := x0.Err } : T_limnographref18_Disk).Down, Calls := ({ L := x0.L, Capacity := x0.Capacity, Down := x0.Down, Calls := W64 (x0.Calls + 1), Fail := x0.Fail, Crash := x0.Crash, Err := x0.Err } : T_limnographref18_Disk).Calls, Fail := ({ L := x0.L, Capacity := x0.Capacity, Down := x0.Down, Calls := W64 (x0.Calls + 1), Fail := x0.Fail, Crash := x0.Crash, Err := x0.Err } : T_limnographref18_Disk).Fail, Crash := W64 ((({ L := x0.L, Capacity := x0.Capacity, Down := x0.Down, Calls := W64 (x0.Calls + 1), Fail := x0.Fail, Crash := x0.Crash, Err := x0.Err } : T_limnographref18_Disk).Crash) - 1), Err := ({ L := x0.L, Capacity := x0.Capacity, Down := x0.Down, Calls := W64 (x0.Calls + 1), Fail := x0.Fail, Crash := x0.Crash, Err := x0.Err } : T_limnographref18_Disk).Err } : T_limnographref18_Disk)] := hm44
      exact hk1 (({ L := ({ L := x0.L, Capacity := x0.Capacity, Down := x0.Down, Calls := W64 (x0.Calls + 1), Fail := x0.Fail, Crash := x0.Crash, Err := x0.Err } : T_limnographref18_Disk).L, Capacity := ({ L := x0.L, Capacity := x0.Capacity, Down := x0.Down, Calls := W64 (x0.Calls + 1), Fail := x0.Fail, Crash := x0.Crash, Err := x0.Err } : T_limnographref18_Disk).Capacity, Down := ({ L := x0.L, Capacity := x0.Capacity, Down := x0.Down, Calls := W64 (x0.Calls + 1), Fail := x0.Fail, Crash := x0.Crash, Err := x0.Err } : T_limnographref18_Disk).Down, Calls := ({ L := x0.L, Capacity := x0.Capacity, Down := x0.Down, Calls := W64 (x0.Calls + 1), Fail := x0.Fail, Crash := x0.Crash, Err := x0.Err } : T_limnographref18_Disk).Calls, Fail := ({ L := x0.L, Capacity := x0.Capacity, Down := x0.Down, Calls := W64 (x0.Calls + 1), Fail := x0.Fail, Crash := x0.Crash, Err := x0.Err } : T_limnographref18_Disk).Fail, Crash := W64 ((({ L := x0.L, Capacity := x0.Capacity, Down := x0.Down, Calls := W64 (x0.Calls + 1), Fail := x0.Fail, Crash := x0.Crash, Err := x0.Err } : T_limnographref18_Disk).Crash) - 1), Err := ({ L := x0.L, Capacity := x0.Capacity, Down := x0.Down, Calls := W64 (x0.Calls + 1), Fail := x0.Fail, Crash := x0.Crash, Err := x0.Err } : T_limnographref18_Disk).Err } : T_limnographref18_Disk), F44) _ _ (Sub.cons rfl (Sub.cons rfl (Sub.cons rfl (Sub.nil _)))) (hm44.pick [0] rfl (by decide)) hM
    · replace hM := iteF h39 hM
      refine Rn.skip ?_
      exact hk1 (({ L := x0.L, Capacity := x0.Capacity, Down := x0.Down, Calls := W64 (x0.Calls + 1), Fail := x0.Fail, Crash := x0.Crash, Err := x0.Err } : T_limnographref18_Disk), F10) _ _ (Sub.cons rfl (Sub.cons rfl (Sub.cons rfl (Sub.nil _)))) (hm10.pick [0] rfl (by decide)) hM

set_option maxRecDepth 20000 in
theorem m_limnographref18_Disk_Create_sim {Z0 : Nat → Prop} (w : World) (F0 : Nat → Prop) (b0 : Nat) (x0 : T_limnographref18_Disk) (x1 : (List UInt8)) {r : (Int × T_limnographref18_Disk)} (hL : Lent Z0 w [T_limnographref18_Disk.obj F0 b0 x0]) (hM : m_limnographref18_Disk_Create x0 x1 = some r) :
    Calls Try.prog 33 #[.pointer (some ⟨b0, 0, none⟩), Str (x1)] w fun x w' => ∃ F_p0, x = .returned (.int .i64 (r.1)) ∧ Hp Z0 (LS [T_limnographref18_Disk.obj F0 b0 x0]) w w' [T_limnographref18_Disk.obj F_p0 b0 r.2] := by
  have hm0 := hL.start
  refine Rn.enter Try.func33 rfl rfl (Nat.le_of_ble_eq_true rfl) ?_
  refine Rn.seq (Rn.reg (Rn.v rfl rfl rfl rfl (V.as rfl) (Rn.regEnd (Rn.seq (Rn.seq (Rn.reg (Rn.v rfl rfl rfl rfl (V.mv rfl) ?_)))))))
  obtain ⟨p2, e2, hM⟩ := bindE hM
  have hm3 : Hp Z0 (LS [T_limnographref18_Disk.obj F0 b0 x0]) w w ([] ++ [T_limnographref18_Disk.obj F0 b0 x0]) := hm0.pick [0] rfl (by decide)
  refine Rn.cl ck52 rfl rfl rfl rfl (m_limnographref18_Disk_begin_sim (Z0 := _) _ F0 b0 x0 hm3.lend e2) ?_
  rintro _ w2 ⟨F2_p0, rfl, hq2⟩
  refine ⟨_, rfl, ?_⟩
  have hm5 : Hp Z0 (LS [T_limnographref18_Disk.obj F0 b0 x0]) w w2 [T_limnographref18_Disk.obj F2_p0 b0 p2.2] := hm3.callAZ hq2
  refine Rn.v rfl rfl rfl rfl (V.as rfl) (Rn.regEnd (Rn.seq (Rn.reg (Rn.v rfl rfl rfl rfl (V.mv rfl) (Rn.v rfl rfl rfl rfl (V.neq rfl rfl) (Rn.regEnd ?_))))))
  refine Rn.condD rfl (fun h6 => ?_) (fun h6 => ?_)
  · replace hM := iteT h6 hM
    refine Rn.seq (Rn.reg (Rn.v rfl rfl rfl rfl (V.mv rfl) (Rn.v rfl rfl rfl rfl (V.as rfl) (Rn.regEnd ?_))))
    refine Rn.retG1 Try.func33 rfl (rvT rfl) ?_
    obtain rfl := someE hM
    exact ⟨F2_p0, rfl, hm5.pick [0] rfl (by decide)⟩
  · replace hM := iteF h6 hM
    refine Rn.skip (Rn.seq (Rn.seq (Rn.reg (Rn.v rfl rfl rfl rfl (V.mv rfl) ?_))))
    obtain ⟨p7, e7, hM⟩ := bindE hM
    refine Rn.cl ck29 rfl rfl rfl rfl (m_limnographref18_Name_sim (Z0 := All) _ x1  e7) ?_
    rintro _ w7 ⟨rfl, hq7⟩
    refine ⟨_, rfl, ?_⟩
    have hm8 := hm5.call0 hq7
    refine Rn.v rfl rfl rfl rfl (V.notB rfl) (Rn.regEnd ?_)
    refine Rn.condS rfl (fun h9 => ?_) (fun h9 => ?_)
    · replace hM := iteT h9 hM
      refine Rn.seq (Rn.reg (Rn.v rfl rfl rfl rfl (V.as rfl) (Rn.regEnd ?_)))
      refine Rn.retG1 Try.func33 rfl (rvT rfl) ?_
      obtain rfl := someE hM
      exact ⟨F2_p0, rfl, hm8.pick [0] rfl (by decide)⟩
    · replace hM := iteF (by rw [h9]; exact Bool.false_ne_true) hM
      refine Rn.skip (Rn.seq (Rn.seq (Rn.reg (Rn.v rfl rfl rfl rfl (V.mv rfl) (Rn.v rfl rfl rfl rfl (V.mv rfl) ?_)))))
      obtain ⟨p10, e10, hM⟩ := bindE hM
      refine Rn.cl ck30 rfl rfl rfl rfl (m_limnographref18_Disk_Find_sim (Z0 := All) _ F2_p0 b0 p2.2 x1 (fz_all (hm8.get 0 rfl)) e10) ?_
      rintro _ w10 ⟨rfl, hq10⟩
      refine ⟨_, rfl, ?_⟩
      have hm11 := hm8.call0 hq10
      refine Rn.v rfl rfl rfl rfl (V.geq rfl rfl) (Rn.regEnd ?_)
      refine Rn.condD rfl (fun h12 => ?_) (fun h12 => ?_)
      · replace hM := iteT h12 hM
        refine Rn.seq (Rn.reg (Rn.v rfl rfl rfl rfl (V.as rfl) (Rn.regEnd ?_)))
        refine Rn.retG1 Try.func33 rfl (rvT rfl) ?_
        obtain rfl := someE hM
        exact ⟨F2_p0, rfl, hm11.pick [0] rfl (by decide)⟩
      · replace hM := iteF h12 hM
        refine Rn.skip (Rn.seq (Rn.seq (Rn.reg (Rn.v rfl rfl rfl rfl (V.mv rfl) (Rn.v rfl rfl rfl rfl (V.nil rfl) (Rn.v rfl rfl rfl rfl (V.fa Try.underlying74 rfl Try.sizeOf72 rfl rfl) ?_))))))
        obtain ⟨_, ⟨A13_0, c13_0, rfl⟩, hm13⟩ := hm11.unf 0 rfl
        replace hm13 : Hp Z0 (LS [T_limnographref18_Disk.obj F0 b0 x0]) w w10 [boxR b0 74 [.slice A13_0 (p2.2.L).length c13_0, .int .i64 (p2.2.Capacity), .bool (p2.2.Down), .int .i64 (p2.2.Calls), .int .i64 (p2.2.Fail), .int .i64 (p2.2.Crash), .int .i64 (p2.2.Err)], ownR 78 A13_0 c13_0 T_limnographref18_File.rep p2.2.L] := hm13
        refine Rn.v rfl rfl rfl rfl (V.ldB Try.isAgg72 rfl (hm13.get 0 rfl) rfl) (Rn.v rfl rfl rfl rfl (V.lenV Try.underlying72 rfl) (Rn.v rfl rfl rfl rfl (V.eql rfl rfl) (Rn.regEnd ?_)))
        refine Rn.condD rfl (fun h15 => ?_) (fun h15 => ?_)
        · replace hM := iteT h15 hM
          refine Rn.seq (Rn.reg (Rn.v rfl rfl rfl rfl (V.as rfl) (Rn.regEnd ?_)))
          have hm17 : Hp Z0 (LS [T_limnographref18_Disk.obj F0 b0 x0]) w w10 ([] ++ [boxR b0 74 [.slice A13_0 (p2.2.L).length c13_0, .int .i64 (p2.2.Capacity), .bool (p2.2.Down), .int .i64 (p2.2.Calls), .int .i64 (p2.2.Fail), .int .i64 (p2.2.Crash), .int .i64 (p2.2.Err)], ownR 78 A13_0 c13_0 T_limnographref18_File.rep p2.2.L]) := hm13.pick [0, 1] rfl (by decide)
          obtain ⟨F16, hm16⟩ := hm17.fold (T_limnographref18_Disk.sh b0 p2.2) ⟨A13_0, c13_0, rfl⟩
          replace hm16 : Hp Z0 (LS [T_limnographref18_Disk.obj F0 b0 x0]) w w10 [T_limnographref18_Disk.obj F16 b0 p2.2] := hm16
          refine Rn.retG1 Try.func33 rfl (rvT rfl) ?_
          obtain rfl := someE hM
          exact ⟨F16, rfl, hm16.pick [0] rfl (by decide)⟩
        · replace hM := iteF h15 hM
          refine Rn.skip (Rn.seq (Rn.reg (Rn.v rfl rfl rfl rfl (V.mv rfl) (Rn.v rfl rfl rfl rfl (V.mv rfl) (Rn.v rfl rfl rfl rfl (V.bldS st78 rfl rfl) ?_)))))
          have hm20 : Hp Z0 (LS [T_limnographref18_Disk.obj F0 b0 x0]) w w10 ([] ++ [boxR b0 74 [.slice A13_0 (p2.2.L).length c13_0, .int .i64 (p2.2.Capacity), .bool (p2.2.Down), .int .i64 (p2.2.Calls), .int .i64 (p2.2.Fail), .int .i64 (p2.2.Crash), .int .i64 (p2.2.Err)], ownR 78 A13_0 c13_0 T_limnographref18_File.rep p2.2.L]) := hm13.pick [0, 1] rfl (by decide)
          obtain ⟨F19, hm19⟩ := hm20.fold (T_limnographref18_Disk.sh b0 p2.2) ⟨A13_0, c13_0, rfl⟩
          replace hm19 : Hp Z0 (LS [T_limnographref18_Disk.obj F0 b0 x0]) w w10 [T_limnographref18_Disk.obj F19 b0 p2.2] := hm19
          obtain ⟨p18, e18, hM⟩ := bindE hM
          have hm21 := hm19.know (relR T_limnographref18_File.rep [Str (x1), .slice none 0 0, .int .i64 (0)] ({ Name := x1, Data := [], Sure := 0 } : T_limnographref18_File)) (fun _ h => h) (show T_limnographref18_File.rep.rel _ _ _ _ from ⟨_, _, rfl, ⟨rfl, trivial⟩, ⟨_, _, rfl, ⟨none, 0, rfl, Nat.le_refl _, Nat.zero_le _, Sl.nil _ _ _ _⟩, ⟨rfl, trivial⟩⟩⟩)
          have hm23 : Hp Z0 (LS [T_limnographref18_Disk.obj F0 b0 x0]) w w10 ([] ++ [T_limnographref18_Disk.obj F19 b0 p2.2, relR T_limnographref18_File.rep [Str (x1), .slice none 0 0, .int .i64 (0)] ({ Name := x1, Data := [], Sure := 0 } : T_limnographref18_File)]) := hm21.pick [0, 1] rfl (by decide)
          refine Rn.cl ck32 rfl rfl rfl rfl (m_limnographref18_Disk_put_sim (Z0 := _) _ F19 b0 p2.2 ({ Name := x1, Data := [], Sure := 0 } : T_limnographref18_File) [Str (x1), .slice none 0 0, .int .i64 (0)] hm23.lend e18) ?_
          rintro _ w18 ⟨F18_p0, rfl, hq18⟩
          refine ⟨_, rfl, ?_⟩
          have hm25 : Hp Z0 (LS [T_limnographref18_Disk.obj F0 b0 x0]) w w18 [T_limnographref18_Disk.obj F18_p0 b0 p18] := hm23.callAZ hq18
          refine Rn.regEnd (Rn.seq (Rn.reg (Rn.v rfl rfl rfl rfl (V.as rfl) (Rn.regEnd ?_))))
          refine Rn.retG1 Try.func33 rfl (rvT rfl) ?_
          obtain rfl := someE hM
          exact ⟨F18_p0, rfl, hm25.pick [0] rfl (by decide)⟩

set_option maxRecDepth 20000 in
theorem m_limnographref18_Disk_Append_sim {Z0 : Nat → Prop} (w : World) (F0 : Nat → Prop) (b0 : Nat) (x0 : T_limnographref18_Disk) (x1 : (List UInt8)) (A2 : Option Addr) (c2 : Nat) (x2 : (List UInt8)) {r : (Int × T_limnographref18_Disk)} (hL : Lent Z0 w [T_limnographref18_Disk.obj F0 b0 x0, slR A2 c2 byteR x2]) (hM : m_limnographref18_Disk_Append x0 x1 x2 = some r) :
    Calls Try.prog 34 #[.pointer (some ⟨b0, 0, none⟩), Str (x1), .slice A2 (x2).length c2] w fun x w' => ∃ F_p0, x = .returned (.int .i64 (r.1)) ∧ Hp Z0 (LS [T_limnographref18_Disk.obj F0 b0 x0, slR A2 c2 byteR x2]) w w' [T_limnographref18_Disk.obj F_p0 b0 r.2] := by
  have hm0 := hL.start
  refine Rn.enter Try.func34 rfl rfl (Nat.le_of_ble_eq_true rfl) ?_
  refine Rn.seq (Rn.reg (Rn.v rfl rfl rfl rfl (V.as rfl) (Rn.regEnd (Rn.seq (Rn.seq (Rn.reg (Rn.v rfl rfl rfl rfl (V.mv rfl) ?_)))))))
  obtain ⟨p3, e3, hM⟩ := bindE hM
  have hm4 : Hp Z0 (LS [T_limnographref18_Disk.obj F0 b0 x0, slR A2 c2 byteR x2]) w w ([slR A2 c2 byteR x2] ++ [T_limnographref18_Disk.obj F0 b0 x0]) := hm0.pick [1, 0] rfl (by decide)
  refine Rn.cl ck52 rfl rfl rfl rfl (m_limnographref18_Disk_begin_sim (Z0 := _) _ F0 b0 x0 hm4.lend e3) ?_
  rintro _ w3 ⟨F3_p0, rfl, hq3⟩
  refine ⟨_, rfl, ?_⟩
  have hm6 : Hp Z0 (LS [T_limnographref18_Disk.obj F0 b0 x0, slR A2 c2 byteR x2]) w w3 [slR A2 c2 byteR x2, T_limnographref18_Disk.obj F3_p0 b0 p3.2] := hm4.callAZ hq3
  refine Rn.v rfl rfl rfl rfl (V.as rfl) (Rn.regEnd (Rn.seq (Rn.reg (Rn.v rfl rfl rfl rfl (V.mv rfl) (Rn.v rfl rfl rfl rfl (V.neq rfl rfl) (Rn.regEnd ?_))))))
  refine Rn.condD rfl (fun h7 => ?_) (fun h7 => ?_)
  · replace hM := iteT h7 hM
    refine Rn.seq (Rn.reg (Rn.v rfl rfl rfl rfl (V.mv rfl) (Rn.v rfl rfl rfl rfl (V.as rfl) (Rn.regEnd ?_))))
    refine Rn.retG1 Try.func34 rfl (rvT rfl) ?_
    obtain rfl := someE hM
    exact ⟨F3_p0, rfl, hm6.pick [1] rfl (by decide)⟩
  · replace hM := iteF h7 hM
    refine Rn.skip (Rn.seq (Rn.reg (Rn.v rfl rfl rfl rfl (V.mv rfl) (Rn.v rfl rfl rfl rfl (V.mv rfl) ?_))))
    obtain ⟨p8, e8, hM⟩ := bindE hM
    refine Rn.cl ck30 rfl rfl rfl rfl (m_limnographref18_Disk_Find_sim (Z0 := All) _ F3_p0 b0 p3.2 x1 (fz_all (hm6.get 1 rfl)) e8) ?_
    rintro _ w8 ⟨rfl, hq8⟩
    refine ⟨_, rfl, ?_⟩
    have hm9 := hm6.call0 hq8
    refine Rn.v rfl rfl rfl rfl (V.as rfl) (Rn.regEnd (Rn.seq (Rn.seq (Rn.reg (Rn.v rfl rfl rfl rfl (V.mv rfl) (Rn.v rfl rfl rfl rfl (V.lss rfl rfl) (Rn.regEnd ?_)))))))
    refine Rn.condD rfl (fun h10 => ?_) (fun h10 => ?_)
    · replace hM := iteT h10 hM
      refine Rn.seq (Rn.reg (Rn.v rfl rfl rfl rfl (V.as rfl) (Rn.regEnd ?_)))
      refine Rn.retG1 Try.func34 rfl (rvT rfl) ?_
      obtain rfl := someE hM
      exact ⟨F3_p0, rfl, hm9.pick [1] rfl (by decide)⟩
    · replace hM := iteF h10 hM
      refine Rn.skip (Rn.seq (Rn.seq ?_))
      refine Rn.drawH rfl hm9 ?_
      intro w11 hm11
      refine RH.take 0 (by kernel_rfl) rfl rfl rfl rfl (fun w' hDr => V.mv rfl) ?_
      refine RH.take 1 (by kernel_rfl) rfl rfl rfl rfl (fun w' hDr => V.lenV Try.underlying24 rfl) ?_
      refine RH.take 2 (by kernel_rfl) rfl rfl rfl rfl (fun w' hDr => V.mv rfl) ?_
      refine RH.take 3 (by kernel_rfl) rfl rfl rfl rfl (fun w' hDr => V.nil rfl) ?_
      refine RH.take 4 (by kernel_rfl) rfl rfl rfl rfl (fun w' hDr => V.fa Try.underlying74 rfl Try.sizeOf3 rfl rfl) ?_
      obtain ⟨_, ⟨A12_0, c12_0, rfl⟩, hm12⟩ := hm11.unf 1 rfl
      replace hm12 : Hp Z0 (LS [T_limnographref18_Disk.obj F0 b0 x0, slR A2 c2 byteR x2]) w w11 [slR A2 c2 byteR x2, boxR b0 74 [.slice A12_0 (p3.2.L).length c12_0, .int .i64 (p3.2.Capacity), .bool (p3.2.Down), .int .i64 (p3.2.Calls), .int .i64 (p3.2.Fail), .int .i64 (p3.2.Crash), .int .i64 (p3.2.Err)], ownR 78 A12_0 c12_0 T_limnographref18_File.rep p3.2.L] := hm12
      refine RH.take 5 (by kernel_rfl) rfl rfl rfl rfl (fun w' hDr => V.ldB Try.isAgg3 rfl ((hm12.ext hDr).get 1 rfl) rfl) ?_
      refine RH.here fun hS6 => RH.one 6 (by kernel_rfl) rfl rfl rfl rfl (V.mv rfl) hS6 ?_
      have hm16 : Hp Z0 (LS [T_limnographref18_Disk.obj F0 b0 x0, slR A2 c2 byteR x2]) w w11 ([slR A2 c2 byteR x2] ++ [boxR b0 74 [.slice A12_0 (p3.2.L).length c12_0, .int .i64 (p3.2.Capacity), .bool (p3.2.Down), .int .i64 (p3.2.Calls), .int .i64 (p3.2.Fail), .int .i64 (p3.2.Crash), .int .i64 (p3.2.Err)], ownR 78 A12_0 c12_0 T_limnographref18_File.rep p3.2.L]) := hm12.pick [0, 1, 2] rfl (by decide)
      obtain ⟨F15, hm15⟩ := hm16.fold (T_limnographref18_Disk.sh b0 p3.2) ⟨A12_0, c12_0, rfl⟩
      replace hm15 : Hp Z0 (LS [T_limnographref18_Disk.obj F0 b0 x0, slR A2 c2 byteR x2]) w w11 [slR A2 c2 byteR x2, T_limnographref18_Disk.obj F15 b0 p3.2] := hm15
      obtain ⟨p14, e14, hM⟩ := bindE hM
      refine RH.cl ck31 7 (by kernel_rfl) rfl rfl rfl rfl (m_limnographref18_Disk_Used_sim (Z0 := All) _ F15 b0 p3.2 (fz_all (hm15.get 1 rfl)) e14) ?_
      rintro _ w14 ⟨rfl, hq14⟩
      refine ⟨_, rfl, ((Ext.refl _).trans hq14.fr), ?_⟩
      have hm17 := hm15.call0 hq14
      refine RH.here fun hS8 => RH.one 8 (by kernel_rfl) rfl rfl rfl rfl (V.subW rfl rfl) hS8 ?_
      refine RH.here fun hS9 => RH.one 9 (by kernel_rfl) rfl rfl rfl rfl (V.gtr rfl rfl) hS9 ?_
      refine RH.doneP (by kernel_rfl) ?_
      refine Rn.condD rfl (fun h18 => ?_) (fun h18 => ?_)
      · replace hM := iteT h18 hM
        refine Rn.seq (Rn.reg (Rn.v rfl rfl rfl rfl (V.as rfl) (Rn.regEnd ?_)))
        refine Rn.retG1 Try.func34 rfl (rvT rfl) ?_
        obtain rfl := someE hM
        exact ⟨F15, rfl, hm17.pick [1] rfl (by decide)⟩
      · replace hM := iteF h18 hM
        refine Rn.skip (Rn.seq (Rn.reg (Rn.v rfl rfl rfl rfl (V.mv rfl) (Rn.v rfl rfl rfl rfl (V.nil rfl) (Rn.v rfl rfl rfl rfl (V.fa Try.underlying74 rfl Try.sizeOf72 rfl rfl) ?_)))))
        obtain ⟨_, ⟨A19_0, c19_0, rfl⟩, hm19⟩ := hm17.unf 1 rfl
        replace hm19 : Hp Z0 (LS [T_limnographref18_Disk.obj F0 b0 x0, slR A2 c2 byteR x2]) w w14 [slR A2 c2 byteR x2, boxR b0 74 [.slice A19_0 (p3.2.L).length c19_0, .int .i64 (p3.2.Capacity), .bool (p3.2.Down), .int .i64 (p3.2.Calls), .int .i64 (p3.2.Fail), .int .i64 (p3.2.Crash), .int .i64 (p3.2.Err)], ownR 78 A19_0 c19_0 T_limnographref18_File.rep p3.2.L] := hm19
        refine Rn.v rfl rfl rfl rfl (V.ldB Try.isAgg72 rfl (hm19.get 1 rfl) rfl) (Rn.v rfl rfl rfl rfl (V.mv rfl) ?_)
        obtain ⟨z21, e21, hM⟩ := bindE hM
        obtain ⟨kk21, ke21, kz21, kl21⟩ := idxE e21
        obtain ⟨g21, vs21, hA21, hR21, hrel21⟩ := hm19.ownAt 2 rfl kz21
        subst hA21
        obtain ⟨_, _, rfl, ⟨rfl, _⟩, ⟨_, _, rfl, ⟨A22, c22, rfl, p22, q22, s22⟩, ⟨rfl, _⟩⟩⟩ := hrel21
        have hm24 : Hp Z0 (LS [T_limnographref18_Disk.obj F0 b0 x0, slR A2 c2 byteR x2]) w w14 [slR A2 c2 byteR x2, boxR b0 74 [.slice (some ⟨g21, 0, none⟩) (p3.2.L).length c19_0, .int .i64 (p3.2.Capacity), .bool (p3.2.Down), .int .i64 (p3.2.Calls), .int .i64 (p3.2.Fail), .int .i64 (p3.2.Crash), .int .i64 (p3.2.Err)], ownR 78 (some ⟨g21, 0, none⟩) c19_0 T_limnographref18_File.rep p3.2.L, slR A22 c22 byteR z21.Data] := Hp.knowL [slR A22 c22 byteR z21.Data] _ hm19 (knC (fun _ h => h) ⟨p22, q22, s22⟩ kn0)
        refine Rn.v rfl rfl rfl rfl (V.ixE kk21 Try.underlying72 Try.sizeOf78 rfl rfl ke21 kl21) (Rn.v rfl rfl rfl rfl (V.ldA Try.isAgg78 Try.sizeOf78 rfl (Rd.pre hR21 3) rfl) (Rn.als rfl rfl rfl Try.zeroValue78 rfl Try.sizeOf78 rfl rfl rfl rfl (by first | exact ones rfl | (simp [Value.oneCell']; done)) ?_))
        intro b25 w25 hb25 m25 e25
        have hm27 : Hp Z0 (LS [T_limnographref18_Disk.obj F0 b0 x0, slR A2 c2 byteR x2]) w w25 [slR A2 c2 byteR x2, boxR b0 74 [.slice (some ⟨g21, 0, none⟩) (p3.2.L).length c19_0, .int .i64 (p3.2.Capacity), .bool (p3.2.Down), .int .i64 (p3.2.Calls), .int .i64 (p3.2.Fail), .int .i64 (p3.2.Crash), .int .i64 (p3.2.Err)], ownR 78 (some ⟨g21, 0, none⟩) c19_0 T_limnographref18_File.rep p3.2.L, slR A22 c22 byteR z21.Data, boxR b25 78 [Str (z21.Name), .slice A22 (z21.Data).length c22, .int .i64 (z21.Sure)]] := hm24.addBox hb25 e25 m25
        refine Rn.regEnd (Rn.seq (Rn.reg (Rn.v rfl rfl rfl rfl (V.mv rfl) (Rn.v rfl rfl rfl rfl (V.mv rfl) (Rn.v rfl rfl rfl rfl (V.fa Try.underlying78 rfl Try.sizeOf24 rfl rfl) (Rn.v rfl rfl rfl rfl (V.ldB Try.isAgg24 rfl (hm27.get 4 rfl) rfl) (Rn.v rfl rfl rfl rfl (V.b2s Try.underlying24 Try.underlying9 Try.underlying5 rfl rfl (hm27.get 3 rfl).2.2) (Rn.v rfl rfl rfl rfl (V.mv rfl) (Rn.v rfl rfl rfl rfl (V.b2s Try.underlying24 Try.underlying9 Try.underlying5 rfl rfl (hm27.get 0 rfl).2.2) ?_)))))))))
        obtain ⟨z28, e28, hM⟩ := bindE hM
        refine Rn.v rfl rfl rfl rfl (V.catZ rfl rfl e28) ?_
        obtain ⟨z29, e29, hM⟩ := bindE hM
        refine Rn.s2bH hm27 e29 rfl rfl rfl Try.underlying9 Try.underlying24 Try.underlying5 rfl ?_
        intro A29 c29 w29 hm29
        refine Rn.v rfl rfl rfl rfl (V.fa Try.underlying78 rfl Try.sizeOf3 rfl rfl) (Rn.v rfl rfl rfl rfl (V.ldB Try.isAgg3 rfl (hm29.get 4 rfl) rfl) (Rn.v rfl rfl rfl rfl (V.bldS st78 rfl rfl) ?_))
        have hm33 : Hp Z0 (LS [T_limnographref18_Disk.obj F0 b0 x0, slR A2 c2 byteR x2]) w w29 ([slR A2 c2 byteR x2, slR A22 c22 byteR z21.Data, boxR b25 78 [Str (z21.Name), .slice A22 (z21.Data).length c22, .int .i64 (z21.Sure)], slR A29 c29 byteR z29] ++ [boxR b0 74 [.slice (some ⟨g21, 0, none⟩) (p3.2.L).length c19_0, .int .i64 (p3.2.Capacity), .bool (p3.2.Down), .int .i64 (p3.2.Calls), .int .i64 (p3.2.Fail), .int .i64 (p3.2.Crash), .int .i64 (p3.2.Err)], ownR 78 (some ⟨g21, 0, none⟩) c19_0 T_limnographref18_File.rep p3.2.L]) := hm29.pick [0, 3, 4, 5, 1, 2] rfl (by decide)
        obtain ⟨F32, hm32⟩ := hm33.fold (T_limnographref18_Disk.sh b0 p3.2) ⟨(some ⟨g21, 0, none⟩), c19_0, rfl⟩
        replace hm32 : Hp Z0 (LS [T_limnographref18_Disk.obj F0 b0 x0, slR A2 c2 byteR x2]) w w29 [slR A2 c2 byteR x2, slR A22 c22 byteR z21.Data, boxR b25 78 [Str (z21.Name), .slice A22 (z21.Data).length c22, .int .i64 (z21.Sure)], slR A29 c29 byteR z29, T_limnographref18_Disk.obj F32 b0 p3.2] := hm32
        obtain ⟨p31, e31, hM⟩ := bindE hM
        have hm34 := hm32.know (relR T_limnographref18_File.rep [Str (x1), .slice A29 (z29).length c29, .int .i64 (z21.Sure)] ({ Name := x1, Data := z29, Sure := z21.Sure } : T_limnographref18_File)) (fun _ h => h) (show T_limnographref18_File.rep.rel _ _ _ _ from ⟨_, _, rfl, ⟨rfl, trivial⟩, ⟨_, _, rfl, ⟨_, _, rfl, (hm32.get 3 rfl).1, (hm32.get 3 rfl).2.1, (hm32.get 3 rfl).2.2⟩, ⟨rfl, trivial⟩⟩⟩)
        have hm36 : Hp Z0 (LS [T_limnographref18_Disk.obj F0 b0 x0, slR A2 c2 byteR x2]) w w29 ([slR A2 c2 byteR x2, slR A22 c22 byteR z21.Data, boxR b25 78 [Str (z21.Name), .slice A22 (z21.Data).length c22, .int .i64 (z21.Sure)], slR A29 c29 byteR z29] ++ [T_limnographref18_Disk.obj F32 b0 p3.2, relR T_limnographref18_File.rep [Str (x1), .slice A29 (z29).length c29, .int .i64 (z21.Sure)] ({ Name := x1, Data := z29, Sure := z21.Sure } : T_limnographref18_File)]) := hm34.pick [0, 1, 2, 3, 4, 5] rfl (by decide)
        refine Rn.cl ck32 rfl rfl rfl rfl (m_limnographref18_Disk_put_sim (Z0 := _) _ F32 b0 p3.2 ({ Name := x1, Data := z29, Sure := z21.Sure } : T_limnographref18_File) [Str (x1), .slice A29 (z29).length c29, .int .i64 (z21.Sure)] hm36.lend e31) ?_
        rintro _ w31 ⟨F31_p0, rfl, hq31⟩
        refine ⟨_, rfl, ?_⟩
        have hm38 : Hp Z0 (LS [T_limnographref18_Disk.obj F0 b0 x0, slR A2 c2 byteR x2]) w w31 [slR A2 c2 byteR x2, slR A22 c22 byteR z21.Data, boxR b25 78 [Str (z21.Name), .slice A22 (z21.Data).length c22, .int .i64 (z21.Sure)], slR A29 c29 byteR z29, T_limnographref18_Disk.obj F31_p0 b0 p31] := hm36.callAZ hq31
        refine Rn.regEnd (Rn.seq (Rn.reg (Rn.v rfl rfl rfl rfl (V.as rfl) (Rn.regEnd ?_))))
        refine Rn.retG1 Try.func34 rfl (rvT rfl) ?_
        obtain rfl := someE hM
        exact ⟨F31_p0, rfl, hm38.pick [4] rfl (by decide)⟩

set_option maxRecDepth 20000 in
theorem m_limnographref18_Disk_Sync_sim {Z0 : Nat → Prop} (w : World) (F0 : Nat → Prop) (b0 : Nat) (x0 : T_limnographref18_Disk) (x1 : (List UInt8)) {r : (Int × T_limnographref18_Disk)} (hL : Lent Z0 w [T_limnographref18_Disk.obj F0 b0 x0]) (hM : m_limnographref18_Disk_Sync x0 x1 = some r) :
    Calls Try.prog 35 #[.pointer (some ⟨b0, 0, none⟩), Str (x1)] w fun x w' => ∃ F_p0, x = .returned (.int .i64 (r.1)) ∧ Hp Z0 (LS [T_limnographref18_Disk.obj F0 b0 x0]) w w' [T_limnographref18_Disk.obj F_p0 b0 r.2] := by
  have hm0 := hL.start
  refine Rn.enter Try.func35 rfl rfl (Nat.le_of_ble_eq_true rfl) ?_
  refine Rn.seq (Rn.reg (Rn.v rfl rfl rfl rfl (V.as rfl) (Rn.regEnd (Rn.seq (Rn.seq (Rn.reg (Rn.v rfl rfl rfl rfl (V.mv rfl) ?_)))))))
  obtain ⟨p2, e2, hM⟩ := bindE hM
  have hm3 : Hp Z0 (LS [T_limnographref18_Disk.obj F0 b0 x0]) w w ([] ++ [T_limnographref18_Disk.obj F0 b0 x0]) := hm0.pick [0] rfl (by decide)
  refine Rn.cl ck52 rfl rfl rfl rfl (m_limnographref18_Disk_begin_sim (Z0 := _) _ F0 b0 x0 hm3.lend e2) ?_
  rintro _ w2 ⟨F2_p0, rfl, hq2⟩
  refine ⟨_, rfl, ?_⟩
  have hm5 : Hp Z0 (LS [T_limnographref18_Disk.obj F0 b0 x0]) w w2 [T_limnographref18_Disk.obj F2_p0 b0 p2.2] := hm3.callAZ hq2
  refine Rn.v rfl rfl rfl rfl (V.as rfl) (Rn.regEnd (Rn.seq (Rn.reg (Rn.v rfl rfl rfl rfl (V.mv rfl) (Rn.v rfl rfl rfl rfl (V.neq rfl rfl) (Rn.regEnd ?_))))))
  refine Rn.condD rfl (fun h6 => ?_) (fun h6 => ?_)
  · replace hM := iteT h6 hM
    refine Rn.seq (Rn.reg (Rn.v rfl rfl rfl rfl (V.mv rfl) (Rn.v rfl rfl rfl rfl (V.as rfl) (Rn.regEnd ?_))))
    refine Rn.retG1 Try.func35 rfl (rvT rfl) ?_
    obtain rfl := someE hM
    exact ⟨F2_p0, rfl, hm5.pick [0] rfl (by decide)⟩
  · replace hM := iteF h6 hM
    refine Rn.skip (Rn.seq (Rn.reg (Rn.v rfl rfl rfl rfl (V.mv rfl) (Rn.v rfl rfl rfl rfl (V.mv rfl) ?_))))
    obtain ⟨p7, e7, hM⟩ := bindE hM
    refine Rn.cl ck30 rfl rfl rfl rfl (m_limnographref18_Disk_Find_sim (Z0 := All) _ F2_p0 b0 p2.2 x1 (fz_all (hm5.get 0 rfl)) e7) ?_
    rintro _ w7 ⟨rfl, hq7⟩
    refine ⟨_, rfl, ?_⟩
    have hm8 := hm5.call0 hq7
    refine Rn.v rfl rfl rfl rfl (V.as rfl) (Rn.regEnd (Rn.seq (Rn.seq (Rn.reg (Rn.v rfl rfl rfl rfl (V.mv rfl) (Rn.v rfl rfl rfl rfl (V.lss rfl rfl) (Rn.regEnd ?_)))))))
    refine Rn.condD rfl (fun h9 => ?_) (fun h9 => ?_)
    · replace hM := iteT h9 hM
      refine Rn.seq (Rn.reg (Rn.v rfl rfl rfl rfl (V.as rfl) (Rn.regEnd ?_)))
      refine Rn.retG1 Try.func35 rfl (rvT rfl) ?_
      obtain rfl := someE hM
      exact ⟨F2_p0, rfl, hm8.pick [0] rfl (by decide)⟩
    · replace hM := iteF h9 hM
      refine Rn.skip (Rn.seq (Rn.reg (Rn.v rfl rfl rfl rfl (V.mv rfl) (Rn.v rfl rfl rfl rfl (V.nil rfl) (Rn.v rfl rfl rfl rfl (V.fa Try.underlying74 rfl Try.sizeOf72 rfl rfl) ?_)))))
      obtain ⟨_, ⟨A10_0, c10_0, rfl⟩, hm10⟩ := hm8.unf 0 rfl
      replace hm10 : Hp Z0 (LS [T_limnographref18_Disk.obj F0 b0 x0]) w w7 [boxR b0 74 [.slice A10_0 (p2.2.L).length c10_0, .int .i64 (p2.2.Capacity), .bool (p2.2.Down), .int .i64 (p2.2.Calls), .int .i64 (p2.2.Fail), .int .i64 (p2.2.Crash), .int .i64 (p2.2.Err)], ownR 78 A10_0 c10_0 T_limnographref18_File.rep p2.2.L] := hm10
      refine Rn.v rfl rfl rfl rfl (V.ldB Try.isAgg72 rfl (hm10.get 0 rfl) rfl) (Rn.v rfl rfl rfl rfl (V.mv rfl) ?_)
      obtain ⟨z12, e12, hM⟩ := bindE hM
      obtain ⟨kk12, ke12, kz12, kl12⟩ := idxE e12
      obtain ⟨g12, vs12, hA12, hR12, hrel12⟩ := hm10.ownAt 1 rfl kz12
      subst hA12
      obtain ⟨_, _, rfl, ⟨rfl, _⟩, ⟨_, _, rfl, ⟨A13, c13, rfl, p13, q13, s13⟩, ⟨rfl, _⟩⟩⟩ := hrel12
      have hm15 : Hp Z0 (LS [T_limnographref18_Disk.obj F0 b0 x0]) w w7 [boxR b0 74 [.slice (some ⟨g12, 0, none⟩) (p2.2.L).length c10_0, .int .i64 (p2.2.Capacity), .bool (p2.2.Down), .int .i64 (p2.2.Calls), .int .i64 (p2.2.Fail), .int .i64 (p2.2.Crash), .int .i64 (p2.2.Err)], ownR 78 (some ⟨g12, 0, none⟩) c10_0 T_limnographref18_File.rep p2.2.L, slR A13 c13 byteR z12.Data] := Hp.knowL [slR A13 c13 byteR z12.Data] _ hm10 (knC (fun _ h => h) ⟨p13, q13, s13⟩ kn0)
      refine Rn.v rfl rfl rfl rfl (V.ixE kk12 Try.underlying72 Try.sizeOf78 rfl rfl ke12 kl12) (Rn.v rfl rfl rfl rfl (V.ldA Try.isAgg78 Try.sizeOf78 rfl (Rd.pre hR12 3) rfl) (Rn.als rfl rfl rfl Try.zeroValue78 rfl Try.sizeOf78 rfl rfl rfl rfl (by first | exact ones rfl | (simp [Value.oneCell']; done)) ?_))
      intro b16 w16 hb16 m16 e16
      have hm18 : Hp Z0 (LS [T_limnographref18_Disk.obj F0 b0 x0]) w w16 [boxR b0 74 [.slice (some ⟨g12, 0, none⟩) (p2.2.L).length c10_0, .int .i64 (p2.2.Capacity), .bool (p2.2.Down), .int .i64 (p2.2.Calls), .int .i64 (p2.2.Fail), .int .i64 (p2.2.Crash), .int .i64 (p2.2.Err)], ownR 78 (some ⟨g12, 0, none⟩) c10_0 T_limnographref18_File.rep p2.2.L, slR A13 c13 byteR z12.Data, boxR b16 78 [Str (z12.Name), .slice A13 (z12.Data).length c13, .int .i64 (z12.Sure)]] := hm15.addBox hb16 e16 m16
      refine Rn.regEnd (Rn.seq (Rn.reg (Rn.v rfl rfl rfl rfl (V.mv rfl) (Rn.v rfl rfl rfl rfl (V.mv rfl) (Rn.v rfl rfl rfl rfl (V.fa Try.underlying78 rfl Try.sizeOf24 rfl rfl) (Rn.v rfl rfl rfl rfl (V.ldB Try.isAgg24 rfl (hm18.get 3 rfl) rfl) (Rn.v rfl rfl rfl rfl (V.fa Try.underlying78 rfl Try.sizeOf24 rfl rfl) (Rn.v rfl rfl rfl rfl (V.ldB Try.isAgg24 rfl (hm18.get 3 rfl) rfl) (Rn.v rfl rfl rfl rfl (V.lenV Try.underlying24 rfl) (Rn.v rfl rfl rfl rfl (V.bldS st78 rfl rfl) ?_))))))))))
      have hm21 : Hp Z0 (LS [T_limnographref18_Disk.obj F0 b0 x0]) w w16 ([slR A13 c13 byteR z12.Data, boxR b16 78 [Str (z12.Name), .slice A13 (z12.Data).length c13, .int .i64 (z12.Sure)]] ++ [boxR b0 74 [.slice (some ⟨g12, 0, none⟩) (p2.2.L).length c10_0, .int .i64 (p2.2.Capacity), .bool (p2.2.Down), .int .i64 (p2.2.Calls), .int .i64 (p2.2.Fail), .int .i64 (p2.2.Crash), .int .i64 (p2.2.Err)], ownR 78 (some ⟨g12, 0, none⟩) c10_0 T_limnographref18_File.rep p2.2.L]) := hm18.pick [2, 3, 0, 1] rfl (by decide)
      obtain ⟨F20, hm20⟩ := hm21.fold (T_limnographref18_Disk.sh b0 p2.2) ⟨(some ⟨g12, 0, none⟩), c10_0, rfl⟩
      replace hm20 : Hp Z0 (LS [T_limnographref18_Disk.obj F0 b0 x0]) w w16 [slR A13 c13 byteR z12.Data, boxR b16 78 [Str (z12.Name), .slice A13 (z12.Data).length c13, .int .i64 (z12.Sure)], T_limnographref18_Disk.obj F20 b0 p2.2] := hm20
      obtain ⟨p19, e19, hM⟩ := bindE hM
      have hm22 := hm20.know (relR T_limnographref18_File.rep [Str (x1), .slice A13 (z12.Data).length c13, .int .i64 ((z12.Data.length : Int))] ({ Name := x1, Data := z12.Data, Sure := (z12.Data.length : Int) } : T_limnographref18_File)) (fun _ h => h) (show T_limnographref18_File.rep.rel _ _ _ _ from ⟨_, _, rfl, ⟨rfl, trivial⟩, ⟨_, _, rfl, ⟨_, _, rfl, (hm20.get 0 rfl).1, (hm20.get 0 rfl).2.1, (hm20.get 0 rfl).2.2⟩, ⟨rfl, trivial⟩⟩⟩)
      have hm24 : Hp Z0 (LS [T_limnographref18_Disk.obj F0 b0 x0]) w w16 ([slR A13 c13 byteR z12.Data, boxR b16 78 [Str (z12.Name), .slice A13 (z12.Data).length c13, .int .i64 (z12.Sure)]] ++ [T_limnographref18_Disk.obj F20 b0 p2.2, relR T_limnographref18_File.rep [Str (x1), .slice A13 (z12.Data).length c13, .int .i64 ((z12.Data.length : Int))] ({ Name := x1, Data := z12.Data, Sure := (z12.Data.length : Int) } : T_limnographref18_File)]) := hm22.pick [0, 1, 2, 3] rfl (by decide)
      refine Rn.cl ck32 rfl rfl rfl rfl (m_limnographref18_Disk_put_sim (Z0 := _) _ F20 b0 p2.2 ({ Name := x1, Data := z12.Data, Sure := (z12.Data.length : Int) } : T_limnographref18_File) [Str (x1), .slice A13 (z12.Data).length c13, .int .i64 ((z12.Data.length : Int))] hm24.lend e19) ?_
      rintro _ w19 ⟨F19_p0, rfl, hq19⟩
      refine ⟨_, rfl, ?_⟩
      have hm26 : Hp Z0 (LS [T_limnographref18_Disk.obj F0 b0 x0]) w w19 [slR A13 c13 byteR z12.Data, boxR b16 78 [Str (z12.Name), .slice A13 (z12.Data).length c13, .int .i64 (z12.Sure)], T_limnographref18_Disk.obj F19_p0 b0 p19] := hm24.callAZ hq19
      refine Rn.regEnd (Rn.seq (Rn.reg (Rn.v rfl rfl rfl rfl (V.as rfl) (Rn.regEnd ?_))))
      refine Rn.retG1 Try.func35 rfl (rvT rfl) ?_
      obtain rfl := someE hM
      exact ⟨F19_p0, rfl, hm26.pick [2] rfl (by decide)⟩

set_option maxRecDepth 20000 in
theorem m_disk_Disk_Cut_sim {Z0 : Nat → Prop} (w : World) (F0 : Nat → Prop) (b0 : Nat) (x0 : PD) (x1 : (List UInt8)) (x2 : Int) {r : (Int × PD)} (hL : Lent Z0 w [diskO 59 64 5 F0 b0 x0]) (hM : m_disk_Disk_Cut x0 x1 x2 = some r) :
    Calls Try.prog 36 #[.pointer (some ⟨b0, 0, none⟩), Str (x1), .int .i64 (x2)] w fun x w' => ∃ F_p0, x = .returned (.int .i64 (r.1)) ∧ Hp Z0 (LS [diskO 59 64 5 F0 b0 x0]) w w' [diskO 59 64 5 F_p0 b0 r.2] := by
  unfold m_disk_Disk_Cut at hM
  split at hM
  · rename_i hg
    obtain rfl := someE hM
    have hd : DkAt 59 64 5 w b0 F0 x0 := hL.1 0 _ rfl
    refine (cut_spec x1 x2 w hg hd).mono ?_
    rintro x w' ⟨rfl, F', d, hx, hF⟩
    exact ⟨F', rfl, hL.turn1 hx hF fun _ => d⟩
  · cases hM

end Go.Proofs.Ytboelmiicbcjiaa
