/-
  The calls of functions of the program answer as their plain forms say, part 1. Printed by a program.
-/
import Derived.Test.YtjadbkfodoodaaaRows
import Derived.Test.YtjadbkfodoodaaaMA
namespace Go.Proofs.Ytjadbkfodoodaaa
open Go Go.RowKit Go.Wk
theorem ck7 : CallOk Try.prog 7 := ⟨_, _, Try.func7, rfl, by kernel_rfl⟩
theorem ck8 : CallOk Try.prog 8 := ⟨_, _, Try.func8, rfl, by kernel_rfl⟩
theorem ck9 : CallOk Try.prog 9 := ⟨_, _, Try.func9, rfl, by kernel_rfl⟩
theorem ck10 : CallOk Try.prog 10 := ⟨_, _, Try.func10, rfl, by kernel_rfl⟩
theorem ck11 : CallOk Try.prog 11 := ⟨_, _, Try.func11, rfl, by kernel_rfl⟩
theorem ck12 : CallOk Try.prog 12 := ⟨_, _, Try.func12, rfl, by kernel_rfl⟩
theorem ck13 : CallOk Try.prog 13 := ⟨_, _, Try.func13, rfl, by kernel_rfl⟩
theorem ck14 : CallOk Try.prog 14 := ⟨_, _, Try.func14, rfl, by kernel_rfl⟩
theorem ck15 : CallOk Try.prog 15 := ⟨_, _, Try.func15, rfl, by kernel_rfl⟩
theorem ck16 : CallOk Try.prog 16 := ⟨_, _, Try.func16, rfl, by kernel_rfl⟩
theorem ck17 : CallOk Try.prog 17 := ⟨_, _, Try.func17, rfl, by kernel_rfl⟩
theorem ck18 : CallOk Try.prog 18 := ⟨_, _, Try.func18, rfl, by kernel_rfl⟩
theorem ck19 : CallOk Try.prog 19 := ⟨_, _, Try.func19, rfl, by kernel_rfl⟩
theorem ck20 : CallOk Try.prog 20 := ⟨_, _, Try.func20, rfl, by kernel_rfl⟩
theorem ck21 : CallOk Try.prog 21 := ⟨_, _, Try.func21, rfl, by kernel_rfl⟩
theorem ck22 : CallOk Try.prog 22 := ⟨_, _, Try.func22, rfl, by kernel_rfl⟩
theorem ck23 : CallOk Try.prog 23 := ⟨_, _, Try.func23, rfl, by kernel_rfl⟩
theorem ck24 : CallOk Try.prog 24 := ⟨_, _, Try.func24, rfl, by kernel_rfl⟩
theorem ck25 : CallOk Try.prog 25 := ⟨_, _, Try.func25, rfl, by kernel_rfl⟩
theorem ck26 : CallOk Try.prog 26 := ⟨_, _, Try.func26, rfl, by kernel_rfl⟩
theorem ck27 : CallOk Try.prog 27 := ⟨_, _, Try.func27, rfl, by kernel_rfl⟩
theorem ck28 : CallOk Try.prog 28 := ⟨_, _, Try.func28, rfl, by kernel_rfl⟩
theorem ck29 : CallOk Try.prog 29 := ⟨_, _, Try.func29, rfl, by kernel_rfl⟩
theorem ck30 : CallOk Try.prog 30 := ⟨_, _, Try.func30, rfl, by kernel_rfl⟩
theorem ck31 : CallOk Try.prog 31 := ⟨_, _, Try.func31, rfl, by kernel_rfl⟩
theorem ck32 : CallOk Try.prog 32 := ⟨_, _, Try.func32, rfl, by kernel_rfl⟩
theorem ck33 : CallOk Try.prog 33 := ⟨_, _, Try.func33, rfl, by kernel_rfl⟩
theorem ck34 : CallOk Try.prog 34 := ⟨_, _, Try.func34, rfl, by kernel_rfl⟩
theorem ck35 : CallOk Try.prog 35 := ⟨_, _, Try.func35, rfl, by kernel_rfl⟩
theorem ck36 : CallOk Try.prog 36 := ⟨_, _, Try.func36, rfl, by kernel_rfl⟩
theorem ck37 : CallOk Try.prog 37 := ⟨_, _, Try.func37, rfl, by kernel_rfl⟩
theorem ck38 : CallOk Try.prog 38 := ⟨_, _, Try.func38, rfl, by kernel_rfl⟩
theorem ck39 : CallOk Try.prog 39 := ⟨_, _, Try.func39, rfl, by kernel_rfl⟩
theorem ck40 : CallOk Try.prog 40 := ⟨_, _, Try.func40, rfl, by kernel_rfl⟩
theorem ck41 : CallOk Try.prog 41 := ⟨_, _, Try.func41, rfl, by kernel_rfl⟩
theorem ck42 : CallOk Try.prog 42 := ⟨_, _, Try.func42, rfl, by kernel_rfl⟩
theorem ck44 : CallOk Try.prog 44 := ⟨_, _, Try.func44, rfl, by kernel_rfl⟩
theorem ck45 : CallOk Try.prog 45 := ⟨_, _, Try.func45, rfl, by kernel_rfl⟩
theorem ck46 : CallOk Try.prog 46 := ⟨_, _, Try.func46, rfl, by kernel_rfl⟩
theorem ck47 : CallOk Try.prog 47 := ⟨_, _, Try.func47, rfl, by kernel_rfl⟩
theorem ck48 : CallOk Try.prog 48 := ⟨_, _, Try.func48, rfl, by kernel_rfl⟩
theorem ck52 : CallOk Try.prog 52 := ⟨_, _, Try.func52, rfl, by kernel_rfl⟩
theorem st35 : StOk Try.prog 35 [Str [], .slice none 0 0, .int .i64 0, .int .i64 0] [(0, 1), (1, 1), (2, 1), (3, 1)] := ⟨Try.zeroValue35, _, Try.underlying35, fun w => by kernel_rfl⟩
theorem st40 : StOk Try.prog 40 [Str [], Str []] [(0, 1), (1, 1)] := ⟨Try.zeroValue40, _, Try.underlying40, fun w => by kernel_rfl⟩
theorem el5 : ElOk Try.prog 5 1 1 := elOk_of (by kernel_rfl) (by decide)
theorem el40 : ElOk Try.prog 40 2 32 := elOk_of (by kernel_rfl) (by decide)
set_option maxRecDepth 20000 in
theorem clone_25 {Z0 : Nat → Prop} (w : World) (A : Option Addr) (c : Nat) (l : List T_api_Pair) {r : List T_api_Pair} (h : (slR A c T_api_Pair.rep l).H Z0 w) (hM : appL [] l = some r) :
    Calls Try.prog 25 #[.slice A l.length c] w fun x w' => ∃ A' c', x = .returned (.slice A' r.length c') ∧ Hp Z0 No w w' [ownR 40 A' c' T_api_Pair.rep r] := by
  have hm0 := Hp.nil Z0 No w
  have hm1 := hm0.know (slR A c T_api_Pair.rep l) (fun _ h => h) (hm0.in0 Calm.nil h)
  refine Rn.enter Try.func25 rfl rfl (Nat.le_of_ble_eq_true rfl) ?_
  refine Rn.seq (Rn.reg (Rn.v rfl rfl rfl rfl (V.as rfl) (Rn.regEnd (Rn.seq (Rn.seq (Rn.reg (Rn.v rfl rfl rfl rfl (V.mv rfl) (Rn.v rfl rfl rfl rfl (V.eqlV Try.underlying22 rfl rfl) (Rn.regEnd ?_)))))))))
  cases A with
  | none =>
    obtain rfl := clone_get h
    obtain ⟨_, rfl⟩ := appE hM
    refine Rn.condT rfl (Rn.seq (Rn.reg (Rn.v rfl rfl rfl rfl (V.as rfl) (Rn.regEnd ?_))))
    refine Rn.retG1 Try.func25 rfl (rvT rfl) ?_
    exact ⟨none, 0, rfl, (hm0.addNil 40 T_api_Pair.rep)⟩
  | some a =>
    refine Rn.condF rfl (Rn.skip (Rn.seq (Rn.reg ?_)))
    refine Rn.bslS (ps := []) (us := []) rfl rfl rfl Try.underlying22 el40 rfl rfl rfl rfl (by simp) (by decide) ?_
    intro b2 w2 hb2 m2 e2
    have hm2 := hm1.addLit (rep := T_api_Pair.rep) (xs := ([] : List T_api_Pair)) (vss := []) hb2 e2 m2 rfl rfl rfl rels0
    refine Rn.v rfl rfl rfl rfl (V.mv rfl) (Rn.appH hm2 1 rfl hM rfl rfl rfl Try.underlying22 el40 rfl rfl rfl rfl (hm2.src 0 rfl) ?_)
    intro A3 c3 w3 hm3
    refine Rn.v rfl rfl rfl rfl (V.as rfl) (Rn.regEnd ?_)
    refine Rn.retG1 Try.func25 rfl (rvT rfl) ?_
    exact ⟨A3, c3, rfl, hm3.pick [1] rfl (by decide)⟩

set_option maxRecDepth 20000 in
theorem bld_copy (b : Nat) (p : Option Addr) (v : Value) (w : World) (hp : p = none ∨ p = some ⟨b, 0, none⟩) (hB : Blk w b 44 [.pointer p, v]) :
    Calls Try.prog 36 #[.pointer (some ⟨b, 0, none⟩)] w fun x w' => x = .returned (.tuple #[]) ∧ Blk w' b 44 [.pointer (some ⟨b, 0, none⟩), v] ∧ Fr (fun x => x = b) w w' := by
  have hsz : (Try.prog.info? 44).map (·.size) = some 2 := by kernel_rfl
  obtain ⟨j, hj, hjs0⟩ := Option.map_eq_some_iff.1 hsz
  have hjs : j.size ≠ 0 := by rw [hjs0]; decide
  refine Rn.enter Try.func36 rfl rfl (Nat.le_of_ble_eq_true rfl) ?_
  refine Rn.seq (Rn.reg (Rn.v rfl rfl rfl rfl (V.mv rfl) (Rn.v rfl rfl rfl rfl (V.nil rfl) (Rn.v rfl rfl rfl rfl (V.fa Try.underlying44 rfl Try.sizeOf41 rfl rfl) (Rn.v rfl rfl rfl rfl (V.ldB Try.isAgg41 rfl hB rfl) (Rn.v rfl rfl rfl rfl (V.eqlP Try.underlying41 rfl rfl) (Rn.regEnd ?_)))))))
  rcases hp with rfl | rfl
  refine Rn.condT rfl (Rn.reg (Rn.v rfl rfl rfl rfl (V.mv rfl) (Rn.v rfl rfl rfl rfl (V.mv rfl) (Rn.v rfl rfl rfl rfl (V.toUns Try.underlying41 Try.underlying67 hj hjs rfl hB (by simp)) (Rn.v rfl rfl rfl rfl (V.noEsc Try.func43 (by kernel_rfl) (by kernel_rfl) (by kernel_rfl) (by kernel_rfl) rfl) (Rn.v rfl rfl rfl rfl (V.fromUns Try.underlying67 Try.underlying41 hj rfl hB (by kernel_rfl)) (Rn.v rfl rfl rfl rfl (V.nil rfl) (Rn.v rfl rfl rfl rfl (V.fa Try.underlying44 rfl Try.sizeOf41 rfl rfl) (Rn.st rfl rfl Try.sizeOf41 rfl rfl rfl rfl (by first | exact ones rfl | (simp [Value.oneCell']; done)) hB (by first | exact Nat.le_of_ble_eq_true rfl | (simp; done)) ?_)))))))))
  intro w1 m1 x1
  have e1 : Fr (fun x => x = b) w w1 := ((Fr.refl _ _)).trans' x1 (fun x hx => by first | exact .inl hx | exact .inr (by subst hx; omega))
  refine Rn.regEnd ?_
  refine Rn.end0 Try.func36 rfl ?_
  exact ⟨rfl, m1, x1⟩
  refine Rn.condF rfl (Rn.seq (Rn.reg (Rn.v rfl rfl rfl rfl (V.mv rfl) (Rn.v rfl rfl rfl rfl (V.nil rfl) (Rn.v rfl rfl rfl rfl (V.fa Try.underlying44 rfl Try.sizeOf41 rfl rfl) (Rn.v rfl rfl rfl rfl (V.ldB Try.isAgg41 rfl hB rfl) (Rn.v rfl rfl rfl rfl (V.mv rfl) (Rn.v rfl rfl rfl rfl (V.neqSame Try.underlying41 hj rfl rfl) (Rn.regEnd (Rn.condF rfl (Rn.skip ?_)))))))))))
  refine Rn.end0 Try.func36 rfl ?_
  exact ⟨rfl, hB, Fr.refl _ _⟩

set_option maxRecDepth 20000 in
theorem bld_ws {Z0 : Nat → Prop} (w : World) (b : Nat) (A : Option Addr) (c : Nat) (l s : List UInt8) {z : List UInt8} (hL : Lent Z0 w [bldR 44 5 b A c l]) (hz : appL l s = some z) :
    Calls Try.prog 19 #[.pointer (some ⟨b, 0, none⟩), Str s] w fun x w' => ∃ A' c', x = .returned (.tuple #[.int .i64 s.length, .nilIface]) ∧ Hp Z0 (LS [bldR 44 5 b A c l]) w w' [bldR 44 5 b A' c' z] := by
  obtain ⟨hle, rfl⟩ := appE hz
  have hm0 := hL.start
  obtain ⟨p, hp, hB, hO, hne, hnil⟩ := hm0.get 0 rfl
  refine Rn.enter Try.func19 rfl rfl (Nat.le_of_ble_eq_true rfl) ?_
  refine Rn.seq (Rn.reg (Rn.v rfl rfl rfl rfl (V.as rfl) (Rn.v rfl rfl rfl rfl (V.as rfl) (Rn.regEnd (Rn.seq (Rn.reg (Rn.v rfl rfl rfl rfl (V.mv rfl) (Rn.cl ck36 rfl rfl rfl rfl (bld_copy b p _ _ hp hB) ?_))))))))
  rintro _ w1 ⟨rfl, mB1, x1⟩
  have e1 : Fr (fun x => x = b ∨ ob A x) w w1 := ((Fr.refl _ _)).trans' x1 (fun x hx => by first | exact .inl (.inl hx) | exact .inl (.inr hx))
  refine ⟨_, rfl, ?_⟩
  refine Rn.regEnd (Rn.seq (Rn.reg (Rn.v rfl rfl rfl rfl (V.mv rfl) (Rn.v rfl rfl rfl rfl (V.mv rfl) (Rn.v rfl rfl rfl rfl (V.nil rfl) (Rn.v rfl rfl rfl rfl (V.fa Try.underlying44 rfl Try.sizeOf42 rfl rfl) (Rn.v rfl rfl rfl rfl (V.ldB Try.isAgg42 rfl mB1 rfl) (Rn.v rfl rfl rfl rfl (V.mv rfl) ?_))))))))
  have hO2 := hO.fr x1 (fun _ h => h.elim) (fun x hx hh => hne (hh ▸ hx))
  refine Rn.appS rfl rfl rfl Try.underlying42 Try.underlying9 el5 rfl rfl hO2 hle ?_
  intro A2 c2 w2 o2 x2 q2 n2
  have e2 : Fr (fun x => x = b ∨ ob A x) w w2 := (e1).trans' x2 (fun x hx => by first | exact .inl (.inl hx) | exact .inl (.inr hx))
  refine Rn.v rfl rfl rfl rfl (V.nil rfl) (Rn.v rfl rfl rfl rfl (V.fa Try.underlying44 rfl Try.sizeOf42 rfl rfl) (Rn.st rfl rfl Try.sizeOf42 rfl rfl rfl rfl (by first | exact ones rfl | (simp [Value.oneCell']; done)) (mB1.fr x2 hne) (by first | exact Nat.le_of_ble_eq_true rfl | (simp; done)) ?_))
  intro w3 m3 x3
  have e3 : Fr (fun x => x = b ∨ ob A x) w w3 := (e2).trans' x3 (fun x hx => by first | exact .inl (.inl hx) | exact .inl (.inr hx))
  refine Rn.regEnd (Rn.seq (Rn.reg (Rn.v rfl rfl rfl rfl (V.mv rfl) (Rn.v rfl rfl rfl rfl (V.lenS Try.underlying9 rfl) (Rn.v rfl rfl rfl rfl (V.as rfl) (Rn.v rfl rfl rfl rfl (V.as rfl) (Rn.regEnd ?_)))))))
  refine Rn.ret2 Try.func19 rfl rfl rfl ?_
  have hsz := x1.size
  have hlt := mB1.lt
  have hnb : ¬ ob A2 b := fun hh => by rcases q2 b hh with h | h; exact hne h; omega
  exact ⟨A2, c2, rfl, hm0.upd 0 (bldR 44 5 b A2 c2 (l ++ s)) rfl (((x1.mono fun y hy => .inl hy).trans (x2.mono fun y hy => .inr hy)).trans (x3.mono fun y hy => .inl hy)) (fun x hx => by rcases hx with hx | hx; exact .inl (.inl hx); rcases q2 x hx with h | h; exact .inl (.inr h); exact .inr (by omega)) (fun _ _ _ => ⟨_, .inr rfl, m3, o2.fr x3 (fun _ h => h.elim) (fun x hx hh => hnb (hh ▸ hx)), hnb, fun h => n2 h (hnil (List.append_eq_nil_iff.1 h).1)⟩)⟩

set_option maxRecDepth 20000 in
theorem bld_str {Z0 : Nat → Prop} (w : World) (b : Nat) (A : Option Addr) (c : Nat) (l : List UInt8) (hL : Lent Z0 w [bldR 44 5 b A c l]) :
    Calls Try.prog 20 #[.pointer (some ⟨b, 0, none⟩)] w fun x w' => x = .returned (Str l) ∧ Hp Z0 (LS [bldR 44 5 b A c l]) w w' [] := by
  have hm0 := hL.start.ext (Ext.drew w)
  obtain ⟨p, hp, hB, hO, hne, hnil⟩ := hm0.get 0 rfl
  refine Rn.enter Try.func20 rfl rfl (Nat.le_of_ble_eq_true rfl) ?_
  refine Rn.seq (Rn.reg (Rn.v rfl rfl rfl rfl (V.as rfl) (Rn.regEnd (Rn.seq ?_))))
  refine Rn.draw (fun w' => Blk w' b 44 [.pointer p, .slice A l.length c]) rfl hB ?_
  refine RH.take 0 (by kernel_rfl) rfl rfl rfl rfl (fun w' hDr => V.mv rfl) ?_
  refine RH.take 1 (by kernel_rfl) rfl rfl rfl rfl (fun w' hDr => V.nil rfl) ?_
  refine RH.take 2 (by kernel_rfl) rfl rfl rfl rfl (fun w' hDr => V.fa Try.underlying44 rfl Try.sizeOf42 rfl rfl) ?_
  refine RH.take 3 (by kernel_rfl) rfl rfl rfl rfl (fun w' hDr => V.ldB Try.isAgg42 rfl hDr rfl) ?_
  refine RH.take 4 (by kernel_rfl) rfl rfl rfl rfl (fun w' hDr => uData rfl hO hnil w') ?_
  refine RH.take 5 (by kernel_rfl) rfl rfl rfl rfl (fun w' hDr => V.mv rfl) ?_
  refine RH.take 6 (by kernel_rfl) rfl rfl rfl rfl (fun w' hDr => V.nil rfl) ?_
  refine RH.take 7 (by kernel_rfl) rfl rfl rfl rfl (fun w' hDr => V.fa Try.underlying44 rfl Try.sizeOf42 rfl rfl) ?_
  refine RH.take 8 (by kernel_rfl) rfl rfl rfl rfl (fun w' hDr => V.ldB Try.isAgg42 rfl hDr rfl) ?_
  refine RH.take 9 (by kernel_rfl) rfl rfl rfl rfl (fun w' hDr => V.lenV Try.underlying42 rfl) ?_
  obtain ⟨w2, hr, hF⟩ := uStr_run (P := Try.prog) (ty := 9) (pt := 62) (it := 3) Try.underlying62 (by kernel_rfl : Try.prog.cellsOf 5 = 1) hO hnil
  refine RH.one 10 (by kernel_rfl) rfl rfl rfl rfl (V.uStr hr rfl rfl) (hB.fr hF hne) ?_
  refine RH.take 11 (by kernel_rfl) rfl rfl rfl rfl (fun w' hDr => V.as rfl) ?_
  refine RH.doneP (by kernel_rfl) ?_
  refine Rn.retG1 Try.func20 rfl (rvT rfl) ?_
  exact ⟨rfl, hm0.end1 (hF.mono fun y hy => .inr hy)⟩

theorem eq40 (a b : T_api_Pair) (w : World) : (Op.equalIn 10000 40 (.agg [Str (a.Key), Str (a.Val)].toArray) (.agg [Str (b.Key), Str (b.Val)].toArray)).run Try.prog w = .ok (decide (a = b)) w := by
  have hf : Try.prog.underlying 40 = some (.struct (Try.prog.fieldsOf 40)) := by kernel_rfl
  rw [run_equalIn_struct w 9999 40 _ _ hf Try.stoodInHeld40]
  have hu := Try.underlying40
  rw [hf] at hu
  have hfs := TypeDesc.struct.inj (Option.some.inj hu)
  rw [hfs]
  have q9 : ∀ a b : List UInt8, (Op.equalIn 9999 9 (Str a) (Str b)).run Try.prog w = .ok (decide (a = b)) w := fun a b => by
    have h := run_equalIn_string (P := Try.prog) w 9998 9 ⟨a.toArray⟩ ⟨b.toArray⟩ Try.underlying9
    rw [h]; congr 1; simp only [ByteArray.toList_mk]; by_cases hab : a = b <;> simp [hab]
  obtain ⟨a0, a1⟩ := a
  obtain ⟨b0, b1⟩ := b
  by_cases h0 : a0 = b0 <;> by_cases h1 : a1 = b1 <;> simp [Op.eqFields, part, Try.isAgg9, q9, *]
set_option maxRecDepth 20000 in
theorem m_label_small_sim {Z0 : Nat → Prop} (w : World) (x0 : UInt8) {r : Bool}  (hM : m_label_small x0 = some r) :
    Calls Try.prog 37 #[.int .u8 (((x0).toNat : Nat) : Int)] w fun x w' => x = .returned (.bool (r)) ∧ Hp Z0 No w w' [] := by
  have hm0 := Hp.nil Z0 No w
  have hc0 := Calm.nil
  refine Rn.enter Try.func37 rfl rfl (Nat.le_of_ble_eq_true rfl) ?_
  refine Rn.seq (Rn.reg (Rn.v rfl rfl rfl rfl (V.as rfl) (Rn.regEnd (Rn.seq (Rn.reg (Rn.v rfl rfl rfl rfl (V.mv rfl) (Rn.v rfl rfl rfl rfl (V.geq rfl rfl) (Rn.v rfl rfl rfl rfl (V.mv rfl) ?_))))))))
  refine Rn.cutR [6] [(8, .bool (decide ((((x0).toNat : Int) ≥ 97) ∧ (((x0).toNat : Int) ≤ 122))))] (fun hk1 => ?_) ?_
  · refine Rn.partD (t := 5) rfl (fun h2 => ?_) (fun h2 => ?_)
    · refine Rn.v rfl rfl rfl rfl (V.mv rfl) (Rn.v rfl rfl rfl rfl (V.leq rfl rfl) (Rn.v rfl rfl rfl rfl (V.pkT rfl rfl) ?_))
      refine hk1 _ ?_
      exact Sub.cons (lkv _ rfl (by first | exact andT h2 | exact andF h2 | exact orT h2 | exact orF h2 | exact nandF h2 | exact nandT h2 | exact norT h2 | exact norF h2 | (simp [h2]; done) | grind)) (Sub.nil _)
    · refine Rn.no rfl rfl rfl rfl (Rn.no rfl rfl rfl rfl (Rn.v rfl rfl rfl rfl (V.pkF rfl rfl) ?_))
      refine hk1 _ ?_
      exact Sub.cons (lkv _ rfl (by first | exact andT h2 | exact andF h2 | exact orT h2 | exact orF h2 | exact nandF h2 | exact nandT h2 | exact norT h2 | exact norF h2 | (simp [h2]; done) | grind)) (Sub.nil _)
  refine Rn.v rfl rfl rfl rfl (V.as rfl) (Rn.regEnd ?_)
  refine Rn.retG1 Try.func37 rfl (rvT rfl) ?_
  obtain rfl := someE hM
  exact ⟨rfl, hm0.pick [] rfl (by decide)⟩

set_option maxRecDepth 20000 in
theorem m_label_isName_sim {Z0 : Nat → Prop} (w : World) (x0 : (List UInt8)) {r : Bool}  (hM : m_label_isName x0 = some r) :
    Calls Try.prog 21 #[Str (x0)] w fun x w' => x = .returned (.bool (r)) ∧ Hp Z0 No w w' [] := by
  have hm0 := Hp.nil Z0 No w
  have hc0 := Calm.nil
  refine Rn.enter Try.func21 rfl rfl (Nat.le_of_ble_eq_true rfl) ?_
  refine Rn.seq (Rn.reg (Rn.v rfl rfl rfl rfl (V.as rfl) (Rn.regEnd (Rn.seq (Rn.seq (Rn.reg (Rn.v rfl rfl rfl rfl (V.mv rfl) (Rn.v rfl rfl rfl rfl (V.eqlS rfl rfl) (Rn.v rfl rfl rfl rfl (V.mv rfl) ?_)))))))))
  refine Rn.cutR [7, 8, 9, 10, 11, 12] [(0, Str (x0)), (11, .bool (decide ((x0 = ([] : List UInt8)) ∨ ((x0.length : Int) > 32))))] (fun hk1 => ?_) ?_
  · refine Rn.partD (t := 7) rfl (fun h2 => ?_) (fun h2 => ?_)
    · refine Rn.no rfl rfl rfl rfl (Rn.no rfl rfl rfl rfl (Rn.no rfl rfl rfl rfl (Rn.v rfl rfl rfl rfl (V.pkT rfl rfl) ?_)))
      refine hk1 _ ?_
      exact Sub.cons rfl (Sub.cons (lkv _ rfl (by first | exact andT h2 | exact andF h2 | exact orT h2 | exact orF h2 | exact nandF h2 | exact nandT h2 | exact norT h2 | exact norF h2 | (simp [h2]; done) | grind)) (Sub.nil _))
    · refine Rn.v rfl rfl rfl rfl (V.mv rfl) (Rn.v rfl rfl rfl rfl (V.lenS Try.underlying9 rfl) (Rn.v rfl rfl rfl rfl (V.gtr rfl rfl) (Rn.v rfl rfl rfl rfl (V.pkF rfl rfl) ?_)))
      refine hk1 _ ?_
      exact Sub.cons rfl (Sub.cons (lkv _ rfl (by first | exact andT h2 | exact andF h2 | exact orT h2 | exact orF h2 | exact nandF h2 | exact nandT h2 | exact norT h2 | exact norF h2 | (simp [h2]; done) | grind)) (Sub.nil _))
  refine Rn.v rfl rfl rfl rfl (V.mv rfl) ?_
  obtain ⟨j1, hj1, hM⟩ := jnE hM
  refine Rn.joinR (r := r) (G := Bool) [] (fun g => [(0, Str (x0)), (17, .bool (g))]) (fun g w' => Hp Z0 No w w' []) (fun g => j1 g) ?_ ?_
  · subst hj1
    clear hM
    rintro y3 w4 hm4 hM
    replace hm4 : Hp Z0 No w w4 [] := hm4
    show Rn _ _ _ _ _ [(0, Str (x0)), (17, .bool (y3))] _
    try dsimp only at hM
    refine Rn.regEnd ?_
    refine Rn.condS rfl (fun h5 => ?_) (fun h5 => ?_)
    · replace hM := iteT h5 hM
      refine Rn.seq (Rn.reg (Rn.v rfl rfl rfl rfl (V.as rfl) (Rn.regEnd ?_)))
      refine Rn.retG1 Try.func21 rfl (rvT rfl) ?_
      obtain rfl := someE hM
      exact ⟨rfl, hm4.pick [] rfl (by decide)⟩
    · replace hM := iteF (by rw [h5]; exact Bool.false_ne_true) hM
      refine Rn.skip (Rn.seq (Rn.seq (Rn.reg (Rn.v rfl rfl rfl rfl (V.mv rfl) ?_))))
      obtain ⟨z6, e6, hM⟩ := bindE hM
      refine Rn.s2bH hm4 e6 rfl rfl rfl Try.underlying9 Try.underlying42 Try.underlying5 rfl ?_
      intro A6 c6 w6 hm6
      refine Rn.v rfl rfl rfl rfl (V.lenV Try.underlying42 rfl) (Rn.v rfl rfl rfl rfl (V.mv rfl) (Rn.regEnd ?_))
      obtain ⟨j2, hj2, hM⟩ := jnE hM
      refine Rn.joinG (r := r) (G := Unit) (fun g => []) (fun g w' => Hp Z0 No w w' [slR A6 c6 byteR z6]) (fun g => j2 ()) ?_ ?_
      · subst hj2
        clear hM
        rintro _ w8 hm8 hM
        replace hm8 : Hp Z0 No w w8 [slR A6 c6 byteR z6] := hm8
        show Rn _ _ _ _ _ [] _
        try dsimp only at hM
        refine Rn.seq (Rn.reg (Rn.v rfl rfl rfl rfl (V.as rfl) (Rn.regEnd ?_)))
        refine Rn.retG1 Try.func21 rfl (rvT rfl) ?_
        obtain rfl := someE hM
        exact ⟨rfl, hm8.pick [] rfl (by decide)⟩
      intro hk2
      clear hj2
      refine Rn.block ?_
      refine Rn.loopF (G := Int) (fun g => [(19, .slice A6 (z6).length c6), (20, .int .i64 ((z6.length : Int))), (21, .int .i64 (g))]) (fun g w' => Hp Z0 No w w' [slR A6 c6 byteR z6]) (fun n g => m_label_isName_L1 z6 j2 n g) fuel 0 (Sub.cons rfl (Sub.cons rfl (Sub.cons rfl (Sub.nil _)))) (hm6.pick [0] rfl (by decide)) hM (fun _ => rfl) ?_
      clear hM
      rintro m10 y9 w10 hm10 hM hn10
      replace hm10 : Hp Z0 No w w10 [slR A6 c6 byteR z6] := hm10
      show Rn _ _ _ _ _ [(19, .slice A6 (z6).length c6), (20, .int .i64 ((z6.length : Int))), (21, .int .i64 (y9))] _
      replace hM : m_label_isName_L1 z6 j2 (m10 + 1) y9 = some r := hM
      rw [m_label_isName_L1] at hM
      refine Rn.seq (Rn.reg (Rn.v rfl rfl rfl rfl (V.lss rfl rfl) (Rn.regEnd (Rn.seq ?_))))
      refine Rn.condD rfl (fun h11 => ?_) (fun h11 => ?_)
      · replace hM := iteT h11 hM
        refine Rn.skip (Rn.seq (Rn.block (Rn.seq (Rn.reg ?_))))
        obtain ⟨z12, e12, hM⟩ := bindE hM
        refine Rn.ixH hm10 0 rfl e12 rfl rfl rfl Try.underlying42 Try.sizeOf5 rfl rfl rfl rfl ?_
        rintro b12 o12 vs12 ⟨rfl, _⟩ hm12
        refine Rn.v rfl rfl rfl rfl (V.ldR0 Try.isAgg5 rfl (hm12.get 1 rfl).2 rfl) (Rn.v rfl rfl rfl rfl (V.as rfl) (Rn.regEnd (Rn.seq (Rn.reg (Rn.v rfl rfl rfl rfl (V.mv rfl) ?_)))))
        obtain ⟨p14, e14, hM⟩ := bindE hM
        refine Rn.cl ck37 rfl rfl rfl rfl (m_label_small_sim (Z0 := All) _ z12  e14) ?_
        rintro _ w14 ⟨rfl, hq14⟩
        refine ⟨_, rfl, ?_⟩
        have hm15 := hm12.call0 hq14
        refine Rn.v rfl rfl rfl rfl (V.notB rfl) (Rn.v rfl rfl rfl rfl (V.mv rfl) ?_)
        refine Rn.cutR [11, 12, 13, 14, 15, 16, 17, 18] [(4, .int .u8 (((z12).toNat : Nat) : Int)), (19, .slice A6 (z6).length c6), (20, .int .i64 ((z6.length : Int))), (21, .int .i64 (y9)), (35, .bool (decide (((!p14) = true) ∧ ((((z12).toNat : Int) < 48) ∨ (((z12).toNat : Int) > 57)))))] (fun hk16 => ?_) ?_
        · refine Rn.part (t := 28) rfl (fun h17 => ?_) (fun h17 => ?_)
          · refine Rn.v rfl rfl rfl rfl (V.mv rfl) (Rn.v rfl rfl rfl rfl (V.lss rfl rfl) (Rn.v rfl rfl rfl rfl (V.mv rfl) ?_))
            refine Rn.cutR [10, 11, 12, 13, 14, 15, 16, 17, 18] [(4, .int .u8 (((z12).toNat : Nat) : Int)), (19, .slice A6 (z6).length c6), (20, .int .i64 ((z6.length : Int))), (21, .int .i64 (y9)), (28, .bool true), (34, .bool (decide ((((z12).toNat : Int) < 48) ∨ (((z12).toNat : Int) > 57))))] (fun hk18 => ?_) ?_
            · refine Rn.partD (t := 31) rfl (fun h19 => ?_) (fun h19 => ?_)
              · refine Rn.no rfl rfl rfl rfl (Rn.no rfl rfl rfl rfl (Rn.v rfl rfl rfl rfl (V.pkT rfl rfl) ?_))
                refine hk18 _ ?_
                exact Sub.cons rfl (Sub.cons rfl (Sub.cons rfl (Sub.cons rfl (Sub.cons rfl (Sub.cons (lkv _ rfl (by first | exact andT h19 | exact andF h19 | exact orT h19 | exact orF h19 | exact nandF h19 | exact nandT h19 | exact norT h19 | exact norF h19 | (simp [h19]; done) | grind)) (Sub.nil _))))))
              · refine Rn.v rfl rfl rfl rfl (V.mv rfl) (Rn.v rfl rfl rfl rfl (V.gtr rfl rfl) (Rn.v rfl rfl rfl rfl (V.pkF rfl rfl) ?_))
                refine hk18 _ ?_
                exact Sub.cons rfl (Sub.cons rfl (Sub.cons rfl (Sub.cons rfl (Sub.cons rfl (Sub.cons (lkv _ rfl (by first | exact andT h19 | exact andF h19 | exact orT h19 | exact orF h19 | exact nandF h19 | exact nandT h19 | exact norT h19 | exact norF h19 | (simp [h19]; done) | grind)) (Sub.nil _))))))
            refine Rn.v rfl rfl rfl rfl (V.pkT rfl rfl) ?_
            refine hk16 _ ?_
            exact Sub.cons rfl (Sub.cons rfl (Sub.cons rfl (Sub.cons rfl (Sub.cons (lkv _ rfl (by first | exact andT h17 | exact andF h17 | exact orT h17 | exact orF h17 | exact nandF h17 | exact nandT h17 | exact norT h17 | exact norF h17 | (simp [h17]; done) | grind)) (Sub.nil _)))))
          · refine Rn.no rfl rfl rfl rfl (Rn.no rfl rfl rfl rfl (Rn.no rfl rfl rfl rfl (Rn.no rfl rfl rfl rfl (Rn.no rfl rfl rfl rfl (Rn.no rfl rfl rfl rfl (Rn.v rfl rfl rfl rfl (V.pkF rfl rfl) ?_))))))
            refine hk16 _ ?_
            exact Sub.cons rfl (Sub.cons rfl (Sub.cons rfl (Sub.cons rfl (Sub.cons (lkv _ rfl (by first | exact andT h17 | exact andF h17 | exact orT h17 | exact orF h17 | exact nandF h17 | exact nandT h17 | exact norT h17 | exact norF h17 | (simp [h17]; done) | grind)) (Sub.nil _)))))
        refine Rn.v rfl rfl rfl rfl (V.mv rfl) ?_
        refine Rn.cutR [15, 16, 17, 18] [(4, .int .u8 (((z12).toNat : Nat) : Int)), (19, .slice A6 (z6).length c6), (20, .int .i64 ((z6.length : Int))), (21, .int .i64 (y9)), (39, .bool (decide ((((!p14) = true) ∧ ((((z12).toNat : Int) < 48) ∨ (((z12).toNat : Int) > 57))) ∧ (((z12).toNat : Int) ≠ 95))))] (fun hk20 => ?_) ?_
        · refine Rn.partD (t := 36) rfl (fun h21 => ?_) (fun h21 => ?_)
          · refine Rn.v rfl rfl rfl rfl (V.mv rfl) (Rn.v rfl rfl rfl rfl (V.neq rfl rfl) (Rn.v rfl rfl rfl rfl (V.pkT rfl rfl) ?_))
            refine hk20 _ ?_
            exact Sub.cons rfl (Sub.cons rfl (Sub.cons rfl (Sub.cons rfl (Sub.cons (lkv _ rfl (by first | exact andT h21 | exact andF h21 | exact orT h21 | exact orF h21 | exact nandF h21 | exact nandT h21 | exact norT h21 | exact norF h21 | (simp [h21]; done) | grind)) (Sub.nil _)))))
          · refine Rn.no rfl rfl rfl rfl (Rn.no rfl rfl rfl rfl (Rn.v rfl rfl rfl rfl (V.pkF rfl rfl) ?_))
            refine hk20 _ ?_
            exact Sub.cons rfl (Sub.cons rfl (Sub.cons rfl (Sub.cons rfl (Sub.cons (lkv _ rfl (by first | exact andT h21 | exact andF h21 | exact orT h21 | exact orF h21 | exact nandF h21 | exact nandT h21 | exact norT h21 | exact norF h21 | (simp [h21]; done) | grind)) (Sub.nil _)))))
        refine Rn.v rfl rfl rfl rfl (V.mv rfl) ?_
        refine Rn.cutR [] [(19, .slice A6 (z6).length c6), (20, .int .i64 ((z6.length : Int))), (21, .int .i64 (y9)), (43, .bool (decide (((((!p14) = true) ∧ ((((z12).toNat : Int) < 48) ∨ (((z12).toNat : Int) > 57))) ∧ (((z12).toNat : Int) ≠ 95)) ∧ (((z12).toNat : Int) ≠ 46))))] (fun hk22 => ?_) ?_
        · refine Rn.partD (t := 40) rfl (fun h23 => ?_) (fun h23 => ?_)
          · refine Rn.v rfl rfl rfl rfl (V.mv rfl) (Rn.v rfl rfl rfl rfl (V.neq rfl rfl) (Rn.v rfl rfl rfl rfl (V.pkT rfl rfl) ?_))
            refine hk22 _ ?_
            exact Sub.cons rfl (Sub.cons rfl (Sub.cons rfl (Sub.cons (lkv _ rfl (by first | exact andT h23 | exact andF h23 | exact orT h23 | exact orF h23 | exact nandF h23 | exact nandT h23 | exact norT h23 | exact norF h23 | (simp [h23]; done) | grind)) (Sub.nil _))))
          · refine Rn.no rfl rfl rfl rfl (Rn.no rfl rfl rfl rfl (Rn.v rfl rfl rfl rfl (V.pkF rfl rfl) ?_))
            refine hk22 _ ?_
            exact Sub.cons rfl (Sub.cons rfl (Sub.cons rfl (Sub.cons (lkv _ rfl (by first | exact andT h23 | exact andF h23 | exact orT h23 | exact orF h23 | exact nandF h23 | exact nandT h23 | exact norT h23 | exact norF h23 | (simp [h23]; done) | grind)) (Sub.nil _))))
        refine Rn.regEnd ?_
        refine Rn.condD rfl (fun h24 => ?_) (fun h24 => ?_)
        · replace hM := iteT h24 hM
          refine Rn.seq (Rn.reg (Rn.v rfl rfl rfl rfl (V.as rfl) (Rn.regEnd ?_)))
          refine Rn.retG1 Try.func21 rfl (rvT rfl) ?_
          obtain rfl := someE hM
          exact ⟨rfl, hm15.pick [] rfl (by decide)⟩
        · replace hM := iteF h24 hM
          refine Rn.skip (Rn.inBlock (Rn.reg (Rn.v rfl rfl rfl rfl (V.addW rfl rfl) (Rn.v rfl rfl rfl rfl (V.mv rfl) (Rn.regEnd ?_)))))
          exact hn10 (W64 (y9 + 1)) _ _ (Sub.cons rfl (Sub.cons rfl (Sub.cons rfl (Sub.nil _)))) (hm15.pick [0] rfl (by decide)) hM
      · replace hM := iteF h11 hM
        refine Rn.exit rfl ?_
        exact hk2 () _ _ (Sub.nil _) (hm10.pick [0] rfl (by decide)) hM
  intro hk1
  clear hj1
  refine Rn.partD (t := 12) rfl (fun h25 => ?_) (fun h25 => ?_)
  · replace hM := iteT h25 hM
    refine Rn.no rfl rfl rfl rfl (Rn.no rfl rfl rfl rfl (Rn.no rfl rfl rfl rfl (Rn.no rfl rfl rfl rfl (Rn.v rfl rfl rfl rfl (V.pkT rfl rfl) ?_))))
    exact hk1 true _ _ (Sub.cons rfl (Sub.cons rfl (Sub.nil _))) (hm0.pick [] rfl (by decide)) hM
  · replace hM := iteF h25 hM
    refine Rn.v rfl rfl rfl rfl (V.mv rfl) ?_
    obtain ⟨z26, e26, hM⟩ := bindE hM
    refine Rn.v rfl rfl rfl rfl (V.idxSZ Try.underlying9 rfl rfl e26) ?_
    obtain ⟨p27, e27, hM⟩ := bindE hM
    refine Rn.cl ck37 rfl rfl rfl rfl (m_label_small_sim (Z0 := All) _ z26  e27) ?_
    rintro _ w27 ⟨rfl, hq27⟩
    refine ⟨_, rfl, ?_⟩
    have hm28 := hm0.call0 hq27
    refine Rn.v rfl rfl rfl rfl (V.notB rfl) (Rn.v rfl rfl rfl rfl (V.pkF rfl rfl) ?_)
    exact hk1 (!p27) _ _ (Sub.cons rfl (Sub.cons rfl (Sub.nil _))) (hm28.pick [] rfl (by decide)) hM

set_option maxRecDepth 20000 in
theorem m_label_isValue_sim {Z0 : Nat → Prop} (w : World) (x0 : (List UInt8)) {r : Bool}  (hM : m_label_isValue x0 = some r) :
    Calls Try.prog 22 #[Str (x0)] w fun x w' => x = .returned (.bool (r)) ∧ Hp Z0 No w w' [] := by
  have hm0 := Hp.nil Z0 No w
  have hc0 := Calm.nil
  refine Rn.enter Try.func22 rfl rfl (Nat.le_of_ble_eq_true rfl) ?_
  refine Rn.seq (Rn.reg (Rn.v rfl rfl rfl rfl (V.as rfl) (Rn.regEnd (Rn.seq (Rn.seq (Rn.reg (Rn.v rfl rfl rfl rfl (V.mv rfl) (Rn.v rfl rfl rfl rfl (V.eqlS rfl rfl) (Rn.v rfl rfl rfl rfl (V.mv rfl) ?_)))))))))
  refine Rn.cutR [] [(0, Str (x0)), (11, .bool (decide ((x0 = ([] : List UInt8)) ∨ ((x0.length : Int) > 32))))] (fun hk1 => ?_) ?_
  · refine Rn.partD (t := 7) rfl (fun h2 => ?_) (fun h2 => ?_)
    · refine Rn.no rfl rfl rfl rfl (Rn.no rfl rfl rfl rfl (Rn.no rfl rfl rfl rfl (Rn.v rfl rfl rfl rfl (V.pkT rfl rfl) ?_)))
      refine hk1 _ ?_
      exact Sub.cons rfl (Sub.cons (lkv _ rfl (by first | exact andT h2 | exact andF h2 | exact orT h2 | exact orF h2 | exact nandF h2 | exact nandT h2 | exact norT h2 | exact norF h2 | (simp [h2]; done) | grind)) (Sub.nil _))
    · refine Rn.v rfl rfl rfl rfl (V.mv rfl) (Rn.v rfl rfl rfl rfl (V.lenS Try.underlying9 rfl) (Rn.v rfl rfl rfl rfl (V.gtr rfl rfl) (Rn.v rfl rfl rfl rfl (V.pkF rfl rfl) ?_)))
      refine hk1 _ ?_
      exact Sub.cons rfl (Sub.cons (lkv _ rfl (by first | exact andT h2 | exact andF h2 | exact orT h2 | exact orF h2 | exact nandF h2 | exact nandT h2 | exact norT h2 | exact norF h2 | (simp [h2]; done) | grind)) (Sub.nil _))
  refine Rn.regEnd ?_
  refine Rn.condD rfl (fun h3 => ?_) (fun h3 => ?_)
  · replace hM := iteT h3 hM
    refine Rn.seq (Rn.reg (Rn.v rfl rfl rfl rfl (V.as rfl) (Rn.regEnd ?_)))
    refine Rn.retG1 Try.func22 rfl (rvT rfl) ?_
    obtain rfl := someE hM
    exact ⟨rfl, hm0.pick [] rfl (by decide)⟩
  · replace hM := iteF h3 hM
    refine Rn.skip (Rn.seq (Rn.seq (Rn.reg (Rn.v rfl rfl rfl rfl (V.mv rfl) ?_))))
    obtain ⟨z4, e4, hM⟩ := bindE hM
    refine Rn.s2bH hm0 e4 rfl rfl rfl Try.underlying9 Try.underlying42 Try.underlying5 rfl ?_
    intro A4 c4 w4 hm4
    refine Rn.v rfl rfl rfl rfl (V.lenV Try.underlying42 rfl) (Rn.v rfl rfl rfl rfl (V.mv rfl) (Rn.regEnd ?_))
    obtain ⟨j1, hj1, hM⟩ := jnE hM
    refine Rn.joinG (r := r) (G := Unit) (fun g => []) (fun g w' => Hp Z0 No w w' [slR A4 c4 byteR z4]) (fun g => j1 ()) ?_ ?_
    · subst hj1
      clear hM
      rintro _ w6 hm6 hM
      replace hm6 : Hp Z0 No w w6 [slR A4 c4 byteR z4] := hm6
      show Rn _ _ _ _ _ [] _
      try dsimp only at hM
      refine Rn.seq (Rn.reg (Rn.v rfl rfl rfl rfl (V.as rfl) (Rn.regEnd ?_)))
      refine Rn.retG1 Try.func22 rfl (rvT rfl) ?_
      obtain rfl := someE hM
      exact ⟨rfl, hm6.pick [] rfl (by decide)⟩
    intro hk1
    clear hj1
    refine Rn.block ?_
    refine Rn.loopF (G := Int) (fun g => [(13, .slice A4 (z4).length c4), (14, .int .i64 ((z4.length : Int))), (15, .int .i64 (g))]) (fun g w' => Hp Z0 No w w' [slR A4 c4 byteR z4]) (fun n g => m_label_isValue_L1 z4 j1 n g) fuel 0 (Sub.cons rfl (Sub.cons rfl (Sub.cons rfl (Sub.nil _)))) (hm4.pick [0] rfl (by decide)) hM (fun _ => rfl) ?_
    clear hM
    rintro m8 y7 w8 hm8 hM hn8
    replace hm8 : Hp Z0 No w w8 [slR A4 c4 byteR z4] := hm8
    show Rn _ _ _ _ _ [(13, .slice A4 (z4).length c4), (14, .int .i64 ((z4.length : Int))), (15, .int .i64 (y7))] _
    replace hM : m_label_isValue_L1 z4 j1 (m8 + 1) y7 = some r := hM
    rw [m_label_isValue_L1] at hM
    refine Rn.seq (Rn.reg (Rn.v rfl rfl rfl rfl (V.lss rfl rfl) (Rn.regEnd (Rn.seq ?_))))
    refine Rn.condD rfl (fun h9 => ?_) (fun h9 => ?_)
    · replace hM := iteT h9 hM
      refine Rn.skip (Rn.seq (Rn.block (Rn.seq (Rn.reg ?_))))
      obtain ⟨z10, e10, hM⟩ := bindE hM
      refine Rn.ixH hm8 0 rfl e10 rfl rfl rfl Try.underlying42 Try.sizeOf5 rfl rfl rfl rfl ?_
      rintro b10 o10 vs10 ⟨rfl, _⟩ hm10
      refine Rn.v rfl rfl rfl rfl (V.ldR0 Try.isAgg5 rfl (hm10.get 1 rfl).2 rfl) (Rn.v rfl rfl rfl rfl (V.as rfl) (Rn.regEnd (Rn.block (Rn.seq (Rn.seq (Rn.reg (Rn.v rfl rfl rfl rfl (V.mv rfl) (Rn.v rfl rfl rfl rfl (V.lss rfl rfl) (Rn.v rfl rfl rfl rfl (V.as rfl) (Rn.regEnd ?_))))))))))
      obtain ⟨j2, hj2, hM⟩ := jnE hM
      refine Rn.joinG (r := r) (G := Bool) (fun g => [(13, .slice A4 (z4).length c4), (14, .int .i64 ((z4.length : Int))), (15, .int .i64 (y7)), (19, .bool (g))]) (fun g w' => Hp Z0 No w w' [slR A4 c4 byteR z4, rdR b10 o10 [.int .u8 (((z10).toNat : Nat) : Int)]]) (fun g => j2 g) ?_ ?_
      · subst hj2
        clear hM
        rintro y12 w13 hm13 hM
        replace hm13 : Hp Z0 No w w13 [slR A4 c4 byteR z4, rdR b10 o10 [.int .u8 (((z10).toNat : Nat) : Int)]] := hm13
        show Rn _ _ _ _ _ [(13, .slice A4 (z4).length c4), (14, .int .i64 ((z4.length : Int))), (15, .int .i64 (y7)), (19, .bool (y12))] _
        try dsimp only at hM
        refine Rn.condS rfl (fun h14 => ?_) (fun h14 => ?_)
        · replace hM := iteT h14 hM
          refine Rn.seq (Rn.reg (Rn.v rfl rfl rfl rfl (V.as rfl) (Rn.regEnd ?_)))
          refine Rn.retG1 Try.func22 rfl (rvT rfl) ?_
          obtain rfl := someE hM
          exact ⟨rfl, hm13.pick [] rfl (by decide)⟩
        · replace hM := iteF (by rw [h14]; exact Bool.false_ne_true) hM
          refine Rn.skip (Rn.inBlock (Rn.inBlock (Rn.reg (Rn.v rfl rfl rfl rfl (V.addW rfl rfl) (Rn.v rfl rfl rfl rfl (V.mv rfl) (Rn.regEnd ?_))))))
          exact hn8 (W64 (y7 + 1)) _ _ (Sub.cons rfl (Sub.cons rfl (Sub.cons rfl (Sub.nil _)))) (hm13.pick [0] rfl (by decide)) hM
      intro hk2
      clear hj2
      refine Rn.condD rfl (fun h15 => ?_) (fun h15 => ?_)
      · replace hM := iteT h15 hM
        refine Rn.skip ?_
        exact hk2 (decide (((z10).toNat : Int) < 33)) _ _ (Sub.cons rfl (Sub.cons rfl (Sub.cons rfl (Sub.cons rfl (Sub.nil _))))) (hm10.pick [0, 1] rfl (by decide)) hM
      · replace hM := iteF h15 hM
        refine Rn.seq (Rn.reg (Rn.v rfl rfl rfl rfl (V.mv rfl) (Rn.v rfl rfl rfl rfl (V.gtr rfl rfl) (Rn.v rfl rfl rfl rfl (V.as rfl) (Rn.regEnd ?_)))))
        refine Rn.condD rfl (fun h16 => ?_) (fun h16 => ?_)
        · replace hM := iteT h16 hM
          refine Rn.skip ?_
          exact hk2 (decide (((z10).toNat : Int) > 126)) _ _ (Sub.cons rfl (Sub.cons rfl (Sub.cons rfl (Sub.cons rfl (Sub.nil _))))) (hm10.pick [0, 1] rfl (by decide)) hM
        · replace hM := iteF h16 hM
          refine Rn.seq (Rn.reg (Rn.v rfl rfl rfl rfl (V.mv rfl) (Rn.v rfl rfl rfl rfl (V.eql rfl rfl) (Rn.v rfl rfl rfl rfl (V.as rfl) (Rn.regEnd ?_)))))
          refine Rn.condD rfl (fun h17 => ?_) (fun h17 => ?_)
          · replace hM := iteT h17 hM
            refine Rn.skip ?_
            exact hk2 (decide (((z10).toNat : Int) = 61)) _ _ (Sub.cons rfl (Sub.cons rfl (Sub.cons rfl (Sub.cons rfl (Sub.nil _))))) (hm10.pick [0, 1] rfl (by decide)) hM
          · replace hM := iteF h17 hM
            refine Rn.seq (Rn.reg (Rn.v rfl rfl rfl rfl (V.mv rfl) (Rn.v rfl rfl rfl rfl (V.eql rfl rfl) (Rn.v rfl rfl rfl rfl (V.as rfl) (Rn.regEnd ?_)))))
            refine Rn.condD rfl (fun h18 => ?_) (fun h18 => ?_)
            · replace hM := iteT h18 hM
              refine Rn.skip ?_
              exact hk2 (decide (((z10).toNat : Int) = 59)) _ _ (Sub.cons rfl (Sub.cons rfl (Sub.cons rfl (Sub.cons rfl (Sub.nil _))))) (hm10.pick [0, 1] rfl (by decide)) hM
            · replace hM := iteF h18 hM
              refine Rn.reg (Rn.v rfl rfl rfl rfl (V.mv rfl) (Rn.v rfl rfl rfl rfl (V.eql rfl rfl) (Rn.v rfl rfl rfl rfl (V.as rfl) (Rn.regEnd ?_))))
              exact hk2 (decide (((z10).toNat : Int) = 44)) _ _ (Sub.cons rfl (Sub.cons rfl (Sub.cons rfl (Sub.cons rfl (Sub.nil _))))) (hm10.pick [0, 1] rfl (by decide)) hM
    · replace hM := iteF h9 hM
      refine Rn.exit rfl ?_
      exact hk1 () _ _ (Sub.nil _) (hm8.pick [0] rfl (by decide)) hM

set_option maxRecDepth 20000 in
theorem m_label_Check_1_sim {Z0 : Nat → Prop} (w : World) (x0 : T_api_Pair) (b1 o1 : Nat) (x1 : T_api_Pair) {r : Bool} (f0 : (rdR b1 o1 [Str (x1.Key), Str (x1.Val)]).H Z0 w) (hM : m_label_Check_1 x0 x1 = some r) :
    Calls Try.prog 24 #[.agg [Str (x0.Key), Str (x0.Val)].toArray, .pointer (some ⟨b1, o1, none⟩)] w fun x w' => x = .returned (.bool (r)) ∧ Hp Z0 No w w' [] := by
  have hm0 := Hp.nil Z0 No w
  have hc0 := Calm.nil
  have hm2 := hm0.know (rdR b1 o1 [Str (x1.Key), Str (x1.Val)]) (fun _ h => h) (hm0.in0 hc0 f0)
  replace hc0 := hc0.snoc (r := rdR b1 o1 [Str (x1.Key), Str (x1.Val)]) (fun _ h => h)
  refine Rn.enter Try.func24 rfl rfl (Nat.le_of_ble_eq_true rfl) ?_
  refine Rn.seq (Rn.reg (Rn.box rfl rfl rfl rfl rfl ?_))
  intro b3 w3 hb3 m3 e3
  have hm5 : Hp Z0 No w w3 [rdR b1 o1 [Str (x1.Key), Str (x1.Val)], boxR b3 40 [Str (x0.Key), Str (x0.Val)]] := hm2.addBox hb3 e3 m3
  refine Rn.v rfl rfl rfl rfl (V.as rfl) (Rn.regEnd (Rn.seq (Rn.reg (Rn.v rfl rfl rfl rfl (V.fa Try.underlying40 rfl Try.sizeOf9 rfl rfl) (Rn.v rfl rfl rfl rfl (V.ldB Try.isAgg9 rfl (hm5.get 1 rfl) rfl) (Rn.v rfl rfl rfl rfl (V.fa Try.underlying40 rfl Try.sizeOf9 rfl rfl) (Rn.v rfl rfl rfl rfl (V.ldR0 Try.isAgg9 rfl (hm5.get 0 rfl).2 rfl) (Rn.v rfl rfl rfl rfl (V.eqlS rfl rfl) (Rn.v rfl rfl rfl rfl (V.as rfl) (Rn.regEnd ?_))))))))))
  refine Rn.retG1 Try.func24 rfl (rvT rfl) ?_
  obtain rfl := someE hM
  exact ⟨rfl, hm5.pick [] rfl (by decide)⟩

set_option maxRecDepth 20000 in
theorem m_slices_IndexFunc_api_Pair_api_Pair_s1_sim {Z0 : Nat → Prop} (w : World) (A0 : Option Addr) (c0 : Nat) (x0 : (List T_api_Pair)) (x1_0 : T_api_Pair) (b1_0 o1_0 : Nat) {r : Int} (f0 : (slR A0 c0 T_api_Pair.rep x0).H Z0 w) (f1 : (rdR b1_0 o1_0 [Str (x1_0.Key), Str (x1_0.Val)]).H Z0 w) (hM : m_slices_IndexFunc_api_Pair_api_Pair_s1 x0 x1_0 = some r) :
    Calls Try.prog 38 #[.slice A0 (x0).length c0, .func (.func 24) #[] [.pointer (some ⟨b1_0, o1_0, none⟩)].toArray] w fun x w' => x = .returned (.int .i64 (r)) ∧ Hp Z0 No w w' [] := by
  have hm0 := Hp.nil Z0 No w
  have hc0 := Calm.nil
  have hm3 := hm0.know (slR A0 c0 T_api_Pair.rep x0) (fun _ h => h) (hm0.in0 hc0 f0)
  replace hc0 := hc0.snoc (r := slR A0 c0 T_api_Pair.rep x0) (fun _ h => h)
  have hm4 := hm3.know (rdR b1_0 o1_0 [Str (x1_0.Key), Str (x1_0.Val)]) (fun _ h => h) (hm3.in0 hc0 f1)
  replace hc0 := hc0.snoc (r := rdR b1_0 o1_0 [Str (x1_0.Key), Str (x1_0.Val)]) (fun _ h => h)
  refine Rn.enter Try.func38 rfl rfl (Nat.le_of_ble_eq_true rfl) ?_
  refine Rn.seq (Rn.reg (Rn.v rfl rfl rfl rfl (V.as rfl) (Rn.regEnd (Rn.seq (Rn.seq (Rn.reg (Rn.v rfl rfl rfl rfl (V.mv rfl) (Rn.v rfl rfl rfl rfl (V.lenV Try.underlying22 rfl) (Rn.v rfl rfl rfl rfl (V.mv rfl) (Rn.regEnd ?_))))))))))
  obtain ⟨j1, hj1, hM⟩ := jnE hM
  refine Rn.joinG (r := r) (G := Unit) (fun g => []) (fun g w' => Hp Z0 No w w' [slR A0 c0 T_api_Pair.rep x0, rdR b1_0 o1_0 [Str (x1_0.Key), Str (x1_0.Val)]]) (fun g => j1 ()) ?_ ?_
  · subst hj1
    clear hM
    rintro _ w5 hm5 hM
    replace hm5 : Hp Z0 No w w5 [slR A0 c0 T_api_Pair.rep x0, rdR b1_0 o1_0 [Str (x1_0.Key), Str (x1_0.Val)]] := hm5
    show Rn _ _ _ _ _ [] _
    try dsimp only at hM
    refine Rn.seq (Rn.reg (Rn.v rfl rfl rfl rfl (V.as rfl) (Rn.regEnd ?_)))
    refine Rn.retG1 Try.func38 rfl (rvT rfl) ?_
    obtain rfl := someE hM
    exact ⟨rfl, hm5.pick [] rfl (by decide)⟩
  intro hk1
  clear hj1
  refine Rn.block ?_
  refine Rn.loopF (G := Int) (fun g => [(0, .slice A0 (x0).length c0), (1, .func (.func 24) #[] [.pointer (some ⟨b1_0, o1_0, none⟩)].toArray), (7, .int .i64 ((x0.length : Int))), (8, .int .i64 (g))]) (fun g w' => Hp Z0 No w w' [slR A0 c0 T_api_Pair.rep x0, rdR b1_0 o1_0 [Str (x1_0.Key), Str (x1_0.Val)]]) (fun n g => m_slices_IndexFunc_api_Pair_api_Pair_s1_L1 x0 x1_0 j1 n g) fuel 0 (Sub.cons rfl (Sub.cons rfl (Sub.cons rfl (Sub.cons rfl (Sub.nil _))))) (hm4.pick [0, 1] rfl (by decide)) hM (fun _ => rfl) ?_
  clear hM
  rintro m7 y6 w7 hm7 hM hn7
  replace hm7 : Hp Z0 No w w7 [slR A0 c0 T_api_Pair.rep x0, rdR b1_0 o1_0 [Str (x1_0.Key), Str (x1_0.Val)]] := hm7
  show Rn _ _ _ _ _ [(0, .slice A0 (x0).length c0), (1, .func (.func 24) #[] [.pointer (some ⟨b1_0, o1_0, none⟩)].toArray), (7, .int .i64 ((x0.length : Int))), (8, .int .i64 (y6))] _
  replace hM : m_slices_IndexFunc_api_Pair_api_Pair_s1_L1 x0 x1_0 j1 (m7 + 1) y6 = some r := hM
  rw [m_slices_IndexFunc_api_Pair_api_Pair_s1_L1] at hM
  refine Rn.seq (Rn.reg (Rn.v rfl rfl rfl rfl (V.lss rfl rfl) (Rn.regEnd (Rn.seq ?_))))
  refine Rn.condD rfl (fun h8 => ?_) (fun h8 => ?_)
  · replace hM := iteT h8 hM
    refine Rn.skip (Rn.seq (Rn.block (Rn.seq (Rn.reg (Rn.v rfl rfl rfl rfl (V.mv rfl) (Rn.v rfl rfl rfl rfl (V.as rfl) (Rn.regEnd (Rn.seq (Rn.reg (Rn.v rfl rfl rfl rfl (V.mv rfl) (Rn.v rfl rfl rfl rfl (V.mv rfl) (Rn.v rfl rfl rfl rfl (V.mv rfl) ?_))))))))))))
    obtain ⟨z9, e9, hM⟩ := bindE hM
    refine Rn.ixH hm7 0 rfl e9 rfl rfl rfl Try.underlying22 Try.sizeOf40 rfl rfl rfl rfl ?_
    rintro b9 o9 vs9 ⟨_, _, rfl, ⟨rfl, _⟩, ⟨rfl, _⟩⟩ hm9
    refine Rn.v rfl rfl rfl rfl (V.ldA Try.isAgg40 Try.sizeOf40 rfl (Rd.pre (hm9.get 2 rfl).2 2) rfl) ?_
    obtain ⟨p11, e11, hM⟩ := bindE hM
    refine Rn.clV ck24 rfl rfl rfl rfl rfl (m_label_Check_1_sim (Z0 := All) _ z9 b1_0 o1_0 x1_0 (rdR_all (hm9.get 1 rfl)) e11) ?_
    rintro _ w11 ⟨rfl, hq11⟩
    refine ⟨_, rfl, ?_⟩
    have hm12 := hm9.call0 hq11
    refine Rn.regEnd ?_
    refine Rn.condS rfl (fun h13 => ?_) (fun h13 => ?_)
    · replace hM := iteT h13 hM
      refine Rn.seq (Rn.reg (Rn.v rfl rfl rfl rfl (V.mv rfl) (Rn.v rfl rfl rfl rfl (V.as rfl) (Rn.regEnd ?_))))
      refine Rn.retG1 Try.func38 rfl (rvT rfl) ?_
      obtain rfl := someE hM
      exact ⟨rfl, hm12.pick [] rfl (by decide)⟩
    · replace hM := iteF (by rw [h13]; exact Bool.false_ne_true) hM
      refine Rn.skip (Rn.inBlock (Rn.reg (Rn.v rfl rfl rfl rfl (V.addW rfl rfl) (Rn.v rfl rfl rfl rfl (V.mv rfl) (Rn.regEnd ?_)))))
      exact hn7 (W64 (y6 + 1)) _ _ (Sub.cons rfl (Sub.cons rfl (Sub.cons rfl (Sub.cons rfl (Sub.nil _))))) (hm12.pick [0, 1] rfl (by decide)) hM
  · replace hM := iteF h8 hM
    refine Rn.exit rfl ?_
    exact hk1 () _ _ (Sub.nil _) (hm7.pick [0, 1] rfl (by decide)) hM

set_option maxRecDepth 20000 in
theorem m_slices_ContainsFunc_api_Pair_api_Pair_s2_sim {Z0 : Nat → Prop} (w : World) (A0 : Option Addr) (c0 : Nat) (x0 : (List T_api_Pair)) (x1_0 : T_api_Pair) (b1_0 o1_0 : Nat) {r : Bool} (f0 : (slR A0 c0 T_api_Pair.rep x0).H Z0 w) (f1 : (rdR b1_0 o1_0 [Str (x1_0.Key), Str (x1_0.Val)]).H Z0 w) (hM : m_slices_ContainsFunc_api_Pair_api_Pair_s2 x0 x1_0 = some r) :
    Calls Try.prog 23 #[.slice A0 (x0).length c0, .func (.func 24) #[] [.pointer (some ⟨b1_0, o1_0, none⟩)].toArray] w fun x w' => x = .returned (.bool (r)) ∧ Hp Z0 No w w' [] := by
  have hm0 := Hp.nil Z0 No w
  have hc0 := Calm.nil
  have hm3 := hm0.know (slR A0 c0 T_api_Pair.rep x0) (fun _ h => h) (hm0.in0 hc0 f0)
  replace hc0 := hc0.snoc (r := slR A0 c0 T_api_Pair.rep x0) (fun _ h => h)
  have hm4 := hm3.know (rdR b1_0 o1_0 [Str (x1_0.Key), Str (x1_0.Val)]) (fun _ h => h) (hm3.in0 hc0 f1)
  replace hc0 := hc0.snoc (r := rdR b1_0 o1_0 [Str (x1_0.Key), Str (x1_0.Val)]) (fun _ h => h)
  refine Rn.enter Try.func23 rfl rfl (Nat.le_of_ble_eq_true rfl) ?_
  refine Rn.seq (Rn.reg (Rn.v rfl rfl rfl rfl (V.as rfl) (Rn.regEnd (Rn.seq (Rn.reg (Rn.v rfl rfl rfl rfl (V.mv rfl) (Rn.v rfl rfl rfl rfl (V.mv rfl) ?_)))))))
  obtain ⟨p5, e5, hM⟩ := bindE hM
  refine Rn.cl ck38 rfl rfl rfl rfl (m_slices_IndexFunc_api_Pair_api_Pair_s1_sim (Z0 := All) _ A0 c0 x0 x1_0 b1_0 o1_0 (slR_all (hm4.get 0 rfl)) (rdR_all (hm4.get 1 rfl)) e5) ?_
  rintro _ w5 ⟨rfl, hq5⟩
  refine ⟨_, rfl, ?_⟩
  have hm6 := hm4.call0 hq5
  refine Rn.v rfl rfl rfl rfl (V.geq rfl rfl) (Rn.v rfl rfl rfl rfl (V.as rfl) (Rn.regEnd ?_))
  refine Rn.retG1 Try.func23 rfl (rvT rfl) ?_
  obtain rfl := someE hM
  exact ⟨rfl, hm6.pick [] rfl (by decide)⟩

set_option maxRecDepth 20000 in
theorem m_label_Check_sim {Z0 : Nat → Prop} (w : World) (x0 : (List UInt8)) (A1 : Option Addr) (c1 : Nat) (x1 : (List T_api_Pair)) {r : Int} (f0 : (slR A1 c1 T_api_Pair.rep x1).H Z0 w) (hM : m_label_Check x0 x1 = some r) :
    Calls Try.prog 11 #[Str (x0), .slice A1 (x1).length c1] w fun x w' => x = .returned (.int .i64 (r)) ∧ Hp Z0 No w w' [] := by
  have hm0 := Hp.nil Z0 No w
  have hc0 := Calm.nil
  have hm2 := hm0.know (slR A1 c1 T_api_Pair.rep x1) (fun _ h => h) (hm0.in0 hc0 f0)
  replace hc0 := hc0.snoc (r := slR A1 c1 T_api_Pair.rep x1) (fun _ h => h)
  refine Rn.enter Try.func11 rfl rfl (Nat.le_of_ble_eq_true rfl) ?_
  refine Rn.seq (Rn.reg (Rn.v rfl rfl rfl rfl (V.as rfl) (Rn.regEnd (Rn.seq (Rn.seq (Rn.reg (Rn.v rfl rfl rfl rfl (V.mv rfl) ?_)))))))
  obtain ⟨p3, e3, hM⟩ := bindE hM
  refine Rn.cl ck21 rfl rfl rfl rfl (m_label_isName_sim (Z0 := All) _ x0  e3) ?_
  rintro _ w3 ⟨rfl, hq3⟩
  refine ⟨_, rfl, ?_⟩
  have hm4 := hm2.call0 hq3
  refine Rn.v rfl rfl rfl rfl (V.notB rfl) (Rn.regEnd ?_)
  refine Rn.condS rfl (fun h5 => ?_) (fun h5 => ?_)
  · replace hM := iteT h5 hM
    refine Rn.seq (Rn.reg (Rn.v rfl rfl rfl rfl (V.as rfl) (Rn.regEnd ?_)))
    refine Rn.retG1 Try.func11 rfl (rvT rfl) ?_
    obtain rfl := someE hM
    exact ⟨rfl, hm4.pick [] rfl (by decide)⟩
  · replace hM := iteF (by rw [h5]; exact Bool.false_ne_true) hM
    refine Rn.skip (Rn.seq (Rn.seq (Rn.reg (Rn.v rfl rfl rfl rfl (V.mv rfl) (Rn.v rfl rfl rfl rfl (V.lenV Try.underlying22 rfl) (Rn.v rfl rfl rfl rfl (V.gtr rfl rfl) (Rn.regEnd ?_)))))))
    refine Rn.condD rfl (fun h6 => ?_) (fun h6 => ?_)
    · replace hM := iteT h6 hM
      refine Rn.seq (Rn.reg (Rn.v rfl rfl rfl rfl (V.as rfl) (Rn.regEnd ?_)))
      refine Rn.retG1 Try.func11 rfl (rvT rfl) ?_
      obtain rfl := someE hM
      exact ⟨rfl, hm4.pick [] rfl (by decide)⟩
    · replace hM := iteF h6 hM
      refine Rn.skip (Rn.seq (Rn.seq (Rn.reg (Rn.v rfl rfl rfl rfl (V.mv rfl) (Rn.v rfl rfl rfl rfl (V.lenV Try.underlying22 rfl) (Rn.v rfl rfl rfl rfl (V.mv rfl) (Rn.regEnd ?_)))))))
      obtain ⟨j1, hj1, hM⟩ := jnE hM
      refine Rn.joinG (r := r) (G := Unit) (fun g => []) (fun g w' => Hp Z0 No w w' [slR A1 c1 T_api_Pair.rep x1]) (fun g => j1 ()) ?_ ?_
      · subst hj1
        clear hM
        rintro _ w7 hm7 hM
        replace hm7 : Hp Z0 No w w7 [slR A1 c1 T_api_Pair.rep x1] := hm7
        show Rn _ _ _ _ _ [] _
        try dsimp only at hM
        refine Rn.seq (Rn.reg (Rn.v rfl rfl rfl rfl (V.as rfl) (Rn.regEnd ?_)))
        refine Rn.retG1 Try.func11 rfl (rvT rfl) ?_
        obtain rfl := someE hM
        exact ⟨rfl, hm7.pick [] rfl (by decide)⟩
      intro hk1
      clear hj1
      refine Rn.block ?_
      refine Rn.loopF (G := Int) (fun g => [(1, .slice A1 (x1).length c1), (13, .slice A1 (x1).length c1), (14, .int .i64 ((x1.length : Int))), (15, .int .i64 (g))]) (fun g w' => Hp Z0 No w w' [slR A1 c1 T_api_Pair.rep x1]) (fun n g => m_label_Check_L1 x1 j1 n g) fuel 0 (Sub.cons rfl (Sub.cons rfl (Sub.cons rfl (Sub.cons rfl (Sub.nil _))))) (hm4.pick [0] rfl (by decide)) hM (fun _ => rfl) ?_
      clear hM
      rintro m9 y8 w9 hm9 hM hn9
      replace hm9 : Hp Z0 No w w9 [slR A1 c1 T_api_Pair.rep x1] := hm9
      show Rn _ _ _ _ _ [(1, .slice A1 (x1).length c1), (13, .slice A1 (x1).length c1), (14, .int .i64 ((x1.length : Int))), (15, .int .i64 (y8))] _
      replace hM : m_label_Check_L1 x1 j1 (m9 + 1) y8 = some r := hM
      rw [m_label_Check_L1] at hM
      refine Rn.seq (Rn.reg (Rn.v rfl rfl rfl rfl (V.lss rfl rfl) (Rn.regEnd (Rn.seq ?_))))
      refine Rn.condD rfl (fun h10 => ?_) (fun h10 => ?_)
      · replace hM := iteT h10 hM
        refine Rn.skip (Rn.seq (Rn.block (Rn.seq (Rn.reg (Rn.v rfl rfl rfl rfl (V.mv rfl) ?_)))))
        obtain ⟨z11, e11, hM⟩ := bindE hM
        refine Rn.ixH hm9 0 rfl e11 rfl rfl rfl Try.underlying22 Try.sizeOf40 rfl rfl rfl rfl ?_
        rintro b11 o11 vs11 ⟨_, _, rfl, ⟨rfl, _⟩, ⟨rfl, _⟩⟩ hm11
        refine Rn.v rfl rfl rfl rfl (V.ldA Try.isAgg40 Try.sizeOf40 rfl (Rd.pre (hm11.get 1 rfl).2 2) rfl) (Rn.alloc rfl rfl rfl Try.zeroValue40 rfl ?_)
        intro b13 w13 hb13 m13 e13
        have hm15 : Hp Z0 No w w13 [slR A1 c1 T_api_Pair.rep x1, rdR b11 o11 [Str (z11.Key), Str (z11.Val)], boxR b13 40 [Str (([] : List UInt8)), Str (([] : List UInt8))]] := hm11.addBox hb13 e13 m13
        refine Rn.v rfl rfl rfl rfl (V.as rfl) (Rn.st rfl rfl Try.sizeOf40 rfl rfl rfl rfl (by first | exact ones rfl | (simp [Value.oneCell']; done)) (hm15.get 2 rfl) (by first | exact Nat.le_of_ble_eq_true rfl | (simp; done)) ?_)
        intro w16 m16 x16
        have hm17 : Hp Z0 No w w16 [slR A1 c1 T_api_Pair.rep x1, rdR b11 o11 [Str (z11.Key), Str (z11.Val)], boxR b13 40 [Str (z11.Key), Str (z11.Val)]] := hm15.st 2 rfl x16 m16
        refine Rn.regEnd (Rn.seq (Rn.seq (Rn.reg (Rn.v rfl rfl rfl rfl (V.fa Try.underlying40 rfl Try.sizeOf9 rfl rfl) (Rn.v rfl rfl rfl rfl (V.ldB Try.isAgg9 rfl (hm17.get 2 rfl) rfl) ?_)))))
        obtain ⟨p18, e18, hM⟩ := bindE hM
        refine Rn.cl ck21 rfl rfl rfl rfl (m_label_isName_sim (Z0 := All) _ z11.Key  e18) ?_
        rintro _ w18 ⟨rfl, hq18⟩
        refine ⟨_, rfl, ?_⟩
        have hm19 := hm17.call0 hq18
        refine Rn.v rfl rfl rfl rfl (V.notB rfl) (Rn.v rfl rfl rfl rfl (V.mv rfl) ?_)
        obtain ⟨j2, hj2, hM⟩ := jnE hM
        refine Rn.joinR (r := r) (G := Bool) [] (fun g => [(1, .slice A1 (x1).length c1), (5, .int .i64 (y8)), (6, .pointer (some ⟨b13, 0, none⟩)), (13, .slice A1 (x1).length c1), (14, .int .i64 ((x1.length : Int))), (15, .int .i64 (y8)), (29, .bool (g))]) (fun g w' => Hp Z0 No w w' [slR A1 c1 T_api_Pair.rep x1, rdR b11 o11 [Str (z11.Key), Str (z11.Val)], boxR b13 40 [Str (z11.Key), Str (z11.Val)]]) (fun g => j2 g) ?_ ?_
        · subst hj2
          clear hM
          rintro y20 w21 hm21 hM
          replace hm21 : Hp Z0 No w w21 [slR A1 c1 T_api_Pair.rep x1, rdR b11 o11 [Str (z11.Key), Str (z11.Val)], boxR b13 40 [Str (z11.Key), Str (z11.Val)]] := hm21
          show Rn _ _ _ _ _ [(1, .slice A1 (x1).length c1), (5, .int .i64 (y8)), (6, .pointer (some ⟨b13, 0, none⟩)), (13, .slice A1 (x1).length c1), (14, .int .i64 ((x1.length : Int))), (15, .int .i64 (y8)), (29, .bool (y20))] _
          try dsimp only at hM
          refine Rn.regEnd ?_
          refine Rn.condS rfl (fun h22 => ?_) (fun h22 => ?_)
          · replace hM := iteT h22 hM
            refine Rn.seq (Rn.reg (Rn.v rfl rfl rfl rfl (V.as rfl) (Rn.regEnd ?_)))
            refine Rn.retG1 Try.func11 rfl (rvT rfl) ?_
            obtain rfl := someE hM
            exact ⟨rfl, hm21.pick [] rfl (by decide)⟩
          · replace hM := iteF (by rw [h22]; exact Bool.false_ne_true) hM
            refine Rn.skip (Rn.seq (Rn.reg (Rn.v rfl rfl rfl rfl (V.mv rfl) (Rn.v rfl rfl rfl rfl (V.mv rfl) ?_))))
            obtain ⟨z23, e23, hM⟩ := bindE hM
            refine Rn.cutH hm21 0 rfl e23 rfl rfl rfl Try.underlying22 Try.sizeOf40 rfl rfl rfl rfl rfl ?_
            intro A23 c23 hm23
            refine Rn.v rfl rfl rfl rfl (V.mkF rfl) ?_
            obtain ⟨p25, e25, hM⟩ := bindE hM
            refine Rn.cl ck23 rfl rfl rfl rfl (m_slices_ContainsFunc_api_Pair_api_Pair_s2_sim (Z0 := All) _ A23 c23 z23 z11 b13 0 (slR_all (hm23.get 3 rfl)) (box_rdR (hm23.get 2 rfl)) e25) ?_
            rintro _ w25 ⟨rfl, hq25⟩
            refine ⟨_, rfl, ?_⟩
            have hm26 := hm23.call0 hq25
            refine Rn.regEnd ?_
            refine Rn.condS rfl (fun h27 => ?_) (fun h27 => ?_)
            · replace hM := iteT h27 hM
              refine Rn.seq (Rn.reg (Rn.v rfl rfl rfl rfl (V.as rfl) (Rn.regEnd ?_)))
              refine Rn.retG1 Try.func11 rfl (rvT rfl) ?_
              obtain rfl := someE hM
              exact ⟨rfl, hm26.pick [] rfl (by decide)⟩
            · replace hM := iteF (by rw [h27]; exact Bool.false_ne_true) hM
              refine Rn.skip (Rn.inBlock (Rn.reg (Rn.v rfl rfl rfl rfl (V.addW rfl rfl) (Rn.v rfl rfl rfl rfl (V.mv rfl) (Rn.regEnd ?_)))))
              exact hn9 (W64 (y8 + 1)) _ _ (Sub.cons rfl (Sub.cons rfl (Sub.cons rfl (Sub.cons rfl (Sub.nil _))))) (hm26.pick [0] rfl (by decide)) hM
        intro hk2
        clear hj2
        refine Rn.part (t := 24) rfl (fun h28 => ?_) (fun h28 => ?_)
        · replace hM := iteT h28 hM
          refine Rn.no rfl rfl rfl rfl (Rn.no rfl rfl rfl rfl (Rn.no rfl rfl rfl rfl (Rn.no rfl rfl rfl rfl (Rn.v rfl rfl rfl rfl (V.pkT rfl rfl) ?_))))
          exact hk2 true _ _ (Sub.cons rfl (Sub.cons rfl (Sub.cons rfl (Sub.cons rfl (Sub.cons rfl (Sub.cons rfl (Sub.cons rfl (Sub.nil _)))))))) (hm19.pick [0, 1, 2] rfl (by decide)) hM
        · replace hM := iteF (by rw [h28]; exact Bool.false_ne_true) hM
          refine Rn.v rfl rfl rfl rfl (V.fa Try.underlying40 rfl Try.sizeOf9 rfl rfl) (Rn.v rfl rfl rfl rfl (V.ldB Try.isAgg9 rfl (hm19.get 2 rfl) rfl) ?_)
          obtain ⟨p29, e29, hM⟩ := bindE hM
          refine Rn.cl ck22 rfl rfl rfl rfl (m_label_isValue_sim (Z0 := All) _ z11.Val  e29) ?_
          rintro _ w29 ⟨rfl, hq29⟩
          refine ⟨_, rfl, ?_⟩
          have hm30 := hm19.call0 hq29
          refine Rn.v rfl rfl rfl rfl (V.notB rfl) (Rn.v rfl rfl rfl rfl (V.pkF rfl rfl) ?_)
          exact hk2 (!p29) _ _ (Sub.cons rfl (Sub.cons rfl (Sub.cons rfl (Sub.cons rfl (Sub.cons rfl (Sub.cons rfl (Sub.cons rfl (Sub.nil _)))))))) (hm30.pick [0, 1, 2] rfl (by decide)) hM
      · replace hM := iteF h10 hM
        refine Rn.exit rfl ?_
        exact hk1 () _ _ (Sub.nil _) (hm9.pick [0] rfl (by decide)) hM

set_option maxRecDepth 20000 in
theorem m_cmp_isNaN_string_sim {Z0 : Nat → Prop} (w : World) (x0 : (List UInt8)) {r : Bool}  (hM : m_cmp_isNaN_string x0 = some r) :
    Calls Try.prog 40 #[Str (x0)] w fun x w' => x = .returned (.bool (r)) ∧ Hp Z0 No w w' [] := by
  have hm0 := Hp.nil Z0 No w
  have hc0 := Calm.nil
  refine Rn.enter Try.func40 rfl rfl (Nat.le_of_ble_eq_true rfl) ?_
  refine Rn.seq (Rn.reg (Rn.v rfl rfl rfl rfl (V.as rfl) (Rn.regEnd (Rn.seq (Rn.reg (Rn.v rfl rfl rfl rfl (V.mv rfl) (Rn.v rfl rfl rfl rfl (V.mv rfl) (Rn.v rfl rfl rfl rfl (V.neqS rfl rfl) (Rn.v rfl rfl rfl rfl (V.as rfl) (Rn.regEnd ?_))))))))))
  refine Rn.retG1 Try.func40 rfl (rvT rfl) ?_
  obtain rfl := someE hM
  exact ⟨rfl, hm0.pick [] rfl (by decide)⟩

set_option maxRecDepth 20000 in
theorem m_cmp_Compare_string_sim {Z0 : Nat → Prop} (w : World) (x0 : (List UInt8)) (x1 : (List UInt8)) {r : Int}  (hM : m_cmp_Compare_string x0 x1 = some r) :
    Calls Try.prog 28 #[Str (x0), Str (x1)] w fun x w' => x = .returned (.int .i64 (r)) ∧ Hp Z0 No w w' [] := by
  have hm0 := Hp.nil Z0 No w
  have hc0 := Calm.nil
  refine Rn.enter Try.func28 rfl rfl (Nat.le_of_ble_eq_true rfl) ?_
  refine Rn.seq (Rn.reg (Rn.v rfl rfl rfl rfl (V.as rfl) (Rn.regEnd (Rn.seq (Rn.reg (Rn.v rfl rfl rfl rfl (V.mv rfl) ?_))))))
  obtain ⟨p1, e1, hM⟩ := bindE hM
  refine Rn.cl ck40 rfl rfl rfl rfl (m_cmp_isNaN_string_sim (Z0 := All) _ x0  e1) ?_
  rintro _ w1 ⟨rfl, hq1⟩
  refine ⟨_, rfl, ?_⟩
  have hm2 := hm0.call0 hq1
  refine Rn.v rfl rfl rfl rfl (V.as rfl) (Rn.regEnd (Rn.seq (Rn.reg (Rn.v rfl rfl rfl rfl (V.mv rfl) ?_))))
  obtain ⟨p3, e3, hM⟩ := bindE hM
  refine Rn.cl ck40 rfl rfl rfl rfl (m_cmp_isNaN_string_sim (Z0 := All) _ x1  e3) ?_
  rintro _ w3 ⟨rfl, hq3⟩
  refine ⟨_, rfl, ?_⟩
  have hm4 := hm2.call0 hq3
  refine Rn.v rfl rfl rfl rfl (V.as rfl) (Rn.regEnd (Rn.seq (Rn.seq (Rn.reg (Rn.v rfl rfl rfl rfl (V.mv rfl) (Rn.regEnd ?_))))))
  refine Rn.condS rfl (fun h5 => ?_) (fun h5 => ?_)
  · replace hM := iteT h5 hM
    refine Rn.seq (Rn.seq (Rn.reg (Rn.v rfl rfl rfl rfl (V.mv rfl) (Rn.regEnd ?_))))
    refine Rn.condS rfl (fun h6 => ?_) (fun h6 => ?_)
    · replace hM := iteT h6 hM
      refine Rn.seq (Rn.reg (Rn.v rfl rfl rfl rfl (V.as rfl) (Rn.regEnd ?_)))
      refine Rn.retG1 Try.func28 rfl (rvT rfl) ?_
      obtain rfl := someE hM
      exact ⟨rfl, hm4.pick [] rfl (by decide)⟩
    · replace hM := iteF (by rw [h6]; exact Bool.false_ne_true) hM
      refine Rn.skip (Rn.seq (Rn.reg (Rn.v rfl rfl rfl rfl (V.as rfl) (Rn.regEnd ?_))))
      refine Rn.retG1 Try.func28 rfl (rvT rfl) ?_
      obtain rfl := someE hM
      exact ⟨rfl, hm4.pick [] rfl (by decide)⟩
  · replace hM := iteF (by rw [h5]; exact Bool.false_ne_true) hM
    refine Rn.skip (Rn.seq (Rn.seq (Rn.reg (Rn.v rfl rfl rfl rfl (V.mv rfl) (Rn.regEnd ?_)))))
    refine Rn.condS rfl (fun h7 => ?_) (fun h7 => ?_)
    · replace hM := iteT h7 hM
      refine Rn.seq (Rn.reg (Rn.v rfl rfl rfl rfl (V.as rfl) (Rn.regEnd ?_)))
      refine Rn.retG1 Try.func28 rfl (rvT rfl) ?_
      obtain rfl := someE hM
      exact ⟨rfl, hm4.pick [] rfl (by decide)⟩
    · replace hM := iteF (by rw [h7]; exact Bool.false_ne_true) hM
      refine Rn.skip (Rn.seq (Rn.seq (Rn.reg (Rn.v rfl rfl rfl rfl (V.mv rfl) (Rn.v rfl rfl rfl rfl (V.mv rfl) (Rn.v rfl rfl rfl rfl (V.lssS rfl rfl) (Rn.regEnd ?_)))))))
      refine Rn.condS rfl (fun h8 => ?_) (fun h8 => ?_)
      · replace hM := iteT h8 hM
        refine Rn.seq (Rn.reg (Rn.v rfl rfl rfl rfl (V.as rfl) (Rn.regEnd ?_)))
        refine Rn.retG1 Try.func28 rfl (rvT rfl) ?_
        obtain rfl := someE hM
        exact ⟨rfl, hm4.pick [] rfl (by decide)⟩
      · replace hM := iteF (by rw [h8]; exact Bool.false_ne_true) hM
        refine Rn.skip (Rn.seq (Rn.seq (Rn.reg (Rn.v rfl rfl rfl rfl (V.mv rfl) (Rn.v rfl rfl rfl rfl (V.mv rfl) (Rn.v rfl rfl rfl rfl (V.gtrS rfl rfl) (Rn.regEnd ?_)))))))
        refine Rn.condS rfl (fun h9 => ?_) (fun h9 => ?_)
        · replace hM := iteT h9 hM
          refine Rn.seq (Rn.reg (Rn.v rfl rfl rfl rfl (V.as rfl) (Rn.regEnd ?_)))
          refine Rn.retG1 Try.func28 rfl (rvT rfl) ?_
          obtain rfl := someE hM
          exact ⟨rfl, hm4.pick [] rfl (by decide)⟩
        · replace hM := iteF (by rw [h9]; exact Bool.false_ne_true) hM
          refine Rn.skip (Rn.seq (Rn.reg (Rn.v rfl rfl rfl rfl (V.as rfl) (Rn.regEnd ?_))))
          refine Rn.retG1 Try.func28 rfl (rvT rfl) ?_
          obtain rfl := someE hM
          exact ⟨rfl, hm4.pick [] rfl (by decide)⟩

set_option maxRecDepth 20000 in
theorem m_label_Sorted_1_sim {Z0 : Nat → Prop} (w : World) (x0 : T_api_Pair) (x1 : T_api_Pair) {r : Int}  (hM : m_label_Sorted_1 x0 x1 = some r) :
    Calls Try.prog 27 #[.agg [Str (x0.Key), Str (x0.Val)].toArray, .agg [Str (x1.Key), Str (x1.Val)].toArray] w fun x w' => x = .returned (.int .i64 (r)) ∧ Hp Z0 No w w' [] := by
  have hm0 := Hp.nil Z0 No w
  have hc0 := Calm.nil
  refine Rn.enter Try.func27 rfl rfl (Nat.le_of_ble_eq_true rfl) ?_
  refine Rn.seq (Rn.reg (Rn.box rfl rfl rfl rfl rfl ?_))
  intro b1 w1 hb1 m1 e1
  have hm3 : Hp Z0 No w w1 [boxR b1 40 [Str (x0.Key), Str (x0.Val)]] := hm0.addBox hb1 e1 m1
  refine Rn.box rfl rfl rfl rfl rfl ?_
  intro b4 w4 hb4 m4 e4
  have hm6 : Hp Z0 No w w4 [boxR b1 40 [Str (x0.Key), Str (x0.Val)], boxR b4 40 [Str (x1.Key), Str (x1.Val)]] := hm3.addBox hb4 e4 m4
  refine Rn.v rfl rfl rfl rfl (V.as rfl) (Rn.regEnd (Rn.seq (Rn.reg (Rn.v rfl rfl rfl rfl (V.fa Try.underlying40 rfl Try.sizeOf9 rfl rfl) (Rn.v rfl rfl rfl rfl (V.ldB Try.isAgg9 rfl (hm6.get 0 rfl) rfl) (Rn.v rfl rfl rfl rfl (V.fa Try.underlying40 rfl Try.sizeOf9 rfl rfl) (Rn.v rfl rfl rfl rfl (V.ldB Try.isAgg9 rfl (hm6.get 1 rfl) rfl) ?_)))))))
  obtain ⟨p7, e7, hM⟩ := bindE hM
  refine Rn.cl ck28 rfl rfl rfl rfl (m_cmp_Compare_string_sim (Z0 := All) _ x0.Key x1.Key  e7) ?_
  rintro _ w7 ⟨rfl, hq7⟩
  refine ⟨_, rfl, ?_⟩
  have hm8 := hm6.call0 hq7
  refine Rn.v rfl rfl rfl rfl (V.as rfl) (Rn.regEnd ?_)
  refine Rn.retG1 Try.func27 rfl (rvT rfl) ?_
  obtain rfl := someE hM
  exact ⟨rfl, hm8.pick [] rfl (by decide)⟩

set_option maxRecDepth 20000 in
theorem m_slices_insertionSortCmpFunc_api_Pair_s2_sim {Z0 : Nat → Prop} (w : World) (A0 : Option Addr) (c0 : Nat) (x0 : (List T_api_Pair)) (x1 : Int) (x2 : Int) {r : (List T_api_Pair)} (hL : Lent Z0 w [ownR 40 A0 c0 T_api_Pair.rep x0]) (hM : m_slices_insertionSortCmpFunc_api_Pair_s2 x0 x1 x2 = some r) :
    Calls Try.prog 44 #[.slice A0 (x0).length c0, .int .i64 (x1), .int .i64 (x2), .func (.func 27) #[] [].toArray] w fun x w' => x = .returned (.tuple #[]) ∧ Hp Z0 (LS [ownR 40 A0 c0 T_api_Pair.rep x0]) w w' [ownR 40 A0 c0 T_api_Pair.rep r] ∧ (r).length = (x0).length := by
  have hm0 := hL.start
  refine Rn.enter Try.func44 rfl rfl (Nat.le_of_ble_eq_true rfl) ?_
  refine Rn.seq (Rn.reg (Rn.v rfl rfl rfl rfl (V.mv rfl) (Rn.v rfl rfl rfl rfl (V.addW rfl rfl) (Rn.v rfl rfl rfl rfl (V.as rfl) (Rn.regEnd ?_)))))
  obtain ⟨j1, hj1, hM⟩ := jnE hM
  refine Rn.joinG (r := r) (G := (List T_api_Pair)) (fun g => []) (fun g w' => Hp Z0 (LS [ownR 40 A0 c0 T_api_Pair.rep x0]) w w' [ownR 40 A0 c0 T_api_Pair.rep g] ∧ g.length = (x0).length) (fun g => j1 g) ?_ ?_
  · subst hj1
    clear hM
    rintro y2 w3 ⟨hm3, hl2⟩ hM
    replace hl2 : y2.length = (x0).length := hl2
    replace hm3 : Hp Z0 (LS [ownR 40 A0 c0 T_api_Pair.rep x0]) w w3 [ownR 40 A0 c0 T_api_Pair.rep y2] := hm3
    show Rn _ _ _ _ _ [] _
    try dsimp only at hM
    refine Rn.end0 Try.func44 rfl ?_
    obtain rfl := someE hM
    exact ⟨rfl, hm3.pick [0] rfl (by decide), hl2⟩
  intro hk1
  clear hj1
  refine Rn.block ?_
  refine Rn.loopF (G := (List T_api_Pair) × Int) (fun g => [(0, .slice A0 (x0).length c0), (1, .int .i64 (x1)), (2, .int .i64 (x2)), (3, .func (.func 27) #[] [].toArray), (8, .int .i64 ((g.2)))]) (fun g w' => Hp Z0 (LS [ownR 40 A0 c0 T_api_Pair.rep x0]) w w' [ownR 40 A0 c0 T_api_Pair.rep (g.1)] ∧ (g.1).length = (x0).length) (fun n g => m_slices_insertionSortCmpFunc_api_Pair_s2_L1 x1 x2 j1 n g.1 g.2) fuel (x0, (W64 (x1 + 1))) (Sub.cons rfl (Sub.cons rfl (Sub.cons rfl (Sub.cons rfl (Sub.cons rfl (Sub.nil _)))))) (⟨hm0.pick [0] rfl (by decide), rfl⟩) hM (fun _ => rfl) ?_
  clear hM
  rintro m6 ⟨y4, y5⟩ w6 ⟨hm6, hl4⟩ hM hn6
  replace hl4 : y4.length = (x0).length := hl4
  replace hm6 : Hp Z0 (LS [ownR 40 A0 c0 T_api_Pair.rep x0]) w w6 [ownR 40 A0 c0 T_api_Pair.rep y4] := hm6
  show Rn _ _ _ _ _ [(0, .slice A0 (x0).length c0), (1, .int .i64 (x1)), (2, .int .i64 (x2)), (3, .func (.func 27) #[] [].toArray), (8, .int .i64 (y5))] _
  replace hM : m_slices_insertionSortCmpFunc_api_Pair_s2_L1 x1 x2 j1 (m6 + 1) y4 y5 = some r := hM
  rw [m_slices_insertionSortCmpFunc_api_Pair_s2_L1] at hM
  refine Rn.seq (Rn.seq (Rn.reg (Rn.v rfl rfl rfl rfl (V.mv rfl) (Rn.v rfl rfl rfl rfl (V.mv rfl) (Rn.v rfl rfl rfl rfl (V.lss rfl rfl) (Rn.regEnd ?_))))))
  refine Rn.condD rfl (fun h7 => ?_) (fun h7 => ?_)
  · replace hM := iteT h7 hM
    refine Rn.skip (Rn.seq (Rn.block (Rn.seq (Rn.reg (Rn.v rfl rfl rfl rfl (V.mv rfl) (Rn.v rfl rfl rfl rfl (V.as rfl) (Rn.regEnd ?_)))))))
    obtain ⟨j2, hj2, hM⟩ := jnE hM
    refine Rn.joinG (r := r) (G := (List T_api_Pair)) (fun g => [(0, .slice A0 (x0).length c0), (1, .int .i64 (x1)), (2, .int .i64 (x2)), (3, .func (.func 27) #[] [].toArray), (8, .int .i64 (y5))]) (fun g w' => Hp Z0 (LS [ownR 40 A0 c0 T_api_Pair.rep x0]) w w' [ownR 40 A0 c0 T_api_Pair.rep g] ∧ g.length = (x0).length) (fun g => j2 g) ?_ ?_
    · subst hj2
      clear hM
      rintro y8 w9 ⟨hm9, hl8⟩ hM
      replace hl8 : y8.length = (x0).length := hl8
      replace hm9 : Hp Z0 (LS [ownR 40 A0 c0 T_api_Pair.rep x0]) w w9 [ownR 40 A0 c0 T_api_Pair.rep y8] := hm9
      show Rn _ _ _ _ _ [(0, .slice A0 (x0).length c0), (1, .int .i64 (x1)), (2, .int .i64 (x2)), (3, .func (.func 27) #[] [].toArray), (8, .int .i64 (y5))] _
      try dsimp only at hM
      refine Rn.inBlock (Rn.reg (Rn.v rfl rfl rfl rfl (V.mv rfl) (Rn.v rfl rfl rfl rfl (V.addW rfl rfl) (Rn.v rfl rfl rfl rfl (V.as rfl) (Rn.regEnd ?_)))))
      exact hn6 (y8, (W64 (y5 + 1))) _ _ (Sub.cons rfl (Sub.cons rfl (Sub.cons rfl (Sub.cons rfl (Sub.cons rfl (Sub.nil _)))))) (⟨hm9.pick [0] rfl (by decide), hl8⟩) hM
    intro hk2
    clear hj2
    refine Rn.block ?_
    refine Rn.loopF (G := (List T_api_Pair) × Int) (fun g => [(0, .slice A0 (x0).length c0), (1, .int .i64 (x1)), (2, .int .i64 (x2)), (3, .func (.func 27) #[] [].toArray), (8, .int .i64 (y5)), (9, .int .i64 ((g.2)))]) (fun g w' => Hp Z0 (LS [ownR 40 A0 c0 T_api_Pair.rep x0]) w w' [ownR 40 A0 c0 T_api_Pair.rep (g.1)] ∧ (g.1).length = (x0).length) (fun n g => m_slices_insertionSortCmpFunc_api_Pair_s2_L2 x1 j2 n g.1 g.2) fuel (y4, y5) (Sub.cons rfl (Sub.cons rfl (Sub.cons rfl (Sub.cons rfl (Sub.cons rfl (Sub.cons rfl (Sub.nil _))))))) (⟨hm6.pick [0] rfl (by decide), hl4⟩) hM (fun _ => rfl) ?_
    clear hM
    rintro m12 ⟨y10, y11⟩ w12 ⟨hm12, hl10⟩ hM hn12
    replace hl10 : y10.length = (x0).length := hl10
    replace hm12 : Hp Z0 (LS [ownR 40 A0 c0 T_api_Pair.rep x0]) w w12 [ownR 40 A0 c0 T_api_Pair.rep y10] := hm12
    show Rn _ _ _ _ _ [(0, .slice A0 (x0).length c0), (1, .int .i64 (x1)), (2, .int .i64 (x2)), (3, .func (.func 27) #[] [].toArray), (8, .int .i64 (y5)), (9, .int .i64 (y11))] _
    replace hM : m_slices_insertionSortCmpFunc_api_Pair_s2_L2 x1 j2 (m12 + 1) y10 y11 = some r := hM
    rw [m_slices_insertionSortCmpFunc_api_Pair_s2_L2] at hM
    refine Rn.seq (Rn.seq ?_)
    obtain ⟨j3, hj3, hM⟩ := jnE hM
    refine Rn.joinG (r := r) (G := Bool) (fun g => [(0, .slice A0 (x0).length c0), (1, .int .i64 (x1)), (2, .int .i64 (x2)), (3, .func (.func 27) #[] [].toArray), (8, .int .i64 (y5)), (9, .int .i64 (y11)), (34, .bool (g))]) (fun g w' => Hp Z0 (LS [ownR 40 A0 c0 T_api_Pair.rep x0]) w w' [ownR 40 A0 c0 T_api_Pair.rep y10]) (fun g => j3 g) ?_ ?_
    · subst hj3
      clear hM
      rintro y13 w14 hm14 hM
      replace hm14 : Hp Z0 (LS [ownR 40 A0 c0 T_api_Pair.rep x0]) w w14 [ownR 40 A0 c0 T_api_Pair.rep y10] := hm14
      show Rn _ _ _ _ _ [(0, .slice A0 (x0).length c0), (1, .int .i64 (x1)), (2, .int .i64 (x2)), (3, .func (.func 27) #[] [].toArray), (8, .int .i64 (y5)), (9, .int .i64 (y11)), (34, .bool (y13))] _
      try dsimp only at hM
      refine Rn.condS rfl (fun h15 => ?_) (fun h15 => ?_)
      · replace hM := iteT h15 hM
        refine Rn.skip (Rn.seq (Rn.block ?_))
        refine Rn.drawX rfl hm14 ?_
        intro w16 hm16
        refine RH.take 0 (by kernel_rfl) rfl rfl rfl rfl (fun w' hDr => V.mv rfl) ?_
        refine RH.take 1 (by kernel_rfl) rfl rfl rfl rfl (fun w' hDr => V.mv rfl) ?_
        refine RH.take 2 (by kernel_rfl) rfl rfl rfl rfl (fun w' hDr => V.mv rfl) ?_
        refine RH.take 3 (by kernel_rfl) rfl rfl rfl rfl (fun w' hDr => V.mv rfl) ?_
        refine RH.take 4 (by kernel_rfl) rfl rfl rfl rfl (fun w' hDr => V.subW rfl rfl) ?_
        refine RH.take 5 (by kernel_rfl) rfl rfl rfl rfl (fun w' hDr => V.mv rfl) ?_
        refine RH.take 6 (by kernel_rfl) rfl rfl rfl rfl (fun w' hDr => V.mv rfl) ?_
        refine RH.take 7 (by kernel_rfl) rfl rfl rfl rfl (fun w' hDr => V.subW rfl rfl) ?_
        obtain ⟨z17, e17, hM⟩ := bindE hM
        obtain ⟨kk17, ke17, kz17, kl17⟩ := idxE e17
        obtain ⟨g17, vs17, hA17, hR17, hrel17⟩ := hm16.ownAt 0 rfl kz17
        subst hA17
        obtain ⟨_, _, rfl, ⟨rfl, _⟩, ⟨rfl, _⟩⟩ := hrel17
        refine RH.take 8 (by kernel_rfl) rfl rfl rfl rfl (fun w' hDr => V.ixE kk17 Try.underlying22 Try.sizeOf40 rfl rfl ke17 (Nat.lt_of_lt_of_eq kl17 hl10)) ?_
        refine RH.take 10 (by kernel_rfl) rfl rfl rfl rfl (fun w' hDr => V.mv rfl) ?_
        refine RH.take 11 (by kernel_rfl) rfl rfl rfl rfl (fun w' hDr => V.mv rfl) ?_
        obtain ⟨z18, e18, hM⟩ := bindE hM
        obtain ⟨kk18, ke18, kz18, kl18⟩ := idxE e18
        obtain ⟨vs18, hR18, hrel18⟩ := hm16.ownAtL 0 rfl kz18
        obtain ⟨_, _, rfl, ⟨rfl, _⟩, ⟨rfl, _⟩⟩ := hrel18
        refine RH.take 12 (by kernel_rfl) rfl rfl rfl rfl (fun w' hDr => V.ixE kk18 Try.underlying22 Try.sizeOf40 rfl rfl ke18 (Nat.lt_of_lt_of_eq kl18 hl10)) ?_
        refine RH.two 9 13 (by kernel_rfl) rfl rfl rfl rfl (V.ldA Try.isAgg40 Try.sizeOf40 rfl (Rd.pre hR17 2) rfl) rfl rfl rfl rfl (V.ldA Try.isAgg40 Try.sizeOf40 rfl (Rd.pre hR18 2) rfl) ?_ ?_
        · refine RH.here fun hS13 => RH.one 13 (by kernel_rfl) rfl rfl rfl rfl (V.ldA Try.isAgg40 Try.sizeOf40 rfl (Rd.pre hR18 2) rfl) hS13 ?_
          obtain ⟨z20, e20, hM⟩ := bindE hM
          obtain ⟨kk20, ke20, kz20, kl20⟩ := idxE e20
          obtain ⟨vs20, hR20, hrel20⟩ := hm16.ownAtL 0 rfl kz20
          obtain ⟨_, _, rfl, ⟨rfl, _⟩, ⟨rfl, _⟩⟩ := hrel20
          refine RH.here fun hS14 => RH.one 14 (by kernel_rfl) rfl rfl rfl rfl (V.ixE kk20 Try.underlying22 Try.sizeOf40 rfl rfl ke20 (Nat.lt_of_lt_of_eq kl20 hl10)) hS14 ?_
          refine RH.stI 15 (by kernel_rfl) hm16 0 rfl ke20 kl20 rfl rfl Try.sizeOf40 rfl rfl rfl (vs := [Str (z17.Key), Str (z17.Val)]) rfl (⟨_, _, rfl, ⟨rfl, trivial⟩, ⟨rfl, trivial⟩⟩) ?_
          intro w21 hm21
          refine ⟨trivial, ?_⟩
          obtain ⟨z22, e22, hM⟩ := bindE hM
          obtain ⟨kk22, ke22, kz22, kl22⟩ := idxE e22
          obtain ⟨vs22, hR22, hrel22⟩ := hm21.ownAtL 0 rfl kz22
          obtain ⟨_, _, rfl, ⟨rfl, _⟩, ⟨rfl, _⟩⟩ := hrel22
          refine RH.here fun hS16 => RH.one 16 (by kernel_rfl) rfl rfl rfl rfl (V.ixE kk22 Try.underlying22 Try.sizeOf40 rfl rfl ke22 (Nat.lt_of_lt_of_eq kl22 ((length_setI _ _ _).trans hl10))) hS16 ?_
          refine RH.stI 17 (by kernel_rfl) hm21 0 rfl ke22 kl22 rfl rfl Try.sizeOf40 rfl rfl rfl (vs := [Str (z18.Key), Str (z18.Val)]) rfl (⟨_, _, rfl, ⟨rfl, trivial⟩, ⟨rfl, trivial⟩⟩) ?_
          intro w23 hm23
          refine ⟨trivial, ?_⟩
          refine RH.doneP (by kernel_rfl) ?_
          refine Rn.inBlock (Rn.reg (Rn.v rfl rfl rfl rfl (V.mv rfl) (Rn.v rfl rfl rfl rfl (V.subW rfl rfl) (Rn.v rfl rfl rfl rfl (V.as rfl) (Rn.regEnd ?_)))))
          exact hn12 ((setI (setI y10 y11 z17) (W64 (y11 - 1)) z18), (W64 (y11 - 1))) _ _ (Sub.cons rfl (Sub.cons rfl (Sub.cons rfl (Sub.cons rfl (Sub.cons rfl (Sub.cons rfl (Sub.nil _))))))) (⟨hm23.pick [0] rfl (by decide), ((length_setI _ _ _).trans ((length_setI _ _ _).trans hl10))⟩) hM
        · refine RH.here fun hS9 => RH.one 9 (by kernel_rfl) rfl rfl rfl rfl (V.ldA Try.isAgg40 Try.sizeOf40 rfl (Rd.pre hR17 2) rfl) hS9 ?_
          obtain ⟨z24, e24, hM⟩ := bindE hM
          obtain ⟨kk24, ke24, kz24, kl24⟩ := idxE e24
          obtain ⟨vs24, hR24, hrel24⟩ := hm16.ownAtL 0 rfl kz24
          obtain ⟨_, _, rfl, ⟨rfl, _⟩, ⟨rfl, _⟩⟩ := hrel24
          refine RH.here fun hS14 => RH.one 14 (by kernel_rfl) rfl rfl rfl rfl (V.ixE kk24 Try.underlying22 Try.sizeOf40 rfl rfl ke24 (Nat.lt_of_lt_of_eq kl24 hl10)) hS14 ?_
          refine RH.stI 15 (by kernel_rfl) hm16 0 rfl ke24 kl24 rfl rfl Try.sizeOf40 rfl rfl rfl (vs := [Str (z17.Key), Str (z17.Val)]) rfl (⟨_, _, rfl, ⟨rfl, trivial⟩, ⟨rfl, trivial⟩⟩) ?_
          intro w25 hm25
          refine ⟨trivial, ?_⟩
          obtain ⟨z26, e26, hM⟩ := bindE hM
          obtain ⟨kk26, ke26, kz26, kl26⟩ := idxE e26
          obtain ⟨vs26, hR26, hrel26⟩ := hm25.ownAtL 0 rfl kz26
          obtain ⟨_, _, rfl, ⟨rfl, _⟩, ⟨rfl, _⟩⟩ := hrel26
          refine RH.here fun hS16 => RH.one 16 (by kernel_rfl) rfl rfl rfl rfl (V.ixE kk26 Try.underlying22 Try.sizeOf40 rfl rfl ke26 (Nat.lt_of_lt_of_eq kl26 ((length_setI _ _ _).trans hl10))) hS16 ?_
          refine RH.stI 17 (by kernel_rfl) hm25 0 rfl ke26 kl26 rfl rfl Try.sizeOf40 rfl rfl rfl (vs := [Str (z18.Key), Str (z18.Val)]) rfl (⟨_, _, rfl, ⟨rfl, trivial⟩, ⟨rfl, trivial⟩⟩) ?_
          intro w27 hm27
          refine ⟨trivial, ?_⟩
          refine RH.doneP (by kernel_rfl) ?_
          refine Rn.inBlock (Rn.reg (Rn.v rfl rfl rfl rfl (V.mv rfl) (Rn.v rfl rfl rfl rfl (V.subW rfl rfl) (Rn.v rfl rfl rfl rfl (V.as rfl) (Rn.regEnd ?_)))))
          exact hn12 ((setI (setI y10 y11 z17) (W64 (y11 - 1)) z18), (W64 (y11 - 1))) _ _ (Sub.cons rfl (Sub.cons rfl (Sub.cons rfl (Sub.cons rfl (Sub.cons rfl (Sub.cons rfl (Sub.nil _))))))) (⟨hm27.pick [0] rfl (by decide), ((length_setI _ _ _).trans ((length_setI _ _ _).trans hl10))⟩) hM
      · replace hM := iteF (by rw [h15]; exact Bool.false_ne_true) hM
        refine Rn.exit rfl ?_
        exact hk2 y10 _ _ (Sub.cons rfl (Sub.cons rfl (Sub.cons rfl (Sub.cons rfl (Sub.cons rfl (Sub.nil _)))))) (⟨hm14.pick [0] rfl (by decide), hl10⟩) hM
    intro hk3
    clear hj3
    refine Rn.drawH rfl hm12 ?_
    intro w28 hm28
    refine RH.take 0 (by kernel_rfl) rfl rfl rfl rfl (fun w' hDr => V.mv rfl) ?_
    refine RH.here fun hS1 => RH.one 1 (by kernel_rfl) rfl rfl rfl rfl (V.mv rfl) hS1 ?_
    refine RH.here fun hS2 => RH.one 2 (by kernel_rfl) rfl rfl rfl rfl (V.gtr rfl rfl) hS2 ?_
    refine RH.here fun hS3 => RH.one 3 (by kernel_rfl) rfl rfl rfl rfl (V.mv rfl) hS3 ?_
    refine RH.partD (t := 21) rfl (fun h29 => ?_) (fun h29 => ?_)
    · replace hM := iteT h29 hM
      refine RH.take 4 (by kernel_rfl) rfl rfl rfl rfl (fun w' hDr => V.mv rfl) ?_
      refine RH.take 5 (by kernel_rfl) rfl rfl rfl rfl (fun w' hDr => V.mv rfl) ?_
      refine RH.take 6 (by kernel_rfl) rfl rfl rfl rfl (fun w' hDr => V.mv rfl) ?_
      obtain ⟨z30, e30, hM⟩ := bindE hM
      obtain ⟨kk30, ke30, kz30, kl30⟩ := idxE e30
      obtain ⟨g30, vs30, hA30, hR30, hrel30⟩ := hm28.ownAt 0 rfl kz30
      subst hA30
      obtain ⟨_, _, rfl, ⟨rfl, _⟩, ⟨rfl, _⟩⟩ := hrel30
      refine RH.take 7 (by kernel_rfl) rfl rfl rfl rfl (fun w' hDr => V.ixE kk30 Try.underlying22 Try.sizeOf40 rfl rfl ke30 (Nat.lt_of_lt_of_eq kl30 hl10)) ?_
      refine RH.take 8 (by kernel_rfl) rfl rfl rfl rfl (fun w' hDr => V.ldA Try.isAgg40 Try.sizeOf40 rfl (Rd.pre (hR30.ext hDr) 2) rfl) ?_
      refine RH.take 9 (by kernel_rfl) rfl rfl rfl rfl (fun w' hDr => V.mv rfl) ?_
      refine RH.here fun hS10 => RH.one 10 (by kernel_rfl) rfl rfl rfl rfl (V.mv rfl) hS10 ?_
      refine RH.here fun hS11 => RH.one 11 (by kernel_rfl) rfl rfl rfl rfl (V.subW rfl rfl) hS11 ?_
      obtain ⟨z31, e31, hM⟩ := bindE hM
      obtain ⟨kk31, ke31, kz31, kl31⟩ := idxE e31
      obtain ⟨vs31, hR31, hrel31⟩ := hm28.ownAtL 0 rfl kz31
      obtain ⟨_, _, rfl, ⟨rfl, _⟩, ⟨rfl, _⟩⟩ := hrel31
      refine RH.here fun hS12 => RH.one 12 (by kernel_rfl) rfl rfl rfl rfl (V.ixE kk31 Try.underlying22 Try.sizeOf40 rfl rfl ke31 (Nat.lt_of_lt_of_eq kl31 hl10)) hS12 ?_
      refine RH.here fun hS13 => RH.one 13 (by kernel_rfl) rfl rfl rfl rfl (V.ldA Try.isAgg40 Try.sizeOf40 rfl (Rd.pre hR31 2) rfl) hS13 ?_
      obtain ⟨p32, e32, hM⟩ := bindE hM
      refine RH.clV ck27 14 (by kernel_rfl) rfl rfl rfl rfl rfl (m_label_Sorted_1_sim (Z0 := All) _ z30 z31  e32) ?_
      rintro _ w32 ⟨rfl, hq32⟩
      refine ⟨_, rfl, ((Ext.refl _).trans hq32.fr), ?_⟩
      have hm33 := hm28.call0 hq32
      refine RH.here fun hS15 => RH.one 15 (by kernel_rfl) rfl rfl rfl rfl (V.lss rfl rfl) hS15 ?_
      refine RH.here fun hS16 => RH.one 16 (by kernel_rfl) rfl rfl rfl rfl (V.pkT rfl rfl) hS16 ?_
      refine RH.doneP (by kernel_rfl) ?_
      exact hk3 (decide (p32 < 0)) _ _ (Sub.cons rfl (Sub.cons rfl (Sub.cons rfl (Sub.cons rfl (Sub.cons rfl (Sub.cons rfl (Sub.cons rfl (Sub.nil _)))))))) (hm33.pick [0] rfl (by decide)) hM
    · replace hM := iteF h29 hM
      refine RH.no 4 (by kernel_rfl) rfl rfl rfl rfl ?_
      refine RH.no 5 (by kernel_rfl) rfl rfl rfl rfl ?_
      refine RH.no 6 (by kernel_rfl) rfl rfl rfl rfl ?_
      refine RH.no 7 (by kernel_rfl) rfl rfl rfl rfl ?_
      refine RH.no 8 (by kernel_rfl) rfl rfl rfl rfl ?_
      refine RH.no 9 (by kernel_rfl) rfl rfl rfl rfl ?_
      refine RH.no 10 (by kernel_rfl) rfl rfl rfl rfl ?_
      refine RH.no 11 (by kernel_rfl) rfl rfl rfl rfl ?_
      refine RH.no 12 (by kernel_rfl) rfl rfl rfl rfl ?_
      refine RH.no 13 (by kernel_rfl) rfl rfl rfl rfl ?_
      refine RH.no 14 (by kernel_rfl) rfl rfl rfl rfl ?_
      refine RH.no 15 (by kernel_rfl) rfl rfl rfl rfl ?_
      refine RH.here fun hS16 => RH.one 16 (by kernel_rfl) rfl rfl rfl rfl (V.pkF rfl rfl) hS16 ?_
      refine RH.doneP (by kernel_rfl) ?_
      exact hk3 false _ _ (Sub.cons rfl (Sub.cons rfl (Sub.cons rfl (Sub.cons rfl (Sub.cons rfl (Sub.cons rfl (Sub.cons rfl (Sub.nil _)))))))) (hm28.pick [0] rfl (by decide)) hM
  · replace hM := iteF h7 hM
    refine Rn.exit rfl ?_
    exact hk1 y4 _ _ (Sub.nil _) (⟨hm6.pick [0] rfl (by decide), hl4⟩) hM

set_option maxRecDepth 20000 in
theorem m_slices_swapRangeCmpFunc_api_Pair_s2_sim {Z0 : Nat → Prop} (w : World) (A0 : Option Addr) (c0 : Nat) (x0 : (List T_api_Pair)) (x1 : Int) (x2 : Int) (x3 : Int) {r : (List T_api_Pair)} (hL : Lent Z0 w [ownR 40 A0 c0 T_api_Pair.rep x0]) (hM : m_slices_swapRangeCmpFunc_api_Pair_s2 x0 x1 x2 x3 = some r) :
    Calls Try.prog 52 #[.slice A0 (x0).length c0, .int .i64 (x1), .int .i64 (x2), .int .i64 (x3), .func (.func 27) #[] [].toArray] w fun x w' => x = .returned (.tuple #[]) ∧ Hp Z0 (LS [ownR 40 A0 c0 T_api_Pair.rep x0]) w w' [ownR 40 A0 c0 T_api_Pair.rep r] ∧ (r).length = (x0).length := by
  have hm0 := hL.start
  refine Rn.enter Try.func52 rfl rfl (Nat.le_of_ble_eq_true rfl) ?_
  refine Rn.seq (Rn.reg (Rn.v rfl rfl rfl rfl (V.as rfl) (Rn.regEnd ?_)))
  obtain ⟨j1, hj1, hM⟩ := jnE hM
  refine Rn.joinG (r := r) (G := (List T_api_Pair)) (fun g => []) (fun g w' => Hp Z0 (LS [ownR 40 A0 c0 T_api_Pair.rep x0]) w w' [ownR 40 A0 c0 T_api_Pair.rep g] ∧ g.length = (x0).length) (fun g => j1 g) ?_ ?_
  · subst hj1
    clear hM
    rintro y2 w3 ⟨hm3, hl2⟩ hM
    replace hl2 : y2.length = (x0).length := hl2
    replace hm3 : Hp Z0 (LS [ownR 40 A0 c0 T_api_Pair.rep x0]) w w3 [ownR 40 A0 c0 T_api_Pair.rep y2] := hm3
    show Rn _ _ _ _ _ [] _
    try dsimp only at hM
    refine Rn.end0 Try.func52 rfl ?_
    obtain rfl := someE hM
    exact ⟨rfl, hm3.pick [0] rfl (by decide), hl2⟩
  intro hk1
  clear hj1
  refine Rn.block ?_
  refine Rn.loopF (G := (List T_api_Pair) × Int) (fun g => [(0, .slice A0 (x0).length c0), (1, .int .i64 (x1)), (2, .int .i64 (x2)), (3, .int .i64 (x3)), (10, .int .i64 ((g.2)))]) (fun g w' => Hp Z0 (LS [ownR 40 A0 c0 T_api_Pair.rep x0]) w w' [ownR 40 A0 c0 T_api_Pair.rep (g.1)] ∧ (g.1).length = (x0).length) (fun n g => m_slices_swapRangeCmpFunc_api_Pair_s2_L1 x1 x2 x3 j1 n g.1 g.2) fuel (x0, 0) (Sub.cons rfl (Sub.cons rfl (Sub.cons rfl (Sub.cons rfl (Sub.cons rfl (Sub.nil _)))))) (⟨hm0.pick [0] rfl (by decide), rfl⟩) hM (fun _ => rfl) ?_
  clear hM
  rintro m6 ⟨y4, y5⟩ w6 ⟨hm6, hl4⟩ hM hn6
  replace hl4 : y4.length = (x0).length := hl4
  replace hm6 : Hp Z0 (LS [ownR 40 A0 c0 T_api_Pair.rep x0]) w w6 [ownR 40 A0 c0 T_api_Pair.rep y4] := hm6
  show Rn _ _ _ _ _ [(0, .slice A0 (x0).length c0), (1, .int .i64 (x1)), (2, .int .i64 (x2)), (3, .int .i64 (x3)), (10, .int .i64 (y5))] _
  replace hM : m_slices_swapRangeCmpFunc_api_Pair_s2_L1 x1 x2 x3 j1 (m6 + 1) y4 y5 = some r := hM
  rw [m_slices_swapRangeCmpFunc_api_Pair_s2_L1] at hM
  refine Rn.seq (Rn.seq (Rn.reg (Rn.v rfl rfl rfl rfl (V.mv rfl) (Rn.v rfl rfl rfl rfl (V.mv rfl) (Rn.v rfl rfl rfl rfl (V.lss rfl rfl) (Rn.regEnd ?_))))))
  refine Rn.condD rfl (fun h7 => ?_) (fun h7 => ?_)
  · replace hM := iteT h7 hM
    refine Rn.skip (Rn.seq (Rn.block ?_))
    refine Rn.drawX rfl hm6 ?_
    intro w8 hm8
    refine RH.take 0 (by kernel_rfl) rfl rfl rfl rfl (fun w' hDr => V.mv rfl) ?_
    refine RH.take 1 (by kernel_rfl) rfl rfl rfl rfl (fun w' hDr => V.mv rfl) ?_
    refine RH.take 2 (by kernel_rfl) rfl rfl rfl rfl (fun w' hDr => V.mv rfl) ?_
    refine RH.take 3 (by kernel_rfl) rfl rfl rfl rfl (fun w' hDr => V.addW rfl rfl) ?_
    refine RH.take 4 (by kernel_rfl) rfl rfl rfl rfl (fun w' hDr => V.mv rfl) ?_
    refine RH.take 5 (by kernel_rfl) rfl rfl rfl rfl (fun w' hDr => V.mv rfl) ?_
    refine RH.take 6 (by kernel_rfl) rfl rfl rfl rfl (fun w' hDr => V.mv rfl) ?_
    refine RH.take 7 (by kernel_rfl) rfl rfl rfl rfl (fun w' hDr => V.addW rfl rfl) ?_
    refine RH.take 8 (by kernel_rfl) rfl rfl rfl rfl (fun w' hDr => V.mv rfl) ?_
    refine RH.take 9 (by kernel_rfl) rfl rfl rfl rfl (fun w' hDr => V.mv rfl) ?_
    refine RH.take 10 (by kernel_rfl) rfl rfl rfl rfl (fun w' hDr => V.mv rfl) ?_
    refine RH.take 11 (by kernel_rfl) rfl rfl rfl rfl (fun w' hDr => V.addW rfl rfl) ?_
    obtain ⟨z9, e9, hM⟩ := bindE hM
    obtain ⟨kk9, ke9, kz9, kl9⟩ := idxE e9
    obtain ⟨g9, vs9, hA9, hR9, hrel9⟩ := hm8.ownAt 0 rfl kz9
    subst hA9
    obtain ⟨_, _, rfl, ⟨rfl, _⟩, ⟨rfl, _⟩⟩ := hrel9
    refine RH.take 12 (by kernel_rfl) rfl rfl rfl rfl (fun w' hDr => V.ixE kk9 Try.underlying22 Try.sizeOf40 rfl rfl ke9 (Nat.lt_of_lt_of_eq kl9 hl4)) ?_
    refine RH.take 14 (by kernel_rfl) rfl rfl rfl rfl (fun w' hDr => V.mv rfl) ?_
    refine RH.take 15 (by kernel_rfl) rfl rfl rfl rfl (fun w' hDr => V.mv rfl) ?_
    refine RH.take 16 (by kernel_rfl) rfl rfl rfl rfl (fun w' hDr => V.mv rfl) ?_
    refine RH.take 17 (by kernel_rfl) rfl rfl rfl rfl (fun w' hDr => V.addW rfl rfl) ?_
    obtain ⟨z10, e10, hM⟩ := bindE hM
    obtain ⟨kk10, ke10, kz10, kl10⟩ := idxE e10
    obtain ⟨vs10, hR10, hrel10⟩ := hm8.ownAtL 0 rfl kz10
    obtain ⟨_, _, rfl, ⟨rfl, _⟩, ⟨rfl, _⟩⟩ := hrel10
    refine RH.take 18 (by kernel_rfl) rfl rfl rfl rfl (fun w' hDr => V.ixE kk10 Try.underlying22 Try.sizeOf40 rfl rfl ke10 (Nat.lt_of_lt_of_eq kl10 hl4)) ?_
    refine RH.two 13 19 (by kernel_rfl) rfl rfl rfl rfl (V.ldA Try.isAgg40 Try.sizeOf40 rfl (Rd.pre hR9 2) rfl) rfl rfl rfl rfl (V.ldA Try.isAgg40 Try.sizeOf40 rfl (Rd.pre hR10 2) rfl) ?_ ?_
    · refine RH.here fun hS19 => RH.one 19 (by kernel_rfl) rfl rfl rfl rfl (V.ldA Try.isAgg40 Try.sizeOf40 rfl (Rd.pre hR10 2) rfl) hS19 ?_
      obtain ⟨z12, e12, hM⟩ := bindE hM
      obtain ⟨kk12, ke12, kz12, kl12⟩ := idxE e12
      obtain ⟨vs12, hR12, hrel12⟩ := hm8.ownAtL 0 rfl kz12
      obtain ⟨_, _, rfl, ⟨rfl, _⟩, ⟨rfl, _⟩⟩ := hrel12
      refine RH.here fun hS20 => RH.one 20 (by kernel_rfl) rfl rfl rfl rfl (V.ixE kk12 Try.underlying22 Try.sizeOf40 rfl rfl ke12 (Nat.lt_of_lt_of_eq kl12 hl4)) hS20 ?_
      refine RH.stI 21 (by kernel_rfl) hm8 0 rfl ke12 kl12 rfl rfl Try.sizeOf40 rfl rfl rfl (vs := [Str (z9.Key), Str (z9.Val)]) rfl (⟨_, _, rfl, ⟨rfl, trivial⟩, ⟨rfl, trivial⟩⟩) ?_
      intro w13 hm13
      refine ⟨trivial, ?_⟩
      obtain ⟨z14, e14, hM⟩ := bindE hM
      obtain ⟨kk14, ke14, kz14, kl14⟩ := idxE e14
      obtain ⟨vs14, hR14, hrel14⟩ := hm13.ownAtL 0 rfl kz14
      obtain ⟨_, _, rfl, ⟨rfl, _⟩, ⟨rfl, _⟩⟩ := hrel14
      refine RH.here fun hS22 => RH.one 22 (by kernel_rfl) rfl rfl rfl rfl (V.ixE kk14 Try.underlying22 Try.sizeOf40 rfl rfl ke14 (Nat.lt_of_lt_of_eq kl14 ((length_setI _ _ _).trans hl4))) hS22 ?_
      refine RH.stI 23 (by kernel_rfl) hm13 0 rfl ke14 kl14 rfl rfl Try.sizeOf40 rfl rfl rfl (vs := [Str (z10.Key), Str (z10.Val)]) rfl (⟨_, _, rfl, ⟨rfl, trivial⟩, ⟨rfl, trivial⟩⟩) ?_
      intro w15 hm15
      refine ⟨trivial, ?_⟩
      refine RH.doneP (by kernel_rfl) ?_
      refine Rn.inBlock (Rn.reg (Rn.v rfl rfl rfl rfl (V.mv rfl) (Rn.v rfl rfl rfl rfl (V.addW rfl rfl) (Rn.v rfl rfl rfl rfl (V.as rfl) (Rn.regEnd ?_)))))
      exact hn6 ((setI (setI y4 (W64 (x1 + y5)) z9) (W64 (x2 + y5)) z10), (W64 (y5 + 1))) _ _ (Sub.cons rfl (Sub.cons rfl (Sub.cons rfl (Sub.cons rfl (Sub.cons rfl (Sub.nil _)))))) (⟨hm15.pick [0] rfl (by decide), ((length_setI _ _ _).trans ((length_setI _ _ _).trans hl4))⟩) hM
    · refine RH.here fun hS13 => RH.one 13 (by kernel_rfl) rfl rfl rfl rfl (V.ldA Try.isAgg40 Try.sizeOf40 rfl (Rd.pre hR9 2) rfl) hS13 ?_
      obtain ⟨z16, e16, hM⟩ := bindE hM
      obtain ⟨kk16, ke16, kz16, kl16⟩ := idxE e16
      obtain ⟨vs16, hR16, hrel16⟩ := hm8.ownAtL 0 rfl kz16
      obtain ⟨_, _, rfl, ⟨rfl, _⟩, ⟨rfl, _⟩⟩ := hrel16
      refine RH.here fun hS20 => RH.one 20 (by kernel_rfl) rfl rfl rfl rfl (V.ixE kk16 Try.underlying22 Try.sizeOf40 rfl rfl ke16 (Nat.lt_of_lt_of_eq kl16 hl4)) hS20 ?_
      refine RH.stI 21 (by kernel_rfl) hm8 0 rfl ke16 kl16 rfl rfl Try.sizeOf40 rfl rfl rfl (vs := [Str (z9.Key), Str (z9.Val)]) rfl (⟨_, _, rfl, ⟨rfl, trivial⟩, ⟨rfl, trivial⟩⟩) ?_
      intro w17 hm17
      refine ⟨trivial, ?_⟩
      obtain ⟨z18, e18, hM⟩ := bindE hM
      obtain ⟨kk18, ke18, kz18, kl18⟩ := idxE e18
      obtain ⟨vs18, hR18, hrel18⟩ := hm17.ownAtL 0 rfl kz18
      obtain ⟨_, _, rfl, ⟨rfl, _⟩, ⟨rfl, _⟩⟩ := hrel18
      refine RH.here fun hS22 => RH.one 22 (by kernel_rfl) rfl rfl rfl rfl (V.ixE kk18 Try.underlying22 Try.sizeOf40 rfl rfl ke18 (Nat.lt_of_lt_of_eq kl18 ((length_setI _ _ _).trans hl4))) hS22 ?_
      refine RH.stI 23 (by kernel_rfl) hm17 0 rfl ke18 kl18 rfl rfl Try.sizeOf40 rfl rfl rfl (vs := [Str (z10.Key), Str (z10.Val)]) rfl (⟨_, _, rfl, ⟨rfl, trivial⟩, ⟨rfl, trivial⟩⟩) ?_
      intro w19 hm19
      refine ⟨trivial, ?_⟩
      refine RH.doneP (by kernel_rfl) ?_
      refine Rn.inBlock (Rn.reg (Rn.v rfl rfl rfl rfl (V.mv rfl) (Rn.v rfl rfl rfl rfl (V.addW rfl rfl) (Rn.v rfl rfl rfl rfl (V.as rfl) (Rn.regEnd ?_)))))
      exact hn6 ((setI (setI y4 (W64 (x1 + y5)) z9) (W64 (x2 + y5)) z10), (W64 (y5 + 1))) _ _ (Sub.cons rfl (Sub.cons rfl (Sub.cons rfl (Sub.cons rfl (Sub.cons rfl (Sub.nil _)))))) (⟨hm19.pick [0] rfl (by decide), ((length_setI _ _ _).trans ((length_setI _ _ _).trans hl4))⟩) hM
  · replace hM := iteF h7 hM
    refine Rn.exit rfl ?_
    exact hk1 y4 _ _ (Sub.nil _) (⟨hm6.pick [0] rfl (by decide), hl4⟩) hM

set_option maxRecDepth 20000 in
theorem m_slices_rotateCmpFunc_api_Pair_s2_sim {Z0 : Nat → Prop} (w : World) (A0 : Option Addr) (c0 : Nat) (x0 : (List T_api_Pair)) (x1 : Int) (x2 : Int) (x3 : Int) {r : (List T_api_Pair)} (hL : Lent Z0 w [ownR 40 A0 c0 T_api_Pair.rep x0]) (hM : m_slices_rotateCmpFunc_api_Pair_s2 x0 x1 x2 x3 = some r) :
    Calls Try.prog 47 #[.slice A0 (x0).length c0, .int .i64 (x1), .int .i64 (x2), .int .i64 (x3), .func (.func 27) #[] [].toArray] w fun x w' => x = .returned (.tuple #[]) ∧ Hp Z0 (LS [ownR 40 A0 c0 T_api_Pair.rep x0]) w w' [ownR 40 A0 c0 T_api_Pair.rep r] ∧ (r).length = (x0).length := by
  have hm0 := hL.start
  refine Rn.enter Try.func47 rfl rfl (Nat.le_of_ble_eq_true rfl) ?_
  refine Rn.seq (Rn.reg (Rn.v rfl rfl rfl rfl (V.mv rfl) (Rn.v rfl rfl rfl rfl (V.mv rfl) (Rn.v rfl rfl rfl rfl (V.subW rfl rfl) (Rn.v rfl rfl rfl rfl (V.as rfl) (Rn.regEnd (Rn.seq (Rn.reg (Rn.v rfl rfl rfl rfl (V.mv rfl) (Rn.v rfl rfl rfl rfl (V.mv rfl) (Rn.v rfl rfl rfl rfl (V.subW rfl rfl) (Rn.v rfl rfl rfl rfl (V.as rfl) (Rn.regEnd (Rn.seq ?_))))))))))))))
  obtain ⟨j1, hj1, hM⟩ := jnE hM
  refine Rn.joinG (r := r) (G := (List T_api_Pair) × Int) (fun g => [(0, .slice A0 (x0).length c0), (2, .int .i64 (x2)), (4, .func (.func 27) #[] [].toArray), (10, .int .i64 ((g.2)))]) (fun g w' => Hp Z0 (LS [ownR 40 A0 c0 T_api_Pair.rep x0]) w w' [ownR 40 A0 c0 T_api_Pair.rep (g.1)] ∧ (g.1).length = (x0).length) (fun g => j1 g.1 g.2) ?_ ?_
  · subst hj1
    clear hM
    rintro ⟨y2, y3⟩ w4 ⟨hm4, hl2⟩ hM
    replace hl2 : y2.length = (x0).length := hl2
    replace hm4 : Hp Z0 (LS [ownR 40 A0 c0 T_api_Pair.rep x0]) w w4 [ownR 40 A0 c0 T_api_Pair.rep y2] := hm4
    show Rn _ _ _ _ _ [(0, .slice A0 (x0).length c0), (2, .int .i64 (x2)), (4, .func (.func 27) #[] [].toArray), (10, .int .i64 (y3))] _
    try dsimp only at hM
    refine Rn.reg (Rn.v rfl rfl rfl rfl (V.mv rfl) (Rn.v rfl rfl rfl rfl (V.mv rfl) (Rn.v rfl rfl rfl rfl (V.mv rfl) (Rn.v rfl rfl rfl rfl (V.subW rfl rfl) (Rn.v rfl rfl rfl rfl (V.mv rfl) (Rn.v rfl rfl rfl rfl (V.mv rfl) (Rn.v rfl rfl rfl rfl (V.mv rfl) ?_)))))))
    refine Rn.say (t := 0) (.slice A0 (y2).length c0) rfl (by rw [show (x0).length = (y2).length from (hl2).symm.trans (rfl)]) ?_
    refine Rn.say (t := 50) (.slice A0 (y2).length c0) rfl (by rw [show (x0).length = (y2).length from (hl2).symm.trans (rfl)]) ?_
    obtain ⟨p5, e5, hM⟩ := bindE hM
    have hm6 : Hp Z0 (LS [ownR 40 A0 c0 T_api_Pair.rep x0]) w w4 ([] ++ [ownR 40 A0 c0 T_api_Pair.rep y2]) := hm4.pick [0] rfl (by decide)
    refine Rn.cl ck52 rfl rfl rfl rfl (m_slices_swapRangeCmpFunc_api_Pair_s2_sim (Z0 := _) _ A0 c0 y2 (W64 (x2 - y3)) x2 y3 hm6.lend e5) ?_
    rintro _ w5 ⟨rfl, hq5, hl5_0⟩
    refine ⟨_, rfl, ?_⟩
    have hm8 : Hp Z0 (LS [ownR 40 A0 c0 T_api_Pair.rep x0]) w w5 [ownR 40 A0 c0 T_api_Pair.rep p5] := hm6.callAZ hq5
    refine Rn.regEnd ?_
    refine Rn.end0 Try.func47 rfl ?_
    obtain rfl := someE hM
    exact ⟨rfl, hm8.pick [0] rfl (by decide), (hl5_0.trans hl2)⟩
  intro hk1
  clear hj1
  refine Rn.block ?_
  refine Rn.loopF (G := (List T_api_Pair) × Int × Int) (fun g => [(0, .slice A0 (x0).length c0), (2, .int .i64 (x2)), (4, .func (.func 27) #[] [].toArray), (10, .int .i64 ((g.2.1))), (11, .int .i64 ((g.2.2)))]) (fun g w' => Hp Z0 (LS [ownR 40 A0 c0 T_api_Pair.rep x0]) w w' [ownR 40 A0 c0 T_api_Pair.rep (g.1)] ∧ (g.1).length = (x0).length) (fun n g => m_slices_rotateCmpFunc_api_Pair_s2_L1 x2 j1 n g.1 g.2.1 g.2.2) fuel (x0, (W64 (x2 - x1)), (W64 (x3 - x2))) (Sub.cons rfl (Sub.cons rfl (Sub.cons rfl (Sub.cons rfl (Sub.cons rfl (Sub.nil _)))))) (⟨hm0.pick [0] rfl (by decide), rfl⟩) hM (fun _ => rfl) ?_
  clear hM
  rintro m12 ⟨y9, y10, y11⟩ w12 ⟨hm12, hl9⟩ hM hn12
  replace hl9 : y9.length = (x0).length := hl9
  replace hm12 : Hp Z0 (LS [ownR 40 A0 c0 T_api_Pair.rep x0]) w w12 [ownR 40 A0 c0 T_api_Pair.rep y9] := hm12
  show Rn _ _ _ _ _ [(0, .slice A0 (x0).length c0), (2, .int .i64 (x2)), (4, .func (.func 27) #[] [].toArray), (10, .int .i64 (y10)), (11, .int .i64 (y11))] _
  replace hM : m_slices_rotateCmpFunc_api_Pair_s2_L1 x2 j1 (m12 + 1) y9 y10 y11 = some r := hM
  rw [m_slices_rotateCmpFunc_api_Pair_s2_L1] at hM
  refine Rn.seq (Rn.seq (Rn.reg (Rn.v rfl rfl rfl rfl (V.mv rfl) (Rn.v rfl rfl rfl rfl (V.mv rfl) (Rn.v rfl rfl rfl rfl (V.neq rfl rfl) (Rn.regEnd ?_))))))
  refine Rn.condD rfl (fun h13 => ?_) (fun h13 => ?_)
  · replace hM := iteT h13 hM
    refine Rn.skip (Rn.block (Rn.seq (Rn.reg (Rn.v rfl rfl rfl rfl (V.mv rfl) (Rn.v rfl rfl rfl rfl (V.mv rfl) (Rn.v rfl rfl rfl rfl (V.gtr rfl rfl) (Rn.regEnd ?_)))))))
    refine Rn.condD rfl (fun h14 => ?_) (fun h14 => ?_)
    · replace hM := iteT h14 hM
      refine Rn.seq (Rn.reg (Rn.v rfl rfl rfl rfl (V.mv rfl) (Rn.v rfl rfl rfl rfl (V.mv rfl) (Rn.v rfl rfl rfl rfl (V.mv rfl) (Rn.v rfl rfl rfl rfl (V.subW rfl rfl) (Rn.v rfl rfl rfl rfl (V.mv rfl) (Rn.v rfl rfl rfl rfl (V.mv rfl) (Rn.v rfl rfl rfl rfl (V.mv rfl) ?_))))))))
      refine Rn.say (t := 0) (.slice A0 (y9).length c0) rfl (by rw [show (x0).length = (y9).length from (hl9).symm.trans (rfl)]) ?_
      refine Rn.say (t := 24) (.slice A0 (y9).length c0) rfl (by rw [show (x0).length = (y9).length from (hl9).symm.trans (rfl)]) ?_
      obtain ⟨p15, e15, hM⟩ := bindE hM
      have hm16 : Hp Z0 (LS [ownR 40 A0 c0 T_api_Pair.rep x0]) w w12 ([] ++ [ownR 40 A0 c0 T_api_Pair.rep y9]) := hm12.pick [0] rfl (by decide)
      refine Rn.cl ck52 rfl rfl rfl rfl (m_slices_swapRangeCmpFunc_api_Pair_s2_sim (Z0 := _) _ A0 c0 y9 (W64 (x2 - y10)) x2 y11 hm16.lend e15) ?_
      rintro _ w15 ⟨rfl, hq15, hl15_0⟩
      refine ⟨_, rfl, ?_⟩
      have hm18 : Hp Z0 (LS [ownR 40 A0 c0 T_api_Pair.rep x0]) w w15 [ownR 40 A0 c0 T_api_Pair.rep p15] := hm16.callAZ hq15
      refine Rn.regEnd (Rn.reg (Rn.v rfl rfl rfl rfl (V.mv rfl) (Rn.v rfl rfl rfl rfl (V.mv rfl) (Rn.v rfl rfl rfl rfl (V.subW rfl rfl) (Rn.v rfl rfl rfl rfl (V.as rfl) (Rn.regEnd (Rn.inBlock ?_)))))))
      refine Rn.say (t := 0) (.slice A0 (x0).length c0) rfl (by rw [show (y9).length = (x0).length from (hl15_0).symm.trans ((hl15_0.trans hl9))]) ?_
      refine Rn.say (t := 24) (.slice A0 (x0).length c0) rfl (by rw [show (y9).length = (x0).length from (hl15_0).symm.trans ((hl15_0.trans hl9))]) ?_
      exact hn12 (p15, (W64 (y10 - y11)), y11) _ _ (Sub.cons rfl (Sub.cons rfl (Sub.cons rfl (Sub.cons rfl (Sub.cons rfl (Sub.nil _)))))) (⟨hm18.pick [0] rfl (by decide), (hl15_0.trans hl9)⟩) hM
    · replace hM := iteF h14 hM
      refine Rn.seq (Rn.reg (Rn.v rfl rfl rfl rfl (V.mv rfl) (Rn.v rfl rfl rfl rfl (V.mv rfl) (Rn.v rfl rfl rfl rfl (V.mv rfl) (Rn.v rfl rfl rfl rfl (V.subW rfl rfl) (Rn.v rfl rfl rfl rfl (V.mv rfl) (Rn.v rfl rfl rfl rfl (V.mv rfl) (Rn.v rfl rfl rfl rfl (V.addW rfl rfl) (Rn.v rfl rfl rfl rfl (V.mv rfl) (Rn.v rfl rfl rfl rfl (V.subW rfl rfl) (Rn.v rfl rfl rfl rfl (V.mv rfl) (Rn.v rfl rfl rfl rfl (V.mv rfl) ?_))))))))))))
      refine Rn.say (t := 0) (.slice A0 (y9).length c0) rfl (by rw [show (x0).length = (y9).length from (hl9).symm.trans (rfl)]) ?_
      refine Rn.say (t := 35) (.slice A0 (y9).length c0) rfl (by rw [show (x0).length = (y9).length from (hl9).symm.trans (rfl)]) ?_
      obtain ⟨p19, e19, hM⟩ := bindE hM
      have hm20 : Hp Z0 (LS [ownR 40 A0 c0 T_api_Pair.rep x0]) w w12 ([] ++ [ownR 40 A0 c0 T_api_Pair.rep y9]) := hm12.pick [0] rfl (by decide)
      refine Rn.cl ck52 rfl rfl rfl rfl (m_slices_swapRangeCmpFunc_api_Pair_s2_sim (Z0 := _) _ A0 c0 y9 (W64 (x2 - y10)) (W64 ((W64 (x2 + y11)) - y10)) y10 hm20.lend e19) ?_
      rintro _ w19 ⟨rfl, hq19, hl19_0⟩
      refine ⟨_, rfl, ?_⟩
      have hm22 : Hp Z0 (LS [ownR 40 A0 c0 T_api_Pair.rep x0]) w w19 [ownR 40 A0 c0 T_api_Pair.rep p19] := hm20.callAZ hq19
      refine Rn.regEnd (Rn.reg (Rn.v rfl rfl rfl rfl (V.mv rfl) (Rn.v rfl rfl rfl rfl (V.mv rfl) (Rn.v rfl rfl rfl rfl (V.subW rfl rfl) (Rn.v rfl rfl rfl rfl (V.as rfl) (Rn.regEnd (Rn.inBlock ?_)))))))
      refine Rn.say (t := 0) (.slice A0 (x0).length c0) rfl (by rw [show (y9).length = (x0).length from (hl19_0).symm.trans ((hl19_0.trans hl9))]) ?_
      refine Rn.say (t := 35) (.slice A0 (x0).length c0) rfl (by rw [show (y9).length = (x0).length from (hl19_0).symm.trans ((hl19_0.trans hl9))]) ?_
      exact hn12 (p19, y10, (W64 (y11 - y10))) _ _ (Sub.cons rfl (Sub.cons rfl (Sub.cons rfl (Sub.cons rfl (Sub.cons rfl (Sub.nil _)))))) (⟨hm22.pick [0] rfl (by decide), (hl19_0.trans hl9)⟩) hM
  · replace hM := iteF h13 hM
    refine Rn.exit rfl ?_
    exact hk1 (y9, y10) _ _ (Sub.cons rfl (Sub.cons rfl (Sub.cons rfl (Sub.cons rfl (Sub.nil _))))) (⟨hm12.pick [0] rfl (by decide), hl9⟩) hM

set_option maxRecDepth 20000 in
theorem m_slices_symMergeCmpFunc_api_Pair_s2_sim {Z0 : Nat → Prop} (w : World) (A0 : Option Addr) (c0 : Nat) (x0 : (List T_api_Pair)) (x1 : Int) (x2 : Int) (x3 : Int) {r : (List T_api_Pair)} (hL : Lent Z0 w [ownR 40 A0 c0 T_api_Pair.rep x0]) (hM : m_slices_symMergeCmpFunc_api_Pair_s2 x0 x1 x2 x3 = some r) :
    Calls Try.prog 45 #[.slice A0 (x0).length c0, .int .i64 (x1), .int .i64 (x2), .int .i64 (x3), .func (.func 27) #[] [].toArray] w fun x w' => x = .returned (.tuple #[]) ∧ Hp Z0 (LS [ownR 40 A0 c0 T_api_Pair.rep x0]) w w' [ownR 40 A0 c0 T_api_Pair.rep r] ∧ (r).length = (x0).length := by
  have hm0 := hL.start
  refine Rn.enter Try.func45 rfl rfl (Nat.le_of_ble_eq_true rfl) ?_
  refine Rn.seq (Rn.seq (Rn.reg (Rn.v rfl rfl rfl rfl (V.mv rfl) (Rn.v rfl rfl rfl rfl (V.mv rfl) (Rn.v rfl rfl rfl rfl (V.subW rfl rfl) (Rn.v rfl rfl rfl rfl (V.eql rfl rfl) (Rn.regEnd ?_)))))))
  refine Rn.condD rfl (fun h2 => ?_) (fun h2 => ?_)
  · replace hM := iteT h2 hM
    refine Rn.seq (Rn.reg (Rn.v rfl rfl rfl rfl (V.mv rfl) (Rn.v rfl rfl rfl rfl (V.as rfl) (Rn.regEnd (Rn.seq (Rn.reg (Rn.v rfl rfl rfl rfl (V.mv rfl) (Rn.v rfl rfl rfl rfl (V.as rfl) (Rn.regEnd (Rn.seq ?_))))))))))
    obtain ⟨j1, hj1, hM⟩ := jnE hM
    refine Rn.joinG (r := r) (G := Int) (fun g => [(0, .slice A0 (x0).length c0), (1, .int .i64 (x1)), (10, .int .i64 (g))]) (fun g w' => Hp Z0 (LS [ownR 40 A0 c0 T_api_Pair.rep x0]) w w' [ownR 40 A0 c0 T_api_Pair.rep x0]) (fun g => j1 g) ?_ ?_
    · subst hj1
      clear hM
      rintro y3 w4 hm4 hM
      replace hm4 : Hp Z0 (LS [ownR 40 A0 c0 T_api_Pair.rep x0]) w w4 [ownR 40 A0 c0 T_api_Pair.rep x0] := hm4
      show Rn _ _ _ _ _ [(0, .slice A0 (x0).length c0), (1, .int .i64 (x1)), (10, .int .i64 (y3))] _
      try dsimp only at hM
      refine Rn.seq (Rn.seq (Rn.reg (Rn.v rfl rfl rfl rfl (V.mv rfl) (Rn.v rfl rfl rfl rfl (V.as rfl) (Rn.regEnd ?_)))))
      obtain ⟨j2, hj2, hM⟩ := jnE hM
      refine Rn.joinG (r := r) (G := (List T_api_Pair)) (fun g => []) (fun g w' => Hp Z0 (LS [ownR 40 A0 c0 T_api_Pair.rep x0]) w w' [ownR 40 A0 c0 T_api_Pair.rep g] ∧ g.length = (x0).length) (fun g => j2 g) ?_ ?_
      · subst hj2
        clear hM
        rintro y5 w6 ⟨hm6, hl5⟩ hM
        replace hl5 : y5.length = (x0).length := hl5
        replace hm6 : Hp Z0 (LS [ownR 40 A0 c0 T_api_Pair.rep x0]) w w6 [ownR 40 A0 c0 T_api_Pair.rep y5] := hm6
        show Rn _ _ _ _ _ [] _
        try dsimp only at hM
        refine Rn.ret0 Try.func45 rfl ?_
        obtain rfl := someE hM
        exact ⟨rfl, hm6.pick [0] rfl (by decide), hl5⟩
      intro hk2
      clear hj2
      refine Rn.block ?_
      refine Rn.loopF (G := (List T_api_Pair) × Int) (fun g => [(0, .slice A0 (x0).length c0), (10, .int .i64 (y3)), (13, .int .i64 ((g.2)))]) (fun g w' => Hp Z0 (LS [ownR 40 A0 c0 T_api_Pair.rep x0]) w w' [ownR 40 A0 c0 T_api_Pair.rep (g.1)] ∧ (g.1).length = (x0).length) (fun n g => m_slices_symMergeCmpFunc_api_Pair_s2_L1 y3 j2 n g.1 g.2) fuel (x0, x1) (Sub.cons rfl (Sub.cons rfl (Sub.cons rfl (Sub.nil _)))) (⟨hm4.pick [0] rfl (by decide), rfl⟩) hM (fun _ => rfl) ?_
      clear hM
      rintro m9 ⟨y7, y8⟩ w9 ⟨hm9, hl7⟩ hM hn9
      replace hl7 : y7.length = (x0).length := hl7
      replace hm9 : Hp Z0 (LS [ownR 40 A0 c0 T_api_Pair.rep x0]) w w9 [ownR 40 A0 c0 T_api_Pair.rep y7] := hm9
      show Rn _ _ _ _ _ [(0, .slice A0 (x0).length c0), (10, .int .i64 (y3)), (13, .int .i64 (y8))] _
      replace hM : m_slices_symMergeCmpFunc_api_Pair_s2_L1 y3 j2 (m9 + 1) y7 y8 = some r := hM
      rw [m_slices_symMergeCmpFunc_api_Pair_s2_L1] at hM
      refine Rn.seq (Rn.seq (Rn.reg (Rn.v rfl rfl rfl rfl (V.mv rfl) (Rn.v rfl rfl rfl rfl (V.mv rfl) (Rn.v rfl rfl rfl rfl (V.subW rfl rfl) (Rn.v rfl rfl rfl rfl (V.lss rfl rfl) (Rn.regEnd ?_)))))))
      refine Rn.condD rfl (fun h10 => ?_) (fun h10 => ?_)
      · replace hM := iteT h10 hM
        refine Rn.skip (Rn.seq (Rn.block ?_))
        refine Rn.drawX rfl hm9 ?_
        intro w11 hm11
        refine RH.take 0 (by kernel_rfl) rfl rfl rfl rfl (fun w' hDr => V.mv rfl) ?_
        refine RH.take 1 (by kernel_rfl) rfl rfl rfl rfl (fun w' hDr => V.mv rfl) ?_
        refine RH.take 2 (by kernel_rfl) rfl rfl rfl rfl (fun w' hDr => V.mv rfl) ?_
        refine RH.take 3 (by kernel_rfl) rfl rfl rfl rfl (fun w' hDr => V.mv rfl) ?_
        refine RH.take 4 (by kernel_rfl) rfl rfl rfl rfl (fun w' hDr => V.addW rfl rfl) ?_
        refine RH.take 5 (by kernel_rfl) rfl rfl rfl rfl (fun w' hDr => V.mv rfl) ?_
        refine RH.take 6 (by kernel_rfl) rfl rfl rfl rfl (fun w' hDr => V.mv rfl) ?_
        refine RH.take 7 (by kernel_rfl) rfl rfl rfl rfl (fun w' hDr => V.addW rfl rfl) ?_
        obtain ⟨z12, e12, hM⟩ := bindE hM
        obtain ⟨kk12, ke12, kz12, kl12⟩ := idxE e12
        obtain ⟨g12, vs12, hA12, hR12, hrel12⟩ := hm11.ownAt 0 rfl kz12
        subst hA12
        obtain ⟨_, _, rfl, ⟨rfl, _⟩, ⟨rfl, _⟩⟩ := hrel12
        refine RH.take 8 (by kernel_rfl) rfl rfl rfl rfl (fun w' hDr => V.ixE kk12 Try.underlying22 Try.sizeOf40 rfl rfl ke12 (Nat.lt_of_lt_of_eq kl12 hl7)) ?_
        refine RH.take 10 (by kernel_rfl) rfl rfl rfl rfl (fun w' hDr => V.mv rfl) ?_
        refine RH.take 11 (by kernel_rfl) rfl rfl rfl rfl (fun w' hDr => V.mv rfl) ?_
        obtain ⟨z13, e13, hM⟩ := bindE hM
        obtain ⟨kk13, ke13, kz13, kl13⟩ := idxE e13
        obtain ⟨vs13, hR13, hrel13⟩ := hm11.ownAtL 0 rfl kz13
        obtain ⟨_, _, rfl, ⟨rfl, _⟩, ⟨rfl, _⟩⟩ := hrel13
        refine RH.take 12 (by kernel_rfl) rfl rfl rfl rfl (fun w' hDr => V.ixE kk13 Try.underlying22 Try.sizeOf40 rfl rfl ke13 (Nat.lt_of_lt_of_eq kl13 hl7)) ?_
        refine RH.two 9 13 (by kernel_rfl) rfl rfl rfl rfl (V.ldA Try.isAgg40 Try.sizeOf40 rfl (Rd.pre hR12 2) rfl) rfl rfl rfl rfl (V.ldA Try.isAgg40 Try.sizeOf40 rfl (Rd.pre hR13 2) rfl) ?_ ?_
        · refine RH.here fun hS13 => RH.one 13 (by kernel_rfl) rfl rfl rfl rfl (V.ldA Try.isAgg40 Try.sizeOf40 rfl (Rd.pre hR13 2) rfl) hS13 ?_
          obtain ⟨z15, e15, hM⟩ := bindE hM
          obtain ⟨kk15, ke15, kz15, kl15⟩ := idxE e15
          obtain ⟨vs15, hR15, hrel15⟩ := hm11.ownAtL 0 rfl kz15
          obtain ⟨_, _, rfl, ⟨rfl, _⟩, ⟨rfl, _⟩⟩ := hrel15
          refine RH.here fun hS14 => RH.one 14 (by kernel_rfl) rfl rfl rfl rfl (V.ixE kk15 Try.underlying22 Try.sizeOf40 rfl rfl ke15 (Nat.lt_of_lt_of_eq kl15 hl7)) hS14 ?_
          refine RH.stI 15 (by kernel_rfl) hm11 0 rfl ke15 kl15 rfl rfl Try.sizeOf40 rfl rfl rfl (vs := [Str (z12.Key), Str (z12.Val)]) rfl (⟨_, _, rfl, ⟨rfl, trivial⟩, ⟨rfl, trivial⟩⟩) ?_
          intro w16 hm16
          refine ⟨trivial, ?_⟩
          obtain ⟨z17, e17, hM⟩ := bindE hM
          obtain ⟨kk17, ke17, kz17, kl17⟩ := idxE e17
          obtain ⟨vs17, hR17, hrel17⟩ := hm16.ownAtL 0 rfl kz17
          obtain ⟨_, _, rfl, ⟨rfl, _⟩, ⟨rfl, _⟩⟩ := hrel17
          refine RH.here fun hS16 => RH.one 16 (by kernel_rfl) rfl rfl rfl rfl (V.ixE kk17 Try.underlying22 Try.sizeOf40 rfl rfl ke17 (Nat.lt_of_lt_of_eq kl17 ((length_setI _ _ _).trans hl7))) hS16 ?_
          refine RH.stI 17 (by kernel_rfl) hm16 0 rfl ke17 kl17 rfl rfl Try.sizeOf40 rfl rfl rfl (vs := [Str (z13.Key), Str (z13.Val)]) rfl (⟨_, _, rfl, ⟨rfl, trivial⟩, ⟨rfl, trivial⟩⟩) ?_
          intro w18 hm18
          refine ⟨trivial, ?_⟩
          refine RH.doneP (by kernel_rfl) ?_
          refine Rn.inBlock (Rn.reg (Rn.v rfl rfl rfl rfl (V.mv rfl) (Rn.v rfl rfl rfl rfl (V.addW rfl rfl) (Rn.v rfl rfl rfl rfl (V.as rfl) (Rn.regEnd ?_)))))
          exact hn9 ((setI (setI y7 y8 z12) (W64 (y8 + 1)) z13), (W64 (y8 + 1))) _ _ (Sub.cons rfl (Sub.cons rfl (Sub.cons rfl (Sub.nil _)))) (⟨hm18.pick [0] rfl (by decide), ((length_setI _ _ _).trans ((length_setI _ _ _).trans hl7))⟩) hM
        · refine RH.here fun hS9 => RH.one 9 (by kernel_rfl) rfl rfl rfl rfl (V.ldA Try.isAgg40 Try.sizeOf40 rfl (Rd.pre hR12 2) rfl) hS9 ?_
          obtain ⟨z19, e19, hM⟩ := bindE hM
          obtain ⟨kk19, ke19, kz19, kl19⟩ := idxE e19
          obtain ⟨vs19, hR19, hrel19⟩ := hm11.ownAtL 0 rfl kz19
          obtain ⟨_, _, rfl, ⟨rfl, _⟩, ⟨rfl, _⟩⟩ := hrel19
          refine RH.here fun hS14 => RH.one 14 (by kernel_rfl) rfl rfl rfl rfl (V.ixE kk19 Try.underlying22 Try.sizeOf40 rfl rfl ke19 (Nat.lt_of_lt_of_eq kl19 hl7)) hS14 ?_
          refine RH.stI 15 (by kernel_rfl) hm11 0 rfl ke19 kl19 rfl rfl Try.sizeOf40 rfl rfl rfl (vs := [Str (z12.Key), Str (z12.Val)]) rfl (⟨_, _, rfl, ⟨rfl, trivial⟩, ⟨rfl, trivial⟩⟩) ?_
          intro w20 hm20
          refine ⟨trivial, ?_⟩
          obtain ⟨z21, e21, hM⟩ := bindE hM
          obtain ⟨kk21, ke21, kz21, kl21⟩ := idxE e21
          obtain ⟨vs21, hR21, hrel21⟩ := hm20.ownAtL 0 rfl kz21
          obtain ⟨_, _, rfl, ⟨rfl, _⟩, ⟨rfl, _⟩⟩ := hrel21
          refine RH.here fun hS16 => RH.one 16 (by kernel_rfl) rfl rfl rfl rfl (V.ixE kk21 Try.underlying22 Try.sizeOf40 rfl rfl ke21 (Nat.lt_of_lt_of_eq kl21 ((length_setI _ _ _).trans hl7))) hS16 ?_
          refine RH.stI 17 (by kernel_rfl) hm20 0 rfl ke21 kl21 rfl rfl Try.sizeOf40 rfl rfl rfl (vs := [Str (z13.Key), Str (z13.Val)]) rfl (⟨_, _, rfl, ⟨rfl, trivial⟩, ⟨rfl, trivial⟩⟩) ?_
          intro w22 hm22
          refine ⟨trivial, ?_⟩
          refine RH.doneP (by kernel_rfl) ?_
          refine Rn.inBlock (Rn.reg (Rn.v rfl rfl rfl rfl (V.mv rfl) (Rn.v rfl rfl rfl rfl (V.addW rfl rfl) (Rn.v rfl rfl rfl rfl (V.as rfl) (Rn.regEnd ?_)))))
          exact hn9 ((setI (setI y7 y8 z12) (W64 (y8 + 1)) z13), (W64 (y8 + 1))) _ _ (Sub.cons rfl (Sub.cons rfl (Sub.cons rfl (Sub.nil _)))) (⟨hm22.pick [0] rfl (by decide), ((length_setI _ _ _).trans ((length_setI _ _ _).trans hl7))⟩) hM
      · replace hM := iteF h10 hM
        refine Rn.exit rfl ?_
        exact hk2 y7 _ _ (Sub.nil _) (⟨hm9.pick [0] rfl (by decide), hl7⟩) hM
    intro hk1
    clear hj1
    refine Rn.block ?_
    refine Rn.loopF (G := Int × Int) (fun g => [(0, .slice A0 (x0).length c0), (1, .int .i64 (x1)), (4, .func (.func 27) #[] [].toArray), (10, .int .i64 ((g.1))), (11, .int .i64 ((g.2)))]) (fun g w' => Hp Z0 (LS [ownR 40 A0 c0 T_api_Pair.rep x0]) w w' [ownR 40 A0 c0 T_api_Pair.rep x0]) (fun n g => m_slices_symMergeCmpFunc_api_Pair_s2_L2 x0 x1 j1 n g.1 g.2) fuel (x2, x3) (Sub.cons rfl (Sub.cons rfl (Sub.cons rfl (Sub.cons rfl (Sub.cons rfl (Sub.nil _)))))) (hm0.pick [0] rfl (by decide)) hM (fun _ => rfl) ?_
    clear hM
    rintro m25 ⟨y23, y24⟩ w25 hm25 hM hn25
    replace hm25 : Hp Z0 (LS [ownR 40 A0 c0 T_api_Pair.rep x0]) w w25 [ownR 40 A0 c0 T_api_Pair.rep x0] := hm25
    show Rn _ _ _ _ _ [(0, .slice A0 (x0).length c0), (1, .int .i64 (x1)), (4, .func (.func 27) #[] [].toArray), (10, .int .i64 (y23)), (11, .int .i64 (y24))] _
    replace hM : m_slices_symMergeCmpFunc_api_Pair_s2_L2 x0 x1 j1 (m25 + 1) y23 y24 = some r := hM
    rw [m_slices_symMergeCmpFunc_api_Pair_s2_L2] at hM
    refine Rn.seq (Rn.seq (Rn.reg (Rn.v rfl rfl rfl rfl (V.mv rfl) (Rn.v rfl rfl rfl rfl (V.mv rfl) (Rn.v rfl rfl rfl rfl (V.lss rfl rfl) (Rn.regEnd ?_))))))
    refine Rn.condD rfl (fun h26 => ?_) (fun h26 => ?_)
    · replace hM := iteT h26 hM
      refine Rn.skip (Rn.block (Rn.seq (Rn.reg (Rn.v rfl rfl rfl rfl (V.mv rfl) (Rn.v rfl rfl rfl rfl (V.mv rfl) (Rn.v rfl rfl rfl rfl (V.addW rfl rfl) (Rn.v rfl rfl rfl rfl (V.cv64 Try.underlying3 Try.underlying71 rfl) (Rn.v rfl rfl rfl rfl (V.sh64 rfl rfl _ 1 rfl rfl (b64_shr _ _ _ 1 (by decide))) (Rn.v rfl rfl rfl rfl (V.cvW Try.underlying71 Try.underlying3 rfl) (Rn.v rfl rfl rfl rfl (V.as rfl) (Rn.regEnd (Rn.seq ?_))))))))))))
      refine Rn.drawH rfl hm25 ?_
      intro w27 hm27
      refine RH.take 0 (by kernel_rfl) rfl rfl rfl rfl (fun w' hDr => V.mv rfl) ?_
      refine RH.take 1 (by kernel_rfl) rfl rfl rfl rfl (fun w' hDr => V.mv rfl) ?_
      refine RH.take 2 (by kernel_rfl) rfl rfl rfl rfl (fun w' hDr => V.mv rfl) ?_
      obtain ⟨z28, e28, hM⟩ := bindE hM
      obtain ⟨kk28, ke28, kz28, kl28⟩ := idxE e28
      obtain ⟨g28, vs28, hA28, hR28, hrel28⟩ := hm27.ownAt 0 rfl kz28
      subst hA28
      obtain ⟨_, _, rfl, ⟨rfl, _⟩, ⟨rfl, _⟩⟩ := hrel28
      refine RH.take 3 (by kernel_rfl) rfl rfl rfl rfl (fun w' hDr => V.ixE kk28 Try.underlying22 Try.sizeOf40 rfl rfl ke28 kl28) ?_
      refine RH.take 4 (by kernel_rfl) rfl rfl rfl rfl (fun w' hDr => V.ldA Try.isAgg40 Try.sizeOf40 rfl (Rd.pre (hR28.ext hDr) 2) rfl) ?_
      refine RH.take 5 (by kernel_rfl) rfl rfl rfl rfl (fun w' hDr => V.mv rfl) ?_
      refine RH.here fun hS6 => RH.one 6 (by kernel_rfl) rfl rfl rfl rfl (V.mv rfl) hS6 ?_
      obtain ⟨z29, e29, hM⟩ := bindE hM
      obtain ⟨kk29, ke29, kz29, kl29⟩ := idxE e29
      obtain ⟨vs29, hR29, hrel29⟩ := hm27.ownAtL 0 rfl kz29
      obtain ⟨_, _, rfl, ⟨rfl, _⟩, ⟨rfl, _⟩⟩ := hrel29
      refine RH.here fun hS7 => RH.one 7 (by kernel_rfl) rfl rfl rfl rfl (V.ixE kk29 Try.underlying22 Try.sizeOf40 rfl rfl ke29 kl29) hS7 ?_
      refine RH.here fun hS8 => RH.one 8 (by kernel_rfl) rfl rfl rfl rfl (V.ldA Try.isAgg40 Try.sizeOf40 rfl (Rd.pre hR29 2) rfl) hS8 ?_
      obtain ⟨p30, e30, hM⟩ := bindE hM
      refine RH.clV ck27 9 (by kernel_rfl) rfl rfl rfl rfl rfl (m_label_Sorted_1_sim (Z0 := All) _ z28 z29  e30) ?_
      rintro _ w30 ⟨rfl, hq30⟩
      refine ⟨_, rfl, ((Ext.refl _).trans hq30.fr), ?_⟩
      have hm31 := hm27.call0 hq30
      refine RH.here fun hS10 => RH.one 10 (by kernel_rfl) rfl rfl rfl rfl (V.lss rfl rfl) hS10 ?_
      refine RH.doneP (by kernel_rfl) ?_
      refine Rn.condD rfl (fun h32 => ?_) (fun h32 => ?_)
      · replace hM := iteT h32 hM
        refine Rn.reg (Rn.v rfl rfl rfl rfl (V.mv rfl) (Rn.v rfl rfl rfl rfl (V.addW rfl rfl) (Rn.v rfl rfl rfl rfl (V.as rfl) (Rn.regEnd (Rn.inBlock ?_)))))
        exact hn25 ((W64 ((W64 (((toU64 (W64 (y23 + y24))) >>> UInt64.ofNat 1).toNat : Int)) + 1)), y24) _ _ (Sub.cons rfl (Sub.cons rfl (Sub.cons rfl (Sub.cons rfl (Sub.cons rfl (Sub.nil _)))))) (hm31.pick [0] rfl (by decide)) hM
      · replace hM := iteF h32 hM
        refine Rn.reg (Rn.v rfl rfl rfl rfl (V.mv rfl) (Rn.v rfl rfl rfl rfl (V.as rfl) (Rn.regEnd (Rn.inBlock ?_))))
        exact hn25 (y23, (W64 (((toU64 (W64 (y23 + y24))) >>> UInt64.ofNat 1).toNat : Int))) _ _ (Sub.cons rfl (Sub.cons rfl (Sub.cons rfl (Sub.cons rfl (Sub.cons rfl (Sub.nil _)))))) (hm31.pick [0] rfl (by decide)) hM
    · replace hM := iteF h26 hM
      refine Rn.exit rfl ?_
      exact hk1 y23 _ _ (Sub.cons rfl (Sub.cons rfl (Sub.cons rfl (Sub.nil _)))) (hm25.pick [0] rfl (by decide)) hM
  · replace hM := iteF h2 hM
    refine Rn.skip (Rn.seq (Rn.seq (Rn.reg (Rn.v rfl rfl rfl rfl (V.mv rfl) (Rn.v rfl rfl rfl rfl (V.mv rfl) (Rn.v rfl rfl rfl rfl (V.subW rfl rfl) (Rn.v rfl rfl rfl rfl (V.eql rfl rfl) (Rn.regEnd ?_))))))))
    refine Rn.condD rfl (fun h33 => ?_) (fun h33 => ?_)
    · replace hM := iteT h33 hM
      refine Rn.seq (Rn.reg (Rn.v rfl rfl rfl rfl (V.mv rfl) (Rn.v rfl rfl rfl rfl (V.as rfl) (Rn.regEnd (Rn.seq (Rn.reg (Rn.v rfl rfl rfl rfl (V.mv rfl) (Rn.v rfl rfl rfl rfl (V.as rfl) (Rn.regEnd (Rn.seq ?_))))))))))
      obtain ⟨j3, hj3, hM⟩ := jnE hM
      refine Rn.joinG (r := r) (G := Int) (fun g => [(0, .slice A0 (x0).length c0), (2, .int .i64 (x2)), (14, .int .i64 (g))]) (fun g w' => Hp Z0 (LS [ownR 40 A0 c0 T_api_Pair.rep x0]) w w' [ownR 40 A0 c0 T_api_Pair.rep x0]) (fun g => j3 g) ?_ ?_
      · subst hj3
        clear hM
        rintro y34 w35 hm35 hM
        replace hm35 : Hp Z0 (LS [ownR 40 A0 c0 T_api_Pair.rep x0]) w w35 [ownR 40 A0 c0 T_api_Pair.rep x0] := hm35
        show Rn _ _ _ _ _ [(0, .slice A0 (x0).length c0), (2, .int .i64 (x2)), (14, .int .i64 (y34))] _
        try dsimp only at hM
        refine Rn.seq (Rn.seq (Rn.reg (Rn.v rfl rfl rfl rfl (V.mv rfl) (Rn.v rfl rfl rfl rfl (V.as rfl) (Rn.regEnd ?_)))))
        obtain ⟨j4, hj4, hM⟩ := jnE hM
        refine Rn.joinG (r := r) (G := (List T_api_Pair)) (fun g => []) (fun g w' => Hp Z0 (LS [ownR 40 A0 c0 T_api_Pair.rep x0]) w w' [ownR 40 A0 c0 T_api_Pair.rep g] ∧ g.length = (x0).length) (fun g => j4 g) ?_ ?_
        · subst hj4
          clear hM
          rintro y36 w37 ⟨hm37, hl36⟩ hM
          replace hl36 : y36.length = (x0).length := hl36
          replace hm37 : Hp Z0 (LS [ownR 40 A0 c0 T_api_Pair.rep x0]) w w37 [ownR 40 A0 c0 T_api_Pair.rep y36] := hm37
          show Rn _ _ _ _ _ [] _
          try dsimp only at hM
          refine Rn.ret0 Try.func45 rfl ?_
          obtain rfl := someE hM
          exact ⟨rfl, hm37.pick [0] rfl (by decide), hl36⟩
        intro hk4
        clear hj4
        refine Rn.block ?_
        refine Rn.loopF (G := (List T_api_Pair) × Int) (fun g => [(0, .slice A0 (x0).length c0), (14, .int .i64 (y34)), (17, .int .i64 ((g.2)))]) (fun g w' => Hp Z0 (LS [ownR 40 A0 c0 T_api_Pair.rep x0]) w w' [ownR 40 A0 c0 T_api_Pair.rep (g.1)] ∧ (g.1).length = (x0).length) (fun n g => m_slices_symMergeCmpFunc_api_Pair_s2_L3 y34 j4 n g.1 g.2) fuel (x0, x2) (Sub.cons rfl (Sub.cons rfl (Sub.cons rfl (Sub.nil _)))) (⟨hm35.pick [0] rfl (by decide), rfl⟩) hM (fun _ => rfl) ?_
        clear hM
        rintro m40 ⟨y38, y39⟩ w40 ⟨hm40, hl38⟩ hM hn40
        replace hl38 : y38.length = (x0).length := hl38
        replace hm40 : Hp Z0 (LS [ownR 40 A0 c0 T_api_Pair.rep x0]) w w40 [ownR 40 A0 c0 T_api_Pair.rep y38] := hm40
        show Rn _ _ _ _ _ [(0, .slice A0 (x0).length c0), (14, .int .i64 (y34)), (17, .int .i64 (y39))] _
        replace hM : m_slices_symMergeCmpFunc_api_Pair_s2_L3 y34 j4 (m40 + 1) y38 y39 = some r := hM
        rw [m_slices_symMergeCmpFunc_api_Pair_s2_L3] at hM
        refine Rn.seq (Rn.seq (Rn.reg (Rn.v rfl rfl rfl rfl (V.mv rfl) (Rn.v rfl rfl rfl rfl (V.mv rfl) (Rn.v rfl rfl rfl rfl (V.gtr rfl rfl) (Rn.regEnd ?_))))))
        refine Rn.condD rfl (fun h41 => ?_) (fun h41 => ?_)
        · replace hM := iteT h41 hM
          refine Rn.skip (Rn.seq (Rn.block ?_))
          refine Rn.drawX rfl hm40 ?_
          intro w42 hm42
          refine RH.take 0 (by kernel_rfl) rfl rfl rfl rfl (fun w' hDr => V.mv rfl) ?_
          refine RH.take 1 (by kernel_rfl) rfl rfl rfl rfl (fun w' hDr => V.mv rfl) ?_
          refine RH.take 2 (by kernel_rfl) rfl rfl rfl rfl (fun w' hDr => V.mv rfl) ?_
          refine RH.take 3 (by kernel_rfl) rfl rfl rfl rfl (fun w' hDr => V.mv rfl) ?_
          refine RH.take 4 (by kernel_rfl) rfl rfl rfl rfl (fun w' hDr => V.subW rfl rfl) ?_
          refine RH.take 5 (by kernel_rfl) rfl rfl rfl rfl (fun w' hDr => V.mv rfl) ?_
          refine RH.take 6 (by kernel_rfl) rfl rfl rfl rfl (fun w' hDr => V.mv rfl) ?_
          refine RH.take 7 (by kernel_rfl) rfl rfl rfl rfl (fun w' hDr => V.subW rfl rfl) ?_
          obtain ⟨z43, e43, hM⟩ := bindE hM
          obtain ⟨kk43, ke43, kz43, kl43⟩ := idxE e43
          obtain ⟨g43, vs43, hA43, hR43, hrel43⟩ := hm42.ownAt 0 rfl kz43
          subst hA43
          obtain ⟨_, _, rfl, ⟨rfl, _⟩, ⟨rfl, _⟩⟩ := hrel43
          refine RH.take 8 (by kernel_rfl) rfl rfl rfl rfl (fun w' hDr => V.ixE kk43 Try.underlying22 Try.sizeOf40 rfl rfl ke43 (Nat.lt_of_lt_of_eq kl43 hl38)) ?_
          refine RH.take 10 (by kernel_rfl) rfl rfl rfl rfl (fun w' hDr => V.mv rfl) ?_
          refine RH.take 11 (by kernel_rfl) rfl rfl rfl rfl (fun w' hDr => V.mv rfl) ?_
          obtain ⟨z44, e44, hM⟩ := bindE hM
          obtain ⟨kk44, ke44, kz44, kl44⟩ := idxE e44
          obtain ⟨vs44, hR44, hrel44⟩ := hm42.ownAtL 0 rfl kz44
          obtain ⟨_, _, rfl, ⟨rfl, _⟩, ⟨rfl, _⟩⟩ := hrel44
          refine RH.take 12 (by kernel_rfl) rfl rfl rfl rfl (fun w' hDr => V.ixE kk44 Try.underlying22 Try.sizeOf40 rfl rfl ke44 (Nat.lt_of_lt_of_eq kl44 hl38)) ?_
          refine RH.two 9 13 (by kernel_rfl) rfl rfl rfl rfl (V.ldA Try.isAgg40 Try.sizeOf40 rfl (Rd.pre hR43 2) rfl) rfl rfl rfl rfl (V.ldA Try.isAgg40 Try.sizeOf40 rfl (Rd.pre hR44 2) rfl) ?_ ?_
          · refine RH.here fun hS13 => RH.one 13 (by kernel_rfl) rfl rfl rfl rfl (V.ldA Try.isAgg40 Try.sizeOf40 rfl (Rd.pre hR44 2) rfl) hS13 ?_
            obtain ⟨z46, e46, hM⟩ := bindE hM
            obtain ⟨kk46, ke46, kz46, kl46⟩ := idxE e46
            obtain ⟨vs46, hR46, hrel46⟩ := hm42.ownAtL 0 rfl kz46
            obtain ⟨_, _, rfl, ⟨rfl, _⟩, ⟨rfl, _⟩⟩ := hrel46
            refine RH.here fun hS14 => RH.one 14 (by kernel_rfl) rfl rfl rfl rfl (V.ixE kk46 Try.underlying22 Try.sizeOf40 rfl rfl ke46 (Nat.lt_of_lt_of_eq kl46 hl38)) hS14 ?_
            refine RH.stI 15 (by kernel_rfl) hm42 0 rfl ke46 kl46 rfl rfl Try.sizeOf40 rfl rfl rfl (vs := [Str (z43.Key), Str (z43.Val)]) rfl (⟨_, _, rfl, ⟨rfl, trivial⟩, ⟨rfl, trivial⟩⟩) ?_
            intro w47 hm47
            refine ⟨trivial, ?_⟩
            obtain ⟨z48, e48, hM⟩ := bindE hM
            obtain ⟨kk48, ke48, kz48, kl48⟩ := idxE e48
            obtain ⟨vs48, hR48, hrel48⟩ := hm47.ownAtL 0 rfl kz48
            obtain ⟨_, _, rfl, ⟨rfl, _⟩, ⟨rfl, _⟩⟩ := hrel48
            refine RH.here fun hS16 => RH.one 16 (by kernel_rfl) rfl rfl rfl rfl (V.ixE kk48 Try.underlying22 Try.sizeOf40 rfl rfl ke48 (Nat.lt_of_lt_of_eq kl48 ((length_setI _ _ _).trans hl38))) hS16 ?_
            refine RH.stI 17 (by kernel_rfl) hm47 0 rfl ke48 kl48 rfl rfl Try.sizeOf40 rfl rfl rfl (vs := [Str (z44.Key), Str (z44.Val)]) rfl (⟨_, _, rfl, ⟨rfl, trivial⟩, ⟨rfl, trivial⟩⟩) ?_
            intro w49 hm49
            refine ⟨trivial, ?_⟩
            refine RH.doneP (by kernel_rfl) ?_
            refine Rn.inBlock (Rn.reg (Rn.v rfl rfl rfl rfl (V.mv rfl) (Rn.v rfl rfl rfl rfl (V.subW rfl rfl) (Rn.v rfl rfl rfl rfl (V.as rfl) (Rn.regEnd ?_)))))
            exact hn40 ((setI (setI y38 y39 z43) (W64 (y39 - 1)) z44), (W64 (y39 - 1))) _ _ (Sub.cons rfl (Sub.cons rfl (Sub.cons rfl (Sub.nil _)))) (⟨hm49.pick [0] rfl (by decide), ((length_setI _ _ _).trans ((length_setI _ _ _).trans hl38))⟩) hM
          · refine RH.here fun hS9 => RH.one 9 (by kernel_rfl) rfl rfl rfl rfl (V.ldA Try.isAgg40 Try.sizeOf40 rfl (Rd.pre hR43 2) rfl) hS9 ?_
            obtain ⟨z50, e50, hM⟩ := bindE hM
            obtain ⟨kk50, ke50, kz50, kl50⟩ := idxE e50
            obtain ⟨vs50, hR50, hrel50⟩ := hm42.ownAtL 0 rfl kz50
            obtain ⟨_, _, rfl, ⟨rfl, _⟩, ⟨rfl, _⟩⟩ := hrel50
            refine RH.here fun hS14 => RH.one 14 (by kernel_rfl) rfl rfl rfl rfl (V.ixE kk50 Try.underlying22 Try.sizeOf40 rfl rfl ke50 (Nat.lt_of_lt_of_eq kl50 hl38)) hS14 ?_
            refine RH.stI 15 (by kernel_rfl) hm42 0 rfl ke50 kl50 rfl rfl Try.sizeOf40 rfl rfl rfl (vs := [Str (z43.Key), Str (z43.Val)]) rfl (⟨_, _, rfl, ⟨rfl, trivial⟩, ⟨rfl, trivial⟩⟩) ?_
            intro w51 hm51
            refine ⟨trivial, ?_⟩
            obtain ⟨z52, e52, hM⟩ := bindE hM
            obtain ⟨kk52, ke52, kz52, kl52⟩ := idxE e52
            obtain ⟨vs52, hR52, hrel52⟩ := hm51.ownAtL 0 rfl kz52
            obtain ⟨_, _, rfl, ⟨rfl, _⟩, ⟨rfl, _⟩⟩ := hrel52
            refine RH.here fun hS16 => RH.one 16 (by kernel_rfl) rfl rfl rfl rfl (V.ixE kk52 Try.underlying22 Try.sizeOf40 rfl rfl ke52 (Nat.lt_of_lt_of_eq kl52 ((length_setI _ _ _).trans hl38))) hS16 ?_
            refine RH.stI 17 (by kernel_rfl) hm51 0 rfl ke52 kl52 rfl rfl Try.sizeOf40 rfl rfl rfl (vs := [Str (z44.Key), Str (z44.Val)]) rfl (⟨_, _, rfl, ⟨rfl, trivial⟩, ⟨rfl, trivial⟩⟩) ?_
            intro w53 hm53
            refine ⟨trivial, ?_⟩
            refine RH.doneP (by kernel_rfl) ?_
            refine Rn.inBlock (Rn.reg (Rn.v rfl rfl rfl rfl (V.mv rfl) (Rn.v rfl rfl rfl rfl (V.subW rfl rfl) (Rn.v rfl rfl rfl rfl (V.as rfl) (Rn.regEnd ?_)))))
            exact hn40 ((setI (setI y38 y39 z43) (W64 (y39 - 1)) z44), (W64 (y39 - 1))) _ _ (Sub.cons rfl (Sub.cons rfl (Sub.cons rfl (Sub.nil _)))) (⟨hm53.pick [0] rfl (by decide), ((length_setI _ _ _).trans ((length_setI _ _ _).trans hl38))⟩) hM
        · replace hM := iteF h41 hM
          refine Rn.exit rfl ?_
          exact hk4 y38 _ _ (Sub.nil _) (⟨hm40.pick [0] rfl (by decide), hl38⟩) hM
      intro hk3
      clear hj3
      refine Rn.block ?_
      refine Rn.loopF (G := Int × Int) (fun g => [(0, .slice A0 (x0).length c0), (2, .int .i64 (x2)), (4, .func (.func 27) #[] [].toArray), (14, .int .i64 ((g.1))), (15, .int .i64 ((g.2)))]) (fun g w' => Hp Z0 (LS [ownR 40 A0 c0 T_api_Pair.rep x0]) w w' [ownR 40 A0 c0 T_api_Pair.rep x0]) (fun n g => m_slices_symMergeCmpFunc_api_Pair_s2_L4 x0 x2 j3 n g.1 g.2) fuel (x1, x2) (Sub.cons rfl (Sub.cons rfl (Sub.cons rfl (Sub.cons rfl (Sub.cons rfl (Sub.nil _)))))) (hm0.pick [0] rfl (by decide)) hM (fun _ => rfl) ?_
      clear hM
      rintro m56 ⟨y54, y55⟩ w56 hm56 hM hn56
      replace hm56 : Hp Z0 (LS [ownR 40 A0 c0 T_api_Pair.rep x0]) w w56 [ownR 40 A0 c0 T_api_Pair.rep x0] := hm56
      show Rn _ _ _ _ _ [(0, .slice A0 (x0).length c0), (2, .int .i64 (x2)), (4, .func (.func 27) #[] [].toArray), (14, .int .i64 (y54)), (15, .int .i64 (y55))] _
      replace hM : m_slices_symMergeCmpFunc_api_Pair_s2_L4 x0 x2 j3 (m56 + 1) y54 y55 = some r := hM
      rw [m_slices_symMergeCmpFunc_api_Pair_s2_L4] at hM
      refine Rn.seq (Rn.seq (Rn.reg (Rn.v rfl rfl rfl rfl (V.mv rfl) (Rn.v rfl rfl rfl rfl (V.mv rfl) (Rn.v rfl rfl rfl rfl (V.lss rfl rfl) (Rn.regEnd ?_))))))
      refine Rn.condD rfl (fun h57 => ?_) (fun h57 => ?_)
      · replace hM := iteT h57 hM
        refine Rn.skip (Rn.block (Rn.seq (Rn.reg (Rn.v rfl rfl rfl rfl (V.mv rfl) (Rn.v rfl rfl rfl rfl (V.mv rfl) (Rn.v rfl rfl rfl rfl (V.addW rfl rfl) (Rn.v rfl rfl rfl rfl (V.cv64 Try.underlying3 Try.underlying71 rfl) (Rn.v rfl rfl rfl rfl (V.sh64 rfl rfl _ 1 rfl rfl (b64_shr _ _ _ 1 (by decide))) (Rn.v rfl rfl rfl rfl (V.cvW Try.underlying71 Try.underlying3 rfl) (Rn.v rfl rfl rfl rfl (V.as rfl) (Rn.regEnd (Rn.seq ?_))))))))))))
        refine Rn.drawH rfl hm56 ?_
        intro w58 hm58
        refine RH.take 0 (by kernel_rfl) rfl rfl rfl rfl (fun w' hDr => V.mv rfl) ?_
        refine RH.take 1 (by kernel_rfl) rfl rfl rfl rfl (fun w' hDr => V.mv rfl) ?_
        refine RH.take 2 (by kernel_rfl) rfl rfl rfl rfl (fun w' hDr => V.mv rfl) ?_
        obtain ⟨z59, e59, hM⟩ := bindE hM
        obtain ⟨kk59, ke59, kz59, kl59⟩ := idxE e59
        obtain ⟨g59, vs59, hA59, hR59, hrel59⟩ := hm58.ownAt 0 rfl kz59
        subst hA59
        obtain ⟨_, _, rfl, ⟨rfl, _⟩, ⟨rfl, _⟩⟩ := hrel59
        refine RH.take 3 (by kernel_rfl) rfl rfl rfl rfl (fun w' hDr => V.ixE kk59 Try.underlying22 Try.sizeOf40 rfl rfl ke59 kl59) ?_
        refine RH.take 4 (by kernel_rfl) rfl rfl rfl rfl (fun w' hDr => V.ldA Try.isAgg40 Try.sizeOf40 rfl (Rd.pre (hR59.ext hDr) 2) rfl) ?_
        refine RH.take 5 (by kernel_rfl) rfl rfl rfl rfl (fun w' hDr => V.mv rfl) ?_
        refine RH.here fun hS6 => RH.one 6 (by kernel_rfl) rfl rfl rfl rfl (V.mv rfl) hS6 ?_
        obtain ⟨z60, e60, hM⟩ := bindE hM
        obtain ⟨kk60, ke60, kz60, kl60⟩ := idxE e60
        obtain ⟨vs60, hR60, hrel60⟩ := hm58.ownAtL 0 rfl kz60
        obtain ⟨_, _, rfl, ⟨rfl, _⟩, ⟨rfl, _⟩⟩ := hrel60
        refine RH.here fun hS7 => RH.one 7 (by kernel_rfl) rfl rfl rfl rfl (V.ixE kk60 Try.underlying22 Try.sizeOf40 rfl rfl ke60 kl60) hS7 ?_
        refine RH.here fun hS8 => RH.one 8 (by kernel_rfl) rfl rfl rfl rfl (V.ldA Try.isAgg40 Try.sizeOf40 rfl (Rd.pre hR60 2) rfl) hS8 ?_
        obtain ⟨p61, e61, hM⟩ := bindE hM
        refine RH.clV ck27 9 (by kernel_rfl) rfl rfl rfl rfl rfl (m_label_Sorted_1_sim (Z0 := All) _ z59 z60  e61) ?_
        rintro _ w61 ⟨rfl, hq61⟩
        refine ⟨_, rfl, ((Ext.refl _).trans hq61.fr), ?_⟩
        have hm62 := hm58.call0 hq61
        refine RH.here fun hS10 => RH.one 10 (by kernel_rfl) rfl rfl rfl rfl (V.lss rfl rfl) hS10 ?_
        refine RH.here fun hS11 => RH.one 11 (by kernel_rfl) rfl rfl rfl rfl (V.notD rfl) hS11 ?_
        refine RH.doneP (by kernel_rfl) ?_
        refine Rn.condD rfl (fun h63 => ?_) (fun h63 => ?_)
        · replace hM := iteT h63 hM
          refine Rn.reg (Rn.v rfl rfl rfl rfl (V.mv rfl) (Rn.v rfl rfl rfl rfl (V.addW rfl rfl) (Rn.v rfl rfl rfl rfl (V.as rfl) (Rn.regEnd (Rn.inBlock ?_)))))
          exact hn56 ((W64 ((W64 (((toU64 (W64 (y54 + y55))) >>> UInt64.ofNat 1).toNat : Int)) + 1)), y55) _ _ (Sub.cons rfl (Sub.cons rfl (Sub.cons rfl (Sub.cons rfl (Sub.cons rfl (Sub.nil _)))))) (hm62.pick [0] rfl (by decide)) hM
        · replace hM := iteF h63 hM
          refine Rn.reg (Rn.v rfl rfl rfl rfl (V.mv rfl) (Rn.v rfl rfl rfl rfl (V.as rfl) (Rn.regEnd (Rn.inBlock ?_))))
          exact hn56 (y54, (W64 (((toU64 (W64 (y54 + y55))) >>> UInt64.ofNat 1).toNat : Int))) _ _ (Sub.cons rfl (Sub.cons rfl (Sub.cons rfl (Sub.cons rfl (Sub.cons rfl (Sub.nil _)))))) (hm62.pick [0] rfl (by decide)) hM
      · replace hM := iteF h57 hM
        refine Rn.exit rfl ?_
        exact hk3 y54 _ _ (Sub.cons rfl (Sub.cons rfl (Sub.cons rfl (Sub.nil _)))) (hm56.pick [0] rfl (by decide)) hM
    · replace hM := iteF h33 hM
      refine Rn.skip (Rn.seq (Rn.reg (Rn.v rfl rfl rfl rfl (V.mv rfl) (Rn.v rfl rfl rfl rfl (V.mv rfl) (Rn.v rfl rfl rfl rfl (V.addW rfl rfl) (Rn.v rfl rfl rfl rfl (V.cv64 Try.underlying3 Try.underlying71 rfl) (Rn.v rfl rfl rfl rfl (V.sh64 rfl rfl _ 1 rfl rfl (b64_shr _ _ _ 1 (by decide))) (Rn.v rfl rfl rfl rfl (V.cvW Try.underlying71 Try.underlying3 rfl) (Rn.v rfl rfl rfl rfl (V.as rfl) (Rn.regEnd (Rn.seq (Rn.reg (Rn.v rfl rfl rfl rfl (V.mv rfl) (Rn.v rfl rfl rfl rfl (V.mv rfl) (Rn.v rfl rfl rfl rfl (V.addW rfl rfl) (Rn.v rfl rfl rfl rfl (V.as rfl) (Rn.regEnd (Rn.seq (Rn.reg (Rn.v rfl rfl rfl rfl (V.as rfl) (Rn.v rfl rfl rfl rfl (V.as rfl) (Rn.regEnd (Rn.seq (Rn.seq (Rn.reg (Rn.v rfl rfl rfl rfl (V.mv rfl) (Rn.v rfl rfl rfl rfl (V.mv rfl) (Rn.v rfl rfl rfl rfl (V.gtr rfl rfl) (Rn.regEnd ?_)))))))))))))))))))))))))))))
      obtain ⟨j5, hj5, hM⟩ := jnE hM
      refine Rn.joinG (r := r) (G := Int × Int) (fun g => [(0, .slice A0 (x0).length c0), (1, .int .i64 (x1)), (2, .int .i64 (x2)), (3, .int .i64 (x3)), (4, .func (.func 27) #[] [].toArray), (18, .int .i64 (W64 (((toU64 (W64 (x1 + x3))) >>> UInt64.ofNat 1).toNat : Int))), (19, .int .i64 (W64 ((W64 (((toU64 (W64 (x1 + x3))) >>> UInt64.ofNat 1).toNat : Int)) + x2))), (20, .int .i64 ((g.1))), (21, .int .i64 ((g.2)))]) (fun g w' => Hp Z0 (LS [ownR 40 A0 c0 T_api_Pair.rep x0]) w w' [ownR 40 A0 c0 T_api_Pair.rep x0]) (fun g => j5 g.1 g.2) ?_ ?_
      · subst hj5
        clear hM
        rintro ⟨y64, y65⟩ w66 hm66 hM
        replace hm66 : Hp Z0 (LS [ownR 40 A0 c0 T_api_Pair.rep x0]) w w66 [ownR 40 A0 c0 T_api_Pair.rep x0] := hm66
        show Rn _ _ _ _ _ [(0, .slice A0 (x0).length c0), (1, .int .i64 (x1)), (2, .int .i64 (x2)), (3, .int .i64 (x3)), (4, .func (.func 27) #[] [].toArray), (18, .int .i64 (W64 (((toU64 (W64 (x1 + x3))) >>> UInt64.ofNat 1).toNat : Int))), (19, .int .i64 (W64 ((W64 (((toU64 (W64 (x1 + x3))) >>> UInt64.ofNat 1).toNat : Int)) + x2))), (20, .int .i64 (y64)), (21, .int .i64 (y65))] _
        try dsimp only at hM
        refine Rn.seq (Rn.reg (Rn.v rfl rfl rfl rfl (V.mv rfl) (Rn.v rfl rfl rfl rfl (V.subW rfl rfl) (Rn.v rfl rfl rfl rfl (V.as rfl) (Rn.regEnd (Rn.seq ?_))))))
        obtain ⟨j6, hj6, hM⟩ := jnE hM
        refine Rn.joinG (r := r) (G := Int) (fun g => [(0, .slice A0 (x0).length c0), (1, .int .i64 (x1)), (2, .int .i64 (x2)), (3, .int .i64 (x3)), (4, .func (.func 27) #[] [].toArray), (18, .int .i64 (W64 (((toU64 (W64 (x1 + x3))) >>> UInt64.ofNat 1).toNat : Int))), (19, .int .i64 (W64 ((W64 (((toU64 (W64 (x1 + x3))) >>> UInt64.ofNat 1).toNat : Int)) + x2))), (20, .int .i64 (g))]) (fun g w' => Hp Z0 (LS [ownR 40 A0 c0 T_api_Pair.rep x0]) w w' [ownR 40 A0 c0 T_api_Pair.rep x0]) (fun g => j6 g) ?_ ?_
        · subst hj6
          clear hM
          rintro y67 w68 hm68 hM
          replace hm68 : Hp Z0 (LS [ownR 40 A0 c0 T_api_Pair.rep x0]) w w68 [ownR 40 A0 c0 T_api_Pair.rep x0] := hm68
          show Rn _ _ _ _ _ [(0, .slice A0 (x0).length c0), (1, .int .i64 (x1)), (2, .int .i64 (x2)), (3, .int .i64 (x3)), (4, .func (.func 27) #[] [].toArray), (18, .int .i64 (W64 (((toU64 (W64 (x1 + x3))) >>> UInt64.ofNat 1).toNat : Int))), (19, .int .i64 (W64 ((W64 (((toU64 (W64 (x1 + x3))) >>> UInt64.ofNat 1).toNat : Int)) + x2))), (20, .int .i64 (y67))] _
          try dsimp only at hM
          refine Rn.seq (Rn.reg (Rn.v rfl rfl rfl rfl (V.mv rfl) (Rn.v rfl rfl rfl rfl (V.mv rfl) (Rn.v rfl rfl rfl rfl (V.subW rfl rfl) (Rn.v rfl rfl rfl rfl (V.as rfl) (Rn.regEnd (Rn.seq (Rn.seq (Rn.reg (Rn.v rfl rfl rfl rfl (V.mv rfl) (Rn.v rfl rfl rfl rfl (V.mv rfl) (Rn.v rfl rfl rfl rfl (V.lss rfl rfl) (Rn.v rfl rfl rfl rfl (V.mv rfl) ?_)))))))))))))
          refine Rn.cutR [] [(0, .slice A0 (x0).length c0), (1, .int .i64 (x1)), (2, .int .i64 (x2)), (3, .int .i64 (x3)), (4, .func (.func 27) #[] [].toArray), (18, .int .i64 (W64 (((toU64 (W64 (x1 + x3))) >>> UInt64.ofNat 1).toNat : Int))), (20, .int .i64 (y67)), (24, .int .i64 (W64 ((W64 ((W64 (((toU64 (W64 (x1 + x3))) >>> UInt64.ofNat 1).toNat : Int)) + x2)) - y67))), (185, .bool (decide ((y67 < x2) ∧ (x2 < W64 ((W64 ((W64 (((toU64 (W64 (x1 + x3))) >>> UInt64.ofNat 1).toNat : Int)) + x2)) - y67)))))] (fun hk69 => ?_) ?_
          · refine Rn.partD (t := 181) rfl (fun h70 => ?_) (fun h70 => ?_)
            · refine Rn.v rfl rfl rfl rfl (V.mv rfl) (Rn.v rfl rfl rfl rfl (V.mv rfl) (Rn.v rfl rfl rfl rfl (V.lss rfl rfl) (Rn.v rfl rfl rfl rfl (V.pkT rfl rfl) ?_)))
              refine hk69 _ ?_
              exact Sub.cons rfl (Sub.cons rfl (Sub.cons rfl (Sub.cons rfl (Sub.cons rfl (Sub.cons rfl (Sub.cons rfl (Sub.cons rfl (Sub.cons (lkv _ rfl (by first | exact andT h70 | exact andF h70 | exact orT h70 | exact orF h70 | exact nandF h70 | exact nandT h70 | exact norT h70 | exact norF h70 | (simp [h70]; done) | grind)) (Sub.nil _)))))))))
            · refine Rn.no rfl rfl rfl rfl (Rn.no rfl rfl rfl rfl (Rn.no rfl rfl rfl rfl (Rn.v rfl rfl rfl rfl (V.pkF rfl rfl) ?_)))
              refine hk69 _ ?_
              exact Sub.cons rfl (Sub.cons rfl (Sub.cons rfl (Sub.cons rfl (Sub.cons rfl (Sub.cons rfl (Sub.cons rfl (Sub.cons rfl (Sub.cons (lkv _ rfl (by first | exact andT h70 | exact andF h70 | exact orT h70 | exact orF h70 | exact nandF h70 | exact nandT h70 | exact norT h70 | exact norF h70 | (simp [h70]; done) | grind)) (Sub.nil _)))))))))
          refine Rn.regEnd ?_
          obtain ⟨j7, hj7, hM⟩ := jnE hM
          refine Rn.joinG (r := r) (G := (List T_api_Pair)) (fun g => [(0, .slice A0 (x0).length c0), (1, .int .i64 (x1)), (3, .int .i64 (x3)), (4, .func (.func 27) #[] [].toArray), (18, .int .i64 (W64 (((toU64 (W64 (x1 + x3))) >>> UInt64.ofNat 1).toNat : Int))), (20, .int .i64 (y67)), (24, .int .i64 (W64 ((W64 ((W64 (((toU64 (W64 (x1 + x3))) >>> UInt64.ofNat 1).toNat : Int)) + x2)) - y67)))]) (fun g w' => Hp Z0 (LS [ownR 40 A0 c0 T_api_Pair.rep x0]) w w' [ownR 40 A0 c0 T_api_Pair.rep g] ∧ g.length = (x0).length) (fun g => j7 g) ?_ ?_
          · subst hj7
            clear hM
            rintro y71 w72 ⟨hm72, hl71⟩ hM
            replace hl71 : y71.length = (x0).length := hl71
            replace hm72 : Hp Z0 (LS [ownR 40 A0 c0 T_api_Pair.rep x0]) w w72 [ownR 40 A0 c0 T_api_Pair.rep y71] := hm72
            show Rn _ _ _ _ _ [(0, .slice A0 (x0).length c0), (1, .int .i64 (x1)), (3, .int .i64 (x3)), (4, .func (.func 27) #[] [].toArray), (18, .int .i64 (W64 (((toU64 (W64 (x1 + x3))) >>> UInt64.ofNat 1).toNat : Int))), (20, .int .i64 (y67)), (24, .int .i64 (W64 ((W64 ((W64 (((toU64 (W64 (x1 + x3))) >>> UInt64.ofNat 1).toNat : Int)) + x2)) - y67)))] _
            try dsimp only at hM
            refine Rn.seq (Rn.seq (Rn.reg (Rn.v rfl rfl rfl rfl (V.mv rfl) (Rn.v rfl rfl rfl rfl (V.mv rfl) (Rn.v rfl rfl rfl rfl (V.lss rfl rfl) (Rn.v rfl rfl rfl rfl (V.mv rfl) ?_))))))
            refine Rn.cutR [] [(0, .slice A0 (x0).length c0), (1, .int .i64 (x1)), (3, .int .i64 (x3)), (4, .func (.func 27) #[] [].toArray), (18, .int .i64 (W64 (((toU64 (W64 (x1 + x3))) >>> UInt64.ofNat 1).toNat : Int))), (20, .int .i64 (y67)), (24, .int .i64 (W64 ((W64 ((W64 (((toU64 (W64 (x1 + x3))) >>> UInt64.ofNat 1).toNat : Int)) + x2)) - y67))), (199, .bool (decide ((x1 < y67) ∧ (y67 < W64 (((toU64 (W64 (x1 + x3))) >>> UInt64.ofNat 1).toNat : Int)))))] (fun hk73 => ?_) ?_
            · refine Rn.partD (t := 195) rfl (fun h74 => ?_) (fun h74 => ?_)
              · refine Rn.v rfl rfl rfl rfl (V.mv rfl) (Rn.v rfl rfl rfl rfl (V.mv rfl) (Rn.v rfl rfl rfl rfl (V.lss rfl rfl) (Rn.v rfl rfl rfl rfl (V.pkT rfl rfl) ?_)))
                refine hk73 _ ?_
                exact Sub.cons rfl (Sub.cons rfl (Sub.cons rfl (Sub.cons rfl (Sub.cons rfl (Sub.cons rfl (Sub.cons rfl (Sub.cons (lkv _ rfl (by first | exact andT h74 | exact andF h74 | exact orT h74 | exact orF h74 | exact nandF h74 | exact nandT h74 | exact norT h74 | exact norF h74 | (simp [h74]; done) | grind)) (Sub.nil _))))))))
              · refine Rn.no rfl rfl rfl rfl (Rn.no rfl rfl rfl rfl (Rn.no rfl rfl rfl rfl (Rn.v rfl rfl rfl rfl (V.pkF rfl rfl) ?_)))
                refine hk73 _ ?_
                exact Sub.cons rfl (Sub.cons rfl (Sub.cons rfl (Sub.cons rfl (Sub.cons rfl (Sub.cons rfl (Sub.cons rfl (Sub.cons (lkv _ rfl (by first | exact andT h74 | exact andF h74 | exact orT h74 | exact orF h74 | exact nandF h74 | exact nandT h74 | exact norT h74 | exact norF h74 | (simp [h74]; done) | grind)) (Sub.nil _))))))))
            refine Rn.regEnd ?_
            obtain ⟨j8, hj8, hM⟩ := jnE hM
            refine Rn.joinG (r := r) (G := Unit) (fun g => [(0, .slice A0 (x0).length c0), (3, .int .i64 (x3)), (4, .func (.func 27) #[] [].toArray), (18, .int .i64 (W64 (((toU64 (W64 (x1 + x3))) >>> UInt64.ofNat 1).toNat : Int))), (24, .int .i64 (W64 ((W64 ((W64 (((toU64 (W64 (x1 + x3))) >>> UInt64.ofNat 1).toNat : Int)) + x2)) - y67)))]) (fun g w' => Hp Z0 (LS [ownR 40 A0 c0 T_api_Pair.rep x0]) w w' [ownR 40 A0 c0 T_api_Pair.rep y71]) (fun g => j8 ()) ?_ ?_
            · subst hj8
              clear hM
              rintro _ w75 hm75 hM
              replace hm75 : Hp Z0 (LS [ownR 40 A0 c0 T_api_Pair.rep x0]) w w75 [ownR 40 A0 c0 T_api_Pair.rep y71] := hm75
              show Rn _ _ _ _ _ [(0, .slice A0 (x0).length c0), (3, .int .i64 (x3)), (4, .func (.func 27) #[] [].toArray), (18, .int .i64 (W64 (((toU64 (W64 (x1 + x3))) >>> UInt64.ofNat 1).toNat : Int))), (24, .int .i64 (W64 ((W64 ((W64 (((toU64 (W64 (x1 + x3))) >>> UInt64.ofNat 1).toNat : Int)) + x2)) - y67)))] _
              try dsimp only at hM
              refine Rn.seq (Rn.reg (Rn.v rfl rfl rfl rfl (V.mv rfl) (Rn.v rfl rfl rfl rfl (V.mv rfl) (Rn.v rfl rfl rfl rfl (V.lss rfl rfl) (Rn.v rfl rfl rfl rfl (V.mv rfl) ?_)))))
              refine Rn.cutR [] [(0, .slice A0 (x0).length c0), (3, .int .i64 (x3)), (4, .func (.func 27) #[] [].toArray), (18, .int .i64 (W64 (((toU64 (W64 (x1 + x3))) >>> UInt64.ofNat 1).toNat : Int))), (24, .int .i64 (W64 ((W64 ((W64 (((toU64 (W64 (x1 + x3))) >>> UInt64.ofNat 1).toNat : Int)) + x2)) - y67))), (213, .bool (decide ((W64 (((toU64 (W64 (x1 + x3))) >>> UInt64.ofNat 1).toNat : Int) < W64 ((W64 ((W64 (((toU64 (W64 (x1 + x3))) >>> UInt64.ofNat 1).toNat : Int)) + x2)) - y67)) ∧ (W64 ((W64 ((W64 (((toU64 (W64 (x1 + x3))) >>> UInt64.ofNat 1).toNat : Int)) + x2)) - y67) < x3))))] (fun hk76 => ?_) ?_
              · refine Rn.partD (t := 209) rfl (fun h77 => ?_) (fun h77 => ?_)
                · refine Rn.v rfl rfl rfl rfl (V.mv rfl) (Rn.v rfl rfl rfl rfl (V.mv rfl) (Rn.v rfl rfl rfl rfl (V.lss rfl rfl) (Rn.v rfl rfl rfl rfl (V.pkT rfl rfl) ?_)))
                  refine hk76 _ ?_
                  exact Sub.cons rfl (Sub.cons rfl (Sub.cons rfl (Sub.cons rfl (Sub.cons rfl (Sub.cons (lkv _ rfl (by first | exact andT h77 | exact andF h77 | exact orT h77 | exact orF h77 | exact nandF h77 | exact nandT h77 | exact norT h77 | exact norF h77 | (simp [h77]; done) | grind)) (Sub.nil _))))))
                · refine Rn.no rfl rfl rfl rfl (Rn.no rfl rfl rfl rfl (Rn.no rfl rfl rfl rfl (Rn.v rfl rfl rfl rfl (V.pkF rfl rfl) ?_)))
                  refine hk76 _ ?_
                  exact Sub.cons rfl (Sub.cons rfl (Sub.cons rfl (Sub.cons rfl (Sub.cons rfl (Sub.cons (lkv _ rfl (by first | exact andT h77 | exact andF h77 | exact orT h77 | exact orF h77 | exact nandF h77 | exact nandT h77 | exact norT h77 | exact norF h77 | (simp [h77]; done) | grind)) (Sub.nil _))))))
              refine Rn.regEnd ?_
              refine Rn.condD rfl (fun h78 => ?_) (fun h78 => ?_)
              · replace hM := iteT h78 hM
                cases hM
              · replace hM := iteF h78 hM
                refine Rn.skip ?_
                refine Rn.end0 Try.func45 rfl ?_
                obtain rfl := someE hM
                exact ⟨rfl, hm75.pick [0] rfl (by decide), hl71⟩
            intro hk8
            clear hj8
            refine Rn.condD rfl (fun h80 => ?_) (fun h80 => ?_)
            · replace hM := iteT h80 hM
              cases hM
            · replace hM := iteF h80 hM
              refine Rn.skip ?_
              exact hk8 () _ _ (Sub.cons rfl (Sub.cons rfl (Sub.cons rfl (Sub.cons rfl (Sub.cons rfl (Sub.nil _)))))) (hm72.pick [0] rfl (by decide)) hM
          intro hk7
          clear hj7
          refine Rn.condD rfl (fun h82 => ?_) (fun h82 => ?_)
          · replace hM := iteT h82 hM
            refine Rn.reg (Rn.v rfl rfl rfl rfl (V.mv rfl) (Rn.v rfl rfl rfl rfl (V.mv rfl) (Rn.v rfl rfl rfl rfl (V.mv rfl) (Rn.v rfl rfl rfl rfl (V.mv rfl) (Rn.v rfl rfl rfl rfl (V.mv rfl) ?_)))))
            obtain ⟨p83, e83, hM⟩ := bindE hM
            have hm84 : Hp Z0 (LS [ownR 40 A0 c0 T_api_Pair.rep x0]) w w68 ([] ++ [ownR 40 A0 c0 T_api_Pair.rep x0]) := hm68.pick [0] rfl (by decide)
            refine Rn.cl ck47 rfl rfl rfl rfl (m_slices_rotateCmpFunc_api_Pair_s2_sim (Z0 := _) _ A0 c0 x0 y67 x2 (W64 ((W64 ((W64 (((toU64 (W64 (x1 + x3))) >>> UInt64.ofNat 1).toNat : Int)) + x2)) - y67)) hm84.lend e83) ?_
            rintro _ w83 ⟨rfl, hq83, hl83_0⟩
            refine ⟨_, rfl, ?_⟩
            have hm86 : Hp Z0 (LS [ownR 40 A0 c0 T_api_Pair.rep x0]) w w83 [ownR 40 A0 c0 T_api_Pair.rep p83] := hm84.callAZ hq83
            refine Rn.regEnd ?_
            exact hk7 p83 _ _ (Sub.cons rfl (Sub.cons rfl (Sub.cons rfl (Sub.cons rfl (Sub.cons rfl (Sub.cons rfl (Sub.cons rfl (Sub.nil _)))))))) (⟨hm86.pick [0] rfl (by decide), hl83_0⟩) hM
          · replace hM := iteF h82 hM
            refine Rn.skip ?_
            exact hk7 x0 _ _ (Sub.cons rfl (Sub.cons rfl (Sub.cons rfl (Sub.cons rfl (Sub.cons rfl (Sub.cons rfl (Sub.cons rfl (Sub.nil _)))))))) (⟨hm68.pick [0] rfl (by decide), rfl⟩) hM
        intro hk6
        clear hj6
        refine Rn.block ?_
        refine Rn.loopF (G := Int × Int) (fun g => [(0, .slice A0 (x0).length c0), (1, .int .i64 (x1)), (2, .int .i64 (x2)), (3, .int .i64 (x3)), (4, .func (.func 27) #[] [].toArray), (18, .int .i64 (W64 (((toU64 (W64 (x1 + x3))) >>> UInt64.ofNat 1).toNat : Int))), (19, .int .i64 (W64 ((W64 (((toU64 (W64 (x1 + x3))) >>> UInt64.ofNat 1).toNat : Int)) + x2))), (20, .int .i64 ((g.1))), (21, .int .i64 ((g.2))), (22, .int .i64 (W64 ((W64 ((W64 (((toU64 (W64 (x1 + x3))) >>> UInt64.ofNat 1).toNat : Int)) + x2)) - 1)))]) (fun g w' => Hp Z0 (LS [ownR 40 A0 c0 T_api_Pair.rep x0]) w w' [ownR 40 A0 c0 T_api_Pair.rep x0]) (fun n g => m_slices_symMergeCmpFunc_api_Pair_s2_L5 x0 x1 x2 x3 j6 n g.1 g.2) fuel (y64, y65) (Sub.cons rfl (Sub.cons rfl (Sub.cons rfl (Sub.cons rfl (Sub.cons rfl (Sub.cons rfl (Sub.cons rfl (Sub.cons rfl (Sub.cons rfl (Sub.cons rfl (Sub.nil _))))))))))) (hm66.pick [0] rfl (by decide)) hM (fun _ => rfl) ?_
        clear hM
        rintro m89 ⟨y87, y88⟩ w89 hm89 hM hn89
        replace hm89 : Hp Z0 (LS [ownR 40 A0 c0 T_api_Pair.rep x0]) w w89 [ownR 40 A0 c0 T_api_Pair.rep x0] := hm89
        show Rn _ _ _ _ _ [(0, .slice A0 (x0).length c0), (1, .int .i64 (x1)), (2, .int .i64 (x2)), (3, .int .i64 (x3)), (4, .func (.func 27) #[] [].toArray), (18, .int .i64 (W64 (((toU64 (W64 (x1 + x3))) >>> UInt64.ofNat 1).toNat : Int))), (19, .int .i64 (W64 ((W64 (((toU64 (W64 (x1 + x3))) >>> UInt64.ofNat 1).toNat : Int)) + x2))), (20, .int .i64 (y87)), (21, .int .i64 (y88)), (22, .int .i64 (W64 ((W64 ((W64 (((toU64 (W64 (x1 + x3))) >>> UInt64.ofNat 1).toNat : Int)) + x2)) - 1)))] _
        replace hM : m_slices_symMergeCmpFunc_api_Pair_s2_L5 x0 x1 x2 x3 j6 (m89 + 1) y87 y88 = some r := hM
        rw [m_slices_symMergeCmpFunc_api_Pair_s2_L5] at hM
        refine Rn.seq (Rn.seq (Rn.reg (Rn.v rfl rfl rfl rfl (V.mv rfl) (Rn.v rfl rfl rfl rfl (V.mv rfl) (Rn.v rfl rfl rfl rfl (V.lss rfl rfl) (Rn.regEnd ?_))))))
        refine Rn.condD rfl (fun h90 => ?_) (fun h90 => ?_)
        · replace hM := iteT h90 hM
          refine Rn.skip (Rn.block (Rn.seq (Rn.reg (Rn.v rfl rfl rfl rfl (V.mv rfl) (Rn.v rfl rfl rfl rfl (V.mv rfl) (Rn.v rfl rfl rfl rfl (V.addW rfl rfl) (Rn.v rfl rfl rfl rfl (V.cv64 Try.underlying3 Try.underlying71 rfl) (Rn.v rfl rfl rfl rfl (V.sh64 rfl rfl _ 1 rfl rfl (b64_shr _ _ _ 1 (by decide))) (Rn.v rfl rfl rfl rfl (V.cvW Try.underlying71 Try.underlying3 rfl) (Rn.v rfl rfl rfl rfl (V.as rfl) (Rn.regEnd (Rn.seq ?_))))))))))))
          refine Rn.drawH rfl hm89 ?_
          intro w91 hm91
          refine RH.take 0 (by kernel_rfl) rfl rfl rfl rfl (fun w' hDr => V.mv rfl) ?_
          refine RH.take 1 (by kernel_rfl) rfl rfl rfl rfl (fun w' hDr => V.mv rfl) ?_
          refine RH.take 2 (by kernel_rfl) rfl rfl rfl rfl (fun w' hDr => V.mv rfl) ?_
          refine RH.take 3 (by kernel_rfl) rfl rfl rfl rfl (fun w' hDr => V.mv rfl) ?_
          refine RH.take 4 (by kernel_rfl) rfl rfl rfl rfl (fun w' hDr => V.subW rfl rfl) ?_
          obtain ⟨z92, e92, hM⟩ := bindE hM
          obtain ⟨kk92, ke92, kz92, kl92⟩ := idxE e92
          obtain ⟨g92, vs92, hA92, hR92, hrel92⟩ := hm91.ownAt 0 rfl kz92
          subst hA92
          obtain ⟨_, _, rfl, ⟨rfl, _⟩, ⟨rfl, _⟩⟩ := hrel92
          refine RH.take 5 (by kernel_rfl) rfl rfl rfl rfl (fun w' hDr => V.ixE kk92 Try.underlying22 Try.sizeOf40 rfl rfl ke92 kl92) ?_
          refine RH.take 6 (by kernel_rfl) rfl rfl rfl rfl (fun w' hDr => V.ldA Try.isAgg40 Try.sizeOf40 rfl (Rd.pre (hR92.ext hDr) 2) rfl) ?_
          refine RH.take 7 (by kernel_rfl) rfl rfl rfl rfl (fun w' hDr => V.mv rfl) ?_
          refine RH.here fun hS8 => RH.one 8 (by kernel_rfl) rfl rfl rfl rfl (V.mv rfl) hS8 ?_
          obtain ⟨z93, e93, hM⟩ := bindE hM
          obtain ⟨kk93, ke93, kz93, kl93⟩ := idxE e93
          obtain ⟨vs93, hR93, hrel93⟩ := hm91.ownAtL 0 rfl kz93
          obtain ⟨_, _, rfl, ⟨rfl, _⟩, ⟨rfl, _⟩⟩ := hrel93
          refine RH.here fun hS9 => RH.one 9 (by kernel_rfl) rfl rfl rfl rfl (V.ixE kk93 Try.underlying22 Try.sizeOf40 rfl rfl ke93 kl93) hS9 ?_
          refine RH.here fun hS10 => RH.one 10 (by kernel_rfl) rfl rfl rfl rfl (V.ldA Try.isAgg40 Try.sizeOf40 rfl (Rd.pre hR93 2) rfl) hS10 ?_
          obtain ⟨p94, e94, hM⟩ := bindE hM
          refine RH.clV ck27 11 (by kernel_rfl) rfl rfl rfl rfl rfl (m_label_Sorted_1_sim (Z0 := All) _ z92 z93  e94) ?_
          rintro _ w94 ⟨rfl, hq94⟩
          refine ⟨_, rfl, ((Ext.refl _).trans hq94.fr), ?_⟩
          have hm95 := hm91.call0 hq94
          refine RH.here fun hS12 => RH.one 12 (by kernel_rfl) rfl rfl rfl rfl (V.lss rfl rfl) hS12 ?_
          refine RH.here fun hS13 => RH.one 13 (by kernel_rfl) rfl rfl rfl rfl (V.notD rfl) hS13 ?_
          refine RH.doneP (by kernel_rfl) ?_
          refine Rn.condD rfl (fun h96 => ?_) (fun h96 => ?_)
          · replace hM := iteT h96 hM
            refine Rn.reg (Rn.v rfl rfl rfl rfl (V.mv rfl) (Rn.v rfl rfl rfl rfl (V.addW rfl rfl) (Rn.v rfl rfl rfl rfl (V.as rfl) (Rn.regEnd (Rn.inBlock ?_)))))
            exact hn89 ((W64 ((W64 (((toU64 (W64 (y87 + y88))) >>> UInt64.ofNat 1).toNat : Int)) + 1)), y88) _ _ (Sub.cons rfl (Sub.cons rfl (Sub.cons rfl (Sub.cons rfl (Sub.cons rfl (Sub.cons rfl (Sub.cons rfl (Sub.cons rfl (Sub.cons rfl (Sub.cons rfl (Sub.nil _))))))))))) (hm95.pick [0] rfl (by decide)) hM
          · replace hM := iteF h96 hM
            refine Rn.reg (Rn.v rfl rfl rfl rfl (V.mv rfl) (Rn.v rfl rfl rfl rfl (V.as rfl) (Rn.regEnd (Rn.inBlock ?_))))
            exact hn89 (y87, (W64 (((toU64 (W64 (y87 + y88))) >>> UInt64.ofNat 1).toNat : Int))) _ _ (Sub.cons rfl (Sub.cons rfl (Sub.cons rfl (Sub.cons rfl (Sub.cons rfl (Sub.cons rfl (Sub.cons rfl (Sub.cons rfl (Sub.cons rfl (Sub.cons rfl (Sub.nil _))))))))))) (hm95.pick [0] rfl (by decide)) hM
        · replace hM := iteF h90 hM
          refine Rn.exit rfl ?_
          exact hk6 y87 _ _ (Sub.cons rfl (Sub.cons rfl (Sub.cons rfl (Sub.cons rfl (Sub.cons rfl (Sub.cons rfl (Sub.cons rfl (Sub.cons rfl (Sub.nil _))))))))) (hm89.pick [0] rfl (by decide)) hM
      intro hk5
      clear hj5
      refine Rn.condD rfl (fun h97 => ?_) (fun h97 => ?_)
      · replace hM := iteT h97 hM
        refine Rn.seq (Rn.reg (Rn.v rfl rfl rfl rfl (V.mv rfl) (Rn.v rfl rfl rfl rfl (V.mv rfl) (Rn.v rfl rfl rfl rfl (V.subW rfl rfl) (Rn.v rfl rfl rfl rfl (V.as rfl) (Rn.regEnd (Rn.reg (Rn.v rfl rfl rfl rfl (V.mv rfl) (Rn.v rfl rfl rfl rfl (V.as rfl) (Rn.regEnd ?_))))))))))
        exact hk5 ((W64 ((W64 ((W64 (((toU64 (W64 (x1 + x3))) >>> UInt64.ofNat 1).toNat : Int)) + x2)) - x3)), (W64 (((toU64 (W64 (x1 + x3))) >>> UInt64.ofNat 1).toNat : Int))) _ _ (Sub.cons rfl (Sub.cons rfl (Sub.cons rfl (Sub.cons rfl (Sub.cons rfl (Sub.cons rfl (Sub.cons rfl (Sub.cons rfl (Sub.cons rfl (Sub.nil _)))))))))) (hm0.pick [0] rfl (by decide)) hM
      · replace hM := iteF h97 hM
        refine Rn.seq (Rn.reg (Rn.v rfl rfl rfl rfl (V.mv rfl) (Rn.v rfl rfl rfl rfl (V.as rfl) (Rn.regEnd (Rn.reg (Rn.v rfl rfl rfl rfl (V.mv rfl) (Rn.v rfl rfl rfl rfl (V.as rfl) (Rn.regEnd ?_))))))))
        exact hk5 (x1, x2) _ _ (Sub.cons rfl (Sub.cons rfl (Sub.cons rfl (Sub.cons rfl (Sub.cons rfl (Sub.cons rfl (Sub.cons rfl (Sub.cons rfl (Sub.cons rfl (Sub.nil _)))))))))) (hm0.pick [0] rfl (by decide)) hM

set_option maxRecDepth 20000 in
theorem m_slices_stableCmpFunc_api_Pair_s1_sim {Z0 : Nat → Prop} (w : World) (A0 : Option Addr) (c0 : Nat) (x0 : (List T_api_Pair)) (x1 : Int) {r : (List T_api_Pair)} (hL : Lent Z0 w [ownR 40 A0 c0 T_api_Pair.rep x0]) (hM : m_slices_stableCmpFunc_api_Pair_s1 x0 x1 = some r) :
    Calls Try.prog 39 #[.slice A0 (x0).length c0, .int .i64 (x1), .func (.func 27) #[] [].toArray] w fun x w' => x = .returned (.tuple #[]) ∧ Hp Z0 (LS [ownR 40 A0 c0 T_api_Pair.rep x0]) w w' [ownR 40 A0 c0 T_api_Pair.rep r] ∧ (r).length = (x0).length := by
  have hm0 := hL.start
  refine Rn.enter Try.func39 rfl rfl (Nat.le_of_ble_eq_true rfl) ?_
  refine Rn.seq (Rn.reg (Rn.v rfl rfl rfl rfl (V.as rfl) (Rn.regEnd (Rn.seq (Rn.reg (Rn.v rfl rfl rfl rfl (V.mv rfl) (Rn.v rfl rfl rfl rfl (V.as rfl) (Rn.v rfl rfl rfl rfl (V.as rfl) (Rn.regEnd (Rn.seq ?_))))))))))
  obtain ⟨j1, hj1, hM⟩ := jnE hM
  refine Rn.joinG (r := r) (G := (List T_api_Pair) × Int) (fun g => [(0, .slice A0 (x0).length c0), (1, .int .i64 (x1)), (2, .func (.func 27) #[] [].toArray), (6, .int .i64 (20)), (7, .int .i64 ((g.2)))]) (fun g w' => Hp Z0 (LS [ownR 40 A0 c0 T_api_Pair.rep x0]) w w' [ownR 40 A0 c0 T_api_Pair.rep (g.1)] ∧ (g.1).length = (x0).length) (fun g => j1 g.1 g.2) ?_ ?_
  · subst hj1
    clear hM
    rintro ⟨y2, y3⟩ w4 ⟨hm4, hl2⟩ hM
    replace hl2 : y2.length = (x0).length := hl2
    replace hm4 : Hp Z0 (LS [ownR 40 A0 c0 T_api_Pair.rep x0]) w w4 [ownR 40 A0 c0 T_api_Pair.rep y2] := hm4
    show Rn _ _ _ _ _ [(0, .slice A0 (x0).length c0), (1, .int .i64 (x1)), (2, .func (.func 27) #[] [].toArray), (6, .int .i64 (20)), (7, .int .i64 (y3))] _
    try dsimp only at hM
    refine Rn.seq (Rn.reg (Rn.v rfl rfl rfl rfl (V.mv rfl) (Rn.v rfl rfl rfl rfl (V.mv rfl) (Rn.v rfl rfl rfl rfl (V.mv rfl) (Rn.v rfl rfl rfl rfl (V.mv rfl) ?_)))))
    refine Rn.say (t := 0) (.slice A0 (y2).length c0) rfl (by rw [show (x0).length = (y2).length from (hl2).symm.trans (rfl)]) ?_
    refine Rn.say (t := 23) (.slice A0 (y2).length c0) rfl (by rw [show (x0).length = (y2).length from (hl2).symm.trans (rfl)]) ?_
    obtain ⟨p5, e5, hM⟩ := bindE hM
    have hm6 : Hp Z0 (LS [ownR 40 A0 c0 T_api_Pair.rep x0]) w w4 ([] ++ [ownR 40 A0 c0 T_api_Pair.rep y2]) := hm4.pick [0] rfl (by decide)
    refine Rn.cl ck44 rfl rfl rfl rfl (m_slices_insertionSortCmpFunc_api_Pair_s2_sim (Z0 := _) _ A0 c0 y2 y3 x1 hm6.lend e5) ?_
    rintro _ w5 ⟨rfl, hq5, hl5_0⟩
    refine ⟨_, rfl, ?_⟩
    have hm8 : Hp Z0 (LS [ownR 40 A0 c0 T_api_Pair.rep x0]) w w5 [ownR 40 A0 c0 T_api_Pair.rep p5] := hm6.callAZ hq5
    refine Rn.regEnd ?_
    obtain ⟨j2, hj2, hM⟩ := jnE hM
    refine Rn.joinG (r := r) (G := (List T_api_Pair)) (fun g => []) (fun g w' => Hp Z0 (LS [ownR 40 A0 c0 T_api_Pair.rep x0]) w w' [ownR 40 A0 c0 T_api_Pair.rep g] ∧ g.length = (y2).length) (fun g => j2 g) ?_ ?_
    · subst hj2
      clear hM
      rintro y9 w10 ⟨hm10, hl9⟩ hM
      replace hl9 : y9.length = (y2).length := hl9
      replace hm10 : Hp Z0 (LS [ownR 40 A0 c0 T_api_Pair.rep x0]) w w10 [ownR 40 A0 c0 T_api_Pair.rep y9] := hm10
      show Rn _ _ _ _ _ [] _
      try dsimp only at hM
      refine Rn.end0 Try.func39 rfl ?_
      obtain rfl := someE hM
      exact ⟨rfl, hm10.pick [0] rfl (by decide), (hl9.trans ((hl5_0).symm.trans ((hl5_0.trans hl2))))⟩
    intro hk2
    clear hj2
    refine Rn.block ?_
    refine Rn.loopF (G := (List T_api_Pair) × Int) (fun g => [(0, .slice A0 (y2).length c0), (1, .int .i64 (x1)), (2, .func (.func 27) #[] [].toArray), (6, .int .i64 ((g.2)))]) (fun g w' => Hp Z0 (LS [ownR 40 A0 c0 T_api_Pair.rep x0]) w w' [ownR 40 A0 c0 T_api_Pair.rep (g.1)] ∧ (g.1).length = (y2).length) (fun n g => m_slices_stableCmpFunc_api_Pair_s1_L1 x1 j2 n g.1 g.2) fuel (p5, 20) (Sub.cons rfl (Sub.cons rfl (Sub.cons rfl (Sub.cons rfl (Sub.nil _))))) (⟨hm8.pick [0] rfl (by decide), hl5_0⟩) hM (fun _ => rfl) ?_
    clear hM
    rintro m13 ⟨y11, y12⟩ w13 ⟨hm13, hl11⟩ hM hn13
    replace hl11 : y11.length = (y2).length := hl11
    replace hm13 : Hp Z0 (LS [ownR 40 A0 c0 T_api_Pair.rep x0]) w w13 [ownR 40 A0 c0 T_api_Pair.rep y11] := hm13
    show Rn _ _ _ _ _ [(0, .slice A0 (y2).length c0), (1, .int .i64 (x1)), (2, .func (.func 27) #[] [].toArray), (6, .int .i64 (y12))] _
    replace hM : m_slices_stableCmpFunc_api_Pair_s1_L1 x1 j2 (m13 + 1) y11 y12 = some r := hM
    rw [m_slices_stableCmpFunc_api_Pair_s1_L1] at hM
    refine Rn.seq (Rn.seq (Rn.reg (Rn.v rfl rfl rfl rfl (V.mv rfl) (Rn.v rfl rfl rfl rfl (V.mv rfl) (Rn.v rfl rfl rfl rfl (V.lss rfl rfl) (Rn.regEnd ?_))))))
    refine Rn.condD rfl (fun h14 => ?_) (fun h14 => ?_)
    · replace hM := iteT h14 hM
      refine Rn.skip (Rn.block (Rn.seq (Rn.reg (Rn.v rfl rfl rfl rfl (V.mv rfl) (Rn.v rfl rfl rfl rfl (V.mulW rfl rfl) (Rn.v rfl rfl rfl rfl (V.as rfl) (Rn.v rfl rfl rfl rfl (V.as rfl) (Rn.regEnd (Rn.seq ?_)))))))))
      obtain ⟨j3, hj3, hM⟩ := jnE hM
      refine Rn.joinG (r := r) (G := (List T_api_Pair) × Int) (fun g => [(0, .slice A0 (y2).length c0), (1, .int .i64 (x1)), (2, .func (.func 27) #[] [].toArray), (6, .int .i64 (y12)), (7, .int .i64 ((g.2)))]) (fun g w' => Hp Z0 (LS [ownR 40 A0 c0 T_api_Pair.rep x0]) w w' [ownR 40 A0 c0 T_api_Pair.rep (g.1)] ∧ (g.1).length = (y2).length) (fun g => j3 g.1 g.2) ?_ ?_
      · subst hj3
        clear hM
        rintro ⟨y15, y16⟩ w17 ⟨hm17, hl15⟩ hM
        replace hl15 : y15.length = (y2).length := hl15
        replace hm17 : Hp Z0 (LS [ownR 40 A0 c0 T_api_Pair.rep x0]) w w17 [ownR 40 A0 c0 T_api_Pair.rep y15] := hm17
        show Rn _ _ _ _ _ [(0, .slice A0 (y2).length c0), (1, .int .i64 (x1)), (2, .func (.func 27) #[] [].toArray), (6, .int .i64 (y12)), (7, .int .i64 (y16))] _
        try dsimp only at hM
        refine Rn.seq (Rn.seq (Rn.reg (Rn.v rfl rfl rfl rfl (V.mv rfl) (Rn.v rfl rfl rfl rfl (V.mv rfl) (Rn.v rfl rfl rfl rfl (V.addW rfl rfl) (Rn.v rfl rfl rfl rfl (V.as rfl) (Rn.regEnd (Rn.seq (Rn.reg (Rn.v rfl rfl rfl rfl (V.mv rfl) (Rn.v rfl rfl rfl rfl (V.mv rfl) (Rn.v rfl rfl rfl rfl (V.lss rfl rfl) (Rn.regEnd ?_)))))))))))))
        obtain ⟨j4, hj4, hM⟩ := jnE hM
        refine Rn.joinG (r := r) (G := (List T_api_Pair)) (fun g => [(0, .slice A0 (y2).length c0), (1, .int .i64 (x1)), (2, .func (.func 27) #[] [].toArray), (6, .int .i64 (y12))]) (fun g w' => Hp Z0 (LS [ownR 40 A0 c0 T_api_Pair.rep x0]) w w' [ownR 40 A0 c0 T_api_Pair.rep g] ∧ g.length = (y2).length) (fun g => j4 g) ?_ ?_
        · subst hj4
          clear hM
          rintro y18 w19 ⟨hm19, hl18⟩ hM
          replace hl18 : y18.length = (y2).length := hl18
          replace hm19 : Hp Z0 (LS [ownR 40 A0 c0 T_api_Pair.rep x0]) w w19 [ownR 40 A0 c0 T_api_Pair.rep y18] := hm19
          show Rn _ _ _ _ _ [(0, .slice A0 (y2).length c0), (1, .int .i64 (x1)), (2, .func (.func 27) #[] [].toArray), (6, .int .i64 (y12))] _
          try dsimp only at hM
          refine Rn.reg (Rn.v rfl rfl rfl rfl (V.mv rfl) (Rn.v rfl rfl rfl rfl (V.mulW rfl rfl) (Rn.v rfl rfl rfl rfl (V.as rfl) (Rn.regEnd (Rn.inBlock ?_)))))
          exact hn13 (y18, (W64 (y12 * 2))) _ _ (Sub.cons rfl (Sub.cons rfl (Sub.cons rfl (Sub.cons rfl (Sub.nil _))))) (⟨hm19.pick [0] rfl (by decide), hl18⟩) hM
        intro hk4
        clear hj4
        refine Rn.condD rfl (fun h20 => ?_) (fun h20 => ?_)
        · replace hM := iteT h20 hM
          refine Rn.reg (Rn.v rfl rfl rfl rfl (V.mv rfl) (Rn.v rfl rfl rfl rfl (V.mv rfl) (Rn.v rfl rfl rfl rfl (V.mv rfl) (Rn.v rfl rfl rfl rfl (V.mv rfl) (Rn.v rfl rfl rfl rfl (V.mv rfl) ?_)))))
          refine Rn.say (t := 0) (.slice A0 (y15).length c0) rfl (by rw [show (y2).length = (y15).length from (hl15).symm.trans (rfl)]) ?_
          refine Rn.say (t := 55) (.slice A0 (y15).length c0) rfl (by rw [show (y2).length = (y15).length from (hl15).symm.trans (rfl)]) ?_
          obtain ⟨p21, e21, hM⟩ := bindE hM
          have hm22 : Hp Z0 (LS [ownR 40 A0 c0 T_api_Pair.rep x0]) w w17 ([] ++ [ownR 40 A0 c0 T_api_Pair.rep y15]) := hm17.pick [0] rfl (by decide)
          refine Rn.cl ck45 rfl rfl rfl rfl (m_slices_symMergeCmpFunc_api_Pair_s2_sim (Z0 := _) _ A0 c0 y15 y16 (W64 (y16 + y12)) x1 hm22.lend e21) ?_
          rintro _ w21 ⟨rfl, hq21, hl21_0⟩
          refine ⟨_, rfl, ?_⟩
          have hm24 : Hp Z0 (LS [ownR 40 A0 c0 T_api_Pair.rep x0]) w w21 [ownR 40 A0 c0 T_api_Pair.rep p21] := hm22.callAZ hq21
          refine Rn.regEnd ?_
          refine Rn.say (t := 0) (.slice A0 (y2).length c0) rfl (by rw [show (y15).length = (y2).length from (hl21_0).symm.trans ((hl21_0.trans hl15))]) ?_
          refine Rn.say (t := 55) (.slice A0 (y2).length c0) rfl (by rw [show (y15).length = (y2).length from (hl21_0).symm.trans ((hl21_0.trans hl15))]) ?_
          exact hk4 p21 _ _ (Sub.cons rfl (Sub.cons rfl (Sub.cons rfl (Sub.cons rfl (Sub.nil _))))) (⟨hm24.pick [0] rfl (by decide), (hl21_0.trans hl15)⟩) hM
        · replace hM := iteF h20 hM
          refine Rn.skip ?_
          exact hk4 y15 _ _ (Sub.cons rfl (Sub.cons rfl (Sub.cons rfl (Sub.cons rfl (Sub.nil _))))) (⟨hm17.pick [0] rfl (by decide), hl15⟩) hM
      intro hk3
      clear hj3
      refine Rn.block ?_
      refine Rn.loopF (G := (List T_api_Pair) × Int × Int) (fun g => [(0, .slice A0 (y2).length c0), (1, .int .i64 (x1)), (2, .func (.func 27) #[] [].toArray), (6, .int .i64 (y12)), (7, .int .i64 ((g.2.1))), (8, .int .i64 ((g.2.2)))]) (fun g w' => Hp Z0 (LS [ownR 40 A0 c0 T_api_Pair.rep x0]) w w' [ownR 40 A0 c0 T_api_Pair.rep (g.1)] ∧ (g.1).length = (y2).length) (fun n g => m_slices_stableCmpFunc_api_Pair_s1_L2 x1 y12 j3 n g.1 g.2.1 g.2.2) fuel (y11, 0, (W64 (2 * y12))) (Sub.cons rfl (Sub.cons rfl (Sub.cons rfl (Sub.cons rfl (Sub.cons rfl (Sub.cons rfl (Sub.nil _))))))) (⟨hm13.pick [0] rfl (by decide), hl11⟩) hM (fun _ => rfl) ?_
      clear hM
      rintro m28 ⟨y25, y26, y27⟩ w28 ⟨hm28, hl25⟩ hM hn28
      replace hl25 : y25.length = (y2).length := hl25
      replace hm28 : Hp Z0 (LS [ownR 40 A0 c0 T_api_Pair.rep x0]) w w28 [ownR 40 A0 c0 T_api_Pair.rep y25] := hm28
      show Rn _ _ _ _ _ [(0, .slice A0 (y2).length c0), (1, .int .i64 (x1)), (2, .func (.func 27) #[] [].toArray), (6, .int .i64 (y12)), (7, .int .i64 (y26)), (8, .int .i64 (y27))] _
      replace hM : m_slices_stableCmpFunc_api_Pair_s1_L2 x1 y12 j3 (m28 + 1) y25 y26 y27 = some r := hM
      rw [m_slices_stableCmpFunc_api_Pair_s1_L2] at hM
      refine Rn.seq (Rn.seq (Rn.reg (Rn.v rfl rfl rfl rfl (V.mv rfl) (Rn.v rfl rfl rfl rfl (V.mv rfl) (Rn.v rfl rfl rfl rfl (V.leq rfl rfl) (Rn.regEnd ?_))))))
      refine Rn.condD rfl (fun h29 => ?_) (fun h29 => ?_)
      · replace hM := iteT h29 hM
        refine Rn.skip (Rn.block (Rn.seq (Rn.reg (Rn.v rfl rfl rfl rfl (V.mv rfl) (Rn.v rfl rfl rfl rfl (V.mv rfl) (Rn.v rfl rfl rfl rfl (V.mv rfl) (Rn.v rfl rfl rfl rfl (V.mv rfl) (Rn.v rfl rfl rfl rfl (V.addW rfl rfl) (Rn.v rfl rfl rfl rfl (V.mv rfl) (Rn.v rfl rfl rfl rfl (V.mv rfl) ?_))))))))))
        refine Rn.say (t := 0) (.slice A0 (y25).length c0) rfl (by rw [show (y2).length = (y25).length from (hl25).symm.trans (rfl)]) ?_
        refine Rn.say (t := 36) (.slice A0 (y25).length c0) rfl (by rw [show (y2).length = (y25).length from (hl25).symm.trans (rfl)]) ?_
        obtain ⟨p30, e30, hM⟩ := bindE hM
        have hm31 : Hp Z0 (LS [ownR 40 A0 c0 T_api_Pair.rep x0]) w w28 ([] ++ [ownR 40 A0 c0 T_api_Pair.rep y25]) := hm28.pick [0] rfl (by decide)
        refine Rn.cl ck45 rfl rfl rfl rfl (m_slices_symMergeCmpFunc_api_Pair_s2_sim (Z0 := _) _ A0 c0 y25 y26 (W64 (y26 + y12)) y27 hm31.lend e30) ?_
        rintro _ w30 ⟨rfl, hq30, hl30_0⟩
        refine ⟨_, rfl, ?_⟩
        have hm33 : Hp Z0 (LS [ownR 40 A0 c0 T_api_Pair.rep x0]) w w30 [ownR 40 A0 c0 T_api_Pair.rep p30] := hm31.callAZ hq30
        refine Rn.regEnd (Rn.seq (Rn.reg (Rn.v rfl rfl rfl rfl (V.mv rfl) (Rn.v rfl rfl rfl rfl (V.as rfl) (Rn.regEnd (Rn.reg (Rn.v rfl rfl rfl rfl (V.mv rfl) (Rn.v rfl rfl rfl rfl (V.mv rfl) (Rn.v rfl rfl rfl rfl (V.mulW rfl rfl) (Rn.v rfl rfl rfl rfl (V.addW rfl rfl) (Rn.v rfl rfl rfl rfl (V.as rfl) (Rn.regEnd (Rn.inBlock ?_)))))))))))))
        refine Rn.say (t := 0) (.slice A0 (y2).length c0) rfl (by rw [show (y25).length = (y2).length from (hl30_0).symm.trans ((hl30_0.trans hl25))]) ?_
        refine Rn.say (t := 36) (.slice A0 (y2).length c0) rfl (by rw [show (y25).length = (y2).length from (hl30_0).symm.trans ((hl30_0.trans hl25))]) ?_
        exact hn28 (p30, y27, (W64 (y27 + (W64 (2 * y12))))) _ _ (Sub.cons rfl (Sub.cons rfl (Sub.cons rfl (Sub.cons rfl (Sub.cons rfl (Sub.cons rfl (Sub.nil _))))))) (⟨hm33.pick [0] rfl (by decide), (hl30_0.trans hl25)⟩) hM
      · replace hM := iteF h29 hM
        refine Rn.exit rfl ?_
        exact hk3 (y25, y26) _ _ (Sub.cons rfl (Sub.cons rfl (Sub.cons rfl (Sub.cons rfl (Sub.cons rfl (Sub.nil _)))))) (⟨hm28.pick [0] rfl (by decide), hl25⟩) hM
    · replace hM := iteF h14 hM
      refine Rn.exit rfl ?_
      exact hk2 y11 _ _ (Sub.nil _) (⟨hm13.pick [0] rfl (by decide), hl11⟩) hM
  intro hk1
  clear hj1
  refine Rn.block ?_
  refine Rn.loopF (G := (List T_api_Pair) × Int × Int) (fun g => [(0, .slice A0 (x0).length c0), (1, .int .i64 (x1)), (2, .func (.func 27) #[] [].toArray), (6, .int .i64 (20)), (7, .int .i64 ((g.2.1))), (8, .int .i64 ((g.2.2)))]) (fun g w' => Hp Z0 (LS [ownR 40 A0 c0 T_api_Pair.rep x0]) w w' [ownR 40 A0 c0 T_api_Pair.rep (g.1)] ∧ (g.1).length = (x0).length) (fun n g => m_slices_stableCmpFunc_api_Pair_s1_L3 x1 j1 n g.1 g.2.1 g.2.2) fuel (x0, 0, 20) (Sub.cons rfl (Sub.cons rfl (Sub.cons rfl (Sub.cons rfl (Sub.cons rfl (Sub.cons rfl (Sub.nil _))))))) (⟨hm0.pick [0] rfl (by decide), rfl⟩) hM (fun _ => rfl) ?_
  clear hM
  rintro m37 ⟨y34, y35, y36⟩ w37 ⟨hm37, hl34⟩ hM hn37
  replace hl34 : y34.length = (x0).length := hl34
  replace hm37 : Hp Z0 (LS [ownR 40 A0 c0 T_api_Pair.rep x0]) w w37 [ownR 40 A0 c0 T_api_Pair.rep y34] := hm37
  show Rn _ _ _ _ _ [(0, .slice A0 (x0).length c0), (1, .int .i64 (x1)), (2, .func (.func 27) #[] [].toArray), (6, .int .i64 (20)), (7, .int .i64 (y35)), (8, .int .i64 (y36))] _
  replace hM : m_slices_stableCmpFunc_api_Pair_s1_L3 x1 j1 (m37 + 1) y34 y35 y36 = some r := hM
  rw [m_slices_stableCmpFunc_api_Pair_s1_L3] at hM
  refine Rn.seq (Rn.seq (Rn.reg (Rn.v rfl rfl rfl rfl (V.mv rfl) (Rn.v rfl rfl rfl rfl (V.mv rfl) (Rn.v rfl rfl rfl rfl (V.leq rfl rfl) (Rn.regEnd ?_))))))
  refine Rn.condD rfl (fun h38 => ?_) (fun h38 => ?_)
  · replace hM := iteT h38 hM
    refine Rn.skip (Rn.block (Rn.seq (Rn.reg (Rn.v rfl rfl rfl rfl (V.mv rfl) (Rn.v rfl rfl rfl rfl (V.mv rfl) (Rn.v rfl rfl rfl rfl (V.mv rfl) (Rn.v rfl rfl rfl rfl (V.mv rfl) ?_)))))))
    refine Rn.say (t := 0) (.slice A0 (y34).length c0) rfl (by rw [show (x0).length = (y34).length from (hl34).symm.trans (rfl)]) ?_
    refine Rn.say (t := 14) (.slice A0 (y34).length c0) rfl (by rw [show (x0).length = (y34).length from (hl34).symm.trans (rfl)]) ?_
    obtain ⟨p39, e39, hM⟩ := bindE hM
    have hm40 : Hp Z0 (LS [ownR 40 A0 c0 T_api_Pair.rep x0]) w w37 ([] ++ [ownR 40 A0 c0 T_api_Pair.rep y34]) := hm37.pick [0] rfl (by decide)
    refine Rn.cl ck44 rfl rfl rfl rfl (m_slices_insertionSortCmpFunc_api_Pair_s2_sim (Z0 := _) _ A0 c0 y34 y35 y36 hm40.lend e39) ?_
    rintro _ w39 ⟨rfl, hq39, hl39_0⟩
    refine ⟨_, rfl, ?_⟩
    have hm42 : Hp Z0 (LS [ownR 40 A0 c0 T_api_Pair.rep x0]) w w39 [ownR 40 A0 c0 T_api_Pair.rep p39] := hm40.callAZ hq39
    refine Rn.regEnd (Rn.seq (Rn.reg (Rn.v rfl rfl rfl rfl (V.mv rfl) (Rn.v rfl rfl rfl rfl (V.as rfl) (Rn.regEnd (Rn.reg (Rn.v rfl rfl rfl rfl (V.mv rfl) (Rn.v rfl rfl rfl rfl (V.mv rfl) (Rn.v rfl rfl rfl rfl (V.addW rfl rfl) (Rn.v rfl rfl rfl rfl (V.as rfl) (Rn.regEnd (Rn.inBlock ?_))))))))))))
    refine Rn.say (t := 0) (.slice A0 (x0).length c0) rfl (by rw [show (y34).length = (x0).length from (hl39_0).symm.trans ((hl39_0.trans hl34))]) ?_
    refine Rn.say (t := 14) (.slice A0 (x0).length c0) rfl (by rw [show (y34).length = (x0).length from (hl39_0).symm.trans ((hl39_0.trans hl34))]) ?_
    exact hn37 (p39, y36, (W64 (y36 + 20))) _ _ (Sub.cons rfl (Sub.cons rfl (Sub.cons rfl (Sub.cons rfl (Sub.cons rfl (Sub.cons rfl (Sub.nil _))))))) (⟨hm42.pick [0] rfl (by decide), (hl39_0.trans hl34)⟩) hM
  · replace hM := iteF h38 hM
    refine Rn.exit rfl ?_
    exact hk1 (y34, y35) _ _ (Sub.cons rfl (Sub.cons rfl (Sub.cons rfl (Sub.cons rfl (Sub.cons rfl (Sub.nil _)))))) (⟨hm37.pick [0] rfl (by decide), hl34⟩) hM

set_option maxRecDepth 20000 in
theorem m_slices_SortStableFunc_api_Pair_api_Pair_s1_sim {Z0 : Nat → Prop} (w : World) (A0 : Option Addr) (c0 : Nat) (x0 : (List T_api_Pair)) {r : (List T_api_Pair)} (hL : Lent Z0 w [ownR 40 A0 c0 T_api_Pair.rep x0]) (hM : m_slices_SortStableFunc_api_Pair_api_Pair_s1 x0 = some r) :
    Calls Try.prog 26 #[.slice A0 (x0).length c0, .func (.func 27) #[] [].toArray] w fun x w' => x = .returned (.tuple #[]) ∧ Hp Z0 (LS [ownR 40 A0 c0 T_api_Pair.rep x0]) w w' [ownR 40 A0 c0 T_api_Pair.rep r] ∧ (r).length = (x0).length := by
  have hm0 := hL.start
  refine Rn.enter Try.func26 rfl rfl (Nat.le_of_ble_eq_true rfl) ?_
  refine Rn.reg (Rn.v rfl rfl rfl rfl (V.mv rfl) (Rn.v rfl rfl rfl rfl (V.mv rfl) (Rn.v rfl rfl rfl rfl (V.lenV Try.underlying22 rfl) (Rn.v rfl rfl rfl rfl (V.mv rfl) ?_))))
  obtain ⟨p2, e2, hM⟩ := bindE hM
  have hm3 : Hp Z0 (LS [ownR 40 A0 c0 T_api_Pair.rep x0]) w w ([] ++ [ownR 40 A0 c0 T_api_Pair.rep x0]) := hm0.pick [0] rfl (by decide)
  refine Rn.cl ck39 rfl rfl rfl rfl (m_slices_stableCmpFunc_api_Pair_s1_sim (Z0 := _) _ A0 c0 x0 (x0.length : Int) hm3.lend e2) ?_
  rintro _ w2 ⟨rfl, hq2, hl2_0⟩
  refine ⟨_, rfl, ?_⟩
  have hm5 : Hp Z0 (LS [ownR 40 A0 c0 T_api_Pair.rep x0]) w w2 [ownR 40 A0 c0 T_api_Pair.rep p2] := hm3.callAZ hq2
  refine Rn.regEnd ?_
  refine Rn.end0 Try.func26 rfl ?_
  obtain rfl := someE hM
  exact ⟨rfl, hm5.pick [0] rfl (by decide), hl2_0⟩

set_option maxRecDepth 20000 in
theorem m_label_Sorted_sim {Z0 : Nat → Prop} (w : World) (A0 : Option Addr) (c0 : Nat) (x0 : (List T_api_Pair)) {r : (List T_api_Pair)} (f0 : (slR A0 c0 T_api_Pair.rep x0).H Z0 w) (hM : m_label_Sorted x0 = some r) :
    Calls Try.prog 13 #[.slice A0 (x0).length c0] w fun x w' => ∃ A_0_0 c_0_0, x = .returned (.slice A_0_0 (r).length c_0_0) ∧ Hp Z0 No w w' [ownR 40 A_0_0 c_0_0 T_api_Pair.rep r] := by
  have hm0 := Hp.nil Z0 No w
  have hc0 := Calm.nil
  have hm2 := hm0.know (slR A0 c0 T_api_Pair.rep x0) (fun _ h => h) (hm0.in0 hc0 f0)
  replace hc0 := hc0.snoc (r := slR A0 c0 T_api_Pair.rep x0) (fun _ h => h)
  refine Rn.enter Try.func13 rfl rfl (Nat.le_of_ble_eq_true rfl) ?_
  refine Rn.seq (Rn.reg (Rn.v rfl rfl rfl rfl (V.as rfl) (Rn.regEnd (Rn.seq (Rn.reg (Rn.v rfl rfl rfl rfl (V.mv rfl) ?_))))))
  obtain ⟨z3, e3, hM⟩ := bindE hM
  refine Rn.cl ck25 rfl rfl rfl rfl (clone_25 (Z0 := All) _ A0 c0 x0 (slR_all (hm2.get 0 rfl)) e3) ?_
  rintro _ w3 ⟨A3, c3, rfl, hq3⟩
  refine ⟨_, rfl, ?_⟩
  have hm5 : Hp Z0 No w w3 [slR A0 c0 T_api_Pair.rep x0, ownR 40 A3 c3 T_api_Pair.rep z3] := hm2.callF (flC (ownR_flat T_api_Pair.flat _ _ _ _) fl0) hq3
  refine Rn.v rfl rfl rfl rfl (V.as rfl) (Rn.regEnd (Rn.seq (Rn.reg (Rn.v rfl rfl rfl rfl (V.mv rfl) ?_))))
  obtain ⟨p6, e6, hM⟩ := bindE hM
  have hm7 : Hp Z0 No w w3 ([slR A0 c0 T_api_Pair.rep x0] ++ [ownR 40 A3 c3 T_api_Pair.rep z3]) := hm5.pick [0, 1] rfl (by decide)
  refine Rn.cl ck26 rfl rfl rfl rfl (m_slices_SortStableFunc_api_Pair_api_Pair_s1_sim (Z0 := _) _ A3 c3 z3 hm7.lend e6) ?_
  rintro _ w6 ⟨rfl, hq6, hl6_0⟩
  refine ⟨_, rfl, ?_⟩
  have hm9 : Hp Z0 No w w6 [slR A0 c0 T_api_Pair.rep x0, ownR 40 A3 c3 T_api_Pair.rep p6] := hm7.callAZ hq6
  refine Rn.regEnd (Rn.seq (Rn.reg (Rn.v rfl rfl rfl rfl (V.mv rfl) (Rn.v rfl rfl rfl rfl (V.as rfl) (Rn.regEnd ?_)))))
  refine Rn.say (t := 2) (.slice A3 (p6).length c3) rfl (by rw [show (z3).length = (p6).length from (hl6_0).symm.trans (rfl)]) ?_
  refine Rn.say (t := 5) (.slice A3 (p6).length c3) rfl (by rw [show (z3).length = (p6).length from (hl6_0).symm.trans (rfl)]) ?_
  refine Rn.say (t := 3) (.slice A3 (p6).length c3) rfl (by rw [show (z3).length = (p6).length from (hl6_0).symm.trans (rfl)]) ?_
  refine Rn.say (t := 6) (.slice A3 (p6).length c3) rfl (by rw [show (z3).length = (p6).length from (hl6_0).symm.trans (rfl)]) ?_
  refine Rn.say (t := 8) (.slice A3 (p6).length c3) rfl (by rw [show (z3).length = (p6).length from (hl6_0).symm.trans (rfl)]) ?_
  refine Rn.retG1 Try.func13 rfl (rvT rfl) ?_
  obtain rfl := someE hM
  exact ⟨A3, c3, rfl, hm9.pick [1] rfl (by decide)⟩

set_option maxRecDepth 20000 in
theorem m_label_Text_sim {Z0 : Nat → Prop} (w : World) (x0 : (List UInt8)) (A1 : Option Addr) (c1 : Nat) (x1 : (List T_api_Pair)) {r : ((List UInt8) × Int)} (f0 : (slR A1 c1 T_api_Pair.rep x1).H Z0 w) (hM : m_label_Text x0 x1 = some r) :
    Calls Try.prog 9 #[Str (x0), .slice A1 (x1).length c1] w fun x w' => x = .returned (.tuple #[Str (r.1), .int .i64 (r.2)]) ∧ Hp Z0 No w w' [] := by
  have hm0 := Hp.nil Z0 No w
  have hc0 := Calm.nil
  have hm2 := hm0.know (slR A1 c1 T_api_Pair.rep x1) (fun _ h => h) (hm0.in0 hc0 f0)
  replace hc0 := hc0.snoc (r := slR A1 c1 T_api_Pair.rep x1) (fun _ h => h)
  refine Rn.enter Try.func9 rfl rfl (Nat.le_of_ble_eq_true rfl) ?_
  refine Rn.seq (Rn.reg (Rn.v rfl rfl rfl rfl (V.as rfl) (Rn.v rfl rfl rfl rfl (V.as rfl) (Rn.regEnd (Rn.seq (Rn.seq (Rn.reg (Rn.v rfl rfl rfl rfl (V.mv rfl) (Rn.v rfl rfl rfl rfl (V.mv rfl) ?_)))))))))
  obtain ⟨p3, e3, hM⟩ := bindE hM
  refine Rn.cl ck11 rfl rfl rfl rfl (m_label_Check_sim (Z0 := All) _ x0 A1 c1 x1 (slR_all (hm2.get 0 rfl)) e3) ?_
  rintro _ w3 ⟨rfl, hq3⟩
  refine ⟨_, rfl, ?_⟩
  have hm4 := hm2.call0 hq3
  refine Rn.v rfl rfl rfl rfl (V.as rfl) (Rn.regEnd (Rn.seq (Rn.reg (Rn.v rfl rfl rfl rfl (V.mv rfl) (Rn.v rfl rfl rfl rfl (V.neq rfl rfl) (Rn.regEnd ?_))))))
  refine Rn.condD rfl (fun h5 => ?_) (fun h5 => ?_)
  · replace hM := iteT h5 hM
    refine Rn.seq (Rn.reg (Rn.v rfl rfl rfl rfl (V.mv rfl) (Rn.v rfl rfl rfl rfl (V.as rfl) (Rn.v rfl rfl rfl rfl (V.as rfl) (Rn.regEnd ?_)))))
    refine Rn.retG2 Try.func9 rfl (rvT rfl) (rvT rfl) ?_
    obtain rfl := someE hM
    exact ⟨rfl, hm4.pick [] rfl (by decide)⟩
  · replace hM := iteF h5 hM
    refine Rn.skip (Rn.seq (Rn.reg (Rn.alloc rfl rfl rfl Try.zeroValue44 rfl ?_)))
    intro b6 w6 hb6 m6 e6
    have hm8 : Hp Z0 No w w6 [slR A1 c1 T_api_Pair.rep x1, boxR b6 44 [.pointer none, .slice none 0 0]] := hm4.addBox hb6 e6 m6
    have hm9 : Hp Z0 No w w6 [slR A1 c1 T_api_Pair.rep x1, bldR 44 5 b6 none 0 ([] : List UInt8)] := hm8.toBld 1 rfl
    refine Rn.regEnd (Rn.seq (Rn.reg (Rn.v rfl rfl rfl rfl (V.mv rfl) ?_)))
    obtain ⟨z10, e10, hM⟩ := bindE hM
    have hm11 : Hp Z0 No w w6 ([slR A1 c1 T_api_Pair.rep x1] ++ [bldR 44 5 b6 none 0 ([] : List UInt8)]) := hm9.pick [0, 1] rfl (by decide)
    refine Rn.cl ck19 rfl rfl rfl rfl (bld_ws _ _ _ _ _ x0 hm11.lend e10) ?_
    rintro _ w10 ⟨A10, c10, rfl, hq10⟩
    refine ⟨_, rfl, ?_⟩
    have hm12 : Hp Z0 No w w10 [slR A1 c1 T_api_Pair.rep x1, bldR 44 5 b6 A10 c10 z10] := hm11.callAZ hq10
    refine Rn.regEnd (Rn.seq (Rn.seq (Rn.reg (Rn.v rfl rfl rfl rfl (V.mv rfl) ?_))))
    obtain ⟨p13, e13, hM⟩ := bindE hM
    refine Rn.cl ck13 rfl rfl rfl rfl (m_label_Sorted_sim (Z0 := All) _ A1 c1 x1 (slR_all (hm12.get 0 rfl)) e13) ?_
    rintro _ w13 ⟨A13_0_0, c13_0_0, rfl, hq13⟩
    refine ⟨_, rfl, ?_⟩
    have hm15 : Hp Z0 No w w13 [slR A1 c1 T_api_Pair.rep x1, bldR 44 5 b6 A10 c10 z10, ownR 40 A13_0_0 c13_0_0 T_api_Pair.rep p13] := hm12.callF (flC (ownR_flat T_api_Pair.flat _ _ _ _) fl0) hq13
    refine Rn.v rfl rfl rfl rfl (V.lenV Try.underlying22 rfl) (Rn.v rfl rfl rfl rfl (V.mv rfl) (Rn.regEnd ?_))
    obtain ⟨j1, hj1, hM⟩ := jnE hM
    refine Rn.joinG (r := r) (G := (List UInt8) × Option Addr × Nat) (fun g => [(7, .pointer (some ⟨b6, 0, none⟩))]) (fun g w' => Hp Z0 No w w' [slR A1 c1 T_api_Pair.rep x1, ownR 40 A13_0_0 c13_0_0 T_api_Pair.rep p13, bldR 44 5 b6 (g.2.1) (g.2.2) (g.1)]) (fun g => j1 g.1) ?_ ?_
    · subst hj1
      clear hM
      rintro ⟨y16, A17, c17⟩ w18 hm18 hM
      replace hm18 : Hp Z0 No w w18 [slR A1 c1 T_api_Pair.rep x1, ownR 40 A13_0_0 c13_0_0 T_api_Pair.rep p13, bldR 44 5 b6 A17 c17 y16] := hm18
      show Rn _ _ _ _ _ [(7, .pointer (some ⟨b6, 0, none⟩))] _
      try dsimp only at hM
      refine Rn.seq (Rn.reg ?_)
      have hm20 : Hp Z0 No w w18 ([slR A1 c1 T_api_Pair.rep x1, ownR 40 A13_0_0 c13_0_0 T_api_Pair.rep p13] ++ [bldR 44 5 b6 A17 c17 y16]) := hm18.pick [0, 1, 2] rfl (by decide)
      refine Rn.cl ck20 rfl rfl rfl rfl (bld_str _ _ _ _ _ hm20.lend) ?_
      rintro _ w19 ⟨rfl, hq19⟩
      refine ⟨_, rfl, ?_⟩
      have hm21 : Hp Z0 No w w19 ([slR A1 c1 T_api_Pair.rep x1, ownR 40 A13_0_0 c13_0_0 T_api_Pair.rep p13] ++ []) := hm20.callAZ hq19
      refine Rn.v rfl rfl rfl rfl (V.as rfl) (Rn.v rfl rfl rfl rfl (V.as rfl) (Rn.regEnd ?_))
      refine Rn.retG2 Try.func9 rfl (rvT rfl) (rvT rfl) ?_
      obtain rfl := someE hM
      exact ⟨rfl, hm21.pick [] rfl (by decide)⟩
    intro hk1
    clear hj1
    refine Rn.block ?_
    refine Rn.loopF (G := Int × (List UInt8) × Option Addr × Nat) (fun g => [(7, .pointer (some ⟨b6, 0, none⟩)), (19, .slice A13_0_0 (p13).length c13_0_0), (20, .int .i64 ((p13.length : Int))), (21, .int .i64 ((g.1)))]) (fun g w' => Hp Z0 No w w' [slR A1 c1 T_api_Pair.rep x1, ownR 40 A13_0_0 c13_0_0 T_api_Pair.rep p13, bldR 44 5 b6 (g.2.2.1) (g.2.2.2) (g.2.1)]) (fun n g => m_label_Text_L1 p13 j1 n g.1 g.2.1) fuel (0, z10, A10, c10) (Sub.cons rfl (Sub.cons rfl (Sub.cons rfl (Sub.cons rfl (Sub.nil _))))) (hm15.pick [0, 2, 1] rfl (by decide)) hM (fun _ => rfl) ?_
    clear hM
    rintro m25 ⟨y22, y23, A24, c24⟩ w25 hm25 hM hn25
    replace hm25 : Hp Z0 No w w25 [slR A1 c1 T_api_Pair.rep x1, ownR 40 A13_0_0 c13_0_0 T_api_Pair.rep p13, bldR 44 5 b6 A24 c24 y23] := hm25
    show Rn _ _ _ _ _ [(7, .pointer (some ⟨b6, 0, none⟩)), (19, .slice A13_0_0 (p13).length c13_0_0), (20, .int .i64 ((p13.length : Int))), (21, .int .i64 (y22))] _
    replace hM : m_label_Text_L1 p13 j1 (m25 + 1) y22 y23 = some r := hM
    rw [m_label_Text_L1] at hM
    refine Rn.seq (Rn.reg (Rn.v rfl rfl rfl rfl (V.lss rfl rfl) (Rn.regEnd (Rn.seq ?_))))
    refine Rn.condD rfl (fun h26 => ?_) (fun h26 => ?_)
    · replace hM := iteT h26 hM
      refine Rn.skip (Rn.seq (Rn.block (Rn.seq (Rn.reg ?_))))
      obtain ⟨z27, e27, hM⟩ := bindE hM
      obtain ⟨kk27, ke27, kz27, kl27⟩ := idxE e27
      obtain ⟨g27, vs27, hA27, hR27, hrel27⟩ := hm25.ownAt 1 rfl kz27
      subst hA27
      obtain ⟨_, _, rfl, ⟨rfl, _⟩, ⟨rfl, _⟩⟩ := hrel27
      refine Rn.v rfl rfl rfl rfl (V.ixE kk27 Try.underlying22 Try.sizeOf40 rfl rfl ke27 kl27) (Rn.v rfl rfl rfl rfl (V.ldA Try.isAgg40 Try.sizeOf40 rfl (Rd.pre hR27 2) rfl) (Rn.als rfl rfl rfl Try.zeroValue40 rfl Try.sizeOf40 rfl rfl rfl rfl (by first | exact ones rfl | (simp [Value.oneCell']; done)) ?_))
      intro b28 w28 hb28 m28 e28
      have hm30 : Hp Z0 No w w28 [slR A1 c1 T_api_Pair.rep x1, ownR 40 (some ⟨g27, 0, none⟩) c13_0_0 T_api_Pair.rep p13, bldR 44 5 b6 A24 c24 y23, boxR b28 40 [Str (z27.Key), Str (z27.Val)]] := hm25.addBox hb28 e28 m28
      refine Rn.regEnd (Rn.reg (Rn.v rfl rfl rfl rfl (V.fa Try.underlying40 rfl Try.sizeOf9 rfl rfl) (Rn.v rfl rfl rfl rfl (V.ldB Try.isAgg9 rfl (hm30.get 3 rfl) rfl) ?_)))
      obtain ⟨z31, e31, hM⟩ := bindE hM
      refine Rn.v rfl rfl rfl rfl (V.catZ rfl rfl e31) ?_
      obtain ⟨z32, e32, hM⟩ := bindE hM
      refine Rn.v rfl rfl rfl rfl (V.catZ rfl rfl e32) (Rn.v rfl rfl rfl rfl (V.fa Try.underlying40 rfl Try.sizeOf9 rfl rfl) (Rn.v rfl rfl rfl rfl (V.ldB Try.isAgg9 rfl (hm30.get 3 rfl) rfl) ?_))
      obtain ⟨z33, e33, hM⟩ := bindE hM
      refine Rn.v rfl rfl rfl rfl (V.catZ rfl rfl e33) ?_
      obtain ⟨z34, e34, hM⟩ := bindE hM
      have hm35 : Hp Z0 No w w28 ([slR A1 c1 T_api_Pair.rep x1, ownR 40 (some ⟨g27, 0, none⟩) c13_0_0 T_api_Pair.rep p13, boxR b28 40 [Str (z27.Key), Str (z27.Val)]] ++ [bldR 44 5 b6 A24 c24 y23]) := hm30.pick [0, 1, 3, 2] rfl (by decide)
      refine Rn.cl ck19 rfl rfl rfl rfl (bld_ws _ _ _ _ _ z33 hm35.lend e34) ?_
      rintro _ w34 ⟨A34, c34, rfl, hq34⟩
      refine ⟨_, rfl, ?_⟩
      have hm36 : Hp Z0 No w w34 [slR A1 c1 T_api_Pair.rep x1, ownR 40 (some ⟨g27, 0, none⟩) c13_0_0 T_api_Pair.rep p13, boxR b28 40 [Str (z27.Key), Str (z27.Val)], bldR 44 5 b6 A34 c34 z34] := hm35.callAZ hq34
      refine Rn.regEnd (Rn.inBlock (Rn.reg (Rn.v rfl rfl rfl rfl (V.addW rfl rfl) (Rn.v rfl rfl rfl rfl (V.mv rfl) (Rn.regEnd ?_)))))
      exact hn25 ((W64 (y22 + 1)), z34, A34, c34) _ _ (Sub.cons rfl (Sub.cons rfl (Sub.cons rfl (Sub.cons rfl (Sub.nil _))))) (hm36.pick [0, 1, 3] rfl (by decide)) hM
    · replace hM := iteF h26 hM
      refine Rn.exit rfl ?_
      exact hk1 (y23, A24, c24) _ _ (Sub.cons rfl (Sub.nil _)) (hm25.pick [0, 1, 2] rfl (by decide)) hM

set_option maxRecDepth 20000 in
theorem m_internal_stringslite_IndexByte_sim {Z0 : Nat → Prop} (w : World) (x0 : (List UInt8)) (x1 : UInt8) {r : Int}  (hM : m_internal_stringslite_IndexByte x0 x1 = some r) :
    Calls Try.prog 48 #[Str (x0), .int .u8 (((x1).toNat : Nat) : Int)] w fun x w' => x = .returned (.int .i64 (r)) ∧ Hp Z0 No w w' [] := by
  have hm0 := Hp.nil Z0 No w
  have hc0 := Calm.nil
  refine Rn.enter Try.func48 rfl rfl (Nat.le_of_ble_eq_true rfl) ?_
  refine Rn.seq (Rn.reg (Rn.v rfl rfl rfl rfl (V.as rfl) (Rn.regEnd (Rn.seq (Rn.reg (Rn.v rfl rfl rfl rfl (V.mv rfl) (Rn.v rfl rfl rfl rfl (V.mv rfl) (Rn.v rfl rfl rfl rfl (V.indexByte (s := x0) (c := x1) Try.func53 (by kernel_rfl) (by kernel_rfl) (by kernel_rfl) (by kernel_rfl) rfl) (Rn.v rfl rfl rfl rfl (V.as rfl) (Rn.regEnd ?_))))))))))
  refine Rn.retG1 Try.func48 rfl (rvT rfl) ?_
  obtain rfl := someE hM
  exact ⟨rfl, hm0.pick [] rfl (by decide)⟩

set_option maxRecDepth 20000 in
theorem m_internal_stringslite_Index_sim {Z0 : Nat → Prop} (w : World) (x0 : (List UInt8)) (x1 : (List UInt8)) {r : Int}  (hM : m_internal_stringslite_Index x0 x1 = some r) :
    Calls Try.prog 46 #[Str (x0), Str (x1)] w fun x w' => x = .returned (.int .i64 (r)) ∧ Hp Z0 No w w' [] := by
  have hm0 := Hp.nil Z0 No w
  have hc0 := Calm.nil
  refine Rn.enter Try.func46 rfl rfl (Nat.le_of_ble_eq_true rfl) ?_
  refine Rn.seq (Rn.reg (Rn.v rfl rfl rfl rfl (V.as rfl) (Rn.regEnd (Rn.seq (Rn.reg (Rn.v rfl rfl rfl rfl (V.mv rfl) (Rn.v rfl rfl rfl rfl (V.lenS Try.underlying9 rfl) (Rn.v rfl rfl rfl rfl (V.as rfl) (Rn.regEnd (Rn.seq (Rn.block (Rn.seq (Rn.reg (Rn.v rfl rfl rfl rfl (V.mv rfl) (Rn.v rfl rfl rfl rfl (V.eql rfl rfl) (Rn.v rfl rfl rfl rfl (V.mv rfl) ?_))))))))))))))))
  refine Rn.cutR [7] [(0, Str (x0)), (1, Str (x1)), (5, .int .i64 ((x1.length : Int))), (23, .bool (decide (((x1.length : Int) = 0) ∨ (x1 = x0))))] (fun hk1 => ?_) ?_
  · refine Rn.partD (t := 19) rfl (fun h2 => ?_) (fun h2 => ?_)
    · refine Rn.no rfl rfl rfl rfl (Rn.no rfl rfl rfl rfl (Rn.no rfl rfl rfl rfl (Rn.v rfl rfl rfl rfl (V.pkT rfl rfl) ?_)))
      refine hk1 _ ?_
      exact Sub.cons rfl (Sub.cons rfl (Sub.cons rfl (Sub.cons (lkv _ rfl (by first | exact andT h2 | exact andF h2 | exact orT h2 | exact orF h2 | exact nandF h2 | exact nandT h2 | exact norT h2 | exact norF h2 | (simp [h2]; done) | grind)) (Sub.nil _))))
    · refine Rn.v rfl rfl rfl rfl (V.mv rfl) (Rn.v rfl rfl rfl rfl (V.mv rfl) (Rn.v rfl rfl rfl rfl (V.eqlS rfl rfl) (Rn.v rfl rfl rfl rfl (V.pkF rfl rfl) ?_)))
      refine hk1 _ ?_
      exact Sub.cons rfl (Sub.cons rfl (Sub.cons rfl (Sub.cons (lkv _ rfl (by first | exact andT h2 | exact andF h2 | exact orT h2 | exact orF h2 | exact nandF h2 | exact nandT h2 | exact norT h2 | exact norF h2 | (simp [h2]; done) | grind)) (Sub.nil _))))
  refine Rn.v rfl rfl rfl rfl (V.as rfl) (Rn.regEnd ?_)
  refine Rn.condD rfl (fun h3 => ?_) (fun h3 => ?_)
  · replace hM := iteT h3 hM
    refine Rn.seq (Rn.reg (Rn.v rfl rfl rfl rfl (V.as rfl) (Rn.regEnd ?_)))
    refine Rn.retG1 Try.func46 rfl (rvT rfl) ?_
    obtain rfl := someE hM
    exact ⟨rfl, hm0.pick [] rfl (by decide)⟩
  · replace hM := iteF h3 hM
    refine Rn.seq (Rn.reg (Rn.v rfl rfl rfl rfl (V.mv rfl) (Rn.v rfl rfl rfl rfl (V.eql rfl rfl) (Rn.v rfl rfl rfl rfl (V.as rfl) (Rn.regEnd ?_)))))
    refine Rn.condD rfl (fun h4 => ?_) (fun h4 => ?_)
    · replace hM := iteT h4 hM
      refine Rn.seq (Rn.reg (Rn.v rfl rfl rfl rfl (V.mv rfl) (Rn.v rfl rfl rfl rfl (V.mv rfl) ?_)))
      obtain ⟨z5, e5, hM⟩ := bindE hM
      refine Rn.v rfl rfl rfl rfl (V.idxSZ Try.underlying9 rfl rfl e5) ?_
      obtain ⟨p6, e6, hM⟩ := bindE hM
      refine Rn.cl ck48 rfl rfl rfl rfl (m_internal_stringslite_IndexByte_sim (Z0 := All) _ x0 z5  e6) ?_
      rintro _ w6 ⟨rfl, hq6⟩
      refine ⟨_, rfl, ?_⟩
      have hm7 := hm0.call0 hq6
      refine Rn.v rfl rfl rfl rfl (V.as rfl) (Rn.regEnd ?_)
      refine Rn.retG1 Try.func46 rfl (rvT rfl) ?_
      obtain rfl := someE hM
      exact ⟨rfl, hm7.pick [] rfl (by decide)⟩
    · replace hM := iteF h4 hM
      refine Rn.seq (Rn.reg (Rn.v rfl rfl rfl rfl (V.mv rfl) (Rn.v rfl rfl rfl rfl (V.mv rfl) (Rn.v rfl rfl rfl rfl (V.lenS Try.underlying9 rfl) (Rn.v rfl rfl rfl rfl (V.geq rfl rfl) (Rn.v rfl rfl rfl rfl (V.as rfl) (Rn.regEnd ?_)))))))
      refine Rn.condD rfl (fun h8 => ?_) (fun h8 => ?_)
      · replace hM := iteT h8 hM
        refine Rn.seq (Rn.reg (Rn.v rfl rfl rfl rfl (V.as rfl) (Rn.regEnd ?_)))
        refine Rn.retG1 Try.func46 rfl (rvT rfl) ?_
        obtain rfl := someE hM
        exact ⟨rfl, hm0.pick [] rfl (by decide)⟩
      · replace hM := iteF h8 hM
        cases hM

set_option maxRecDepth 20000 in
theorem m_internal_stringslite_Cut_sim {Z0 : Nat → Prop} (w : World) (x0 : (List UInt8)) (x1 : (List UInt8)) {r : ((List UInt8) × (List UInt8) × Bool)}  (hM : m_internal_stringslite_Cut x0 x1 = some r) :
    Calls Try.prog 41 #[Str (x0), Str (x1)] w fun x w' => x = .returned (.tuple #[Str (r.1), Str (r.2.1), .bool (r.2.2)]) ∧ Hp Z0 No w w' [] := by
  have hm0 := Hp.nil Z0 No w
  have hc0 := Calm.nil
  refine Rn.enter Try.func41 rfl rfl (Nat.le_of_ble_eq_true rfl) ?_
  refine Rn.seq (Rn.reg (Rn.v rfl rfl rfl rfl (V.as rfl) (Rn.v rfl rfl rfl rfl (V.as rfl) (Rn.v rfl rfl rfl rfl (V.as rfl) (Rn.regEnd (Rn.seq (Rn.seq (Rn.reg (Rn.v rfl rfl rfl rfl (V.mv rfl) (Rn.v rfl rfl rfl rfl (V.mv rfl) ?_))))))))))
  obtain ⟨p1, e1, hM⟩ := bindE hM
  refine Rn.cl ck46 rfl rfl rfl rfl (m_internal_stringslite_Index_sim (Z0 := All) _ x0 x1  e1) ?_
  rintro _ w1 ⟨rfl, hq1⟩
  refine ⟨_, rfl, ?_⟩
  have hm2 := hm0.call0 hq1
  refine Rn.v rfl rfl rfl rfl (V.as rfl) (Rn.regEnd (Rn.seq (Rn.reg (Rn.v rfl rfl rfl rfl (V.mv rfl) (Rn.v rfl rfl rfl rfl (V.geq rfl rfl) (Rn.regEnd ?_))))))
  refine Rn.condD rfl (fun h3 => ?_) (fun h3 => ?_)
  · replace hM := iteT h3 hM
    refine Rn.seq ?_
    refine Rn.drawP rfl hm2 ?_
    intro w4 hm4
    refine RH.takeP 0 (by kernel_rfl) rfl rfl rfl rfl (V.mv rfl) ?_
    refine RH.takeP 1 (by kernel_rfl) rfl rfl rfl rfl (V.mv rfl) ?_
    obtain ⟨z5, e5, hM⟩ := bindE hM
    refine RH.takeP 2 (by kernel_rfl) rfl rfl rfl rfl (V.cutSZ Try.underlying9 rfl e5 rfl rfl) ?_
    refine RH.takeP 3 (by kernel_rfl) rfl rfl rfl rfl (V.mv rfl) ?_
    refine RH.takeP 4 (by kernel_rfl) rfl rfl rfl rfl (V.mv rfl) ?_
    refine RH.takeP 5 (by kernel_rfl) rfl rfl rfl rfl (V.mv rfl) ?_
    refine RH.takeP 6 (by kernel_rfl) rfl rfl rfl rfl (V.lenS Try.underlying9 rfl) ?_
    refine RH.takeP 7 (by kernel_rfl) rfl rfl rfl rfl (V.addW rfl rfl) ?_
    obtain ⟨z6, e6, hM⟩ := bindE hM
    refine RH.takeP 8 (by kernel_rfl) rfl rfl rfl rfl (V.cutSZ Try.underlying9 rfl e6 rfl rfl) ?_
    refine RH.takeP 9 (by kernel_rfl) rfl rfl rfl rfl (V.as rfl) ?_
    refine RH.takeP 10 (by kernel_rfl) rfl rfl rfl rfl (V.as rfl) ?_
    refine RH.takeP 11 (by kernel_rfl) rfl rfl rfl rfl (V.as rfl) ?_
    refine RH.doneP (by kernel_rfl) ?_
    refine Rn.retG3 Try.func41 rfl (rvT rfl) (rvT rfl) (rvT rfl) ?_
    obtain rfl := someE hM
    exact ⟨rfl, hm4.pick [] rfl (by decide)⟩
  · replace hM := iteF h3 hM
    refine Rn.skip (Rn.seq (Rn.reg (Rn.v rfl rfl rfl rfl (V.mv rfl) (Rn.v rfl rfl rfl rfl (V.as rfl) (Rn.v rfl rfl rfl rfl (V.as rfl) (Rn.v rfl rfl rfl rfl (V.as rfl) (Rn.regEnd ?_)))))))
    refine Rn.retG3 Try.func41 rfl (rvT rfl) (rvT rfl) (rvT rfl) ?_
    obtain rfl := someE hM
    exact ⟨rfl, hm2.pick [] rfl (by decide)⟩

set_option maxRecDepth 20000 in
theorem m_strings_Cut_sim {Z0 : Nat → Prop} (w : World) (x0 : (List UInt8)) (x1 : (List UInt8)) {r : ((List UInt8) × (List UInt8) × Bool)}  (hM : m_strings_Cut x0 x1 = some r) :
    Calls Try.prog 29 #[Str (x0), Str (x1)] w fun x w' => x = .returned (.tuple #[Str (r.1), Str (r.2.1), .bool (r.2.2)]) ∧ Hp Z0 No w w' [] := by
  have hm0 := Hp.nil Z0 No w
  have hc0 := Calm.nil
  refine Rn.enter Try.func29 rfl rfl (Nat.le_of_ble_eq_true rfl) ?_
  refine Rn.seq (Rn.reg (Rn.v rfl rfl rfl rfl (V.as rfl) (Rn.v rfl rfl rfl rfl (V.as rfl) (Rn.v rfl rfl rfl rfl (V.as rfl) (Rn.regEnd (Rn.seq (Rn.reg (Rn.v rfl rfl rfl rfl (V.mv rfl) (Rn.v rfl rfl rfl rfl (V.mv rfl) ?_)))))))))
  obtain ⟨p1, e1, hM⟩ := bindE hM
  refine Rn.cl ck41 rfl rfl rfl rfl (m_internal_stringslite_Cut_sim (Z0 := All) _ x0 x1  e1) ?_
  rintro _ w1 ⟨rfl, hq1⟩
  refine ⟨_, rfl, ?_⟩
  have hm2 := hm0.call0 hq1
  refine Rn.v rfl rfl rfl rfl (V.ext rfl rfl) (Rn.v rfl rfl rfl rfl (V.ext rfl rfl) (Rn.v rfl rfl rfl rfl (V.ext rfl rfl) (Rn.v rfl rfl rfl rfl (V.as rfl) (Rn.v rfl rfl rfl rfl (V.as rfl) (Rn.v rfl rfl rfl rfl (V.as rfl) (Rn.regEnd ?_))))))
  refine Rn.retG3 Try.func29 rfl (rvT rfl) (rvT rfl) (rvT rfl) ?_
  obtain rfl := someE hM
  exact ⟨rfl, hm2.pick [] rfl (by decide)⟩

set_option maxRecDepth 20000 in
theorem m_label_pair_sim {Z0 : Nat → Prop} (w : World) (x0 : (List UInt8)) {r : (T_api_Pair × Int)}  (hM : m_label_pair x0 = some r) :
    Calls Try.prog 30 #[Str (x0)] w fun x w' => x = .returned (.tuple #[.agg [Str (r.1.Key), Str (r.1.Val)].toArray, .int .i64 (r.2)]) ∧ Hp Z0 No w w' [] := by
  have hm0 := Hp.nil Z0 No w
  have hc0 := Calm.nil
  refine Rn.enter Try.func30 rfl rfl (Nat.le_of_ble_eq_true rfl) ?_
  refine Rn.seq (Rn.reg (Rn.alloc rfl rfl rfl Try.zeroValue40 rfl ?_))
  intro b1 w1 hb1 m1 e1
  have hm3 : Hp Z0 No w w1 [boxR b1 40 [Str (([] : List UInt8)), Str (([] : List UInt8))]] := hm0.addBox hb1 e1 m1
  refine Rn.v rfl rfl rfl rfl (V.as rfl) (Rn.regEnd (Rn.seq (Rn.reg (Rn.v rfl rfl rfl rfl (V.mv rfl) ?_))))
  obtain ⟨p4, e4, hM⟩ := bindE hM
  refine Rn.cl ck29 rfl rfl rfl rfl (m_strings_Cut_sim (Z0 := All) _ x0 ([61] : List UInt8)  e4) ?_
  rintro _ w4 ⟨rfl, hq4⟩
  refine ⟨_, rfl, ?_⟩
  have hm5 := hm3.call0 hq4
  refine Rn.v rfl rfl rfl rfl (V.mv rfl) (Rn.v rfl rfl rfl rfl (V.ext rfl rfl) (Rn.v rfl rfl rfl rfl (V.ext rfl rfl) (Rn.v rfl rfl rfl rfl (V.ext rfl rfl) (Rn.v rfl rfl rfl rfl (V.as rfl) (Rn.v rfl rfl rfl rfl (V.as rfl) (Rn.v rfl rfl rfl rfl (V.as rfl) (Rn.regEnd (Rn.seq (Rn.seq (Rn.reg (Rn.v rfl rfl rfl rfl (V.mv rfl) (Rn.v rfl rfl rfl rfl (V.notB rfl) (Rn.v rfl rfl rfl rfl (V.mv rfl) ?_)))))))))))))
  obtain ⟨j1, hj1, hM⟩ := jnE hM
  refine Rn.joinR (r := r) (G := Bool) [7, 8, 9, 10, 11] (fun g => [(2, .pointer (some ⟨b1, 0, none⟩)), (4, Str (p4.1)), (5, Str (p4.2.1)), (19, .bool (g))]) (fun g w' => Hp Z0 No w w' [boxR b1 40 [Str (([] : List UInt8)), Str (([] : List UInt8))]]) (fun g => j1 g) ?_ ?_
  · subst hj1
    clear hM
    rintro y6 w7 hm7 hM
    replace hm7 : Hp Z0 No w w7 [boxR b1 40 [Str (([] : List UInt8)), Str (([] : List UInt8))]] := hm7
    show Rn _ _ _ _ _ [(2, .pointer (some ⟨b1, 0, none⟩)), (4, Str (p4.1)), (5, Str (p4.2.1)), (19, .bool (y6))] _
    try dsimp only at hM
    refine Rn.v rfl rfl rfl rfl (V.mv rfl) ?_
    obtain ⟨j2, hj2, hM⟩ := jnE hM
    refine Rn.joinR (r := r) (G := Bool) [] (fun g => [(2, .pointer (some ⟨b1, 0, none⟩)), (4, Str (p4.1)), (5, Str (p4.2.1)), (24, .bool (g))]) (fun g w' => Hp Z0 No w w' [boxR b1 40 [Str (([] : List UInt8)), Str (([] : List UInt8))]]) (fun g => j2 g) ?_ ?_
    · subst hj2
      clear hM
      rintro y8 w9 hm9 hM
      replace hm9 : Hp Z0 No w w9 [boxR b1 40 [Str (([] : List UInt8)), Str (([] : List UInt8))]] := hm9
      show Rn _ _ _ _ _ [(2, .pointer (some ⟨b1, 0, none⟩)), (4, Str (p4.1)), (5, Str (p4.2.1)), (24, .bool (y8))] _
      try dsimp only at hM
      refine Rn.regEnd ?_
      refine Rn.condS rfl (fun h10 => ?_) (fun h10 => ?_)
      · replace hM := iteT h10 hM
        refine Rn.seq (Rn.reg (Rn.v rfl rfl rfl rfl (V.bldS st40 rfl rfl) (Rn.st rfl rfl Try.sizeOf40 rfl rfl rfl rfl (by first | exact ones rfl | (simp [Value.oneCell']; done)) (hm9.get 0 rfl) (by first | exact Nat.le_of_ble_eq_true rfl | (simp; done)) ?_)))
        intro w11 m11 x11
        have hm12 : Hp Z0 No w w11 [boxR b1 40 [Str (([] : List UInt8)), Str (([] : List UInt8))]] := hm9.st 0 rfl x11 m11
        refine Rn.v rfl rfl rfl rfl (V.as rfl) (Rn.regEnd ?_)
        refine Rn.retG2 Try.func30 rfl (rvC rfl Try.isAgg40 Try.sizeOf40 (hm12.get 0 rfl) rfl) (rvT rfl) ?_
        obtain rfl := someE hM
        exact ⟨rfl, hm12.pick [] rfl (by decide)⟩
      · replace hM := iteF (by rw [h10]; exact Bool.false_ne_true) hM
        refine Rn.skip (Rn.seq (Rn.reg (Rn.v rfl rfl rfl rfl (V.mv rfl) (Rn.v rfl rfl rfl rfl (V.mv rfl) (Rn.v rfl rfl rfl rfl (V.bldS st40 rfl rfl) (Rn.st rfl rfl Try.sizeOf40 rfl rfl rfl rfl (by first | exact ones rfl | (simp [Value.oneCell']; done)) (hm9.get 0 rfl) (by first | exact Nat.le_of_ble_eq_true rfl | (simp; done)) ?_))))))
        intro w13 m13 x13
        have hm14 : Hp Z0 No w w13 [boxR b1 40 [Str (p4.1), Str (p4.2.1)]] := hm9.st 0 rfl x13 m13
        refine Rn.v rfl rfl rfl rfl (V.as rfl) (Rn.regEnd ?_)
        refine Rn.retG2 Try.func30 rfl (rvC rfl Try.isAgg40 Try.sizeOf40 (hm14.get 0 rfl) rfl) (rvT rfl) ?_
        obtain rfl := someE hM
        exact ⟨rfl, hm14.pick [] rfl (by decide)⟩
    intro hk2
    clear hj2
    refine Rn.part (t := 20) rfl (fun h15 => ?_) (fun h15 => ?_)
    · replace hM := iteT h15 hM
      refine Rn.no rfl rfl rfl rfl (Rn.no rfl rfl rfl rfl (Rn.no rfl rfl rfl rfl (Rn.v rfl rfl rfl rfl (V.pkT rfl rfl) ?_)))
      exact hk2 true _ _ (Sub.cons rfl (Sub.cons rfl (Sub.cons rfl (Sub.cons rfl (Sub.nil _))))) (hm7.pick [0] rfl (by decide)) hM
    · replace hM := iteF (by rw [h15]; exact Bool.false_ne_true) hM
      refine Rn.v rfl rfl rfl rfl (V.mv rfl) ?_
      obtain ⟨p16, e16, hM⟩ := bindE hM
      refine Rn.cl ck22 rfl rfl rfl rfl (m_label_isValue_sim (Z0 := All) _ p4.2.1  e16) ?_
      rintro _ w16 ⟨rfl, hq16⟩
      refine ⟨_, rfl, ?_⟩
      have hm17 := hm7.call0 hq16
      refine Rn.v rfl rfl rfl rfl (V.notB rfl) (Rn.v rfl rfl rfl rfl (V.pkF rfl rfl) ?_)
      exact hk2 (!p16) _ _ (Sub.cons rfl (Sub.cons rfl (Sub.cons rfl (Sub.cons rfl (Sub.nil _))))) (hm17.pick [0] rfl (by decide)) hM
  intro hk1
  clear hj1
  refine Rn.part (t := 15) rfl (fun h18 => ?_) (fun h18 => ?_)
  · replace hM := iteT h18 hM
    refine Rn.no rfl rfl rfl rfl (Rn.no rfl rfl rfl rfl (Rn.no rfl rfl rfl rfl (Rn.v rfl rfl rfl rfl (V.pkT rfl rfl) ?_)))
    exact hk1 true _ _ (Sub.cons rfl (Sub.cons rfl (Sub.cons rfl (Sub.cons rfl (Sub.nil _))))) (hm5.pick [0] rfl (by decide)) hM
  · replace hM := iteF (by rw [h18]; exact Bool.false_ne_true) hM
    refine Rn.v rfl rfl rfl rfl (V.mv rfl) ?_
    obtain ⟨p19, e19, hM⟩ := bindE hM
    refine Rn.cl ck21 rfl rfl rfl rfl (m_label_isName_sim (Z0 := All) _ p4.1  e19) ?_
    rintro _ w19 ⟨rfl, hq19⟩
    refine ⟨_, rfl, ?_⟩
    have hm20 := hm5.call0 hq19
    refine Rn.v rfl rfl rfl rfl (V.notB rfl) (Rn.v rfl rfl rfl rfl (V.pkF rfl rfl) ?_)
    exact hk1 (!p19) _ _ (Sub.cons rfl (Sub.cons rfl (Sub.cons rfl (Sub.cons rfl (Sub.nil _))))) (hm20.pick [0] rfl (by decide)) hM

set_option maxRecDepth 20000 in
theorem m_label_follows_sim {Z0 : Nat → Prop} (w : World) (A0 : Option Addr) (c0 : Nat) (x0 : (List T_api_Pair)) (x1 : (List UInt8)) {r : Int} (f0 : (slR A0 c0 T_api_Pair.rep x0).H Z0 w) (hM : m_label_follows x0 x1 = some r) :
    Calls Try.prog 31 #[.slice A0 (x0).length c0, Str (x1)] w fun x w' => x = .returned (.int .i64 (r)) ∧ Hp Z0 No w w' [] := by
  have hm0 := Hp.nil Z0 No w
  have hc0 := Calm.nil
  have hm2 := hm0.know (slR A0 c0 T_api_Pair.rep x0) (fun _ h => h) (hm0.in0 hc0 f0)
  replace hc0 := hc0.snoc (r := slR A0 c0 T_api_Pair.rep x0) (fun _ h => h)
  refine Rn.enter Try.func31 rfl rfl (Nat.le_of_ble_eq_true rfl) ?_
  refine Rn.seq (Rn.reg (Rn.v rfl rfl rfl rfl (V.as rfl) (Rn.regEnd (Rn.seq (Rn.seq (Rn.reg (Rn.v rfl rfl rfl rfl (V.mv rfl) (Rn.v rfl rfl rfl rfl (V.lenV Try.underlying22 rfl) (Rn.v rfl rfl rfl rfl (V.mv rfl) (Rn.regEnd ?_))))))))))
  obtain ⟨j1, hj1, hM⟩ := jnE hM
  refine Rn.joinG (r := r) (G := Unit) (fun g => [(0, .slice A0 (x0).length c0), (1, Str (x1))]) (fun g w' => Hp Z0 No w w' [slR A0 c0 T_api_Pair.rep x0]) (fun g => j1 ()) ?_ ?_
  · subst hj1
    clear hM
    rintro _ w3 hm3 hM
    replace hm3 : Hp Z0 No w w3 [slR A0 c0 T_api_Pair.rep x0] := hm3
    show Rn _ _ _ _ _ [(0, .slice A0 (x0).length c0), (1, Str (x1))] _
    try dsimp only at hM
    refine Rn.seq (Rn.seq (Rn.reg (Rn.v rfl rfl rfl rfl (V.mv rfl) (Rn.v rfl rfl rfl rfl (V.mv rfl) (Rn.v rfl rfl rfl rfl (V.mv rfl) (Rn.v rfl rfl rfl rfl (V.lenV Try.underlying22 rfl) (Rn.v rfl rfl rfl rfl (V.subW rfl rfl) ?_)))))))
    obtain ⟨z4, e4, hM⟩ := bindE hM
    refine Rn.ixH hm3 0 rfl e4 rfl rfl rfl Try.underlying22 Try.sizeOf40 rfl rfl rfl rfl ?_
    rintro b4 o4 vs4 ⟨_, _, rfl, ⟨rfl, _⟩, ⟨rfl, _⟩⟩ hm4
    refine Rn.v rfl rfl rfl rfl (V.fa Try.underlying40 rfl Try.sizeOf9 rfl rfl) (Rn.v rfl rfl rfl rfl (V.ldR0 Try.isAgg9 rfl (hm4.get 1 rfl).2 rfl) (Rn.v rfl rfl rfl rfl (V.lssS rfl rfl) (Rn.regEnd ?_)))
    refine Rn.condS rfl (fun h6 => ?_) (fun h6 => ?_)
    · replace hM := iteT h6 hM
      refine Rn.seq (Rn.reg (Rn.v rfl rfl rfl rfl (V.as rfl) (Rn.regEnd ?_)))
      refine Rn.retG1 Try.func31 rfl (rvT rfl) ?_
      obtain rfl := someE hM
      exact ⟨rfl, hm4.pick [] rfl (by decide)⟩
    · replace hM := iteF (by rw [h6]; exact Bool.false_ne_true) hM
      refine Rn.skip (Rn.seq (Rn.reg (Rn.v rfl rfl rfl rfl (V.as rfl) (Rn.regEnd ?_))))
      refine Rn.retG1 Try.func31 rfl (rvT rfl) ?_
      obtain rfl := someE hM
      exact ⟨rfl, hm4.pick [] rfl (by decide)⟩
  intro hk1
  clear hj1
  refine Rn.block ?_
  refine Rn.loopF (G := Int) (fun g => [(0, .slice A0 (x0).length c0), (1, Str (x1)), (7, .slice A0 (x0).length c0), (8, .int .i64 ((x0.length : Int))), (9, .int .i64 (g))]) (fun g w' => Hp Z0 No w w' [slR A0 c0 T_api_Pair.rep x0]) (fun n g => m_label_follows_L1 x0 x1 j1 n g) fuel 0 (Sub.cons rfl (Sub.cons rfl (Sub.cons rfl (Sub.cons rfl (Sub.cons rfl (Sub.nil _)))))) (hm2.pick [0] rfl (by decide)) hM (fun _ => rfl) ?_
  clear hM
  rintro m8 y7 w8 hm8 hM hn8
  replace hm8 : Hp Z0 No w w8 [slR A0 c0 T_api_Pair.rep x0] := hm8
  show Rn _ _ _ _ _ [(0, .slice A0 (x0).length c0), (1, Str (x1)), (7, .slice A0 (x0).length c0), (8, .int .i64 ((x0.length : Int))), (9, .int .i64 (y7))] _
  replace hM : m_label_follows_L1 x0 x1 j1 (m8 + 1) y7 = some r := hM
  rw [m_label_follows_L1] at hM
  refine Rn.seq (Rn.reg (Rn.v rfl rfl rfl rfl (V.lss rfl rfl) (Rn.regEnd (Rn.seq ?_))))
  refine Rn.condD rfl (fun h9 => ?_) (fun h9 => ?_)
  · replace hM := iteT h9 hM
    refine Rn.skip (Rn.seq (Rn.block (Rn.seq (Rn.reg ?_))))
    obtain ⟨z10, e10, hM⟩ := bindE hM
    refine Rn.ixH hm8 0 rfl e10 rfl rfl rfl Try.underlying22 Try.sizeOf40 rfl rfl rfl rfl ?_
    rintro b10 o10 vs10 ⟨_, _, rfl, ⟨rfl, _⟩, ⟨rfl, _⟩⟩ hm10
    refine Rn.v rfl rfl rfl rfl (V.ldA Try.isAgg40 Try.sizeOf40 rfl (Rd.pre (hm10.get 1 rfl).2 2) rfl) (Rn.als rfl rfl rfl Try.zeroValue40 rfl Try.sizeOf40 rfl rfl rfl rfl (by first | exact ones rfl | (simp [Value.oneCell']; done)) ?_)
    intro b12 w12 hb12 m12 e12
    have hm14 : Hp Z0 No w w12 [slR A0 c0 T_api_Pair.rep x0, rdR b10 o10 [Str (z10.Key), Str (z10.Val)], boxR b12 40 [Str (z10.Key), Str (z10.Val)]] := hm10.addBox hb12 e12 m12
    refine Rn.regEnd (Rn.seq (Rn.reg (Rn.v rfl rfl rfl rfl (V.fa Try.underlying40 rfl Try.sizeOf9 rfl rfl) (Rn.v rfl rfl rfl rfl (V.ldB Try.isAgg9 rfl (hm14.get 2 rfl) rfl) (Rn.v rfl rfl rfl rfl (V.mv rfl) (Rn.v rfl rfl rfl rfl (V.eqlS rfl rfl) (Rn.regEnd ?_)))))))
    refine Rn.condD rfl (fun h15 => ?_) (fun h15 => ?_)
    · replace hM := iteT h15 hM
      refine Rn.seq (Rn.reg (Rn.v rfl rfl rfl rfl (V.as rfl) (Rn.regEnd ?_)))
      refine Rn.retG1 Try.func31 rfl (rvT rfl) ?_
      obtain rfl := someE hM
      exact ⟨rfl, hm14.pick [] rfl (by decide)⟩
    · replace hM := iteF h15 hM
      refine Rn.skip (Rn.inBlock (Rn.reg (Rn.v rfl rfl rfl rfl (V.addW rfl rfl) (Rn.v rfl rfl rfl rfl (V.mv rfl) (Rn.regEnd ?_)))))
      exact hn8 (W64 (y7 + 1)) _ _ (Sub.cons rfl (Sub.cons rfl (Sub.cons rfl (Sub.cons rfl (Sub.cons rfl (Sub.nil _)))))) (hm14.pick [0] rfl (by decide)) hM
  · replace hM := iteF h9 hM
    refine Rn.exit rfl ?_
    exact hk1 () _ _ (Sub.cons rfl (Sub.cons rfl (Sub.nil _))) (hm8.pick [0] rfl (by decide)) hM

set_option maxRecDepth 20000 in
theorem m_label_Parse_sim {Z0 : Nat → Prop} (w : World) (x0 : (List UInt8)) {r : ((List UInt8) × (List T_api_Pair) × Int × Int)}  (hM : m_label_Parse x0 = some r) :
    Calls Try.prog 15 #[Str (x0)] w fun x w' => ∃ A_1_0 c_1_0, x = .returned (.tuple #[Str (r.1), .slice A_1_0 (r.2.1).length c_1_0, .int .i64 (r.2.2.1), .int .i64 (r.2.2.2)]) ∧ Hp Z0 No w w' [ownR 40 A_1_0 c_1_0 T_api_Pair.rep r.2.1] := by
  have hm0 := Hp.nil Z0 No w
  have hc0 := Calm.nil
  refine Rn.enter Try.func15 rfl rfl (Nat.le_of_ble_eq_true rfl) ?_
  refine Rn.seq (Rn.reg (Rn.v rfl rfl rfl rfl (V.as rfl) (Rn.v rfl rfl rfl rfl (V.as rfl) (Rn.v rfl rfl rfl rfl (V.as rfl) (Rn.v rfl rfl rfl rfl (V.as rfl) (Rn.regEnd (Rn.seq (Rn.reg (Rn.v rfl rfl rfl rfl (V.mv rfl) ?_)))))))))
  obtain ⟨p1, e1, hM⟩ := bindE hM
  refine Rn.cl ck29 rfl rfl rfl rfl (m_strings_Cut_sim (Z0 := All) _ x0 ([59] : List UInt8)  e1) ?_
  rintro _ w1 ⟨rfl, hq1⟩
  refine ⟨_, rfl, ?_⟩
  have hm2 := hm0.call0 hq1
  refine Rn.v rfl rfl rfl rfl (V.mv rfl) (Rn.v rfl rfl rfl rfl (V.ext rfl rfl) (Rn.v rfl rfl rfl rfl (V.ext rfl rfl) (Rn.v rfl rfl rfl rfl (V.ext rfl rfl) (Rn.v rfl rfl rfl rfl (V.as rfl) (Rn.v rfl rfl rfl rfl (V.as rfl) (Rn.v rfl rfl rfl rfl (V.as rfl) (Rn.regEnd (Rn.seq (Rn.seq (Rn.reg (Rn.v rfl rfl rfl rfl (V.mv rfl) ?_)))))))))))
  obtain ⟨p3, e3, hM⟩ := bindE hM
  refine Rn.cl ck21 rfl rfl rfl rfl (m_label_isName_sim (Z0 := All) _ p1.1  e3) ?_
  rintro _ w3 ⟨rfl, hq3⟩
  refine ⟨_, rfl, ?_⟩
  have hm4 := hm2.call0 hq3
  refine Rn.v rfl rfl rfl rfl (V.notB rfl) (Rn.regEnd ?_)
  refine Rn.condS rfl (fun h5 => ?_) (fun h5 => ?_)
  · replace hM := iteT h5 hM
    refine Rn.seq (Rn.reg (Rn.v rfl rfl rfl rfl (V.as rfl) (Rn.v rfl rfl rfl rfl (V.as rfl) (Rn.v rfl rfl rfl rfl (V.as rfl) (Rn.v rfl rfl rfl rfl (V.as rfl) (Rn.regEnd ?_))))))
    have hm6 := hm4.addNil 40 T_api_Pair.rep
    refine Rn.retG4 Try.func15 rfl (rvT rfl) (rvT rfl) (rvT rfl) (rvT rfl) ?_
    obtain rfl := someE hM
    exact ⟨none, 0, rfl, hm6.pick [0] rfl (by decide)⟩
  · replace hM := iteF (by rw [h5]; exact Bool.false_ne_true) hM
    refine Rn.skip (Rn.seq (Rn.seq (Rn.reg (Rn.v rfl rfl rfl rfl (V.mv rfl) (Rn.v rfl rfl rfl rfl (V.lenS Try.underlying9 rfl) (Rn.v rfl rfl rfl rfl (V.addW rfl rfl) (Rn.v rfl rfl rfl rfl (V.as rfl) (Rn.regEnd ?_))))))))
    obtain ⟨j1, hj1, hM⟩ := jnE hM
    refine Rn.joinG (r := r) (G := (List T_api_Pair) × Option Addr × Nat) (fun g => [(2, Str (p1.1)), (3, .slice (g.2.1) ((g.1)).length (g.2.2))]) (fun g w' => Hp Z0 No w w' [ownR 40 (g.2.1) (g.2.2) T_api_Pair.rep (g.1)]) (fun g => j1 g.1) ?_ ?_
    · subst hj1
      clear hM
      rintro ⟨y8, A9, c9⟩ w11 hm11 hM
      replace hm11 : Hp Z0 No w w11 [ownR 40 A9 c9 T_api_Pair.rep y8] := hm11
      show Rn _ _ _ _ _ [(2, Str (p1.1)), (3, .slice A9 (y8).length c9)] _
      try dsimp only at hM
      refine Rn.seq (Rn.reg (Rn.v rfl rfl rfl rfl (V.mv rfl) (Rn.v rfl rfl rfl rfl (V.mv rfl) (Rn.v rfl rfl rfl rfl (V.as rfl) (Rn.v rfl rfl rfl rfl (V.as rfl) (Rn.v rfl rfl rfl rfl (V.as rfl) (Rn.v rfl rfl rfl rfl (V.as rfl) (Rn.regEnd ?_))))))))
      refine Rn.retG4 Try.func15 rfl (rvT rfl) (rvT rfl) (rvT rfl) (rvT rfl) ?_
      obtain rfl := someE hM
      exact ⟨A9, c9, rfl, hm11.pick [0] rfl (by decide)⟩
    intro hk1
    clear hj1
    refine Rn.block ?_
    have hm18 := hm4.addNil 40 T_api_Pair.rep
    refine Rn.loopF (G := (List T_api_Pair) × Int × (List UInt8) × Bool × Option Addr × Nat) (fun g => [(2, Str (p1.1)), (3, .slice (g.2.2.2.2.1) ((g.1)).length (g.2.2.2.2.2)), (4, .int .i64 ((g.2.1))), (6, Str ((g.2.2.1))), (7, .bool ((g.2.2.2.1)))]) (fun g w' => Hp Z0 No w w' [ownR 40 (g.2.2.2.2.1) (g.2.2.2.2.2) T_api_Pair.rep (g.1)]) (fun n g => m_label_Parse_L1 j1 n g.1 g.2.1 g.2.2.1 g.2.2.2.1) fuel (([] : List T_api_Pair), (W64 ((p1.1.length : Int) + 1)), p1.2.1, p1.2.2, none, 0) (Sub.cons rfl (Sub.cons rfl (Sub.cons rfl (Sub.cons rfl (Sub.cons rfl (Sub.nil _)))))) (hm18.pick [0] rfl (by decide)) hM (fun _ => rfl) ?_
    clear hM
    rintro m20 ⟨y12, y15, y16, y17, A13, c13⟩ w20 hm20 hM hn20
    replace hm20 : Hp Z0 No w w20 [ownR 40 A13 c13 T_api_Pair.rep y12] := hm20
    show Rn _ _ _ _ _ [(2, Str (p1.1)), (3, .slice A13 (y12).length c13), (4, .int .i64 (y15)), (6, Str (y16)), (7, .bool (y17))] _
    replace hM : m_label_Parse_L1 j1 (m20 + 1) y12 y15 y16 y17 = some r := hM
    rw [m_label_Parse_L1] at hM
    refine Rn.seq (Rn.seq (Rn.reg (Rn.v rfl rfl rfl rfl (V.mv rfl) (Rn.regEnd ?_))))
    refine Rn.condS rfl (fun h21 => ?_) (fun h21 => ?_)
    · replace hM := iteT h21 hM
      refine Rn.skip (Rn.block (Rn.seq (Rn.reg (Rn.v rfl rfl rfl rfl (V.as rfl) (Rn.regEnd (Rn.seq (Rn.reg (Rn.v rfl rfl rfl rfl (V.mv rfl) ?_))))))))
      obtain ⟨p22, e22, hM⟩ := bindE hM
      refine Rn.cl ck29 rfl rfl rfl rfl (m_strings_Cut_sim (Z0 := All) _ y16 ([59] : List UInt8)  e22) ?_
      rintro _ w22 ⟨rfl, hq22⟩
      refine ⟨_, rfl, ?_⟩
      have hm23 := hm20.call0 hq22
      refine Rn.v rfl rfl rfl rfl (V.mv rfl) (Rn.v rfl rfl rfl rfl (V.ext rfl rfl) (Rn.v rfl rfl rfl rfl (V.ext rfl rfl) (Rn.v rfl rfl rfl rfl (V.ext rfl rfl) (Rn.v rfl rfl rfl rfl (V.as rfl) (Rn.v rfl rfl rfl rfl (V.as rfl) (Rn.v rfl rfl rfl rfl (V.as rfl) (Rn.regEnd (Rn.seq (Rn.reg (Rn.v rfl rfl rfl rfl (V.mv rfl) ?_))))))))))
      obtain ⟨p24, e24, hM⟩ := bindE hM
      refine Rn.cl ck30 rfl rfl rfl rfl (m_label_pair_sim (Z0 := All) _ p22.1  e24) ?_
      rintro _ w24 ⟨rfl, hq24⟩
      refine ⟨_, rfl, ?_⟩
      have hm25 := hm23.call0 hq24
      refine Rn.v rfl rfl rfl rfl (V.mv rfl) (Rn.v rfl rfl rfl rfl (V.ext rfl rfl) (Rn.v rfl rfl rfl rfl (V.ext rfl rfl) (Rn.als rfl rfl rfl Try.zeroValue40 rfl Try.sizeOf40 rfl rfl rfl rfl (by first | exact ones rfl | (simp [Value.oneCell']; done)) ?_)))
      intro b26 w26 hb26 m26 e26
      have hm28 : Hp Z0 No w w26 [ownR 40 A13 c13 T_api_Pair.rep y12, boxR b26 40 [Str (p24.1.Key), Str (p24.1.Val)]] := hm25.addBox hb26 e26 m26
      refine Rn.v rfl rfl rfl rfl (V.as rfl) (Rn.regEnd (Rn.seq (Rn.seq (Rn.reg (Rn.v rfl rfl rfl rfl (V.mv rfl) (Rn.v rfl rfl rfl rfl (V.lenV Try.underlying22 rfl) (Rn.v rfl rfl rfl rfl (V.eql rfl rfl) (Rn.regEnd ?_))))))))
      obtain ⟨j2, hj2, hM⟩ := jnE hM
      refine Rn.joinG (r := r) (G := Int) (fun g => [(2, Str (p1.1)), (3, .slice A13 (y12).length c13), (4, .int .i64 (y15)), (6, Str (p22.2.1)), (7, .bool (p22.2.2)), (8, Str (p22.1)), (9, .pointer (some ⟨b26, 0, none⟩)), (10, .int .i64 (g))]) (fun g w' => Hp Z0 No w w' [ownR 40 A13 c13 T_api_Pair.rep y12, boxR b26 40 [Str (p24.1.Key), Str (p24.1.Val)]]) (fun g => j2 g) ?_ ?_
      · subst hj2
        clear hM
        rintro y29 w30 hm30 hM
        replace hm30 : Hp Z0 No w w30 [ownR 40 A13 c13 T_api_Pair.rep y12, boxR b26 40 [Str (p24.1.Key), Str (p24.1.Val)]] := hm30
        show Rn _ _ _ _ _ [(2, Str (p1.1)), (3, .slice A13 (y12).length c13), (4, .int .i64 (y15)), (6, Str (p22.2.1)), (7, .bool (p22.2.2)), (8, Str (p22.1)), (9, .pointer (some ⟨b26, 0, none⟩)), (10, .int .i64 (y29))] _
        try dsimp only at hM
        refine Rn.seq (Rn.seq (Rn.reg (Rn.v rfl rfl rfl rfl (V.mv rfl) (Rn.v rfl rfl rfl rfl (V.eql rfl rfl) (Rn.v rfl rfl rfl rfl (V.mv rfl) ?_)))))
        refine Rn.cutR [] [(2, Str (p1.1)), (3, .slice A13 (y12).length c13), (4, .int .i64 (y15)), (6, Str (p22.2.1)), (7, .bool (p22.2.2)), (8, Str (p22.1)), (9, .pointer (some ⟨b26, 0, none⟩)), (10, .int .i64 (y29)), (44, .bool (decide ((y29 = 0) ∧ ((y12.length : Int) > 0))))] (fun hk31 => ?_) ?_
        · refine Rn.partD (t := 40) rfl (fun h32 => ?_) (fun h32 => ?_)
          · refine Rn.v rfl rfl rfl rfl (V.mv rfl) (Rn.v rfl rfl rfl rfl (V.lenV Try.underlying22 rfl) (Rn.v rfl rfl rfl rfl (V.gtr rfl rfl) (Rn.v rfl rfl rfl rfl (V.pkT rfl rfl) ?_)))
            refine hk31 _ ?_
            exact Sub.cons rfl (Sub.cons rfl (Sub.cons rfl (Sub.cons rfl (Sub.cons rfl (Sub.cons rfl (Sub.cons rfl (Sub.cons rfl (Sub.cons (lkv _ rfl (by first | exact andT h32 | exact andF h32 | exact orT h32 | exact orF h32 | exact nandF h32 | exact nandT h32 | exact norT h32 | exact norF h32 | (simp [h32]; done) | grind)) (Sub.nil _)))))))))
          · refine Rn.no rfl rfl rfl rfl (Rn.no rfl rfl rfl rfl (Rn.no rfl rfl rfl rfl (Rn.v rfl rfl rfl rfl (V.pkF rfl rfl) ?_)))
            refine hk31 _ ?_
            exact Sub.cons rfl (Sub.cons rfl (Sub.cons rfl (Sub.cons rfl (Sub.cons rfl (Sub.cons rfl (Sub.cons rfl (Sub.cons rfl (Sub.cons (lkv _ rfl (by first | exact andT h32 | exact andF h32 | exact orT h32 | exact orF h32 | exact nandF h32 | exact nandT h32 | exact norT h32 | exact norF h32 | (simp [h32]; done) | grind)) (Sub.nil _)))))))))
        refine Rn.regEnd ?_
        obtain ⟨j3, hj3, hM⟩ := jnE hM
        refine Rn.joinG (r := r) (G := Int) (fun g => [(2, Str (p1.1)), (3, .slice A13 (y12).length c13), (4, .int .i64 (y15)), (6, Str (p22.2.1)), (7, .bool (p22.2.2)), (8, Str (p22.1)), (9, .pointer (some ⟨b26, 0, none⟩)), (10, .int .i64 (g))]) (fun g w' => Hp Z0 No w w' [ownR 40 A13 c13 T_api_Pair.rep y12, boxR b26 40 [Str (p24.1.Key), Str (p24.1.Val)]]) (fun g => j3 g) ?_ ?_
        · subst hj3
          clear hM
          rintro y33 w34 hm34 hM
          replace hm34 : Hp Z0 No w w34 [ownR 40 A13 c13 T_api_Pair.rep y12, boxR b26 40 [Str (p24.1.Key), Str (p24.1.Val)]] := hm34
          show Rn _ _ _ _ _ [(2, Str (p1.1)), (3, .slice A13 (y12).length c13), (4, .int .i64 (y15)), (6, Str (p22.2.1)), (7, .bool (p22.2.2)), (8, Str (p22.1)), (9, .pointer (some ⟨b26, 0, none⟩)), (10, .int .i64 (y33))] _
          try dsimp only at hM
          refine Rn.seq (Rn.seq (Rn.reg (Rn.v rfl rfl rfl rfl (V.mv rfl) (Rn.v rfl rfl rfl rfl (V.neq rfl rfl) (Rn.regEnd ?_)))))
          refine Rn.condD rfl (fun h35 => ?_) (fun h35 => ?_)
          · replace hM := iteT h35 hM
            refine Rn.seq (Rn.reg (Rn.v rfl rfl rfl rfl (V.mv rfl) (Rn.v rfl rfl rfl rfl (V.mv rfl) (Rn.v rfl rfl rfl rfl (V.as rfl) (Rn.v rfl rfl rfl rfl (V.as rfl) (Rn.v rfl rfl rfl rfl (V.as rfl) (Rn.v rfl rfl rfl rfl (V.as rfl) (Rn.regEnd ?_))))))))
            have hm36 := hm34.addNil 40 T_api_Pair.rep
            refine Rn.retG4 Try.func15 rfl (rvT rfl) (rvT rfl) (rvT rfl) (rvT rfl) ?_
            obtain rfl := someE hM
            exact ⟨none, 0, rfl, hm36.pick [2] rfl (by decide)⟩
          · replace hM := iteF h35 hM
            refine Rn.skip (Rn.seq (Rn.reg (Rn.v rfl rfl rfl rfl (V.mv rfl) (Rn.v rfl rfl rfl rfl (V.ldBA _ Try.isAgg40 Try.sizeOf40 rfl (hm34.get 1 rfl) rfl rfl) ?_))))
            obtain ⟨z38, e38, hM⟩ := bindE hM
            refine Rn.pushH (z := ({ Key := p24.1.Key, Val := p24.1.Val } : T_api_Pair)) (vs := [Str (p24.1.Key), Str (p24.1.Val)]) hm34 0 rfl e38 rfl rfl rfl rfl Try.underlying22 el40 rfl rfl rfl rfl (fun _ => rfl) (⟨_, _, rfl, ⟨rfl, trivial⟩, ⟨rfl, trivial⟩⟩) ?_
            intro A38 c38 w38 u38 hm38
            refine Rn.v rfl rfl rfl rfl (V.as rfl) (Rn.regEnd (Rn.reg (Rn.v rfl rfl rfl rfl (V.mv rfl) (Rn.v rfl rfl rfl rfl (V.mv rfl) (Rn.v rfl rfl rfl rfl (V.lenS Try.underlying9 rfl) (Rn.v rfl rfl rfl rfl (V.addW rfl rfl) (Rn.v rfl rfl rfl rfl (V.addW rfl rfl) (Rn.v rfl rfl rfl rfl (V.as rfl) (Rn.regEnd (Rn.inBlock ?_))))))))))
            exact hn20 (z38, (W64 (y15 + (W64 ((p22.1.length : Int) + 1)))), p22.2.1, p22.2.2, A38, c38) _ _ (Sub.cons rfl (Sub.cons rfl (Sub.cons rfl (Sub.cons rfl (Sub.cons rfl (Sub.nil _)))))) (hm38.pick [0] rfl (by decide)) hM
        intro hk3
        clear hj3
        refine Rn.condD rfl (fun h40 => ?_) (fun h40 => ?_)
        · replace hM := iteT h40 hM
          refine Rn.reg (Rn.v rfl rfl rfl rfl (V.mv rfl) (Rn.v rfl rfl rfl rfl (V.fa Try.underlying40 rfl Try.sizeOf9 rfl rfl) (Rn.v rfl rfl rfl rfl (V.ldB Try.isAgg9 rfl (hm30.get 1 rfl) rfl) ?_)))
          obtain ⟨p41, e41, hM⟩ := bindE hM
          refine Rn.cl ck31 rfl rfl rfl rfl (m_label_follows_sim (Z0 := All) _ A13 c13 y12 p24.1.Key (own_slR (hm30.get 0 rfl)) e41) ?_
          rintro _ w41 ⟨rfl, hq41⟩
          refine ⟨_, rfl, ?_⟩
          have hm42 := hm30.call0 hq41
          refine Rn.v rfl rfl rfl rfl (V.as rfl) (Rn.regEnd ?_)
          exact hk3 p41 _ _ (Sub.cons rfl (Sub.cons rfl (Sub.cons rfl (Sub.cons rfl (Sub.cons rfl (Sub.cons rfl (Sub.cons rfl (Sub.cons rfl (Sub.nil _))))))))) (hm42.pick [0, 1] rfl (by decide)) hM
        · replace hM := iteF h40 hM
          refine Rn.skip ?_
          exact hk3 y29 _ _ (Sub.cons rfl (Sub.cons rfl (Sub.cons rfl (Sub.cons rfl (Sub.cons rfl (Sub.cons rfl (Sub.cons rfl (Sub.cons rfl (Sub.nil _))))))))) (hm30.pick [0, 1] rfl (by decide)) hM
      intro hk2
      clear hj2
      refine Rn.condD rfl (fun h43 => ?_) (fun h43 => ?_)
      · replace hM := iteT h43 hM
        refine Rn.reg (Rn.v rfl rfl rfl rfl (V.as rfl) (Rn.regEnd ?_))
        exact hk2 4 _ _ (Sub.cons rfl (Sub.cons rfl (Sub.cons rfl (Sub.cons rfl (Sub.cons rfl (Sub.cons rfl (Sub.cons rfl (Sub.cons rfl (Sub.nil _))))))))) (hm28.pick [0, 1] rfl (by decide)) hM
      · replace hM := iteF h43 hM
        refine Rn.skip ?_
        exact hk2 p24.2 _ _ (Sub.cons rfl (Sub.cons rfl (Sub.cons rfl (Sub.cons rfl (Sub.cons rfl (Sub.cons rfl (Sub.cons rfl (Sub.cons rfl (Sub.nil _))))))))) (hm28.pick [0, 1] rfl (by decide)) hM
    · replace hM := iteF (by rw [h21]; exact Bool.false_ne_true) hM
      refine Rn.exit rfl ?_
      exact hk1 (y12, A13, c13) _ _ (Sub.cons rfl (Sub.cons rfl (Sub.nil _))) (hm20.pick [0] rfl (by decide)) hM

set_option maxRecDepth 20000 in
theorem m_limnographlaw11_awake_sim {Z0 : Nat → Prop} (w : World)  {r : Bool}  (hM : m_limnographlaw11_awake  = some r) :
    Calls Try.prog 7 #[] w fun x w' => x = .returned (.bool (r)) ∧ Hp Z0 No w w' [] := by
  have hm0 := Hp.nil Z0 No w
  have hc0 := Calm.nil
  refine Rn.enter Try.func7 rfl rfl (Nat.le_of_ble_eq_true rfl) ?_
  refine Rn.seq (Rn.reg (Rn.v rfl rfl rfl rfl (V.as rfl) (Rn.regEnd (Rn.seq (Rn.reg (Rn.v rfl rfl rfl rfl (V.bldS st40 rfl rfl) (Rn.v rfl rfl rfl rfl (V.bldS st40 rfl rfl) (Rn.bslS rfl rfl rfl Try.underlying22 el40 rfl rfl rfl rfl (by first | exact szs rfl | (simp [Value.cells]; done)) (by decide) ?_))))))))
  intro b1 w1 hb1 m1 e1
  have hm2 := hm0.addLit (rep := T_api_Pair.rep) (xs := ([({ Key := ([98] : List UInt8), Val := ([50] : List UInt8) } : T_api_Pair), ({ Key := ([97] : List UInt8), Val := ([49] : List UInt8) } : T_api_Pair)] : List T_api_Pair)) (vss := [[Str (([98] : List UInt8)), Str (([50] : List UInt8))], [Str (([97] : List UInt8)), Str (([49] : List UInt8))]]) hb1 e1 m1 rfl rfl rfl ((rels_cons (fun _ _ => ⟨_, _, rfl, ⟨rfl, trivial⟩, ⟨rfl, trivial⟩⟩) (rels_cons (fun _ _ => ⟨_, _, rfl, ⟨rfl, trivial⟩, ⟨rfl, trivial⟩⟩) rels0)))
  obtain ⟨p4, e4, hM⟩ := bindE hM
  refine Rn.cl ck9 rfl rfl rfl rfl (m_label_Text_sim (Z0 := All) _ ([99, 112, 117] : List UInt8) (some ⟨b1, 0, none⟩) 2 ([({ Key := ([98] : List UInt8), Val := ([50] : List UInt8) } : T_api_Pair), ({ Key := ([97] : List UInt8), Val := ([49] : List UInt8) } : T_api_Pair)] : List T_api_Pair) (own_slR (hm2.get 0 rfl)) e4) ?_
  rintro _ w4 ⟨rfl, hq4⟩
  refine ⟨_, rfl, ?_⟩
  have hm5 := hm2.call0 hq4
  refine Rn.v rfl rfl rfl rfl (V.mv rfl) (Rn.v rfl rfl rfl rfl (V.ext rfl rfl) (Rn.v rfl rfl rfl rfl (V.ext rfl rfl) (Rn.v rfl rfl rfl rfl (V.as rfl) (Rn.v rfl rfl rfl rfl (V.as rfl) (Rn.regEnd (Rn.seq (Rn.reg ?_)))))))
  obtain ⟨p6, e6, hM⟩ := bindE hM
  refine Rn.cl ck15 rfl rfl rfl rfl (m_label_Parse_sim (Z0 := All) _ ([99, 112, 117, 59, 98, 61, 50, 59, 97, 61, 49] : List UInt8)  e6) ?_
  rintro _ w6 ⟨A6_1_0, c6_1_0, rfl, hq6⟩
  refine ⟨_, rfl, ?_⟩
  have hm8 : Hp Z0 No w w6 [ownR 40 (some ⟨b1, 0, none⟩) 2 T_api_Pair.rep ([({ Key := ([98] : List UInt8), Val := ([50] : List UInt8) } : T_api_Pair), ({ Key := ([97] : List UInt8), Val := ([49] : List UInt8) } : T_api_Pair)] : List T_api_Pair), ownR 40 A6_1_0 c6_1_0 T_api_Pair.rep p6.2.1] := hm5.callF (flC (ownR_flat T_api_Pair.flat _ _ _ _) fl0) hq6
  refine Rn.v rfl rfl rfl rfl (V.mv rfl) (Rn.v rfl rfl rfl rfl (V.ext rfl rfl) (Rn.v rfl rfl rfl rfl (V.ext rfl rfl) (Rn.v rfl rfl rfl rfl (V.ext rfl rfl) (Rn.v rfl rfl rfl rfl (V.ext rfl rfl) (Rn.v rfl rfl rfl rfl (V.as rfl) (Rn.v rfl rfl rfl rfl (V.as rfl) (Rn.v rfl rfl rfl rfl (V.as rfl) (Rn.v rfl rfl rfl rfl (V.as rfl) (Rn.regEnd (Rn.seq (Rn.reg (Rn.v rfl rfl rfl rfl (V.mv rfl) (Rn.v rfl rfl rfl rfl (V.eqlS rfl rfl) (Rn.v rfl rfl rfl rfl (V.mv rfl) ?_))))))))))))))
  refine Rn.cutR [6, 7, 8, 9, 10, 11, 12, 13, 14] [(5, .int .i64 (p6.2.2.1)), (6, .int .i64 (p6.2.2.2)), (25, .bool (decide ((p4.1 = ([99, 112, 117, 59, 97, 61, 49, 59, 98, 61, 50] : List UInt8)) ∧ (p4.2 = 0))))] (fun hk9 => ?_) ?_
  · refine Rn.partD (t := 22) rfl (fun h10 => ?_) (fun h10 => ?_)
    · refine Rn.v rfl rfl rfl rfl (V.mv rfl) (Rn.v rfl rfl rfl rfl (V.eql rfl rfl) (Rn.v rfl rfl rfl rfl (V.pkT rfl rfl) ?_))
      refine hk9 _ ?_
      exact Sub.cons rfl (Sub.cons rfl (Sub.cons (lkv _ rfl (by first | exact andT h10 | exact andF h10 | exact orT h10 | exact orF h10 | exact nandF h10 | exact nandT h10 | exact norT h10 | exact norF h10 | (simp [h10]; done) | grind)) (Sub.nil _)))
    · refine Rn.no rfl rfl rfl rfl (Rn.no rfl rfl rfl rfl (Rn.v rfl rfl rfl rfl (V.pkF rfl rfl) ?_))
      refine hk9 _ ?_
      exact Sub.cons rfl (Sub.cons rfl (Sub.cons (lkv _ rfl (by first | exact andT h10 | exact andF h10 | exact orT h10 | exact orF h10 | exact nandF h10 | exact nandT h10 | exact norT h10 | exact norF h10 | (simp [h10]; done) | grind)) (Sub.nil _)))
  refine Rn.v rfl rfl rfl rfl (V.mv rfl) ?_
  refine Rn.cutR [10, 11, 12, 13, 14] [(6, .int .i64 (p6.2.2.2)), (29, .bool (decide (((p4.1 = ([99, 112, 117, 59, 97, 61, 49, 59, 98, 61, 50] : List UInt8)) ∧ (p4.2 = 0)) ∧ (p6.2.2.1 = 8))))] (fun hk11 => ?_) ?_
  · refine Rn.partD (t := 26) rfl (fun h12 => ?_) (fun h12 => ?_)
    · refine Rn.v rfl rfl rfl rfl (V.mv rfl) (Rn.v rfl rfl rfl rfl (V.eql rfl rfl) (Rn.v rfl rfl rfl rfl (V.pkT rfl rfl) ?_))
      refine hk11 _ ?_
      exact Sub.cons rfl (Sub.cons (lkv _ rfl (by first | exact andT h12 | exact andF h12 | exact orT h12 | exact orF h12 | exact nandF h12 | exact nandT h12 | exact norT h12 | exact norF h12 | (simp [h12]; done) | grind)) (Sub.nil _))
    · refine Rn.no rfl rfl rfl rfl (Rn.no rfl rfl rfl rfl (Rn.v rfl rfl rfl rfl (V.pkF rfl rfl) ?_))
      refine hk11 _ ?_
      exact Sub.cons rfl (Sub.cons (lkv _ rfl (by first | exact andT h12 | exact andF h12 | exact orT h12 | exact orF h12 | exact nandF h12 | exact nandT h12 | exact norT h12 | exact norF h12 | (simp [h12]; done) | grind)) (Sub.nil _))
  refine Rn.v rfl rfl rfl rfl (V.mv rfl) ?_
  refine Rn.cutR [14] [(33, .bool (decide ((((p4.1 = ([99, 112, 117, 59, 97, 61, 49, 59, 98, 61, 50] : List UInt8)) ∧ (p4.2 = 0)) ∧ (p6.2.2.1 = 8)) ∧ (p6.2.2.2 = 9))))] (fun hk13 => ?_) ?_
  · refine Rn.partD (t := 30) rfl (fun h14 => ?_) (fun h14 => ?_)
    · refine Rn.v rfl rfl rfl rfl (V.mv rfl) (Rn.v rfl rfl rfl rfl (V.eql rfl rfl) (Rn.v rfl rfl rfl rfl (V.pkT rfl rfl) ?_))
      refine hk13 _ ?_
      exact Sub.cons (lkv _ rfl (by first | exact andT h14 | exact andF h14 | exact orT h14 | exact orF h14 | exact nandF h14 | exact nandT h14 | exact norT h14 | exact norF h14 | (simp [h14]; done) | grind)) (Sub.nil _)
    · refine Rn.no rfl rfl rfl rfl (Rn.no rfl rfl rfl rfl (Rn.v rfl rfl rfl rfl (V.pkF rfl rfl) ?_))
      refine hk13 _ ?_
      exact Sub.cons (lkv _ rfl (by first | exact andT h14 | exact andF h14 | exact orT h14 | exact orF h14 | exact nandF h14 | exact nandT h14 | exact norT h14 | exact norF h14 | (simp [h14]; done) | grind)) (Sub.nil _)
  refine Rn.v rfl rfl rfl rfl (V.as rfl) (Rn.regEnd ?_)
  refine Rn.retG1 Try.func7 rfl (rvT rfl) ?_
  obtain rfl := someE hM
  exact ⟨rfl, hm8.pick [] rfl (by decide)⟩

set_option maxRecDepth 20000 in
theorem m_limnographref11_Light_sim {Z0 : Nat → Prop} (w : World) (A0 : Option Addr) (c0 : Nat) (x0 : (List T_api_Pair)) {r : Bool} (f0 : (slR A0 c0 T_api_Pair.rep x0).H Z0 w) (hM : m_limnographref11_Light x0 = some r) :
    Calls Try.prog 8 #[.slice A0 (x0).length c0] w fun x w' => x = .returned (.bool (r)) ∧ Hp Z0 No w w' [] := by
  have hm0 := Hp.nil Z0 No w
  have hc0 := Calm.nil
  have hm2 := hm0.know (slR A0 c0 T_api_Pair.rep x0) (fun _ h => h) (hm0.in0 hc0 f0)
  replace hc0 := hc0.snoc (r := slR A0 c0 T_api_Pair.rep x0) (fun _ h => h)
  refine Rn.enter Try.func8 rfl rfl (Nat.le_of_ble_eq_true rfl) ?_
  refine Rn.seq (Rn.reg (Rn.v rfl rfl rfl rfl (V.as rfl) (Rn.regEnd (Rn.seq (Rn.seq (Rn.reg (Rn.v rfl rfl rfl rfl (V.mv rfl) (Rn.v rfl rfl rfl rfl (V.lenV Try.underlying22 rfl) (Rn.v rfl rfl rfl rfl (V.gtr rfl rfl) (Rn.regEnd ?_))))))))))
  refine Rn.condD rfl (fun h3 => ?_) (fun h3 => ?_)
  · replace hM := iteT h3 hM
    refine Rn.seq (Rn.reg (Rn.v rfl rfl rfl rfl (V.as rfl) (Rn.regEnd ?_)))
    refine Rn.retG1 Try.func8 rfl (rvT rfl) ?_
    obtain rfl := someE hM
    exact ⟨rfl, hm2.pick [] rfl (by decide)⟩
  · replace hM := iteF h3 hM
    refine Rn.skip (Rn.seq (Rn.seq (Rn.reg (Rn.v rfl rfl rfl rfl (V.as rfl) (Rn.regEnd ?_)))))
    obtain ⟨j1, hj1, hM⟩ := jnE hM
    refine Rn.joinG (r := r) (G := Unit) (fun g => []) (fun g w' => Hp Z0 No w w' [slR A0 c0 T_api_Pair.rep x0]) (fun g => j1 ()) ?_ ?_
    · subst hj1
      clear hM
      rintro _ w4 hm4 hM
      replace hm4 : Hp Z0 No w w4 [slR A0 c0 T_api_Pair.rep x0] := hm4
      show Rn _ _ _ _ _ [] _
      try dsimp only at hM
      refine Rn.seq (Rn.reg (Rn.v rfl rfl rfl rfl (V.as rfl) (Rn.regEnd ?_)))
      refine Rn.retG1 Try.func8 rfl (rvT rfl) ?_
      obtain rfl := someE hM
      exact ⟨rfl, hm4.pick [] rfl (by decide)⟩
    intro hk1
    clear hj1
    refine Rn.block ?_
    refine Rn.loopF (G := Int) (fun g => [(0, .slice A0 (x0).length c0), (3, .int .i64 (g))]) (fun g w' => Hp Z0 No w w' [slR A0 c0 T_api_Pair.rep x0]) (fun n g => m_limnographref11_Light_L1 x0 j1 n g) fuel 0 (Sub.cons rfl (Sub.cons rfl (Sub.nil _))) (hm2.pick [0] rfl (by decide)) hM (fun _ => rfl) ?_
    clear hM
    rintro m6 y5 w6 hm6 hM hn6
    replace hm6 : Hp Z0 No w w6 [slR A0 c0 T_api_Pair.rep x0] := hm6
    show Rn _ _ _ _ _ [(0, .slice A0 (x0).length c0), (3, .int .i64 (y5))] _
    replace hM : m_limnographref11_Light_L1 x0 j1 (m6 + 1) y5 = some r := hM
    rw [m_limnographref11_Light_L1] at hM
    refine Rn.seq (Rn.seq (Rn.reg (Rn.v rfl rfl rfl rfl (V.mv rfl) (Rn.v rfl rfl rfl rfl (V.mv rfl) (Rn.v rfl rfl rfl rfl (V.lenV Try.underlying22 rfl) (Rn.v rfl rfl rfl rfl (V.lss rfl rfl) (Rn.regEnd ?_)))))))
    refine Rn.condD rfl (fun h7 => ?_) (fun h7 => ?_)
    · replace hM := iteT h7 hM
      refine Rn.skip (Rn.seq (Rn.block (Rn.seq (Rn.reg (Rn.v rfl rfl rfl rfl (V.mv rfl) (Rn.v rfl rfl rfl rfl (V.mv rfl) ?_))))))
      obtain ⟨z8, e8, hM⟩ := bindE hM
      refine Rn.ixH hm6 0 rfl e8 rfl rfl rfl Try.underlying22 Try.sizeOf40 rfl rfl rfl rfl ?_
      rintro b8 o8 vs8 ⟨_, _, rfl, ⟨rfl, _⟩, ⟨rfl, _⟩⟩ hm8
      refine Rn.v rfl rfl rfl rfl (V.fa Try.underlying40 rfl Try.sizeOf9 rfl rfl) (Rn.v rfl rfl rfl rfl (V.ldR0 Try.isAgg9 rfl (hm8.get 1 rfl).2 rfl) (Rn.v rfl rfl rfl rfl (V.lenS Try.underlying9 rfl) (Rn.v rfl rfl rfl rfl (V.gtr rfl rfl) (Rn.v rfl rfl rfl rfl (V.mv rfl) ?_))))
      obtain ⟨j2, hj2, hM⟩ := jnE hM
      refine Rn.joinR (r := r) (G := Bool) [] (fun g => [(0, .slice A0 (x0).length c0), (3, .int .i64 (y5)), (28, .bool (g))]) (fun g w' => Hp Z0 No w w' [slR A0 c0 T_api_Pair.rep x0, rdR b8 o8 [Str (z8.Key), Str (z8.Val)]]) (fun g => j2 g) ?_ ?_
      · subst hj2
        clear hM
        rintro y10 w11 hm11 hM
        replace hm11 : Hp Z0 No w w11 [slR A0 c0 T_api_Pair.rep x0, rdR b8 o8 [Str (z8.Key), Str (z8.Val)]] := hm11
        show Rn _ _ _ _ _ [(0, .slice A0 (x0).length c0), (3, .int .i64 (y5)), (28, .bool (y10))] _
        try dsimp only at hM
        refine Rn.regEnd ?_
        refine Rn.condS rfl (fun h12 => ?_) (fun h12 => ?_)
        · replace hM := iteT h12 hM
          refine Rn.seq (Rn.reg (Rn.v rfl rfl rfl rfl (V.as rfl) (Rn.regEnd ?_)))
          refine Rn.retG1 Try.func8 rfl (rvT rfl) ?_
          obtain rfl := someE hM
          exact ⟨rfl, hm11.pick [] rfl (by decide)⟩
        · replace hM := iteF (by rw [h12]; exact Bool.false_ne_true) hM
          refine Rn.skip (Rn.inBlock (Rn.reg (Rn.v rfl rfl rfl rfl (V.mv rfl) (Rn.v rfl rfl rfl rfl (V.addW rfl rfl) (Rn.v rfl rfl rfl rfl (V.as rfl) (Rn.regEnd ?_))))))
          exact hn6 (W64 (y5 + 1)) _ _ (Sub.cons rfl (Sub.cons rfl (Sub.nil _))) (hm11.pick [0] rfl (by decide)) hM
      intro hk2
      clear hj2
      refine Rn.partD (t := 20) rfl (fun h13 => ?_) (fun h13 => ?_)
      · replace hM := iteT h13 hM
        refine Rn.no rfl rfl rfl rfl (Rn.no rfl rfl rfl rfl (Rn.no rfl rfl rfl rfl (Rn.no rfl rfl rfl rfl (Rn.no rfl rfl rfl rfl (Rn.no rfl rfl rfl rfl (Rn.no rfl rfl rfl rfl (Rn.v rfl rfl rfl rfl (V.pkT rfl rfl) ?_)))))))
        exact hk2 true _ _ (Sub.cons rfl (Sub.cons rfl (Sub.cons rfl (Sub.nil _)))) (hm8.pick [0, 1] rfl (by decide)) hM
      · replace hM := iteF h13 hM
        refine Rn.v rfl rfl rfl rfl (V.mv rfl) (Rn.v rfl rfl rfl rfl (V.mv rfl) ?_)
        obtain ⟨z14, e14, hM⟩ := bindE hM
        refine Rn.ixH hm8 0 rfl e14 rfl rfl rfl Try.underlying22 Try.sizeOf40 rfl rfl rfl rfl ?_
        rintro b14 o14 vs14 ⟨_, _, rfl, ⟨rfl, _⟩, ⟨rfl, _⟩⟩ hm14
        refine Rn.v rfl rfl rfl rfl (V.fa Try.underlying40 rfl Try.sizeOf9 rfl rfl) (Rn.v rfl rfl rfl rfl (V.ldR Try.isAgg9 rfl (hm14.get 2 rfl).2 rfl) (Rn.v rfl rfl rfl rfl (V.lenS Try.underlying9 rfl) (Rn.v rfl rfl rfl rfl (V.gtr rfl rfl) (Rn.v rfl rfl rfl rfl (V.pkF rfl rfl) ?_))))
        exact hk2 (decide ((z14.Val.length : Int) > 100)) _ _ (Sub.cons rfl (Sub.cons rfl (Sub.cons rfl (Sub.nil _)))) (hm14.pick [0, 1] rfl (by decide)) hM
    · replace hM := iteF h7 hM
      refine Rn.exit rfl ?_
      exact hk1 () _ _ (Sub.nil _) (hm6.pick [0] rfl (by decide)) hM

set_option maxRecDepth 20000 in
theorem m_limnographref11_Name_sim {Z0 : Nat → Prop} (w : World) (x0 : (List UInt8)) {r : Bool}  (hM : m_limnographref11_Name x0 = some r) :
    Calls Try.prog 33 #[Str (x0)] w fun x w' => x = .returned (.bool (r)) ∧ Hp Z0 No w w' [] := by
  have hm0 := Hp.nil Z0 No w
  have hc0 := Calm.nil
  refine Rn.enter Try.func33 rfl rfl (Nat.le_of_ble_eq_true rfl) ?_
  refine Rn.seq (Rn.reg (Rn.v rfl rfl rfl rfl (V.as rfl) (Rn.regEnd (Rn.seq (Rn.seq (Rn.reg (Rn.v rfl rfl rfl rfl (V.mv rfl) (Rn.v rfl rfl rfl rfl (V.lenS Try.underlying9 rfl) (Rn.v rfl rfl rfl rfl (V.lss rfl rfl) (Rn.v rfl rfl rfl rfl (V.mv rfl) ?_))))))))))
  refine Rn.cutR [] [(0, Str (x0)), (14, .bool (decide (((x0.length : Int) < 1) ∨ ((x0.length : Int) > 32))))] (fun hk1 => ?_) ?_
  · refine Rn.partD (t := 10) rfl (fun h2 => ?_) (fun h2 => ?_)
    · refine Rn.no rfl rfl rfl rfl (Rn.no rfl rfl rfl rfl (Rn.no rfl rfl rfl rfl (Rn.v rfl rfl rfl rfl (V.pkT rfl rfl) ?_)))
      refine hk1 _ ?_
      exact Sub.cons rfl (Sub.cons (lkv _ rfl (by first | exact andT h2 | exact andF h2 | exact orT h2 | exact orF h2 | exact nandF h2 | exact nandT h2 | exact norT h2 | exact norF h2 | (simp [h2]; done) | grind)) (Sub.nil _))
    · refine Rn.v rfl rfl rfl rfl (V.mv rfl) (Rn.v rfl rfl rfl rfl (V.lenS Try.underlying9 rfl) (Rn.v rfl rfl rfl rfl (V.gtr rfl rfl) (Rn.v rfl rfl rfl rfl (V.pkF rfl rfl) ?_)))
      refine hk1 _ ?_
      exact Sub.cons rfl (Sub.cons (lkv _ rfl (by first | exact andT h2 | exact andF h2 | exact orT h2 | exact orF h2 | exact nandF h2 | exact nandT h2 | exact norT h2 | exact norF h2 | (simp [h2]; done) | grind)) (Sub.nil _))
  refine Rn.regEnd ?_
  refine Rn.condD rfl (fun h3 => ?_) (fun h3 => ?_)
  · replace hM := iteT h3 hM
    refine Rn.seq (Rn.reg (Rn.v rfl rfl rfl rfl (V.as rfl) (Rn.regEnd ?_)))
    refine Rn.retG1 Try.func33 rfl (rvT rfl) ?_
    obtain rfl := someE hM
    exact ⟨rfl, hm0.pick [] rfl (by decide)⟩
  · replace hM := iteF h3 hM
    refine Rn.skip (Rn.seq (Rn.seq (Rn.reg (Rn.v rfl rfl rfl rfl (V.as rfl) (Rn.regEnd ?_)))))
    obtain ⟨j1, hj1, hM⟩ := jnE hM
    refine Rn.joinG (r := r) (G := Unit) (fun g => []) (fun g w' => Hp Z0 No w w' []) (fun g => j1 ()) ?_ ?_
    · subst hj1
      clear hM
      rintro _ w4 hm4 hM
      replace hm4 : Hp Z0 No w w4 [] := hm4
      show Rn _ _ _ _ _ [] _
      try dsimp only at hM
      refine Rn.seq (Rn.reg (Rn.v rfl rfl rfl rfl (V.as rfl) (Rn.regEnd ?_)))
      refine Rn.retG1 Try.func33 rfl (rvT rfl) ?_
      obtain rfl := someE hM
      exact ⟨rfl, hm4.pick [] rfl (by decide)⟩
    intro hk1
    clear hj1
    refine Rn.block ?_
    refine Rn.loopF (G := Int) (fun g => [(0, Str (x0)), (3, .int .i64 (g))]) (fun g w' => Hp Z0 No w w' []) (fun n g => m_limnographref11_Name_L1 x0 j1 n g) fuel 0 (Sub.cons rfl (Sub.cons rfl (Sub.nil _))) (hm0.pick [] rfl (by decide)) hM (fun _ => rfl) ?_
    clear hM
    rintro m6 y5 w6 hm6 hM hn6
    replace hm6 : Hp Z0 No w w6 [] := hm6
    show Rn _ _ _ _ _ [(0, Str (x0)), (3, .int .i64 (y5))] _
    replace hM : m_limnographref11_Name_L1 x0 j1 (m6 + 1) y5 = some r := hM
    rw [m_limnographref11_Name_L1] at hM
    refine Rn.seq (Rn.seq (Rn.reg (Rn.v rfl rfl rfl rfl (V.mv rfl) (Rn.v rfl rfl rfl rfl (V.mv rfl) (Rn.v rfl rfl rfl rfl (V.lenS Try.underlying9 rfl) (Rn.v rfl rfl rfl rfl (V.lss rfl rfl) (Rn.regEnd ?_)))))))
    refine Rn.condD rfl (fun h7 => ?_) (fun h7 => ?_)
    · replace hM := iteT h7 hM
      refine Rn.skip (Rn.seq (Rn.block (Rn.seq (Rn.reg (Rn.v rfl rfl rfl rfl (V.mv rfl) (Rn.v rfl rfl rfl rfl (V.mv rfl) ?_))))))
      obtain ⟨z8, e8, hM⟩ := bindE hM
      refine Rn.v rfl rfl rfl rfl (V.idxSZ Try.underlying9 rfl rfl e8) (Rn.v rfl rfl rfl rfl (V.as rfl) (Rn.regEnd (Rn.seq (Rn.reg (Rn.v rfl rfl rfl rfl (V.mv rfl) (Rn.v rfl rfl rfl rfl (V.geq rfl rfl) (Rn.v rfl rfl rfl rfl (V.mv rfl) ?_)))))))
      refine Rn.cutR [6] [(0, Str (x0)), (3, .int .i64 (y5)), (4, .int .u8 (((z8).toNat : Nat) : Int)), (29, .bool (decide ((((z8).toNat : Int) ≥ 97) ∧ (((z8).toNat : Int) ≤ 122))))] (fun hk9 => ?_) ?_
      · refine Rn.partD (t := 26) rfl (fun h10 => ?_) (fun h10 => ?_)
        · refine Rn.v rfl rfl rfl rfl (V.mv rfl) (Rn.v rfl rfl rfl rfl (V.leq rfl rfl) (Rn.v rfl rfl rfl rfl (V.pkT rfl rfl) ?_))
          refine hk9 _ ?_
          exact Sub.cons rfl (Sub.cons rfl (Sub.cons rfl (Sub.cons (lkv _ rfl (by first | exact andT h10 | exact andF h10 | exact orT h10 | exact orF h10 | exact nandF h10 | exact nandT h10 | exact norT h10 | exact norF h10 | (simp [h10]; done) | grind)) (Sub.nil _))))
        · refine Rn.no rfl rfl rfl rfl (Rn.no rfl rfl rfl rfl (Rn.v rfl rfl rfl rfl (V.pkF rfl rfl) ?_))
          refine hk9 _ ?_
          exact Sub.cons rfl (Sub.cons rfl (Sub.cons rfl (Sub.cons (lkv _ rfl (by first | exact andT h10 | exact andF h10 | exact orT h10 | exact orF h10 | exact nandF h10 | exact nandT h10 | exact norT h10 | exact norF h10 | (simp [h10]; done) | grind)) (Sub.nil _))))
      refine Rn.v rfl rfl rfl rfl (V.as rfl) (Rn.regEnd (Rn.seq (Rn.reg (Rn.v rfl rfl rfl rfl (V.mv rfl) (Rn.v rfl rfl rfl rfl (V.geq rfl rfl) (Rn.v rfl rfl rfl rfl (V.mv rfl) ?_))))))
      refine Rn.cutR [6, 7, 8, 9, 10, 11, 12, 13, 14] [(0, Str (x0)), (3, .int .i64 (y5)), (4, .int .u8 (((z8).toNat : Nat) : Int)), (5, .bool (decide ((((z8).toNat : Int) ≥ 97) ∧ (((z8).toNat : Int) ≤ 122)))), (35, .bool (decide ((((z8).toNat : Int) ≥ 48) ∧ (((z8).toNat : Int) ≤ 57))))] (fun hk11 => ?_) ?_
      · refine Rn.partD (t := 32) rfl (fun h12 => ?_) (fun h12 => ?_)
        · refine Rn.v rfl rfl rfl rfl (V.mv rfl) (Rn.v rfl rfl rfl rfl (V.leq rfl rfl) (Rn.v rfl rfl rfl rfl (V.pkT rfl rfl) ?_))
          refine hk11 _ ?_
          exact Sub.cons rfl (Sub.cons rfl (Sub.cons rfl (Sub.cons rfl (Sub.cons (lkv _ rfl (by first | exact andT h12 | exact andF h12 | exact orT h12 | exact orF h12 | exact nandF h12 | exact nandT h12 | exact norT h12 | exact norF h12 | (simp [h12]; done) | grind)) (Sub.nil _)))))
        · refine Rn.no rfl rfl rfl rfl (Rn.no rfl rfl rfl rfl (Rn.v rfl rfl rfl rfl (V.pkF rfl rfl) ?_))
          refine hk11 _ ?_
          exact Sub.cons rfl (Sub.cons rfl (Sub.cons rfl (Sub.cons rfl (Sub.cons (lkv _ rfl (by first | exact andT h12 | exact andF h12 | exact orT h12 | exact orF h12 | exact nandF h12 | exact nandT h12 | exact norT h12 | exact norF h12 | (simp [h12]; done) | grind)) (Sub.nil _)))))
      refine Rn.v rfl rfl rfl rfl (V.mv rfl) ?_
      refine Rn.cutR [10, 11, 12, 13, 14] [(0, Str (x0)), (3, .int .i64 (y5)), (4, .int .u8 (((z8).toNat : Nat) : Int)), (5, .bool (decide ((((z8).toNat : Int) ≥ 97) ∧ (((z8).toNat : Int) ≤ 122)))), (39, .bool (decide (((((z8).toNat : Int) ≥ 48) ∧ (((z8).toNat : Int) ≤ 57)) ∨ (((z8).toNat : Int) = 95))))] (fun hk13 => ?_) ?_
      · refine Rn.partD (t := 36) rfl (fun h14 => ?_) (fun h14 => ?_)
        · refine Rn.no rfl rfl rfl rfl (Rn.no rfl rfl rfl rfl (Rn.v rfl rfl rfl rfl (V.pkT rfl rfl) ?_))
          refine hk13 _ ?_
          exact Sub.cons rfl (Sub.cons rfl (Sub.cons rfl (Sub.cons rfl (Sub.cons (lkv _ rfl (by first | exact andT h14 | exact andF h14 | exact orT h14 | exact orF h14 | exact nandF h14 | exact nandT h14 | exact norT h14 | exact norF h14 | (simp [h14]; done) | grind)) (Sub.nil _)))))
        · refine Rn.v rfl rfl rfl rfl (V.mv rfl) (Rn.v rfl rfl rfl rfl (V.eql rfl rfl) (Rn.v rfl rfl rfl rfl (V.pkF rfl rfl) ?_))
          refine hk13 _ ?_
          exact Sub.cons rfl (Sub.cons rfl (Sub.cons rfl (Sub.cons rfl (Sub.cons (lkv _ rfl (by first | exact andT h14 | exact andF h14 | exact orT h14 | exact orF h14 | exact nandF h14 | exact nandT h14 | exact norT h14 | exact norF h14 | (simp [h14]; done) | grind)) (Sub.nil _)))))
      refine Rn.v rfl rfl rfl rfl (V.mv rfl) ?_
      refine Rn.cutR [14] [(0, Str (x0)), (3, .int .i64 (y5)), (5, .bool (decide ((((z8).toNat : Int) ≥ 97) ∧ (((z8).toNat : Int) ≤ 122)))), (43, .bool (decide ((((((z8).toNat : Int) ≥ 48) ∧ (((z8).toNat : Int) ≤ 57)) ∨ (((z8).toNat : Int) = 95)) ∨ (((z8).toNat : Int) = 46))))] (fun hk15 => ?_) ?_
      · refine Rn.partD (t := 40) rfl (fun h16 => ?_) (fun h16 => ?_)
        · refine Rn.no rfl rfl rfl rfl (Rn.no rfl rfl rfl rfl (Rn.v rfl rfl rfl rfl (V.pkT rfl rfl) ?_))
          refine hk15 _ ?_
          exact Sub.cons rfl (Sub.cons rfl (Sub.cons rfl (Sub.cons (lkv _ rfl (by first | exact andT h16 | exact andF h16 | exact orT h16 | exact orF h16 | exact nandF h16 | exact nandT h16 | exact norT h16 | exact norF h16 | (simp [h16]; done) | grind)) (Sub.nil _))))
        · refine Rn.v rfl rfl rfl rfl (V.mv rfl) (Rn.v rfl rfl rfl rfl (V.eql rfl rfl) (Rn.v rfl rfl rfl rfl (V.pkF rfl rfl) ?_))
          refine hk15 _ ?_
          exact Sub.cons rfl (Sub.cons rfl (Sub.cons rfl (Sub.cons (lkv _ rfl (by first | exact andT h16 | exact andF h16 | exact orT h16 | exact orF h16 | exact nandF h16 | exact nandT h16 | exact norT h16 | exact norF h16 | (simp [h16]; done) | grind)) (Sub.nil _))))
      refine Rn.v rfl rfl rfl rfl (V.as rfl) (Rn.regEnd (Rn.seq (Rn.reg (Rn.v rfl rfl rfl rfl (V.mv rfl) (Rn.v rfl rfl rfl rfl (V.notD rfl) (Rn.v rfl rfl rfl rfl (V.mv rfl) ?_))))))
      refine Rn.cutR [] [(0, Str (x0)), (3, .int .i64 (y5)), (53, .bool (decide ((¬ ((((z8).toNat : Int) ≥ 97) ∧ (((z8).toNat : Int) ≤ 122))) ∧ ((y5 = 0) ∨ (¬ ((((((z8).toNat : Int) ≥ 48) ∧ (((z8).toNat : Int) ≤ 57)) ∨ (((z8).toNat : Int) = 95)) ∨ (((z8).toNat : Int) = 46)))))))] (fun hk17 => ?_) ?_
      · refine Rn.partD (t := 46) rfl (fun h18 => ?_) (fun h18 => ?_)
        · refine Rn.v rfl rfl rfl rfl (V.mv rfl) (Rn.v rfl rfl rfl rfl (V.eql rfl rfl) (Rn.v rfl rfl rfl rfl (V.mv rfl) ?_))
          refine Rn.cutR [9] [(0, Str (x0)), (3, .int .i64 (y5)), (46, .bool true), (52, .bool (decide ((y5 = 0) ∨ (¬ ((((((z8).toNat : Int) ≥ 48) ∧ (((z8).toNat : Int) ≤ 57)) ∨ (((z8).toNat : Int) = 95)) ∨ (((z8).toNat : Int) = 46))))))] (fun hk19 => ?_) ?_
          · refine Rn.partD (t := 49) rfl (fun h20 => ?_) (fun h20 => ?_)
            · refine Rn.no rfl rfl rfl rfl (Rn.no rfl rfl rfl rfl (Rn.v rfl rfl rfl rfl (V.pkT rfl rfl) ?_))
              refine hk19 _ ?_
              exact Sub.cons rfl (Sub.cons rfl (Sub.cons rfl (Sub.cons (lkv _ rfl (by first | exact andT h20 | exact andF h20 | exact orT h20 | exact orF h20 | exact nandF h20 | exact nandT h20 | exact norT h20 | exact norF h20 | (simp [h20]; done) | grind)) (Sub.nil _))))
            · refine Rn.v rfl rfl rfl rfl (V.mv rfl) (Rn.v rfl rfl rfl rfl (V.notD rfl) (Rn.v rfl rfl rfl rfl (V.pkF rfl rfl) ?_))
              refine hk19 _ ?_
              exact Sub.cons rfl (Sub.cons rfl (Sub.cons rfl (Sub.cons (lkv _ rfl (by first | exact andT h20 | exact andF h20 | exact orT h20 | exact orF h20 | exact nandF h20 | exact nandT h20 | exact norT h20 | exact norF h20 | (simp [h20]; done) | grind)) (Sub.nil _))))
          refine Rn.v rfl rfl rfl rfl (V.pkT rfl rfl) ?_
          refine hk17 _ ?_
          exact Sub.cons rfl (Sub.cons rfl (Sub.cons (lkv _ rfl (by first | exact andT h18 | exact andF h18 | exact orT h18 | exact orF h18 | exact nandF h18 | exact nandT h18 | exact norT h18 | exact norF h18 | (simp [h18]; done) | grind)) (Sub.nil _)))
        · refine Rn.no rfl rfl rfl rfl (Rn.no rfl rfl rfl rfl (Rn.no rfl rfl rfl rfl (Rn.no rfl rfl rfl rfl (Rn.no rfl rfl rfl rfl (Rn.no rfl rfl rfl rfl (Rn.v rfl rfl rfl rfl (V.pkF rfl rfl) ?_))))))
          refine hk17 _ ?_
          exact Sub.cons rfl (Sub.cons rfl (Sub.cons (lkv _ rfl (by first | exact andT h18 | exact andF h18 | exact orT h18 | exact orF h18 | exact nandF h18 | exact nandT h18 | exact norT h18 | exact norF h18 | (simp [h18]; done) | grind)) (Sub.nil _)))
      refine Rn.regEnd ?_
      refine Rn.condD rfl (fun h21 => ?_) (fun h21 => ?_)
      · replace hM := iteT h21 hM
        refine Rn.seq (Rn.reg (Rn.v rfl rfl rfl rfl (V.as rfl) (Rn.regEnd ?_)))
        refine Rn.retG1 Try.func33 rfl (rvT rfl) ?_
        obtain rfl := someE hM
        exact ⟨rfl, hm6.pick [] rfl (by decide)⟩
      · replace hM := iteF h21 hM
        refine Rn.skip (Rn.inBlock (Rn.reg (Rn.v rfl rfl rfl rfl (V.mv rfl) (Rn.v rfl rfl rfl rfl (V.addW rfl rfl) (Rn.v rfl rfl rfl rfl (V.as rfl) (Rn.regEnd ?_))))))
        exact hn6 (W64 (y5 + 1)) _ _ (Sub.cons rfl (Sub.cons rfl (Sub.nil _))) (hm6.pick [] rfl (by decide)) hM
    · replace hM := iteF h7 hM
      refine Rn.exit rfl ?_
      exact hk1 () _ _ (Sub.nil _) (hm6.pick [] rfl (by decide)) hM

end Go.Proofs.Ytjadbkfodoodaaa
