/-
  The calls of functions of the program answer as their plain forms say, part 1. Printed by a program.
-/
import Derived.Test.YtfcpdojcfogkbaaGreatRows
import Derived.Test.YtfcpdojcfogkbaaGreatMA
set_option maxRecDepth 20000
set_option maxHeartbeats 4000000
set_option linter.unusedVariables false
set_option linter.unusedSimpArgs false
namespace Go.Proofs.YtfcpdojcfogkbaaGreat
open Go Go.RowKit Go.Wk
theorem ck5 : CallOk Tryz.prog 5 := ⟨_, _, Tryz.func5, rfl, by kernel_rfl⟩
theorem ck6 : CallOk Tryz.prog 6 := ⟨_, _, Tryz.func6, rfl, by kernel_rfl⟩
theorem ck7 : CallOk Tryz.prog 7 := ⟨_, _, Tryz.func7, rfl, by kernel_rfl⟩
theorem ck8 : CallOk Tryz.prog 8 := ⟨_, _, Tryz.func8, rfl, by kernel_rfl⟩
theorem ck9 : CallOk Tryz.prog 9 := ⟨_, _, Tryz.func9, rfl, by kernel_rfl⟩
theorem ck10 : CallOk Tryz.prog 10 := ⟨_, _, Tryz.func10, rfl, by kernel_rfl⟩
theorem ck11 : CallOk Tryz.prog 11 := ⟨_, _, Tryz.func11, rfl, by kernel_rfl⟩
theorem ck12 : CallOk Tryz.prog 12 := ⟨_, _, Tryz.func12, rfl, by kernel_rfl⟩
theorem ck13 : CallOk Tryz.prog 13 := ⟨_, _, Tryz.func13, rfl, by kernel_rfl⟩
theorem ck14 : CallOk Tryz.prog 14 := ⟨_, _, Tryz.func14, rfl, by kernel_rfl⟩
theorem ck15 : CallOk Tryz.prog 15 := ⟨_, _, Tryz.func15, rfl, by kernel_rfl⟩
theorem ck16 : CallOk Tryz.prog 16 := ⟨_, _, Tryz.func16, rfl, by kernel_rfl⟩
theorem ck17 : CallOk Tryz.prog 17 := ⟨_, _, Tryz.func17, rfl, by kernel_rfl⟩
theorem ck18 : CallOk Tryz.prog 18 := ⟨_, _, Tryz.func18, rfl, by kernel_rfl⟩
theorem ck19 : CallOk Tryz.prog 19 := ⟨_, _, Tryz.func19, rfl, by kernel_rfl⟩
theorem ck20 : CallOk Tryz.prog 20 := ⟨_, _, Tryz.func20, rfl, by kernel_rfl⟩
theorem ck21 : CallOk Tryz.prog 21 := ⟨_, _, Tryz.func21, rfl, by kernel_rfl⟩
theorem ck22 : CallOk Tryz.prog 22 := ⟨_, _, Tryz.func22, rfl, by kernel_rfl⟩
theorem ck23 : CallOk Tryz.prog 23 := ⟨_, _, Tryz.func23, rfl, by kernel_rfl⟩
theorem ck24 : CallOk Tryz.prog 24 := ⟨_, _, Tryz.func24, rfl, by kernel_rfl⟩
theorem ck25 : CallOk Tryz.prog 25 := ⟨_, _, Tryz.func25, rfl, by kernel_rfl⟩
theorem ck26 : CallOk Tryz.prog 26 := ⟨_, _, Tryz.func26, rfl, by kernel_rfl⟩
theorem ck27 : CallOk Tryz.prog 27 := ⟨_, _, Tryz.func27, rfl, by kernel_rfl⟩
theorem ck28 : CallOk Tryz.prog 28 := ⟨_, _, Tryz.func28, rfl, by kernel_rfl⟩
theorem ck29 : CallOk Tryz.prog 29 := ⟨_, _, Tryz.func29, rfl, by kernel_rfl⟩
theorem ck30 : CallOk Tryz.prog 30 := ⟨_, _, Tryz.func30, rfl, by kernel_rfl⟩
theorem ck31 : CallOk Tryz.prog 31 := ⟨_, _, Tryz.func31, rfl, by kernel_rfl⟩
theorem ck32 : CallOk Tryz.prog 32 := ⟨_, _, Tryz.func32, rfl, by kernel_rfl⟩
theorem ck33 : CallOk Tryz.prog 33 := ⟨_, _, Tryz.func33, rfl, by kernel_rfl⟩
theorem ck34 : CallOk Tryz.prog 34 := ⟨_, _, Tryz.func34, rfl, by kernel_rfl⟩
theorem ck35 : CallOk Tryz.prog 35 := ⟨_, _, Tryz.func35, rfl, by kernel_rfl⟩
theorem ck36 : CallOk Tryz.prog 36 := ⟨_, _, Tryz.func36, rfl, by kernel_rfl⟩
theorem ck37 : CallOk Tryz.prog 37 := ⟨_, _, Tryz.func37, rfl, by kernel_rfl⟩
theorem ck38 : CallOk Tryz.prog 38 := ⟨_, _, Tryz.func38, rfl, by kernel_rfl⟩
theorem ck39 : CallOk Tryz.prog 39 := ⟨_, _, Tryz.func39, rfl, by kernel_rfl⟩
theorem ck40 : CallOk Tryz.prog 40 := ⟨_, _, Tryz.func40, rfl, by kernel_rfl⟩
theorem ck41 : CallOk Tryz.prog 41 := ⟨_, _, Tryz.func41, rfl, by kernel_rfl⟩
theorem ck42 : CallOk Tryz.prog 42 := ⟨_, _, Tryz.func42, rfl, by kernel_rfl⟩
theorem ck43 : CallOk Tryz.prog 43 := ⟨_, _, Tryz.func43, rfl, by kernel_rfl⟩
theorem ck44 : CallOk Tryz.prog 44 := ⟨_, _, Tryz.func44, rfl, by kernel_rfl⟩
theorem ck45 : CallOk Tryz.prog 45 := ⟨_, _, Tryz.func45, rfl, by kernel_rfl⟩
theorem ck46 : CallOk Tryz.prog 46 := ⟨_, _, Tryz.func46, rfl, by kernel_rfl⟩
theorem ck47 : CallOk Tryz.prog 47 := ⟨_, _, Tryz.func47, rfl, by kernel_rfl⟩
theorem ck48 : CallOk Tryz.prog 48 := ⟨_, _, Tryz.func48, rfl, by kernel_rfl⟩
theorem ck49 : CallOk Tryz.prog 49 := ⟨_, _, Tryz.func49, rfl, by kernel_rfl⟩
theorem ck50 : CallOk Tryz.prog 50 := ⟨_, _, Tryz.func50, rfl, by kernel_rfl⟩
theorem ck51 : CallOk Tryz.prog 51 := ⟨_, _, Tryz.func51, rfl, by kernel_rfl⟩
theorem ck52 : CallOk Tryz.prog 52 := ⟨_, _, Tryz.func52, rfl, by kernel_rfl⟩
theorem ck53 : CallOk Tryz.prog 53 := ⟨_, _, Tryz.func53, rfl, by kernel_rfl⟩
theorem ck54 : CallOk Tryz.prog 54 := ⟨_, _, Tryz.func54, rfl, by kernel_rfl⟩
theorem ck55 : CallOk Tryz.prog 55 := ⟨_, _, Tryz.func55, rfl, by kernel_rfl⟩
theorem ck56 : CallOk Tryz.prog 56 := ⟨_, _, Tryz.func56, rfl, by kernel_rfl⟩
theorem ck57 : CallOk Tryz.prog 57 := ⟨_, _, Tryz.func57, rfl, by kernel_rfl⟩
theorem ck58 : CallOk Tryz.prog 58 := ⟨_, _, Tryz.func58, rfl, by kernel_rfl⟩
theorem ck59 : CallOk Tryz.prog 59 := ⟨_, _, Tryz.func59, rfl, by kernel_rfl⟩
theorem ck60 : CallOk Tryz.prog 60 := ⟨_, _, Tryz.func60, rfl, by kernel_rfl⟩
theorem ck61 : CallOk Tryz.prog 61 := ⟨_, _, Tryz.func61, rfl, by kernel_rfl⟩
theorem ck62 : CallOk Tryz.prog 62 := ⟨_, _, Tryz.func62, rfl, by kernel_rfl⟩
theorem ck63 : CallOk Tryz.prog 63 := ⟨_, _, Tryz.func63, rfl, by kernel_rfl⟩
theorem ck64 : CallOk Tryz.prog 64 := ⟨_, _, Tryz.func64, rfl, by kernel_rfl⟩
theorem ck65 : CallOk Tryz.prog 65 := ⟨_, _, Tryz.func65, rfl, by kernel_rfl⟩
theorem ck66 : CallOk Tryz.prog 66 := ⟨_, _, Tryz.func66, rfl, by kernel_rfl⟩
theorem ck67 : CallOk Tryz.prog 67 := ⟨_, _, Tryz.func67, rfl, by kernel_rfl⟩
theorem ck68 : CallOk Tryz.prog 68 := ⟨_, _, Tryz.func68, rfl, by kernel_rfl⟩
theorem ck69 : CallOk Tryz.prog 69 := ⟨_, _, Tryz.func69, rfl, by kernel_rfl⟩
theorem ck70 : CallOk Tryz.prog 70 := ⟨_, _, Tryz.func70, rfl, by kernel_rfl⟩
theorem ck71 : CallOk Tryz.prog 71 := ⟨_, _, Tryz.func71, rfl, by kernel_rfl⟩
theorem ck72 : CallOk Tryz.prog 72 := ⟨_, _, Tryz.func72, rfl, by kernel_rfl⟩
theorem ck73 : CallOk Tryz.prog 73 := ⟨_, _, Tryz.func73, rfl, by kernel_rfl⟩
theorem ck74 : CallOk Tryz.prog 74 := ⟨_, _, Tryz.func74, rfl, by kernel_rfl⟩
theorem ck75 : CallOk Tryz.prog 75 := ⟨_, _, Tryz.func75, rfl, by kernel_rfl⟩
theorem ck76 : CallOk Tryz.prog 76 := ⟨_, _, Tryz.func76, rfl, by kernel_rfl⟩
theorem ck77 : CallOk Tryz.prog 77 := ⟨_, _, Tryz.func77, rfl, by kernel_rfl⟩
theorem ck78 : CallOk Tryz.prog 78 := ⟨_, _, Tryz.func78, rfl, by kernel_rfl⟩
theorem ck79 : CallOk Tryz.prog 79 := ⟨_, _, Tryz.func79, rfl, by kernel_rfl⟩
theorem ck80 : CallOk Tryz.prog 80 := ⟨_, _, Tryz.func80, rfl, by kernel_rfl⟩
theorem ck81 : CallOk Tryz.prog 81 := ⟨_, _, Tryz.func81, rfl, by kernel_rfl⟩
theorem ck82 : CallOk Tryz.prog 82 := ⟨_, _, Tryz.func82, rfl, by kernel_rfl⟩
theorem ck85 : CallOk Tryz.prog 85 := ⟨_, _, Tryz.func85, rfl, by kernel_rfl⟩
theorem ck86 : CallOk Tryz.prog 86 := ⟨_, _, Tryz.func86, rfl, by kernel_rfl⟩
theorem ck87 : CallOk Tryz.prog 87 := ⟨_, _, Tryz.func87, rfl, by kernel_rfl⟩
theorem ck88 : CallOk Tryz.prog 88 := ⟨_, _, Tryz.func88, rfl, by kernel_rfl⟩
theorem ck89 : CallOk Tryz.prog 89 := ⟨_, _, Tryz.func89, rfl, by kernel_rfl⟩
theorem ck90 : CallOk Tryz.prog 90 := ⟨_, _, Tryz.func90, rfl, by kernel_rfl⟩
theorem ck91 : CallOk Tryz.prog 91 := ⟨_, _, Tryz.func91, rfl, by kernel_rfl⟩
theorem ck93 : CallOk Tryz.prog 93 := ⟨_, _, Tryz.func93, rfl, by kernel_rfl⟩
theorem ck94 : CallOk Tryz.prog 94 := ⟨_, _, Tryz.func94, rfl, by kernel_rfl⟩
theorem ck95 : CallOk Tryz.prog 95 := ⟨_, _, Tryz.func95, rfl, by kernel_rfl⟩
theorem ck96 : CallOk Tryz.prog 96 := ⟨_, _, Tryz.func96, rfl, by kernel_rfl⟩
theorem ck97 : CallOk Tryz.prog 97 := ⟨_, _, Tryz.func97, rfl, by kernel_rfl⟩
theorem ck101 : CallOk Tryz.prog 101 := ⟨_, _, Tryz.func101, rfl, by kernel_rfl⟩
theorem ck104 : CallOk Tryz.prog 104 := ⟨_, _, Tryz.func104, rfl, by kernel_rfl⟩
theorem st30 : StOk Tryz.prog 30 [Str [], .slice none 0 0, .int .i64 0, .int .i64 0, .bool false, .int .i64 0, .int .i64 0, .int .i64 0, .int .u64 0, .int .u64 0, .int .i64 0, .int .u64 0, .int .i64 0, .slice none 0 0, .int .i64 0, .slice none 0 0, .int .i64 0] [(0, 1), (1, 1), (2, 1), (3, 1), (4, 1), (5, 1), (6, 1), (7, 1), (8, 1), (9, 1), (10, 6), (16, 1)] := ⟨Tryz.zeroValue30, _, Tryz.underlying30, fun w => by kernel_rfl⟩
theorem st42 : StOk Tryz.prog 42 [Str [], Str []] [(0, 1), (1, 1)] := ⟨Tryz.zeroValue42, _, Tryz.underlying42, fun w => by kernel_rfl⟩
theorem st68 : StOk Tryz.prog 68 [.pointer none, .int .i64 0] [(0, 1), (1, 1)] := ⟨Tryz.zeroValue68, _, Tryz.underlying68, fun w => by kernel_rfl⟩
theorem st79 : StOk Tryz.prog 79 [.int .i64 0, .int .i64 0, .int .i64 0, .int .i64 0, .int .i64 0, .int .i64 0, .bool false, .int .u64 0, .int .u64 0] [(0, 1), (1, 1), (2, 1), (3, 1), (4, 1), (5, 1), (6, 1), (7, 1), (8, 1)] := ⟨Tryz.zeroValue79, _, Tryz.underlying79, fun w => by kernel_rfl⟩
theorem st82 : StOk Tryz.prog 82 [.slice none 0 0] [(0, 1)] := ⟨Tryz.zeroValue82, _, Tryz.underlying82, fun w => by kernel_rfl⟩
theorem st106 : StOk Tryz.prog 106 [.slice none 0 0, .int .i64 0, .int .i64 0] [(0, 1), (1, 1), (2, 1)] := ⟨Tryz.zeroValue106, _, Tryz.underlying106, fun w => by kernel_rfl⟩
theorem ar100 : ArOk Tryz.prog 100 [.int .i64 0, .slice none 0 0, .int .i64 0, .slice none 0 0] 2 2 26 := ⟨Tryz.zeroValue100, Tryz.underlying100, Tryz.sizeOf26⟩
theorem fo26 : FoOk Tryz.prog 26 [0, 1] := ⟨_, Tryz.underlying26, ⟨_, Tryz.sizeOf3, rfl⟩, rfl, ⟨_, Tryz.sizeOf24, rfl⟩, rfl, trivial⟩
theorem fo28 : FoOk Tryz.prog 28 [0, 1, 2, 4] := ⟨_, Tryz.underlying28, ⟨_, Tryz.sizeOf3, rfl⟩, rfl, ⟨_, Tryz.sizeOf23, rfl⟩, rfl, ⟨_, Tryz.sizeOf26, rfl⟩, rfl, ⟨_, Tryz.sizeOf26, rfl⟩, rfl, trivial⟩
theorem fo30 : FoOk Tryz.prog 30 [0, 1, 2, 3, 4, 5, 6, 7, 8, 9, 10, 16] := ⟨_, Tryz.underlying30, ⟨_, Tryz.sizeOf9, rfl⟩, rfl, ⟨_, Tryz.sizeOf22, rfl⟩, rfl, ⟨_, Tryz.sizeOf3, rfl⟩, rfl, ⟨_, Tryz.sizeOf3, rfl⟩, rfl, ⟨_, Tryz.sizeOf4, rfl⟩, rfl, ⟨_, Tryz.sizeOf3, rfl⟩, rfl, ⟨_, Tryz.sizeOf3, rfl⟩, rfl, ⟨_, Tryz.sizeOf3, rfl⟩, rfl, ⟨_, Tryz.sizeOf23, rfl⟩, rfl, ⟨_, Tryz.sizeOf23, rfl⟩, rfl, ⟨_, Tryz.sizeOf28, rfl⟩, rfl, ⟨_, Tryz.sizeOf3, rfl⟩, rfl, trivial⟩
theorem fo42 : FoOk Tryz.prog 42 [0, 1] := ⟨_, Tryz.underlying42, ⟨_, Tryz.sizeOf9, rfl⟩, rfl, ⟨_, Tryz.sizeOf9, rfl⟩, rfl, trivial⟩
theorem fo68 : FoOk Tryz.prog 68 [0, 1] := ⟨_, Tryz.underlying68, ⟨_, Tryz.sizeOf65, rfl⟩, rfl, ⟨_, Tryz.sizeOf34, rfl⟩, rfl, trivial⟩
theorem fo82 : FoOk Tryz.prog 82 [0] := ⟨_, Tryz.underlying82, ⟨_, Tryz.sizeOf33, rfl⟩, rfl, trivial⟩
theorem fo106 : FoOk Tryz.prog 106 [0, 1, 2] := ⟨_, Tryz.underlying106, ⟨_, Tryz.sizeOf33, rfl⟩, rfl, ⟨_, Tryz.sizeOf3, rfl⟩, rfl, ⟨_, Tryz.sizeOf34, rfl⟩, rfl, trivial⟩
def tab : List (Nat × List Nat) := [(26, [0, 1]), (28, [0, 1, 2, 4]), (30, [0, 1, 2, 3, 4, 5, 6, 7, 8, 9, 10, 16]), (42, [0, 1]), (68, [0, 1]), (82, [0]), (106, [0, 1, 2])]
theorem tabOk : TabOk Tryz.prog tab := (.cons fo26 (.cons fo28 (.cons fo30 (.cons fo42 (.cons fo68 (.cons fo82 (.cons fo106 TabOk.nil)))))))
theorem gg {f : FuncId} {n : Nat} {R : Ending → World → Prop} {k k' : List Item} {e e' : Env} {w : World} (m : Nat) (h : sr tab n m k e = some (k', e')) (hr : Rn Tryz.prog f n R k' e' w) : Rn Tryz.prog f n R k e w := sr_ok tabOk m k e h hr
theorem dd {n : Nat} {K : Act → World → Prop} {S : World → Prop} {w : World} {ops : Array Oper} {fuel : Nat} {listed : Array Bool} {e e' : Env} (is : List Nat) (hk : okTakes ops listed is = true) (hf : Nat.ble is.length fuel = true) (h : dr tab n ops is e = some e') (hr : RG Tryz.prog n K ops S (fuel - is.length) (taken listed is) e' w) : RG Tryz.prog n K ops S fuel listed e w := dr_ok tabOk is hk hf h hr
theorem el3 : ElOk Tryz.prog 3 1 8 := elOk_of (by kernel_rfl) (by decide)
theorem el5 : ElOk Tryz.prog 5 1 1 := elOk_of (by kernel_rfl) (by decide)
theorem el23 : ElOk Tryz.prog 23 1 8 := elOk_of (by kernel_rfl) (by decide)
theorem el42 : ElOk Tryz.prog 42 2 32 := elOk_of (by kernel_rfl) (by decide)
set_option maxRecDepth 20000 in
theorem clone_41 {Z0 : Nat → Prop} (w : World) (A : Option Addr) (c : Nat) (l : List T_api_Pair) {r : List T_api_Pair} (h : (slR A c T_api_Pair.rep l).H Z0 w) (hM : appL [] l = some r) :
    Calls Tryz.prog 41 #[.slice A l.length c] w fun x w' => ∃ A' c', x = .returned (.slice A' r.length c') ∧ Hp Z0 No w w' [ownR 42 A' c' T_api_Pair.rep r] := by
  have hm0 := Hp.nil Z0 No w
  have hm1 := hm0.know (slR A c T_api_Pair.rep l) (fun _ h => h) (hm0.in0 Calm.nil h)
  refine Rn.enter Tryz.func41 rfl rfl (Nat.le_of_ble_eq_true rfl) ?_
  refine Rn.seq (Rn.reg (Rn.v rfl rfl rfl rfl (V.as rfl) (Rn.regEnd (Rn.seq (Rn.seq (Rn.reg (Rn.v rfl rfl rfl rfl (V.mv rfl) (Rn.v rfl rfl rfl rfl (V.eqlV Tryz.underlying22 rfl rfl) (Rn.regEnd ?_)))))))))
  cases A with
  | none =>
    obtain rfl := clone_get h
    obtain ⟨_, rfl⟩ := appE hM
    refine Rn.condT rfl (Rn.seq (Rn.reg (Rn.v rfl rfl rfl rfl (V.as rfl) (Rn.regEnd ?_))))
    refine Rn.retG1 Tryz.func41 rfl (rvT rfl) ?_
    exact ⟨none, 0, rfl, (hm0.addNil 42 T_api_Pair.rep)⟩
  | some a =>
    refine Rn.condF rfl (Rn.skip (Rn.seq (Rn.reg ?_)))
    refine Rn.bslS (ps := []) (us := []) rfl rfl rfl Tryz.underlying22 el42 rfl rfl rfl rfl (by simp) (by decide) ?_
    intro b2 w2 hb2 m2 e2
    have hm2 := hm1.addLit (rep := T_api_Pair.rep) (xs := ([] : List T_api_Pair)) (vss := []) hb2 e2 m2 rfl rfl rfl rels0
    refine Rn.v rfl rfl rfl rfl (V.mv rfl) (Rn.appH hm2 1 rfl hM rfl rfl rfl Tryz.underlying22 el42 rfl rfl rfl rfl (hm2.src 0 rfl) ?_)
    intro A3 c3 w3 hm3
    refine Rn.v rfl rfl rfl rfl (V.as rfl) (Rn.regEnd ?_)
    refine Rn.retG1 Tryz.func41 rfl (rvT rfl) ?_
    exact ⟨A3, c3, rfl, hm3.pick [1] rfl (by decide)⟩

set_option maxRecDepth 20000 in
theorem clone_52 {Z0 : Nat → Prop} (w : World) (A : Option Addr) (c : Nat) (l : List UInt8) {r : List UInt8} (h : (slR A c byteR l).H Z0 w) (hM : appL [] l = some r) :
    Calls Tryz.prog 52 #[.slice A l.length c] w fun x w' => ∃ A' c', x = .returned (.slice A' r.length c') ∧ Hp Z0 No w w' [ownR 5 A' c' byteR r] := by
  have hm0 := Hp.nil Z0 No w
  have hm1 := hm0.know (slR A c byteR l) (fun _ h => h) (hm0.in0 Calm.nil h)
  refine Rn.enter Tryz.func52 rfl rfl (Nat.le_of_ble_eq_true rfl) ?_
  refine Rn.seq (Rn.reg (Rn.v rfl rfl rfl rfl (V.as rfl) (Rn.regEnd (Rn.seq (Rn.seq (Rn.reg (Rn.v rfl rfl rfl rfl (V.mv rfl) (Rn.v rfl rfl rfl rfl (V.eqlV Tryz.underlying33 rfl rfl) (Rn.regEnd ?_)))))))))
  cases A with
  | none =>
    obtain rfl := clone_get h
    obtain ⟨_, rfl⟩ := appE hM
    refine Rn.condT rfl (Rn.seq (Rn.reg (Rn.v rfl rfl rfl rfl (V.as rfl) (Rn.regEnd ?_))))
    refine Rn.retG1 Tryz.func52 rfl (rvT rfl) ?_
    exact ⟨none, 0, rfl, (hm0.addNil 5 byteR)⟩
  | some a =>
    refine Rn.condF rfl (Rn.skip (Rn.seq (Rn.reg ?_)))
    refine Rn.bslS (ps := []) (us := []) rfl rfl rfl Tryz.underlying33 el5 rfl rfl rfl rfl (by simp) (by decide) ?_
    intro b2 w2 hb2 m2 e2
    have hm2 := hm1.addLit (rep := byteR) (xs := ([] : List UInt8)) (vss := []) hb2 e2 m2 rfl rfl rfl rels0
    refine Rn.v rfl rfl rfl rfl (V.mv rfl) (Rn.appH hm2 1 rfl hM rfl rfl rfl Tryz.underlying33 el5 rfl rfl rfl rfl (hm2.src 0 rfl) ?_)
    intro A3 c3 w3 hm3
    refine Rn.v rfl rfl rfl rfl (V.as rfl) (Rn.regEnd ?_)
    refine Rn.retG1 Tryz.func52 rfl (rvT rfl) ?_
    exact ⟨A3, c3, rfl, hm3.pick [1] rfl (by decide)⟩

set_option maxRecDepth 20000 in
theorem clone_73 {Z0 : Nat → Prop} (w : World) (A : Option Addr) (c : Nat) (l : List UInt64) {r : List UInt64} (h : (slR A c w64R l).H Z0 w) (hM : appL [] l = some r) :
    Calls Tryz.prog 73 #[.slice A l.length c] w fun x w' => ∃ A' c', x = .returned (.slice A' r.length c') ∧ Hp Z0 No w w' [ownR 23 A' c' w64R r] := by
  have hm0 := Hp.nil Z0 No w
  have hm1 := hm0.know (slR A c w64R l) (fun _ h => h) (hm0.in0 Calm.nil h)
  refine Rn.enter Tryz.func73 rfl rfl (Nat.le_of_ble_eq_true rfl) ?_
  refine Rn.seq (Rn.reg (Rn.v rfl rfl rfl rfl (V.as rfl) (Rn.regEnd (Rn.seq (Rn.seq (Rn.reg (Rn.v rfl rfl rfl rfl (V.mv rfl) (Rn.v rfl rfl rfl rfl (V.eqlV Tryz.underlying24 rfl rfl) (Rn.regEnd ?_)))))))))
  cases A with
  | none =>
    obtain rfl := clone_get h
    obtain ⟨_, rfl⟩ := appE hM
    refine Rn.condT rfl (Rn.seq (Rn.reg (Rn.v rfl rfl rfl rfl (V.as rfl) (Rn.regEnd ?_))))
    refine Rn.retG1 Tryz.func73 rfl (rvT rfl) ?_
    exact ⟨none, 0, rfl, (hm0.addNil 23 w64R)⟩
  | some a =>
    refine Rn.condF rfl (Rn.skip (Rn.seq (Rn.reg ?_)))
    refine Rn.bslS (ps := []) (us := []) rfl rfl rfl Tryz.underlying24 el23 rfl rfl rfl rfl (by simp) (by decide) ?_
    intro b2 w2 hb2 m2 e2
    have hm2 := hm1.addLit (rep := w64R) (xs := ([] : List UInt64)) (vss := []) hb2 e2 m2 rfl rfl rfl rels0
    refine Rn.v rfl rfl rfl rfl (V.mv rfl) (Rn.appH hm2 1 rfl hM rfl rfl rfl Tryz.underlying24 el23 rfl rfl rfl rfl (hm2.src 0 rfl) ?_)
    intro A3 c3 w3 hm3
    refine Rn.v rfl rfl rfl rfl (V.as rfl) (Rn.regEnd ?_)
    refine Rn.retG1 Tryz.func73 rfl (rvT rfl) ?_
    exact ⟨A3, c3, rfl, hm3.pick [1] rfl (by decide)⟩

set_option maxRecDepth 20000 in
theorem bld_copy (b : Nat) (p : Option Addr) (v : Value) (w : World) (hp : p = none ∨ p = some ⟨b, 0, none⟩) (hB : Blk w b 85 [.pointer p, v]) :
    Calls Tryz.prog 79 #[.pointer (some ⟨b, 0, none⟩)] w fun x w' => x = .returned (.tuple #[]) ∧ Blk w' b 85 [.pointer (some ⟨b, 0, none⟩), v] ∧ Fr (fun x => x = b) w w' := by
  have hsz : (Tryz.prog.info? 85).map (·.size) = some 2 := by kernel_rfl
  obtain ⟨j, hj, hjs0⟩ := Option.map_eq_some_iff.1 hsz
  have hjs : j.size ≠ 0 := by rw [hjs0]; decide
  refine Rn.enter Tryz.func79 rfl rfl (Nat.le_of_ble_eq_true rfl) ?_
  refine Rn.seq (Rn.reg (Rn.v rfl rfl rfl rfl (V.mv rfl) (Rn.v rfl rfl rfl rfl (V.nil rfl) (Rn.v rfl rfl rfl rfl (V.fa Tryz.underlying85 rfl Tryz.sizeOf83 rfl rfl) (Rn.v rfl rfl rfl rfl (V.ldB Tryz.isAgg83 rfl hB rfl) (Rn.v rfl rfl rfl rfl (V.eqlP Tryz.underlying83 rfl rfl) (Rn.regEnd ?_)))))))
  rcases hp with rfl | rfl
  refine Rn.condT rfl (Rn.reg (Rn.v rfl rfl rfl rfl (V.mv rfl) (Rn.v rfl rfl rfl rfl (V.mv rfl) (Rn.v rfl rfl rfl rfl (V.toUns Tryz.underlying83 Tryz.underlying130 hj hjs rfl hB (by simp)) (Rn.v rfl rfl rfl rfl (V.noEsc Tryz.func92 (by kernel_rfl) (by kernel_rfl) (by kernel_rfl) (by kernel_rfl) rfl) (Rn.v rfl rfl rfl rfl (V.fromUns Tryz.underlying130 Tryz.underlying83 hj rfl hB (by kernel_rfl)) (Rn.v rfl rfl rfl rfl (V.nil rfl) (Rn.v rfl rfl rfl rfl (V.fa Tryz.underlying85 rfl Tryz.sizeOf83 rfl rfl) (Rn.st rfl rfl Tryz.sizeOf83 rfl rfl rfl rfl (by first | exact ones rfl | (simp [Value.oneCell']; done)) hB (by first | exact Nat.le_of_ble_eq_true rfl | (simp; done)) ?_)))))))))
  intro w1 m1 x1
  have e1 : Fr (fun x => x = b) w w1 := ((Fr.refl _ _)).trans' x1 (fun x hx => by first | exact .inl hx | exact .inr (by subst hx; omega))
  refine Rn.regEnd ?_
  refine Rn.end0 Tryz.func79 rfl ?_
  exact ⟨rfl, m1, x1⟩
  refine Rn.condF rfl (Rn.seq (Rn.reg (Rn.v rfl rfl rfl rfl (V.mv rfl) (Rn.v rfl rfl rfl rfl (V.nil rfl) (Rn.v rfl rfl rfl rfl (V.fa Tryz.underlying85 rfl Tryz.sizeOf83 rfl rfl) (Rn.v rfl rfl rfl rfl (V.ldB Tryz.isAgg83 rfl hB rfl) (Rn.v rfl rfl rfl rfl (V.mv rfl) (Rn.v rfl rfl rfl rfl (V.neqSame Tryz.underlying83 hj rfl rfl) (Rn.regEnd (Rn.condF rfl (Rn.skip ?_)))))))))))
  refine Rn.end0 Tryz.func79 rfl ?_
  exact ⟨rfl, hB, Fr.refl _ _⟩

set_option maxRecDepth 20000 in
theorem bld_ws {Z0 : Nat → Prop} (w : World) (b : Nat) (A : Option Addr) (c : Nat) (l s : List UInt8) {z : List UInt8} (hL : Lent Z0 w [bldR 85 5 b A c l]) (hz : appL l s = some z) :
    Calls Tryz.prog 48 #[.pointer (some ⟨b, 0, none⟩), Str s] w fun x w' => ∃ A' c', x = .returned (.tuple #[.int .i64 s.length, .nilIface]) ∧ Hp Z0 (LS [bldR 85 5 b A c l]) w w' [bldR 85 5 b A' c' z] := by
  obtain ⟨hle, rfl⟩ := appE hz
  have hm0 := hL.start
  obtain ⟨p, hp, hB, hO, hne, hnil⟩ := hm0.get 0 rfl
  refine Rn.enter Tryz.func48 rfl rfl (Nat.le_of_ble_eq_true rfl) ?_
  refine Rn.seq (Rn.reg (Rn.v rfl rfl rfl rfl (V.as rfl) (Rn.v rfl rfl rfl rfl (V.as rfl) (Rn.regEnd (Rn.seq (Rn.reg (Rn.v rfl rfl rfl rfl (V.mv rfl) (Rn.cl ck79 rfl rfl rfl rfl (bld_copy b p _ _ hp hB) ?_))))))))
  rintro _ w1 ⟨rfl, mB1, x1⟩
  have e1 : Fr (fun x => x = b ∨ ob A x) w w1 := ((Fr.refl _ _)).trans' x1 (fun x hx => by first | exact .inl (.inl hx) | exact .inl (.inr hx))
  refine ⟨_, rfl, ?_⟩
  refine Rn.regEnd (Rn.seq (Rn.reg (Rn.v rfl rfl rfl rfl (V.mv rfl) (Rn.v rfl rfl rfl rfl (V.mv rfl) (Rn.v rfl rfl rfl rfl (V.nil rfl) (Rn.v rfl rfl rfl rfl (V.fa Tryz.underlying85 rfl Tryz.sizeOf33 rfl rfl) (Rn.v rfl rfl rfl rfl (V.ldB Tryz.isAgg33 rfl mB1 rfl) (Rn.v rfl rfl rfl rfl (V.mv rfl) ?_))))))))
  have hO2 := hO.fr x1 (fun _ h => h.elim) (fun x hx hh => hne (hh ▸ hx))
  refine Rn.appS rfl rfl rfl Tryz.underlying33 Tryz.underlying9 el5 rfl rfl hO2 hle ?_
  intro A2 c2 w2 o2 x2 q2 n2
  have e2 : Fr (fun x => x = b ∨ ob A x) w w2 := (e1).trans' x2 (fun x hx => by first | exact .inl (.inl hx) | exact .inl (.inr hx))
  refine Rn.v rfl rfl rfl rfl (V.nil rfl) (Rn.v rfl rfl rfl rfl (V.fa Tryz.underlying85 rfl Tryz.sizeOf33 rfl rfl) (Rn.st rfl rfl Tryz.sizeOf33 rfl rfl rfl rfl (by first | exact ones rfl | (simp [Value.oneCell']; done)) (mB1.fr x2 hne) (by first | exact Nat.le_of_ble_eq_true rfl | (simp; done)) ?_))
  intro w3 m3 x3
  have e3 : Fr (fun x => x = b ∨ ob A x) w w3 := (e2).trans' x3 (fun x hx => by first | exact .inl (.inl hx) | exact .inl (.inr hx))
  refine Rn.regEnd (Rn.seq (Rn.reg (Rn.v rfl rfl rfl rfl (V.mv rfl) (Rn.v rfl rfl rfl rfl (V.lenS Tryz.underlying9 rfl) (Rn.v rfl rfl rfl rfl (V.as rfl) (Rn.v rfl rfl rfl rfl (V.as rfl) (Rn.regEnd ?_)))))))
  refine Rn.ret2 Tryz.func48 rfl rfl rfl ?_
  have hsz := x1.size
  have hlt := mB1.lt
  have hnb : ¬ ob A2 b := fun hh => by rcases q2 b hh with h | h; exact hne h; omega
  exact ⟨A2, c2, rfl, hm0.upd 0 (bldR 85 5 b A2 c2 (l ++ s)) rfl (((x1.mono fun y hy => .inl hy).trans (x2.mono fun y hy => .inr hy)).trans (x3.mono fun y hy => .inl hy)) (fun x hx => by rcases hx with hx | hx; exact .inl (.inl hx); rcases q2 x hx with h | h; exact .inl (.inr h); exact .inr (by omega)) (fun _ _ _ => ⟨_, .inr rfl, m3, o2.fr x3 (fun _ h => h.elim) (fun x hx hh => hnb (hh ▸ hx)), hnb, fun h => n2 h (hnil (List.append_eq_nil_iff.1 h).1)⟩)⟩

set_option maxRecDepth 20000 in
theorem bld_str {Z0 : Nat → Prop} (w : World) (b : Nat) (A : Option Addr) (c : Nat) (l : List UInt8) (hL : Lent Z0 w [bldR 85 5 b A c l]) :
    Calls Tryz.prog 49 #[.pointer (some ⟨b, 0, none⟩)] w fun x w' => x = .returned (Str l) ∧ Hp Z0 (LS [bldR 85 5 b A c l]) w w' [] := by
  have hm0 := hL.start.ext (Ext.drew w)
  obtain ⟨p, hp, hB, hO, hne, hnil⟩ := hm0.get 0 rfl
  refine Rn.enter Tryz.func49 rfl rfl (Nat.le_of_ble_eq_true rfl) ?_
  refine Rn.seq (Rn.reg (Rn.v rfl rfl rfl rfl (V.as rfl) (Rn.regEnd (Rn.seq ?_))))
  refine Rn.draw (fun w' => Blk w' b 85 [.pointer p, .slice A l.length c]) rfl hB ?_
  refine RH.take 0 (by kernel_rfl) rfl rfl rfl rfl (fun w' hDr => V.mv rfl) ?_
  refine RH.take 1 (by kernel_rfl) rfl rfl rfl rfl (fun w' hDr => V.nil rfl) ?_
  refine RH.take 2 (by kernel_rfl) rfl rfl rfl rfl (fun w' hDr => V.fa Tryz.underlying85 rfl Tryz.sizeOf33 rfl rfl) ?_
  refine RH.take 3 (by kernel_rfl) rfl rfl rfl rfl (fun w' hDr => V.ldB Tryz.isAgg33 rfl hDr rfl) ?_
  refine RH.take 4 (by kernel_rfl) rfl rfl rfl rfl (fun w' hDr => uData rfl hO hnil w') ?_
  refine RH.take 5 (by kernel_rfl) rfl rfl rfl rfl (fun w' hDr => V.mv rfl) ?_
  refine RH.take 6 (by kernel_rfl) rfl rfl rfl rfl (fun w' hDr => V.nil rfl) ?_
  refine RH.take 7 (by kernel_rfl) rfl rfl rfl rfl (fun w' hDr => V.fa Tryz.underlying85 rfl Tryz.sizeOf33 rfl rfl) ?_
  refine RH.take 8 (by kernel_rfl) rfl rfl rfl rfl (fun w' hDr => V.ldB Tryz.isAgg33 rfl hDr rfl) ?_
  refine RH.take 9 (by kernel_rfl) rfl rfl rfl rfl (fun w' hDr => V.lenV Tryz.underlying33 rfl) ?_
  obtain ⟨w2, hr, hF⟩ := uStr_run (P := Tryz.prog) (ty := 9) (pt := 122) (it := 3) Tryz.underlying122 (by kernel_rfl : Tryz.prog.cellsOf 5 = 1) hO hnil
  refine RH.one 10 (by kernel_rfl) rfl rfl rfl rfl (V.uStr hr rfl rfl) (hB.fr hF hne) ?_
  refine RH.take 11 (by kernel_rfl) rfl rfl rfl rfl (fun w' hDr => V.as rfl) ?_
  refine RH.doneP (by kernel_rfl) ?_
  refine Rn.retG1 Tryz.func49 rfl (rvT rfl) ?_
  exact ⟨rfl, hm0.end1 (hF.mono fun y hy => .inr hy)⟩

theorem eq42 (a b : T_api_Pair) (w : World) : (Op.equalIn 10000 42 (.agg [Str (a.Key), Str (a.Val)].toArray) (.agg [Str (b.Key), Str (b.Val)].toArray)).run Tryz.prog w = .ok (decide (a = b)) w := by
  refine eqF_top (p := a = b) (by kernel_rfl) Tryz.underlying42 Tryz.stoodInHeld42 (eqF_cons rfl Tryz.isAgg9 rfl rfl (eqS w a.Key b.Key Tryz.underlying9) (eqF_cons rfl Tryz.isAgg9 rfl rfl (eqS w a.Val b.Val Tryz.underlying9) eqF_nil)) ?_
  cases a; cases b; simp only [T_api_Pair.mk.injEq, and_true]
theorem eq79 (a b : T_point_what) (w : World) : (Op.equalIn 10000 79 (.agg [.int .i64 (a.kind), .int .i64 (a.temp), .int .i64 (a.start), .int .i64 (a.time), .int .i64 (a.value), .int .i64 (a.flags), .bool (a.mono), .int .u64 (((a.re).toNat : Nat) : Int), .int .u64 (((a.im).toNat : Nat) : Int)].toArray) (.agg [.int .i64 (b.kind), .int .i64 (b.temp), .int .i64 (b.start), .int .i64 (b.time), .int .i64 (b.value), .int .i64 (b.flags), .bool (b.mono), .int .u64 (((b.re).toNat : Nat) : Int), .int .u64 (((b.im).toNat : Nat) : Int)].toArray)).run Tryz.prog w = .ok (decide (a = b)) w := by
  refine eqF_top (p := a = b) (by kernel_rfl) Tryz.underlying79 Tryz.stoodInHeld79 (eqF_cons rfl Tryz.isAgg3 rfl rfl (eqI w a.kind b.kind Tryz.underlying3) (eqF_cons rfl Tryz.isAgg3 rfl rfl (eqI w a.temp b.temp Tryz.underlying3) (eqF_cons rfl Tryz.isAgg3 rfl rfl (eqI w a.start b.start Tryz.underlying3) (eqF_cons rfl Tryz.isAgg3 rfl rfl (eqI w a.time b.time Tryz.underlying3) (eqF_cons rfl Tryz.isAgg3 rfl rfl (eqI w a.value b.value Tryz.underlying3) (eqF_cons rfl Tryz.isAgg3 rfl rfl (eqI w a.flags b.flags Tryz.underlying3) (eqF_cons rfl Tryz.isAgg4 rfl rfl (eqB w a.mono b.mono Tryz.underlying4) (eqF_cons rfl Tryz.isAgg23 rfl rfl (eqU64 w a.re b.re Tryz.underlying23) (eqF_cons rfl Tryz.isAgg23 rfl rfl (eqU64 w a.im b.im Tryz.underlying23) eqF_nil))))))))) ?_
  cases a; cases b; simp only [T_point_what.mk.injEq, and_true]
theorem m_label_small_sim {Z0 : Nat → Prop} {w : World} {x0 : UInt8} {r : Bool} (hM : m_label_small x0 = some r)  :
    Calls Tryz.prog 81 #[.int .u8 (((x0).toNat : Nat) : Int)] w fun x w' => x = .returned (.bool (r)) ∧ Hp Z0 No w w' [] := by
 have hm0 := Hp.nil Z0 No w
 have hc0 := Calm.nil
 refine Rn.enter Tryz.func81 rfl rfl (Nat.le_of_ble_eq_true rfl) ?_
 refine gg 7 rfl (Rn.q rfl (V.geq rfl rfl) (gg 1 rfl ?_))
 refine Rn.cutR [6] [(8, .bool (decide ((((x0).toNat : Int) ≥ 97) ∧ (((x0).toNat : Int) ≤ 122))))] (fun hk1 => ?_) ?_
 ·refine Rn.partD (t := 5) rfl (fun h2 => ?_) (fun h2 => ?_)
  ·refine gg 1 rfl (Rn.q rfl (V.leq rfl rfl) (gg 1 rfl ?_))
   refine hk1 _ ?_
   exact Sub.cons (lkv _ rfl (by first | exact andT h2 | exact andF h2 | exact orT h2 | exact orF h2 | exact nandF h2 | exact nandT h2 | exact norT h2 | exact norF h2 | (simp [h2]; done) | grind)) (Sub.nil _)
  ·refine gg 3 rfl ?_
   refine hk1 _ ?_
   exact Sub.cons (lkv _ rfl (by first | exact andT h2 | exact andF h2 | exact orT h2 | exact orF h2 | exact nandF h2 | exact nandT h2 | exact norT h2 | exact norF h2 | (simp [h2]; done) | grind)) (Sub.nil _)
 refine gg 2 rfl ?_
 refine Rn.retG1 Tryz.func81 rfl (rvT rfl) ?_
 obtain rfl := someE hM
 exact ⟨rfl, hm0.pick [] rfl (by decide)⟩

theorem m_label_isName_sim {Z0 : Nat → Prop} {w : World} {x0 : (List UInt8)} {r : Bool} (hM : m_label_isName x0 = some r)  :
    Calls Tryz.prog 53 #[Str (x0)] w fun x w' => x = .returned (.bool (r)) ∧ Hp Z0 No w w' [] := by
 have hm0 := Hp.nil Z0 No w
 have hc0 := Calm.nil
 refine Rn.enter Tryz.func53 rfl rfl (Nat.le_of_ble_eq_true rfl) ?_
 refine gg 8 rfl (Rn.q rfl (V.eqlS rfl rfl) (gg 1 rfl ?_))
 refine Rn.cutR [7, 8, 9, 10, 11, 12] [(0, Str (x0)), (11, .bool (decide ((x0 = ([] : List UInt8)) ∨ ((x0.length : Int) > 32))))] (fun hk1 => ?_) ?_
 ·refine Rn.partD (t := 7) rfl (fun h2 => ?_) (fun h2 => ?_)
  ·refine gg 4 rfl ?_
   refine hk1 _ ?_
   exact Sub.cons rfl (Sub.cons (lkv _ rfl (by first | exact andT h2 | exact andF h2 | exact orT h2 | exact orF h2 | exact nandF h2 | exact nandT h2 | exact norT h2 | exact norF h2 | (simp [h2]; done) | grind)) (Sub.nil _))
  ·refine gg 1 rfl (Rn.q rfl (V.lenS Tryz.underlying9 rfl) (gg 2 rfl ?_))
   refine hk1 _ ?_
   exact Sub.cons rfl (Sub.cons (lkv _ rfl (by first | exact andT h2 | exact andF h2 | exact orT h2 | exact orF h2 | exact nandF h2 | exact nandT h2 | exact norT h2 | exact norF h2 | (simp [h2]; done) | grind)) (Sub.nil _))
 refine gg 1 rfl ?_
 obtain ⟨j1, hj1, hM⟩ := jnE hM
 refine Rn.joinR (r := r) (G := Bool) [] (fun g => [(0, Str (x0)), (17, .bool (g))]) (fun g w' => Hp Z0 No w w' []) (fun g => j1 g) ?_ ?_
 ·subst hj1
  clear hM
  rintro y3 w4 hm4 hM
  try dsimp only at hM
  refine gg 1 rfl ?_
  refine Rn.condS rfl (fun h5 => ?_) (fun h5 => ?_)
  ·replace hM := iteT h5 hM
   refine gg 4 rfl ?_
   refine Rn.retG1 Tryz.func53 rfl (rvT rfl) ?_
   obtain rfl := someE hM
   exact ⟨rfl, hm4.pick [] rfl (by decide)⟩
  ·replace hM := iteFB hM h5
   refine gg 5 rfl ?_
   obtain ⟨z6, e6, hM⟩ := bindE hM
   refine Rn.s2bH hm4 e6 rfl rfl rfl Tryz.underlying9 Tryz.underlying33 Tryz.underlying5 rfl ?_
   intro A6 c6 w6 hm6
   refine Rn.q rfl (V.lenV Tryz.underlying33 rfl) (gg 2 rfl ?_)
   obtain ⟨j2, hj2, hM⟩ := jnE hM
   refine Rn.joinG (r := r) (G := Unit) (fun g => []) (fun g w' => Hp Z0 No w w' []) (fun g => j2 ()) ?_ ?_
   ·subst hj2
    clear hM
    rintro _ w8 hm8 hM
    try dsimp only at hM
    refine gg 4 rfl ?_
    refine Rn.retG1 Tryz.func53 rfl (rvT rfl) ?_
    obtain rfl := someE hM
    exact ⟨rfl, hm8.pick [] rfl (by decide)⟩
   intro hk2
   clear hj2
   refine gg 1 rfl ?_
   refine Rn.loopF (G := Int) (fun g => [(19, .slice A6 (z6).length c6), (20, .int .i64 ((z6.length : Int))), (21, .int .i64 (g))]) (fun g w' => Hp Z0 No w w' [slR A6 c6 byteR z6]) (fun n g => m_label_isName_L1 z6 j2 n g) fuel 0 (Sub.cons rfl (Sub.cons rfl (Sub.cons rfl (Sub.nil _)))) (hm6.pick [0] rfl (by decide)) hM (fun _ => rfl) ?_
   clear hM
   rintro m10 y9 w10 hm10 hM hn10
   replace hM : m_label_isName_L1 z6 j2 (m10 + 1) y9 = some r := hM
   rw [m_label_isName_L1] at hM
   refine gg 5 rfl ?_
   refine Rn.condD rfl (fun h11 => ?_) (fun h11 => ?_)
   ·replace hM := iteT h11 hM
    refine gg 5 rfl ?_
    obtain ⟨z12, e12, hM⟩ := bindE hM
    refine Rn.ixH hm10 0 rfl e12 rfl rfl rfl Tryz.underlying33 Tryz.sizeOf5 rfl rfl rfl rfl ?_
    rintro b12 o12 vs12 ⟨rfl, _⟩ hm12
    refine Rn.q rfl (V.ldR0 Tryz.isAgg5 rfl (hm12.get 1 rfl).2 rfl) (gg 5 rfl ?_)
    obtain ⟨p14, e14, hM⟩ := bindE hM
    refine Rn.cl ck81 rfl rfl rfl rfl (m_label_small_sim (Z0 := All) e14  :) ?_
    rintro _ w14 ⟨rfl, hq14⟩
    refine ⟨_, rfl, ?_⟩
    have hm15 := hm12.call0 hq14
    refine Rn.q rfl (V.notB rfl) (gg 1 rfl ?_)
    refine Rn.cutR [11, 12, 13, 14, 15, 16, 17, 18] [(4, .int .u8 (((z12).toNat : Nat) : Int)), (19, .slice A6 (z6).length c6), (20, .int .i64 ((z6.length : Int))), (21, .int .i64 (y9)), (35, .bool (decide (((!p14) = true) ∧ ((((z12).toNat : Int) < 48) ∨ (((z12).toNat : Int) > 57)))))] (fun hk16 => ?_) ?_
    ·refine Rn.part (t := 28) rfl (fun h17 => ?_) (fun h17 => ?_)
     ·refine gg 1 rfl (Rn.q rfl (V.lss rfl rfl) (gg 1 rfl ?_))
      refine Rn.cutR [10, 11, 12, 13, 14, 15, 16, 17, 18] [(4, .int .u8 (((z12).toNat : Nat) : Int)), (19, .slice A6 (z6).length c6), (20, .int .i64 ((z6.length : Int))), (21, .int .i64 (y9)), (28, .bool true), (34, .bool (decide ((((z12).toNat : Int) < 48) ∨ (((z12).toNat : Int) > 57))))] (fun hk18 => ?_) ?_
      ·refine Rn.partD (t := 31) rfl (fun h19 => ?_) (fun h19 => ?_)
       ·refine gg 3 rfl ?_
        refine hk18 _ ?_
        exact Sub.cons rfl (Sub.cons rfl (Sub.cons rfl (Sub.cons rfl (Sub.cons rfl (Sub.cons (lkv _ rfl (by first | exact andT h19 | exact andF h19 | exact orT h19 | exact orF h19 | exact nandF h19 | exact nandT h19 | exact norT h19 | exact norF h19 | (simp [h19]; done) | grind)) (Sub.nil _))))))
       ·refine gg 1 rfl (Rn.q rfl (V.gtr rfl rfl) (gg 1 rfl ?_))
        refine hk18 _ ?_
        exact Sub.cons rfl (Sub.cons rfl (Sub.cons rfl (Sub.cons rfl (Sub.cons rfl (Sub.cons (lkv _ rfl (by first | exact andT h19 | exact andF h19 | exact orT h19 | exact orF h19 | exact nandF h19 | exact nandT h19 | exact norT h19 | exact norF h19 | (simp [h19]; done) | grind)) (Sub.nil _))))))
      refine gg 1 rfl ?_
      refine hk16 _ ?_
      exact Sub.cons rfl (Sub.cons rfl (Sub.cons rfl (Sub.cons rfl (Sub.cons (lkv _ rfl (by first | exact andT h17 | exact andF h17 | exact orT h17 | exact orF h17 | exact nandF h17 | exact nandT h17 | exact norT h17 | exact norF h17 | (simp [h17]; done) | grind)) (Sub.nil _)))))
     ·refine gg 7 rfl ?_
      refine hk16 _ ?_
      exact Sub.cons rfl (Sub.cons rfl (Sub.cons rfl (Sub.cons rfl (Sub.cons (lkv _ rfl (by first | exact andT h17 | exact andF h17 | exact orT h17 | exact orF h17 | exact nandF h17 | exact nandT h17 | exact norT h17 | exact norF h17 | (simp [h17]; done) | grind)) (Sub.nil _)))))
    refine gg 1 rfl ?_
    refine Rn.cutR [15, 16, 17, 18] [(4, .int .u8 (((z12).toNat : Nat) : Int)), (19, .slice A6 (z6).length c6), (20, .int .i64 ((z6.length : Int))), (21, .int .i64 (y9)), (39, .bool (decide ((((!p14) = true) ∧ ((((z12).toNat : Int) < 48) ∨ (((z12).toNat : Int) > 57))) ∧ (((z12).toNat : Int) ≠ 95))))] (fun hk20 => ?_) ?_
    ·refine Rn.partD (t := 36) rfl (fun h21 => ?_) (fun h21 => ?_)
     ·refine gg 1 rfl (Rn.q rfl (V.neq rfl rfl) (gg 1 rfl ?_))
      refine hk20 _ ?_
      exact Sub.cons rfl (Sub.cons rfl (Sub.cons rfl (Sub.cons rfl (Sub.cons (lkv _ rfl (by first | exact andT h21 | exact andF h21 | exact orT h21 | exact orF h21 | exact nandF h21 | exact nandT h21 | exact norT h21 | exact norF h21 | (simp [h21]; done) | grind)) (Sub.nil _)))))
     ·refine gg 3 rfl ?_
      refine hk20 _ ?_
      exact Sub.cons rfl (Sub.cons rfl (Sub.cons rfl (Sub.cons rfl (Sub.cons (lkv _ rfl (by first | exact andT h21 | exact andF h21 | exact orT h21 | exact orF h21 | exact nandF h21 | exact nandT h21 | exact norT h21 | exact norF h21 | (simp [h21]; done) | grind)) (Sub.nil _)))))
    refine gg 1 rfl ?_
    refine Rn.cutR [] [(19, .slice A6 (z6).length c6), (20, .int .i64 ((z6.length : Int))), (21, .int .i64 (y9)), (43, .bool (decide (((((!p14) = true) ∧ ((((z12).toNat : Int) < 48) ∨ (((z12).toNat : Int) > 57))) ∧ (((z12).toNat : Int) ≠ 95)) ∧ (((z12).toNat : Int) ≠ 46))))] (fun hk22 => ?_) ?_
    ·refine Rn.partD (t := 40) rfl (fun h23 => ?_) (fun h23 => ?_)
     ·refine gg 1 rfl (Rn.q rfl (V.neq rfl rfl) (gg 1 rfl ?_))
      refine hk22 _ ?_
      exact Sub.cons rfl (Sub.cons rfl (Sub.cons rfl (Sub.cons (lkv _ rfl (by first | exact andT h23 | exact andF h23 | exact orT h23 | exact orF h23 | exact nandF h23 | exact nandT h23 | exact norT h23 | exact norF h23 | (simp [h23]; done) | grind)) (Sub.nil _))))
     ·refine gg 3 rfl ?_
      refine hk22 _ ?_
      exact Sub.cons rfl (Sub.cons rfl (Sub.cons rfl (Sub.cons (lkv _ rfl (by first | exact andT h23 | exact andF h23 | exact orT h23 | exact orF h23 | exact nandF h23 | exact nandT h23 | exact norT h23 | exact norF h23 | (simp [h23]; done) | grind)) (Sub.nil _))))
    refine gg 1 rfl ?_
    refine Rn.condD rfl (fun h24 => ?_) (fun h24 => ?_)
    ·replace hM := iteT h24 hM
     refine gg 4 rfl ?_
     refine Rn.retG1 Tryz.func53 rfl (rvT rfl) ?_
     obtain rfl := someE hM
     exact ⟨rfl, hm15.pick [] rfl (by decide)⟩
    ·replace hM := iteF h24 hM
     refine gg 6 rfl ?_
     exact hn10 (W64 (y9 + 1)) _ _ (Sub.cons rfl (Sub.cons rfl (Sub.cons rfl (Sub.nil _)))) (hm15.pick [0] rfl (by decide)) hM
   ·replace hM := iteF h11 hM
    refine gg 1 rfl ?_
    exact hk2 () _ _ (Sub.nil _) (hm10.pick [] rfl (by decide)) hM
 intro hk1
 clear hj1
 refine Rn.partD (t := 12) rfl (fun h25 => ?_) (fun h25 => ?_)
 ·replace hM := iteT h25 hM
  refine gg 5 rfl ?_
  exact hk1 true _ _ (Sub.cons rfl (Sub.cons rfl (Sub.nil _))) (hm0.pick [] rfl (by decide)) hM
 ·replace hM := iteF h25 hM
  refine gg 1 rfl ?_
  obtain ⟨z26, e26, hM⟩ := bindE hM
  refine Rn.q rfl (V.idxSZ Tryz.underlying9 rfl rfl e26) ?_
  obtain ⟨p27, e27, hM⟩ := bindE hM
  refine Rn.cl ck81 rfl rfl rfl rfl (m_label_small_sim (Z0 := All) e27  :) ?_
  rintro _ w27 ⟨rfl, hq27⟩
  refine ⟨_, rfl, ?_⟩
  have hm28 := hm0.call0 hq27
  refine Rn.q rfl (V.notB rfl) (gg 1 rfl ?_)
  exact hk1 (!p27) _ _ (Sub.cons rfl (Sub.cons rfl (Sub.nil _))) (hm28.pick [] rfl (by decide)) hM

theorem m_label_isValue_sim {Z0 : Nat → Prop} {w : World} {x0 : (List UInt8)} {r : Bool} (hM : m_label_isValue x0 = some r)  :
    Calls Tryz.prog 54 #[Str (x0)] w fun x w' => x = .returned (.bool (r)) ∧ Hp Z0 No w w' [] := by
 have hm0 := Hp.nil Z0 No w
 have hc0 := Calm.nil
 refine Rn.enter Tryz.func54 rfl rfl (Nat.le_of_ble_eq_true rfl) ?_
 refine gg 8 rfl (Rn.q rfl (V.eqlS rfl rfl) (gg 1 rfl ?_))
 refine Rn.cutR [] [(0, Str (x0)), (11, .bool (decide ((x0 = ([] : List UInt8)) ∨ ((x0.length : Int) > 32))))] (fun hk1 => ?_) ?_
 ·refine Rn.partD (t := 7) rfl (fun h2 => ?_) (fun h2 => ?_)
  ·refine gg 4 rfl ?_
   refine hk1 _ ?_
   exact Sub.cons rfl (Sub.cons (lkv _ rfl (by first | exact andT h2 | exact andF h2 | exact orT h2 | exact orF h2 | exact nandF h2 | exact nandT h2 | exact norT h2 | exact norF h2 | (simp [h2]; done) | grind)) (Sub.nil _))
  ·refine gg 1 rfl (Rn.q rfl (V.lenS Tryz.underlying9 rfl) (gg 2 rfl ?_))
   refine hk1 _ ?_
   exact Sub.cons rfl (Sub.cons (lkv _ rfl (by first | exact andT h2 | exact andF h2 | exact orT h2 | exact orF h2 | exact nandF h2 | exact nandT h2 | exact norT h2 | exact norF h2 | (simp [h2]; done) | grind)) (Sub.nil _))
 refine gg 1 rfl ?_
 refine Rn.condD rfl (fun h3 => ?_) (fun h3 => ?_)
 ·replace hM := iteT h3 hM
  refine gg 4 rfl ?_
  refine Rn.retG1 Tryz.func54 rfl (rvT rfl) ?_
  obtain rfl := someE hM
  exact ⟨rfl, hm0.pick [] rfl (by decide)⟩
 ·replace hM := iteF h3 hM
  refine gg 5 rfl ?_
  obtain ⟨z4, e4, hM⟩ := bindE hM
  refine Rn.s2bH hm0 e4 rfl rfl rfl Tryz.underlying9 Tryz.underlying33 Tryz.underlying5 rfl ?_
  intro A4 c4 w4 hm4
  refine Rn.q rfl (V.lenV Tryz.underlying33 rfl) (gg 2 rfl ?_)
  obtain ⟨j1, hj1, hM⟩ := jnE hM
  refine Rn.joinG (r := r) (G := Unit) (fun g => []) (fun g w' => Hp Z0 No w w' []) (fun g => j1 ()) ?_ ?_
  ·subst hj1
   clear hM
   rintro _ w6 hm6 hM
   try dsimp only at hM
   refine gg 4 rfl ?_
   refine Rn.retG1 Tryz.func54 rfl (rvT rfl) ?_
   obtain rfl := someE hM
   exact ⟨rfl, hm6.pick [] rfl (by decide)⟩
  intro hk1
  clear hj1
  refine gg 1 rfl ?_
  refine Rn.loopF (G := Int) (fun g => [(13, .slice A4 (z4).length c4), (14, .int .i64 ((z4.length : Int))), (15, .int .i64 (g))]) (fun g w' => Hp Z0 No w w' [slR A4 c4 byteR z4]) (fun n g => m_label_isValue_L1 z4 j1 n g) fuel 0 (Sub.cons rfl (Sub.cons rfl (Sub.cons rfl (Sub.nil _)))) (hm4.pick [0] rfl (by decide)) hM (fun _ => rfl) ?_
  clear hM
  rintro m8 y7 w8 hm8 hM hn8
  replace hM : m_label_isValue_L1 z4 j1 (m8 + 1) y7 = some r := hM
  rw [m_label_isValue_L1] at hM
  refine gg 5 rfl ?_
  refine Rn.condD rfl (fun h9 => ?_) (fun h9 => ?_)
  ·replace hM := iteT h9 hM
   refine gg 5 rfl ?_
   obtain ⟨z10, e10, hM⟩ := bindE hM
   refine Rn.ixH hm8 0 rfl e10 rfl rfl rfl Tryz.underlying33 Tryz.sizeOf5 rfl rfl rfl rfl ?_
   rintro b10 o10 vs10 ⟨rfl, _⟩ hm10
   refine Rn.q rfl (V.ldR0 Tryz.isAgg5 rfl (hm10.get 1 rfl).2 rfl) (gg 7 rfl (Rn.q rfl (V.lss rfl rfl) (gg 2 rfl ?_)))
   obtain ⟨j2, hj2, hM⟩ := jnE hM
   refine Rn.joinG (r := r) (G := Bool) (fun g => [(13, .slice A4 (z4).length c4), (14, .int .i64 ((z4.length : Int))), (15, .int .i64 (y7)), (19, .bool (g))]) (fun g w' => Hp Z0 No w w' [slR A4 c4 byteR z4]) (fun g => j2 g) ?_ ?_
   ·subst hj2
    clear hM
    rintro y12 w13 hm13 hM
    try dsimp only at hM
    refine Rn.condS rfl (fun h14 => ?_) (fun h14 => ?_)
    ·replace hM := iteT h14 hM
     refine gg 4 rfl ?_
     refine Rn.retG1 Tryz.func54 rfl (rvT rfl) ?_
     obtain rfl := someE hM
     exact ⟨rfl, hm13.pick [] rfl (by decide)⟩
    ·replace hM := iteFB hM h14
     refine gg 7 rfl ?_
     exact hn8 (W64 (y7 + 1)) _ _ (Sub.cons rfl (Sub.cons rfl (Sub.cons rfl (Sub.nil _)))) (hm13.pick [0] rfl (by decide)) hM
   intro hk2
   clear hj2
   refine Rn.condD rfl (fun h15 => ?_) (fun h15 => ?_)
   ·replace hM := iteT h15 hM
    refine gg 1 rfl ?_
    exact hk2 (decide (((z10).toNat : Int) < 33)) _ _ (Sub.cons rfl (Sub.cons rfl (Sub.cons rfl (Sub.cons rfl (Sub.nil _))))) (hm10.pick [0] rfl (by decide)) hM
   ·replace hM := iteF h15 hM
    refine gg 3 rfl (Rn.q rfl (V.gtr rfl rfl) (gg 2 rfl ?_))
    refine Rn.condD rfl (fun h16 => ?_) (fun h16 => ?_)
    ·replace hM := iteT h16 hM
     refine gg 1 rfl ?_
     exact hk2 (decide (((z10).toNat : Int) > 126)) _ _ (Sub.cons rfl (Sub.cons rfl (Sub.cons rfl (Sub.cons rfl (Sub.nil _))))) (hm10.pick [0] rfl (by decide)) hM
    ·replace hM := iteF h16 hM
     refine gg 3 rfl (Rn.q rfl (V.eql rfl rfl) (gg 2 rfl ?_))
     refine Rn.condD rfl (fun h17 => ?_) (fun h17 => ?_)
     ·replace hM := iteT h17 hM
      refine gg 1 rfl ?_
      exact hk2 (decide (((z10).toNat : Int) = 61)) _ _ (Sub.cons rfl (Sub.cons rfl (Sub.cons rfl (Sub.cons rfl (Sub.nil _))))) (hm10.pick [0] rfl (by decide)) hM
     ·replace hM := iteF h17 hM
      refine gg 3 rfl (Rn.q rfl (V.eql rfl rfl) (gg 2 rfl ?_))
      refine Rn.condD rfl (fun h18 => ?_) (fun h18 => ?_)
      ·replace hM := iteT h18 hM
       refine gg 1 rfl ?_
       exact hk2 (decide (((z10).toNat : Int) = 59)) _ _ (Sub.cons rfl (Sub.cons rfl (Sub.cons rfl (Sub.cons rfl (Sub.nil _))))) (hm10.pick [0] rfl (by decide)) hM
      ·replace hM := iteF h18 hM
       refine gg 2 rfl (Rn.q rfl (V.eql rfl rfl) (gg 2 rfl ?_))
       exact hk2 (decide (((z10).toNat : Int) = 44)) _ _ (Sub.cons rfl (Sub.cons rfl (Sub.cons rfl (Sub.cons rfl (Sub.nil _))))) (hm10.pick [0] rfl (by decide)) hM
  ·replace hM := iteF h9 hM
   refine gg 1 rfl ?_
   exact hk1 () _ _ (Sub.nil _) (hm8.pick [] rfl (by decide)) hM

theorem m_label_Check_1_sim {Z0 : Nat → Prop} {w : World} {x0 : T_api_Pair} {b1 o1 : Nat} {x1 : T_api_Pair} {r : Bool} (hM : m_label_Check_1 x0 x1 = some r) (f0 : (rdR b1 o1 [Str (x1.Key), Str (x1.Val)]).H Z0 w) :
    Calls Tryz.prog 56 #[.agg [Str (x0.Key), Str (x0.Val)].toArray, .pointer (some ⟨b1, o1, none⟩)] w fun x w' => x = .returned (.bool (r)) ∧ Hp Z0 No w w' [] := by
 have hm0 := Hp.nil Z0 No w
 have hc0 := Calm.nil
 have hm2 := hm0.know (rdR b1 o1 [Str (x1.Key), Str (x1.Val)]) (fun _ h => h) (hm0.in0 hc0 f0)
 replace hc0 := hc0.snoc (r := rdR b1 o1 [Str (x1.Key), Str (x1.Val)]) (fun _ h => h)
 refine Rn.enter Tryz.func56 rfl rfl (Nat.le_of_ble_eq_true rfl) ?_
 refine gg 2 rfl (Rn.box rfl rfl rfl rfl rfl ?_)
 intro b3 w3 hb3 m3 e3
 have hm5 := (hm2.addBox hb3 e3 m3).nf [_, boxR _ _ [_, _]] rfl
 refine gg 5 rfl (Rn.q rfl (V.ldB Tryz.isAgg9 rfl (hm5.get 1 rfl) rfl) (gg 1 rfl (Rn.q rfl (V.ldR0 Tryz.isAgg9 rfl (hm5.get 0 rfl).2 rfl) (Rn.q rfl (V.eqlS rfl rfl) (gg 2 rfl ?_)))))
 refine Rn.retG1 Tryz.func56 rfl (rvT rfl) ?_
 obtain rfl := someE hM
 exact ⟨rfl, hm5.pick [] rfl (by decide)⟩

theorem m_slices_IndexFunc_api_Pair_api_Pair_s1_sim {Z0 : Nat → Prop} {w : World} {A0 : Option Addr} {c0 : Nat} {x0 : (List T_api_Pair)} {x1_0 : T_api_Pair} {b1_0 o1_0 : Nat} {r : Int} (hM : m_slices_IndexFunc_api_Pair_api_Pair_s1 x0 x1_0 = some r) (f0 : (slR A0 c0 T_api_Pair.rep x0).H Z0 w) (f1 : (rdR b1_0 o1_0 [Str (x1_0.Key), Str (x1_0.Val)]).H Z0 w) :
    Calls Tryz.prog 82 #[.slice A0 (x0).length c0, .func (.func 56) #[] [.pointer (some ⟨b1_0, o1_0, none⟩)].toArray] w fun x w' => x = .returned (.int .i64 (r)) ∧ Hp Z0 No w w' [] := by
 have hm0 := Hp.nil Z0 No w
 have hc0 := Calm.nil
 have hm3 := hm0.know (slR A0 c0 T_api_Pair.rep x0) (fun _ h => h) (hm0.in0 hc0 f0)
 replace hc0 := hc0.snoc (r := slR A0 c0 T_api_Pair.rep x0) (fun _ h => h)
 have hm4 := hm3.know (rdR b1_0 o1_0 [Str (x1_0.Key), Str (x1_0.Val)]) (fun _ h => h) (hm3.in0 hc0 f1)
 replace hc0 := hc0.snoc (r := rdR b1_0 o1_0 [Str (x1_0.Key), Str (x1_0.Val)]) (fun _ h => h)
 refine Rn.enter Tryz.func82 rfl rfl (Nat.le_of_ble_eq_true rfl) ?_
 refine gg 8 rfl (Rn.q rfl (V.lenV Tryz.underlying22 rfl) (gg 2 rfl ?_))
 obtain ⟨j1, hj1, hM⟩ := jnE hM
 refine Rn.joinG (r := r) (G := Unit) (fun g => []) (fun g w' => Hp Z0 No w w' []) (fun g => j1 ()) ?_ ?_
 ·subst hj1
  clear hM
  rintro _ w5 hm5 hM
  try dsimp only at hM
  refine gg 4 rfl ?_
  refine Rn.retG1 Tryz.func82 rfl (rvT rfl) ?_
  obtain rfl := someE hM
  exact ⟨rfl, hm5.pick [] rfl (by decide)⟩
 intro hk1
 clear hj1
 refine gg 1 rfl ?_
 refine Rn.loopF (G := Int) (fun g => [(0, .slice A0 (x0).length c0), (1, .func (.func 56) #[] [.pointer (some ⟨b1_0, o1_0, none⟩)].toArray), (7, .int .i64 ((x0.length : Int))), (8, .int .i64 (g))]) (fun g w' => Hp Z0 No w w' [slR A0 c0 T_api_Pair.rep x0, rdR b1_0 o1_0 [Str (x1_0.Key), Str (x1_0.Val)]]) (fun n g => m_slices_IndexFunc_api_Pair_api_Pair_s1_L1 x0 x1_0 j1 n g) fuel 0 (Sub.cons rfl (Sub.cons rfl (Sub.cons rfl (Sub.cons rfl (Sub.nil _))))) (hm4.pick [0, 1] rfl (by decide)) hM (fun _ => rfl) ?_
 clear hM
 rintro m7 y6 w7 hm7 hM hn7
 replace hM : m_slices_IndexFunc_api_Pair_api_Pair_s1_L1 x0 x1_0 j1 (m7 + 1) y6 = some r := hM
 rw [m_slices_IndexFunc_api_Pair_api_Pair_s1_L1] at hM
 refine gg 5 rfl ?_
 refine Rn.condD rfl (fun h8 => ?_) (fun h8 => ?_)
 ·replace hM := iteT h8 hM
  refine gg 13 rfl ?_
  obtain ⟨z9, e9, hM⟩ := bindE hM
  refine Rn.ixH hm7 0 rfl e9 rfl rfl rfl Tryz.underlying22 Tryz.sizeOf42 rfl rfl rfl rfl ?_
  rintro b9 o9 vs9 ⟨_, _, rfl, ⟨rfl, _⟩, ⟨rfl, _⟩⟩ hm9
  refine Rn.q rfl (V.ldA (vs := [_, _]) Tryz.isAgg42 Tryz.sizeOf42 rfl (Rd.pre (hm9.get 2 rfl).2 2) rfl) ?_
  obtain ⟨p11, e11, hM⟩ := bindE hM
  refine Rn.clV ck56 rfl rfl rfl rfl rfl (m_label_Check_1_sim (Z0 := All) e11 (rdR_all (hm9.get 1 rfl)) :) ?_
  rintro _ w11 ⟨rfl, hq11⟩
  refine ⟨_, rfl, ?_⟩
  have hm12 := hm9.call0 hq11
  refine gg 1 rfl ?_
  refine Rn.condS rfl (fun h13 => ?_) (fun h13 => ?_)
  ·replace hM := iteT h13 hM
   refine gg 5 rfl ?_
   refine Rn.retG1 Tryz.func82 rfl (rvT rfl) ?_
   obtain rfl := someE hM
   exact ⟨rfl, hm12.pick [] rfl (by decide)⟩
  ·replace hM := iteFB hM h13
   refine gg 6 rfl ?_
   exact hn7 (W64 (y6 + 1)) _ _ (Sub.cons rfl (Sub.cons rfl (Sub.cons rfl (Sub.cons rfl (Sub.nil _))))) (hm12.pick [0, 1] rfl (by decide)) hM
 ·replace hM := iteF h8 hM
  refine gg 1 rfl ?_
  exact hk1 () _ _ (Sub.nil _) (hm7.pick [] rfl (by decide)) hM

theorem m_slices_ContainsFunc_api_Pair_api_Pair_s2_sim {Z0 : Nat → Prop} {w : World} {A0 : Option Addr} {c0 : Nat} {x0 : (List T_api_Pair)} {x1_0 : T_api_Pair} {b1_0 o1_0 : Nat} {r : Bool} (hM : m_slices_ContainsFunc_api_Pair_api_Pair_s2 x0 x1_0 = some r) (f0 : (slR A0 c0 T_api_Pair.rep x0).H Z0 w) (f1 : (rdR b1_0 o1_0 [Str (x1_0.Key), Str (x1_0.Val)]).H Z0 w) :
    Calls Tryz.prog 55 #[.slice A0 (x0).length c0, .func (.func 56) #[] [.pointer (some ⟨b1_0, o1_0, none⟩)].toArray] w fun x w' => x = .returned (.bool (r)) ∧ Hp Z0 No w w' [] := by
 have hm0 := Hp.nil Z0 No w
 have hc0 := Calm.nil
 have hm3 := hm0.know (slR A0 c0 T_api_Pair.rep x0) (fun _ h => h) (hm0.in0 hc0 f0)
 replace hc0 := hc0.snoc (r := slR A0 c0 T_api_Pair.rep x0) (fun _ h => h)
 have hm4 := hm3.know (rdR b1_0 o1_0 [Str (x1_0.Key), Str (x1_0.Val)]) (fun _ h => h) (hm3.in0 hc0 f1)
 replace hc0 := hc0.snoc (r := rdR b1_0 o1_0 [Str (x1_0.Key), Str (x1_0.Val)]) (fun _ h => h)
 refine Rn.enter Tryz.func55 rfl rfl (Nat.le_of_ble_eq_true rfl) ?_
 refine gg 8 rfl ?_
 obtain ⟨p5, e5, hM⟩ := bindE hM
 refine Rn.cl ck82 rfl rfl rfl rfl (m_slices_IndexFunc_api_Pair_api_Pair_s1_sim (Z0 := All) e5 (slR_all (hm4.get 0 rfl)) (rdR_all (hm4.get 1 rfl)) :) ?_
 rintro _ w5 ⟨rfl, hq5⟩
 refine ⟨_, rfl, ?_⟩
 have hm6 := hm4.call0 hq5
 refine gg 3 rfl ?_
 refine Rn.retG1 Tryz.func55 rfl (rvT rfl) ?_
 obtain rfl := someE hM
 exact ⟨rfl, hm6.pick [] rfl (by decide)⟩

theorem m_label_Check_sim {Z0 : Nat → Prop} {w : World} {x0 : (List UInt8)} {A1 : Option Addr} {c1 : Nat} {x1 : (List T_api_Pair)} {r : Int} (hM : m_label_Check x0 x1 = some r) (f0 : (slR A1 c1 T_api_Pair.rep x1).H Z0 w) :
    Calls Tryz.prog 27 #[Str (x0), .slice A1 (x1).length c1] w fun x w' => x = .returned (.int .i64 (r)) ∧ Hp Z0 No w w' [] := by
 have hm0 := Hp.nil Z0 No w
 have hc0 := Calm.nil
 have hm2 := hm0.know (slR A1 c1 T_api_Pair.rep x1) (fun _ h => h) (hm0.in0 hc0 f0)
 replace hc0 := hc0.snoc (r := slR A1 c1 T_api_Pair.rep x1) (fun _ h => h)
 refine Rn.enter Tryz.func27 rfl rfl (Nat.le_of_ble_eq_true rfl) ?_
 refine gg 8 rfl ?_
 obtain ⟨p3, e3, hM⟩ := bindE hM
 refine Rn.cl ck53 rfl rfl rfl rfl (m_label_isName_sim (Z0 := All) e3  :) ?_
 rintro _ w3 ⟨rfl, hq3⟩
 refine ⟨_, rfl, ?_⟩
 have hm4 := hm2.call0 hq3
 refine Rn.q rfl (V.notB rfl) (gg 1 rfl ?_)
 refine Rn.condS rfl (fun h5 => ?_) (fun h5 => ?_)
 ·replace hM := iteT h5 hM
  refine gg 4 rfl ?_
  refine Rn.retG1 Tryz.func27 rfl (rvT rfl) ?_
  obtain rfl := someE hM
  exact ⟨rfl, hm4.pick [] rfl (by decide)⟩
 ·replace hM := iteFB hM h5
  refine gg 5 rfl (Rn.q rfl (V.lenV Tryz.underlying22 rfl) (gg 2 rfl ?_))
  refine Rn.condD rfl (fun h6 => ?_) (fun h6 => ?_)
  ·replace hM := iteT h6 hM
   refine gg 4 rfl ?_
   refine Rn.retG1 Tryz.func27 rfl (rvT rfl) ?_
   obtain rfl := someE hM
   exact ⟨rfl, hm4.pick [] rfl (by decide)⟩
  ·replace hM := iteF h6 hM
   refine gg 5 rfl (Rn.q rfl (V.lenV Tryz.underlying22 rfl) (gg 2 rfl ?_))
   obtain ⟨j1, hj1, hM⟩ := jnE hM
   refine Rn.joinG (r := r) (G := Unit) (fun g => []) (fun g w' => Hp Z0 No w w' []) (fun g => j1 ()) ?_ ?_
   ·subst hj1
    clear hM
    rintro _ w7 hm7 hM
    try dsimp only at hM
    refine gg 4 rfl ?_
    refine Rn.retG1 Tryz.func27 rfl (rvT rfl) ?_
    obtain rfl := someE hM
    exact ⟨rfl, hm7.pick [] rfl (by decide)⟩
   intro hk1
   clear hj1
   refine gg 1 rfl ?_
   refine Rn.loopF (G := Int) (fun g => [(1, .slice A1 (x1).length c1), (13, .slice A1 (x1).length c1), (14, .int .i64 ((x1.length : Int))), (15, .int .i64 (g))]) (fun g w' => Hp Z0 No w w' [slR A1 c1 T_api_Pair.rep x1]) (fun n g => m_label_Check_L1 x1 j1 n g) fuel 0 (Sub.cons rfl (Sub.cons rfl (Sub.cons rfl (Sub.cons rfl (Sub.nil _))))) (hm4.pick [0] rfl (by decide)) hM (fun _ => rfl) ?_
   clear hM
   rintro m9 y8 w9 hm9 hM hn9
   replace hM : m_label_Check_L1 x1 j1 (m9 + 1) y8 = some r := hM
   rw [m_label_Check_L1] at hM
   refine gg 5 rfl ?_
   refine Rn.condD rfl (fun h10 => ?_) (fun h10 => ?_)
   ·replace hM := iteT h10 hM
    refine gg 6 rfl ?_
    obtain ⟨z11, e11, hM⟩ := bindE hM
    refine Rn.ixH hm9 0 rfl e11 rfl rfl rfl Tryz.underlying22 Tryz.sizeOf42 rfl rfl rfl rfl ?_
    rintro b11 o11 vs11 ⟨_, _, rfl, ⟨rfl, _⟩, ⟨rfl, _⟩⟩ hm11
    refine Rn.q rfl (V.ldA (vs := [_, _]) Tryz.isAgg42 Tryz.sizeOf42 rfl (Rd.pre (hm11.get 1 rfl).2 2) rfl) (Rn.alloc rfl rfl rfl Tryz.zeroValue42 rfl ?_)
    intro b13 w13 hb13 m13 e13
    have hm15 := (hm11.addBox hb13 e13 m13).nf [_, _, boxR _ _ [_, _]] rfl
    refine gg 1 rfl (Rn.st rfl rfl Tryz.sizeOf42 rfl rfl rfl rfl (by first | exact ones rfl | (simp [Value.oneCell']; done)) (hm15.get 2 rfl) (by first | exact Nat.le_of_ble_eq_true rfl | (simp; done)) ?_)
    intro w16 m16 x16
    have hm17 := (hm15.st 2 rfl x16 m16).nf [_, _, boxR _ _ [_, _]] rfl
    refine gg 5 rfl (Rn.q rfl (V.ldB Tryz.isAgg9 rfl (hm17.get 2 rfl) rfl) ?_)
    obtain ⟨p18, e18, hM⟩ := bindE hM
    refine Rn.cl ck53 rfl rfl rfl rfl (m_label_isName_sim (Z0 := All) e18  :) ?_
    rintro _ w18 ⟨rfl, hq18⟩
    refine ⟨_, rfl, ?_⟩
    have hm19 := hm17.call0 hq18
    refine Rn.q rfl (V.notB rfl) (gg 1 rfl ?_)
    obtain ⟨j2, hj2, hM⟩ := jnE hM
    refine Rn.joinR (r := r) (G := Bool) [] (fun g => [(1, .slice A1 (x1).length c1), (5, .int .i64 (y8)), (6, .pointer (some ⟨b13, 0, none⟩)), (13, .slice A1 (x1).length c1), (14, .int .i64 ((x1.length : Int))), (15, .int .i64 (y8)), (29, .bool (g))]) (fun g w' => Hp Z0 No w w' [slR A1 c1 T_api_Pair.rep x1, boxR b13 42 [Str (z11.Key), Str (z11.Val)]]) (fun g => j2 g) ?_ ?_
    ·subst hj2
     clear hM
     rintro y20 w21 hm21 hM
     try dsimp only at hM
     refine gg 1 rfl ?_
     refine Rn.condS rfl (fun h22 => ?_) (fun h22 => ?_)
     ·replace hM := iteT h22 hM
      refine gg 4 rfl ?_
      refine Rn.retG1 Tryz.func27 rfl (rvT rfl) ?_
      obtain rfl := someE hM
      exact ⟨rfl, hm21.pick [] rfl (by decide)⟩
     ·replace hM := iteFB hM h22
      refine gg 5 rfl ?_
      obtain ⟨z23, e23, hM⟩ := bindE hM
      refine Rn.cutH hm21 0 rfl e23 rfl rfl rfl Tryz.underlying22 Tryz.sizeOf42 rfl rfl rfl rfl rfl ?_
      intro A23 c23 hm23
      refine Rn.q rfl (V.mkF rfl) ?_
      obtain ⟨p25, e25, hM⟩ := bindE hM
      refine Rn.cl ck55 rfl rfl rfl rfl (m_slices_ContainsFunc_api_Pair_api_Pair_s2_sim (Z0 := All) e25 (slR_all (hm23.get 2 rfl)) (box_rdR (hm23.get 1 rfl)) :) ?_
      rintro _ w25 ⟨rfl, hq25⟩
      refine ⟨_, rfl, ?_⟩
      have hm26 := hm23.call0 hq25
      refine gg 1 rfl ?_
      refine Rn.condS rfl (fun h27 => ?_) (fun h27 => ?_)
      ·replace hM := iteT h27 hM
       refine gg 4 rfl ?_
       refine Rn.retG1 Tryz.func27 rfl (rvT rfl) ?_
       obtain rfl := someE hM
       exact ⟨rfl, hm26.pick [] rfl (by decide)⟩
      ·replace hM := iteFB hM h27
       refine gg 6 rfl ?_
       exact hn9 (W64 (y8 + 1)) _ _ (Sub.cons rfl (Sub.cons rfl (Sub.cons rfl (Sub.cons rfl (Sub.nil _))))) (hm26.pick [0] rfl (by decide)) hM
    intro hk2
    clear hj2
    refine Rn.part (t := 24) rfl (fun h28 => ?_) (fun h28 => ?_)
    ·replace hM := iteT h28 hM
     refine gg 5 rfl ?_
     exact hk2 true _ _ (Sub.cons rfl (Sub.cons rfl (Sub.cons rfl (Sub.cons rfl (Sub.cons rfl (Sub.cons rfl (Sub.cons rfl (Sub.nil _)))))))) (hm19.pick [0, 2] rfl (by decide)) hM
    ·replace hM := iteFB hM h28
     refine gg 1 rfl (Rn.q rfl (V.ldB Tryz.isAgg9 rfl (hm19.get 2 rfl) rfl) ?_)
     obtain ⟨p29, e29, hM⟩ := bindE hM
     refine Rn.cl ck54 rfl rfl rfl rfl (m_label_isValue_sim (Z0 := All) e29  :) ?_
     rintro _ w29 ⟨rfl, hq29⟩
     refine ⟨_, rfl, ?_⟩
     have hm30 := hm19.call0 hq29
     refine Rn.q rfl (V.notB rfl) (gg 1 rfl ?_)
     exact hk2 (!p29) _ _ (Sub.cons rfl (Sub.cons rfl (Sub.cons rfl (Sub.cons rfl (Sub.cons rfl (Sub.cons rfl (Sub.cons rfl (Sub.nil _)))))))) (hm30.pick [0, 2] rfl (by decide)) hM
   ·replace hM := iteF h10 hM
    refine gg 1 rfl ?_
    exact hk1 () _ _ (Sub.nil _) (hm9.pick [] rfl (by decide)) hM

theorem m_point_kinds_sim {Z0 : Nat → Prop} {w : World} {x0 : T_api_Point} {cs0 : List Value} {r : Bool} (hM : m_point_kinds x0 = some r) (h0 : T_api_Point.rep.rel Z0 w cs0 x0) :
    Calls Tryz.prog 28 #[.agg cs0.toArray] w fun x w' => x = .returned (.bool (r)) ∧ Hp Z0 No w w' [] := by
 have hm0 := Hp.nil Z0 No w
 have hc0 := Calm.nil
 obtain ⟨_, _, rfl, ⟨rfl, _⟩, ⟨_, _, rfl, ⟨A1, c1, rfl, p1, q1, s1⟩, ⟨_, _, rfl, ⟨rfl, _⟩, ⟨_, _, rfl, ⟨rfl, _⟩, ⟨_, _, rfl, ⟨rfl, _⟩, ⟨_, _, rfl, ⟨rfl, _⟩, ⟨_, _, rfl, ⟨rfl, _⟩, ⟨_, _, rfl, ⟨rfl, _⟩, ⟨_, _, rfl, ⟨rfl, _⟩, ⟨_, _, rfl, ⟨rfl, _⟩, ⟨_, _, rfl, ⟨_, _, rfl, ⟨rfl, _⟩, ⟨_, _, rfl, ⟨rfl, _⟩, ⟨_, _, rfl, ⟨_, _, rfl, ⟨rfl, _⟩, ⟨A3, c3, rfl, p3, q3, s3⟩⟩, ⟨_, _, rfl, ⟨rfl, _⟩, ⟨A5, c5, rfl, p5, q5, s5⟩⟩⟩⟩⟩, ⟨rfl, _⟩⟩⟩⟩⟩⟩⟩⟩⟩⟩⟩⟩ := h0
 have hm7 := hm0.know (slR A1 c1 T_api_Pair.rep x0.Attrs) (fun _ h => h) (hm0.in0 hc0 ⟨p1, q1, s1⟩)
 replace hc0 := hc0.snoc (r := slR A1 c1 T_api_Pair.rep x0.Attrs) (fun _ h => h)
 have hm8 := hm7.know (slR A3 c3 w64R x0.Hist.Pos.Counts) (fun _ h => h) (hm7.in0 hc0 ⟨p3, q3, s3⟩)
 replace hc0 := hc0.snoc (r := slR A3 c3 w64R x0.Hist.Pos.Counts) (fun _ h => h)
 have hm9 := hm8.know (slR A5 c5 w64R x0.Hist.Neg.Counts) (fun _ h => h) (hm8.in0 hc0 ⟨p5, q5, s5⟩)
 replace hc0 := hc0.snoc (r := slR A5 c5 w64R x0.Hist.Neg.Counts) (fun _ h => h)
 refine Rn.enter Tryz.func28 rfl rfl (Nat.le_of_ble_eq_true rfl) ?_
 refine gg 2 rfl (Rn.box rfl rfl rfl rfl rfl ?_)
 intro b10 w10 hb10 m10 e10
 have hm12 := (hm9.addBox hb10 e10 m10).nf [_, _, _, boxR _ _ [_, _, _, _, _, _, _, _, _, _, _, _, _, _, _, _, _]] rfl
 refine gg 6 rfl (Rn.q rfl (V.ldB Tryz.isAgg3 rfl (hm12.get 3 rfl) rfl) (gg 7 rfl ?_))
 refine Rn.condD rfl (fun h13 => ?_) (fun h13 => ?_)
 ·replace hM := iteT h13 hM
  refine gg 3 rfl (Rn.q rfl (V.ldB Tryz.isAgg3 rfl (hm12.get 3 rfl) rfl) (gg 3 rfl ?_))
  refine Rn.retG1 Tryz.func28 rfl (rvT rfl) ?_
  obtain rfl := someE hM
  exact ⟨rfl, hm12.pick [] rfl (by decide)⟩
 ·replace hM := iteF h13 hM
  refine gg 6 rfl ?_
  obtain ⟨j1, hj1, hM⟩ := jnE hM
  refine Rn.joinG (r := r) (G := Bool) (fun g => [(1, .pointer (some ⟨b10, 0, none⟩)), (10, .bool (g))]) (fun g w' => Hp Z0 No w w' [slR A1 c1 T_api_Pair.rep x0.Attrs, slR A3 c3 w64R x0.Hist.Pos.Counts, slR A5 c5 w64R x0.Hist.Neg.Counts, boxR b10 30 [Str (x0.Name), .slice A1 (x0.Attrs).length c1, .int .i64 (x0.Kind), .int .i64 (x0.Temp), .bool (x0.Mono), .int .i64 (x0.Start), .int .i64 (x0.Time), .int .i64 (x0.Int_), .int .u64 (((x0.Re).toNat : Nat) : Int), .int .u64 (((x0.Im).toNat : Nat) : Int), .int .i64 (x0.Hist.Scale), .int .u64 (((x0.Hist.Zero).toNat : Nat) : Int), .int .i64 (x0.Hist.Pos.Offset), .slice A3 (x0.Hist.Pos.Counts).length c3, .int .i64 (x0.Hist.Neg.Offset), .slice A5 (x0.Hist.Neg.Counts).length c5, .int .i64 (x0.Flags)]]) (fun g => j1 g) ?_ ?_
  ·subst hj1
   clear hM
   rintro y14 w15 hm15 hM
   try dsimp only at hM
   refine Rn.condS rfl (fun h16 => ?_) (fun h16 => ?_)
   ·replace hM := iteT h16 hM
    refine gg 3 rfl (Rn.q rfl (V.ldB Tryz.isAgg3 rfl (hm15.get 3 rfl) rfl) (gg 2 rfl ?_))
    refine Rn.cutR [8] [(22, .bool (decide ((x0.Temp = 1) ∨ (x0.Temp = 2))))] (fun hk17 => ?_) ?_
    ·refine Rn.partD (t := 18) rfl (fun h18 => ?_) (fun h18 => ?_)
     ·refine gg 4 rfl ?_
      refine hk17 _ ?_
      exact Sub.cons (lkv _ rfl (by first | exact andT h18 | exact andF h18 | exact orT h18 | exact orF h18 | exact nandF h18 | exact nandT h18 | exact norT h18 | exact norF h18 | (simp [h18]; done) | grind)) (Sub.nil _)
     ·refine gg 1 rfl (Rn.q rfl (V.ldB Tryz.isAgg3 rfl (hm15.get 3 rfl) rfl) (gg 2 rfl ?_))
      refine hk17 _ ?_
      exact Sub.cons (lkv _ rfl (by first | exact andT h18 | exact andF h18 | exact orT h18 | exact orF h18 | exact nandF h18 | exact nandT h18 | exact norT h18 | exact norF h18 | (simp [h18]; done) | grind)) (Sub.nil _)
    refine gg 2 rfl ?_
    refine Rn.retG1 Tryz.func28 rfl (rvT rfl) ?_
    obtain rfl := someE hM
    exact ⟨rfl, hm15.pick [] rfl (by decide)⟩
   ·replace hM := iteFB hM h16
    refine gg 6 rfl ?_
    refine Rn.retG1 Tryz.func28 rfl (rvT rfl) ?_
    obtain rfl := someE hM
    exact ⟨rfl, hm15.pick [] rfl (by decide)⟩
  intro hk1
  clear hj1
  refine Rn.condD rfl (fun h19 => ?_) (fun h19 => ?_)
  ·replace hM := iteT h19 hM
   refine gg 1 rfl ?_
   exact hk1 (decide (x0.Kind = 1)) _ _ (Sub.cons rfl (Sub.cons rfl (Sub.nil _))) (hm12.pick [0, 1, 2, 3] rfl (by decide)) hM
  ·replace hM := iteF h19 hM
   refine gg 5 rfl ?_
   refine Rn.condD rfl (fun h20 => ?_) (fun h20 => ?_)
   ·replace hM := iteT h20 hM
    refine gg 1 rfl ?_
    exact hk1 (decide (x0.Kind = 2)) _ _ (Sub.cons rfl (Sub.cons rfl (Sub.nil _))) (hm12.pick [0, 1, 2, 3] rfl (by decide)) hM
   ·replace hM := iteF h20 hM
    refine gg 5 rfl ?_
    refine Rn.condD rfl (fun h21 => ?_) (fun h21 => ?_)
    ·replace hM := iteT h21 hM
     refine gg 1 rfl ?_
     exact hk1 (decide (x0.Kind = 4)) _ _ (Sub.cons rfl (Sub.cons rfl (Sub.nil _))) (hm12.pick [0, 1, 2, 3] rfl (by decide)) hM
    ·replace hM := iteF h21 hM
     refine gg 4 rfl ?_
     exact hk1 (decide (x0.Kind = 5)) _ _ (Sub.cons rfl (Sub.cons rfl (Sub.nil _))) (hm12.pick [0, 1, 2, 3] rfl (by decide)) hM

theorem m_point_sum_sim {Z0 : Nat → Prop} {w : World} {x0 : T_api_Point} {cs0 : List Value} {r : Bool} (hM : m_point_sum x0 = some r) (h0 : T_api_Point.rep.rel Z0 w cs0 x0) :
    Calls Tryz.prog 29 #[.agg cs0.toArray] w fun x w' => x = .returned (.bool (r)) ∧ Hp Z0 No w w' [] := by
 have hm0 := Hp.nil Z0 No w
 have hc0 := Calm.nil
 obtain ⟨_, _, rfl, ⟨rfl, _⟩, ⟨_, _, rfl, ⟨A1, c1, rfl, p1, q1, s1⟩, ⟨_, _, rfl, ⟨rfl, _⟩, ⟨_, _, rfl, ⟨rfl, _⟩, ⟨_, _, rfl, ⟨rfl, _⟩, ⟨_, _, rfl, ⟨rfl, _⟩, ⟨_, _, rfl, ⟨rfl, _⟩, ⟨_, _, rfl, ⟨rfl, _⟩, ⟨_, _, rfl, ⟨rfl, _⟩, ⟨_, _, rfl, ⟨rfl, _⟩, ⟨_, _, rfl, ⟨_, _, rfl, ⟨rfl, _⟩, ⟨_, _, rfl, ⟨rfl, _⟩, ⟨_, _, rfl, ⟨_, _, rfl, ⟨rfl, _⟩, ⟨A3, c3, rfl, p3, q3, s3⟩⟩, ⟨_, _, rfl, ⟨rfl, _⟩, ⟨A5, c5, rfl, p5, q5, s5⟩⟩⟩⟩⟩, ⟨rfl, _⟩⟩⟩⟩⟩⟩⟩⟩⟩⟩⟩⟩ := h0
 have hm7 := hm0.know (slR A1 c1 T_api_Pair.rep x0.Attrs) (fun _ h => h) (hm0.in0 hc0 ⟨p1, q1, s1⟩)
 replace hc0 := hc0.snoc (r := slR A1 c1 T_api_Pair.rep x0.Attrs) (fun _ h => h)
 have hm8 := hm7.know (slR A3 c3 w64R x0.Hist.Pos.Counts) (fun _ h => h) (hm7.in0 hc0 ⟨p3, q3, s3⟩)
 replace hc0 := hc0.snoc (r := slR A3 c3 w64R x0.Hist.Pos.Counts) (fun _ h => h)
 have hm9 := hm8.know (slR A5 c5 w64R x0.Hist.Neg.Counts) (fun _ h => h) (hm8.in0 hc0 ⟨p5, q5, s5⟩)
 replace hc0 := hc0.snoc (r := slR A5 c5 w64R x0.Hist.Neg.Counts) (fun _ h => h)
 refine Rn.enter Tryz.func29 rfl rfl (Nat.le_of_ble_eq_true rfl) ?_
 refine gg 2 rfl (Rn.box rfl rfl rfl rfl rfl ?_)
 intro b10 w10 hb10 m10 e10
 have hm12 := (hm9.addBox hb10 e10 m10).nf [_, _, _, boxR _ _ [_, _, _, _, _, _, _, _, _, _, _, _, _, _, _, _, _]] rfl
 refine gg 5 rfl (Rn.q rfl (V.ldB Tryz.isAgg3 rfl (hm12.get 3 rfl) rfl) (gg 2 rfl ?_))
 refine Rn.cutR [8] [(10, .bool (decide ((x0.Kind = 1) ∨ (x0.Kind = 2))))] (fun hk13 => ?_) ?_
 ·refine Rn.partD (t := 6) rfl (fun h14 => ?_) (fun h14 => ?_)
  ·refine gg 4 rfl ?_
   refine hk13 _ ?_
   exact Sub.cons (lkv _ rfl (by first | exact andT h14 | exact andF h14 | exact orT h14 | exact orF h14 | exact nandF h14 | exact nandT h14 | exact norT h14 | exact norF h14 | (simp [h14]; done) | grind)) (Sub.nil _)
  ·refine gg 1 rfl (Rn.q rfl (V.ldB Tryz.isAgg3 rfl (hm12.get 3 rfl) rfl) (gg 2 rfl ?_))
   refine hk13 _ ?_
   exact Sub.cons (lkv _ rfl (by first | exact andT h14 | exact andF h14 | exact orT h14 | exact orF h14 | exact nandF h14 | exact nandT h14 | exact norT h14 | exact norF h14 | (simp [h14]; done) | grind)) (Sub.nil _)
 refine gg 2 rfl ?_
 refine Rn.retG1 Tryz.func29 rfl (rvT rfl) ?_
 obtain rfl := someE hM
 exact ⟨rfl, hm12.pick [] rfl (by decide)⟩

theorem m_point_times_sim {Z0 : Nat → Prop} {w : World} {x0 : T_api_Point} {cs0 : List Value} {r : Bool} (hM : m_point_times x0 = some r) (h0 : T_api_Point.rep.rel Z0 w cs0 x0) :
    Calls Tryz.prog 30 #[.agg cs0.toArray] w fun x w' => x = .returned (.bool (r)) ∧ Hp Z0 No w w' [] := by
 have hm0 := Hp.nil Z0 No w
 have hc0 := Calm.nil
 obtain ⟨_, _, rfl, ⟨rfl, _⟩, ⟨_, _, rfl, ⟨A1, c1, rfl, p1, q1, s1⟩, ⟨_, _, rfl, ⟨rfl, _⟩, ⟨_, _, rfl, ⟨rfl, _⟩, ⟨_, _, rfl, ⟨rfl, _⟩, ⟨_, _, rfl, ⟨rfl, _⟩, ⟨_, _, rfl, ⟨rfl, _⟩, ⟨_, _, rfl, ⟨rfl, _⟩, ⟨_, _, rfl, ⟨rfl, _⟩, ⟨_, _, rfl, ⟨rfl, _⟩, ⟨_, _, rfl, ⟨_, _, rfl, ⟨rfl, _⟩, ⟨_, _, rfl, ⟨rfl, _⟩, ⟨_, _, rfl, ⟨_, _, rfl, ⟨rfl, _⟩, ⟨A3, c3, rfl, p3, q3, s3⟩⟩, ⟨_, _, rfl, ⟨rfl, _⟩, ⟨A5, c5, rfl, p5, q5, s5⟩⟩⟩⟩⟩, ⟨rfl, _⟩⟩⟩⟩⟩⟩⟩⟩⟩⟩⟩⟩ := h0
 have hm7 := hm0.know (slR A1 c1 T_api_Pair.rep x0.Attrs) (fun _ h => h) (hm0.in0 hc0 ⟨p1, q1, s1⟩)
 replace hc0 := hc0.snoc (r := slR A1 c1 T_api_Pair.rep x0.Attrs) (fun _ h => h)
 have hm8 := hm7.know (slR A3 c3 w64R x0.Hist.Pos.Counts) (fun _ h => h) (hm7.in0 hc0 ⟨p3, q3, s3⟩)
 replace hc0 := hc0.snoc (r := slR A3 c3 w64R x0.Hist.Pos.Counts) (fun _ h => h)
 have hm9 := hm8.know (slR A5 c5 w64R x0.Hist.Neg.Counts) (fun _ h => h) (hm8.in0 hc0 ⟨p5, q5, s5⟩)
 replace hc0 := hc0.snoc (r := slR A5 c5 w64R x0.Hist.Neg.Counts) (fun _ h => h)
 refine Rn.enter Tryz.func30 rfl rfl (Nat.le_of_ble_eq_true rfl) ?_
 refine gg 2 rfl (Rn.box rfl rfl rfl rfl rfl ?_)
 intro b10 w10 hb10 m10 e10
 have hm12 := (hm9.addBox hb10 e10 m10).nf [_, _, _, boxR _ _ [_, _, _, _, _, _, _, _, _, _, _, _, _, _, _, _, _]] rfl
 refine gg 6 rfl (Rn.q rfl (V.ldB Tryz.isAgg3 rfl (hm12.get 3 rfl) rfl) (gg 2 rfl ?_))
 refine Rn.cutR [] [(1, .pointer (some ⟨b10, 0, none⟩)), (10, .bool (decide ((x0.Start < 0) ∨ (x0.Time > 4503599627370496))))] (fun hk13 => ?_) ?_
 ·refine Rn.partD (t := 6) rfl (fun h14 => ?_) (fun h14 => ?_)
  ·refine gg 4 rfl ?_
   refine hk13 _ ?_
   exact Sub.cons rfl (Sub.cons (lkv _ rfl (by first | exact andT h14 | exact andF h14 | exact orT h14 | exact orF h14 | exact nandF h14 | exact nandT h14 | exact norT h14 | exact norF h14 | (simp [h14]; done) | grind)) (Sub.nil _))
  ·refine gg 1 rfl (Rn.q rfl (V.ldB Tryz.isAgg3 rfl (hm12.get 3 rfl) rfl) (gg 2 rfl ?_))
   refine hk13 _ ?_
   exact Sub.cons rfl (Sub.cons (lkv _ rfl (by first | exact andT h14 | exact andF h14 | exact orT h14 | exact orF h14 | exact nandF h14 | exact nandT h14 | exact norT h14 | exact norF h14 | (simp [h14]; done) | grind)) (Sub.nil _))
 refine gg 1 rfl ?_
 refine Rn.condD rfl (fun h15 => ?_) (fun h15 => ?_)
 ·replace hM := iteT h15 hM
  refine gg 4 rfl ?_
  refine Rn.retG1 Tryz.func30 rfl (rvT rfl) ?_
  obtain rfl := someE hM
  exact ⟨rfl, hm12.pick [] rfl (by decide)⟩
 ·replace hM := iteF h15 hM
  refine gg 5 rfl (Rn.q rfl (V.ldB Tryz.isAgg3 rfl (hm12.get 3 rfl) rfl) (gg 2 rfl ?_))
  refine Rn.condD rfl (fun h16 => ?_) (fun h16 => ?_)
  ·replace hM := iteT h16 hM
   refine gg 3 rfl (Rn.q rfl (V.ldB Tryz.isAgg3 rfl (hm12.get 3 rfl) rfl) (gg 1 rfl (Rn.q rfl (V.ldB Tryz.isAgg3 rfl (hm12.get 3 rfl) rfl) (gg 3 rfl ?_))))
   refine Rn.retG1 Tryz.func30 rfl (rvT rfl) ?_
   obtain rfl := someE hM
   exact ⟨rfl, hm12.pick [] rfl (by decide)⟩
  ·replace hM := iteF h16 hM
   refine gg 4 rfl (Rn.q rfl (V.ldB Tryz.isAgg3 rfl (hm12.get 3 rfl) rfl) (gg 1 rfl (Rn.q rfl (V.ldB Tryz.isAgg3 rfl (hm12.get 3 rfl) rfl) (gg 3 rfl ?_))))
   refine Rn.retG1 Tryz.func30 rfl (rvT rfl) ?_
   obtain rfl := someE hM
   exact ⟨rfl, hm12.pick [] rfl (by decide)⟩

theorem m_point_bare_sim {Z0 : Nat → Prop} {w : World} {x0 : T_api_Hist} {cs0 : List Value} {r : Bool} (hM : m_point_bare x0 = some r) (h0 : T_api_Hist.rep.rel Z0 w cs0 x0) :
    Calls Tryz.prog 57 #[.agg cs0.toArray] w fun x w' => x = .returned (.bool (r)) ∧ Hp Z0 No w w' [] := by
 have hm0 := Hp.nil Z0 No w
 have hc0 := Calm.nil
 obtain ⟨_, _, rfl, ⟨rfl, _⟩, ⟨_, _, rfl, ⟨rfl, _⟩, ⟨_, _, rfl, ⟨_, _, rfl, ⟨rfl, _⟩, ⟨A1, c1, rfl, p1, q1, s1⟩⟩, ⟨_, _, rfl, ⟨rfl, _⟩, ⟨A3, c3, rfl, p3, q3, s3⟩⟩⟩⟩⟩ := h0
 have hm5 := hm0.know (slR A1 c1 w64R x0.Pos.Counts) (fun _ h => h) (hm0.in0 hc0 ⟨p1, q1, s1⟩)
 replace hc0 := hc0.snoc (r := slR A1 c1 w64R x0.Pos.Counts) (fun _ h => h)
 have hm6 := hm5.know (slR A3 c3 w64R x0.Neg.Counts) (fun _ h => h) (hm5.in0 hc0 ⟨p3, q3, s3⟩)
 replace hc0 := hc0.snoc (r := slR A3 c3 w64R x0.Neg.Counts) (fun _ h => h)
 refine Rn.enter Tryz.func57 rfl rfl (Nat.le_of_ble_eq_true rfl) ?_
 refine gg 2 rfl (Rn.box rfl rfl rfl rfl rfl ?_)
 intro b7 w7 hb7 m7 e7
 have hm9 := (hm6.addBox hb7 e7 m7).nf [_, _, boxR _ _ [_, _, _, _, _, _]] rfl
 refine gg 5 rfl (Rn.q rfl (V.ldB Tryz.isAgg3 rfl (hm9.get 2 rfl) rfl) (gg 2 rfl ?_))
 refine Rn.cutR [8, 9, 10, 11, 12, 13, 14, 15, 16, 17, 18, 19, 20, 21, 22, 23, 24, 25, 26, 27, 28, 29, 30, 31, 32] [(1, .pointer (some ⟨b7, 0, none⟩)), (10, .bool (decide ((x0.Scale = 0) ∧ (((x0.Zero).toNat : Int) = 0))))] (fun hk10 => ?_) ?_
 ·refine Rn.partD (t := 6) rfl (fun h11 => ?_) (fun h11 => ?_)
  ·refine gg 1 rfl (Rn.q rfl (V.ldB Tryz.isAgg23 rfl (hm9.get 2 rfl) rfl) (Rn.q rfl (V.eql rfl rfl) (gg 1 rfl ?_)))
   refine hk10 _ ?_
   exact Sub.cons rfl (Sub.cons (lkv _ rfl (by first | exact andT h11 | exact andF h11 | exact orT h11 | exact orF h11 | exact nandF h11 | exact nandT h11 | exact norT h11 | exact norF h11 | (simp [h11]; done) | grind)) (Sub.nil _))
  ·refine gg 4 rfl ?_
   refine hk10 _ ?_
   exact Sub.cons rfl (Sub.cons (lkv _ rfl (by first | exact andT h11 | exact andF h11 | exact orT h11 | exact orF h11 | exact nandF h11 | exact nandT h11 | exact norT h11 | exact norF h11 | (simp [h11]; done) | grind)) (Sub.nil _))
 refine gg 1 rfl ?_
 refine Rn.cutR [14, 15, 16, 17, 18, 19, 20, 21, 22, 23, 24, 25, 26, 27, 28, 29, 30, 31, 32] [(1, .pointer (some ⟨b7, 0, none⟩)), (16, .bool (decide (((x0.Scale = 0) ∧ (((x0.Zero).toNat : Int) = 0)) ∧ (x0.Pos.Offset = 0))))] (fun hk12 => ?_) ?_
 ·refine Rn.partD (t := 11) rfl (fun h13 => ?_) (fun h13 => ?_)
  ·refine gg 2 rfl (Rn.q rfl (V.ldB Tryz.isAgg3 rfl (hm9.get 2 rfl) rfl) (gg 2 rfl ?_))
   refine hk12 _ ?_
   exact Sub.cons rfl (Sub.cons (lkv _ rfl (by first | exact andT h13 | exact andF h13 | exact orT h13 | exact orF h13 | exact nandF h13 | exact nandT h13 | exact norT h13 | exact norF h13 | (simp [h13]; done) | grind)) (Sub.nil _))
  ·refine gg 5 rfl ?_
   refine hk12 _ ?_
   exact Sub.cons rfl (Sub.cons (lkv _ rfl (by first | exact andT h13 | exact andF h13 | exact orT h13 | exact orF h13 | exact nandF h13 | exact nandT h13 | exact norT h13 | exact norF h13 | (simp [h13]; done) | grind)) (Sub.nil _))
 refine gg 1 rfl ?_
 refine Rn.cutR [20, 21, 22, 23, 24, 25, 26, 27, 28, 29, 30, 31, 32] [(1, .pointer (some ⟨b7, 0, none⟩)), (22, .bool (decide ((((x0.Scale = 0) ∧ (((x0.Zero).toNat : Int) = 0)) ∧ (x0.Pos.Offset = 0)) ∧ (x0.Neg.Offset = 0))))] (fun hk14 => ?_) ?_
 ·refine Rn.partD (t := 17) rfl (fun h15 => ?_) (fun h15 => ?_)
  ·refine gg 2 rfl (Rn.q rfl (V.ldB Tryz.isAgg3 rfl (hm9.get 2 rfl) rfl) (gg 2 rfl ?_))
   refine hk14 _ ?_
   exact Sub.cons rfl (Sub.cons (lkv _ rfl (by first | exact andT h15 | exact andF h15 | exact orT h15 | exact orF h15 | exact nandF h15 | exact nandT h15 | exact norT h15 | exact norF h15 | (simp [h15]; done) | grind)) (Sub.nil _))
  ·refine gg 5 rfl ?_
   refine hk14 _ ?_
   exact Sub.cons rfl (Sub.cons (lkv _ rfl (by first | exact andT h15 | exact andF h15 | exact orT h15 | exact orF h15 | exact nandF h15 | exact nandT h15 | exact norT h15 | exact norF h15 | (simp [h15]; done) | grind)) (Sub.nil _))
 refine gg 1 rfl ?_
 obtain ⟨j1, hj1, hM⟩ := jnE hM
 refine Rn.joinR (r := r) (G := Bool) [32] (fun g => [(34, .bool (g))]) (fun g w' => Hp Z0 No w w' [slR A1 c1 w64R x0.Pos.Counts, slR A3 c3 w64R x0.Neg.Counts, boxR b7 28 [.int .i64 (x0.Scale), .int .u64 (((x0.Zero).toNat : Nat) : Int), .int .i64 (x0.Pos.Offset), .slice A1 (x0.Pos.Counts).length c1, .int .i64 (x0.Neg.Offset), .slice A3 (x0.Neg.Counts).length c3]]) (fun g => j1 g) ?_ ?_
 ·subst hj1
  clear hM
  rintro y16 w17 hm17 hM
  try dsimp only at hM
  refine gg 2 rfl ?_
  refine Rn.retG1 Tryz.func57 rfl (rvT rfl) ?_
  obtain rfl := someE hM
  exact ⟨rfl, hm17.pick [] rfl (by decide)⟩
 intro hk1
 clear hj1
 refine Rn.partD (t := 23) rfl (fun h18 => ?_) (fun h18 => ?_)
 ·replace hM := iteT h18 hM
  refine gg 2 rfl (Rn.q rfl (V.ldB Tryz.isAgg24 rfl (hm9.get 2 rfl) rfl) (Rn.q rfl (V.lenV Tryz.underlying24 rfl) (gg 2 rfl (Rn.q rfl (V.ldB Tryz.isAgg24 rfl (hm9.get 2 rfl) rfl) (Rn.q rfl (V.lenV Tryz.underlying24 rfl) (gg 3 rfl ?_))))))
  exact hk1 (decide (W64 ((x0.Pos.Counts.length : Int) + (x0.Neg.Counts.length : Int)) = 0)) _ _ (Sub.cons rfl (Sub.nil _)) (hm9.pick [0, 1, 2] rfl (by decide)) hM
 ·replace hM := iteF h18 hM
  refine gg 11 rfl ?_
  exact hk1 false _ _ (Sub.cons rfl (Sub.nil _)) (hm9.pick [0, 1, 2] rfl (by decide)) hM

theorem m_point_own_sim {Z0 : Nat → Prop} {w : World} {x0 : T_api_Point} {cs0 : List Value} {r : Bool} (hM : m_point_own x0 = some r) (h0 : T_api_Point.rep.rel Z0 w cs0 x0) :
    Calls Tryz.prog 31 #[.agg cs0.toArray] w fun x w' => x = .returned (.bool (r)) ∧ Hp Z0 No w w' [] := by
 have hm0 := Hp.nil Z0 No w
 have hc0 := Calm.nil
 obtain ⟨_, _, rfl, ⟨rfl, _⟩, ⟨_, _, rfl, ⟨A1, c1, rfl, p1, q1, s1⟩, ⟨_, _, rfl, ⟨rfl, _⟩, ⟨_, _, rfl, ⟨rfl, _⟩, ⟨_, _, rfl, ⟨rfl, _⟩, ⟨_, _, rfl, ⟨rfl, _⟩, ⟨_, _, rfl, ⟨rfl, _⟩, ⟨_, _, rfl, ⟨rfl, _⟩, ⟨_, _, rfl, ⟨rfl, _⟩, ⟨_, _, rfl, ⟨rfl, _⟩, ⟨_, _, rfl, ⟨_, _, rfl, ⟨rfl, _⟩, ⟨_, _, rfl, ⟨rfl, _⟩, ⟨_, _, rfl, ⟨_, _, rfl, ⟨rfl, _⟩, ⟨A3, c3, rfl, p3, q3, s3⟩⟩, ⟨_, _, rfl, ⟨rfl, _⟩, ⟨A5, c5, rfl, p5, q5, s5⟩⟩⟩⟩⟩, ⟨rfl, _⟩⟩⟩⟩⟩⟩⟩⟩⟩⟩⟩⟩ := h0
 have hm7 := hm0.know (slR A1 c1 T_api_Pair.rep x0.Attrs) (fun _ h => h) (hm0.in0 hc0 ⟨p1, q1, s1⟩)
 replace hc0 := hc0.snoc (r := slR A1 c1 T_api_Pair.rep x0.Attrs) (fun _ h => h)
 have hm8 := hm7.know (slR A3 c3 w64R x0.Hist.Pos.Counts) (fun _ h => h) (hm7.in0 hc0 ⟨p3, q3, s3⟩)
 replace hc0 := hc0.snoc (r := slR A3 c3 w64R x0.Hist.Pos.Counts) (fun _ h => h)
 have hm9 := hm8.know (slR A5 c5 w64R x0.Hist.Neg.Counts) (fun _ h => h) (hm8.in0 hc0 ⟨p5, q5, s5⟩)
 replace hc0 := hc0.snoc (r := slR A5 c5 w64R x0.Hist.Neg.Counts) (fun _ h => h)
 refine Rn.enter Tryz.func31 rfl rfl (Nat.le_of_ble_eq_true rfl) ?_
 refine gg 2 rfl (Rn.box rfl rfl rfl rfl rfl ?_)
 intro b10 w10 hb10 m10 e10
 have hm12 := (hm9.addBox hb10 e10 m10).nf [_, _, _, boxR _ _ [_, _, _, _, _, _, _, _, _, _, _, _, _, _, _, _, _]] rfl
 refine gg 5 rfl (Rn.q rfl (V.ldB Tryz.isAgg3 rfl (hm12.get 3 rfl) rfl) (gg 2 rfl ?_))
 refine Rn.cutR [8, 9, 10, 11, 12, 13] [(1, .pointer (some ⟨b10, 0, none⟩)), (11, .bool (decide ((x0.Kind = 2) ∨ (x0.Kind = 3))))] (fun hk13 => ?_) ?_
 ·refine Rn.partD (t := 7) rfl (fun h14 => ?_) (fun h14 => ?_)
  ·refine gg 4 rfl ?_
   refine hk13 _ ?_
   exact Sub.cons rfl (Sub.cons (lkv _ rfl (by first | exact andT h14 | exact andF h14 | exact orT h14 | exact orF h14 | exact nandF h14 | exact nandT h14 | exact norT h14 | exact norF h14 | (simp [h14]; done) | grind)) (Sub.nil _))
  ·refine gg 1 rfl (Rn.q rfl (V.ldB Tryz.isAgg3 rfl (hm12.get 3 rfl) rfl) (gg 2 rfl ?_))
   refine hk13 _ ?_
   exact Sub.cons rfl (Sub.cons (lkv _ rfl (by first | exact andT h14 | exact andF h14 | exact orT h14 | exact orF h14 | exact nandF h14 | exact nandT h14 | exact norT h14 | exact norF h14 | (simp [h14]; done) | grind)) (Sub.nil _))
 refine gg 1 rfl ?_
 refine Rn.cutR [13] [(1, .pointer (some ⟨b10, 0, none⟩)), (16, .bool (decide (((x0.Kind = 2) ∨ (x0.Kind = 3)) ∨ (x0.Kind = 5))))] (fun hk15 => ?_) ?_
 ·refine Rn.partD (t := 12) rfl (fun h16 => ?_) (fun h16 => ?_)
  ·refine gg 4 rfl ?_
   refine hk15 _ ?_
   exact Sub.cons rfl (Sub.cons (lkv _ rfl (by first | exact andT h16 | exact andF h16 | exact orT h16 | exact orF h16 | exact nandF h16 | exact nandT h16 | exact norT h16 | exact norF h16 | (simp [h16]; done) | grind)) (Sub.nil _))
  ·refine gg 1 rfl (Rn.q rfl (V.ldB Tryz.isAgg3 rfl (hm12.get 3 rfl) rfl) (gg 2 rfl ?_))
   refine hk15 _ ?_
   exact Sub.cons rfl (Sub.cons (lkv _ rfl (by first | exact andT h16 | exact andF h16 | exact orT h16 | exact orF h16 | exact nandF h16 | exact nandT h16 | exact norT h16 | exact norF h16 | (simp [h16]; done) | grind)) (Sub.nil _))
 refine gg 8 rfl (Rn.q rfl (V.ldB Tryz.isAgg3 rfl (hm12.get 3 rfl) rfl) (gg 2 rfl ?_))
 refine Rn.cutR [8] [(1, .pointer (some ⟨b10, 0, none⟩)), (3, .bool (decide (((x0.Kind = 2) ∨ (x0.Kind = 3)) ∨ (x0.Kind = 5)))), (25, .bool (decide ((x0.Kind ≠ 1) ∧ (x0.Int_ ≠ 0))))] (fun hk17 => ?_) ?_
 ·refine Rn.partD (t := 21) rfl (fun h18 => ?_) (fun h18 => ?_)
  ·refine gg 1 rfl (Rn.q rfl (V.ldB Tryz.isAgg3 rfl (hm12.get 3 rfl) rfl) (gg 2 rfl ?_))
   refine hk17 _ ?_
   exact Sub.cons rfl (Sub.cons rfl (Sub.cons (lkv _ rfl (by first | exact andT h18 | exact andF h18 | exact orT h18 | exact orF h18 | exact nandF h18 | exact nandT h18 | exact norT h18 | exact norF h18 | (simp [h18]; done) | grind)) (Sub.nil _)))
  ·refine gg 4 rfl ?_
   refine hk17 _ ?_
   exact Sub.cons rfl (Sub.cons rfl (Sub.cons (lkv _ rfl (by first | exact andT h18 | exact andF h18 | exact orT h18 | exact orF h18 | exact nandF h18 | exact nandT h18 | exact norT h18 | exact norF h18 | (simp [h18]; done) | grind)) (Sub.nil _)))
 refine gg 2 rfl ?_
 obtain ⟨j1, hj1, hM⟩ := jnE hM
 refine Rn.joinG (r := r) (G := Bool) (fun g => [(17, .bool (g))]) (fun g w' => Hp Z0 No w w' [slR A1 c1 T_api_Pair.rep x0.Attrs, slR A3 c3 w64R x0.Hist.Pos.Counts, slR A5 c5 w64R x0.Hist.Neg.Counts, boxR b10 30 [Str (x0.Name), .slice A1 (x0.Attrs).length c1, .int .i64 (x0.Kind), .int .i64 (x0.Temp), .bool (x0.Mono), .int .i64 (x0.Start), .int .i64 (x0.Time), .int .i64 (x0.Int_), .int .u64 (((x0.Re).toNat : Nat) : Int), .int .u64 (((x0.Im).toNat : Nat) : Int), .int .i64 (x0.Hist.Scale), .int .u64 (((x0.Hist.Zero).toNat : Nat) : Int), .int .i64 (x0.Hist.Pos.Offset), .slice A3 (x0.Hist.Pos.Counts).length c3, .int .i64 (x0.Hist.Neg.Offset), .slice A5 (x0.Hist.Neg.Counts).length c5, .int .i64 (x0.Flags)]]) (fun g => j1 g) ?_ ?_
 ·subst hj1
  clear hM
  rintro y19 w20 hm20 hM
  try dsimp only at hM
  refine Rn.condS rfl (fun h21 => ?_) (fun h21 => ?_)
  ·replace hM := iteT h21 hM
   refine gg 4 rfl ?_
   refine Rn.retG1 Tryz.func31 rfl (rvT rfl) ?_
   obtain rfl := someE hM
   exact ⟨rfl, hm20.pick [] rfl (by decide)⟩
  ·replace hM := iteFB hM h21
   refine gg 6 rfl ?_
   refine Rn.retG1 Tryz.func31 rfl (rvT rfl) ?_
   obtain rfl := someE hM
   exact ⟨rfl, hm20.pick [] rfl (by decide)⟩
 intro hk1
 clear hj1
 refine Rn.condD rfl (fun h22 => ?_) (fun h22 => ?_)
 ·replace hM := iteT h22 hM
  refine gg 1 rfl ?_
  exact hk1 (decide ((x0.Kind ≠ 1) ∧ (x0.Int_ ≠ 0))) _ _ (Sub.cons rfl (Sub.nil _)) (hm12.pick [0, 1, 2, 3] rfl (by decide)) hM
 ·replace hM := iteF h22 hM
  refine gg 3 rfl (Rn.q rfl (V.notD rfl) (gg 1 rfl ?_))
  refine Rn.cutR [7] [(1, .pointer (some ⟨b10, 0, none⟩)), (32, .bool (decide ((¬ (((x0.Kind = 2) ∨ (x0.Kind = 3)) ∨ (x0.Kind = 5))) ∧ (((x0.Re).toNat : Int) ≠ 0))))] (fun hk23 => ?_) ?_
  ·refine Rn.partD (t := 28) rfl (fun h24 => ?_) (fun h24 => ?_)
   ·refine gg 1 rfl (Rn.q rfl (V.ldB Tryz.isAgg23 rfl (hm12.get 3 rfl) rfl) (Rn.q rfl (V.neq rfl rfl) (gg 1 rfl ?_)))
    refine hk23 _ ?_
    exact Sub.cons rfl (Sub.cons (lkv _ rfl (by first | exact andT h24 | exact andF h24 | exact orT h24 | exact orF h24 | exact nandF h24 | exact nandT h24 | exact norT h24 | exact norF h24 | (simp [h24]; done) | grind)) (Sub.nil _))
   ·refine gg 4 rfl ?_
    refine hk23 _ ?_
    exact Sub.cons rfl (Sub.cons (lkv _ rfl (by first | exact andT h24 | exact andF h24 | exact orT h24 | exact orF h24 | exact nandF h24 | exact nandT h24 | exact norT h24 | exact norF h24 | (simp [h24]; done) | grind)) (Sub.nil _))
  refine gg 2 rfl ?_
  refine Rn.condD rfl (fun h25 => ?_) (fun h25 => ?_)
  ·replace hM := iteT h25 hM
   refine gg 1 rfl ?_
   exact hk1 (decide ((¬ (((x0.Kind = 2) ∨ (x0.Kind = 3)) ∨ (x0.Kind = 5))) ∧ (((x0.Re).toNat : Int) ≠ 0))) _ _ (Sub.cons rfl (Sub.nil _)) (hm12.pick [0, 1, 2, 3] rfl (by decide)) hM
  ·replace hM := iteF h25 hM
   refine gg 3 rfl (Rn.q rfl (V.ldB Tryz.isAgg3 rfl (hm12.get 3 rfl) rfl) (gg 2 rfl ?_))
   refine Rn.cutR [8] [(1, .pointer (some ⟨b10, 0, none⟩)), (40, .bool (decide ((x0.Kind ≠ 5) ∧ (((x0.Im).toNat : Int) ≠ 0))))] (fun hk26 => ?_) ?_
   ·refine Rn.partD (t := 36) rfl (fun h27 => ?_) (fun h27 => ?_)
    ·refine gg 1 rfl (Rn.q rfl (V.ldB Tryz.isAgg23 rfl (hm12.get 3 rfl) rfl) (Rn.q rfl (V.neq rfl rfl) (gg 1 rfl ?_)))
     refine hk26 _ ?_
     exact Sub.cons rfl (Sub.cons (lkv _ rfl (by first | exact andT h27 | exact andF h27 | exact orT h27 | exact orF h27 | exact nandF h27 | exact nandT h27 | exact norT h27 | exact norF h27 | (simp [h27]; done) | grind)) (Sub.nil _))
    ·refine gg 4 rfl ?_
     refine hk26 _ ?_
     exact Sub.cons rfl (Sub.cons (lkv _ rfl (by first | exact andT h27 | exact andF h27 | exact orT h27 | exact orF h27 | exact nandF h27 | exact nandT h27 | exact norT h27 | exact norF h27 | (simp [h27]; done) | grind)) (Sub.nil _))
   refine gg 2 rfl ?_
   refine Rn.condD rfl (fun h28 => ?_) (fun h28 => ?_)
   ·replace hM := iteT h28 hM
    refine gg 1 rfl ?_
    exact hk1 (decide ((x0.Kind ≠ 5) ∧ (((x0.Im).toNat : Int) ≠ 0))) _ _ (Sub.cons rfl (Sub.nil _)) (hm12.pick [0, 1, 2, 3] rfl (by decide)) hM
   ·replace hM := iteF h28 hM
    refine gg 3 rfl (Rn.q rfl (V.ldB Tryz.isAgg3 rfl (hm12.get 3 rfl) rfl) (gg 2 rfl ?_))
    obtain ⟨j2, hj2, hM⟩ := jnE hM
    refine Rn.joinR (r := r) (G := Bool) [9] (fun g => [(1, .pointer (some ⟨b10, 0, none⟩)), (49, .bool (g))]) (fun g w' => Hp Z0 No w w' [slR A1 c1 T_api_Pair.rep x0.Attrs, slR A3 c3 w64R x0.Hist.Pos.Counts, slR A5 c5 w64R x0.Hist.Neg.Counts, boxR b10 30 [Str (x0.Name), .slice A1 (x0.Attrs).length c1, .int .i64 (x0.Kind), .int .i64 (x0.Temp), .bool (x0.Mono), .int .i64 (x0.Start), .int .i64 (x0.Time), .int .i64 (x0.Int_), .int .u64 (((x0.Re).toNat : Nat) : Int), .int .u64 (((x0.Im).toNat : Nat) : Int), .int .i64 (x0.Hist.Scale), .int .u64 (((x0.Hist.Zero).toNat : Nat) : Int), .int .i64 (x0.Hist.Pos.Offset), .slice A3 (x0.Hist.Pos.Counts).length c3, .int .i64 (x0.Hist.Neg.Offset), .slice A5 (x0.Hist.Neg.Counts).length c5, .int .i64 (x0.Flags)]]) (fun g => j2 g) ?_ ?_
    ·subst hj2
     clear hM
     rintro y29 w30 hm30 hM
     try dsimp only at hM
     refine gg 2 rfl ?_
     refine Rn.condS rfl (fun h31 => ?_) (fun h31 => ?_)
     ·replace hM := iteT h31 hM
      refine gg 1 rfl ?_
      exact hk1 y29 _ _ (Sub.cons rfl (Sub.nil _)) (hm30.pick [0, 1, 2, 3] rfl (by decide)) hM
     ·replace hM := iteFB hM h31
      refine gg 2 rfl (Rn.q rfl (V.ldB Tryz.isAgg3 rfl (hm30.get 3 rfl) rfl) (gg 2 rfl ?_))
      refine Rn.cutR [8] [(57, .bool (decide ((x0.Flags < 0) ∨ (x0.Flags > 31))))] (fun hk32 => ?_) ?_
      ·refine Rn.partD (t := 53) rfl (fun h33 => ?_) (fun h33 => ?_)
       ·refine gg 4 rfl ?_
        refine hk32 _ ?_
        exact Sub.cons (lkv _ rfl (by first | exact andT h33 | exact andF h33 | exact orT h33 | exact orF h33 | exact nandF h33 | exact nandT h33 | exact norT h33 | exact norF h33 | (simp [h33]; done) | grind)) (Sub.nil _)
       ·refine gg 1 rfl (Rn.q rfl (V.ldB Tryz.isAgg3 rfl (hm30.get 3 rfl) rfl) (gg 2 rfl ?_))
        refine hk32 _ ?_
        exact Sub.cons (lkv _ rfl (by first | exact andT h33 | exact andF h33 | exact orT h33 | exact orF h33 | exact nandF h33 | exact nandT h33 | exact norT h33 | exact norF h33 | (simp [h33]; done) | grind)) (Sub.nil _)
      refine gg 2 rfl ?_
      exact hk1 (decide ((x0.Flags < 0) ∨ (x0.Flags > 31))) _ _ (Sub.cons rfl (Sub.nil _)) (hm30.pick [0, 1, 2, 3] rfl (by decide)) hM
    intro hk2
    clear hj2
    refine Rn.partD (t := 44) rfl (fun h34 => ?_) (fun h34 => ?_)
    ·replace hM := iteT h34 hM
     refine gg 1 rfl (Rn.q rfl (V.ldBA [_, _, _, _, _, _] Tryz.isAgg28 Tryz.sizeOf28 rfl (hm12.get 3 rfl) rfl rfl) ?_)
     obtain ⟨p35, e35, hM⟩ := bindE hM
     refine Rn.cl ck57 rfl rfl rfl rfl (m_point_bare_sim (Z0 := All) e35 (show T_api_Hist.rep.rel All _ _ _ from ⟨_, _, rfl, ⟨rfl, trivial⟩, ⟨_, _, rfl, ⟨rfl, trivial⟩, ⟨_, _, rfl, ⟨_, _, rfl, ⟨rfl, trivial⟩, ⟨_, _, rfl, (slR_all (hm12.get 1 rfl)).1, (slR_all (hm12.get 1 rfl)).2.1, (slR_all (hm12.get 1 rfl)).2.2⟩⟩, ⟨_, _, rfl, ⟨rfl, trivial⟩, ⟨_, _, rfl, (slR_all (hm12.get 2 rfl)).1, (slR_all (hm12.get 2 rfl)).2.1, (slR_all (hm12.get 2 rfl)).2.2⟩⟩⟩⟩⟩) :) ?_
     rintro _ w35 ⟨rfl, hq35⟩
     refine ⟨_, rfl, ?_⟩
     have hm36 := hm12.call0 hq35
     refine Rn.q rfl (V.notB rfl) (gg 1 rfl ?_)
     exact hk2 (!p35) _ _ (Sub.cons rfl (Sub.cons rfl (Sub.nil _))) (hm36.pick [0, 1, 2, 3] rfl (by decide)) hM
    ·replace hM := iteF h34 hM
     refine gg 5 rfl ?_
     exact hk2 false _ _ (Sub.cons rfl (Sub.cons rfl (Sub.nil _))) (hm12.pick [0, 1, 2, 3] rfl (by decide)) hM

theorem m_num_Finite_sim {Z0 : Nat → Prop} {w : World} {x0 : UInt64} {r : Bool} (hM : m_num_Finite x0 = some r)  :
    Calls Tryz.prog 32 #[.int .u64 (((x0).toNat : Nat) : Int)] w fun x w' => x = .returned (.bool (r)) ∧ Hp Z0 No w w' [] := by
 have hm0 := Hp.nil Z0 No w
 have hc0 := Calm.nil
 refine Rn.enter Tryz.func32 rfl rfl (Nat.le_of_ble_eq_true rfl) ?_
 refine gg 7 rfl (Rn.q rfl (V.o64 rfl rfl x0 (9218868437227405312 : UInt64) rfl rfl (b64_and _ _ _)) (Rn.q rfl (V.neq rfl rfl) (gg 2 rfl ?_)))
 refine Rn.retG1 Tryz.func32 rfl (rvT rfl) ?_
 obtain rfl := someE hM
 exact ⟨rfl, hm0.pick [] rfl (by decide)⟩

theorem m_num_of_sim {Z0 : Nat → Prop} {w : World} {x0 : UInt64} {r : UInt64} (hM : m_num_of x0 = some r)  :
    Calls Tryz.prog 58 #[.int .u64 (((x0).toNat : Nat) : Int)] w fun x w' => x = .returned (.float .f64 (r).toNat) ∧ Hp Z0 No w w' [] := by
 have hm0 := Hp.nil Z0 No w
 have hc0 := Calm.nil
 refine Rn.enter Tryz.func58 rfl rfl (Nat.le_of_ble_eq_true rfl) ?_
 refine gg 7 rfl (Rn.q rfl (V.fltOf (a := x0) Tryz.func83 (by kernel_rfl) (by kernel_rfl) (by kernel_rfl) (by kernel_rfl) rfl) (gg 2 rfl ?_))
 refine Rn.retG1 Tryz.func58 rfl (rvT rfl) ?_
 obtain rfl := someE hM
 exact ⟨rfl, hm0.pick [] rfl (by decide)⟩

theorem m_num_Less_sim {Z0 : Nat → Prop} {w : World} {x0 : UInt64} {x1 : UInt64} {r : Bool} (hM : m_num_Less x0 x1 = some r)  :
    Calls Tryz.prog 33 #[.int .u64 (((x0).toNat : Nat) : Int), .int .u64 (((x1).toNat : Nat) : Int)] w fun x w' => x = .returned (.bool (r)) ∧ Hp Z0 No w w' [] := by
 have hm0 := Hp.nil Z0 No w
 have hc0 := Calm.nil
 refine Rn.enter Tryz.func33 rfl rfl (Nat.le_of_ble_eq_true rfl) ?_
 refine gg 7 rfl ?_
 obtain ⟨p1, e1, hM⟩ := bindE hM
 refine Rn.cl ck58 rfl rfl rfl rfl (m_num_of_sim (Z0 := All) e1  :) ?_
 rintro _ w1 ⟨rfl, hq1⟩
 refine ⟨_, rfl, ?_⟩
 have hm2 := hm0.call0 hq1
 refine gg 1 rfl ?_
 obtain ⟨p3, e3, hM⟩ := bindE hM
 refine Rn.cl ck58 rfl rfl rfl rfl (m_num_of_sim (Z0 := All) e3  :) ?_
 rintro _ w3 ⟨rfl, hq3⟩
 refine ⟨_, rfl, ?_⟩
 have hm4 := hm2.call0 hq3
 refine Rn.q rfl (V.lssF (a := p1) (b := p3) rfl rfl) (gg 2 rfl ?_)
 refine Rn.retG1 Tryz.func33 rfl (rvT rfl) ?_
 obtain rfl := someE hM
 exact ⟨rfl, hm4.pick [] rfl (by decide)⟩

theorem m_hist_sides_sim {Z0 : Nat → Prop} {w : World} {x0 : T_api_Hist} {cs0 : List Value} {r : T_arr2_api_Side} (hM : m_hist_sides x0 = some r) (h0 : T_api_Hist.rep.rel Z0 w cs0 x0) :
    Calls Tryz.prog 59 #[.agg cs0.toArray] w fun x w' => ∃ A_0_0 c_0_0 A_0_1 c_0_1, x = .returned (.agg [.int .i64 (r.a0.Offset), .slice A_0_0 (r.a0.Counts).length c_0_0, .int .i64 (r.a1.Offset), .slice A_0_1 (r.a1.Counts).length c_0_1].toArray) ∧ Hp Z0 No w w' [slR A_0_0 c_0_0 w64R r.a0.Counts, slR A_0_1 c_0_1 w64R r.a1.Counts] := by
 have hm0 := Hp.nil Z0 No w
 have hc0 := Calm.nil
 obtain ⟨_, _, rfl, ⟨rfl, _⟩, ⟨_, _, rfl, ⟨rfl, _⟩, ⟨_, _, rfl, ⟨_, _, rfl, ⟨rfl, _⟩, ⟨A1, c1, rfl, p1, q1, s1⟩⟩, ⟨_, _, rfl, ⟨rfl, _⟩, ⟨A3, c3, rfl, p3, q3, s3⟩⟩⟩⟩⟩ := h0
 have hm5 := hm0.know (slR A1 c1 w64R x0.Pos.Counts) (fun _ h => h) (hm0.in0 hc0 ⟨p1, q1, s1⟩)
 replace hc0 := hc0.snoc (r := slR A1 c1 w64R x0.Pos.Counts) (fun _ h => h)
 have hm6 := hm5.know (slR A3 c3 w64R x0.Neg.Counts) (fun _ h => h) (hm5.in0 hc0 ⟨p3, q3, s3⟩)
 replace hc0 := hc0.snoc (r := slR A3 c3 w64R x0.Neg.Counts) (fun _ h => h)
 refine Rn.enter Tryz.func59 rfl rfl (Nat.le_of_ble_eq_true rfl) ?_
 refine gg 2 rfl (Rn.box rfl rfl rfl rfl rfl ?_)
 intro b7 w7 hb7 m7 e7
 have hm9 := (hm6.addBox hb7 e7 m7).nf [_, _, boxR _ _ [_, _, _, _, _, _]] rfl
 refine Rn.alloc rfl rfl rfl Tryz.zeroValue100 rfl ?_
 intro b10 w10 hb10 m10 e10
 have hm12 := (hm9.addBox hb10 e10 m10).nf [_, _, _, boxR _ _ [_, _, _, _]] rfl
 refine gg 4 rfl (Rn.q rfl (V.ldBA [_, _] Tryz.isAgg26 Tryz.sizeOf26 rfl (hm12.get 2 rfl) rfl rfl) (gg 1 rfl (Rn.q rfl (V.ldBA [_, _] Tryz.isAgg26 Tryz.sizeOf26 rfl (hm12.get 2 rfl) rfl rfl) (Rn.q rfl (V.bldA (cs := [_, _, _, _]) _ ar100 (offs_range 2 2) rfl rfl) (Rn.st rfl rfl Tryz.sizeOf100 rfl rfl rfl rfl (by first | exact ones rfl | (simp [Value.oneCell']; done)) (hm12.get 3 rfl) (by first | exact Nat.le_of_ble_eq_true rfl | (simp; done)) ?_)))))
 intro w13 m13 x13
 have hm14 := (hm12.st 3 rfl x13 m13).nf [_, _, _, boxR _ _ [_, _, _, _]] rfl
 refine gg 1 rfl ?_
 refine Rn.retG1 Tryz.func59 rfl (rvC rfl Tryz.isAgg100 Tryz.sizeOf100 (hm14.get 3 rfl) rfl) ?_
 obtain rfl := someE hM
 exact ⟨A1, c1, A3, c3, rfl, hm14.pick [0, 1] rfl (by decide)⟩

theorem m_hist_check_sim {Z0 : Nat → Prop} {w : World} {x0 : T_api_Side} {cs0 : List Value} {r : Int} (hM : m_hist_check x0 = some r) (h0 : T_api_Side.rep.rel Z0 w cs0 x0) :
    Calls Tryz.prog 60 #[.agg cs0.toArray] w fun x w' => x = .returned (.int .i64 (r)) ∧ Hp Z0 No w w' [] := by
 have hm0 := Hp.nil Z0 No w
 have hc0 := Calm.nil
 obtain ⟨_, _, rfl, ⟨rfl, _⟩, ⟨A1, c1, rfl, p1, q1, s1⟩⟩ := h0
 have hm3 := hm0.know (slR A1 c1 w64R x0.Counts) (fun _ h => h) (hm0.in0 hc0 ⟨p1, q1, s1⟩)
 replace hc0 := hc0.snoc (r := slR A1 c1 w64R x0.Counts) (fun _ h => h)
 refine Rn.enter Tryz.func60 rfl rfl (Nat.le_of_ble_eq_true rfl) ?_
 refine gg 2 rfl (Rn.box rfl rfl rfl rfl rfl ?_)
 intro b4 w4 hb4 m4 e4
 have hm6 := (hm3.addBox hb4 e4 m4).nf [_, boxR _ _ [_, _]] rfl
 refine gg 5 rfl (Rn.q rfl (V.ldB Tryz.isAgg24 rfl (hm6.get 1 rfl) rfl) (Rn.q rfl (V.lenV Tryz.underlying24 rfl) (gg 10 rfl ?_)))
 refine Rn.condD rfl (fun h7 => ?_) (fun h7 => ?_)
 ·replace hM := iteT h7 hM
  refine gg 4 rfl ?_
  refine Rn.retG1 Tryz.func60 rfl (rvT rfl) ?_
  obtain rfl := someE hM
  exact ⟨rfl, hm6.pick [] rfl (by decide)⟩
 ·replace hM := iteF h7 hM
  refine gg 5 rfl ?_
  refine Rn.cutR [7] [(1, .pointer (some ⟨b4, 0, none⟩)), (3, .int .i64 ((x0.Counts.length : Int))), (17, .bool (decide (((x0.Counts.length : Int) = 0) ∧ (x0.Offset ≠ 0))))] (fun hk8 => ?_) ?_
  ·refine Rn.partD (t := 13) rfl (fun h9 => ?_) (fun h9 => ?_)
   ·refine gg 1 rfl (Rn.q rfl (V.ldB Tryz.isAgg3 rfl (hm6.get 1 rfl) rfl) (gg 2 rfl ?_))
    refine hk8 _ ?_
    exact Sub.cons rfl (Sub.cons rfl (Sub.cons (lkv _ rfl (by first | exact andT h9 | exact andF h9 | exact orT h9 | exact orF h9 | exact nandF h9 | exact nandT h9 | exact norT h9 | exact norF h9 | (simp [h9]; done) | grind)) (Sub.nil _)))
   ·refine gg 4 rfl ?_
    refine hk8 _ ?_
    exact Sub.cons rfl (Sub.cons rfl (Sub.cons (lkv _ rfl (by first | exact andT h9 | exact andF h9 | exact orT h9 | exact orF h9 | exact nandF h9 | exact nandT h9 | exact norT h9 | exact norF h9 | (simp [h9]; done) | grind)) (Sub.nil _)))
  refine gg 2 rfl ?_
  refine Rn.condD rfl (fun h10 => ?_) (fun h10 => ?_)
  ·replace hM := iteT h10 hM
   refine gg 4 rfl ?_
   refine Rn.retG1 Tryz.func60 rfl (rvT rfl) ?_
   obtain rfl := someE hM
   exact ⟨rfl, hm6.pick [] rfl (by decide)⟩
  ·replace hM := iteF h10 hM
   refine gg 6 rfl ?_
   refine Rn.condD rfl (fun h11 => ?_) (fun h11 => ?_)
   ·replace hM := iteT h11 hM
    refine gg 4 rfl ?_
    refine Rn.retG1 Tryz.func60 rfl (rvT rfl) ?_
    obtain rfl := someE hM
    exact ⟨rfl, hm6.pick [] rfl (by decide)⟩
   ·replace hM := iteF h11 hM
    refine gg 3 rfl (Rn.q rfl (V.ldB Tryz.isAgg24 rfl (hm6.get 1 rfl) rfl) ?_)
    obtain ⟨z12, e12, hM⟩ := bindE hM
    refine Rn.ixH hm6 0 rfl e12 rfl rfl rfl Tryz.underlying24 Tryz.sizeOf23 rfl rfl rfl rfl ?_
    rintro b12 o12 vs12 ⟨rfl, _⟩ hm12
    refine Rn.q rfl (V.ldR0 Tryz.isAgg23 rfl (hm12.get 2 rfl).2 rfl) (Rn.q rfl (V.eql rfl rfl) (gg 1 rfl ?_))
    obtain ⟨j1, hj1, hM⟩ := jnE hM
    refine Rn.joinR (r := r) (G := Bool) [14] (fun g => [(1, .pointer (some ⟨b4, 0, none⟩)), (3, .int .i64 ((x0.Counts.length : Int))), (35, .bool (g))]) (fun g w' => Hp Z0 No w w' [slR A1 c1 w64R x0.Counts, boxR b4 26 [.int .i64 (x0.Offset), .slice A1 (x0.Counts).length c1]]) (fun g => j1 g) ?_ ?_
    ·subst hj1
     clear hM
     rintro y14 w15 hm15 hM
     try dsimp only at hM
     refine gg 2 rfl ?_
     refine Rn.condS rfl (fun h16 => ?_) (fun h16 => ?_)
     ·replace hM := iteT h16 hM
      refine gg 4 rfl ?_
      refine Rn.retG1 Tryz.func60 rfl (rvT rfl) ?_
      obtain rfl := someE hM
      exact ⟨rfl, hm15.pick [] rfl (by decide)⟩
     ·replace hM := iteFB hM h16
      refine gg 3 rfl (Rn.q rfl (V.ldB Tryz.isAgg3 rfl (hm15.get 1 rfl) rfl) (gg 2 rfl ?_))
      obtain ⟨j2, hj2, hM⟩ := jnE hM
      refine Rn.joinR (r := r) (G := Bool) [11] (fun g => [(47, .bool (g))]) (fun g w' => Hp Z0 No w w' [slR A1 c1 w64R x0.Counts, boxR b4 26 [.int .i64 (x0.Offset), .slice A1 (x0.Counts).length c1]]) (fun g => j2 g) ?_ ?_
      ·subst hj2
       clear hM
       rintro y17 w18 hm18 hM
       try dsimp only at hM
       refine gg 2 rfl ?_
       refine Rn.condS rfl (fun h19 => ?_) (fun h19 => ?_)
       ·replace hM := iteT h19 hM
        refine gg 4 rfl ?_
        refine Rn.retG1 Tryz.func60 rfl (rvT rfl) ?_
        obtain rfl := someE hM
        exact ⟨rfl, hm18.pick [] rfl (by decide)⟩
       ·replace hM := iteFB hM h19
        refine gg 6 rfl ?_
        refine Rn.retG1 Tryz.func60 rfl (rvT rfl) ?_
        obtain rfl := someE hM
        exact ⟨rfl, hm18.pick [] rfl (by decide)⟩
      intro hk2
      clear hj2
      refine Rn.partD (t := 40) rfl (fun h20 => ?_) (fun h20 => ?_)
      ·replace hM := iteT h20 hM
       refine gg 7 rfl ?_
       exact hk2 true _ _ (Sub.cons rfl (Sub.nil _)) (hm15.pick [0, 1] rfl (by decide)) hM
      ·replace hM := iteF h20 hM
       refine gg 1 rfl (Rn.q rfl (V.ldB Tryz.isAgg3 rfl (hm15.get 1 rfl) rfl) (gg 5 rfl ?_))
       exact hk2 (decide (x0.Offset > W64 (1073741824 - (W64 ((x0.Counts.length : Int) - 1))))) _ _ (Sub.cons rfl (Sub.nil _)) (hm15.pick [0, 1] rfl (by decide)) hM
    intro hk1
    clear hj1
    refine Rn.partD (t := 27) rfl (fun h21 => ?_) (fun h21 => ?_)
    ·replace hM := iteT h21 hM
     refine gg 8 rfl ?_
     exact hk1 true _ _ (Sub.cons rfl (Sub.cons rfl (Sub.cons rfl (Sub.nil _)))) (hm12.pick [0, 1] rfl (by decide)) hM
    ·replace hM := iteF h21 hM
     refine gg 1 rfl (Rn.q rfl (V.ldB Tryz.isAgg24 rfl (hm12.get 1 rfl) rfl) (gg 2 rfl ?_))
     obtain ⟨z22, e22, hM⟩ := bindE hM
     refine Rn.ixH hm12 0 rfl e22 rfl rfl rfl Tryz.underlying24 Tryz.sizeOf23 rfl rfl rfl rfl ?_
     rintro b22 o22 vs22 ⟨rfl, _⟩ hm22
     refine Rn.q rfl (V.ldR0 Tryz.isAgg23 rfl (hm22.get 3 rfl).2 rfl) (Rn.q rfl (V.eql rfl rfl) (gg 1 rfl ?_))
     exact hk1 (decide (((z22).toNat : Int) = 0)) _ _ (Sub.cons rfl (Sub.cons rfl (Sub.cons rfl (Sub.nil _)))) (hm22.pick [0, 1] rfl (by decide)) hM

end Go.Proofs.YtfcpdojcfogkbaaGreat
