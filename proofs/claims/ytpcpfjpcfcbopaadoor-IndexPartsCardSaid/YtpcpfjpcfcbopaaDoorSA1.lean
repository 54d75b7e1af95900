/-
  The calls of functions of the program answer as their plain forms say, part 1. Printed by a program.
-/
import Derived.Test.YtpcpfjpcfcbopaaDoorRows
import Derived.Test.YtpcpfjpcfcbopaaDoorMA
import Derived.Test.YtpcpfjpcfcbopaaDoorWv
import Derived.Test.YtpcpfjpcfcbopaaDoorV2A
set_option maxRecDepth 20000
set_option maxHeartbeats 4000000
set_option linter.unusedVariables false
set_option linter.unusedSimpArgs false
namespace Go.Proofs.YtpcpfjpcfcbopaaDoor
open Go Go.RowKit Go.Wk
def gl0 : List Value := [iv 0, iv 0]
theorem ck5 : CallOk Tryd.prog 5 := ⟨_, _, Tryd.func5, rfl, by kernel_rfl⟩
theorem ck6 : CallOk Tryd.prog 6 := ⟨_, _, Tryd.func6, rfl, by kernel_rfl⟩
theorem ck7 : CallOk Tryd.prog 7 := ⟨_, _, Tryd.func7, rfl, by kernel_rfl⟩
theorem ck8 : CallOk Tryd.prog 8 := ⟨_, _, Tryd.func8, rfl, by kernel_rfl⟩
theorem ck9 : CallOk Tryd.prog 9 := ⟨_, _, Tryd.func9, rfl, by kernel_rfl⟩
theorem ck10 : CallOk Tryd.prog 10 := ⟨_, _, Tryd.func10, rfl, by kernel_rfl⟩
theorem ck11 : CallOk Tryd.prog 11 := ⟨_, _, Tryd.func11, rfl, by kernel_rfl⟩
theorem ck12 : CallOk Tryd.prog 12 := ⟨_, _, Tryd.func12, rfl, by kernel_rfl⟩
theorem ck13 : CallOk Tryd.prog 13 := ⟨_, _, Tryd.func13, rfl, by kernel_rfl⟩
theorem ck14 : CallOk Tryd.prog 14 := ⟨_, _, Tryd.func14, rfl, by kernel_rfl⟩
theorem ck15 : CallOk Tryd.prog 15 := ⟨_, _, Tryd.func15, rfl, by kernel_rfl⟩
theorem ck16 : CallOk Tryd.prog 16 := ⟨_, _, Tryd.func16, rfl, by kernel_rfl⟩
theorem ck17 : CallOk Tryd.prog 17 := ⟨_, _, Tryd.func17, rfl, by kernel_rfl⟩
theorem ck18 : CallOk Tryd.prog 18 := ⟨_, _, Tryd.func18, rfl, by kernel_rfl⟩
theorem ck19 : CallOk Tryd.prog 19 := ⟨_, _, Tryd.func19, rfl, by kernel_rfl⟩
theorem ck20 : CallOk Tryd.prog 20 := ⟨_, _, Tryd.func20, rfl, by kernel_rfl⟩
theorem ck21 : CallOk Tryd.prog 21 := ⟨_, _, Tryd.func21, rfl, by kernel_rfl⟩
theorem ck22 : CallOk Tryd.prog 22 := ⟨_, _, Tryd.func22, rfl, by kernel_rfl⟩
theorem ck23 : CallOk Tryd.prog 23 := ⟨_, _, Tryd.func23, rfl, by kernel_rfl⟩
theorem ck24 : CallOk Tryd.prog 24 := ⟨_, _, Tryd.func24, rfl, by kernel_rfl⟩
theorem ck25 : CallOk Tryd.prog 25 := ⟨_, _, Tryd.func25, rfl, by kernel_rfl⟩
theorem ck26 : CallOk Tryd.prog 26 := ⟨_, _, Tryd.func26, rfl, by kernel_rfl⟩
theorem ck27 : CallOk Tryd.prog 27 := ⟨_, _, Tryd.func27, rfl, by kernel_rfl⟩
theorem ck28 : CallOk Tryd.prog 28 := ⟨_, _, Tryd.func28, rfl, by kernel_rfl⟩
theorem ck29 : CallOk Tryd.prog 29 := ⟨_, _, Tryd.func29, rfl, by kernel_rfl⟩
theorem ck30 : CallOk Tryd.prog 30 := ⟨_, _, Tryd.func30, rfl, by kernel_rfl⟩
theorem ck31 : CallOk Tryd.prog 31 := ⟨_, _, Tryd.func31, rfl, by kernel_rfl⟩
theorem ck32 : CallOk Tryd.prog 32 := ⟨_, _, Tryd.func32, rfl, by kernel_rfl⟩
theorem ck33 : CallOk Tryd.prog 33 := ⟨_, _, Tryd.func33, rfl, by kernel_rfl⟩
theorem ck34 : CallOk Tryd.prog 34 := ⟨_, _, Tryd.func34, rfl, by kernel_rfl⟩
theorem ck35 : CallOk Tryd.prog 35 := ⟨_, _, Tryd.func35, rfl, by kernel_rfl⟩
theorem ck36 : CallOk Tryd.prog 36 := ⟨_, _, Tryd.func36, rfl, by kernel_rfl⟩
theorem ck37 : CallOk Tryd.prog 37 := ⟨_, _, Tryd.func37, rfl, by kernel_rfl⟩
theorem ck38 : CallOk Tryd.prog 38 := ⟨_, _, Tryd.func38, rfl, by kernel_rfl⟩
theorem ck39 : CallOk Tryd.prog 39 := ⟨_, _, Tryd.func39, rfl, by kernel_rfl⟩
theorem ck40 : CallOk Tryd.prog 40 := ⟨_, _, Tryd.func40, rfl, by kernel_rfl⟩
theorem ck41 : CallOk Tryd.prog 41 := ⟨_, _, Tryd.func41, rfl, by kernel_rfl⟩
theorem ck42 : CallOk Tryd.prog 42 := ⟨_, _, Tryd.func42, rfl, by kernel_rfl⟩
theorem ck43 : CallOk Tryd.prog 43 := ⟨_, _, Tryd.func43, rfl, by kernel_rfl⟩
theorem ck44 : CallOk Tryd.prog 44 := ⟨_, _, Tryd.func44, rfl, by kernel_rfl⟩
theorem ck45 : CallOk Tryd.prog 45 := ⟨_, _, Tryd.func45, rfl, by kernel_rfl⟩
theorem ck46 : CallOk Tryd.prog 46 := ⟨_, _, Tryd.func46, rfl, by kernel_rfl⟩
theorem ck47 : CallOk Tryd.prog 47 := ⟨_, _, Tryd.func47, rfl, by kernel_rfl⟩
theorem ck48 : CallOk Tryd.prog 48 := ⟨_, _, Tryd.func48, rfl, by kernel_rfl⟩
theorem ck49 : CallOk Tryd.prog 49 := ⟨_, _, Tryd.func49, rfl, by kernel_rfl⟩
theorem ck50 : CallOk Tryd.prog 50 := ⟨_, _, Tryd.func50, rfl, by kernel_rfl⟩
theorem ck51 : CallOk Tryd.prog 51 := ⟨_, _, Tryd.func51, rfl, by kernel_rfl⟩
theorem ck52 : CallOk Tryd.prog 52 := ⟨_, _, Tryd.func52, rfl, by kernel_rfl⟩
theorem ck53 : CallOk Tryd.prog 53 := ⟨_, _, Tryd.func53, rfl, by kernel_rfl⟩
theorem ck54 : CallOk Tryd.prog 54 := ⟨_, _, Tryd.func54, rfl, by kernel_rfl⟩
theorem ck55 : CallOk Tryd.prog 55 := ⟨_, _, Tryd.func55, rfl, by kernel_rfl⟩
theorem ck56 : CallOk Tryd.prog 56 := ⟨_, _, Tryd.func56, rfl, by kernel_rfl⟩
theorem ck59 : CallOk Tryd.prog 59 := ⟨_, _, Tryd.func59, rfl, by kernel_rfl⟩
theorem ck60 : CallOk Tryd.prog 60 := ⟨_, _, Tryd.func60, rfl, by kernel_rfl⟩
theorem ck61 : CallOk Tryd.prog 61 := ⟨_, _, Tryd.func61, rfl, by kernel_rfl⟩
theorem ck62 : CallOk Tryd.prog 62 := ⟨_, _, Tryd.func62, rfl, by kernel_rfl⟩
theorem ck63 : CallOk Tryd.prog 63 := ⟨_, _, Tryd.func63, rfl, by kernel_rfl⟩
theorem ck64 : CallOk Tryd.prog 64 := ⟨_, _, Tryd.func64, rfl, by kernel_rfl⟩
theorem ck65 : CallOk Tryd.prog 65 := ⟨_, _, Tryd.func65, rfl, by kernel_rfl⟩
theorem ck66 : CallOk Tryd.prog 66 := ⟨_, _, Tryd.func66, rfl, by kernel_rfl⟩
theorem ck67 : CallOk Tryd.prog 67 := ⟨_, _, Tryd.func67, rfl, by kernel_rfl⟩
theorem ck68 : CallOk Tryd.prog 68 := ⟨_, _, Tryd.func68, rfl, by kernel_rfl⟩
theorem ck69 : CallOk Tryd.prog 69 := ⟨_, _, Tryd.func69, rfl, by kernel_rfl⟩
theorem ck73 : CallOk Tryd.prog 73 := ⟨_, _, Tryd.func73, rfl, by kernel_rfl⟩
theorem st40 : StOk Tryd.prog 40 [Str [], Str [], .bool false] [(0, 1), (1, 1), (2, 1)] := ⟨Tryd.zeroValue40, _, Tryd.underlying40, fun w => by kernel_rfl⟩
theorem st50 : StOk Tryd.prog 50 [.slice none 0 0, .map none] [(0, 1), (1, 1)] := ⟨Tryd.zeroValue50, _, Tryd.underlying50, fun w => by kernel_rfl⟩
theorem st60 : StOk Tryd.prog 60 [Str [], .slice none 0 0, .int .i64 0, .int .i64 0, .bool false, .int .i64 0, .int .i64 0, .int .i64 0, .int .u64 0, .int .u64 0, .int .i64 0, .int .u64 0, .int .i64 0, .slice none 0 0, .int .i64 0, .slice none 0 0, .int .i64 0] [(0, 1), (1, 1), (2, 1), (3, 1), (4, 1), (5, 1), (6, 1), (7, 1), (8, 1), (9, 1), (10, 6), (16, 1)] := ⟨Tryd.zeroValue60, _, Tryd.underlying60, fun w => by kernel_rfl⟩
theorem st64 : StOk Tryd.prog 64 [Str [], Str []] [(0, 1), (1, 1)] := ⟨Tryd.zeroValue64, _, Tryd.underlying64, fun w => by kernel_rfl⟩
theorem st83 : StOk Tryd.prog 83 [Str [], .slice none 0 0] [(0, 1), (1, 1)] := ⟨Tryd.zeroValue83, _, Tryd.underlying83, fun w => by kernel_rfl⟩
theorem st87 : StOk Tryd.prog 87 [.int .i64 0, .int .u64 0, .int .u64 0, .int .u64 0, .int .u64 0, .bool false, .int .u8 0] [(0, 1), (1, 4), (5, 1), (6, 1)] := ⟨Tryd.zeroValue87, _, Tryd.underlying87, fun w => by kernel_rfl⟩
theorem st89 : StOk Tryd.prog 89 [.int .i64 0, .int .i64 0] [(0, 1), (1, 1)] := ⟨Tryd.zeroValue89, _, Tryd.underlying89, fun w => by kernel_rfl⟩
theorem st97 : StOk Tryd.prog 97 [.slice none 0 0] [(0, 1)] := ⟨Tryd.zeroValue97, _, Tryd.underlying97, fun w => by kernel_rfl⟩
theorem ar85 : ArOk Tryd.prog 85 [.int .u64 0, .int .u64 0, .int .u64 0, .int .u64 0] 4 1 53 := ⟨Tryd.zeroValue85, Tryd.underlying85, Tryd.sizeOf53⟩
theorem ar120 : ArOk Tryd.prog 120 [.int .i64 0, .slice none 0 0, .int .i64 0, .slice none 0 0] 2 2 56 := ⟨Tryd.zeroValue120, Tryd.underlying120, Tryd.sizeOf56⟩
theorem fo40 : FoOk Tryd.prog 40 [0, 1, 2] := ⟨_, Tryd.underlying40, ⟨_, Tryd.sizeOf9, rfl⟩, rfl, ⟨_, Tryd.sizeOf9, rfl⟩, rfl, ⟨_, Tryd.sizeOf4, rfl⟩, rfl, trivial⟩
theorem fo50 : FoOk Tryd.prog 50 [0, 1] := ⟨_, Tryd.underlying50, ⟨_, Tryd.sizeOf28, rfl⟩, rfl, ⟨_, Tryd.sizeOf48, rfl⟩, rfl, trivial⟩
theorem fo56 : FoOk Tryd.prog 56 [0, 1] := ⟨_, Tryd.underlying56, ⟨_, Tryd.sizeOf3, rfl⟩, rfl, ⟨_, Tryd.sizeOf54, rfl⟩, rfl, trivial⟩
theorem fo58 : FoOk Tryd.prog 58 [0, 1, 2, 4] := ⟨_, Tryd.underlying58, ⟨_, Tryd.sizeOf3, rfl⟩, rfl, ⟨_, Tryd.sizeOf53, rfl⟩, rfl, ⟨_, Tryd.sizeOf56, rfl⟩, rfl, ⟨_, Tryd.sizeOf56, rfl⟩, rfl, trivial⟩
theorem fo60 : FoOk Tryd.prog 60 [0, 1, 2, 3, 4, 5, 6, 7, 8, 9, 10, 16] := ⟨_, Tryd.underlying60, ⟨_, Tryd.sizeOf9, rfl⟩, rfl, ⟨_, Tryd.sizeOf52, rfl⟩, rfl, ⟨_, Tryd.sizeOf3, rfl⟩, rfl, ⟨_, Tryd.sizeOf3, rfl⟩, rfl, ⟨_, Tryd.sizeOf4, rfl⟩, rfl, ⟨_, Tryd.sizeOf3, rfl⟩, rfl, ⟨_, Tryd.sizeOf3, rfl⟩, rfl, ⟨_, Tryd.sizeOf3, rfl⟩, rfl, ⟨_, Tryd.sizeOf53, rfl⟩, rfl, ⟨_, Tryd.sizeOf53, rfl⟩, rfl, ⟨_, Tryd.sizeOf58, rfl⟩, rfl, ⟨_, Tryd.sizeOf3, rfl⟩, rfl, trivial⟩
theorem fo64 : FoOk Tryd.prog 64 [0, 1] := ⟨_, Tryd.underlying64, ⟨_, Tryd.sizeOf9, rfl⟩, rfl, ⟨_, Tryd.sizeOf9, rfl⟩, rfl, trivial⟩
theorem fo83 : FoOk Tryd.prog 83 [0, 1] := ⟨_, Tryd.underlying83, ⟨_, Tryd.sizeOf9, rfl⟩, rfl, ⟨_, Tryd.sizeOf81, rfl⟩, rfl, trivial⟩
theorem fo87 : FoOk Tryd.prog 87 [0, 1, 5, 6] := ⟨_, Tryd.underlying87, ⟨_, Tryd.sizeOf3, rfl⟩, rfl, ⟨_, Tryd.sizeOf85, rfl⟩, rfl, ⟨_, Tryd.sizeOf4, rfl⟩, rfl, ⟨_, Tryd.sizeOf5, rfl⟩, rfl, trivial⟩
theorem fo89 : FoOk Tryd.prog 89 [0, 1] := ⟨_, Tryd.underlying89, ⟨_, Tryd.sizeOf3, rfl⟩, rfl, ⟨_, Tryd.sizeOf33, rfl⟩, rfl, trivial⟩
theorem fo97 : FoOk Tryd.prog 97 [0] := ⟨_, Tryd.underlying97, ⟨_, Tryd.sizeOf43, rfl⟩, rfl, trivial⟩
def tab : List (Nat × List Nat) := [(40, [0, 1, 2]), (50, [0, 1]), (56, [0, 1]), (58, [0, 1, 2, 4]), (60, [0, 1, 2, 3, 4, 5, 6, 7, 8, 9, 10, 16]), (64, [0, 1]), (83, [0, 1]), (87, [0, 1, 5, 6]), (89, [0, 1]), (97, [0])]
theorem tabOk : TabOk Tryd.prog tab := (.cons fo40 (.cons fo50 (.cons fo56 (.cons fo58 (.cons fo60 (.cons fo64 (.cons fo83 (.cons fo87 (.cons fo89 (.cons fo97 TabOk.nil))))))))))
theorem gg {f : FuncId} {n : Nat} {R : Ending → World → Prop} {k k' : List Item} {e e' : Env} {w : World} (m : Nat) (h : sr tab n m k e = some (k', e')) (hr : Rn Tryd.prog f n R k' e' w) : Rn Tryd.prog f n R k e w := sr_ok tabOk m k e h hr
theorem dd {n : Nat} {K : Act → World → Prop} {S : World → Prop} {w : World} {ops : Array Oper} {fuel : Nat} {listed : Array Bool} {e e' : Env} (is : List Nat) (hk : okTakes ops listed is = true) (hf : Nat.ble is.length fuel = true) (h : dr tab n ops is e = some e') (hr : RG Tryd.prog n K ops S (fuel - is.length) (taken listed is) e' w) : RG Tryd.prog n K ops S fuel listed e w := dr_ok tabOk is hk hf h hr
theorem T_api_Pair.relE {Z : Nat → Prop} {w : World} {vs : List Value} {x : T_api_Pair} (h : T_api_Pair.rep.rel Z w vs x) : vs = [Str (x.Key), Str (x.Val)] := by
  obtain ⟨_, _, rfl, ⟨rfl, _⟩, ⟨rfl, _⟩⟩ := h
  exact rfl
theorem T_api_Side.relE {Z : Nat → Prop} {w : World} {vs : List Value} {x : T_api_Side} (h : T_api_Side.rep.rel Z w vs x) : ∃ (Ar1 : Option Addr) (cr1 : Nat), vs = [iv x.Offset, .slice Ar1 (x.Counts).length cr1] ∧ (slR Ar1 cr1 w64R x.Counts).H Z w := by
  obtain ⟨_, _, rfl, ⟨rfl, _⟩, ⟨Ar1, cr1, rfl, p1, q1, s1⟩⟩ := h
  exact ⟨Ar1, cr1, rfl, ⟨p1, q1, s1⟩⟩
theorem T_api_Hist.relE {Z : Nat → Prop} {w : World} {vs : List Value} {x : T_api_Hist} (h : T_api_Hist.rep.rel Z w vs x) : ∃ (Ar1 : Option Addr) (cr1 : Nat) (Ar3 : Option Addr) (cr3 : Nat), vs = [iv x.Scale, u64v x.Zero, iv x.Pos.Offset, .slice Ar1 (x.Pos.Counts).length cr1, iv x.Neg.Offset, .slice Ar3 (x.Neg.Counts).length cr3] ∧ (slR Ar1 cr1 w64R x.Pos.Counts).H Z w ∧ (slR Ar3 cr3 w64R x.Neg.Counts).H Z w := by
  obtain ⟨_, _, rfl, ⟨rfl, _⟩, ⟨_, _, rfl, ⟨rfl, _⟩, ⟨_, _, rfl, ⟨_, _, rfl, ⟨rfl, _⟩, ⟨Ar1, cr1, rfl, p1, q1, s1⟩⟩, ⟨_, _, rfl, ⟨rfl, _⟩, ⟨Ar3, cr3, rfl, p3, q3, s3⟩⟩⟩⟩⟩ := h
  exact ⟨Ar1, cr1, Ar3, cr3, rfl, ⟨p1, q1, s1⟩, ⟨p3, q3, s3⟩⟩
theorem T_api_Point.relE {Z : Nat → Prop} {w : World} {vs : List Value} {x : T_api_Point} (h : T_api_Point.rep.rel Z w vs x) : ∃ (Ar1 : Option Addr) (cr1 : Nat) (Ar3 : Option Addr) (cr3 : Nat) (Ar5 : Option Addr) (cr5 : Nat), vs = [Str (x.Name), .slice Ar1 (x.Attrs).length cr1, iv x.Kind, iv x.Temp, .bool (x.Mono), iv x.Start, iv x.Time, iv x.Int_, u64v x.Re, u64v x.Im, iv x.Hist.Scale, u64v x.Hist.Zero, iv x.Hist.Pos.Offset, .slice Ar3 (x.Hist.Pos.Counts).length cr3, iv x.Hist.Neg.Offset, .slice Ar5 (x.Hist.Neg.Counts).length cr5, iv x.Flags] ∧ (slR Ar1 cr1 T_api_Pair.rep x.Attrs).H Z w ∧ (slR Ar3 cr3 w64R x.Hist.Pos.Counts).H Z w ∧ (slR Ar5 cr5 w64R x.Hist.Neg.Counts).H Z w := by
  obtain ⟨_, _, rfl, ⟨rfl, _⟩, ⟨_, _, rfl, ⟨Ar1, cr1, rfl, p1, q1, s1⟩, ⟨_, _, rfl, ⟨rfl, _⟩, ⟨_, _, rfl, ⟨rfl, _⟩, ⟨_, _, rfl, ⟨rfl, _⟩, ⟨_, _, rfl, ⟨rfl, _⟩, ⟨_, _, rfl, ⟨rfl, _⟩, ⟨_, _, rfl, ⟨rfl, _⟩, ⟨_, _, rfl, ⟨rfl, _⟩, ⟨_, _, rfl, ⟨rfl, _⟩, ⟨_, _, rfl, ⟨_, _, rfl, ⟨rfl, _⟩, ⟨_, _, rfl, ⟨rfl, _⟩, ⟨_, _, rfl, ⟨_, _, rfl, ⟨rfl, _⟩, ⟨Ar3, cr3, rfl, p3, q3, s3⟩⟩, ⟨_, _, rfl, ⟨rfl, _⟩, ⟨Ar5, cr5, rfl, p5, q5, s5⟩⟩⟩⟩⟩, ⟨rfl, _⟩⟩⟩⟩⟩⟩⟩⟩⟩⟩⟩⟩ := h
  exact ⟨Ar1, cr1, Ar3, cr3, Ar5, cr5, rfl, ⟨p1, q1, s1⟩, ⟨p3, q3, s3⟩, ⟨p5, q5, s5⟩⟩
theorem T_api_Match.relE {Z : Nat → Prop} {w : World} {vs : List Value} {x : T_api_Match} (h : T_api_Match.rep.rel Z w vs x) : vs = [Str (x.Key), Str (x.Glob), .bool (x.Not)] := by
  obtain ⟨_, _, rfl, ⟨rfl, _⟩, ⟨_, _, rfl, ⟨rfl, _⟩, ⟨rfl, _⟩⟩⟩ := h
  exact rfl
theorem T_glob_piece.relE {Z : Nat → Prop} {w : World} {vs : List Value} {x : T_glob_piece} (h : T_glob_piece.rep.rel Z w vs x) : vs = [iv x.kind, u64v x.set.a0, u64v x.set.a1, u64v x.set.a2, u64v x.set.a3, .bool (x.plain), u8v x.c] := by
  obtain ⟨_, _, rfl, ⟨rfl, _⟩, ⟨_, _, rfl, ⟨_, _, rfl, ⟨rfl, _⟩, ⟨_, _, rfl, ⟨rfl, _⟩, ⟨_, _, rfl, ⟨rfl, _⟩, ⟨rfl, _⟩⟩⟩⟩, ⟨_, _, rfl, ⟨rfl, _⟩, ⟨rfl, _⟩⟩⟩⟩ := h
  exact rfl
theorem el3 : ElOk Tryd.prog 3 1 8 := elOk_of (by kernel_rfl) (by decide)
theorem el5 : ElOk Tryd.prog 5 1 1 := elOk_of (by kernel_rfl) (by decide)
theorem el9 : ElOk Tryd.prog 9 1 16 := elOk_of (by kernel_rfl) (by decide)
theorem el40 : ElOk Tryd.prog 40 3 40 := elOk_of (by kernel_rfl) (by decide)
theorem el64 : ElOk Tryd.prog 64 2 32 := elOk_of (by kernel_rfl) (by decide)
theorem el66 : ElOk Tryd.prog 66 1 8 := elOk_of (by kernel_rfl) (by decide)
theorem el87 : ElOk Tryd.prog 87 7 48 := elOk_of (by kernel_rfl) (by decide)
set_option maxRecDepth 20000 in
theorem clone_41 {Z0 : Nat → Prop} (w : World) (A : Option Addr) (c : Nat) (l : List UInt8) {r : List UInt8} (h : (slR A c byteR l).H Z0 w) (hM : appL [] l = some r) :
    Calls Tryd.prog 41 #[.slice A l.length c] w fun x w' => ∃ A' c', x = .returned (.slice A' r.length c') ∧ Hp Z0 No w w' [ownR 5 A' c' byteR r] := by
  have hm0 := Hp.nil Z0 No w
  have hm1 := hm0.know (slR A c byteR l) (fun _ h => h) (hm0.in0 Calm.nil h)
  refine Rn.enter Tryd.func41 rfl rfl (Nat.le_of_ble_eq_true rfl) ?_
  refine Rn.seq (Rn.reg (Rn.v rfl rfl rfl rfl (V.as rfl) (Rn.regEnd (Rn.seq (Rn.seq (Rn.reg (Rn.v rfl rfl rfl rfl (V.mv rfl) (Rn.v rfl rfl rfl rfl (V.eqlV Tryd.underlying43 rfl rfl) (Rn.regEnd ?_)))))))))
  cases A with
  | none =>
    obtain rfl := clone_get h
    obtain ⟨_, rfl⟩ := appE hM
    refine Rn.condT rfl (Rn.seq (Rn.reg (Rn.v rfl rfl rfl rfl (V.as rfl) (Rn.regEnd ?_))))
    refine Rn.retG1 Tryd.func41 rfl (rvT rfl) ?_
    exact ⟨none, 0, rfl, (hm0.addNil 5 byteR)⟩
  | some a =>
    refine Rn.condF rfl (Rn.skip (Rn.seq (Rn.reg ?_)))
    refine Rn.bslS (ps := []) (us := []) rfl rfl rfl Tryd.underlying43 el5 rfl rfl rfl rfl (by simp) (by decide) ?_
    intro b2 w2 hb2 m2 e2
    have hm2 := hm1.addLit (rep := byteR) (xs := ([] : List UInt8)) (vss := []) hb2 e2 m2 rfl rfl rfl rels0
    refine Rn.v rfl rfl rfl rfl (V.mv rfl) (Rn.appH hm2 1 rfl hM rfl rfl rfl Tryd.underlying43 el5 rfl rfl rfl rfl (hm2.src 0 rfl) ?_)
    intro A3 c3 w3 hm3
    refine Rn.v rfl rfl rfl rfl (V.as rfl) (Rn.regEnd ?_)
    refine Rn.retG1 Tryd.func41 rfl (rvT rfl) ?_
    exact ⟨A3, c3, rfl, hm3.pick [1] rfl (by decide)⟩

theorem eq64 (a b : T_api_Pair) (w : World) : (Op.equalIn 10000 64 (.agg [Str (a.Key), Str (a.Val)].toArray) (.agg [Str (b.Key), Str (b.Val)].toArray)).run Tryd.prog w = .ok (decide (a = b)) w := by
  refine eqF_top (p := a = b) (by kernel_rfl) Tryd.underlying64 Tryd.stoodInHeld64 (eqF_cons rfl Tryd.isAgg9 rfl rfl (eqS w a.Key b.Key Tryd.underlying9) (eqF_cons rfl Tryd.isAgg9 rfl rfl (eqS w a.Val b.Val Tryd.underlying9) eqF_nil)) ?_
  cases a; cases b; simp only [T_api_Pair.mk.injEq, and_true]
theorem eq89 (a b : T_glob_fault) (w : World) : (Op.equalIn 10000 89 (.agg [iv a.at_, iv a.e].toArray) (.agg [iv b.at_, iv b.e].toArray)).run Tryd.prog w = .ok (decide (a = b)) w := by
  refine eqF_top (p := a = b) (by kernel_rfl) Tryd.underlying89 Tryd.stoodInHeld89 (eqF_cons rfl Tryd.isAgg3 rfl rfl (eqI w a.at_ b.at_ Tryd.underlying3) (eqF_cons rfl Tryd.isAgg33 rfl rfl (eqI w a.e b.e Tryd.underlying33) eqF_nil)) ?_
  cases a; cases b; simp only [T_glob_fault.mk.injEq, and_true]
theorem kk64 : KeyOk Tryd.prog 64 kv64 := ⟨fun b a w => by kernel_rfl, fun key l w => findKey_ask (kd := _) Tryd.underlying64 (fun _ _ => rfl) (fun a b w => eq64 a b w) key l w, fun a w => by
  have h : Instr.sameBits 10000 (kv64 a) (kv64 a) = true := by simp [kv64, Instr.sameBits, Str, bytes_same]
  simp only [Instr.keyThatStays, h, if_true, Sem.run_pure]⟩
theorem m_internal_stringslite_IndexByte_sim {Z0 : Nat → Prop} {w : World} {x0 : (List UInt8)} {x1 : UInt8} {r : Int} (hM : m_internal_stringslite_IndexByte x0 x1 = some r)  :
    Calls Tryd.prog 73 #[Str (x0), u8v x1] w fun x w' => x = .returned (iv r) ∧ Hp Z0 No w w' [] := by
 have hm0 := Hp.nil Z0 No w
 have hc0 := Calm.nil
 refine Rn.enter Tryd.func73 rfl rfl (Nat.le_of_ble_eq_true rfl) ?_
 refine gg 8 rfl (Rn.q rfl (V.indexByte (s := x0) (c := x1) Tryd.func89 (by kernel_rfl) (by kernel_rfl) (by kernel_rfl) (by kernel_rfl) rfl) (gg 2 rfl ?_))
 refine Rn.retG1 Tryd.func73 rfl (rvT rfl) ?_
 obtain rfl := someE hM
 exact ⟨rfl, hm0.pick [] rfl (by decide)⟩

theorem m_internal_stringslite_Index_sim {Z0 : Nat → Prop} {w : World} {x0 : (List UInt8)} {x1 : (List UInt8)} {r : Int} (hM : m_internal_stringslite_Index x0 x1 = some r)  :
    Calls Tryd.prog 61 #[Str (x0), Str (x1)] w fun x w' => x = .returned (iv r) ∧ Hp Z0 No w w' [] := by
 have hm0 := Hp.nil Z0 No w
 have hc0 := Calm.nil
 refine Rn.enter Tryd.func61 rfl rfl (Nat.le_of_ble_eq_true rfl) ?_
 refine gg 7 rfl (Rn.q rfl (V.lenS Tryd.underlying9 rfl) (gg 9 rfl ?_))
 refine Rn.cutR [7] [(0, Str (x0)), (1, Str (x1)), (5, iv (x1.length : Int)), (23, .bool (decide (((x1.length : Int) = 0) ∨ (x1 = x0))))] (fun hk1 => ?_) ?_
 ·refine Rn.partD (t := 19) rfl (fun h2 => ?_) (fun h2 => ?_)
  ·refine gg 4 rfl ?_
   refine hk1 _ ?_
   exact Sub.cons rfl (Sub.cons rfl (Sub.cons rfl (Sub.cons (lkB rfl) (Sub.nil _))))
  ·refine gg 2 rfl (Rn.q rfl (V.eqlS rfl rfl) (gg 1 rfl ?_))
   refine hk1 _ ?_
   exact Sub.cons rfl (Sub.cons rfl (Sub.cons rfl (Sub.cons (lkB rfl) (Sub.nil _))))
 refine gg 2 rfl ?_
 refine askD hM (Rn.condD rfl) (fun h3 hM => ?_) (fun h3 hM => ?_)
 ·refine gg 4 rfl ?_
  refine Rn.retG1 Tryd.func61 rfl (rvT rfl) ?_
  obtain rfl := someE hM
  exact ⟨rfl, hm0.pick [] rfl (by decide)⟩
 ·refine gg 6 rfl ?_
  refine askD hM (Rn.condD rfl) (fun h4 hM => ?_) (fun h4 hM => ?_)
  ·refine gg 4 rfl ?_
   obtain ⟨z5, e5, hM⟩ := bindE hM
   refine Rn.q rfl (V.idxSZ Tryd.underlying9 rfl rfl e5) ?_
   obtain ⟨p6, e6, hM⟩ := bindE hM
   refine Rn.cl ck73 rfl rfl rfl rfl (m_internal_stringslite_IndexByte_sim (Z0 := All) e6  :) ?_
   rintro _ w6 ⟨rfl, hq6⟩
   refine ⟨_, rfl, ?_⟩
   have hm7 := hm0.call0 hq6
   refine gg 2 rfl ?_
   refine Rn.retG1 Tryd.func61 rfl (rvT rfl) ?_
   obtain rfl := someE hM
   exact ⟨rfl, hm7.pick [] rfl (by decide)⟩
  ·refine gg 4 rfl (Rn.q rfl (V.lenS Tryd.underlying9 rfl) (gg 3 rfl ?_))
   refine askD hM (Rn.condD rfl) (fun h8 hM => ?_) (fun h8 hM => ?_)
   ·refine gg 4 rfl ?_
    refine Rn.retG1 Tryd.func61 rfl (rvT rfl) ?_
    obtain rfl := someE hM
    exact ⟨rfl, hm0.pick [] rfl (by decide)⟩
   ·cases hM

theorem m_internal_stringslite_Cut_sim {Z0 : Nat → Prop} {w : World} {x0 : (List UInt8)} {x1 : (List UInt8)} {r : ((List UInt8) × (List UInt8) × Bool)} (hM : m_internal_stringslite_Cut x0 x1 = some r)  :
    Calls Tryd.prog 42 #[Str (x0), Str (x1)] w fun x w' => x = .returned (.tuple #[Str (r.1), Str (r.2.1), .bool (r.2.2)]) ∧ Hp Z0 No w w' [] := by
 have hm0 := Hp.nil Z0 No w
 have hc0 := Calm.nil
 refine Rn.enter Tryd.func42 rfl rfl (Nat.le_of_ble_eq_true rfl) ?_
 refine gg 11 rfl ?_
 obtain ⟨p1, e1, hM⟩ := bindE hM
 refine Rn.cl ck61 rfl rfl rfl rfl (m_internal_stringslite_Index_sim (Z0 := All) e1  :) ?_
 rintro _ w1 ⟨rfl, hq1⟩
 refine ⟨_, rfl, ?_⟩
 have hm2 := hm0.call0 hq1
 refine gg 7 rfl ?_
 refine askD hM (Rn.condD rfl) (fun h3 hM => ?_) (fun h3 hM => ?_)
 ·refine gg 1 rfl ?_
  refine Rn.drawP rfl hm2 ?_
  intro w4 hm4
  refine dd [0, 1] (by kernel_rfl) rfl rfl ?_
  obtain ⟨z5, e5, hM⟩ := bindE hM
  refine RH.takeP 2 (by kernel_rfl) rfl rfl rfl rfl (V.cutSZ Tryd.underlying9 rfl e5 rfl rfl) ?_
  refine dd [3, 4, 5] (by kernel_rfl) rfl rfl ?_
  refine RH.takeP 6 (by kernel_rfl) rfl rfl rfl rfl (V.lenS Tryd.underlying9 rfl) ?_
  refine dd [7] (by kernel_rfl) rfl rfl ?_
  obtain ⟨z6, e6, hM⟩ := bindE hM
  refine RH.takeP 8 (by kernel_rfl) rfl rfl rfl rfl (V.cutSZ Tryd.underlying9 rfl e6 rfl rfl) ?_
  refine dd [9, 10, 11] (by kernel_rfl) rfl rfl ?_
  refine RH.doneP (by kernel_rfl) ?_
  refine Rn.retG3 Tryd.func42 rfl (rvT rfl) (rvT rfl) (rvT rfl) ?_
  obtain rfl := someE hM
  exact ⟨rfl, hm4.pick [] rfl (by decide)⟩
 ·refine gg 8 rfl ?_
  refine Rn.retG3 Tryd.func42 rfl (rvT rfl) (rvT rfl) (rvT rfl) ?_
  obtain rfl := someE hM
  exact ⟨rfl, hm2.pick [] rfl (by decide)⟩

theorem m_strings_Cut_sim {Z0 : Nat → Prop} {w : World} {x0 : (List UInt8)} {x1 : (List UInt8)} {r : ((List UInt8) × (List UInt8) × Bool)} (hM : m_strings_Cut x0 x1 = some r)  :
    Calls Tryd.prog 30 #[Str (x0), Str (x1)] w fun x w' => x = .returned (.tuple #[Str (r.1), Str (r.2.1), .bool (r.2.2)]) ∧ Hp Z0 No w w' [] := by
 have hm0 := Hp.nil Z0 No w
 have hc0 := Calm.nil
 refine Rn.enter Tryd.func30 rfl rfl (Nat.le_of_ble_eq_true rfl) ?_
 refine gg 10 rfl ?_
 obtain ⟨p1, e1, hM⟩ := bindE hM
 refine Rn.cl ck42 rfl rfl rfl rfl (m_internal_stringslite_Cut_sim (Z0 := All) e1  :) ?_
 rintro _ w1 ⟨rfl, hq1⟩
 refine ⟨_, rfl, ?_⟩
 have hm2 := hm0.call0 hq1
 refine gg 7 rfl ?_
 refine Rn.retG3 Tryd.func30 rfl (rvT rfl) (rvT rfl) (rvT rfl) ?_
 obtain rfl := someE hM
 exact ⟨rfl, hm2.pick [] rfl (by decide)⟩

theorem m_label_small_sim {Z0 : Nat → Prop} {w : World} {x0 : UInt8} {r : Bool} (hM : m_label_small x0 = some r)  :
    Calls Tryd.prog 55 #[u8v x0] w fun x w' => x = .returned (.bool (r)) ∧ Hp Z0 No w w' [] := by
 have hm0 := Hp.nil Z0 No w
 have hc0 := Calm.nil
 refine Rn.enter Tryd.func55 rfl rfl (Nat.le_of_ble_eq_true rfl) ?_
 refine gg 7 rfl (Rn.q rfl (V.geq rfl rfl) (gg 1 rfl ?_))
 refine Rn.cutR [6] [(8, .bool (decide ((((x0).toNat : Int) ≥ 97) ∧ (((x0).toNat : Int) ≤ 122))))] (fun hk1 => ?_) ?_
 ·refine Rn.partD (t := 5) rfl (fun h2 => ?_) (fun h2 => ?_)
  ·refine gg 1 rfl (Rn.q rfl (V.leq rfl rfl) (gg 1 rfl ?_))
   refine hk1 _ ?_
   exact Sub.cons (lkB rfl) (Sub.nil _)
  ·refine gg 3 rfl ?_
   refine hk1 _ ?_
   exact Sub.cons (lkB rfl) (Sub.nil _)
 refine gg 2 rfl ?_
 refine Rn.retG1 Tryd.func55 rfl (rvT rfl) ?_
 obtain rfl := someE hM
 exact ⟨rfl, hm0.pick [] rfl (by decide)⟩

theorem m_label_isName_sim {Z0 : Nat → Prop} {w : World} {x0 : (List UInt8)} {r : Bool} (hM : m_label_isName x0 = some r)  :
    Calls Tryd.prog 34 #[Str (x0)] w fun x w' => x = .returned (.bool (r)) ∧ Hp Z0 No w w' [] := by
 have hm0 := Hp.nil Z0 No w
 have hc0 := Calm.nil
 refine Rn.enter Tryd.func34 rfl rfl (Nat.le_of_ble_eq_true rfl) ?_
 refine gg 8 rfl (Rn.q rfl (V.eqlS rfl rfl) (gg 1 rfl ?_))
 refine Rn.cutR [7, 8, 9, 10, 11, 12] [(0, Str (x0)), (11, .bool (decide ((x0 = ([] : List UInt8)) ∨ ((x0.length : Int) > 32))))] (fun hk1 => ?_) ?_
 ·refine Rn.partD (t := 7) rfl (fun h2 => ?_) (fun h2 => ?_)
  ·refine gg 4 rfl ?_
   refine hk1 _ ?_
   exact Sub.cons rfl (Sub.cons (lkB rfl) (Sub.nil _))
  ·refine gg 1 rfl (Rn.q rfl (V.lenS Tryd.underlying9 rfl) (gg 2 rfl ?_))
   refine hk1 _ ?_
   exact Sub.cons rfl (Sub.cons (lkB rfl) (Sub.nil _))
 refine gg 1 rfl ?_
 obtain ⟨j1, hj1, hM⟩ := jnE hM
 refine Rn.joinR (r := r) (G := Bool) [] (fun g => [(0, Str (x0)), (17, .bool (g))]) (fun g w' => Hp Z0 No w w' []) (fun g => j1 g) ?_ ?_
 ·subst hj1
  clear hM
  rintro y3 w4 hm4 hM
  try dsimp only at hM
  refine gg 1 rfl ?_
  refine askS hM (Rn.condS rfl) (fun h5 hM => ?_) (fun h5 hM => ?_)
  ·refine gg 4 rfl ?_
   refine Rn.retG1 Tryd.func34 rfl (rvT rfl) ?_
   obtain rfl := someE hM
   exact ⟨rfl, hm4.pick [] rfl (by decide)⟩
  ·refine gg 5 rfl ?_
   obtain ⟨z6, e6, hM⟩ := bindE hM
   refine Rn.s2bH hm4 e6 rfl rfl rfl Tryd.underlying9 Tryd.underlying43 Tryd.underlying5 rfl ?_
   intro A6 c6 w6 hm6
   refine Rn.q rfl (V.lenV Tryd.underlying43 rfl) (gg 2 rfl ?_)
   obtain ⟨j2, hj2, hM⟩ := jnE hM
   refine Rn.joinG (r := r) (G := Unit) (fun g => []) (fun g w' => Hp Z0 No w w' []) (fun g => j2 ()) ?_ ?_
   ·subst hj2
    clear hM
    rintro _ w8 hm8 hM
    try dsimp only at hM
    refine gg 4 rfl ?_
    refine Rn.retG1 Tryd.func34 rfl (rvT rfl) ?_
    obtain rfl := someE hM
    exact ⟨rfl, hm8.pick [] rfl (by decide)⟩
   intro hk2
   clear hj2
   refine gg 1 rfl ?_
   refine Rn.loopF (G := Int) (fun g => [(19, .slice A6 (z6).length c6), (20, iv (z6.length : Int)), (21, iv g)]) (fun g w' => Hp Z0 No w w' [slR A6 c6 byteR z6]) (fun n g => m_label_isName_L1 z6 j2 n g) fuel 0 (sb ⟨rfl, rfl, rfl, trivial⟩) (hm6.pick [0] rfl (by decide)) hM (fun _ => rfl) ?_
   clear hM
   rintro m10 y9 w10 hm10 hM hn10
   replace hM : m_label_isName_L1 z6 j2 (m10 + 1) y9 = some r := hM
   rw [m_label_isName_L1] at hM
   refine gg 5 rfl ?_
   refine askD hM (Rn.condD rfl) (fun h11 hM => ?_) (fun h11 hM => ?_)
   ·refine gg 5 rfl ?_
    obtain ⟨z12, e12, hM⟩ := bindE hM
    refine Rn.ixH hm10 0 rfl e12 rfl rfl rfl Tryd.underlying43 Tryd.sizeOf5 rfl rfl rfl rfl ?_
    rintro b12 o12 vs12 ⟨rfl, _⟩ hm12
    refine Rn.q rfl (V.ldR0 Tryd.isAgg5 rfl (hm12.get 1 rfl).2 rfl) (gg 5 rfl ?_)
    obtain ⟨p14, e14, hM⟩ := bindE hM
    refine Rn.cl ck55 rfl rfl rfl rfl (m_label_small_sim (Z0 := All) e14  :) ?_
    rintro _ w14 ⟨rfl, hq14⟩
    refine ⟨_, rfl, ?_⟩
    have hm15 := hm12.call0 hq14
    refine Rn.q rfl (V.notB rfl) (gg 1 rfl ?_)
    refine Rn.cutR [11, 12, 13, 14, 15, 16, 17, 18] [(4, u8v z12), (19, .slice A6 (z6).length c6), (20, iv (z6.length : Int)), (21, iv y9), (35, .bool (decide (((!p14) = true) ∧ ((((z12).toNat : Int) < 48) ∨ (((z12).toNat : Int) > 57)))))] (fun hk16 => ?_) ?_
    ·refine Rn.part (t := 28) rfl (fun h17 => ?_) (fun h17 => ?_)
     ·refine gg 1 rfl (Rn.q rfl (V.lss rfl rfl) (gg 1 rfl ?_))
      refine Rn.cutR [10, 11, 12, 13, 14, 15, 16, 17, 18] [(4, u8v z12), (19, .slice A6 (z6).length c6), (20, iv (z6.length : Int)), (21, iv y9), (28, .bool true), (34, .bool (decide ((((z12).toNat : Int) < 48) ∨ (((z12).toNat : Int) > 57))))] (fun hk18 => ?_) ?_
      ·refine Rn.partD (t := 31) rfl (fun h19 => ?_) (fun h19 => ?_)
       ·refine gg 3 rfl ?_
        refine hk18 _ ?_
        exact Sub.cons rfl (Sub.cons rfl (Sub.cons rfl (Sub.cons rfl (Sub.cons rfl (Sub.cons (lkB rfl) (Sub.nil _))))))
       ·refine gg 1 rfl (Rn.q rfl (V.gtr rfl rfl) (gg 1 rfl ?_))
        refine hk18 _ ?_
        exact Sub.cons rfl (Sub.cons rfl (Sub.cons rfl (Sub.cons rfl (Sub.cons rfl (Sub.cons (lkB rfl) (Sub.nil _))))))
      refine gg 1 rfl ?_
      refine hk16 _ ?_
      exact Sub.cons rfl (Sub.cons rfl (Sub.cons rfl (Sub.cons rfl (Sub.cons (lkB rfl) (Sub.nil _)))))
     ·refine gg 7 rfl ?_
      refine hk16 _ ?_
      exact Sub.cons rfl (Sub.cons rfl (Sub.cons rfl (Sub.cons rfl (Sub.cons (lkB rfl) (Sub.nil _)))))
    refine gg 1 rfl ?_
    refine Rn.cutR [15, 16, 17, 18] [(4, u8v z12), (19, .slice A6 (z6).length c6), (20, iv (z6.length : Int)), (21, iv y9), (39, .bool (decide ((((!p14) = true) ∧ ((((z12).toNat : Int) < 48) ∨ (((z12).toNat : Int) > 57))) ∧ (((z12).toNat : Int) ≠ 95))))] (fun hk20 => ?_) ?_
    ·refine Rn.partD (t := 36) rfl (fun h21 => ?_) (fun h21 => ?_)
     ·refine gg 1 rfl (Rn.q rfl (V.neq rfl rfl) (gg 1 rfl ?_))
      refine hk20 _ ?_
      exact Sub.cons rfl (Sub.cons rfl (Sub.cons rfl (Sub.cons rfl (Sub.cons (lkB rfl) (Sub.nil _)))))
     ·refine gg 3 rfl ?_
      refine hk20 _ ?_
      exact Sub.cons rfl (Sub.cons rfl (Sub.cons rfl (Sub.cons rfl (Sub.cons (lkB rfl) (Sub.nil _)))))
    refine gg 1 rfl ?_
    refine Rn.cutR [] [(19, .slice A6 (z6).length c6), (20, iv (z6.length : Int)), (21, iv y9), (43, .bool (decide (((((!p14) = true) ∧ ((((z12).toNat : Int) < 48) ∨ (((z12).toNat : Int) > 57))) ∧ (((z12).toNat : Int) ≠ 95)) ∧ (((z12).toNat : Int) ≠ 46))))] (fun hk22 => ?_) ?_
    ·refine Rn.partD (t := 40) rfl (fun h23 => ?_) (fun h23 => ?_)
     ·refine gg 1 rfl (Rn.q rfl (V.neq rfl rfl) (gg 1 rfl ?_))
      refine hk22 _ ?_
      exact Sub.cons rfl (Sub.cons rfl (Sub.cons rfl (Sub.cons (lkB rfl) (Sub.nil _))))
     ·refine gg 3 rfl ?_
      refine hk22 _ ?_
      exact Sub.cons rfl (Sub.cons rfl (Sub.cons rfl (Sub.cons (lkB rfl) (Sub.nil _))))
    refine gg 1 rfl ?_
    refine askD hM (Rn.condD rfl) (fun h24 hM => ?_) (fun h24 hM => ?_)
    ·refine gg 4 rfl ?_
     refine Rn.retG1 Tryd.func34 rfl (rvT rfl) ?_
     obtain rfl := someE hM
     exact ⟨rfl, hm15.pick [] rfl (by decide)⟩
    ·refine gg 6 rfl ?_
     exact hn10 (W64 (y9 + 1)) _ _ (sb ⟨rfl, rfl, rfl, trivial⟩) (hm15.pick [0] rfl (by decide)) hM
   ·refine gg 1 rfl ?_
    exact hk2 () _ _ (sb trivial) (hm10.pick [] rfl (by decide)) hM
 intro hk1
 clear hj1
 refine askD hM (Rn.partD (t := 12) rfl) (fun h25 hM => ?_) (fun h25 hM => ?_)
 ·refine gg 5 rfl ?_
  exact hk1 true _ _ (sb ⟨rfl, rfl, trivial⟩) (hm0.pick [] rfl (by decide)) hM
 ·refine gg 1 rfl ?_
  obtain ⟨z26, e26, hM⟩ := bindE hM
  refine Rn.q rfl (V.idxSZ Tryd.underlying9 rfl rfl e26) ?_
  obtain ⟨p27, e27, hM⟩ := bindE hM
  refine Rn.cl ck55 rfl rfl rfl rfl (m_label_small_sim (Z0 := All) e27  :) ?_
  rintro _ w27 ⟨rfl, hq27⟩
  refine ⟨_, rfl, ?_⟩
  have hm28 := hm0.call0 hq27
  refine Rn.q rfl (V.notB rfl) (gg 1 rfl ?_)
  exact hk1 (!p27) _ _ (sb ⟨rfl, rfl, trivial⟩) (hm28.pick [] rfl (by decide)) hM

theorem m_label_isValue_sim {Z0 : Nat → Prop} {w : World} {x0 : (List UInt8)} {r : Bool} (hM : m_label_isValue x0 = some r)  :
    Calls Tryd.prog 35 #[Str (x0)] w fun x w' => x = .returned (.bool (r)) ∧ Hp Z0 No w w' [] := by
 have hm0 := Hp.nil Z0 No w
 have hc0 := Calm.nil
 refine Rn.enter Tryd.func35 rfl rfl (Nat.le_of_ble_eq_true rfl) ?_
 refine gg 8 rfl (Rn.q rfl (V.eqlS rfl rfl) (gg 1 rfl ?_))
 refine Rn.cutR [] [(0, Str (x0)), (11, .bool (decide ((x0 = ([] : List UInt8)) ∨ ((x0.length : Int) > 32))))] (fun hk1 => ?_) ?_
 ·refine Rn.partD (t := 7) rfl (fun h2 => ?_) (fun h2 => ?_)
  ·refine gg 4 rfl ?_
   refine hk1 _ ?_
   exact Sub.cons rfl (Sub.cons (lkB rfl) (Sub.nil _))
  ·refine gg 1 rfl (Rn.q rfl (V.lenS Tryd.underlying9 rfl) (gg 2 rfl ?_))
   refine hk1 _ ?_
   exact Sub.cons rfl (Sub.cons (lkB rfl) (Sub.nil _))
 refine gg 1 rfl ?_
 refine askD hM (Rn.condD rfl) (fun h3 hM => ?_) (fun h3 hM => ?_)
 ·refine gg 4 rfl ?_
  refine Rn.retG1 Tryd.func35 rfl (rvT rfl) ?_
  obtain rfl := someE hM
  exact ⟨rfl, hm0.pick [] rfl (by decide)⟩
 ·refine gg 5 rfl ?_
  obtain ⟨z4, e4, hM⟩ := bindE hM
  refine Rn.s2bH hm0 e4 rfl rfl rfl Tryd.underlying9 Tryd.underlying43 Tryd.underlying5 rfl ?_
  intro A4 c4 w4 hm4
  refine Rn.q rfl (V.lenV Tryd.underlying43 rfl) (gg 2 rfl ?_)
  obtain ⟨j1, hj1, hM⟩ := jnE hM
  refine Rn.joinG (r := r) (G := Unit) (fun g => []) (fun g w' => Hp Z0 No w w' []) (fun g => j1 ()) ?_ ?_
  ·subst hj1
   clear hM
   rintro _ w6 hm6 hM
   try dsimp only at hM
   refine gg 4 rfl ?_
   refine Rn.retG1 Tryd.func35 rfl (rvT rfl) ?_
   obtain rfl := someE hM
   exact ⟨rfl, hm6.pick [] rfl (by decide)⟩
  intro hk1
  clear hj1
  refine gg 1 rfl ?_
  refine Rn.loopF (G := Int) (fun g => [(13, .slice A4 (z4).length c4), (14, iv (z4.length : Int)), (15, iv g)]) (fun g w' => Hp Z0 No w w' [slR A4 c4 byteR z4]) (fun n g => m_label_isValue_L1 z4 j1 n g) fuel 0 (sb ⟨rfl, rfl, rfl, trivial⟩) (hm4.pick [0] rfl (by decide)) hM (fun _ => rfl) ?_
  clear hM
  rintro m8 y7 w8 hm8 hM hn8
  replace hM : m_label_isValue_L1 z4 j1 (m8 + 1) y7 = some r := hM
  rw [m_label_isValue_L1] at hM
  refine gg 5 rfl ?_
  refine askD hM (Rn.condD rfl) (fun h9 hM => ?_) (fun h9 hM => ?_)
  ·refine gg 5 rfl ?_
   obtain ⟨z10, e10, hM⟩ := bindE hM
   refine Rn.ixH hm8 0 rfl e10 rfl rfl rfl Tryd.underlying43 Tryd.sizeOf5 rfl rfl rfl rfl ?_
   rintro b10 o10 vs10 ⟨rfl, _⟩ hm10
   refine Rn.q rfl (V.ldR0 Tryd.isAgg5 rfl (hm10.get 1 rfl).2 rfl) (gg 7 rfl (Rn.q rfl (V.lss rfl rfl) (gg 2 rfl ?_)))
   obtain ⟨j2, hj2, hM⟩ := jnE hM
   refine Rn.joinG (r := r) (G := Bool) (fun g => [(13, .slice A4 (z4).length c4), (14, iv (z4.length : Int)), (15, iv y7), (19, .bool (g))]) (fun g w' => Hp Z0 No w w' [slR A4 c4 byteR z4]) (fun g => j2 g) ?_ ?_
   ·subst hj2
    clear hM
    rintro y12 w13 hm13 hM
    try dsimp only at hM
    refine askS hM (Rn.condS rfl) (fun h14 hM => ?_) (fun h14 hM => ?_)
    ·refine gg 4 rfl ?_
     refine Rn.retG1 Tryd.func35 rfl (rvT rfl) ?_
     obtain rfl := someE hM
     exact ⟨rfl, hm13.pick [] rfl (by decide)⟩
    ·refine gg 7 rfl ?_
     exact hn8 (W64 (y7 + 1)) _ _ (sb ⟨rfl, rfl, rfl, trivial⟩) (hm13.pick [0] rfl (by decide)) hM
   intro hk2
   clear hj2
   refine askD hM (Rn.condD rfl) (fun h15 hM => ?_) (fun h15 hM => ?_)
   ·refine gg 1 rfl ?_
    exact hk2 (decide (((z10).toNat : Int) < 33)) _ _ (sb ⟨rfl, rfl, rfl, rfl, trivial⟩) (hm10.pick [0] rfl (by decide)) hM
   ·refine gg 3 rfl (Rn.q rfl (V.gtr rfl rfl) (gg 2 rfl ?_))
    refine askD hM (Rn.condD rfl) (fun h16 hM => ?_) (fun h16 hM => ?_)
    ·refine gg 1 rfl ?_
     exact hk2 (decide (((z10).toNat : Int) > 126)) _ _ (sb ⟨rfl, rfl, rfl, rfl, trivial⟩) (hm10.pick [0] rfl (by decide)) hM
    ·refine gg 3 rfl (Rn.q rfl (V.eql rfl rfl) (gg 2 rfl ?_))
     refine askD hM (Rn.condD rfl) (fun h17 hM => ?_) (fun h17 hM => ?_)
     ·refine gg 1 rfl ?_
      exact hk2 (decide (((z10).toNat : Int) = 61)) _ _ (sb ⟨rfl, rfl, rfl, rfl, trivial⟩) (hm10.pick [0] rfl (by decide)) hM
     ·refine gg 3 rfl (Rn.q rfl (V.eql rfl rfl) (gg 2 rfl ?_))
      refine askD hM (Rn.condD rfl) (fun h18 hM => ?_) (fun h18 hM => ?_)
      ·refine gg 1 rfl ?_
       exact hk2 (decide (((z10).toNat : Int) = 59)) _ _ (sb ⟨rfl, rfl, rfl, rfl, trivial⟩) (hm10.pick [0] rfl (by decide)) hM
      ·refine gg 2 rfl (Rn.q rfl (V.eql rfl rfl) (gg 2 rfl ?_))
       exact hk2 (decide (((z10).toNat : Int) = 44)) _ _ (sb ⟨rfl, rfl, rfl, rfl, trivial⟩) (hm10.pick [0] rfl (by decide)) hM
  ·refine gg 1 rfl ?_
   exact hk1 () _ _ (sb trivial) (hm8.pick [] rfl (by decide)) hM

theorem m_label_pair_sim {Z0 : Nat → Prop} {w : World} {x0 : (List UInt8)} {r : (T_api_Pair × Int)} (hM : m_label_pair x0 = some r)  :
    Calls Tryd.prog 43 #[Str (x0)] w fun x w' => x = .returned (.tuple #[.agg [Str (r.1.Key), Str (r.1.Val)].toArray, iv r.2]) ∧ Hp Z0 No w w' [] := by
 have hm0 := Hp.nil Z0 No w
 have hc0 := Calm.nil
 refine Rn.enter Tryd.func43 rfl rfl (Nat.le_of_ble_eq_true rfl) ?_
 refine gg 2 rfl (Rn.alloc rfl rfl rfl Tryd.zeroValue64 rfl ?_)
 intro b1 w1 hb1 m1 e1
 have hm3 := (hm0.addBox hb1 e1 m1).nf [boxR _ _ [_, _]] rfl
 refine gg 5 rfl ?_
 obtain ⟨p4, e4, hM⟩ := bindE hM
 refine Rn.cl ck30 rfl rfl rfl rfl (m_strings_Cut_sim (Z0 := All) e4  :) ?_
 rintro _ w4 ⟨rfl, hq4⟩
 refine ⟨_, rfl, ?_⟩
 have hm5 := hm3.call0 hq4
 refine gg 12 rfl (Rn.q rfl (V.notB rfl) (gg 1 rfl ?_))
 obtain ⟨j1, hj1, hM⟩ := jnE hM
 refine Rn.joinR (r := r) (G := Bool) [7, 8, 9, 10, 11] (fun g => [(2, pt b1 0), (4, Str (p4.1)), (5, Str (p4.2.1)), (19, .bool (g))]) (fun g w' => Hp Z0 No w w' [boxR b1 64 [Str (([] : List UInt8)), Str (([] : List UInt8))]]) (fun g => j1 g) ?_ ?_
 ·subst hj1
  clear hM
  rintro y6 w7 hm7 hM
  try dsimp only at hM
  refine gg 1 rfl ?_
  obtain ⟨j2, hj2, hM⟩ := jnE hM
  refine Rn.joinR (r := r) (G := Bool) [] (fun g => [(2, pt b1 0), (4, Str (p4.1)), (5, Str (p4.2.1)), (24, .bool (g))]) (fun g w' => Hp Z0 No w w' [boxR b1 64 [Str (([] : List UInt8)), Str (([] : List UInt8))]]) (fun g => j2 g) ?_ ?_
  ·subst hj2
   clear hM
   rintro y8 w9 hm9 hM
   try dsimp only at hM
   refine gg 1 rfl ?_
   refine askS hM (Rn.condS rfl) (fun h10 hM => ?_) (fun h10 hM => ?_)
   ·refine gg 2 rfl (Rn.q rfl (V.bldS (cs := [_, _]) st64 rfl rfl) (Rn.st rfl rfl Tryd.sizeOf64 rfl rfl rfl rfl (by first | exact ones rfl | (simp [Value.oneCell']; done)) (hm9.get 0 rfl) (by first | exact Nat.le_of_ble_eq_true rfl | (simp; done)) ?_))
    intro w11 m11 x11
    have hm12 := (hm9.st 0 rfl x11 m11).nf [boxR _ _ [_, _]] rfl
    refine gg 2 rfl ?_
    refine Rn.retG2 Tryd.func43 rfl (rvC rfl Tryd.isAgg64 Tryd.sizeOf64 (hm12.get 0 rfl) rfl) (rvT rfl) ?_
    obtain rfl := someE hM
    exact ⟨rfl, hm12.pick [] rfl (by decide)⟩
   ·refine gg 5 rfl (Rn.q rfl (V.bldS (cs := [_, _]) st64 rfl rfl) (Rn.st rfl rfl Tryd.sizeOf64 rfl rfl rfl rfl (by first | exact ones rfl | (simp [Value.oneCell']; done)) (hm9.get 0 rfl) (by first | exact Nat.le_of_ble_eq_true rfl | (simp; done)) ?_))
    intro w13 m13 x13
    have hm14 := (hm9.st 0 rfl x13 m13).nf [boxR _ _ [_, _]] rfl
    refine gg 2 rfl ?_
    refine Rn.retG2 Tryd.func43 rfl (rvC rfl Tryd.isAgg64 Tryd.sizeOf64 (hm14.get 0 rfl) rfl) (rvT rfl) ?_
    obtain rfl := someE hM
    exact ⟨rfl, hm14.pick [] rfl (by decide)⟩
  intro hk2
  clear hj2
  refine askS hM (Rn.part (t := 20) rfl) (fun h15 hM => ?_) (fun h15 hM => ?_)
  ·refine gg 4 rfl ?_
   exact hk2 true _ _ (sb ⟨rfl, rfl, rfl, rfl, trivial⟩) (hm7.pick [0] rfl (by decide)) hM
  ·refine gg 1 rfl ?_
   obtain ⟨p16, e16, hM⟩ := bindE hM
   refine Rn.cl ck35 rfl rfl rfl rfl (m_label_isValue_sim (Z0 := All) e16  :) ?_
   rintro _ w16 ⟨rfl, hq16⟩
   refine ⟨_, rfl, ?_⟩
   have hm17 := hm7.call0 hq16
   refine Rn.q rfl (V.notB rfl) (gg 1 rfl ?_)
   exact hk2 (!p16) _ _ (sb ⟨rfl, rfl, rfl, rfl, trivial⟩) (hm17.pick [0] rfl (by decide)) hM
 intro hk1
 clear hj1
 refine askS hM (Rn.part (t := 15) rfl) (fun h18 hM => ?_) (fun h18 hM => ?_)
 ·refine gg 4 rfl ?_
  exact hk1 true _ _ (sb ⟨rfl, rfl, rfl, rfl, trivial⟩) (hm5.pick [0] rfl (by decide)) hM
 ·refine gg 1 rfl ?_
  obtain ⟨p19, e19, hM⟩ := bindE hM
  refine Rn.cl ck34 rfl rfl rfl rfl (m_label_isName_sim (Z0 := All) e19  :) ?_
  rintro _ w19 ⟨rfl, hq19⟩
  refine ⟨_, rfl, ?_⟩
  have hm20 := hm5.call0 hq19
  refine Rn.q rfl (V.notB rfl) (gg 1 rfl ?_)
  exact hk1 (!p19) _ _ (sb ⟨rfl, rfl, rfl, rfl, trivial⟩) (hm20.pick [0] rfl (by decide)) hM

theorem m_label_follows_sim {Z0 : Nat → Prop} {w : World} {A0 : Option Addr} {c0 : Nat} {x0 : (List T_api_Pair)} {x1 : (List UInt8)} {r : Int} (hM : m_label_follows x0 x1 = some r) (f0 : (slR A0 c0 T_api_Pair.rep x0).H Z0 w) :
    Calls Tryd.prog 44 #[.slice A0 (x0).length c0, Str (x1)] w fun x w' => x = .returned (iv r) ∧ Hp Z0 No w w' [] := by
 have hm0 := Hp.nil Z0 No w
 have hc0 := Calm.nil
 have hm2 := hm0.know (slR A0 c0 T_api_Pair.rep x0) (fun _ h => h) (hm0.in0 hc0 f0)
 replace hc0 := hc0.snoc (r := slR A0 c0 T_api_Pair.rep x0) (fun _ h => h)
 refine Rn.enter Tryd.func44 rfl rfl (Nat.le_of_ble_eq_true rfl) ?_
 refine gg 8 rfl (Rn.q rfl (V.lenV Tryd.underlying52 rfl) (gg 2 rfl ?_))
 obtain ⟨j1, hj1, hM⟩ := jnE hM
 refine Rn.joinG (r := r) (G := Unit) (fun g => [(0, .slice A0 (x0).length c0), (1, Str (x1))]) (fun g w' => Hp Z0 No w w' [slR A0 c0 T_api_Pair.rep x0]) (fun g => j1 ()) ?_ ?_
 ·subst hj1
  clear hM
  rintro _ w3 hm3 hM
  try dsimp only at hM
  refine gg 6 rfl (Rn.q rfl (V.lenV Tryd.underlying52 rfl) (gg 1 rfl ?_))
  obtain ⟨z4, e4, hM⟩ := bindE hM
  refine Rn.ixH hm3 0 rfl e4 rfl rfl rfl Tryd.underlying52 Tryd.sizeOf64 rfl rfl rfl rfl ?_
  rintro b4 o4 vs4 hr4 hm4
  obtain rfl := T_api_Pair.relE hr4
  refine gg 1 rfl (Rn.q rfl (V.ldR0 Tryd.isAgg9 rfl (hm4.get 1 rfl).2 rfl) (Rn.q rfl (V.lssS rfl rfl) (gg 1 rfl ?_)))
  refine askS hM (Rn.condS rfl) (fun h6 hM => ?_) (fun h6 hM => ?_)
  ·refine gg 4 rfl ?_
   refine Rn.retG1 Tryd.func44 rfl (rvT rfl) ?_
   obtain rfl := someE hM
   exact ⟨rfl, hm4.pick [] rfl (by decide)⟩
  ·refine gg 5 rfl ?_
   refine Rn.retG1 Tryd.func44 rfl (rvT rfl) ?_
   obtain rfl := someE hM
   exact ⟨rfl, hm4.pick [] rfl (by decide)⟩
 intro hk1
 clear hj1
 refine gg 1 rfl ?_
 refine Rn.loopF (G := Int) (fun g => [(0, .slice A0 (x0).length c0), (1, Str (x1)), (7, .slice A0 (x0).length c0), (8, iv (x0.length : Int)), (9, iv g)]) (fun g w' => Hp Z0 No w w' [slR A0 c0 T_api_Pair.rep x0]) (fun n g => m_label_follows_L1 x0 x1 j1 n g) fuel 0 (sb ⟨rfl, rfl, rfl, rfl, rfl, trivial⟩) (hm2.pick [0] rfl (by decide)) hM (fun _ => rfl) ?_
 clear hM
 rintro m8 y7 w8 hm8 hM hn8
 replace hM : m_label_follows_L1 x0 x1 j1 (m8 + 1) y7 = some r := hM
 rw [m_label_follows_L1] at hM
 refine gg 5 rfl ?_
 refine askD hM (Rn.condD rfl) (fun h9 hM => ?_) (fun h9 hM => ?_)
 ·refine gg 5 rfl ?_
  obtain ⟨z10, e10, hM⟩ := bindE hM
  refine Rn.ixH hm8 0 rfl e10 rfl rfl rfl Tryd.underlying52 Tryd.sizeOf64 rfl rfl rfl rfl ?_
  rintro b10 o10 vs10 hr10 hm10
  obtain rfl := T_api_Pair.relE hr10
  refine Rn.q rfl (V.ldA (vs := [_, _]) Tryd.isAgg64 Tryd.sizeOf64 rfl (Rd.pre (hm10.get 1 rfl).2 2) rfl) (Rn.als rfl rfl rfl Tryd.zeroValue64 rfl Tryd.sizeOf64 rfl rfl rfl rfl (by first | exact ones rfl | (simp [Value.oneCell']; done)) ?_)
  intro b12 w12 hb12 m12 e12
  have hm14 := (hm10.addBox hb12 e12 m12).nf [_, _, boxR _ _ [_, _]] rfl
  refine gg 4 rfl (Rn.q rfl (V.ldB Tryd.isAgg9 rfl (hm14.get 2 rfl) rfl) (gg 1 rfl (Rn.q rfl (V.eqlS rfl rfl) (gg 1 rfl ?_))))
  refine askD hM (Rn.condD rfl) (fun h15 hM => ?_) (fun h15 hM => ?_)
  ·refine gg 4 rfl ?_
   refine Rn.retG1 Tryd.func44 rfl (rvT rfl) ?_
   obtain rfl := someE hM
   exact ⟨rfl, hm14.pick [] rfl (by decide)⟩
  ·refine gg 6 rfl ?_
   exact hn8 (W64 (y7 + 1)) _ _ (sb ⟨rfl, rfl, rfl, rfl, rfl, trivial⟩) (hm14.pick [0] rfl (by decide)) hM
 ·refine gg 1 rfl ?_
  exact hk1 () _ _ (sb ⟨rfl, rfl, trivial⟩) (hm8.pick [0] rfl (by decide)) hM

theorem m_label_Parse_sim {Z0 : Nat → Prop} {w : World} {x0 : (List UInt8)} {r : ((List UInt8) × (List T_api_Pair) × Int × Int)} (hM : m_label_Parse x0 = some r)  :
    Calls Tryd.prog 31 #[Str (x0)] w fun x w' => ∃ A_1_0 c_1_0, x = .returned (.tuple #[Str (r.1), .slice A_1_0 (r.2.1).length c_1_0, iv r.2.2.1, iv r.2.2.2]) ∧ Hp Z0 No w w' [ownR 64 A_1_0 c_1_0 T_api_Pair.rep r.2.1] := by
 have hm0 := Hp.nil Z0 No w
 have hc0 := Calm.nil
 refine Rn.enter Tryd.func31 rfl rfl (Nat.le_of_ble_eq_true rfl) ?_
 refine gg 10 rfl ?_
 obtain ⟨p1, e1, hM⟩ := bindE hM
 refine Rn.cl ck30 rfl rfl rfl rfl (m_strings_Cut_sim (Z0 := All) e1  :) ?_
 rintro _ w1 ⟨rfl, hq1⟩
 refine ⟨_, rfl, ?_⟩
 have hm2 := hm0.call0 hq1
 refine gg 12 rfl ?_
 obtain ⟨p3, e3, hM⟩ := bindE hM
 refine Rn.cl ck34 rfl rfl rfl rfl (m_label_isName_sim (Z0 := All) e3  :) ?_
 rintro _ w3 ⟨rfl, hq3⟩
 refine ⟨_, rfl, ?_⟩
 have hm4 := hm2.call0 hq3
 refine Rn.q rfl (V.notB rfl) (gg 1 rfl ?_)
 refine askS hM (Rn.condS rfl) (fun h5 hM => ?_) (fun h5 hM => ?_)
 ·refine gg 7 rfl ?_
  have hm6 := hm4.addNil 64 T_api_Pair.rep
  refine Rn.retG4 Tryd.func31 rfl (rvT rfl) (rvT rfl) (rvT rfl) (rvT rfl) ?_
  obtain rfl := someE hM
  exact ⟨none, 0, rfl, hm6.pick [0] rfl (by decide)⟩
 ·refine gg 5 rfl (Rn.q rfl (V.lenS Tryd.underlying9 rfl) (gg 3 rfl ?_))
  obtain ⟨j1, hj1, hM⟩ := jnE hM
  refine Rn.joinG (r := r) (G := (List T_api_Pair) × Option Addr × Nat) (fun g => [(2, Str (p1.1)), (3, .slice (g.2.1) ((g.1)).length (g.2.2))]) (fun g w' => Hp Z0 No w w' [ownR 64 (g.2.1) (g.2.2) T_api_Pair.rep (g.1)]) (fun g => j1 g.1) ?_ ?_
  ·subst hj1
   clear hM
   rintro ⟨y8, A9, c9⟩ w11 hm11 hM
   try dsimp only at hM
   refine gg 9 rfl ?_
   refine Rn.retG4 Tryd.func31 rfl (rvT rfl) (rvT rfl) (rvT rfl) (rvT rfl) ?_
   obtain rfl := someE hM
   exact ⟨A9, c9, rfl, hm11.pick [0] rfl (by decide)⟩
  intro hk1
  clear hj1
  refine gg 1 rfl ?_
  have hm18 := hm4.addNil 64 T_api_Pair.rep
  refine Rn.loopF (G := (List T_api_Pair) × Int × (List UInt8) × Bool × Option Addr × Nat) (fun g => [(2, Str (p1.1)), (3, .slice (g.2.2.2.2.1) ((g.1)).length (g.2.2.2.2.2)), (4, iv (g.2.1)), (6, Str ((g.2.2.1))), (7, .bool ((g.2.2.2.1)))]) (fun g w' => Hp Z0 No w w' [ownR 64 (g.2.2.2.2.1) (g.2.2.2.2.2) T_api_Pair.rep (g.1)]) (fun n g => m_label_Parse_L1 j1 n g.1 g.2.1 g.2.2.1 g.2.2.2.1) fuel (([] : List T_api_Pair), (W64 ((p1.1.length : Int) + 1)), p1.2.1, p1.2.2, none, 0) (sb ⟨rfl, rfl, rfl, rfl, rfl, trivial⟩) (hm18.pick [0] rfl (by decide)) hM (fun _ => rfl) ?_
  clear hM
  rintro m20 ⟨y12, y15, y16, y17, A13, c13⟩ w20 hm20 hM hn20
  replace hM : m_label_Parse_L1 j1 (m20 + 1) y12 y15 y16 y17 = some r := hM
  rw [m_label_Parse_L1] at hM
  refine gg 5 rfl ?_
  refine askS hM (Rn.condS rfl) (fun h21 hM => ?_) (fun h21 hM => ?_)
  ·refine gg 9 rfl ?_
   obtain ⟨p22, e22, hM⟩ := bindE hM
   refine Rn.cl ck30 rfl rfl rfl rfl (m_strings_Cut_sim (Z0 := All) e22  :) ?_
   rintro _ w22 ⟨rfl, hq22⟩
   refine ⟨_, rfl, ?_⟩
   have hm23 := hm20.call0 hq22
   refine gg 11 rfl ?_
   obtain ⟨p24, e24, hM⟩ := bindE hM
   refine Rn.cl ck43 rfl rfl rfl rfl (m_label_pair_sim (Z0 := All) e24  :) ?_
   rintro _ w24 ⟨rfl, hq24⟩
   refine ⟨_, rfl, ?_⟩
   have hm25 := hm23.call0 hq24
   refine gg 3 rfl (Rn.als rfl rfl rfl Tryd.zeroValue64 rfl Tryd.sizeOf64 rfl rfl rfl rfl (by first | exact ones rfl | (simp [Value.oneCell']; done)) ?_)
   intro b26 w26 hb26 m26 e26
   have hm28 := (hm25.addBox hb26 e26 m26).nf [_, boxR _ _ [_, _]] rfl
   refine gg 6 rfl (Rn.q rfl (V.lenV Tryd.underlying52 rfl) (gg 2 rfl ?_))
   obtain ⟨j2, hj2, hM⟩ := jnE hM
   refine Rn.joinG (r := r) (G := Int) (fun g => [(2, Str (p1.1)), (3, .slice A13 (y12).length c13), (4, iv y15), (6, Str (p22.2.1)), (7, .bool (p22.2.2)), (8, Str (p22.1)), (9, pt b26 0), (10, iv g)]) (fun g w' => Hp Z0 No w w' [ownR 64 A13 c13 T_api_Pair.rep y12, boxR b26 64 [Str (p24.1.Key), Str (p24.1.Val)]]) (fun g => j2 g) ?_ ?_
   ·subst hj2
    clear hM
    rintro y29 w30 hm30 hM
    try dsimp only at hM
    refine gg 6 rfl ?_
    refine Rn.cutR [] [(2, Str (p1.1)), (3, .slice A13 (y12).length c13), (4, iv y15), (6, Str (p22.2.1)), (7, .bool (p22.2.2)), (8, Str (p22.1)), (9, pt b26 0), (10, iv y29), (44, .bool (decide ((y29 = 0) ∧ ((y12.length : Int) > 0))))] (fun hk31 => ?_) ?_
    ·refine Rn.partD (t := 40) rfl (fun h32 => ?_) (fun h32 => ?_)
     ·refine gg 1 rfl (Rn.q rfl (V.lenV Tryd.underlying52 rfl) (gg 2 rfl ?_))
      refine hk31 _ ?_
      exact Sub.cons rfl (Sub.cons rfl (Sub.cons rfl (Sub.cons rfl (Sub.cons rfl (Sub.cons rfl (Sub.cons rfl (Sub.cons rfl (Sub.cons (lkB rfl) (Sub.nil _)))))))))
     ·refine gg 4 rfl ?_
      refine hk31 _ ?_
      exact Sub.cons rfl (Sub.cons rfl (Sub.cons rfl (Sub.cons rfl (Sub.cons rfl (Sub.cons rfl (Sub.cons rfl (Sub.cons rfl (Sub.cons (lkB rfl) (Sub.nil _)))))))))
    refine gg 1 rfl ?_
    obtain ⟨j3, hj3, hM⟩ := jnE hM
    refine Rn.joinG (r := r) (G := Int) (fun g => [(2, Str (p1.1)), (3, .slice A13 (y12).length c13), (4, iv y15), (6, Str (p22.2.1)), (7, .bool (p22.2.2)), (8, Str (p22.1)), (9, pt b26 0), (10, iv g)]) (fun g w' => Hp Z0 No w w' [ownR 64 A13 c13 T_api_Pair.rep y12, boxR b26 64 [Str (p24.1.Key), Str (p24.1.Val)]]) (fun g => j3 g) ?_ ?_
    ·subst hj3
     clear hM
     rintro y33 w34 hm34 hM
     try dsimp only at hM
     refine gg 6 rfl ?_
     refine askD hM (Rn.condD rfl) (fun h35 hM => ?_) (fun h35 hM => ?_)
     ·refine gg 9 rfl ?_
      have hm36 := hm34.addNil 64 T_api_Pair.rep
      refine Rn.retG4 Tryd.func31 rfl (rvT rfl) (rvT rfl) (rvT rfl) (rvT rfl) ?_
      obtain rfl := someE hM
      exact ⟨none, 0, rfl, hm36.pick [2] rfl (by decide)⟩
     ·refine gg 4 rfl (Rn.q rfl (V.ldBA [_, _] Tryd.isAgg64 Tryd.sizeOf64 rfl (hm34.get 1 rfl) rfl rfl) ?_)
      obtain ⟨z38, e38, hM⟩ := bindE hM
      refine Rn.pushH (z := p24.1) (vs := [Str (p24.1.Key), Str (p24.1.Val)]) hm34 0 rfl e38 rfl rfl rfl rfl Tryd.underlying52 el64 rfl rfl rfl rfl (fun _ => rfl) (⟨_, _, rfl, ⟨rfl, trivial⟩, ⟨rfl, trivial⟩⟩) ?_
      intro A38 c38 w38 u38 hm38
      refine gg 5 rfl (Rn.q rfl (V.lenS Tryd.underlying9 rfl) (gg 5 rfl ?_))
      exact hn20 (z38, (W64 (y15 + (W64 ((p22.1.length : Int) + 1)))), p22.2.1, p22.2.2, A38, c38) _ _ (sb ⟨rfl, rfl, rfl, rfl, rfl, trivial⟩) (hm38.pick [0] rfl (by decide)) hM
    intro hk3
    clear hj3
    refine askD hM (Rn.condD rfl) (fun h40 hM => ?_) (fun h40 hM => ?_)
    ·refine gg 3 rfl (Rn.q rfl (V.ldB Tryd.isAgg9 rfl (hm30.get 1 rfl) rfl) ?_)
     obtain ⟨p41, e41, hM⟩ := bindE hM
     refine Rn.cl ck44 rfl rfl rfl rfl (m_label_follows_sim (Z0 := All) e41 (own_slR (hm30.get 0 rfl)) :) ?_
     rintro _ w41 ⟨rfl, hq41⟩
     refine ⟨_, rfl, ?_⟩
     have hm42 := hm30.call0 hq41
     refine gg 2 rfl ?_
     exact hk3 p41 _ _ (sb ⟨rfl, rfl, rfl, rfl, rfl, rfl, rfl, rfl, trivial⟩) (hm42.pick [0, 1] rfl (by decide)) hM
    ·refine gg 1 rfl ?_
     exact hk3 y29 _ _ (sb ⟨rfl, rfl, rfl, rfl, rfl, rfl, rfl, rfl, trivial⟩) (hm30.pick [0, 1] rfl (by decide)) hM
   intro hk2
   clear hj2
   refine askD hM (Rn.condD rfl) (fun h43 hM => ?_) (fun h43 hM => ?_)
   ·refine gg 3 rfl ?_
    exact hk2 4 _ _ (sb ⟨rfl, rfl, rfl, rfl, rfl, rfl, rfl, rfl, trivial⟩) (hm28.pick [0, 1] rfl (by decide)) hM
   ·refine gg 1 rfl ?_
    exact hk2 p24.2 _ _ (sb ⟨rfl, rfl, rfl, rfl, rfl, rfl, rfl, rfl, trivial⟩) (hm28.pick [0, 1] rfl (by decide)) hM
  ·refine gg 1 rfl ?_
   exact hk1 (y12, A13, c13) _ _ (sb ⟨rfl, rfl, trivial⟩) (hm20.pick [0] rfl (by decide)) hM

theorem m_label_Check_1_sim {Z0 : Nat → Prop} {w : World} {x0 : T_api_Pair} {b1 o1 : Nat} {x1 : T_api_Pair} {r : Bool} (hM : m_label_Check_1 x0 x1 = some r) (f0 : (rdR b1 o1 [Str (x1.Key), Str (x1.Val)]).H Z0 w) :
    Calls Tryd.prog 37 #[.agg [Str (x0.Key), Str (x0.Val)].toArray, pt b1 o1] w fun x w' => x = .returned (.bool (r)) ∧ Hp Z0 No w w' [] := by
 have hm0 := Hp.nil Z0 No w
 have hc0 := Calm.nil
 have hm2 := hm0.know (rdR b1 o1 [Str (x1.Key), Str (x1.Val)]) (fun _ h => h) (hm0.in0 hc0 f0)
 replace hc0 := hc0.snoc (r := rdR b1 o1 [Str (x1.Key), Str (x1.Val)]) (fun _ h => h)
 refine Rn.enter Tryd.func37 rfl rfl (Nat.le_of_ble_eq_true rfl) ?_
 refine gg 2 rfl (Rn.box rfl rfl rfl rfl rfl ?_)
 intro b3 w3 hb3 m3 e3
 have hm5 := (hm2.addBox hb3 e3 m3).nf [_, boxR _ _ [_, _]] rfl
 refine gg 5 rfl (Rn.q rfl (V.ldB Tryd.isAgg9 rfl (hm5.get 1 rfl) rfl) (gg 1 rfl (Rn.q rfl (V.ldR0 Tryd.isAgg9 rfl (hm5.get 0 rfl).2 rfl) (Rn.q rfl (V.eqlS rfl rfl) (gg 2 rfl ?_)))))
 refine Rn.retG1 Tryd.func37 rfl (rvT rfl) ?_
 obtain rfl := someE hM
 exact ⟨rfl, hm5.pick [] rfl (by decide)⟩

theorem m_slices_IndexFunc_api_Pair_api_Pair_s1_sim {Z0 : Nat → Prop} {w : World} {A0 : Option Addr} {c0 : Nat} {x0 : (List T_api_Pair)} {x1_0 : T_api_Pair} {b1_0 o1_0 : Nat} {r : Int} (hM : m_slices_IndexFunc_api_Pair_api_Pair_s1 x0 x1_0 = some r) (f0 : (slR A0 c0 T_api_Pair.rep x0).H Z0 w) (f1 : (rdR b1_0 o1_0 [Str (x1_0.Key), Str (x1_0.Val)]).H Z0 w) :
    Calls Tryd.prog 56 #[.slice A0 (x0).length c0, .func (.func 37) #[] [pt b1_0 o1_0].toArray] w fun x w' => x = .returned (iv r) ∧ Hp Z0 No w w' [] := by
 have hm0 := Hp.nil Z0 No w
 have hc0 := Calm.nil
 have hm3 := hm0.know (slR A0 c0 T_api_Pair.rep x0) (fun _ h => h) (hm0.in0 hc0 f0)
 replace hc0 := hc0.snoc (r := slR A0 c0 T_api_Pair.rep x0) (fun _ h => h)
 have hm4 := hm3.know (rdR b1_0 o1_0 [Str (x1_0.Key), Str (x1_0.Val)]) (fun _ h => h) (hm3.in0 hc0 f1)
 replace hc0 := hc0.snoc (r := rdR b1_0 o1_0 [Str (x1_0.Key), Str (x1_0.Val)]) (fun _ h => h)
 refine Rn.enter Tryd.func56 rfl rfl (Nat.le_of_ble_eq_true rfl) ?_
 refine gg 8 rfl (Rn.q rfl (V.lenV Tryd.underlying52 rfl) (gg 2 rfl ?_))
 obtain ⟨j1, hj1, hM⟩ := jnE hM
 refine Rn.joinG (r := r) (G := Unit) (fun g => []) (fun g w' => Hp Z0 No w w' []) (fun g => j1 ()) ?_ ?_
 ·subst hj1
  clear hM
  rintro _ w5 hm5 hM
  try dsimp only at hM
  refine gg 4 rfl ?_
  refine Rn.retG1 Tryd.func56 rfl (rvT rfl) ?_
  obtain rfl := someE hM
  exact ⟨rfl, hm5.pick [] rfl (by decide)⟩
 intro hk1
 clear hj1
 refine gg 1 rfl ?_
 refine Rn.loopF (G := Int) (fun g => [(0, .slice A0 (x0).length c0), (1, .func (.func 37) #[] [pt b1_0 o1_0].toArray), (7, iv (x0.length : Int)), (8, iv g)]) (fun g w' => Hp Z0 No w w' [slR A0 c0 T_api_Pair.rep x0, rdR b1_0 o1_0 [Str (x1_0.Key), Str (x1_0.Val)]]) (fun n g => m_slices_IndexFunc_api_Pair_api_Pair_s1_L1 x0 x1_0 j1 n g) fuel 0 (sb ⟨rfl, rfl, rfl, rfl, trivial⟩) (hm4.pick [0, 1] rfl (by decide)) hM (fun _ => rfl) ?_
 clear hM
 rintro m7 y6 w7 hm7 hM hn7
 replace hM : m_slices_IndexFunc_api_Pair_api_Pair_s1_L1 x0 x1_0 j1 (m7 + 1) y6 = some r := hM
 rw [m_slices_IndexFunc_api_Pair_api_Pair_s1_L1] at hM
 refine gg 5 rfl ?_
 refine askD hM (Rn.condD rfl) (fun h8 hM => ?_) (fun h8 hM => ?_)
 ·refine gg 13 rfl ?_
  obtain ⟨z9, e9, hM⟩ := bindE hM
  refine Rn.ixH hm7 0 rfl e9 rfl rfl rfl Tryd.underlying52 Tryd.sizeOf64 rfl rfl rfl rfl ?_
  rintro b9 o9 vs9 hr9 hm9
  obtain rfl := T_api_Pair.relE hr9
  refine Rn.q rfl (V.ldA (vs := [_, _]) Tryd.isAgg64 Tryd.sizeOf64 rfl (Rd.pre (hm9.get 2 rfl).2 2) rfl) ?_
  obtain ⟨p11, e11, hM⟩ := bindE hM
  refine Rn.clV ck37 rfl rfl rfl rfl rfl (m_label_Check_1_sim (Z0 := All) e11 (rdR_all (hm9.get 1 rfl)) :) ?_
  rintro _ w11 ⟨rfl, hq11⟩
  refine ⟨_, rfl, ?_⟩
  have hm12 := hm9.call0 hq11
  refine gg 1 rfl ?_
  refine askS hM (Rn.condS rfl) (fun h13 hM => ?_) (fun h13 hM => ?_)
  ·refine gg 5 rfl ?_
   refine Rn.retG1 Tryd.func56 rfl (rvT rfl) ?_
   obtain rfl := someE hM
   exact ⟨rfl, hm12.pick [] rfl (by decide)⟩
  ·refine gg 6 rfl ?_
   exact hn7 (W64 (y6 + 1)) _ _ (sb ⟨rfl, rfl, rfl, rfl, trivial⟩) (hm12.pick [0, 1] rfl (by decide)) hM
 ·refine gg 1 rfl ?_
  exact hk1 () _ _ (sb trivial) (hm7.pick [] rfl (by decide)) hM

theorem m_slices_ContainsFunc_api_Pair_api_Pair_s2_sim {Z0 : Nat → Prop} {w : World} {A0 : Option Addr} {c0 : Nat} {x0 : (List T_api_Pair)} {x1_0 : T_api_Pair} {b1_0 o1_0 : Nat} {r : Bool} (hM : m_slices_ContainsFunc_api_Pair_api_Pair_s2 x0 x1_0 = some r) (f0 : (slR A0 c0 T_api_Pair.rep x0).H Z0 w) (f1 : (rdR b1_0 o1_0 [Str (x1_0.Key), Str (x1_0.Val)]).H Z0 w) :
    Calls Tryd.prog 36 #[.slice A0 (x0).length c0, .func (.func 37) #[] [pt b1_0 o1_0].toArray] w fun x w' => x = .returned (.bool (r)) ∧ Hp Z0 No w w' [] := by
 have hm0 := Hp.nil Z0 No w
 have hc0 := Calm.nil
 have hm3 := hm0.know (slR A0 c0 T_api_Pair.rep x0) (fun _ h => h) (hm0.in0 hc0 f0)
 replace hc0 := hc0.snoc (r := slR A0 c0 T_api_Pair.rep x0) (fun _ h => h)
 have hm4 := hm3.know (rdR b1_0 o1_0 [Str (x1_0.Key), Str (x1_0.Val)]) (fun _ h => h) (hm3.in0 hc0 f1)
 replace hc0 := hc0.snoc (r := rdR b1_0 o1_0 [Str (x1_0.Key), Str (x1_0.Val)]) (fun _ h => h)
 refine Rn.enter Tryd.func36 rfl rfl (Nat.le_of_ble_eq_true rfl) ?_
 refine gg 8 rfl ?_
 obtain ⟨p5, e5, hM⟩ := bindE hM
 refine Rn.cl ck56 rfl rfl rfl rfl (m_slices_IndexFunc_api_Pair_api_Pair_s1_sim (Z0 := All) e5 (slR_all (hm4.get 0 rfl)) (rdR_all (hm4.get 1 rfl)) :) ?_
 rintro _ w5 ⟨rfl, hq5⟩
 refine ⟨_, rfl, ?_⟩
 have hm6 := hm4.call0 hq5
 refine gg 3 rfl ?_
 refine Rn.retG1 Tryd.func36 rfl (rvT rfl) ?_
 obtain rfl := someE hM
 exact ⟨rfl, hm6.pick [] rfl (by decide)⟩

theorem m_label_Check_sim {Z0 : Nat → Prop} {w : World} {x0 : (List UInt8)} {A1 : Option Addr} {c1 : Nat} {x1 : (List T_api_Pair)} {r : Int} (hM : m_label_Check x0 x1 = some r) (f0 : (slR A1 c1 T_api_Pair.rep x1).H Z0 w) :
    Calls Tryd.prog 24 #[Str (x0), .slice A1 (x1).length c1] w fun x w' => x = .returned (iv r) ∧ Hp Z0 No w w' [] := by
 have hm0 := Hp.nil Z0 No w
 have hc0 := Calm.nil
 have hm2 := hm0.know (slR A1 c1 T_api_Pair.rep x1) (fun _ h => h) (hm0.in0 hc0 f0)
 replace hc0 := hc0.snoc (r := slR A1 c1 T_api_Pair.rep x1) (fun _ h => h)
 refine Rn.enter Tryd.func24 rfl rfl (Nat.le_of_ble_eq_true rfl) ?_
 refine gg 8 rfl ?_
 obtain ⟨p3, e3, hM⟩ := bindE hM
 refine Rn.cl ck34 rfl rfl rfl rfl (m_label_isName_sim (Z0 := All) e3  :) ?_
 rintro _ w3 ⟨rfl, hq3⟩
 refine ⟨_, rfl, ?_⟩
 have hm4 := hm2.call0 hq3
 refine Rn.q rfl (V.notB rfl) (gg 1 rfl ?_)
 refine askS hM (Rn.condS rfl) (fun h5 hM => ?_) (fun h5 hM => ?_)
 ·refine gg 4 rfl ?_
  refine Rn.retG1 Tryd.func24 rfl (rvT rfl) ?_
  obtain rfl := someE hM
  exact ⟨rfl, hm4.pick [] rfl (by decide)⟩
 ·refine gg 5 rfl (Rn.q rfl (V.lenV Tryd.underlying52 rfl) (gg 2 rfl ?_))
  refine askD hM (Rn.condD rfl) (fun h6 hM => ?_) (fun h6 hM => ?_)
  ·refine gg 4 rfl ?_
   refine Rn.retG1 Tryd.func24 rfl (rvT rfl) ?_
   obtain rfl := someE hM
   exact ⟨rfl, hm4.pick [] rfl (by decide)⟩
  ·refine gg 5 rfl (Rn.q rfl (V.lenV Tryd.underlying52 rfl) (gg 2 rfl ?_))
   obtain ⟨j1, hj1, hM⟩ := jnE hM
   refine Rn.joinG (r := r) (G := Unit) (fun g => []) (fun g w' => Hp Z0 No w w' []) (fun g => j1 ()) ?_ ?_
   ·subst hj1
    clear hM
    rintro _ w7 hm7 hM
    try dsimp only at hM
    refine gg 4 rfl ?_
    refine Rn.retG1 Tryd.func24 rfl (rvT rfl) ?_
    obtain rfl := someE hM
    exact ⟨rfl, hm7.pick [] rfl (by decide)⟩
   intro hk1
   clear hj1
   refine gg 1 rfl ?_
   refine Rn.loopF (G := Int) (fun g => [(1, .slice A1 (x1).length c1), (13, .slice A1 (x1).length c1), (14, iv (x1.length : Int)), (15, iv g)]) (fun g w' => Hp Z0 No w w' [slR A1 c1 T_api_Pair.rep x1]) (fun n g => m_label_Check_L1 x1 j1 n g) fuel 0 (sb ⟨rfl, rfl, rfl, rfl, trivial⟩) (hm4.pick [0] rfl (by decide)) hM (fun _ => rfl) ?_
   clear hM
   rintro m9 y8 w9 hm9 hM hn9
   replace hM : m_label_Check_L1 x1 j1 (m9 + 1) y8 = some r := hM
   rw [m_label_Check_L1] at hM
   refine gg 5 rfl ?_
   refine askD hM (Rn.condD rfl) (fun h10 hM => ?_) (fun h10 hM => ?_)
   ·refine gg 6 rfl ?_
    obtain ⟨z11, e11, hM⟩ := bindE hM
    refine Rn.ixH hm9 0 rfl e11 rfl rfl rfl Tryd.underlying52 Tryd.sizeOf64 rfl rfl rfl rfl ?_
    rintro b11 o11 vs11 hr11 hm11
    obtain rfl := T_api_Pair.relE hr11
    refine Rn.q rfl (V.ldA (vs := [_, _]) Tryd.isAgg64 Tryd.sizeOf64 rfl (Rd.pre (hm11.get 1 rfl).2 2) rfl) (Rn.alloc rfl rfl rfl Tryd.zeroValue64 rfl ?_)
    intro b13 w13 hb13 m13 e13
    have hm15 := (hm11.addBox hb13 e13 m13).nf [_, _, boxR _ _ [_, _]] rfl
    refine gg 1 rfl (Rn.st rfl rfl Tryd.sizeOf64 rfl rfl rfl rfl (by first | exact ones rfl | (simp [Value.oneCell']; done)) (hm15.get 2 rfl) (by first | exact Nat.le_of_ble_eq_true rfl | (simp; done)) ?_)
    intro w16 m16 x16
    have hm17 := (hm15.st 2 rfl x16 m16).nf [_, _, boxR _ _ [_, _]] rfl
    refine gg 5 rfl (Rn.q rfl (V.ldB Tryd.isAgg9 rfl (hm17.get 2 rfl) rfl) ?_)
    obtain ⟨p18, e18, hM⟩ := bindE hM
    refine Rn.cl ck34 rfl rfl rfl rfl (m_label_isName_sim (Z0 := All) e18  :) ?_
    rintro _ w18 ⟨rfl, hq18⟩
    refine ⟨_, rfl, ?_⟩
    have hm19 := hm17.call0 hq18
    refine Rn.q rfl (V.notB rfl) (gg 1 rfl ?_)
    obtain ⟨j2, hj2, hM⟩ := jnE hM
    refine Rn.joinR (r := r) (G := Bool) [] (fun g => [(1, .slice A1 (x1).length c1), (5, iv y8), (6, pt b13 0), (13, .slice A1 (x1).length c1), (14, iv (x1.length : Int)), (15, iv y8), (29, .bool (g))]) (fun g w' => Hp Z0 No w w' [slR A1 c1 T_api_Pair.rep x1, boxR b13 64 [Str (z11.Key), Str (z11.Val)]]) (fun g => j2 g) ?_ ?_
    ·subst hj2
     clear hM
     rintro y20 w21 hm21 hM
     try dsimp only at hM
     refine gg 1 rfl ?_
     refine askS hM (Rn.condS rfl) (fun h22 hM => ?_) (fun h22 hM => ?_)
     ·refine gg 4 rfl ?_
      refine Rn.retG1 Tryd.func24 rfl (rvT rfl) ?_
      obtain rfl := someE hM
      exact ⟨rfl, hm21.pick [] rfl (by decide)⟩
     ·refine gg 5 rfl ?_
      obtain ⟨z23, e23, hM⟩ := bindE hM
      refine Rn.cutH hm21 0 rfl e23 rfl rfl rfl Tryd.underlying52 Tryd.sizeOf64 rfl rfl rfl rfl rfl ?_
      intro A23 c23 hm23
      refine Rn.q rfl (V.mkF rfl) ?_
      obtain ⟨p25, e25, hM⟩ := bindE hM
      refine Rn.cl ck36 rfl rfl rfl rfl (m_slices_ContainsFunc_api_Pair_api_Pair_s2_sim (Z0 := All) e25 (slR_all (hm23.get 2 rfl)) (box_rdR (hm23.get 1 rfl)) :) ?_
      rintro _ w25 ⟨rfl, hq25⟩
      refine ⟨_, rfl, ?_⟩
      have hm26 := hm23.call0 hq25
      refine gg 1 rfl ?_
      refine askS hM (Rn.condS rfl) (fun h27 hM => ?_) (fun h27 hM => ?_)
      ·refine gg 4 rfl ?_
       refine Rn.retG1 Tryd.func24 rfl (rvT rfl) ?_
       obtain rfl := someE hM
       exact ⟨rfl, hm26.pick [] rfl (by decide)⟩
      ·refine gg 6 rfl ?_
       exact hn9 (W64 (y8 + 1)) _ _ (sb ⟨rfl, rfl, rfl, rfl, trivial⟩) (hm26.pick [0] rfl (by decide)) hM
    intro hk2
    clear hj2
    refine askS hM (Rn.part (t := 24) rfl) (fun h28 hM => ?_) (fun h28 hM => ?_)
    ·refine gg 5 rfl ?_
     exact hk2 true _ _ (sb ⟨rfl, rfl, rfl, rfl, rfl, rfl, rfl, trivial⟩) (hm19.pick [0, 2] rfl (by decide)) hM
    ·refine gg 1 rfl (Rn.q rfl (V.ldB Tryd.isAgg9 rfl (hm19.get 2 rfl) rfl) ?_)
     obtain ⟨p29, e29, hM⟩ := bindE hM
     refine Rn.cl ck35 rfl rfl rfl rfl (m_label_isValue_sim (Z0 := All) e29  :) ?_
     rintro _ w29 ⟨rfl, hq29⟩
     refine ⟨_, rfl, ?_⟩
     have hm30 := hm19.call0 hq29
     refine Rn.q rfl (V.notB rfl) (gg 1 rfl ?_)
     exact hk2 (!p29) _ _ (sb ⟨rfl, rfl, rfl, rfl, rfl, rfl, rfl, trivial⟩) (hm30.pick [0, 2] rfl (by decide)) hM
   ·refine gg 1 rfl ?_
    exact hk1 () _ _ (sb trivial) (hm9.pick [] rfl (by decide)) hM

theorem m_point_kinds_sim {Z0 : Nat → Prop} {w : World} {x0 : T_api_Point} {cs0 : List Value} {r : Bool} (hM : m_point_kinds x0 = some r) (h0 : T_api_Point.rep.rel Z0 w cs0 x0) :
    Calls Tryd.prog 45 #[.agg cs0.toArray] w fun x w' => x = .returned (.bool (r)) ∧ Hp Z0 No w w' [] := by
 have hm0 := Hp.nil Z0 No w
 have hc0 := Calm.nil
 obtain ⟨Ar1, cr1, Ar3, cr3, Ar5, cr5, rfl, fs1, fs3, fs5⟩ := T_api_Point.relE h0
 have hm7 := hm0.know (slR Ar1 cr1 T_api_Pair.rep x0.Attrs) (fun _ h => h) (hm0.in0 hc0 fs1)
 replace hc0 := hc0.snoc (r := slR Ar1 cr1 T_api_Pair.rep x0.Attrs) (fun _ h => h)
 have hm8 := hm7.know (slR Ar3 cr3 w64R x0.Hist.Pos.Counts) (fun _ h => h) (hm7.in0 hc0 fs3)
 replace hc0 := hc0.snoc (r := slR Ar3 cr3 w64R x0.Hist.Pos.Counts) (fun _ h => h)
 have hm9 := hm8.know (slR Ar5 cr5 w64R x0.Hist.Neg.Counts) (fun _ h => h) (hm8.in0 hc0 fs5)
 replace hc0 := hc0.snoc (r := slR Ar5 cr5 w64R x0.Hist.Neg.Counts) (fun _ h => h)
 refine Rn.enter Tryd.func45 rfl rfl (Nat.le_of_ble_eq_true rfl) ?_
 refine gg 2 rfl (Rn.box rfl rfl rfl rfl rfl ?_)
 intro b10 w10 hb10 m10 e10
 have hm12 := (hm9.addBox hb10 e10 m10).nf [_, _, _, boxR _ _ [_, _, _, _, _, _, _, _, _, _, _, _, _, _, _, _, _]] rfl
 refine gg 6 rfl (Rn.q rfl (V.ldB Tryd.isAgg3 rfl (hm12.get 3 rfl) rfl) (gg 7 rfl ?_))
 refine askD hM (Rn.condD rfl) (fun h13 hM => ?_) (fun h13 hM => ?_)
 ·refine gg 3 rfl (Rn.q rfl (V.ldB Tryd.isAgg3 rfl (hm12.get 3 rfl) rfl) (gg 3 rfl ?_))
  refine Rn.retG1 Tryd.func45 rfl (rvT rfl) ?_
  obtain rfl := someE hM
  exact ⟨rfl, hm12.pick [] rfl (by decide)⟩
 ·refine gg 6 rfl ?_
  obtain ⟨j1, hj1, hM⟩ := jnE hM
  refine Rn.joinG (r := r) (G := Bool) (fun g => [(1, pt b10 0), (10, .bool (g))]) (fun g w' => Hp Z0 No w w' [slR Ar1 cr1 T_api_Pair.rep x0.Attrs, slR Ar3 cr3 w64R x0.Hist.Pos.Counts, slR Ar5 cr5 w64R x0.Hist.Neg.Counts, boxR b10 60 [Str (x0.Name), .slice Ar1 (x0.Attrs).length cr1, iv x0.Kind, iv x0.Temp, .bool (x0.Mono), iv x0.Start, iv x0.Time, iv x0.Int_, u64v x0.Re, u64v x0.Im, iv x0.Hist.Scale, u64v x0.Hist.Zero, iv x0.Hist.Pos.Offset, .slice Ar3 (x0.Hist.Pos.Counts).length cr3, iv x0.Hist.Neg.Offset, .slice Ar5 (x0.Hist.Neg.Counts).length cr5, iv x0.Flags]]) (fun g => j1 g) ?_ ?_
  ·subst hj1
   clear hM
   rintro y14 w15 hm15 hM
   try dsimp only at hM
   refine askS hM (Rn.condS rfl) (fun h16 hM => ?_) (fun h16 hM => ?_)
   ·refine gg 3 rfl (Rn.q rfl (V.ldB Tryd.isAgg3 rfl (hm15.get 3 rfl) rfl) (gg 2 rfl ?_))
    refine Rn.cutR [8] [(22, .bool (decide ((x0.Temp = 1) ∨ (x0.Temp = 2))))] (fun hk17 => ?_) ?_
    ·refine Rn.partD (t := 18) rfl (fun h18 => ?_) (fun h18 => ?_)
     ·refine gg 4 rfl ?_
      refine hk17 _ ?_
      exact Sub.cons (lkB rfl) (Sub.nil _)
     ·refine gg 1 rfl (Rn.q rfl (V.ldB Tryd.isAgg3 rfl (hm15.get 3 rfl) rfl) (gg 2 rfl ?_))
      refine hk17 _ ?_
      exact Sub.cons (lkB rfl) (Sub.nil _)
    refine gg 2 rfl ?_
    refine Rn.retG1 Tryd.func45 rfl (rvT rfl) ?_
    obtain rfl := someE hM
    exact ⟨rfl, hm15.pick [] rfl (by decide)⟩
   ·refine gg 6 rfl ?_
    refine Rn.retG1 Tryd.func45 rfl (rvT rfl) ?_
    obtain rfl := someE hM
    exact ⟨rfl, hm15.pick [] rfl (by decide)⟩
  intro hk1
  clear hj1
  refine askD hM (Rn.condD rfl) (fun h19 hM => ?_) (fun h19 hM => ?_)
  ·refine gg 1 rfl ?_
   exact hk1 (decide (x0.Kind = 1)) _ _ (sb ⟨rfl, rfl, trivial⟩) (hm12.pick [0, 1, 2, 3] rfl (by decide)) hM
  ·refine gg 5 rfl ?_
   refine askD hM (Rn.condD rfl) (fun h20 hM => ?_) (fun h20 hM => ?_)
   ·refine gg 1 rfl ?_
    exact hk1 (decide (x0.Kind = 2)) _ _ (sb ⟨rfl, rfl, trivial⟩) (hm12.pick [0, 1, 2, 3] rfl (by decide)) hM
   ·refine gg 5 rfl ?_
    refine askD hM (Rn.condD rfl) (fun h21 hM => ?_) (fun h21 hM => ?_)
    ·refine gg 1 rfl ?_
     exact hk1 (decide (x0.Kind = 4)) _ _ (sb ⟨rfl, rfl, trivial⟩) (hm12.pick [0, 1, 2, 3] rfl (by decide)) hM
    ·refine gg 4 rfl ?_
     exact hk1 (decide (x0.Kind = 5)) _ _ (sb ⟨rfl, rfl, trivial⟩) (hm12.pick [0, 1, 2, 3] rfl (by decide)) hM

theorem m_point_sum_sim {Z0 : Nat → Prop} {w : World} {x0 : T_api_Point} {cs0 : List Value} {r : Bool} (hM : m_point_sum x0 = some r) (h0 : T_api_Point.rep.rel Z0 w cs0 x0) :
    Calls Tryd.prog 46 #[.agg cs0.toArray] w fun x w' => x = .returned (.bool (r)) ∧ Hp Z0 No w w' [] := by
 have hm0 := Hp.nil Z0 No w
 have hc0 := Calm.nil
 obtain ⟨Ar1, cr1, Ar3, cr3, Ar5, cr5, rfl, fs1, fs3, fs5⟩ := T_api_Point.relE h0
 have hm7 := hm0.know (slR Ar1 cr1 T_api_Pair.rep x0.Attrs) (fun _ h => h) (hm0.in0 hc0 fs1)
 replace hc0 := hc0.snoc (r := slR Ar1 cr1 T_api_Pair.rep x0.Attrs) (fun _ h => h)
 have hm8 := hm7.know (slR Ar3 cr3 w64R x0.Hist.Pos.Counts) (fun _ h => h) (hm7.in0 hc0 fs3)
 replace hc0 := hc0.snoc (r := slR Ar3 cr3 w64R x0.Hist.Pos.Counts) (fun _ h => h)
 have hm9 := hm8.know (slR Ar5 cr5 w64R x0.Hist.Neg.Counts) (fun _ h => h) (hm8.in0 hc0 fs5)
 replace hc0 := hc0.snoc (r := slR Ar5 cr5 w64R x0.Hist.Neg.Counts) (fun _ h => h)
 refine Rn.enter Tryd.func46 rfl rfl (Nat.le_of_ble_eq_true rfl) ?_
 refine gg 2 rfl (Rn.box rfl rfl rfl rfl rfl ?_)
 intro b10 w10 hb10 m10 e10
 have hm12 := (hm9.addBox hb10 e10 m10).nf [_, _, _, boxR _ _ [_, _, _, _, _, _, _, _, _, _, _, _, _, _, _, _, _]] rfl
 refine gg 5 rfl (Rn.q rfl (V.ldB Tryd.isAgg3 rfl (hm12.get 3 rfl) rfl) (gg 2 rfl ?_))
 refine Rn.cutR [8] [(10, .bool (decide ((x0.Kind = 1) ∨ (x0.Kind = 2))))] (fun hk13 => ?_) ?_
 ·refine Rn.partD (t := 6) rfl (fun h14 => ?_) (fun h14 => ?_)
  ·refine gg 4 rfl ?_
   refine hk13 _ ?_
   exact Sub.cons (lkB rfl) (Sub.nil _)
  ·refine gg 1 rfl (Rn.q rfl (V.ldB Tryd.isAgg3 rfl (hm12.get 3 rfl) rfl) (gg 2 rfl ?_))
   refine hk13 _ ?_
   exact Sub.cons (lkB rfl) (Sub.nil _)
 refine gg 2 rfl ?_
 refine Rn.retG1 Tryd.func46 rfl (rvT rfl) ?_
 obtain rfl := someE hM
 exact ⟨rfl, hm12.pick [] rfl (by decide)⟩

theorem m_point_times_sim {Z0 : Nat → Prop} {w : World} {x0 : T_api_Point} {cs0 : List Value} {r : Bool} (hM : m_point_times x0 = some r) (h0 : T_api_Point.rep.rel Z0 w cs0 x0) :
    Calls Tryd.prog 47 #[.agg cs0.toArray] w fun x w' => x = .returned (.bool (r)) ∧ Hp Z0 No w w' [] := by
 have hm0 := Hp.nil Z0 No w
 have hc0 := Calm.nil
 obtain ⟨Ar1, cr1, Ar3, cr3, Ar5, cr5, rfl, fs1, fs3, fs5⟩ := T_api_Point.relE h0
 have hm7 := hm0.know (slR Ar1 cr1 T_api_Pair.rep x0.Attrs) (fun _ h => h) (hm0.in0 hc0 fs1)
 replace hc0 := hc0.snoc (r := slR Ar1 cr1 T_api_Pair.rep x0.Attrs) (fun _ h => h)
 have hm8 := hm7.know (slR Ar3 cr3 w64R x0.Hist.Pos.Counts) (fun _ h => h) (hm7.in0 hc0 fs3)
 replace hc0 := hc0.snoc (r := slR Ar3 cr3 w64R x0.Hist.Pos.Counts) (fun _ h => h)
 have hm9 := hm8.know (slR Ar5 cr5 w64R x0.Hist.Neg.Counts) (fun _ h => h) (hm8.in0 hc0 fs5)
 replace hc0 := hc0.snoc (r := slR Ar5 cr5 w64R x0.Hist.Neg.Counts) (fun _ h => h)
 refine Rn.enter Tryd.func47 rfl rfl (Nat.le_of_ble_eq_true rfl) ?_
 refine gg 2 rfl (Rn.box rfl rfl rfl rfl rfl ?_)
 intro b10 w10 hb10 m10 e10
 have hm12 := (hm9.addBox hb10 e10 m10).nf [_, _, _, boxR _ _ [_, _, _, _, _, _, _, _, _, _, _, _, _, _, _, _, _]] rfl
 refine gg 6 rfl (Rn.q rfl (V.ldB Tryd.isAgg3 rfl (hm12.get 3 rfl) rfl) (gg 2 rfl ?_))
 refine Rn.cutR [] [(1, pt b10 0), (10, .bool (decide ((x0.Start < 0) ∨ (x0.Time > 4503599627370496))))] (fun hk13 => ?_) ?_
 ·refine Rn.partD (t := 6) rfl (fun h14 => ?_) (fun h14 => ?_)
  ·refine gg 4 rfl ?_
   refine hk13 _ ?_
   exact Sub.cons rfl (Sub.cons (lkB rfl) (Sub.nil _))
  ·refine gg 1 rfl (Rn.q rfl (V.ldB Tryd.isAgg3 rfl (hm12.get 3 rfl) rfl) (gg 2 rfl ?_))
   refine hk13 _ ?_
   exact Sub.cons rfl (Sub.cons (lkB rfl) (Sub.nil _))
 refine gg 1 rfl ?_
 refine askD hM (Rn.condD rfl) (fun h15 hM => ?_) (fun h15 hM => ?_)
 ·refine gg 4 rfl ?_
  refine Rn.retG1 Tryd.func47 rfl (rvT rfl) ?_
  obtain rfl := someE hM
  exact ⟨rfl, hm12.pick [] rfl (by decide)⟩
 ·refine gg 5 rfl (Rn.q rfl (V.ldB Tryd.isAgg3 rfl (hm12.get 3 rfl) rfl) (gg 2 rfl ?_))
  refine askD hM (Rn.condD rfl) (fun h16 hM => ?_) (fun h16 hM => ?_)
  ·refine gg 3 rfl (Rn.q rfl (V.ldB Tryd.isAgg3 rfl (hm12.get 3 rfl) rfl) (gg 1 rfl (Rn.q rfl (V.ldB Tryd.isAgg3 rfl (hm12.get 3 rfl) rfl) (gg 3 rfl ?_))))
   refine Rn.retG1 Tryd.func47 rfl (rvT rfl) ?_
   obtain rfl := someE hM
   exact ⟨rfl, hm12.pick [] rfl (by decide)⟩
  ·refine gg 4 rfl (Rn.q rfl (V.ldB Tryd.isAgg3 rfl (hm12.get 3 rfl) rfl) (gg 1 rfl (Rn.q rfl (V.ldB Tryd.isAgg3 rfl (hm12.get 3 rfl) rfl) (gg 3 rfl ?_))))
   refine Rn.retG1 Tryd.func47 rfl (rvT rfl) ?_
   obtain rfl := someE hM
   exact ⟨rfl, hm12.pick [] rfl (by decide)⟩

theorem m_point_bare_sim {Z0 : Nat → Prop} {w : World} {x0 : T_api_Hist} {cs0 : List Value} {r : Bool} (hM : m_point_bare x0 = some r) (h0 : T_api_Hist.rep.rel Z0 w cs0 x0) :
    Calls Tryd.prog 62 #[.agg cs0.toArray] w fun x w' => x = .returned (.bool (r)) ∧ Hp Z0 No w w' [] := by
 have hm0 := Hp.nil Z0 No w
 have hc0 := Calm.nil
 obtain ⟨Ar1, cr1, Ar3, cr3, rfl, fs1, fs3⟩ := T_api_Hist.relE h0
 have hm5 := hm0.know (slR Ar1 cr1 w64R x0.Pos.Counts) (fun _ h => h) (hm0.in0 hc0 fs1)
 replace hc0 := hc0.snoc (r := slR Ar1 cr1 w64R x0.Pos.Counts) (fun _ h => h)
 have hm6 := hm5.know (slR Ar3 cr3 w64R x0.Neg.Counts) (fun _ h => h) (hm5.in0 hc0 fs3)
 replace hc0 := hc0.snoc (r := slR Ar3 cr3 w64R x0.Neg.Counts) (fun _ h => h)
 refine Rn.enter Tryd.func62 rfl rfl (Nat.le_of_ble_eq_true rfl) ?_
 refine gg 2 rfl (Rn.box rfl rfl rfl rfl rfl ?_)
 intro b7 w7 hb7 m7 e7
 have hm9 := (hm6.addBox hb7 e7 m7).nf [_, _, boxR _ _ [_, _, _, _, _, _]] rfl
 refine gg 5 rfl (Rn.q rfl (V.ldB Tryd.isAgg3 rfl (hm9.get 2 rfl) rfl) (gg 2 rfl ?_))
 refine Rn.cutR [8, 9, 10, 11, 12, 13, 14, 15, 16, 17, 18, 19, 20, 21, 22, 23, 24, 25, 26, 27, 28, 29, 30, 31, 32] [(1, pt b7 0), (10, .bool (decide ((x0.Scale = 0) ∧ (((x0.Zero).toNat : Int) = 0))))] (fun hk10 => ?_) ?_
 ·refine Rn.partD (t := 6) rfl (fun h11 => ?_) (fun h11 => ?_)
  ·refine gg 1 rfl (Rn.q rfl (V.ldB Tryd.isAgg53 rfl (hm9.get 2 rfl) rfl) (Rn.q rfl (V.eql rfl rfl) (gg 1 rfl ?_)))
   refine hk10 _ ?_
   exact Sub.cons rfl (Sub.cons (lkB rfl) (Sub.nil _))
  ·refine gg 4 rfl ?_
   refine hk10 _ ?_
   exact Sub.cons rfl (Sub.cons (lkB rfl) (Sub.nil _))
 refine gg 1 rfl ?_
 refine Rn.cutR [14, 15, 16, 17, 18, 19, 20, 21, 22, 23, 24, 25, 26, 27, 28, 29, 30, 31, 32] [(1, pt b7 0), (16, .bool (decide (((x0.Scale = 0) ∧ (((x0.Zero).toNat : Int) = 0)) ∧ (x0.Pos.Offset = 0))))] (fun hk12 => ?_) ?_
 ·refine Rn.partD (t := 11) rfl (fun h13 => ?_) (fun h13 => ?_)
  ·refine gg 2 rfl (Rn.q rfl (V.ldB Tryd.isAgg3 rfl (hm9.get 2 rfl) rfl) (gg 2 rfl ?_))
   refine hk12 _ ?_
   exact Sub.cons rfl (Sub.cons (lkB rfl) (Sub.nil _))
  ·refine gg 5 rfl ?_
   refine hk12 _ ?_
   exact Sub.cons rfl (Sub.cons (lkB rfl) (Sub.nil _))
 refine gg 1 rfl ?_
 refine Rn.cutR [20, 21, 22, 23, 24, 25, 26, 27, 28, 29, 30, 31, 32] [(1, pt b7 0), (22, .bool (decide ((((x0.Scale = 0) ∧ (((x0.Zero).toNat : Int) = 0)) ∧ (x0.Pos.Offset = 0)) ∧ (x0.Neg.Offset = 0))))] (fun hk14 => ?_) ?_
 ·refine Rn.partD (t := 17) rfl (fun h15 => ?_) (fun h15 => ?_)
  ·refine gg 2 rfl (Rn.q rfl (V.ldB Tryd.isAgg3 rfl (hm9.get 2 rfl) rfl) (gg 2 rfl ?_))
   refine hk14 _ ?_
   exact Sub.cons rfl (Sub.cons (lkB rfl) (Sub.nil _))
  ·refine gg 5 rfl ?_
   refine hk14 _ ?_
   exact Sub.cons rfl (Sub.cons (lkB rfl) (Sub.nil _))
 refine gg 1 rfl ?_
 obtain ⟨j1, hj1, hM⟩ := jnE hM
 refine Rn.joinR (r := r) (G := Bool) [32] (fun g => [(34, .bool (g))]) (fun g w' => Hp Z0 No w w' [slR Ar1 cr1 w64R x0.Pos.Counts, slR Ar3 cr3 w64R x0.Neg.Counts, boxR b7 58 [iv x0.Scale, u64v x0.Zero, iv x0.Pos.Offset, .slice Ar1 (x0.Pos.Counts).length cr1, iv x0.Neg.Offset, .slice Ar3 (x0.Neg.Counts).length cr3]]) (fun g => j1 g) ?_ ?_
 ·subst hj1
  clear hM
  rintro y16 w17 hm17 hM
  try dsimp only at hM
  refine gg 2 rfl ?_
  refine Rn.retG1 Tryd.func62 rfl (rvT rfl) ?_
  obtain rfl := someE hM
  exact ⟨rfl, hm17.pick [] rfl (by decide)⟩
 intro hk1
 clear hj1
 refine askD hM (Rn.partD (t := 23) rfl) (fun h18 hM => ?_) (fun h18 hM => ?_)
 ·refine gg 2 rfl (Rn.q rfl (V.ldB Tryd.isAgg54 rfl (hm9.get 2 rfl) rfl) (Rn.q rfl (V.lenV Tryd.underlying54 rfl) (gg 2 rfl (Rn.q rfl (V.ldB Tryd.isAgg54 rfl (hm9.get 2 rfl) rfl) (Rn.q rfl (V.lenV Tryd.underlying54 rfl) (gg 3 rfl ?_))))))
  exact hk1 (decide (W64 ((x0.Pos.Counts.length : Int) + (x0.Neg.Counts.length : Int)) = 0)) _ _ (sb ⟨rfl, trivial⟩) (hm9.pick [0, 1, 2] rfl (by decide)) hM
 ·refine gg 11 rfl ?_
  exact hk1 false _ _ (sb ⟨rfl, trivial⟩) (hm9.pick [0, 1, 2] rfl (by decide)) hM

theorem m_point_own_sim {Z0 : Nat → Prop} {w : World} {x0 : T_api_Point} {cs0 : List Value} {r : Bool} (hM : m_point_own x0 = some r) (h0 : T_api_Point.rep.rel Z0 w cs0 x0) :
    Calls Tryd.prog 48 #[.agg cs0.toArray] w fun x w' => x = .returned (.bool (r)) ∧ Hp Z0 No w w' [] := by
 have hm0 := Hp.nil Z0 No w
 have hc0 := Calm.nil
 obtain ⟨Ar1, cr1, Ar3, cr3, Ar5, cr5, rfl, fs1, fs3, fs5⟩ := T_api_Point.relE h0
 have hm7 := hm0.know (slR Ar1 cr1 T_api_Pair.rep x0.Attrs) (fun _ h => h) (hm0.in0 hc0 fs1)
 replace hc0 := hc0.snoc (r := slR Ar1 cr1 T_api_Pair.rep x0.Attrs) (fun _ h => h)
 have hm8 := hm7.know (slR Ar3 cr3 w64R x0.Hist.Pos.Counts) (fun _ h => h) (hm7.in0 hc0 fs3)
 replace hc0 := hc0.snoc (r := slR Ar3 cr3 w64R x0.Hist.Pos.Counts) (fun _ h => h)
 have hm9 := hm8.know (slR Ar5 cr5 w64R x0.Hist.Neg.Counts) (fun _ h => h) (hm8.in0 hc0 fs5)
 replace hc0 := hc0.snoc (r := slR Ar5 cr5 w64R x0.Hist.Neg.Counts) (fun _ h => h)
 refine Rn.enter Tryd.func48 rfl rfl (Nat.le_of_ble_eq_true rfl) ?_
 refine gg 2 rfl (Rn.box rfl rfl rfl rfl rfl ?_)
 intro b10 w10 hb10 m10 e10
 have hm12 := (hm9.addBox hb10 e10 m10).nf [_, _, _, boxR _ _ [_, _, _, _, _, _, _, _, _, _, _, _, _, _, _, _, _]] rfl
 refine gg 5 rfl (Rn.q rfl (V.ldB Tryd.isAgg3 rfl (hm12.get 3 rfl) rfl) (gg 2 rfl ?_))
 refine Rn.cutR [8, 9, 10, 11, 12, 13] [(1, pt b10 0), (11, .bool (decide ((x0.Kind = 2) ∨ (x0.Kind = 3))))] (fun hk13 => ?_) ?_
 ·refine Rn.partD (t := 7) rfl (fun h14 => ?_) (fun h14 => ?_)
  ·refine gg 4 rfl ?_
   refine hk13 _ ?_
   exact Sub.cons rfl (Sub.cons (lkB rfl) (Sub.nil _))
  ·refine gg 1 rfl (Rn.q rfl (V.ldB Tryd.isAgg3 rfl (hm12.get 3 rfl) rfl) (gg 2 rfl ?_))
   refine hk13 _ ?_
   exact Sub.cons rfl (Sub.cons (lkB rfl) (Sub.nil _))
 refine gg 1 rfl ?_
 refine Rn.cutR [13] [(1, pt b10 0), (16, .bool (decide (((x0.Kind = 2) ∨ (x0.Kind = 3)) ∨ (x0.Kind = 5))))] (fun hk15 => ?_) ?_
 ·refine Rn.partD (t := 12) rfl (fun h16 => ?_) (fun h16 => ?_)
  ·refine gg 4 rfl ?_
   refine hk15 _ ?_
   exact Sub.cons rfl (Sub.cons (lkB rfl) (Sub.nil _))
  ·refine gg 1 rfl (Rn.q rfl (V.ldB Tryd.isAgg3 rfl (hm12.get 3 rfl) rfl) (gg 2 rfl ?_))
   refine hk15 _ ?_
   exact Sub.cons rfl (Sub.cons (lkB rfl) (Sub.nil _))
 refine gg 8 rfl (Rn.q rfl (V.ldB Tryd.isAgg3 rfl (hm12.get 3 rfl) rfl) (gg 2 rfl ?_))
 refine Rn.cutR [8] [(1, pt b10 0), (3, .bool (decide (((x0.Kind = 2) ∨ (x0.Kind = 3)) ∨ (x0.Kind = 5)))), (25, .bool (decide ((x0.Kind ≠ 1) ∧ (x0.Int_ ≠ 0))))] (fun hk17 => ?_) ?_
 ·refine Rn.partD (t := 21) rfl (fun h18 => ?_) (fun h18 => ?_)
  ·refine gg 1 rfl (Rn.q rfl (V.ldB Tryd.isAgg3 rfl (hm12.get 3 rfl) rfl) (gg 2 rfl ?_))
   refine hk17 _ ?_
   exact Sub.cons rfl (Sub.cons rfl (Sub.cons (lkB rfl) (Sub.nil _)))
  ·refine gg 4 rfl ?_
   refine hk17 _ ?_
   exact Sub.cons rfl (Sub.cons rfl (Sub.cons (lkB rfl) (Sub.nil _)))
 refine gg 2 rfl ?_
 obtain ⟨j1, hj1, hM⟩ := jnE hM
 refine Rn.joinG (r := r) (G := Bool) (fun g => [(17, .bool (g))]) (fun g w' => Hp Z0 No w w' [slR Ar1 cr1 T_api_Pair.rep x0.Attrs, slR Ar3 cr3 w64R x0.Hist.Pos.Counts, slR Ar5 cr5 w64R x0.Hist.Neg.Counts, boxR b10 60 [Str (x0.Name), .slice Ar1 (x0.Attrs).length cr1, iv x0.Kind, iv x0.Temp, .bool (x0.Mono), iv x0.Start, iv x0.Time, iv x0.Int_, u64v x0.Re, u64v x0.Im, iv x0.Hist.Scale, u64v x0.Hist.Zero, iv x0.Hist.Pos.Offset, .slice Ar3 (x0.Hist.Pos.Counts).length cr3, iv x0.Hist.Neg.Offset, .slice Ar5 (x0.Hist.Neg.Counts).length cr5, iv x0.Flags]]) (fun g => j1 g) ?_ ?_
 ·subst hj1
  clear hM
  rintro y19 w20 hm20 hM
  try dsimp only at hM
  refine askS hM (Rn.condS rfl) (fun h21 hM => ?_) (fun h21 hM => ?_)
  ·refine gg 4 rfl ?_
   refine Rn.retG1 Tryd.func48 rfl (rvT rfl) ?_
   obtain rfl := someE hM
   exact ⟨rfl, hm20.pick [] rfl (by decide)⟩
  ·refine gg 6 rfl ?_
   refine Rn.retG1 Tryd.func48 rfl (rvT rfl) ?_
   obtain rfl := someE hM
   exact ⟨rfl, hm20.pick [] rfl (by decide)⟩
 intro hk1
 clear hj1
 refine askD hM (Rn.condD rfl) (fun h22 hM => ?_) (fun h22 hM => ?_)
 ·refine gg 1 rfl ?_
  exact hk1 (decide ((x0.Kind ≠ 1) ∧ (x0.Int_ ≠ 0))) _ _ (sb ⟨rfl, trivial⟩) (hm12.pick [0, 1, 2, 3] rfl (by decide)) hM
 ·refine gg 3 rfl (Rn.q rfl (V.notD rfl) (gg 1 rfl ?_))
  refine Rn.cutR [7] [(1, pt b10 0), (32, .bool (decide ((¬ (((x0.Kind = 2) ∨ (x0.Kind = 3)) ∨ (x0.Kind = 5))) ∧ (((x0.Re).toNat : Int) ≠ 0))))] (fun hk23 => ?_) ?_
  ·refine Rn.partD (t := 28) rfl (fun h24 => ?_) (fun h24 => ?_)
   ·refine gg 1 rfl (Rn.q rfl (V.ldB Tryd.isAgg53 rfl (hm12.get 3 rfl) rfl) (Rn.q rfl (V.neq rfl rfl) (gg 1 rfl ?_)))
    refine hk23 _ ?_
    exact Sub.cons rfl (Sub.cons (lkB rfl) (Sub.nil _))
   ·refine gg 4 rfl ?_
    refine hk23 _ ?_
    exact Sub.cons rfl (Sub.cons (lkB rfl) (Sub.nil _))
  refine gg 2 rfl ?_
  refine askD hM (Rn.condD rfl) (fun h25 hM => ?_) (fun h25 hM => ?_)
  ·refine gg 1 rfl ?_
   exact hk1 (decide ((¬ (((x0.Kind = 2) ∨ (x0.Kind = 3)) ∨ (x0.Kind = 5))) ∧ (((x0.Re).toNat : Int) ≠ 0))) _ _ (sb ⟨rfl, trivial⟩) (hm12.pick [0, 1, 2, 3] rfl (by decide)) hM
  ·refine gg 3 rfl (Rn.q rfl (V.ldB Tryd.isAgg3 rfl (hm12.get 3 rfl) rfl) (gg 2 rfl ?_))
   refine Rn.cutR [8] [(1, pt b10 0), (40, .bool (decide ((x0.Kind ≠ 5) ∧ (((x0.Im).toNat : Int) ≠ 0))))] (fun hk26 => ?_) ?_
   ·refine Rn.partD (t := 36) rfl (fun h27 => ?_) (fun h27 => ?_)
    ·refine gg 1 rfl (Rn.q rfl (V.ldB Tryd.isAgg53 rfl (hm12.get 3 rfl) rfl) (Rn.q rfl (V.neq rfl rfl) (gg 1 rfl ?_)))
     refine hk26 _ ?_
     exact Sub.cons rfl (Sub.cons (lkB rfl) (Sub.nil _))
    ·refine gg 4 rfl ?_
     refine hk26 _ ?_
     exact Sub.cons rfl (Sub.cons (lkB rfl) (Sub.nil _))
   refine gg 2 rfl ?_
   refine askD hM (Rn.condD rfl) (fun h28 hM => ?_) (fun h28 hM => ?_)
   ·refine gg 1 rfl ?_
    exact hk1 (decide ((x0.Kind ≠ 5) ∧ (((x0.Im).toNat : Int) ≠ 0))) _ _ (sb ⟨rfl, trivial⟩) (hm12.pick [0, 1, 2, 3] rfl (by decide)) hM
   ·refine gg 3 rfl (Rn.q rfl (V.ldB Tryd.isAgg3 rfl (hm12.get 3 rfl) rfl) (gg 2 rfl ?_))
    obtain ⟨j2, hj2, hM⟩ := jnE hM
    refine Rn.joinR (r := r) (G := Bool) [9] (fun g => [(1, pt b10 0), (49, .bool (g))]) (fun g w' => Hp Z0 No w w' [slR Ar1 cr1 T_api_Pair.rep x0.Attrs, slR Ar3 cr3 w64R x0.Hist.Pos.Counts, slR Ar5 cr5 w64R x0.Hist.Neg.Counts, boxR b10 60 [Str (x0.Name), .slice Ar1 (x0.Attrs).length cr1, iv x0.Kind, iv x0.Temp, .bool (x0.Mono), iv x0.Start, iv x0.Time, iv x0.Int_, u64v x0.Re, u64v x0.Im, iv x0.Hist.Scale, u64v x0.Hist.Zero, iv x0.Hist.Pos.Offset, .slice Ar3 (x0.Hist.Pos.Counts).length cr3, iv x0.Hist.Neg.Offset, .slice Ar5 (x0.Hist.Neg.Counts).length cr5, iv x0.Flags]]) (fun g => j2 g) ?_ ?_
    ·subst hj2
     clear hM
     rintro y29 w30 hm30 hM
     try dsimp only at hM
     refine gg 2 rfl ?_
     refine askS hM (Rn.condS rfl) (fun h31 hM => ?_) (fun h31 hM => ?_)
     ·refine gg 1 rfl ?_
      exact hk1 y29 _ _ (sb ⟨rfl, trivial⟩) (hm30.pick [0, 1, 2, 3] rfl (by decide)) hM
     ·refine gg 2 rfl (Rn.q rfl (V.ldB Tryd.isAgg3 rfl (hm30.get 3 rfl) rfl) (gg 2 rfl ?_))
      refine Rn.cutR [8] [(57, .bool (decide ((x0.Flags < 0) ∨ (x0.Flags > 31))))] (fun hk32 => ?_) ?_
      ·refine Rn.partD (t := 53) rfl (fun h33 => ?_) (fun h33 => ?_)
       ·refine gg 4 rfl ?_
        refine hk32 _ ?_
        exact Sub.cons (lkB rfl) (Sub.nil _)
       ·refine gg 1 rfl (Rn.q rfl (V.ldB Tryd.isAgg3 rfl (hm30.get 3 rfl) rfl) (gg 2 rfl ?_))
        refine hk32 _ ?_
        exact Sub.cons (lkB rfl) (Sub.nil _)
      refine gg 2 rfl ?_
      exact hk1 (decide ((x0.Flags < 0) ∨ (x0.Flags > 31))) _ _ (sb ⟨rfl, trivial⟩) (hm30.pick [0, 1, 2, 3] rfl (by decide)) hM
    intro hk2
    clear hj2
    refine askD hM (Rn.partD (t := 44) rfl) (fun h34 hM => ?_) (fun h34 hM => ?_)
    ·refine gg 1 rfl (Rn.q rfl (V.ldBA [_, _, _, _, _, _] Tryd.isAgg58 Tryd.sizeOf58 rfl (hm12.get 3 rfl) rfl rfl) ?_)
     obtain ⟨p35, e35, hM⟩ := bindE hM
     refine Rn.cl ck62 rfl rfl rfl rfl (m_point_bare_sim (Z0 := All) e35 (show T_api_Hist.rep.rel All _ _ _ from ⟨_, _, rfl, ⟨rfl, trivial⟩, ⟨_, _, rfl, ⟨rfl, trivial⟩, ⟨_, _, rfl, ⟨_, _, rfl, ⟨rfl, trivial⟩, ⟨_, _, rfl, (slR_all (hm12.get 1 rfl)).1, (slR_all (hm12.get 1 rfl)).2.1, (slR_all (hm12.get 1 rfl)).2.2⟩⟩, ⟨_, _, rfl, ⟨rfl, trivial⟩, ⟨_, _, rfl, (slR_all (hm12.get 2 rfl)).1, (slR_all (hm12.get 2 rfl)).2.1, (slR_all (hm12.get 2 rfl)).2.2⟩⟩⟩⟩⟩) :) ?_
     rintro _ w35 ⟨rfl, hq35⟩
     refine ⟨_, rfl, ?_⟩
     have hm36 := hm12.call0 hq35
     refine Rn.q rfl (V.notB rfl) (gg 1 rfl ?_)
     exact hk2 (!p35) _ _ (sb ⟨rfl, rfl, trivial⟩) (hm36.pick [0, 1, 2, 3] rfl (by decide)) hM
    ·refine gg 5 rfl ?_
     exact hk2 false _ _ (sb ⟨rfl, rfl, trivial⟩) (hm12.pick [0, 1, 2, 3] rfl (by decide)) hM

theorem m_num_Finite_sim {Z0 : Nat → Prop} {w : World} {x0 : UInt64} {r : Bool} (hM : m_num_Finite x0 = some r)  :
    Calls Tryd.prog 49 #[u64v x0] w fun x w' => x = .returned (.bool (r)) ∧ Hp Z0 No w w' [] := by
 have hm0 := Hp.nil Z0 No w
 have hc0 := Calm.nil
 refine Rn.enter Tryd.func49 rfl rfl (Nat.le_of_ble_eq_true rfl) ?_
 refine gg 7 rfl (Rn.q rfl (V.o64 rfl rfl x0 (9218868437227405312 : UInt64) rfl rfl (b64_and _ _ _)) (Rn.q rfl (V.neq rfl rfl) (gg 2 rfl ?_)))
 refine Rn.retG1 Tryd.func49 rfl (rvT rfl) ?_
 obtain rfl := someE hM
 exact ⟨rfl, hm0.pick [] rfl (by decide)⟩

theorem m_num_of_sim {Z0 : Nat → Prop} {w : World} {x0 : UInt64} {r : UInt64} (hM : m_num_of x0 = some r)  :
    Calls Tryd.prog 63 #[u64v x0] w fun x w' => x = .returned (.float .f64 (r).toNat) ∧ Hp Z0 No w w' [] := by
 have hm0 := Hp.nil Z0 No w
 have hc0 := Calm.nil
 refine Rn.enter Tryd.func63 rfl rfl (Nat.le_of_ble_eq_true rfl) ?_
 refine gg 7 rfl (Rn.q rfl (V.fltOf (a := x0) Tryd.func77 (by kernel_rfl) (by kernel_rfl) (by kernel_rfl) (by kernel_rfl) rfl) (gg 2 rfl ?_))
 refine Rn.retG1 Tryd.func63 rfl (rvT rfl) ?_
 obtain rfl := someE hM
 exact ⟨rfl, hm0.pick [] rfl (by decide)⟩

theorem m_num_Less_sim {Z0 : Nat → Prop} {w : World} {x0 : UInt64} {x1 : UInt64} {r : Bool} (hM : m_num_Less x0 x1 = some r)  :
    Calls Tryd.prog 50 #[u64v x0, u64v x1] w fun x w' => x = .returned (.bool (r)) ∧ Hp Z0 No w w' [] := by
 have hm0 := Hp.nil Z0 No w
 have hc0 := Calm.nil
 refine Rn.enter Tryd.func50 rfl rfl (Nat.le_of_ble_eq_true rfl) ?_
 refine gg 7 rfl ?_
 obtain ⟨p1, e1, hM⟩ := bindE hM
 refine Rn.cl ck63 rfl rfl rfl rfl (m_num_of_sim (Z0 := All) e1  :) ?_
 rintro _ w1 ⟨rfl, hq1⟩
 refine ⟨_, rfl, ?_⟩
 have hm2 := hm0.call0 hq1
 refine gg 1 rfl ?_
 obtain ⟨p3, e3, hM⟩ := bindE hM
 refine Rn.cl ck63 rfl rfl rfl rfl (m_num_of_sim (Z0 := All) e3  :) ?_
 rintro _ w3 ⟨rfl, hq3⟩
 refine ⟨_, rfl, ?_⟩
 have hm4 := hm2.call0 hq3
 refine Rn.q rfl (V.lssF (a := p1) (b := p3) rfl rfl) (gg 2 rfl ?_)
 refine Rn.retG1 Tryd.func50 rfl (rvT rfl) ?_
 obtain rfl := someE hM
 exact ⟨rfl, hm4.pick [] rfl (by decide)⟩

theorem m_hist_sides_sim {Z0 : Nat → Prop} {w : World} {x0 : T_api_Hist} {cs0 : List Value} {r : T_arr2_api_Side} (hM : m_hist_sides x0 = some r) (h0 : T_api_Hist.rep.rel Z0 w cs0 x0) :
    Calls Tryd.prog 64 #[.agg cs0.toArray] w fun x w' => ∃ A_0_0 c_0_0 A_0_1 c_0_1, x = .returned (.agg [iv r.a0.Offset, .slice A_0_0 (r.a0.Counts).length c_0_0, iv r.a1.Offset, .slice A_0_1 (r.a1.Counts).length c_0_1].toArray) ∧ Hp Z0 No w w' [slR A_0_0 c_0_0 w64R r.a0.Counts, slR A_0_1 c_0_1 w64R r.a1.Counts] := by
 have hm0 := Hp.nil Z0 No w
 have hc0 := Calm.nil
 obtain ⟨Ar1, cr1, Ar3, cr3, rfl, fs1, fs3⟩ := T_api_Hist.relE h0
 have hm5 := hm0.know (slR Ar1 cr1 w64R x0.Pos.Counts) (fun _ h => h) (hm0.in0 hc0 fs1)
 replace hc0 := hc0.snoc (r := slR Ar1 cr1 w64R x0.Pos.Counts) (fun _ h => h)
 have hm6 := hm5.know (slR Ar3 cr3 w64R x0.Neg.Counts) (fun _ h => h) (hm5.in0 hc0 fs3)
 replace hc0 := hc0.snoc (r := slR Ar3 cr3 w64R x0.Neg.Counts) (fun _ h => h)
 refine Rn.enter Tryd.func64 rfl rfl (Nat.le_of_ble_eq_true rfl) ?_
 refine gg 2 rfl (Rn.box rfl rfl rfl rfl rfl ?_)
 intro b7 w7 hb7 m7 e7
 have hm9 := (hm6.addBox hb7 e7 m7).nf [_, _, boxR _ _ [_, _, _, _, _, _]] rfl
 refine Rn.alloc rfl rfl rfl Tryd.zeroValue120 rfl ?_
 intro b10 w10 hb10 m10 e10
 have hm12 := (hm9.addBox hb10 e10 m10).nf [_, _, _, boxR _ _ [_, _, _, _]] rfl
 refine gg 4 rfl (Rn.q rfl (V.ldBA [_, _] Tryd.isAgg56 Tryd.sizeOf56 rfl (hm12.get 2 rfl) rfl rfl) (gg 1 rfl (Rn.q rfl (V.ldBA [_, _] Tryd.isAgg56 Tryd.sizeOf56 rfl (hm12.get 2 rfl) rfl rfl) (Rn.q rfl (V.bldA (cs := [_, _, _, _]) _ ar120 (offs_range 2 2) rfl rfl) (Rn.st rfl rfl Tryd.sizeOf120 rfl rfl rfl rfl (by first | exact ones rfl | (simp [Value.oneCell']; done)) (hm12.get 3 rfl) (by first | exact Nat.le_of_ble_eq_true rfl | (simp; done)) ?_)))))
 intro w13 m13 x13
 have hm14 := (hm12.st 3 rfl x13 m13).nf [_, _, _, boxR _ _ [_, _, _, _]] rfl
 refine gg 1 rfl ?_
 refine Rn.retG1 Tryd.func64 rfl (rvC rfl Tryd.isAgg120 Tryd.sizeOf120 (hm14.get 3 rfl) rfl) ?_
 obtain rfl := someE hM
 exact ⟨Ar1, cr1, Ar3, cr3, rfl, hm14.pick [0, 1] rfl (by decide)⟩

theorem m_hist_check_sim {Z0 : Nat → Prop} {w : World} {x0 : T_api_Side} {cs0 : List Value} {r : Int} (hM : m_hist_check x0 = some r) (h0 : T_api_Side.rep.rel Z0 w cs0 x0) :
    Calls Tryd.prog 65 #[.agg cs0.toArray] w fun x w' => x = .returned (iv r) ∧ Hp Z0 No w w' [] := by
 have hm0 := Hp.nil Z0 No w
 have hc0 := Calm.nil
 obtain ⟨Ar1, cr1, rfl, fs1⟩ := T_api_Side.relE h0
 have hm3 := hm0.know (slR Ar1 cr1 w64R x0.Counts) (fun _ h => h) (hm0.in0 hc0 fs1)
 replace hc0 := hc0.snoc (r := slR Ar1 cr1 w64R x0.Counts) (fun _ h => h)
 refine Rn.enter Tryd.func65 rfl rfl (Nat.le_of_ble_eq_true rfl) ?_
 refine gg 2 rfl (Rn.box rfl rfl rfl rfl rfl ?_)
 intro b4 w4 hb4 m4 e4
 have hm6 := (hm3.addBox hb4 e4 m4).nf [_, boxR _ _ [_, _]] rfl
 refine gg 5 rfl (Rn.q rfl (V.ldB Tryd.isAgg54 rfl (hm6.get 1 rfl) rfl) (Rn.q rfl (V.lenV Tryd.underlying54 rfl) (gg 10 rfl ?_)))
 refine askD hM (Rn.condD rfl) (fun h7 hM => ?_) (fun h7 hM => ?_)
 ·refine gg 4 rfl ?_
  refine Rn.retG1 Tryd.func65 rfl (rvT rfl) ?_
  obtain rfl := someE hM
  exact ⟨rfl, hm6.pick [] rfl (by decide)⟩
 ·refine gg 5 rfl ?_
  refine Rn.cutR [7] [(1, pt b4 0), (3, iv (x0.Counts.length : Int)), (17, .bool (decide (((x0.Counts.length : Int) = 0) ∧ (x0.Offset ≠ 0))))] (fun hk8 => ?_) ?_
  ·refine Rn.partD (t := 13) rfl (fun h9 => ?_) (fun h9 => ?_)
   ·refine gg 1 rfl (Rn.q rfl (V.ldB Tryd.isAgg3 rfl (hm6.get 1 rfl) rfl) (gg 2 rfl ?_))
    refine hk8 _ ?_
    exact Sub.cons rfl (Sub.cons rfl (Sub.cons (lkB rfl) (Sub.nil _)))
   ·refine gg 4 rfl ?_
    refine hk8 _ ?_
    exact Sub.cons rfl (Sub.cons rfl (Sub.cons (lkB rfl) (Sub.nil _)))
  refine gg 2 rfl ?_
  refine askD hM (Rn.condD rfl) (fun h10 hM => ?_) (fun h10 hM => ?_)
  ·refine gg 4 rfl ?_
   refine Rn.retG1 Tryd.func65 rfl (rvT rfl) ?_
   obtain rfl := someE hM
   exact ⟨rfl, hm6.pick [] rfl (by decide)⟩
  ·refine gg 6 rfl ?_
   refine askD hM (Rn.condD rfl) (fun h11 hM => ?_) (fun h11 hM => ?_)
   ·refine gg 4 rfl ?_
    refine Rn.retG1 Tryd.func65 rfl (rvT rfl) ?_
    obtain rfl := someE hM
    exact ⟨rfl, hm6.pick [] rfl (by decide)⟩
   ·refine gg 3 rfl (Rn.q rfl (V.ldB Tryd.isAgg54 rfl (hm6.get 1 rfl) rfl) ?_)
    obtain ⟨z12, e12, hM⟩ := bindE hM
    refine Rn.ixH hm6 0 rfl e12 rfl rfl rfl Tryd.underlying54 Tryd.sizeOf53 rfl rfl rfl rfl ?_
    rintro b12 o12 vs12 ⟨rfl, _⟩ hm12
    refine Rn.q rfl (V.ldR0 Tryd.isAgg53 rfl (hm12.get 2 rfl).2 rfl) (Rn.q rfl (V.eql rfl rfl) (gg 1 rfl ?_))
    obtain ⟨j1, hj1, hM⟩ := jnE hM
    refine Rn.joinR (r := r) (G := Bool) [14] (fun g => [(1, pt b4 0), (3, iv (x0.Counts.length : Int)), (35, .bool (g))]) (fun g w' => Hp Z0 No w w' [slR Ar1 cr1 w64R x0.Counts, boxR b4 56 [iv x0.Offset, .slice Ar1 (x0.Counts).length cr1]]) (fun g => j1 g) ?_ ?_
    ·subst hj1
     clear hM
     rintro y14 w15 hm15 hM
     try dsimp only at hM
     refine gg 2 rfl ?_
     refine askS hM (Rn.condS rfl) (fun h16 hM => ?_) (fun h16 hM => ?_)
     ·refine gg 4 rfl ?_
      refine Rn.retG1 Tryd.func65 rfl (rvT rfl) ?_
      obtain rfl := someE hM
      exact ⟨rfl, hm15.pick [] rfl (by decide)⟩
     ·refine gg 3 rfl (Rn.q rfl (V.ldB Tryd.isAgg3 rfl (hm15.get 1 rfl) rfl) (gg 2 rfl ?_))
      obtain ⟨j2, hj2, hM⟩ := jnE hM
      refine Rn.joinR (r := r) (G := Bool) [11] (fun g => [(47, .bool (g))]) (fun g w' => Hp Z0 No w w' [slR Ar1 cr1 w64R x0.Counts, boxR b4 56 [iv x0.Offset, .slice Ar1 (x0.Counts).length cr1]]) (fun g => j2 g) ?_ ?_
      ·subst hj2
       clear hM
       rintro y17 w18 hm18 hM
       try dsimp only at hM
       refine gg 2 rfl ?_
       refine askS hM (Rn.condS rfl) (fun h19 hM => ?_) (fun h19 hM => ?_)
       ·refine gg 4 rfl ?_
        refine Rn.retG1 Tryd.func65 rfl (rvT rfl) ?_
        obtain rfl := someE hM
        exact ⟨rfl, hm18.pick [] rfl (by decide)⟩
       ·refine gg 6 rfl ?_
        refine Rn.retG1 Tryd.func65 rfl (rvT rfl) ?_
        obtain rfl := someE hM
        exact ⟨rfl, hm18.pick [] rfl (by decide)⟩
      intro hk2
      clear hj2
      refine askD hM (Rn.partD (t := 40) rfl) (fun h20 hM => ?_) (fun h20 hM => ?_)
      ·refine gg 7 rfl ?_
       exact hk2 true _ _ (sb ⟨rfl, trivial⟩) (hm15.pick [0, 1] rfl (by decide)) hM
      ·refine gg 1 rfl (Rn.q rfl (V.ldB Tryd.isAgg3 rfl (hm15.get 1 rfl) rfl) (gg 5 rfl ?_))
       exact hk2 (decide (x0.Offset > W64 (1073741824 - (W64 ((x0.Counts.length : Int) - 1))))) _ _ (sb ⟨rfl, trivial⟩) (hm15.pick [0, 1] rfl (by decide)) hM
    intro hk1
    clear hj1
    refine askD hM (Rn.partD (t := 27) rfl) (fun h21 hM => ?_) (fun h21 hM => ?_)
    ·refine gg 8 rfl ?_
     exact hk1 true _ _ (sb ⟨rfl, rfl, rfl, trivial⟩) (hm12.pick [0, 1] rfl (by decide)) hM
    ·refine gg 1 rfl (Rn.q rfl (V.ldB Tryd.isAgg54 rfl (hm12.get 1 rfl) rfl) (gg 2 rfl ?_))
     obtain ⟨z22, e22, hM⟩ := bindE hM
     refine Rn.ixH hm12 0 rfl e22 rfl rfl rfl Tryd.underlying54 Tryd.sizeOf53 rfl rfl rfl rfl ?_
     rintro b22 o22 vs22 ⟨rfl, _⟩ hm22
     refine Rn.q rfl (V.ldR0 Tryd.isAgg53 rfl (hm22.get 3 rfl).2 rfl) (Rn.q rfl (V.eql rfl rfl) (gg 1 rfl ?_))
     exact hk1 (decide (((z22).toNat : Int) = 0)) _ _ (sb ⟨rfl, rfl, rfl, trivial⟩) (hm22.pick [0, 1] rfl (by decide)) hM

theorem m_hist_Total_sim {Z0 : Nat → Prop} {w : World} {x0 : T_api_Hist} {cs0 : List Value} {r : (UInt64 × Bool)} (hM : m_hist_Total x0 = some r) (h0 : T_api_Hist.rep.rel Z0 w cs0 x0) :
    Calls Tryd.prog 66 #[.agg cs0.toArray] w fun x w' => x = .returned (.tuple #[u64v r.1, .bool (r.2)]) ∧ Hp Z0 No w w' [] := by
 have hm0 := Hp.nil Z0 No w
 have hc0 := Calm.nil
 obtain ⟨Ar1, cr1, Ar3, cr3, rfl, fs1, fs3⟩ := T_api_Hist.relE h0
 have hm5 := hm0.know (slR Ar1 cr1 w64R x0.Pos.Counts) (fun _ h => h) (hm0.in0 hc0 fs1)
 replace hc0 := hc0.snoc (r := slR Ar1 cr1 w64R x0.Pos.Counts) (fun _ h => h)
 have hm6 := hm5.know (slR Ar3 cr3 w64R x0.Neg.Counts) (fun _ h => h) (hm5.in0 hc0 fs3)
 replace hc0 := hc0.snoc (r := slR Ar3 cr3 w64R x0.Neg.Counts) (fun _ h => h)
 refine Rn.enter Tryd.func66 rfl rfl (Nat.le_of_ble_eq_true rfl) ?_
 refine gg 2 rfl (Rn.box rfl rfl rfl rfl rfl ?_)
 intro b7 w7 hb7 m7 e7
 have hm9 := (hm6.addBox hb7 e7 m7).nf [_, _, boxR _ _ [_, _, _, _, _, _]] rfl
 refine gg 6 rfl (Rn.q rfl (V.ldB Tryd.isAgg53 rfl (hm9.get 2 rfl) rfl) (gg 6 rfl (Rn.q rfl (V.ldBA [_, _, _, _, _, _] Tryd.isAgg58 Tryd.sizeOf58 rfl (hm9.get 2 rfl) rfl rfl) ?_)))
 obtain ⟨p10, e10, hM⟩ := bindE hM
 refine Rn.cl ck64 rfl rfl rfl rfl (m_hist_sides_sim (Z0 := hm9.Z) e10 (show T_api_Hist.rep.rel _ _ _ _ from ⟨_, _, rfl, ⟨rfl, trivial⟩, ⟨_, _, rfl, ⟨rfl, trivial⟩, ⟨_, _, rfl, ⟨_, _, rfl, ⟨rfl, trivial⟩, ⟨_, _, rfl, (hm9.get 0 rfl).1, (hm9.get 0 rfl).2.1, (hm9.get 0 rfl).2.2⟩⟩, ⟨_, _, rfl, ⟨rfl, trivial⟩, ⟨_, _, rfl, (hm9.get 1 rfl).1, (hm9.get 1 rfl).2.1, (hm9.get 1 rfl).2.2⟩⟩⟩⟩⟩) :) ?_
 rintro _ w10 ⟨A10_0_0, c10_0_0, A10_0_1, c10_0_1, rfl, hq10⟩
 refine ⟨_, rfl, ?_⟩
 have hm13 := hm9.callZ hq10
 refine gg 2 rfl ?_
 obtain ⟨j1, hj1, hM⟩ := jnE hM
 refine Rn.joinG (r := r) (G := UInt64 × UInt64) (fun g => [(4, u64v (g.1)), (5, u64v (g.2))]) (fun g w' => Hp Z0 No w w' [slR Ar1 cr1 w64R x0.Pos.Counts, slR Ar3 cr3 w64R x0.Neg.Counts, boxR b7 58 [iv x0.Scale, u64v x0.Zero, iv x0.Pos.Offset, .slice Ar1 (x0.Pos.Counts).length cr1, iv x0.Neg.Offset, .slice Ar3 (x0.Neg.Counts).length cr3]]) (fun g => j1 g.1 g.2) ?_ ?_
 ·subst hj1
  clear hM
  rintro ⟨y14, y15⟩ w16 hm16 hM
  try dsimp only at hM
  refine gg 4 rfl (Rn.q rfl (V.neq rfl rfl) (gg 1 rfl ?_))
  refine askD hM (Rn.condD rfl) (fun h17 hM => ?_) (fun h17 hM => ?_)
  ·refine gg 5 rfl ?_
   refine Rn.retG2 Tryd.func66 rfl (rvT rfl) (rvT rfl) ?_
   obtain rfl := someE hM
   exact ⟨rfl, hm16.pick [] rfl (by decide)⟩
  ·refine gg 7 rfl ?_
   refine Rn.retG2 Tryd.func66 rfl (rvT rfl) (rvT rfl) ?_
   obtain rfl := someE hM
   exact ⟨rfl, hm16.pick [] rfl (by decide)⟩
 intro hk1
 clear hj1
 refine gg 1 rfl ?_
 refine Rn.loopF (G := UInt64 × UInt64 × Int) (fun g => [(4, u64v (g.1)), (5, u64v (g.2.1)), (14, .agg [iv p10.a0.Offset, .slice A10_0_0 (p10.a0.Counts).length c10_0_0, iv p10.a1.Offset, .slice A10_0_1 (p10.a1.Counts).length c10_0_1].toArray), (15, iv (g.2.2))]) (fun g w' => Hp Z0 No w w' [slR Ar1 cr1 w64R x0.Pos.Counts, slR Ar3 cr3 w64R x0.Neg.Counts, boxR b7 58 [iv x0.Scale, u64v x0.Zero, iv x0.Pos.Offset, .slice Ar1 (x0.Pos.Counts).length cr1, iv x0.Neg.Offset, .slice Ar3 (x0.Neg.Counts).length cr3], slR A10_0_0 c10_0_0 w64R p10.a0.Counts, slR A10_0_1 c10_0_1 w64R p10.a1.Counts]) (fun n g => m_hist_Total_L1 p10 j1 n g.1 g.2.1 g.2.2) fuel (x0.Zero, (0 : UInt64), 0) (sb ⟨rfl, rfl, rfl, rfl, trivial⟩) (hm13.pick [0, 1, 2, 3, 4] rfl (by decide)) hM (fun _ => rfl) ?_
 clear hM
 rintro m21 ⟨y18, y19, y20⟩ w21 hm21 hM hn21
 replace hM : m_hist_Total_L1 p10 j1 (m21 + 1) y18 y19 y20 = some r := hM
 rw [m_hist_Total_L1] at hM
 refine gg 5 rfl ?_
 refine askD hM (Rn.condD rfl) (fun h22 hM => ?_) (fun h22 hM => ?_)
 ·refine gg 5 rfl ?_
  obtain ⟨z23, e23, hM⟩ := bindE hM
  obtain ⟨A24, c24, hm24, hq24⟩ := Hp.idx2 (fun x : T_api_Side => x.Counts) e23 hm21 3 4 rfl rfl
  refine Rn.q rfl (V.arE (v := .agg [iv z23.Offset, .slice A24 (z23.Counts).length c24].toArray) ar120 Tryd.isAgg56 rfl rfl (idx_bd e23 rfl) (by rcases hq24 with ⟨g1, g2, g3, g4⟩ | ⟨g1, g2, g3, g4⟩ <;> first | (simp only [g1, g2, g3, g4]; rfl) | (exfalso; omega))) (Rn.als rfl rfl rfl Tryd.zeroValue56 rfl Tryd.sizeOf56 rfl rfl rfl rfl (by first | exact ones rfl | (simp [Value.oneCell']; done)) ?_)
  intro b26 w26 hb26 m26 e26
  have hm28 := (hm24.addBox hb26 e26 m26).nf [_, _, _, _, _, _, boxR _ _ [_, _]] rfl
  refine gg 4 rfl (Rn.q rfl (V.ldB Tryd.isAgg54 rfl (hm28.get 6 rfl) rfl) (Rn.q rfl (V.lenV Tryd.underlying54 rfl) (gg 2 rfl ?_)))
  obtain ⟨j2, hj2, hM⟩ := jnE hM
  refine Rn.joinG (r := r) (G := UInt64 × UInt64) (fun g => [(4, u64v (g.1)), (5, u64v (g.2)), (14, .agg [iv p10.a0.Offset, .slice A10_0_0 (p10.a0.Counts).length c10_0_0, iv p10.a1.Offset, .slice A10_0_1 (p10.a1.Counts).length c10_0_1].toArray), (15, iv y20)]) (fun g w' => Hp Z0 No w w' [slR Ar1 cr1 w64R x0.Pos.Counts, slR Ar3 cr3 w64R x0.Neg.Counts, boxR b7 58 [iv x0.Scale, u64v x0.Zero, iv x0.Pos.Offset, .slice Ar1 (x0.Pos.Counts).length cr1, iv x0.Neg.Offset, .slice Ar3 (x0.Neg.Counts).length cr3], slR A10_0_0 c10_0_0 w64R p10.a0.Counts, slR A10_0_1 c10_0_1 w64R p10.a1.Counts, slR A24 c24 w64R z23.Counts, boxR b26 56 [iv z23.Offset, .slice A24 (z23.Counts).length c24]]) (fun g => j2 g.1 g.2) ?_ ?_
  ·subst hj2
   clear hM
   rintro ⟨y29, y30⟩ w31 hm31 hM
   try dsimp only at hM
   refine gg 5 rfl ?_
   exact hn21 (y29, y30, (W64 (y20 + 1))) _ _ (sb ⟨rfl, rfl, rfl, rfl, trivial⟩) (hm31.pick [0, 1, 2, 3, 4] rfl (by decide)) hM
  intro hk2
  clear hj2
  refine gg 1 rfl ?_
  refine Rn.loopF (G := UInt64 × UInt64 × Int) (fun g => [(4, u64v (g.1)), (5, u64v (g.2.1)), (14, .agg [iv p10.a0.Offset, .slice A10_0_0 (p10.a0.Counts).length c10_0_0, iv p10.a1.Offset, .slice A10_0_1 (p10.a1.Counts).length c10_0_1].toArray), (15, iv y20), (19, .slice A24 (z23.Counts).length c24), (20, iv (z23.Counts.length : Int)), (21, iv (g.2.2))]) (fun g w' => Hp Z0 No w w' [slR Ar1 cr1 w64R x0.Pos.Counts, slR Ar3 cr3 w64R x0.Neg.Counts, boxR b7 58 [iv x0.Scale, u64v x0.Zero, iv x0.Pos.Offset, .slice Ar1 (x0.Pos.Counts).length cr1, iv x0.Neg.Offset, .slice Ar3 (x0.Neg.Counts).length cr3], slR A10_0_0 c10_0_0 w64R p10.a0.Counts, slR A10_0_1 c10_0_1 w64R p10.a1.Counts, slR A24 c24 w64R z23.Counts, boxR b26 56 [iv z23.Offset, .slice A24 (z23.Counts).length c24]]) (fun n g => m_hist_Total_L2 z23 j2 n g.1 g.2.1 g.2.2) fuel (y18, y19, 0) (sb ⟨rfl, rfl, rfl, rfl, rfl, rfl, rfl, trivial⟩) (hm28.pick [0, 1, 2, 3, 4, 5, 6] rfl (by decide)) hM (fun _ => rfl) ?_
  clear hM
  rintro m35 ⟨y32, y33, y34⟩ w35 hm35 hM hn35
  replace hM : m_hist_Total_L2 z23 j2 (m35 + 1) y32 y33 y34 = some r := hM
  rw [m_hist_Total_L2] at hM
  refine gg 5 rfl ?_
  refine askD hM (Rn.condD rfl) (fun h36 hM => ?_) (fun h36 hM => ?_)
  ·refine gg 5 rfl ?_
   obtain ⟨z37, e37, hM⟩ := bindE hM
   refine Rn.ixH hm35 5 rfl e37 rfl rfl rfl Tryd.underlying54 Tryd.sizeOf53 rfl rfl rfl rfl ?_
   rintro b37 o37 vs37 ⟨rfl, _⟩ hm37
   refine Rn.q rfl (V.ldR0 Tryd.isAgg53 rfl (hm37.get 7 rfl).2 rfl) (gg 10 rfl (Rn.q rfl (V.add64 (a := y32) (b := z37) Tryd.func78 (by kernel_rfl) (by kernel_rfl) (by kernel_rfl) (by kernel_rfl) rfl) (gg 9 rfl (Rn.q rfl (V.o64 rfl rfl y33 (cry y32 z37) rfl rfl (b64_or _ _ _)) (gg 7 rfl ?_)))))
   exact hn35 ((y32 + z37), (y33 ||| (cry y32 z37)), (W64 (y34 + 1))) _ _ (sb ⟨rfl, rfl, rfl, rfl, rfl, rfl, rfl, trivial⟩) (hm37.pick [0, 1, 2, 3, 4, 5, 6] rfl (by decide)) hM
  ·refine gg 1 rfl ?_
   exact hk2 (y32, y33) _ _ (sb ⟨rfl, rfl, rfl, rfl, trivial⟩) (hm35.pick [0, 1, 2, 3, 4, 5, 6] rfl (by decide)) hM
 ·refine gg 1 rfl ?_
  exact hk1 (y18, y19) _ _ (sb ⟨rfl, rfl, trivial⟩) (hm21.pick [0, 1, 2] rfl (by decide)) hM

theorem m_hist_Check_sim {Z0 : Nat → Prop} {w : World} {x0 : T_api_Hist} {cs0 : List Value} {r : Int} (hM : m_hist_Check x0 = some r) (h0 : T_api_Hist.rep.rel Z0 w cs0 x0) :
    Calls Tryd.prog 51 #[.agg cs0.toArray] w fun x w' => x = .returned (iv r) ∧ Hp Z0 No w w' [] := by
 have hm0 := Hp.nil Z0 No w
 have hc0 := Calm.nil
 obtain ⟨Ar1, cr1, Ar3, cr3, rfl, fs1, fs3⟩ := T_api_Hist.relE h0
 have hm5 := hm0.know (slR Ar1 cr1 w64R x0.Pos.Counts) (fun _ h => h) (hm0.in0 hc0 fs1)
 replace hc0 := hc0.snoc (r := slR Ar1 cr1 w64R x0.Pos.Counts) (fun _ h => h)
 have hm6 := hm5.know (slR Ar3 cr3 w64R x0.Neg.Counts) (fun _ h => h) (hm5.in0 hc0 fs3)
 replace hc0 := hc0.snoc (r := slR Ar3 cr3 w64R x0.Neg.Counts) (fun _ h => h)
 refine Rn.enter Tryd.func51 rfl rfl (Nat.le_of_ble_eq_true rfl) ?_
 refine gg 2 rfl (Rn.box rfl rfl rfl rfl rfl ?_)
 intro b7 w7 hb7 m7 e7
 have hm9 := (hm6.addBox hb7 e7 m7).nf [_, _, boxR _ _ [_, _, _, _, _, _]] rfl
 refine gg 6 rfl (Rn.q rfl (V.ldB Tryd.isAgg3 rfl (hm9.get 2 rfl) rfl) (gg 2 rfl ?_))
 refine Rn.cutR [] [(1, pt b7 0), (15, .bool (decide ((x0.Scale < (-10)) ∨ (x0.Scale > 20))))] (fun hk10 => ?_) ?_
 ·refine Rn.partD (t := 11) rfl (fun h11 => ?_) (fun h11 => ?_)
  ·refine gg 4 rfl ?_
   refine hk10 _ ?_
   exact Sub.cons rfl (Sub.cons (lkB rfl) (Sub.nil _))
  ·refine gg 1 rfl (Rn.q rfl (V.ldB Tryd.isAgg3 rfl (hm9.get 2 rfl) rfl) (gg 2 rfl ?_))
   refine hk10 _ ?_
   exact Sub.cons rfl (Sub.cons (lkB rfl) (Sub.nil _))
 refine gg 1 rfl ?_
 refine askD hM (Rn.condD rfl) (fun h12 hM => ?_) (fun h12 hM => ?_)
 ·refine gg 4 rfl ?_
  refine Rn.retG1 Tryd.func51 rfl (rvT rfl) ?_
  obtain rfl := someE hM
  exact ⟨rfl, hm9.pick [] rfl (by decide)⟩
 ·refine gg 4 rfl (Rn.q rfl (V.ldBA [_, _, _, _, _, _] Tryd.isAgg58 Tryd.sizeOf58 rfl (hm9.get 2 rfl) rfl rfl) ?_)
  obtain ⟨p13, e13, hM⟩ := bindE hM
  refine Rn.cl ck64 rfl rfl rfl rfl (m_hist_sides_sim (Z0 := hm9.Z) e13 (show T_api_Hist.rep.rel _ _ _ _ from ⟨_, _, rfl, ⟨rfl, trivial⟩, ⟨_, _, rfl, ⟨rfl, trivial⟩, ⟨_, _, rfl, ⟨_, _, rfl, ⟨rfl, trivial⟩, ⟨_, _, rfl, (hm9.get 0 rfl).1, (hm9.get 0 rfl).2.1, (hm9.get 0 rfl).2.2⟩⟩, ⟨_, _, rfl, ⟨rfl, trivial⟩, ⟨_, _, rfl, (hm9.get 1 rfl).1, (hm9.get 1 rfl).2.1, (hm9.get 1 rfl).2.2⟩⟩⟩⟩⟩) :) ?_
  rintro _ w13 ⟨A13_0_0, c13_0_0, A13_0_1, c13_0_1, rfl, hq13⟩
  refine ⟨_, rfl, ?_⟩
  have hm16 := hm9.callZ hq13
  refine gg 2 rfl ?_
  obtain ⟨j1, hj1, hM⟩ := jnE hM
  refine Rn.joinG (r := r) (G := Unit) (fun g => [(1, pt b7 0)]) (fun g w' => Hp Z0 No w w' [slR Ar1 cr1 w64R x0.Pos.Counts, slR Ar3 cr3 w64R x0.Neg.Counts, boxR b7 58 [iv x0.Scale, u64v x0.Zero, iv x0.Pos.Offset, .slice Ar1 (x0.Pos.Counts).length cr1, iv x0.Neg.Offset, .slice Ar3 (x0.Neg.Counts).length cr3]]) (fun g => j1 ()) ?_ ?_
  ·subst hj1
   clear hM
   rintro _ w17 hm17 hM
   try dsimp only at hM
   refine gg 3 rfl (Rn.q rfl (V.ldBA [_, _, _, _, _, _] Tryd.isAgg58 Tryd.sizeOf58 rfl (hm17.get 2 rfl) rfl rfl) ?_)
   obtain ⟨p18, e18, hM⟩ := bindE hM
   refine Rn.cl ck66 rfl rfl rfl rfl (m_hist_Total_sim (Z0 := All) e18 (show T_api_Hist.rep.rel All _ _ _ from ⟨_, _, rfl, ⟨rfl, trivial⟩, ⟨_, _, rfl, ⟨rfl, trivial⟩, ⟨_, _, rfl, ⟨_, _, rfl, ⟨rfl, trivial⟩, ⟨_, _, rfl, (slR_all (hm17.get 0 rfl)).1, (slR_all (hm17.get 0 rfl)).2.1, (slR_all (hm17.get 0 rfl)).2.2⟩⟩, ⟨_, _, rfl, ⟨rfl, trivial⟩, ⟨_, _, rfl, (slR_all (hm17.get 1 rfl)).1, (slR_all (hm17.get 1 rfl)).2.1, (slR_all (hm17.get 1 rfl)).2.2⟩⟩⟩⟩⟩) :) ?_
   rintro _ w18 ⟨rfl, hq18⟩
   refine ⟨_, rfl, ?_⟩
   have hm19 := hm17.call0 hq18
   refine gg 9 rfl (Rn.q rfl (V.notB rfl) (gg 1 rfl ?_))
   refine askS hM (Rn.condS rfl) (fun h20 hM => ?_) (fun h20 hM => ?_)
   ·refine gg 4 rfl ?_
    refine Rn.retG1 Tryd.func51 rfl (rvT rfl) ?_
    obtain rfl := someE hM
    exact ⟨rfl, hm19.pick [] rfl (by decide)⟩
   ·refine gg 5 rfl ?_
    refine Rn.retG1 Tryd.func51 rfl (rvT rfl) ?_
    obtain rfl := someE hM
    exact ⟨rfl, hm19.pick [] rfl (by decide)⟩
  intro hk1
  clear hj1
  refine gg 1 rfl ?_
  refine Rn.loopF (G := Int) (fun g => [(1, pt b7 0), (17, .agg [iv p13.a0.Offset, .slice A13_0_0 (p13.a0.Counts).length c13_0_0, iv p13.a1.Offset, .slice A13_0_1 (p13.a1.Counts).length c13_0_1].toArray), (18, iv g)]) (fun g w' => Hp Z0 No w w' [slR Ar1 cr1 w64R x0.Pos.Counts, slR Ar3 cr3 w64R x0.Neg.Counts, boxR b7 58 [iv x0.Scale, u64v x0.Zero, iv x0.Pos.Offset, .slice Ar1 (x0.Pos.Counts).length cr1, iv x0.Neg.Offset, .slice Ar3 (x0.Neg.Counts).length cr3], slR A13_0_0 c13_0_0 w64R p13.a0.Counts, slR A13_0_1 c13_0_1 w64R p13.a1.Counts]) (fun n g => m_hist_Check_L1 p13 j1 n g) fuel 0 (sb ⟨rfl, rfl, rfl, trivial⟩) (hm16.pick [0, 1, 2, 3, 4] rfl (by decide)) hM (fun _ => rfl) ?_
  clear hM
  rintro m22 y21 w22 hm22 hM hn22
  replace hM : m_hist_Check_L1 p13 j1 (m22 + 1) y21 = some r := hM
  rw [m_hist_Check_L1] at hM
  refine gg 5 rfl ?_
  refine askD hM (Rn.condD rfl) (fun h23 hM => ?_) (fun h23 hM => ?_)
  ·refine gg 5 rfl ?_
   obtain ⟨z24, e24, hM⟩ := bindE hM
   obtain ⟨A25, c25, hm25, hq25⟩ := Hp.idx2 (fun x : T_api_Side => x.Counts) e24 hm22 3 4 rfl rfl
   refine Rn.q rfl (V.arE (v := .agg [iv z24.Offset, .slice A25 (z24.Counts).length c25].toArray) ar120 Tryd.isAgg56 rfl rfl (idx_bd e24 rfl) (by rcases hq25 with ⟨g1, g2, g3, g4⟩ | ⟨g1, g2, g3, g4⟩ <;> first | (simp only [g1, g2, g3, g4]; rfl) | (exfalso; omega))) (Rn.als rfl rfl rfl Tryd.zeroValue56 rfl Tryd.sizeOf56 rfl rfl rfl rfl (by first | exact ones rfl | (simp [Value.oneCell']; done)) ?_)
   intro b27 w27 hb27 m27 e27
   have hm29 := (hm25.addBox hb27 e27 m27).nf [_, _, _, _, _, _, boxR _ _ [_, _]] rfl
   refine gg 3 rfl (Rn.q rfl (V.ldBA [_, _] Tryd.isAgg56 Tryd.sizeOf56 rfl (hm29.get 6 rfl) rfl rfl) ?_)
   obtain ⟨p30, e30, hM⟩ := bindE hM
   refine Rn.cl ck65 rfl rfl rfl rfl (m_hist_check_sim (Z0 := All) e30 (show T_api_Side.rep.rel All _ _ _ from ⟨_, _, rfl, ⟨rfl, trivial⟩, ⟨_, _, rfl, (slR_all (hm29.get 5 rfl)).1, (slR_all (hm29.get 5 rfl)).2.1, (slR_all (hm29.get 5 rfl)).2.2⟩⟩) :) ?_
   rintro _ w30 ⟨rfl, hq30⟩
   refine ⟨_, rfl, ?_⟩
   have hm31 := hm29.call0 hq30
   refine gg 7 rfl ?_
   refine askD hM (Rn.condD rfl) (fun h32 hM => ?_) (fun h32 hM => ?_)
   ·refine gg 5 rfl ?_
    refine Rn.retG1 Tryd.func51 rfl (rvT rfl) ?_
    obtain rfl := someE hM
    exact ⟨rfl, hm31.pick [] rfl (by decide)⟩
   ·refine gg 6 rfl ?_
    exact hn22 (W64 (y21 + 1)) _ _ (sb ⟨rfl, rfl, rfl, trivial⟩) (hm31.pick [0, 1, 2, 3, 4] rfl (by decide)) hM
  ·refine gg 1 rfl ?_
   exact hk1 () _ _ (sb ⟨rfl, trivial⟩) (hm22.pick [0, 1, 2] rfl (by decide)) hM

theorem m_point_Check_sim {Z0 : Nat → Prop} {w : World} {x0 : T_api_Point} {cs0 : List Value} {r : Int} (hM : m_point_Check x0 = some r) (h0 : T_api_Point.rep.rel Z0 w cs0 x0) :
    Calls Tryd.prog 32 #[.agg cs0.toArray] w fun x w' => x = .returned (iv r) ∧ Hp Z0 No w w' [] := by
 have hm0 := Hp.nil Z0 No w
 have hc0 := Calm.nil
 obtain ⟨Ar1, cr1, Ar3, cr3, Ar5, cr5, rfl, fs1, fs3, fs5⟩ := T_api_Point.relE h0
 have hm7 := hm0.know (slR Ar1 cr1 T_api_Pair.rep x0.Attrs) (fun _ h => h) (hm0.in0 hc0 fs1)
 replace hc0 := hc0.snoc (r := slR Ar1 cr1 T_api_Pair.rep x0.Attrs) (fun _ h => h)
 have hm8 := hm7.know (slR Ar3 cr3 w64R x0.Hist.Pos.Counts) (fun _ h => h) (hm7.in0 hc0 fs3)
 replace hc0 := hc0.snoc (r := slR Ar3 cr3 w64R x0.Hist.Pos.Counts) (fun _ h => h)
 have hm9 := hm8.know (slR Ar5 cr5 w64R x0.Hist.Neg.Counts) (fun _ h => h) (hm8.in0 hc0 fs5)
 replace hc0 := hc0.snoc (r := slR Ar5 cr5 w64R x0.Hist.Neg.Counts) (fun _ h => h)
 refine Rn.enter Tryd.func32 rfl rfl (Nat.le_of_ble_eq_true rfl) ?_
 refine gg 2 rfl (Rn.box rfl rfl rfl rfl rfl ?_)
 intro b10 w10 hb10 m10 e10
 have hm12 := (hm9.addBox hb10 e10 m10).nf [_, _, _, boxR _ _ [_, _, _, _, _, _, _, _, _, _, _, _, _, _, _, _, _]] rfl
 refine gg 6 rfl (Rn.q rfl (V.ldB Tryd.isAgg9 rfl (hm12.get 3 rfl) rfl) (gg 1 rfl (Rn.q rfl (V.ldB Tryd.isAgg52 rfl (hm12.get 3 rfl) rfl) ?_)))
 obtain ⟨p13, e13, hM⟩ := bindE hM
 refine Rn.cl ck24 rfl rfl rfl rfl (m_label_Check_sim (Z0 := All) e13 (slR_all (hm12.get 0 rfl)) :) ?_
 rintro _ w13 ⟨rfl, hq13⟩
 refine ⟨_, rfl, ?_⟩
 have hm14 := hm12.call0 hq13
 refine gg 7 rfl ?_
 refine askD hM (Rn.condD rfl) (fun h15 hM => ?_) (fun h15 hM => ?_)
 ·refine gg 5 rfl ?_
  refine Rn.retG1 Tryd.func32 rfl (rvT rfl) ?_
  obtain rfl := someE hM
  exact ⟨rfl, hm14.pick [] rfl (by decide)⟩
 ·refine gg 5 rfl (Rn.q rfl (V.ldBA [_, _, _, _, _, _, _, _, _, _, _, _, _, _, _, _, _] Tryd.isAgg60 Tryd.sizeOf60 rfl (hm14.get 3 rfl) rfl rfl) ?_)
  obtain ⟨p16, e16, hM⟩ := bindE hM
  refine Rn.cl ck45 rfl rfl rfl rfl (m_point_kinds_sim (Z0 := All) e16 (show T_api_Point.rep.rel All _ _ _ from ⟨_, _, rfl, ⟨rfl, trivial⟩, ⟨_, _, rfl, ⟨_, _, rfl, (slR_all (hm14.get 0 rfl)).1, (slR_all (hm14.get 0 rfl)).2.1, (slR_all (hm14.get 0 rfl)).2.2⟩, ⟨_, _, rfl, ⟨rfl, trivial⟩, ⟨_, _, rfl, ⟨rfl, trivial⟩, ⟨_, _, rfl, ⟨rfl, trivial⟩, ⟨_, _, rfl, ⟨rfl, trivial⟩, ⟨_, _, rfl, ⟨rfl, trivial⟩, ⟨_, _, rfl, ⟨rfl, trivial⟩, ⟨_, _, rfl, ⟨rfl, trivial⟩, ⟨_, _, rfl, ⟨rfl, trivial⟩, ⟨_, _, rfl, ⟨_, _, rfl, ⟨rfl, trivial⟩, ⟨_, _, rfl, ⟨rfl, trivial⟩, ⟨_, _, rfl, ⟨_, _, rfl, ⟨rfl, trivial⟩, ⟨_, _, rfl, (slR_all (hm14.get 1 rfl)).1, (slR_all (hm14.get 1 rfl)).2.1, (slR_all (hm14.get 1 rfl)).2.2⟩⟩, ⟨_, _, rfl, ⟨rfl, trivial⟩, ⟨_, _, rfl, (slR_all (hm14.get 2 rfl)).1, (slR_all (hm14.get 2 rfl)).2.1, (slR_all (hm14.get 2 rfl)).2.2⟩⟩⟩⟩⟩, ⟨rfl, trivial⟩⟩⟩⟩⟩⟩⟩⟩⟩⟩⟩⟩) :) ?_
  rintro _ w16 ⟨rfl, hq16⟩
  refine ⟨_, rfl, ?_⟩
  have hm17 := hm14.call0 hq16
  refine Rn.q rfl (V.notB rfl) (gg 2 rfl ?_)
  refine askS hM (Rn.condS rfl) (fun h18 hM => ?_) (fun h18 hM => ?_)
  ·refine gg 4 rfl ?_
   refine Rn.retG1 Tryd.func32 rfl (rvT rfl) ?_
   obtain rfl := someE hM
   exact ⟨rfl, hm17.pick [] rfl (by decide)⟩
  ·refine gg 4 rfl (Rn.q rfl (V.ldB Tryd.isAgg4 rfl (hm17.get 3 rfl) rfl) (gg 1 rfl ?_))
   obtain ⟨j1, hj1, hM⟩ := jnE hM
   refine Rn.joinR (r := r) (G := Bool) [7] (fun g => [(1, pt b10 0), (23, .bool (g))]) (fun g w' => Hp Z0 No w w' [slR Ar1 cr1 T_api_Pair.rep x0.Attrs, slR Ar3 cr3 w64R x0.Hist.Pos.Counts, slR Ar5 cr5 w64R x0.Hist.Neg.Counts, boxR b10 60 [Str (x0.Name), .slice Ar1 (x0.Attrs).length cr1, iv x0.Kind, iv x0.Temp, .bool (x0.Mono), iv x0.Start, iv x0.Time, iv x0.Int_, u64v x0.Re, u64v x0.Im, iv x0.Hist.Scale, u64v x0.Hist.Zero, iv x0.Hist.Pos.Offset, .slice Ar3 (x0.Hist.Pos.Counts).length cr3, iv x0.Hist.Neg.Offset, .slice Ar5 (x0.Hist.Neg.Counts).length cr5, iv x0.Flags]]) (fun g => j1 g) ?_ ?_
   ·subst hj1
    clear hM
    rintro y19 w20 hm20 hM
    try dsimp only at hM
    refine gg 2 rfl ?_
    obtain ⟨j2, hj2, hM⟩ := jnE hM
    refine Rn.joinG (r := r) (G := Bool) (fun g => [(1, pt b10 0), (16, .bool (g))]) (fun g w' => Hp Z0 No w w' [slR Ar1 cr1 T_api_Pair.rep x0.Attrs, slR Ar3 cr3 w64R x0.Hist.Pos.Counts, slR Ar5 cr5 w64R x0.Hist.Neg.Counts, boxR b10 60 [Str (x0.Name), .slice Ar1 (x0.Attrs).length cr1, iv x0.Kind, iv x0.Temp, .bool (x0.Mono), iv x0.Start, iv x0.Time, iv x0.Int_, u64v x0.Re, u64v x0.Im, iv x0.Hist.Scale, u64v x0.Hist.Zero, iv x0.Hist.Pos.Offset, .slice Ar3 (x0.Hist.Pos.Counts).length cr3, iv x0.Hist.Neg.Offset, .slice Ar5 (x0.Hist.Neg.Counts).length cr5, iv x0.Flags]]) (fun g => j2 g) ?_ ?_
    ·subst hj2
     clear hM
     rintro y21 w22 hm22 hM
     try dsimp only at hM
     refine askS hM (Rn.condS rfl) (fun h23 hM => ?_) (fun h23 hM => ?_)
     ·refine gg 4 rfl ?_
      refine Rn.retG1 Tryd.func32 rfl (rvT rfl) ?_
      obtain rfl := someE hM
      exact ⟨rfl, hm22.pick [] rfl (by decide)⟩
     ·refine gg 2 rfl (Rn.q rfl (V.ldBA [_, _, _, _, _, _, _, _, _, _, _, _, _, _, _, _, _] Tryd.isAgg60 Tryd.sizeOf60 rfl (hm22.get 3 rfl) rfl rfl) ?_)
      obtain ⟨p24, e24, hM⟩ := bindE hM
      refine Rn.cl ck48 rfl rfl rfl rfl (m_point_own_sim (Z0 := All) e24 (show T_api_Point.rep.rel All _ _ _ from ⟨_, _, rfl, ⟨rfl, trivial⟩, ⟨_, _, rfl, ⟨_, _, rfl, (slR_all (hm22.get 0 rfl)).1, (slR_all (hm22.get 0 rfl)).2.1, (slR_all (hm22.get 0 rfl)).2.2⟩, ⟨_, _, rfl, ⟨rfl, trivial⟩, ⟨_, _, rfl, ⟨rfl, trivial⟩, ⟨_, _, rfl, ⟨rfl, trivial⟩, ⟨_, _, rfl, ⟨rfl, trivial⟩, ⟨_, _, rfl, ⟨rfl, trivial⟩, ⟨_, _, rfl, ⟨rfl, trivial⟩, ⟨_, _, rfl, ⟨rfl, trivial⟩, ⟨_, _, rfl, ⟨rfl, trivial⟩, ⟨_, _, rfl, ⟨_, _, rfl, ⟨rfl, trivial⟩, ⟨_, _, rfl, ⟨rfl, trivial⟩, ⟨_, _, rfl, ⟨_, _, rfl, ⟨rfl, trivial⟩, ⟨_, _, rfl, (slR_all (hm22.get 1 rfl)).1, (slR_all (hm22.get 1 rfl)).2.1, (slR_all (hm22.get 1 rfl)).2.2⟩⟩, ⟨_, _, rfl, ⟨rfl, trivial⟩, ⟨_, _, rfl, (slR_all (hm22.get 2 rfl)).1, (slR_all (hm22.get 2 rfl)).2.1, (slR_all (hm22.get 2 rfl)).2.2⟩⟩⟩⟩⟩, ⟨rfl, trivial⟩⟩⟩⟩⟩⟩⟩⟩⟩⟩⟩⟩) :) ?_
      rintro _ w24 ⟨rfl, hq24⟩
      refine ⟨_, rfl, ?_⟩
      have hm25 := hm22.call0 hq24
      refine Rn.q rfl (V.notB rfl) (gg 2 rfl ?_)
      refine askS hM (Rn.condS rfl) (fun h26 hM => ?_) (fun h26 hM => ?_)
      ·refine gg 4 rfl ?_
       refine Rn.retG1 Tryd.func32 rfl (rvT rfl) ?_
       obtain rfl := someE hM
       exact ⟨rfl, hm25.pick [] rfl (by decide)⟩
      ·refine gg 3 rfl (Rn.q rfl (V.ldB Tryd.isAgg4 rfl (hm25.get 3 rfl) rfl) (gg 1 rfl ?_))
       refine Rn.cutR [7, 8, 9, 10, 11, 12, 13] [(1, pt b10 0), (38, .bool (decide ((x0.Mono = true) ∧ (x0.Kind = 2))))] (fun hk27 => ?_) ?_
       ·refine Rn.part (t := 34) rfl (fun h28 => ?_) (fun h28 => ?_)
        ·refine gg 1 rfl (Rn.q rfl (V.ldB Tryd.isAgg3 rfl (hm25.get 3 rfl) rfl) (gg 2 rfl ?_))
         refine hk27 _ ?_
         exact Sub.cons rfl (Sub.cons (lkB rfl) (Sub.nil _))
        ·refine gg 4 rfl ?_
         refine hk27 _ ?_
         exact Sub.cons rfl (Sub.cons (lkB rfl) (Sub.nil _))
       refine gg 1 rfl ?_
       obtain ⟨j3, hj3, hM⟩ := jnE hM
       refine Rn.joinR (r := r) (G := Bool) [13] (fun g => [(1, pt b10 0), (44, .bool (g))]) (fun g w' => Hp Z0 No w w' [slR Ar1 cr1 T_api_Pair.rep x0.Attrs, slR Ar3 cr3 w64R x0.Hist.Pos.Counts, slR Ar5 cr5 w64R x0.Hist.Neg.Counts, boxR b10 60 [Str (x0.Name), .slice Ar1 (x0.Attrs).length cr1, iv x0.Kind, iv x0.Temp, .bool (x0.Mono), iv x0.Start, iv x0.Time, iv x0.Int_, u64v x0.Re, u64v x0.Im, iv x0.Hist.Scale, u64v x0.Hist.Zero, iv x0.Hist.Pos.Offset, .slice Ar3 (x0.Hist.Pos.Counts).length cr3, iv x0.Hist.Neg.Offset, .slice Ar5 (x0.Hist.Neg.Counts).length cr5, iv x0.Flags]]) (fun g => j3 g) ?_ ?_
       ·subst hj3
        clear hM
        rintro y29 w30 hm30 hM
        try dsimp only at hM
        refine gg 2 rfl ?_
        refine askS hM (Rn.condS rfl) (fun h31 hM => ?_) (fun h31 hM => ?_)
        ·refine gg 4 rfl ?_
         refine Rn.retG1 Tryd.func32 rfl (rvT rfl) ?_
         obtain rfl := someE hM
         exact ⟨rfl, hm30.pick [] rfl (by decide)⟩
        ·refine gg 3 rfl (Rn.q rfl (V.ldB Tryd.isAgg4 rfl (hm30.get 3 rfl) rfl) (gg 1 rfl ?_))
         obtain ⟨j4, hj4, hM⟩ := jnE hM
         refine Rn.joinR (r := r) (G := Bool) [12] (fun g => [(1, pt b10 0), (57, .bool (g))]) (fun g w' => Hp Z0 No w w' [slR Ar1 cr1 T_api_Pair.rep x0.Attrs, slR Ar3 cr3 w64R x0.Hist.Pos.Counts, slR Ar5 cr5 w64R x0.Hist.Neg.Counts, boxR b10 60 [Str (x0.Name), .slice Ar1 (x0.Attrs).length cr1, iv x0.Kind, iv x0.Temp, .bool (x0.Mono), iv x0.Start, iv x0.Time, iv x0.Int_, u64v x0.Re, u64v x0.Im, iv x0.Hist.Scale, u64v x0.Hist.Zero, iv x0.Hist.Pos.Offset, .slice Ar3 (x0.Hist.Pos.Counts).length cr3, iv x0.Hist.Neg.Offset, .slice Ar5 (x0.Hist.Neg.Counts).length cr5, iv x0.Flags]]) (fun g => j4 g) ?_ ?_
         ·subst hj4
          clear hM
          rintro y32 w33 hm33 hM
          try dsimp only at hM
          refine gg 2 rfl ?_
          refine askS hM (Rn.condS rfl) (fun h34 hM => ?_) (fun h34 hM => ?_)
          ·refine gg 4 rfl ?_
           refine Rn.retG1 Tryd.func32 rfl (rvT rfl) ?_
           obtain rfl := someE hM
           exact ⟨rfl, hm33.pick [] rfl (by decide)⟩
          ·refine gg 3 rfl (Rn.q rfl (V.ldB Tryd.isAgg3 rfl (hm33.get 3 rfl) rfl) (gg 3 rfl ?_))
           refine askD hM (Rn.condD rfl) (fun h35 hM => ?_) (fun h35 hM => ?_)
           ·refine gg 3 rfl (Rn.q rfl (V.ldBA [_, _, _, _, _, _] Tryd.isAgg58 Tryd.sizeOf58 rfl (hm33.get 3 rfl) rfl rfl) ?_)
            obtain ⟨p36, e36, hM⟩ := bindE hM
            refine Rn.cl ck51 rfl rfl rfl rfl (m_hist_Check_sim (Z0 := All) e36 (show T_api_Hist.rep.rel All _ _ _ from ⟨_, _, rfl, ⟨rfl, trivial⟩, ⟨_, _, rfl, ⟨rfl, trivial⟩, ⟨_, _, rfl, ⟨_, _, rfl, ⟨rfl, trivial⟩, ⟨_, _, rfl, (slR_all (hm33.get 1 rfl)).1, (slR_all (hm33.get 1 rfl)).2.1, (slR_all (hm33.get 1 rfl)).2.2⟩⟩, ⟨_, _, rfl, ⟨rfl, trivial⟩, ⟨_, _, rfl, (slR_all (hm33.get 2 rfl)).1, (slR_all (hm33.get 2 rfl)).2.1, (slR_all (hm33.get 2 rfl)).2.2⟩⟩⟩⟩⟩) :) ?_
            rintro _ w36 ⟨rfl, hq36⟩
            refine ⟨_, rfl, ?_⟩
            have hm37 := hm33.call0 hq36
            refine gg 2 rfl ?_
            refine Rn.retG1 Tryd.func32 rfl (rvT rfl) ?_
            obtain rfl := someE hM
            exact ⟨rfl, hm37.pick [] rfl (by decide)⟩
           ·refine gg 6 rfl ?_
            refine Rn.retG1 Tryd.func32 rfl (rvT rfl) ?_
            obtain rfl := someE hM
            exact ⟨rfl, hm33.pick [] rfl (by decide)⟩
         intro hk4
         clear hj4
         refine askS hM (Rn.part (t := 48) rfl) (fun h38 hM => ?_) (fun h38 hM => ?_)
         ·refine gg 1 rfl (Rn.q rfl (V.ldB Tryd.isAgg3 rfl (hm30.get 3 rfl) rfl) (gg 2 rfl ?_))
          obtain ⟨j5, hj5, hM⟩ := jnE hM
          refine Rn.joinR (r := r) (G := Bool) [11, 12] (fun g => [(1, pt b10 0), (48, .bool true), (56, .bool (g))]) (fun g w' => Hp Z0 No w w' [slR Ar1 cr1 T_api_Pair.rep x0.Attrs, slR Ar3 cr3 w64R x0.Hist.Pos.Counts, slR Ar5 cr5 w64R x0.Hist.Neg.Counts, boxR b10 60 [Str (x0.Name), .slice Ar1 (x0.Attrs).length cr1, iv x0.Kind, iv x0.Temp, .bool (x0.Mono), iv x0.Start, iv x0.Time, iv x0.Int_, u64v x0.Re, u64v x0.Im, iv x0.Hist.Scale, u64v x0.Hist.Zero, iv x0.Hist.Pos.Offset, .slice Ar3 (x0.Hist.Pos.Counts).length cr3, iv x0.Hist.Neg.Offset, .slice Ar5 (x0.Hist.Neg.Counts).length cr5, iv x0.Flags]]) (fun g => j5 g) ?_ ?_
          ·subst hj5
           clear hM
           rintro y39 w40 hm40 hM
           try dsimp only at hM
           refine gg 1 rfl ?_
           exact hk4 y39 _ _ (sb ⟨rfl, rfl, trivial⟩) (hm40.pick [0, 1, 2, 3] rfl (by decide)) hM
          intro hk5
          clear hj5
          refine askD hM (Rn.partD (t := 52) rfl) (fun h41 hM => ?_) (fun h41 hM => ?_)
          ·refine gg 4 rfl ?_
           exact hk5 true _ _ (sb ⟨rfl, rfl, rfl, trivial⟩) (hm30.pick [0, 1, 2, 3] rfl (by decide)) hM
          ·refine gg 1 rfl (Rn.q rfl (V.ldB Tryd.isAgg53 rfl (hm30.get 3 rfl) rfl) ?_)
           obtain ⟨p42, e42, hM⟩ := bindE hM
           refine Rn.cl ck50 rfl rfl rfl rfl (m_num_Less_sim (Z0 := All) e42  :) ?_
           rintro _ w42 ⟨rfl, hq42⟩
           refine ⟨_, rfl, ?_⟩
           have hm43 := hm30.call0 hq42
           refine gg 1 rfl ?_
           exact hk5 p42 _ _ (sb ⟨rfl, rfl, rfl, trivial⟩) (hm43.pick [0, 1, 2, 3] rfl (by decide)) hM
         ·refine gg 9 rfl ?_
          exact hk4 false _ _ (sb ⟨rfl, rfl, trivial⟩) (hm30.pick [0, 1, 2, 3] rfl (by decide)) hM
       intro hk3
       clear hj3
       refine askD hM (Rn.partD (t := 39) rfl) (fun h44 hM => ?_) (fun h44 hM => ?_)
       ·refine gg 1 rfl (Rn.q rfl (V.ldB Tryd.isAgg53 rfl (hm25.get 3 rfl) rfl) ?_)
        obtain ⟨p45, e45, hM⟩ := bindE hM
        refine Rn.cl ck49 rfl rfl rfl rfl (m_num_Finite_sim (Z0 := All) e45  :) ?_
        rintro _ w45 ⟨rfl, hq45⟩
        refine ⟨_, rfl, ?_⟩
        have hm46 := hm25.call0 hq45
        refine Rn.q rfl (V.notB rfl) (gg 1 rfl ?_)
        exact hk3 (!p45) _ _ (sb ⟨rfl, rfl, trivial⟩) (hm46.pick [0, 1, 2, 3] rfl (by decide)) hM
       ·refine gg 5 rfl ?_
        exact hk3 false _ _ (sb ⟨rfl, rfl, trivial⟩) (hm25.pick [0, 1, 2, 3] rfl (by decide)) hM
    intro hk2
    clear hj2
    refine askS hM (Rn.condS rfl) (fun h47 hM => ?_) (fun h47 hM => ?_)
    ·refine gg 1 rfl ?_
     exact hk2 y19 _ _ (sb ⟨rfl, rfl, trivial⟩) (hm20.pick [0, 1, 2, 3] rfl (by decide)) hM
    ·refine gg 1 rfl (Rn.q rfl (V.ldBA [_, _, _, _, _, _, _, _, _, _, _, _, _, _, _, _, _] Tryd.isAgg60 Tryd.sizeOf60 rfl (hm20.get 3 rfl) rfl rfl) ?_)
     obtain ⟨p48, e48, hM⟩ := bindE hM
     refine Rn.cl ck47 rfl rfl rfl rfl (m_point_times_sim (Z0 := All) e48 (show T_api_Point.rep.rel All _ _ _ from ⟨_, _, rfl, ⟨rfl, trivial⟩, ⟨_, _, rfl, ⟨_, _, rfl, (slR_all (hm20.get 0 rfl)).1, (slR_all (hm20.get 0 rfl)).2.1, (slR_all (hm20.get 0 rfl)).2.2⟩, ⟨_, _, rfl, ⟨rfl, trivial⟩, ⟨_, _, rfl, ⟨rfl, trivial⟩, ⟨_, _, rfl, ⟨rfl, trivial⟩, ⟨_, _, rfl, ⟨rfl, trivial⟩, ⟨_, _, rfl, ⟨rfl, trivial⟩, ⟨_, _, rfl, ⟨rfl, trivial⟩, ⟨_, _, rfl, ⟨rfl, trivial⟩, ⟨_, _, rfl, ⟨rfl, trivial⟩, ⟨_, _, rfl, ⟨_, _, rfl, ⟨rfl, trivial⟩, ⟨_, _, rfl, ⟨rfl, trivial⟩, ⟨_, _, rfl, ⟨_, _, rfl, ⟨rfl, trivial⟩, ⟨_, _, rfl, (slR_all (hm20.get 1 rfl)).1, (slR_all (hm20.get 1 rfl)).2.1, (slR_all (hm20.get 1 rfl)).2.2⟩⟩, ⟨_, _, rfl, ⟨rfl, trivial⟩, ⟨_, _, rfl, (slR_all (hm20.get 2 rfl)).1, (slR_all (hm20.get 2 rfl)).2.1, (slR_all (hm20.get 2 rfl)).2.2⟩⟩⟩⟩⟩, ⟨rfl, trivial⟩⟩⟩⟩⟩⟩⟩⟩⟩⟩⟩⟩) :) ?_
     rintro _ w48 ⟨rfl, hq48⟩
     refine ⟨_, rfl, ?_⟩
     have hm49 := hm20.call0 hq48
     refine Rn.q rfl (V.notB rfl) (gg 2 rfl ?_)
     exact hk2 (!p48) _ _ (sb ⟨rfl, rfl, trivial⟩) (hm49.pick [0, 1, 2, 3] rfl (by decide)) hM
   intro hk1
   clear hj1
   refine askS hM (Rn.part (t := 19) rfl) (fun h50 hM => ?_) (fun h50 hM => ?_)
   ·refine Rn.q rfl (V.ldBA [_, _, _, _, _, _, _, _, _, _, _, _, _, _, _, _, _] Tryd.isAgg60 Tryd.sizeOf60 rfl (hm17.get 3 rfl) rfl rfl) ?_
    obtain ⟨p51, e51, hM⟩ := bindE hM
    refine Rn.cl ck46 rfl rfl rfl rfl (m_point_sum_sim (Z0 := All) e51 (show T_api_Point.rep.rel All _ _ _ from ⟨_, _, rfl, ⟨rfl, trivial⟩, ⟨_, _, rfl, ⟨_, _, rfl, (slR_all (hm17.get 0 rfl)).1, (slR_all (hm17.get 0 rfl)).2.1, (slR_all (hm17.get 0 rfl)).2.2⟩, ⟨_, _, rfl, ⟨rfl, trivial⟩, ⟨_, _, rfl, ⟨rfl, trivial⟩, ⟨_, _, rfl, ⟨rfl, trivial⟩, ⟨_, _, rfl, ⟨rfl, trivial⟩, ⟨_, _, rfl, ⟨rfl, trivial⟩, ⟨_, _, rfl, ⟨rfl, trivial⟩, ⟨_, _, rfl, ⟨rfl, trivial⟩, ⟨_, _, rfl, ⟨rfl, trivial⟩, ⟨_, _, rfl, ⟨_, _, rfl, ⟨rfl, trivial⟩, ⟨_, _, rfl, ⟨rfl, trivial⟩, ⟨_, _, rfl, ⟨_, _, rfl, ⟨rfl, trivial⟩, ⟨_, _, rfl, (slR_all (hm17.get 1 rfl)).1, (slR_all (hm17.get 1 rfl)).2.1, (slR_all (hm17.get 1 rfl)).2.2⟩⟩, ⟨_, _, rfl, ⟨rfl, trivial⟩, ⟨_, _, rfl, (slR_all (hm17.get 2 rfl)).1, (slR_all (hm17.get 2 rfl)).2.1, (slR_all (hm17.get 2 rfl)).2.2⟩⟩⟩⟩⟩, ⟨rfl, trivial⟩⟩⟩⟩⟩⟩⟩⟩⟩⟩⟩⟩) :) ?_
    rintro _ w51 ⟨rfl, hq51⟩
    refine ⟨_, rfl, ?_⟩
    have hm52 := hm17.call0 hq51
    refine Rn.q rfl (V.notB rfl) (gg 1 rfl ?_)
    exact hk1 (!p51) _ _ (sb ⟨rfl, rfl, trivial⟩) (hm52.pick [0, 1, 2, 3] rfl (by decide)) hM
   ·refine gg 4 rfl ?_
    exact hk1 false _ _ (sb ⟨rfl, rfl, trivial⟩) (hm17.pick [0, 1, 2, 3] rfl (by decide)) hM

theorem m_chunk_Series_sim {Z0 : Nat → Prop} {w : World} {x0 : (List UInt8)} {r : (T_api_Point × Int)} (hM : m_chunk_Series x0 = some r)  :
    Calls Tryd.prog 22 #[Str (x0)] w fun x w' => ∃ A_0_0 c_0_0 A_0_1 c_0_1 A_0_2 c_0_2, x = .returned (.tuple #[.agg [Str (r.1.Name), .slice A_0_0 (r.1.Attrs).length c_0_0, iv r.1.Kind, iv r.1.Temp, .bool (r.1.Mono), iv r.1.Start, iv r.1.Time, iv r.1.Int_, u64v r.1.Re, u64v r.1.Im, iv r.1.Hist.Scale, u64v r.1.Hist.Zero, iv r.1.Hist.Pos.Offset, .slice A_0_1 (r.1.Hist.Pos.Counts).length c_0_1, iv r.1.Hist.Neg.Offset, .slice A_0_2 (r.1.Hist.Neg.Counts).length c_0_2, iv r.1.Flags].toArray, iv r.2]) ∧ Hp Z0 No w w' [ownR 64 A_0_0 c_0_0 T_api_Pair.rep r.1.Attrs, ownR 53 A_0_1 c_0_1 w64R r.1.Hist.Pos.Counts, ownR 53 A_0_2 c_0_2 w64R r.1.Hist.Neg.Counts] := by
 have hm0 := Hp.nil Z0 No w
 have hc0 := Calm.nil
 refine Rn.enter Tryd.func22 rfl rfl (Nat.le_of_ble_eq_true rfl) ?_
 refine gg 2 rfl (Rn.alloc rfl rfl rfl Tryd.zeroValue60 rfl ?_)
 intro b1 w1 hb1 m1 e1
 have hm3 := (hm0.addBox hb1 e1 m1).nf [boxR _ _ [_, _, _, _, _, _, _, _, _, _, _, _, _, _, _, _, _]] rfl
 refine gg 5 rfl ?_
 obtain ⟨p4, e4, hM⟩ := bindE hM
 refine Rn.cl ck30 rfl rfl rfl rfl (m_strings_Cut_sim (Z0 := All) e4  :) ?_
 rintro _ w4 ⟨rfl, hq4⟩
 refine ⟨_, rfl, ?_⟩
 have hm5 := hm3.call0 hq4
 refine gg 11 rfl ?_
 obtain ⟨p6, e6, hM⟩ := bindE hM
 refine Rn.cl ck31 rfl rfl rfl rfl (m_label_Parse_sim (Z0 := All) e6  :) ?_
 rintro _ w6 ⟨A6_1_0, c6_1_0, rfl, hq6⟩
 refine ⟨_, rfl, ?_⟩
 have hm8 := hm5.callF (flC (ownR_flat T_api_Pair.flat _ _ _ _) fl0) hq6
 refine gg 14 rfl (Rn.q rfl (V.notB rfl) (gg 1 rfl ?_))
 refine Rn.cutR [6, 7, 8, 9, 10, 11, 12, 13, 14, 15, 16, 17, 18, 19, 20] [(2, pt b1 0), (5, Str (p4.2.1)), (7, Str (p6.1)), (8, .slice A6_1_0 (p6.2.1).length c6_1_0), (31, .bool (decide (((!p4.2.2) = true) ∨ (p6.2.2.2 ≠ 0))))] (fun hk9 => ?_) ?_
 ·refine Rn.part (t := 28) rfl (fun h10 => ?_) (fun h10 => ?_)
  ·refine gg 3 rfl ?_
   refine hk9 _ ?_
   exact Sub.cons rfl (Sub.cons rfl (Sub.cons rfl (Sub.cons rfl (Sub.cons (lkB rfl) (Sub.nil _)))))
  ·refine gg 3 rfl ?_
   refine hk9 _ ?_
   exact Sub.cons rfl (Sub.cons rfl (Sub.cons rfl (Sub.cons rfl (Sub.cons (lkB rfl) (Sub.nil _)))))
 refine gg 1 rfl ?_
 refine Rn.cutR [11, 12, 13, 14, 15, 16, 17, 18, 19, 20] [(2, pt b1 0), (5, Str (p4.2.1)), (7, Str (p6.1)), (8, .slice A6_1_0 (p6.2.1).length c6_1_0), (36, .bool (decide ((((!p4.2.2) = true) ∨ (p6.2.2.2 ≠ 0)) ∨ ((p4.2.1.length : Int) ≠ 3))))] (fun hk11 => ?_) ?_
 ·refine Rn.partD (t := 32) rfl (fun h12 => ?_) (fun h12 => ?_)
  ·refine gg 4 rfl ?_
   refine hk11 _ ?_
   exact Sub.cons rfl (Sub.cons rfl (Sub.cons rfl (Sub.cons rfl (Sub.cons (lkB rfl) (Sub.nil _)))))
  ·refine gg 1 rfl (Rn.q rfl (V.lenS Tryd.underlying9 rfl) (gg 2 rfl ?_))
   refine hk11 _ ?_
   exact Sub.cons rfl (Sub.cons rfl (Sub.cons rfl (Sub.cons rfl (Sub.cons (lkB rfl) (Sub.nil _)))))
 refine gg 1 rfl ?_
 obtain ⟨j1, hj1, hM⟩ := jnE hM
 refine Rn.joinR (r := r) (G := Bool) [] (fun g => [(2, pt b1 0), (5, Str (p4.2.1)), (7, Str (p6.1)), (8, .slice A6_1_0 (p6.2.1).length c6_1_0), (46, .bool (g))]) (fun g w' => Hp Z0 No w w' [boxR b1 60 [Str (([] : List UInt8)), .slice none 0 0, iv 0, iv 0, .bool false, iv 0, iv 0, iv 0, u64v (0 : UInt64), u64v (0 : UInt64), iv 0, u64v (0 : UInt64), iv 0, .slice none 0 0, iv 0, .slice none 0 0, iv 0], ownR 64 A6_1_0 c6_1_0 T_api_Pair.rep p6.2.1]) (fun g => j1 g) ?_ ?_
 ·subst hj1
  clear hM
  rintro y13 w14 hm14 hM
  try dsimp only at hM
  refine gg 1 rfl ?_
  refine askS hM (Rn.condS rfl) (fun h15 hM => ?_) (fun h15 hM => ?_)
  ·refine gg 2 rfl (Rn.q rfl (V.bldS (cs := [_, _, _, _, _, _, _, _, _, _, _, _, _, _, _, _, _]) st60 rfl rfl) (Rn.st rfl rfl Tryd.sizeOf60 rfl rfl rfl rfl (by first | exact ones rfl | (simp [Value.oneCell']; done)) (hm14.get 0 rfl) (by first | exact Nat.le_of_ble_eq_true rfl | (simp; done)) ?_))
   intro w16 m16 x16
   have hm17 := (hm14.st 0 rfl x16 m16).nf [boxR _ _ [_, _, _, _, _, _, _, _, _, _, _, _, _, _, _, _, _], _] rfl
   refine gg 2 rfl ?_
   have hm18 := hm17.addNil 64 T_api_Pair.rep
   have hm20 := hm18.addNil 53 w64R
   have hm22 := hm20.addNil 53 w64R
   refine Rn.retG2 Tryd.func22 rfl (rvC rfl Tryd.isAgg60 Tryd.sizeOf60 (hm17.get 0 rfl) rfl) (rvT rfl) ?_
   obtain rfl := someE hM
   exact ⟨none, 0, none, 0, none, 0, rfl, hm22.pick [2, 3, 4] rfl (by decide)⟩
  ·refine gg 2 rfl ?_
   refine Rn.drawH rfl hm14 ?_
   intro w24 hm24
   refine dd [0, 1, 2] (by kernel_rfl) rfl rfl ?_
   obtain ⟨z25, e25, hM⟩ := bindE hM
   refine RH.take 3 (by kernel_rfl) rfl rfl rfl rfl (fun w' hDr => V.idxSZ Tryd.underlying9 rfl rfl e25) ?_
   refine RH.take 4 (by kernel_rfl) rfl rfl rfl rfl (fun w' hDr => V.cv8i (a := z25) Tryd.underlying5 Tryd.underlying3 rfl) ?_
   refine dd [5, 6] (by kernel_rfl) rfl rfl ?_
   obtain ⟨z26, e26, hM⟩ := bindE hM
   refine RH.take 7 (by kernel_rfl) rfl rfl rfl rfl (fun w' hDr => V.idxSZ Tryd.underlying9 rfl rfl e26) ?_
   refine RH.take 8 (by kernel_rfl) rfl rfl rfl rfl (fun w' hDr => V.cv8i (a := z26) Tryd.underlying5 Tryd.underlying3 rfl) ?_
   refine dd [9, 10] (by kernel_rfl) rfl rfl ?_
   obtain ⟨z27, e27, hM⟩ := bindE hM
   refine RH.take 11 (by kernel_rfl) rfl rfl rfl rfl (fun w' hDr => V.idxSZ Tryd.underlying9 rfl rfl e27) ?_
   refine RH.take 12 (by kernel_rfl) rfl rfl rfl rfl (fun w' hDr => V.eql rfl rfl) ?_
   refine RH.take 13 (by kernel_rfl) rfl rfl rfl rfl (fun w' hDr => V.bldS (cs := [_, _, _, _, _, _, _, _, _, _, _, _, _, _, _, _, _]) st60 rfl rfl) ?_
   refine RH.alloc 14 (by kernel_rfl) rfl rfl rfl Tryd.zeroValue60 rfl ?_
   intro b28 w28 hb28 m28 e28
   have hfr28 : w24.heap.size ≤ b28 := by have hh := ((Ext.refl _) : Ext w24 w24).size; omega
   have hm30 := (hm24.addBox hb28 e28 m28).nf [_, _, boxR _ _ [_, _, _, _, _, _, _, _, _, _, _, _, _, _, _, _, _]] rfl
   refine ⟨((Ext.refl _).trans e28), ?_⟩
   refine RH.st 15 (by kernel_rfl) rfl rfl Tryd.sizeOf60 rfl rfl rfl rfl (by first | exact ones rfl | (simp [Value.oneCell']; done)) (hm30.get 2 rfl) (by first | exact Nat.le_of_ble_eq_true rfl | (simp; done)) ?_
   intro w31 m31 x31
   have hm32 := (hm30.st 2 rfl x31 m31).nf [_, _, boxR _ _ [_, _, _, _, _, _, _, _, _, _, _, _, _, _, _, _, _]] rfl
   refine ⟨(ext_st ((Ext.refl _).trans e28) x31 hfr28), ?_⟩
   refine RH.doneP (by kernel_rfl) ?_
   refine gg 2 rfl (Rn.q rfl (V.ldBA [_, _, _, _, _, _, _, _, _, _, _, _, _, _, _, _, _] Tryd.isAgg60 Tryd.sizeOf60 rfl (hm32.get 2 rfl) rfl rfl) (Rn.als rfl rfl rfl Tryd.zeroValue60 rfl Tryd.sizeOf60 rfl rfl rfl rfl (by first | exact ones rfl | (simp [Value.oneCell']; done)) ?_))
   intro b33 w33 hb33 m33 e33
   have hm35 := (hm32.addBox hb33 e33 m33).nf [_, _, _, boxR _ _ [_, _, _, _, _, _, _, _, _, _, _, _, _, _, _, _, _]] rfl
   refine gg 5 rfl (Rn.st rfl rfl Tryd.sizeOf3 rfl rfl rfl rfl (by first | exact ones rfl | (simp [Value.oneCell']; done)) (hm35.get 3 rfl) (by first | exact Nat.le_of_ble_eq_true rfl | (simp; done)) ?_)
   intro w36 m36 x36
   have hm37 := (hm35.st 3 rfl x36 m36).nf [_, _, _, boxR _ _ [_, _, _, _, _, _, _, _, _, _, _, _, _, _, _, _, _]] rfl
   refine gg 4 rfl (Rn.q rfl (V.ldB Tryd.isAgg3 rfl (hm37.get 3 rfl) rfl) (gg 2 rfl ?_))
   obtain ⟨j2, hj2, hM⟩ := jnE hM
   refine Rn.joinG (r := r) (G := (List UInt8) × Int × Int × Bool × Int × Int × Int × UInt64 × UInt64 × Int × UInt64 × Int × Int × Int) (fun g => [(2, pt b1 0), (11, pt b28 0), (12, pt b33 0)]) (fun g w' => Hp Z0 No w w' [boxR b1 60 [Str (([] : List UInt8)), .slice none 0 0, iv 0, iv 0, .bool false, iv 0, iv 0, iv 0, u64v (0 : UInt64), u64v (0 : UInt64), iv 0, u64v (0 : UInt64), iv 0, .slice none 0 0, iv 0, .slice none 0 0, iv 0], ownR 64 A6_1_0 c6_1_0 T_api_Pair.rep p6.2.1, boxR b28 60 [Str (p6.1), .slice A6_1_0 (p6.2.1).length c6_1_0, iv (W64 ((z25.toNat : Int) - 48)), iv (W64 ((z26.toNat : Int) - 48)), .bool (decide (((z27).toNat : Int) = 49)), iv 0, iv 0, iv 0, u64v (0 : UInt64), u64v (0 : UInt64), iv 0, u64v (0 : UInt64), iv 0, .slice none 0 0, iv 0, .slice none 0 0, iv 0], boxR b33 60 [Str ((g.1)), .slice A6_1_0 (p6.2.1).length c6_1_0, iv (g.2.1), iv (g.2.2.1), .bool ((g.2.2.2.1)), iv (g.2.2.2.2.1), iv (g.2.2.2.2.2.1), iv (g.2.2.2.2.2.2.1), u64v (g.2.2.2.2.2.2.2.1), u64v (g.2.2.2.2.2.2.2.2.1), iv (g.2.2.2.2.2.2.2.2.2.1), u64v (g.2.2.2.2.2.2.2.2.2.2.1), iv (g.2.2.2.2.2.2.2.2.2.2.2.1), .slice none 0 0, iv (g.2.2.2.2.2.2.2.2.2.2.2.2.1), .slice none 0 0, iv (g.2.2.2.2.2.2.2.2.2.2.2.2.2)]]) (fun g => j2 g.1 g.2.1 g.2.2.1 g.2.2.2.1 g.2.2.2.2.1 g.2.2.2.2.2.1 g.2.2.2.2.2.2.1 g.2.2.2.2.2.2.2.1 g.2.2.2.2.2.2.2.2.1 g.2.2.2.2.2.2.2.2.2.1 g.2.2.2.2.2.2.2.2.2.2.1 g.2.2.2.2.2.2.2.2.2.2.2.1 g.2.2.2.2.2.2.2.2.2.2.2.2.1 g.2.2.2.2.2.2.2.2.2.2.2.2.2) ?_ ?_
   ·subst hj2
    clear hM
    rintro ⟨y38, y39, y40, y41, y42, y43, y44, y45, y46, y47, y48, y49, y50, y51⟩ w52 hm52 hM
    try dsimp only at hM
    refine gg 3 rfl (Rn.q rfl (V.ldBA [_, _, _, _, _, _, _, _, _, _, _, _, _, _, _, _, _] Tryd.isAgg60 Tryd.sizeOf60 rfl (hm52.get 3 rfl) rfl rfl) ?_)
    obtain ⟨p53, e53, hM⟩ := bindE hM
    refine Rn.cl ck32 rfl rfl rfl rfl (m_point_Check_sim (Z0 := All) e53 (show T_api_Point.rep.rel All _ _ _ from ⟨_, _, rfl, ⟨rfl, trivial⟩, ⟨_, _, rfl, ⟨_, _, rfl, (own_slR (hm52.get 1 rfl)).1, (own_slR (hm52.get 1 rfl)).2.1, (own_slR (hm52.get 1 rfl)).2.2⟩, ⟨_, _, rfl, ⟨rfl, trivial⟩, ⟨_, _, rfl, ⟨rfl, trivial⟩, ⟨_, _, rfl, ⟨rfl, trivial⟩, ⟨_, _, rfl, ⟨rfl, trivial⟩, ⟨_, _, rfl, ⟨rfl, trivial⟩, ⟨_, _, rfl, ⟨rfl, trivial⟩, ⟨_, _, rfl, ⟨rfl, trivial⟩, ⟨_, _, rfl, ⟨rfl, trivial⟩, ⟨_, _, rfl, ⟨_, _, rfl, ⟨rfl, trivial⟩, ⟨_, _, rfl, ⟨rfl, trivial⟩, ⟨_, _, rfl, ⟨_, _, rfl, ⟨rfl, trivial⟩, ⟨none, 0, rfl, Nat.le_refl _, Nat.zero_le _, Sl.nil _ _ _ _⟩⟩, ⟨_, _, rfl, ⟨rfl, trivial⟩, ⟨none, 0, rfl, Nat.le_refl _, Nat.zero_le _, Sl.nil _ _ _ _⟩⟩⟩⟩⟩, ⟨rfl, trivial⟩⟩⟩⟩⟩⟩⟩⟩⟩⟩⟩⟩) :) ?_
    rintro _ w53 ⟨rfl, hq53⟩
    refine ⟨_, rfl, ?_⟩
    have hm54 := hm52.call0 hq53
    refine gg 2 rfl ?_
    refine askD hM (Rn.condD rfl) (fun h55 hM => ?_) (fun h55 hM => ?_)
    ·refine gg 2 rfl (Rn.q rfl (V.bldS (cs := [_, _, _, _, _, _, _, _, _, _, _, _, _, _, _, _, _]) st60 rfl rfl) (Rn.st rfl rfl Tryd.sizeOf60 rfl rfl rfl rfl (by first | exact ones rfl | (simp [Value.oneCell']; done)) (hm54.get 0 rfl) (by first | exact Nat.le_of_ble_eq_true rfl | (simp; done)) ?_))
     intro w56 m56 x56
     have hm57 := (hm54.st 0 rfl x56 m56).nf [boxR _ _ [_, _, _, _, _, _, _, _, _, _, _, _, _, _, _, _, _], _, _, _] rfl
     refine gg 2 rfl ?_
     have hm58 := hm57.addNil 64 T_api_Pair.rep
     have hm60 := hm58.addNil 53 w64R
     have hm62 := hm60.addNil 53 w64R
     refine Rn.retG2 Tryd.func22 rfl (rvC rfl Tryd.isAgg60 Tryd.sizeOf60 (hm57.get 0 rfl) rfl) (rvT rfl) ?_
     obtain rfl := someE hM
     exact ⟨none, 0, none, 0, none, 0, rfl, hm62.pick [4, 5, 6] rfl (by decide)⟩
    ·refine gg 3 rfl (Rn.q rfl (V.ldBA [_, _, _, _, _, _, _, _, _, _, _, _, _, _, _, _, _] Tryd.isAgg60 Tryd.sizeOf60 rfl (hm54.get 2 rfl) rfl rfl) (Rn.st rfl rfl Tryd.sizeOf60 rfl rfl rfl rfl (by first | exact ones rfl | (simp [Value.oneCell']; done)) (hm54.get 0 rfl) (by first | exact Nat.le_of_ble_eq_true rfl | (simp; done)) ?_))
     intro w64 m64 x64
     have hm65 := (hm54.st 0 rfl x64 m64).nf [boxR _ _ [_, _, _, _, _, _, _, _, _, _, _, _, _, _, _, _, _], _, _, _] rfl
     refine gg 2 rfl ?_
     have hm66 := hm65.addNil 53 w64R
     have hm68 := hm66.addNil 53 w64R
     refine Rn.retG2 Tryd.func22 rfl (rvC rfl Tryd.isAgg60 Tryd.sizeOf60 (hm65.get 0 rfl) rfl) (rvT rfl) ?_
     obtain rfl := someE hM
     exact ⟨A6_1_0, c6_1_0, none, 0, none, 0, rfl, hm68.pick [1, 4, 5] rfl (by decide)⟩
   intro hk2
   clear hj2
   refine askD hM (Rn.condD rfl) (fun h70 hM => ?_) (fun h70 hM => ?_)
   ·refine gg 2 rfl (Rn.st rfl rfl Tryd.sizeOf3 rfl rfl rfl rfl (by first | exact ones rfl | (simp [Value.oneCell']; done)) (hm37.get 3 rfl) (by first | exact Nat.le_of_ble_eq_true rfl | (simp; done)) ?_)
    intro w71 m71 x71
    have hm72 := (hm37.st 3 rfl x71 m71).nf [_, _, _, boxR _ _ [_, _, _, _, _, _, _, _, _, _, _, _, _, _, _, _, _]] rfl
    refine gg 1 rfl ?_
    exact hk2 (p6.1, (W64 ((z25.toNat : Int) - 48)), (W64 ((z26.toNat : Int) - 48)), (decide (((z27).toNat : Int) = 49)), 1, 1, 0, (0 : UInt64), (0 : UInt64), 0, (0 : UInt64), 0, 0, 0) _ _ (sb ⟨rfl, rfl, rfl, trivial⟩) (hm72.pick [0, 1, 2, 3] rfl (by decide)) hM
   ·refine gg 1 rfl ?_
    exact hk2 (p6.1, (W64 ((z25.toNat : Int) - 48)), (W64 ((z26.toNat : Int) - 48)), (decide (((z27).toNat : Int) = 49)), 0, 1, 0, (0 : UInt64), (0 : UInt64), 0, (0 : UInt64), 0, 0, 0) _ _ (sb ⟨rfl, rfl, rfl, trivial⟩) (hm37.pick [0, 1, 2, 3] rfl (by decide)) hM
 intro hk1
 clear hj1
 refine askD hM (Rn.partD (t := 37) rfl) (fun h73 hM => ?_) (fun h73 hM => ?_)
 ·refine gg 9 rfl ?_
  exact hk1 true _ _ (sb ⟨rfl, rfl, rfl, rfl, rfl, trivial⟩) (hm8.pick [0, 1] rfl (by decide)) hM
 ·refine gg 1 rfl ?_
  obtain ⟨z74, e74, hM⟩ := bindE hM
  refine Rn.q rfl (V.idxSZ Tryd.underlying9 rfl rfl e74) (Rn.q rfl (V.neq rfl rfl) (gg 1 rfl ?_))
  obtain ⟨j3, hj3, hM⟩ := jnE hM
  refine Rn.joinR (r := r) (G := Bool) [20] (fun g => [(2, pt b1 0), (5, Str (p4.2.1)), (7, Str (p6.1)), (8, .slice A6_1_0 (p6.2.1).length c6_1_0), (37, .bool false), (45, .bool (g))]) (fun g w' => Hp Z0 No w w' [boxR b1 60 [Str (([] : List UInt8)), .slice none 0 0, iv 0, iv 0, .bool false, iv 0, iv 0, iv 0, u64v (0 : UInt64), u64v (0 : UInt64), iv 0, u64v (0 : UInt64), iv 0, .slice none 0 0, iv 0, .slice none 0 0, iv 0], ownR 64 A6_1_0 c6_1_0 T_api_Pair.rep p6.2.1]) (fun g => j3 g) ?_ ?_
  ·subst hj3
   clear hM
   rintro y75 w76 hm76 hM
   try dsimp only at hM
   refine gg 1 rfl ?_
   exact hk1 y75 _ _ (sb ⟨rfl, rfl, rfl, rfl, rfl, trivial⟩) (hm76.pick [0, 1] rfl (by decide)) hM
  intro hk3
  clear hj3
  refine askD hM (Rn.partD (t := 41) rfl) (fun h77 hM => ?_) (fun h77 hM => ?_)
  ·refine gg 1 rfl ?_
   obtain ⟨z78, e78, hM⟩ := bindE hM
   refine Rn.q rfl (V.idxSZ Tryd.underlying9 rfl rfl e78) (Rn.q rfl (V.neq rfl rfl) (gg 1 rfl ?_))
   exact hk3 (decide (((z78).toNat : Int) ≠ 49)) _ _ (sb ⟨rfl, rfl, rfl, rfl, rfl, rfl, trivial⟩) (hm8.pick [0, 1] rfl (by decide)) hM
  ·refine gg 4 rfl ?_
   exact hk3 false _ _ (sb ⟨rfl, rfl, rfl, rfl, rfl, rfl, trivial⟩) (hm8.pick [0, 1] rfl (by decide)) hM

theorem m_index_New_sim {Z0 : Nat → Prop} {w : World} {A0 : Option Addr} {c0 : Nat} {x0 : (List (List UInt8))} {r : ((Option T_index_Index) × Int × Int)} (hM : m_index_New x0 = some r) (f0 : (slR A0 c0 textR x0).H Z0 w) :
    Calls Tryd.prog 13 #[.slice A0 (x0).length c0] w fun x w' => ∃ F_0 b_0, x = .returned (.tuple #[.pointer (optP b_0 r.1), iv r.2.1, iv r.2.2]) ∧ Hp Z0 No w w' [optR r.1 (fun z => T_index_Index.obj F_0 b_0 z)] := by
 have hm0 := Hp.nil Z0 No w
 have hc0 := Calm.nil
 have hm2 := hm0.know (slR A0 c0 textR x0) (fun _ h => h) (hm0.in0 hc0 f0)
 replace hc0 := hc0.snoc (r := slR A0 c0 textR x0) (fun _ h => h)
 refine Rn.enter Tryd.func13 rfl rfl (Nat.le_of_ble_eq_true rfl) ?_
 refine gg 10 rfl (Rn.q rfl (V.lenV Tryd.underlying28 rfl) (gg 2 rfl ?_))
 refine askD hM (Rn.condD rfl) (fun h3 hM => ?_) (fun h3 hM => ?_)
 ·refine gg 6 rfl ?_
  have hm5 := hm2.addNone (fun z => T_index_Index.obj No 0 z)
  refine Rn.retG3 Tryd.func13 rfl (rvT rfl) (rvT rfl) (rvT rfl) ?_
  obtain rfl := someE hM
  exact ⟨No, 0, rfl, hm5.pick [1] rfl (by decide)⟩
 ·refine gg 3 rfl (Rn.mkMO kv64 3 (intR .i64) hm2 rfl rfl rfl ?_)
  intro F6 b6 w6 hm6
  replace hm6 := hm6.nf [_, _] rfl
  refine Rn.q rfl (V.bldS (cs := [_, _]) st50 rfl rfl) (Rn.box rfl rfl rfl rfl rfl ?_)
  intro b8 w8 hb8 m8 e8
  have hm10 := (hm6.addBox hb8 e8 m8).nf [_, _, boxR _ _ [_, _]] rfl
  refine gg 4 rfl (Rn.mkMH v1 (intR .i64) hm10 rfl rfl rfl ?_)
  intro b11 w11 hm11
  refine gg 6 rfl (Rn.q rfl (V.lenV Tryd.underlying28 rfl) (gg 2 rfl ?_))
  have hm13 := hm11.addNil 9 textR
  have hm16 := (hm13.cut [0, 3] [2, 4, 1] rfl (by decide)).nf ([_, _] ++ [_, _, _]) rfl
  obtain ⟨F15, hm15⟩ := hm16.fold (T_index_Index.sh b8 ({ keys := ([] : List (List UInt8)), rows := ([] : Ko T_api_Pair Int) } : T_index_Index)) ⟨none, 0, F6, b6, rfl⟩
  obtain ⟨j1, hj1, hM⟩ := jnE hM
  refine Rn.joinG (r := r) (G := T_index_Index × (Nat → Prop)) (fun g => [(5, pt b8 0)]) (fun g w' => Hp Z0 No w w' [T_index_Index.obj (g.2) b8 (g.1)]) (fun g => j1 g.1) ?_ ?_
  ·subst hj1
   clear hM
   rintro ⟨y17, F17⟩ w18 hm18 hM
   try dsimp only at hM
   refine gg 7 rfl ?_
   have hm19 := hm18.toSome (R := (fun z => T_index_Index.obj F17 b8 z)) 0 rfl
   refine Rn.retG3 Tryd.func13 rfl (rvT rfl) (rvT rfl) (rvT rfl) ?_
   obtain rfl := someE hM
   exact ⟨F17, b8, rfl, hm19.pick [0] rfl (by decide)⟩
  intro hk1
  clear hj1
  refine gg 1 rfl ?_
  refine Rn.loopF (G := Int × (Kv Int) × T_index_Index × (Nat → Prop)) (fun g => [(5, pt b8 0), (6, .map (some b11)), (20, .slice A0 (x0).length c0), (21, iv (x0.length : Int)), (22, iv (g.1))]) (fun g w' => Hp Z0 No w w' [slR A0 c0 textR x0, mapR b11 v1 (intR .i64) (g.2.1), T_index_Index.obj (g.2.2.2) b8 (g.2.2.1)]) (fun n g => m_index_New_L1 x0 j1 n g.1 g.2.1 g.2.2.1) fuel (0, ([] : Kv Int), ({ keys := ([] : List (List UInt8)), rows := ([] : Ko T_api_Pair Int) } : T_index_Index), F15) (sb ⟨rfl, rfl, rfl, rfl, rfl, trivial⟩) (hm15.pick [0, 1, 2] rfl (by decide)) hM (fun _ => rfl) ?_
  clear hM
  rintro m23 ⟨y20, y21, y22, F22⟩ w23 hm23 hM hn23
  replace hM : m_index_New_L1 x0 j1 (m23 + 1) y20 y21 y22 = some r := hM
  rw [m_index_New_L1] at hM
  refine gg 5 rfl ?_
  refine askD hM (Rn.condD rfl) (fun h24 hM => ?_) (fun h24 hM => ?_)
  ·refine gg 6 rfl ?_
   obtain ⟨z25, e25, hM⟩ := bindE hM
   refine Rn.ixH hm23 0 rfl e25 rfl rfl rfl Tryd.underlying28 Tryd.sizeOf9 rfl rfl rfl rfl ?_
   rintro b25 o25 vs25 ⟨rfl, _⟩ hm25
   refine Rn.q rfl (V.ldR0 Tryd.isAgg9 rfl (hm25.get 3 rfl).2 rfl) (gg 6 rfl ?_)
   obtain ⟨p27, e27, hM⟩ := bindE hM
   refine Rn.cl ck22 rfl rfl rfl rfl (m_chunk_Series_sim (Z0 := All) e27  :) ?_
   rintro _ w27 ⟨A27_0_0, c27_0_0, A27_0_1, c27_0_1, A27_0_2, c27_0_2, rfl, hq27⟩
   refine ⟨_, rfl, ?_⟩
   have hm31 := hm25.callF (flC (ownR_flat T_api_Pair.flat _ _ _ _) (flC (ownR_flat w64_flat _ _ _ _) (flC (ownR_flat w64_flat _ _ _ _) fl0))) hq27
   refine gg 3 rfl (Rn.als rfl rfl rfl Tryd.zeroValue60 rfl Tryd.sizeOf60 rfl rfl rfl rfl (by first | exact ones rfl | (simp [Value.oneCell']; done)) ?_)
   intro b32 w32 hb32 m32 e32
   have hm34 := (hm31.addBox hb32 e32 m32).nf [_, _, _, _, _, _, _, boxR _ _ [_, _, _, _, _, _, _, _, _, _, _, _, _, _, _, _, _]] rfl
   refine gg 8 rfl ?_
   obtain ⟨j2, hj2, hM⟩ := jnE hM
   refine Rn.joinR (r := r) (G := Bool × (Nat → Prop)) [] (fun g => [(5, pt b8 0), (6, .map (some b11)), (7, iv y20), (8, Str (z25)), (9, pt b32 0), (10, iv p27.2), (20, .slice A0 (x0).length c0), (21, iv (x0.length : Int)), (22, iv y20), (39, .bool ((g.1)))]) (fun g w' => Hp Z0 No w w' [slR A0 c0 textR x0, mapR b11 v1 (intR .i64) y21, T_index_Index.obj (g.2) b8 y22, ownR 64 A27_0_0 c27_0_0 T_api_Pair.rep p27.1.Attrs, ownR 53 A27_0_1 c27_0_1 w64R p27.1.Hist.Pos.Counts, ownR 53 A27_0_2 c27_0_2 w64R p27.1.Hist.Neg.Counts, boxR b32 60 [Str (p27.1.Name), .slice A27_0_0 (p27.1.Attrs).length c27_0_0, iv p27.1.Kind, iv p27.1.Temp, .bool (p27.1.Mono), iv p27.1.Start, iv p27.1.Time, iv p27.1.Int_, u64v p27.1.Re, u64v p27.1.Im, iv p27.1.Hist.Scale, u64v p27.1.Hist.Zero, iv p27.1.Hist.Pos.Offset, .slice A27_0_1 (p27.1.Hist.Pos.Counts).length c27_0_1, iv p27.1.Hist.Neg.Offset, .slice A27_0_2 (p27.1.Hist.Neg.Counts).length c27_0_2, iv p27.1.Flags]]) (fun g => j2 g.1) ?_ ?_
   ·subst hj2
    clear hM
    rintro ⟨y36, F35⟩ w37 hm37 hM
    try dsimp only at hM
    refine gg 1 rfl ?_
    obtain ⟨j3, hj3, hM⟩ := jnE hM
    refine Rn.joinG (r := r) (G := Int × (Nat → Prop)) (fun g => [(5, pt b8 0), (6, .map (some b11)), (7, iv y20), (8, Str (z25)), (9, pt b32 0), (10, iv (g.1)), (20, .slice A0 (x0).length c0), (21, iv (x0.length : Int)), (22, iv y20)]) (fun g w' => Hp Z0 No w w' [slR A0 c0 textR x0, mapR b11 v1 (intR .i64) y21, T_index_Index.obj (g.2) b8 y22, ownR 64 A27_0_0 c27_0_0 T_api_Pair.rep p27.1.Attrs, ownR 53 A27_0_1 c27_0_1 w64R p27.1.Hist.Pos.Counts, ownR 53 A27_0_2 c27_0_2 w64R p27.1.Hist.Neg.Counts, boxR b32 60 [Str (p27.1.Name), .slice A27_0_0 (p27.1.Attrs).length c27_0_0, iv p27.1.Kind, iv p27.1.Temp, .bool (p27.1.Mono), iv p27.1.Start, iv p27.1.Time, iv p27.1.Int_, u64v p27.1.Re, u64v p27.1.Im, iv p27.1.Hist.Scale, u64v p27.1.Hist.Zero, iv p27.1.Hist.Pos.Offset, .slice A27_0_1 (p27.1.Hist.Pos.Counts).length c27_0_1, iv p27.1.Hist.Neg.Offset, .slice A27_0_2 (p27.1.Hist.Neg.Counts).length c27_0_2, iv p27.1.Flags]]) (fun g => j3 g.1) ?_ ?_
    ·subst hj3
     clear hM
     rintro ⟨y39, F38⟩ w40 hm40 hM
     try dsimp only at hM
     refine gg 6 rfl ?_
     refine askD hM (Rn.condD rfl) (fun h41 hM => ?_) (fun h41 hM => ?_)
     ·refine gg 8 rfl ?_
      have hm43 := hm40.addNone (fun z => T_index_Index.obj No 0 z)
      refine Rn.retG3 Tryd.func13 rfl (rvT rfl) (rvT rfl) (rvT rfl) ?_
      obtain rfl := someE hM
      exact ⟨No, 0, rfl, hm43.pick [7] rfl (by decide)⟩
     ·refine gg 5 rfl ?_
      obtain ⟨vs44, hl44, hr44⟩ := Map.lkp (hm40.get 1 rfl) z25 (zs := [iv 0]) (zm := (0 : Int)) (show (intR .i64).rel _ _ _ _ from ⟨rfl, trivial⟩)
      obtain ⟨rfl, _⟩ := hr44
      refine Rn.q rfl (V.lkpH hl44 Tryd.underlying51 Tryd.underlying9 Tryd.zeroValue3 rfl rfl) (gg 1 rfl (Rn.muH (v := W64 (((lookP z25 y21).getD 0) + 1)) (vs := [iv (W64 (((lookP z25 y21).getD 0) + 1))]) hm40 1 rfl rfl rfl Tryd.underlying51 Tryd.underlying9 rfl rfl rfl (⟨rfl, trivial⟩) ?_))
      intro w45 hm45
      refine gg 7 rfl ?_
      obtain ⟨_, ⟨A46_0, c46_0, F46_1, m46_1, rfl⟩, hm46⟩ := hm45.unf 2 rfl
      replace hm46 := hm46.nf [_, _, _, _, _, _, _, _, _] rfl
      refine Rn.q rfl (V.ldB Tryd.isAgg28 rfl (hm46.get 6 rfl) rfl) (gg 1 rfl ?_)
      obtain ⟨z49, e49, hM⟩ := bindE hM
      refine Rn.pushH (z := z25) (vs := [Str (z25)]) hm46 7 rfl e49 rfl rfl rfl rfl Tryd.underlying28 el9 rfl rfl rfl rfl (fun _ => rfl) (⟨rfl, trivial⟩) ?_
      intro A49 c49 w49 u49 hm49
      replace hm49 := hm49.nf [_, _, _, _, _, _, _, _, _] rfl
      refine gg 2 rfl (Rn.st rfl rfl Tryd.sizeOf28 rfl rfl rfl rfl (by first | exact ones rfl | (simp [Value.oneCell']; done)) (hm49.get 6 rfl) (by first | exact Nat.le_of_ble_eq_true rfl | (simp; done)) ?_)
      intro w51 m51 x51
      have hm52 := (hm49.st 6 rfl x51 m51).nf [_, _, _, _, _, _, boxR _ _ [_, _], _, _] rfl
      refine gg 4 rfl (Rn.q rfl (V.ldB Tryd.isAgg52 rfl (hm52.get 5 rfl) rfl) (gg 1 rfl (Rn.q rfl (V.ldB Tryd.isAgg9 rfl (hm52.get 5 rfl) rfl) (Rn.q rfl (V.bldS (cs := [_, _]) st64 rfl rfl) ?_))))
      obtain ⟨z53, e53, hM⟩ := bindE hM
      refine Rn.pushH (z := ({ Key := ([] : List UInt8), Val := p27.1.Name } : T_api_Pair)) (vs := [Str (([] : List UInt8)), Str (p27.1.Name)]) hm52 2 rfl e53 rfl rfl rfl rfl Tryd.underlying52 el64 rfl rfl rfl rfl (fun _ => rfl) (⟨_, _, rfl, ⟨rfl, trivial⟩, ⟨rfl, trivial⟩⟩) ?_
      intro A53 c53 w53 u53 hm53
      replace hm53 := hm53.nf [_, _, _, _, _, _, _, _, _] rfl
      refine Rn.q rfl (V.lenV Tryd.underlying52 rfl) (gg 2 rfl ?_)
      have hm56 := (hm53.cut [0, 1, 2, 3, 4, 5] [6, 7, 8] rfl (by decide)).nf ([_, _, _, _, _, _] ++ [_, _, _]) rfl
      obtain ⟨F55, hm55⟩ := hm56.fold (T_index_Index.sh b8 ({ keys := z49, rows := y22.rows } : T_index_Index)) ⟨A49, c49, F46_1, m46_1, rfl⟩
      obtain ⟨j4, hj4, hM⟩ := jnE hM
      refine Rn.joinG (r := r) (G := T_index_Index × (Nat → Prop)) (fun g => [(5, pt b8 0), (6, .map (some b11)), (20, .slice A0 (x0).length c0), (21, iv (x0.length : Int)), (22, iv y20)]) (fun g w' => Hp Z0 No w w' [slR A0 c0 textR x0, mapR b11 v1 (intR .i64) (putP z25 (W64 (((lookP z25 y21).getD 0) + 1)) y21), ownR 64 A53 c53 T_api_Pair.rep z53, ownR 53 A27_0_1 c27_0_1 w64R p27.1.Hist.Pos.Counts, ownR 53 A27_0_2 c27_0_2 w64R p27.1.Hist.Neg.Counts, boxR b32 60 [Str (p27.1.Name), .slice A27_0_0 (p27.1.Attrs).length c27_0_0, iv p27.1.Kind, iv p27.1.Temp, .bool (p27.1.Mono), iv p27.1.Start, iv p27.1.Time, iv p27.1.Int_, u64v p27.1.Re, u64v p27.1.Im, iv p27.1.Hist.Scale, u64v p27.1.Hist.Zero, iv p27.1.Hist.Pos.Offset, .slice A27_0_1 (p27.1.Hist.Pos.Counts).length c27_0_1, iv p27.1.Hist.Neg.Offset, .slice A27_0_2 (p27.1.Hist.Neg.Counts).length c27_0_2, iv p27.1.Flags], T_index_Index.obj (g.2) b8 (g.1)]) (fun g => j4 g.1) ?_ ?_
      ·subst hj4
       clear hM
       rintro ⟨y57, F57⟩ w58 hm58 hM
       try dsimp only at hM
       refine gg 5 rfl ?_
       exact hn23 ((W64 (y20 + 1)), (putP z25 (W64 (((lookP z25 y21).getD 0) + 1)) y21), y57, F57) _ _ (sb ⟨rfl, rfl, rfl, rfl, rfl, trivial⟩) (hm58.pick [0, 1, 6] rfl (by decide)) hM
      intro hk4
      clear hj4
      refine gg 1 rfl ?_
      refine Rn.loopF (G := Int × T_index_Index × (Nat → Prop)) (fun g => [(5, pt b8 0), (6, .map (some b11)), (7, iv y20), (20, .slice A0 (x0).length c0), (21, iv (x0.length : Int)), (22, iv y20), (64, .slice A53 (z53).length c53), (65, iv (z53.length : Int)), (66, iv (g.1))]) (fun g w' => Hp Z0 No w w' [slR A0 c0 textR x0, mapR b11 v1 (intR .i64) (putP z25 (W64 (((lookP z25 y21).getD 0) + 1)) y21), ownR 64 A53 c53 T_api_Pair.rep z53, ownR 53 A27_0_1 c27_0_1 w64R p27.1.Hist.Pos.Counts, ownR 53 A27_0_2 c27_0_2 w64R p27.1.Hist.Neg.Counts, boxR b32 60 [Str (p27.1.Name), .slice A27_0_0 (p27.1.Attrs).length c27_0_0, iv p27.1.Kind, iv p27.1.Temp, .bool (p27.1.Mono), iv p27.1.Start, iv p27.1.Time, iv p27.1.Int_, u64v p27.1.Re, u64v p27.1.Im, iv p27.1.Hist.Scale, u64v p27.1.Hist.Zero, iv p27.1.Hist.Pos.Offset, .slice A27_0_1 (p27.1.Hist.Pos.Counts).length c27_0_1, iv p27.1.Hist.Neg.Offset, .slice A27_0_2 (p27.1.Hist.Neg.Counts).length c27_0_2, iv p27.1.Flags], T_index_Index.obj (g.2.2) b8 (g.2.1)]) (fun n g => m_index_New_L2 y20 z53 j4 n g.1 g.2.1) fuel (0, ({ keys := z49, rows := y22.rows } : T_index_Index), F55) (sb ⟨rfl, rfl, rfl, rfl, rfl, rfl, rfl, rfl, rfl, trivial⟩) (hm55.pick [0, 1, 2, 3, 4, 5, 6] rfl (by decide)) hM (fun _ => rfl) ?_
      clear hM
      rintro m61 ⟨y59, y60, F60⟩ w61 hm61 hM hn61
      replace hM : m_index_New_L2 y20 z53 j4 (m61 + 1) y59 y60 = some r := hM
      rw [m_index_New_L2] at hM
      refine gg 5 rfl ?_
      refine askD hM (Rn.condD rfl) (fun h62 hM => ?_) (fun h62 hM => ?_)
      ·refine gg 5 rfl ?_
       obtain ⟨z63, e63, hM⟩ := bindE hM
       obtain ⟨kk63, ke63, kz63, kl63⟩ := idxE e63
       obtain ⟨g63, vs63, hA63, hR63, hrel63⟩ := hm61.ownAt 2 rfl kz63
       subst hA63
       obtain rfl := T_api_Pair.relE hrel63
       refine Rn.q rfl (V.ixE kk63 Tryd.underlying52 Tryd.sizeOf64 rfl rfl ke63 kl63) (Rn.q rfl (V.ldA (vs := [_, _]) Tryd.isAgg64 Tryd.sizeOf64 rfl (Rd.pre hR63 2) rfl) (Rn.als rfl rfl rfl Tryd.zeroValue64 rfl Tryd.sizeOf64 rfl rfl rfl rfl (by first | exact ones rfl | (simp [Value.oneCell']; done)) ?_))
       intro b64 w64 hb64 m64 e64
       have hm66 := (hm61.addBox hb64 e64 m64).nf [_, _, _, _, _, _, _, boxR _ _ [_, _]] rfl
       refine gg 1 rfl ?_
       refine Rn.drawJ 7 rfl hm66 (by kernel_rfl) ?_
       intro w67 hm67
       refine dd [0, 1, 2] (by kernel_rfl) rfl rfl ?_
       obtain ⟨_, ⟨A68_0, c68_0, F68_1, m68_1, rfl⟩, hm68⟩ := hm67.unf 6 rfl
       replace hm68 := hm68.nf [_, _, _, _, _, _, _, _, _, _] rfl
       refine RH.take 3 (by kernel_rfl) rfl rfl rfl rfl (fun w' hDr => V.ldB Tryd.isAgg48 rfl ((hm68.ext hDr).get 7 rfl) rfl) ?_
       refine RH.take 4 (by kernel_rfl) rfl rfl rfl rfl (fun w' hDr => V.ldBA [_, _] Tryd.isAgg64 Tryd.sizeOf64 rfl ((hm68.ext hDr).get 6 rfl) rfl rfl) ?_
       refine dd [5] (by kernel_rfl) rfl rfl ?_
       refine RH.bslS 6 (by kernel_rfl) rfl rfl rfl Tryd.underlying22 el3 rfl rfl rfl rfl (by first | exact szs rfl | (simp [Value.cells]; done)) (by decide) ?_
       intro b71 w71 hb71 m71 e71
       have hm72 := hm68.addLit (rep := (intR .i64)) (xs := ([y20] : List Int)) (vss := [[iv y20]]) hb71 e71 m71 rfl rfl rfl ((rels_cons (fun _ _ => ⟨rfl, trivial⟩) rels0))
       refine ⟨((Ext.refl _).trans e71), ?_⟩
       refine RG.tailK (by kernel_rfl) ?_
       have hm75 := (hm72.cut [0, 1, 2, 3, 4, 5, 6, 7, 8, 10] [9] rfl (by decide)).nf ([_, _, _, _, _, _, _, _, _, _] ++ [_]) rfl
       refine RH.meTake 7 (by kernel_rfl) hm75 kk64 z63 rfl rfl rfl Tryd.underlying48 Tryd.zeroValue22 rfl rfl ?_
       intro A74 c74 u74 F74 w74 hm74
       replace hm74 := hm74.nf [_, _, _, _, _, _, _, _, _, _, _, _] rfl
       refine ⟨trivial, ?_⟩
       refine dd [8, 10] (by kernel_rfl) rfl rfl ?_
       obtain ⟨z77, e77, hM⟩ := bindE hM
       refine RH.appH 9 (by kernel_rfl) hm74 10 rfl e77 rfl rfl rfl Tryd.underlying22 el3 rfl rfl rfl rfl (hm74.srcO 9 rfl) ?_
       intro A77 c77 w77 hm77
       replace hm77 := hm77.nf [_, _, _, _, _, _, _, _, _, _, _, _] rfl
       refine ⟨trivial, ?_⟩
       have hm80 := (hm77.cut [0, 1, 2, 3, 4, 5, 6, 7, 8, 9] [10, 11] rfl (by decide)).nf ([_, _, _, _, _, _, _, _, _, _] ++ [_, _]) rfl
       refine RH.mePut 11 (by kernel_rfl) hm80 rfl rfl rfl rfl rfl ?_
       intro F79 w79 hm79
       replace hm79 := hm79.nf [_, _, _, _, _, _, _, _, _, _, _] rfl
       refine ⟨trivial, ?_⟩
       refine RH.doneP (by kernel_rfl) ?_
       refine gg 5 rfl ?_
       have hm82 := (hm79.cut [0, 1, 2, 3, 4, 5, 6, 9] [7, 8, 10] rfl (by decide)).nf ([_, _, _, _, _, _, _, _] ++ [_, _, _]) rfl
       obtain ⟨F81, hm81⟩ := hm82.fold (T_index_Index.sh b8 ({ keys := y60.keys, rows := (putO z63 z77 y60.rows) } : T_index_Index)) ⟨A68_0, c68_0, F79, m68_1, rfl⟩
       exact hn61 ((W64 (y59 + 1)), ({ keys := y60.keys, rows := (putO z63 z77 y60.rows) } : T_index_Index), F81) _ _ (sb ⟨rfl, rfl, rfl, rfl, rfl, rfl, rfl, rfl, rfl, trivial⟩) (hm81.pick [0, 1, 2, 3, 4, 5, 8] rfl (by decide)) hM
      ·refine gg 1 rfl ?_
       exact hk4 (y60, F60) _ _ (sb ⟨rfl, rfl, rfl, rfl, rfl, trivial⟩) (hm61.pick [0, 1, 2, 3, 4, 5, 6] rfl (by decide)) hM
    intro hk3
    clear hj3
    refine askS hM (Rn.condS rfl) (fun h83 hM => ?_) (fun h83 hM => ?_)
    ·refine gg 3 rfl ?_
     exact hk3 (8, F35) _ _ (sb ⟨rfl, rfl, rfl, rfl, rfl, rfl, rfl, rfl, rfl, trivial⟩) (hm37.pick [0, 1, 2, 3, 4, 5, 6] rfl (by decide)) hM
    ·refine gg 1 rfl ?_
     exact hk3 (p27.2, F35) _ _ (sb ⟨rfl, rfl, rfl, rfl, rfl, rfl, rfl, rfl, rfl, trivial⟩) (hm37.pick [0, 1, 2, 3, 4, 5, 6] rfl (by decide)) hM
   intro hk2
   clear hj2
   refine askD hM (Rn.partD (t := 34) rfl) (fun h84 hM => ?_) (fun h84 hM => ?_)
   ·refine gg 2 rfl ?_
    obtain ⟨vs85, hl85, hr85⟩ := Map.lkp (hm34.get 1 rfl) z25 (zs := [iv 0]) (zm := (0 : Int)) (show (intR .i64).rel _ _ _ _ from ⟨rfl, trivial⟩)
    obtain ⟨rfl, _⟩ := hr85
    refine Rn.q rfl (V.lkpH hl85 Tryd.underlying51 Tryd.underlying9 Tryd.zeroValue3 rfl rfl) (gg 2 rfl ?_)
    exact hk2 ((decide (((lookP z25 y21).getD 0) > 0)), F22) _ _ (sb ⟨rfl, rfl, rfl, rfl, rfl, rfl, rfl, rfl, rfl, rfl, trivial⟩) (hm34.pick [0, 1, 2, 4, 5, 6, 7] rfl (by decide)) hM
   ·refine gg 5 rfl ?_
    exact hk2 (false, F22) _ _ (sb ⟨rfl, rfl, rfl, rfl, rfl, rfl, rfl, rfl, rfl, rfl, trivial⟩) (hm34.pick [0, 1, 2, 4, 5, 6, 7] rfl (by decide)) hM
  ·refine gg 1 rfl ?_
   exact hk1 (y22, F22) _ _ (sb ⟨rfl, trivial⟩) (hm23.pick [2] rfl (by decide)) hM

theorem m_glob_closed_sim {Z0 : Nat → Prop} {w : World} {x0 : (List UInt8)} {x1 : Int} {r : Bool} (hM : m_glob_closed x0 x1 = some r)  :
    Calls Tryd.prog 68 #[Str (x0), iv x1] w fun x w' => x = .returned (.bool (r)) ∧ Hp Z0 No w w' [] := by
 have hm0 := Hp.nil Z0 No w
 have hc0 := Calm.nil
 refine Rn.enter Tryd.func68 rfl rfl (Nat.le_of_ble_eq_true rfl) ?_
 refine gg 5 rfl ?_
 obtain ⟨j1, hj1, hM⟩ := jnE hM
 refine Rn.joinG (r := r) (G := Int) (fun g => [(0, Str (x0)), (1, iv g)]) (fun g w' => Hp Z0 No w w' []) (fun g => j1 g) ?_ ?_
 ·subst hj1
  clear hM
  rintro y1 w2 hm2 hM
  try dsimp only at hM
  refine gg 4 rfl (Rn.q rfl (V.lenS Tryd.underlying9 rfl) (gg 3 rfl ?_))
  refine Rn.retG1 Tryd.func68 rfl (rvT rfl) ?_
  obtain rfl := someE hM
  exact ⟨rfl, hm2.pick [] rfl (by decide)⟩
 intro hk1
 clear hj1
 refine gg 1 rfl ?_
 refine Rn.loopF (G := Int) (fun g => [(0, Str (x0)), (1, iv g)]) (fun g w' => Hp Z0 No w w' []) (fun n g => m_glob_closed_L1 x0 j1 n g) fuel x1 (sb ⟨rfl, rfl, trivial⟩) (hm0.pick [] rfl (by decide)) hM (fun _ => rfl) ?_
 clear hM
 rintro m4 y3 w4 hm4 hM hn4
 replace hM : m_glob_closed_L1 x0 j1 (m4 + 1) y3 = some r := hM
 rw [m_glob_closed_L1] at hM
 refine gg 5 rfl (Rn.q rfl (V.lenS Tryd.underlying9 rfl) (gg 2 rfl ?_))
 obtain ⟨j2, hj2, hM⟩ := jnE hM
 refine Rn.joinR (r := r) (G := Bool) [] (fun g => [(0, Str (x0)), (1, iv y3), (14, .bool (g))]) (fun g w' => Hp Z0 No w w' []) (fun g => j2 g) ?_ ?_
 ·subst hj2
  clear hM
  rintro y5 w6 hm6 hM
  try dsimp only at hM
  refine gg 1 rfl ?_
  refine askS hM (Rn.condS rfl) (fun h7 hM => ?_) (fun h7 hM => ?_)
  ·refine gg 7 rfl ?_
   obtain ⟨z8, e8, hM⟩ := bindE hM
   refine Rn.q rfl (V.idxSZ Tryd.underlying9 rfl rfl e8) (Rn.q rfl (V.eql rfl rfl) (gg 1 rfl ?_))
   obtain ⟨j3, hj3, hM⟩ := jnE hM
   refine Rn.joinG (r := r) (G := Int) (fun g => [(0, Str (x0)), (1, iv g)]) (fun g w' => Hp Z0 No w w' []) (fun g => j3 g) ?_ ?_
   ·subst hj3
    clear hM
    rintro y9 w10 hm10 hM
    try dsimp only at hM
    refine gg 6 rfl ?_
    exact hn4 (W64 (y9 + 1)) _ _ (sb ⟨rfl, rfl, trivial⟩) (hm10.pick [] rfl (by decide)) hM
   intro hk3
   clear hj3
   refine askD hM (Rn.condD rfl) (fun h11 hM => ?_) (fun h11 hM => ?_)
   ·refine gg 5 rfl ?_
    exact hk3 (W64 (y3 + 1)) _ _ (sb ⟨rfl, rfl, trivial⟩) (hm6.pick [] rfl (by decide)) hM
   ·refine gg 1 rfl ?_
    exact hk3 y3 _ _ (sb ⟨rfl, rfl, trivial⟩) (hm6.pick [] rfl (by decide)) hM
  ·refine gg 1 rfl ?_
   exact hk1 y3 _ _ (sb ⟨rfl, rfl, trivial⟩) (hm6.pick [] rfl (by decide)) hM
 intro hk2
 clear hj2
 refine askD hM (Rn.partD (t := 9) rfl) (fun h12 hM => ?_) (fun h12 hM => ?_)
 ·refine gg 2 rfl ?_
  obtain ⟨z13, e13, hM⟩ := bindE hM
  refine Rn.q rfl (V.idxSZ Tryd.underlying9 rfl rfl e13) (Rn.q rfl (V.neq rfl rfl) (gg 1 rfl ?_))
  exact hk2 (decide (((z13).toNat : Int) ≠ 93)) _ _ (sb ⟨rfl, rfl, rfl, trivial⟩) (hm4.pick [] rfl (by decide)) hM
 ·refine gg 5 rfl ?_
  exact hk2 false _ _ (sb ⟨rfl, rfl, rfl, trivial⟩) (hm4.pick [] rfl (by decide)) hM

theorem m_glob_member_sim {Z0 : Nat → Prop} {w : World} {x0 : (List UInt8)} {x1 : Int} {r : (UInt8 × Int)} (hM : m_glob_member x0 x1 = some r)  :
    Calls Tryd.prog 69 #[Str (x0), iv x1] w fun x w' => x = .returned (.tuple #[u8v r.1, iv r.2]) ∧ Hp Z0 No w w' [] := by
 have hm0 := Hp.nil Z0 No w
 have hc0 := Calm.nil
 refine Rn.enter Tryd.func69 rfl rfl (Nat.le_of_ble_eq_true rfl) ?_
 refine gg 10 rfl ?_
 obtain ⟨z1, e1, hM⟩ := bindE hM
 refine Rn.q rfl (V.idxSZ Tryd.underlying9 rfl rfl e1) (Rn.q rfl (V.eql rfl rfl) (gg 1 rfl ?_))
 refine askD hM (Rn.condD rfl) (fun h2 hM => ?_) (fun h2 hM => ?_)
 ·refine gg 5 rfl ?_
  obtain ⟨z3, e3, hM⟩ := bindE hM
  refine Rn.q rfl (V.idxSZ Tryd.underlying9 rfl rfl e3) (gg 3 rfl ?_)
  refine Rn.retG2 Tryd.func69 rfl (rvT rfl) (rvT rfl) ?_
  obtain rfl := someE hM
  exact ⟨rfl, hm0.pick [] rfl (by decide)⟩
 ·refine gg 5 rfl ?_
  obtain ⟨z4, e4, hM⟩ := bindE hM
  refine Rn.q rfl (V.idxSZ Tryd.underlying9 rfl rfl e4) (gg 3 rfl ?_)
  refine Rn.retG2 Tryd.func69 rfl (rvT rfl) (rvT rfl) ?_
  obtain rfl := someE hM
  exact ⟨rfl, hm0.pick [] rfl (by decide)⟩

theorem m_glob_class_sim {Z0 : Nat → Prop} {w : World} {x0 : (List UInt8)} {x1 : Int} {r : (T_glob_piece × Int × T_glob_fault)} (hM : m_glob_class x0 x1 = some r) (f0 : (rdR 0 0 gl0).H Z0 w) :
    Calls Tryd.prog 53 #[Str (x0), iv x1] w fun x w' => x = .returned (.tuple #[.agg [iv r.1.kind, u64v r.1.set.a0, u64v r.1.set.a1, u64v r.1.set.a2, u64v r.1.set.a3, .bool (r.1.plain), u8v r.1.c].toArray, iv r.2.1, .agg [iv r.2.2.at_, iv r.2.2.e].toArray]) ∧ Hp Z0 No w w' [] := by
 have hm0 := Hp.nil Z0 No w
 have hc0 := Calm.nil
 have hm2 := hm0.know (rdR 0 0 gl0) (fun _ h => h) (hm0.in0 hc0 f0)
 replace hc0 := hc0.snoc (r := rdR 0 0 gl0) (fun _ h => h)
 refine Rn.enter Tryd.func53 rfl rfl (Nat.le_of_ble_eq_true rfl) ?_
 refine gg 2 rfl (Rn.alloc rfl rfl rfl Tryd.zeroValue87 rfl ?_)
 intro b3 w3 hb3 m3 e3
 have hm5 := (hm2.addBox hb3 e3 m3).nf [_, boxR _ _ [_, _, _, _, _, _, _]] rfl
 refine gg 1 rfl (Rn.alloc rfl rfl rfl Tryd.zeroValue89 rfl ?_)
 intro b6 w6 hb6 m6 e6
 have hm8 := (hm5.addBox hb6 e6 m6).nf [_, _, boxR _ _ [_, _]] rfl
 refine gg 3 rfl (Rn.alloc rfl rfl rfl Tryd.zeroValue87 rfl ?_)
 intro b9 w9 hb9 m9 e9
 have hm11 := (hm8.addBox hb9 e9 m9).nf [_, _, _, boxR _ _ [_, _, _, _, _, _, _]] rfl
 refine gg 11 rfl (Rn.q rfl (V.lenS Tryd.underlying9 rfl) (gg 2 rfl ?_))
 obtain ⟨j1, hj1, hM⟩ := jnE hM
 refine Rn.joinR (r := r) (G := Bool) [10] (fun g => [(0, Str (x0)), (1, iv x1), (4, pt b3 0), (6, pt b6 0), (7, pt b9 0), (8, iv (W64 (x1 + 1))), (29, .bool (g))]) (fun g w' => Hp Z0 No w w' [rdR 0 0 gl0, boxR b3 87 [iv 0, u64v (0 : UInt64), u64v (0 : UInt64), u64v (0 : UInt64), u64v (0 : UInt64), .bool false, u8v (0 : UInt8)], boxR b6 89 [iv 0, iv 0], boxR b9 87 [iv 0, u64v (0 : UInt64), u64v (0 : UInt64), u64v (0 : UInt64), u64v (0 : UInt64), .bool false, u8v (0 : UInt8)]]) (fun g => j1 g) ?_ ?_
 ·subst hj1
  clear hM
  rintro y12 w13 hm13 hM
  try dsimp only at hM
  refine gg 7 rfl ?_
  obtain ⟨j2, hj2, hM⟩ := jnE hM
  refine Rn.joinG (r := r) (G := Int) (fun g => [(0, Str (x0)), (1, iv x1), (4, pt b3 0), (6, pt b6 0), (7, pt b9 0), (8, iv g), (9, .bool (y12))]) (fun g w' => Hp Z0 No w w' [rdR 0 0 gl0, boxR b3 87 [iv 0, u64v (0 : UInt64), u64v (0 : UInt64), u64v (0 : UInt64), u64v (0 : UInt64), .bool false, u8v (0 : UInt8)], boxR b6 89 [iv 0, iv 0], boxR b9 87 [iv 0, u64v (0 : UInt64), u64v (0 : UInt64), u64v (0 : UInt64), u64v (0 : UInt64), .bool false, u8v (0 : UInt8)]]) (fun g => j2 g) ?_ ?_
  ·subst hj2
   clear hM
   rintro y14 w15 hm15 hM
   try dsimp only at hM
   refine gg 10 rfl ?_
   obtain ⟨p16, e16, hM⟩ := bindE hM
   refine Rn.cl ck68 rfl rfl rfl rfl (m_glob_closed_sim (Z0 := All) e16  :) ?_
   rintro _ w16 ⟨rfl, hq16⟩
   refine ⟨_, rfl, ?_⟩
   have hm17 := hm15.call0 hq16
   refine Rn.q rfl (V.notB rfl) (gg 1 rfl ?_)
   refine askS hM (Rn.condS rfl) (fun h18 hM => ?_) (fun h18 hM => ?_)
   ·refine gg 2 rfl (Rn.q rfl (V.ldBA [_, _, _, _, _, _, _] Tryd.isAgg87 Tryd.sizeOf87 rfl (hm17.get 3 rfl) rfl rfl) (gg 1 rfl (Rn.q rfl (V.bldS (cs := [_, _]) st89 rfl rfl) (Rn.st rfl rfl Tryd.sizeOf87 rfl rfl rfl rfl (by first | exact ones rfl | (simp [Value.oneCell']; done)) (hm17.get 1 rfl) (by first | exact Nat.le_of_ble_eq_true rfl | (simp; done)) ?_))))
    intro w19 m19 x19
    have hm20 := (hm17.st 1 rfl x19 m19).nf [_, boxR _ _ [_, _, _, _, _, _, _], _, _] rfl
    refine gg 1 rfl (Rn.st rfl rfl Tryd.sizeOf89 rfl rfl rfl rfl (by first | exact ones rfl | (simp [Value.oneCell']; done)) (hm20.get 2 rfl) (by first | exact Nat.le_of_ble_eq_true rfl | (simp; done)) ?_)
    intro w21 m21 x21
    have hm22 := (hm20.st 2 rfl x21 m21).nf [_, _, boxR _ _ [_, _], _] rfl
    refine gg 1 rfl ?_
    refine Rn.retG3 Tryd.func53 rfl (rvC rfl Tryd.isAgg87 Tryd.sizeOf87 (hm22.get 1 rfl) rfl) (rvT rfl) (rvC rfl Tryd.isAgg89 Tryd.sizeOf89 (hm22.get 2 rfl) rfl) ?_
    obtain rfl := someE hM
    exact ⟨rfl, hm22.pick [] rfl (by decide)⟩
   ·refine gg 2 rfl ?_
    obtain ⟨j3, hj3, hM⟩ := jnE hM
    refine Rn.joinG (r := r) (G := Int × T_glob_piece) (fun g => [(1, iv x1), (4, pt b3 0), (6, pt b6 0), (7, pt b9 0), (8, iv (g.1)), (9, .bool (y12)), (10, iv y14)]) (fun g w' => Hp Z0 No w w' [rdR 0 0 gl0, boxR b3 87 [iv 0, u64v (0 : UInt64), u64v (0 : UInt64), u64v (0 : UInt64), u64v (0 : UInt64), .bool false, u8v (0 : UInt8)], boxR b6 89 [iv 0, iv 0], boxR b9 87 [iv (g.2).kind, u64v (g.2).set.a0, u64v (g.2).set.a1, u64v (g.2).set.a2, u64v (g.2).set.a3, .bool ((g.2).plain), u8v (g.2).c]]) (fun g => j3 g.1 g.2) ?_ ?_
    ·subst hj3
     clear hM
     rintro ⟨y23, y24⟩ w25 hm25 hM
     try dsimp only at hM
     refine gg 7 rfl ?_
     refine askD hM (Rn.condD rfl) (fun h26 hM => ?_) (fun h26 hM => ?_)
     ·refine gg 2 rfl (Rn.q rfl (V.ldBA [_, _, _, _, _, _, _] Tryd.isAgg87 Tryd.sizeOf87 rfl (hm25.get 3 rfl) rfl rfl) (gg 1 rfl (Rn.q rfl (V.bldS (cs := [_, _]) st89 rfl rfl) (Rn.st rfl rfl Tryd.sizeOf87 rfl rfl rfl rfl (by first | exact ones rfl | (simp [Value.oneCell']; done)) (hm25.get 1 rfl) (by first | exact Nat.le_of_ble_eq_true rfl | (simp; done)) ?_))))
      intro w27 m27 x27
      have hm28 := (hm25.st 1 rfl x27 m27).nf [_, boxR _ _ [_, _, _, _, _, _, _], _, _] rfl
      refine gg 1 rfl (Rn.st rfl rfl Tryd.sizeOf89 rfl rfl rfl rfl (by first | exact ones rfl | (simp [Value.oneCell']; done)) (hm28.get 2 rfl) (by first | exact Nat.le_of_ble_eq_true rfl | (simp; done)) ?_)
      intro w29 m29 x29
      have hm30 := (hm28.st 2 rfl x29 m29).nf [_, _, boxR _ _ [_, _], _] rfl
      refine gg 1 rfl ?_
      refine Rn.retG3 Tryd.func53 rfl (rvC rfl Tryd.isAgg87 Tryd.sizeOf87 (hm30.get 1 rfl) rfl) (rvT rfl) (rvC rfl Tryd.isAgg89 Tryd.sizeOf89 (hm30.get 2 rfl) rfl) ?_
      obtain rfl := someE hM
      exact ⟨rfl, hm30.pick [] rfl (by decide)⟩
     ·refine gg 6 rfl ?_
      obtain ⟨j4, hj4, hM⟩ := jnE hM
      refine Rn.joinG (r := r) (G := T_glob_piece) (fun g => [(1, iv x1), (4, pt b3 0), (6, pt b6 0), (7, pt b9 0), (8, iv y23)]) (fun g w' => Hp Z0 No w w' [rdR 0 0 gl0, boxR b3 87 [iv 0, u64v (0 : UInt64), u64v (0 : UInt64), u64v (0 : UInt64), u64v (0 : UInt64), .bool false, u8v (0 : UInt8)], boxR b6 89 [iv 0, iv 0], boxR b9 87 [iv g.kind, u64v g.set.a0, u64v g.set.a1, u64v g.set.a2, u64v g.set.a3, .bool (g.plain), u8v g.c]]) (fun g => j4 g) ?_ ?_
      ·subst hj4
       clear hM
       rintro y31 w32 hm32 hM
       try dsimp only at hM
       refine gg 1 rfl ?_
       have hm35 := (hm32.cutF [3] [1, 2] [0] rfl (by decide) ⟨fun _ h => h, trivial⟩).nf ([_, _] ++ [_, _, _]) rfl
       refine Rn.drawF rfl hm35 ?_
       intro w36 hmo36 hm36
       refine RH.take 0 (by kernel_rfl) rfl rfl rfl rfl (fun w' hDr => V.ldBA [_, _, _, _, _, _, _] Tryd.isAgg87 Tryd.sizeOf87 rfl ((hmo36.awayK hDr).get 0 rfl) rfl rfl) ?_
       refine dd [1, 2, 3, 4] (by kernel_rfl) rfl rfl ?_
       refine RH.take 5 (by kernel_rfl) rfl rfl rfl rfl (fun w' hDr => V.ldA (vs := [iv 0, iv 0]) Tryd.isAgg89 Tryd.sizeOf89 rfl ((hmo36.awayK hDr).get 1 rfl).2 rfl) ?_
       refine RH.st 6 (by kernel_rfl) rfl rfl Tryd.sizeOf87 rfl rfl rfl rfl (by first | exact ones rfl | (simp [Value.oneCell']; done)) (hm36.get 0 rfl) (by first | exact Nat.le_of_ble_eq_true rfl | (simp; done)) ?_
       intro w37 m37 x37
       have hm38 := (hm36.st 0 rfl x37 m37).nf [boxR _ _ [_, _, _, _, _, _, _], _, _] rfl
       refine ⟨hm38.fr, ?_⟩
       refine dd [7] (by kernel_rfl) rfl rfl ?_
       refine RH.st 8 (by kernel_rfl) rfl rfl Tryd.sizeOf89 rfl rfl rfl rfl (by first | exact ones rfl | (simp [Value.oneCell']; done)) (hm38.get 1 rfl) (by first | exact Nat.le_of_ble_eq_true rfl | (simp; done)) ?_
       intro w39 m39 x39
       have hm40 := (hm38.st 1 rfl x39 m39).nf [_, boxR _ _ [_, _], _] rfl
       refine ⟨hm40.fr, ?_⟩
       refine RH.doneP (by kernel_rfl) ?_
       have hm41 := hmo36.callAZ hm40
       have hm42 := (hm41.pick [0, 2, 3, 4] rfl (by decide)).nf [_, _, _, _] rfl
       refine Rn.retG3 Tryd.func53 rfl (rvC rfl Tryd.isAgg87 Tryd.sizeOf87 (hm42.get 1 rfl) rfl) (rvT rfl) (rvC rfl Tryd.isAgg89 Tryd.sizeOf89 (hm42.get 2 rfl) rfl) ?_
       obtain rfl := someE hM
       exact ⟨rfl, hm42.pick [] rfl (by decide)⟩
      intro hk4
      clear hj4
      refine askS hM (Rn.condS rfl) (fun h43 hM => ?_) (fun h43 hM => ?_)
      ·refine gg 4 rfl ?_
       obtain ⟨j5, hj5, hM⟩ := jnE hM
       refine Rn.joinG (r := r) (G := T_glob_piece) (fun g => [(1, iv x1), (4, pt b3 0), (6, pt b6 0), (7, pt b9 0), (8, iv y23)]) (fun g w' => Hp Z0 No w w' [rdR 0 0 gl0, boxR b3 87 [iv 0, u64v (0 : UInt64), u64v (0 : UInt64), u64v (0 : UInt64), u64v (0 : UInt64), .bool false, u8v (0 : UInt8)], boxR b6 89 [iv 0, iv 0], boxR b9 87 [iv g.kind, u64v g.set.a0, u64v g.set.a1, u64v g.set.a2, u64v g.set.a3, .bool (g.plain), u8v g.c]]) (fun g => j5 g) ?_ ?_
       ·subst hj5
        clear hM
        rintro y44 w45 hm45 hM
        try dsimp only at hM
        exact hk4 y44 _ _ (sb ⟨rfl, rfl, rfl, rfl, rfl, trivial⟩) (hm45.pick [0, 1, 2, 3] rfl (by decide)) hM
       intro hk5
       clear hj5
       refine gg 1 rfl ?_
       refine Rn.loopF (G := Int × T_glob_piece) (fun g => [(1, iv x1), (4, pt b3 0), (6, pt b6 0), (7, pt b9 0), (8, iv y23), (121, iv (g.1))]) (fun g w' => Hp Z0 No w w' [rdR 0 0 gl0, boxR b3 87 [iv 0, u64v (0 : UInt64), u64v (0 : UInt64), u64v (0 : UInt64), u64v (0 : UInt64), .bool false, u8v (0 : UInt8)], boxR b6 89 [iv 0, iv 0], boxR b9 87 [iv (g.2).kind, u64v (g.2).set.a0, u64v (g.2).set.a1, u64v (g.2).set.a2, u64v (g.2).set.a3, .bool ((g.2).plain), u8v (g.2).c]]) (fun n g => m_glob_class_L1 j5 n g.1 g.2) fuel (0, y24) (sb ⟨rfl, rfl, rfl, rfl, rfl, rfl, trivial⟩) (hm25.pick [0, 1, 2, 3] rfl (by decide)) hM (fun _ => rfl) ?_
       clear hM
       rintro m48 ⟨y46, y47⟩ w48 hm48 hM hn48
       replace hM : m_glob_class_L1 j5 (m48 + 1) y46 y47 = some r := hM
       rw [m_glob_class_L1] at hM
       refine gg 5 rfl ?_
       refine askD hM (Rn.condD rfl) (fun h49 hM => ?_) (fun h49 hM => ?_)
       ·refine gg 12 rfl ?_
        obtain ⟨z50, e50, hM⟩ := bindE hM
        obtain ⟨kk50, ke50, kz50, kl50⟩ := idxE e50
        refine Rn.q rfl (V.ixR kk50 Tryd.underlying85 Tryd.sizeOf53 rfl rfl ke50 (Nat.lt_of_lt_of_eq kl50 rfl)) (Rn.q rfl (V.ldR0 Tryd.isAgg53 rfl (ar_rd0 (fun x : UInt64 => u64v x) (show Rd _ b9 1 (([y47.set.a0, y47.set.a1, y47.set.a2, y47.set.a3] : List UInt64).map (fun x : UInt64 => u64v x)) from (blkRd (hm48.get 3 rfl) 1 4)) kz50) rfl) (Rn.q rfl (V.com64 (a := z50) rfl) (gg 1 rfl (Rn.q rfl (V.ixR kk50 Tryd.underlying85 Tryd.sizeOf53 rfl rfl ke50 (Nat.lt_of_lt_of_eq kl50 rfl)) (Rn.st rfl rfl Tryd.sizeOf53 rfl rfl rfl rfl (by first | exact ones rfl | (simp [Value.oneCell']; done)) (hm48.get 3 rfl) (by have hh := kl50; simp at hh ⊢; omega) ?_)))))
        intro w53 m53 x53
        have hm54 := (hm48.st 3 rfl x53 m53).reBox 3 rfl (show setL [iv y47.kind, u64v y47.set.a0, u64v y47.set.a1, u64v y47.set.a2, u64v y47.set.a3, .bool (y47.plain), u8v y47.c] (1 + kk50 * 1) [u64v (~~~ z50)] = [iv y47.kind, u64v (if y46 = 0 then ~~~ z50 else y47.set.a0), u64v (if y46 = 1 then ~~~ z50 else y47.set.a1), u64v (if y46 = 2 then ~~~ z50 else y47.set.a2), u64v (if y46 = 3 then ~~~ z50 else y47.set.a3), .bool (y47.plain), u8v y47.c] from (ar_set (pre := [iv y47.kind]) (post := [.bool (y47.plain), u8v y47.c]) (L := ([y47.set.a0, y47.set.a1, y47.set.a2, y47.set.a3] : List UInt64)) (fun x : UInt64 => u64v x) rfl rfl kl50).trans (congrArg (fun l => ([iv y47.kind] : List Value) ++ (List.map (fun x : UInt64 => u64v x) l ++ ([.bool (y47.plain), u8v y47.c] : List Value))) (set4 ke50 kl50)))
        replace hm54 := hm54.nf [_, _, _, boxR _ _ [_, _, _, _, _, _, _]] rfl
        refine gg 6 rfl ?_
        exact hn48 ((W64 (y46 + 1)), ({ kind := y47.kind, set := ({ a0 := (if y46 = 0 then ~~~ z50 else y47.set.a0), a1 := (if y46 = 1 then ~~~ z50 else y47.set.a1), a2 := (if y46 = 2 then ~~~ z50 else y47.set.a2), a3 := (if y46 = 3 then ~~~ z50 else y47.set.a3) } : T_glob_set), plain := y47.plain, c := y47.c } : T_glob_piece)) _ _ (sb ⟨rfl, rfl, rfl, rfl, rfl, rfl, trivial⟩) (hm54.pick [0, 1, 2, 3] rfl (by decide)) hM
       ·refine gg 1 rfl ?_
        exact hk5 y47 _ _ (sb ⟨rfl, rfl, rfl, rfl, rfl, trivial⟩) (hm48.pick [0, 1, 2, 3] rfl (by decide)) hM
      ·refine gg 1 rfl ?_
       exact hk4 y24 _ _ (sb ⟨rfl, rfl, rfl, rfl, rfl, trivial⟩) (hm25.pick [0, 1, 2, 3] rfl (by decide)) hM
    intro hk3
    clear hj3
    refine gg 1 rfl ?_
    refine Rn.loopF (G := Int × T_glob_piece) (fun g => [(0, Str (x0)), (1, iv x1), (4, pt b3 0), (6, pt b6 0), (7, pt b9 0), (8, iv (g.1)), (9, .bool (y12)), (10, iv y14)]) (fun g w' => Hp Z0 No w w' [rdR 0 0 gl0, boxR b3 87 [iv 0, u64v (0 : UInt64), u64v (0 : UInt64), u64v (0 : UInt64), u64v (0 : UInt64), .bool false, u8v (0 : UInt8)], boxR b6 89 [iv 0, iv 0], boxR b9 87 [iv (g.2).kind, u64v (g.2).set.a0, u64v (g.2).set.a1, u64v (g.2).set.a2, u64v (g.2).set.a3, .bool ((g.2).plain), u8v (g.2).c]]) (fun n g => m_glob_class_L2 x0 j3 n g.1 g.2) fuel (y14, ({ kind := 0, set := ({ a0 := (0 : UInt64), a1 := (0 : UInt64), a2 := (0 : UInt64), a3 := (0 : UInt64) } : T_glob_set), plain := false, c := (0 : UInt8) } : T_glob_piece)) (sb ⟨rfl, rfl, rfl, rfl, rfl, rfl, rfl, rfl, trivial⟩) (hm17.pick [0, 1, 2, 3] rfl (by decide)) hM (fun _ => rfl) ?_
    clear hM
    rintro m57 ⟨y55, y56⟩ w57 hm57 hM hn57
    replace hM : m_glob_class_L2 x0 j3 (m57 + 1) y55 y56 = some r := hM
    rw [m_glob_class_L2] at hM
    refine gg 5 rfl ?_
    obtain ⟨z58, e58, hM⟩ := bindE hM
    refine Rn.q rfl (V.idxSZ Tryd.underlying9 rfl rfl e58) (Rn.q rfl (V.neq rfl rfl) (gg 1 rfl ?_))
    refine askD hM (Rn.condD rfl) (fun h59 hM => ?_) (fun h59 hM => ?_)
    ·refine gg 7 rfl ?_
     obtain ⟨z60, e60, hM⟩ := bindE hM
     refine Rn.q rfl (V.idxSZ Tryd.underlying9 rfl rfl e60) (Rn.q rfl (V.eql rfl rfl) (gg 1 rfl ?_))
     refine askD hM (Rn.condD rfl) (fun h61 hM => ?_) (fun h61 hM => ?_)
     ·refine gg 6 rfl ?_
      obtain ⟨z62, e62, hM⟩ := bindE hM
      refine Rn.q rfl (V.idxSZ Tryd.underlying9 rfl rfl e62) (Rn.q rfl (V.neq rfl rfl) (gg 1 rfl ?_))
      refine askD hM (Rn.condD rfl) (fun h63 hM => ?_) (fun h63 hM => ?_)
      ·refine gg 2 rfl (Rn.q rfl (V.ldBA [_, _, _, _, _, _, _] Tryd.isAgg87 Tryd.sizeOf87 rfl (hm57.get 3 rfl) rfl rfl) (gg 1 rfl (Rn.q rfl (V.bldS (cs := [_, _]) st89 rfl rfl) (Rn.st rfl rfl Tryd.sizeOf87 rfl rfl rfl rfl (by first | exact ones rfl | (simp [Value.oneCell']; done)) (hm57.get 1 rfl) (by first | exact Nat.le_of_ble_eq_true rfl | (simp; done)) ?_))))
       intro w64 m64 x64
       have hm65 := (hm57.st 1 rfl x64 m64).nf [_, boxR _ _ [_, _, _, _, _, _, _], _, _] rfl
       refine gg 1 rfl (Rn.st rfl rfl Tryd.sizeOf89 rfl rfl rfl rfl (by first | exact ones rfl | (simp [Value.oneCell']; done)) (hm65.get 2 rfl) (by first | exact Nat.le_of_ble_eq_true rfl | (simp; done)) ?_)
       intro w66 m66 x66
       have hm67 := (hm65.st 2 rfl x66 m66).nf [_, _, boxR _ _ [_, _], _] rfl
       refine gg 1 rfl ?_
       refine Rn.retG3 Tryd.func53 rfl (rvC rfl Tryd.isAgg87 Tryd.sizeOf87 (hm67.get 1 rfl) rfl) (rvT rfl) (rvC rfl Tryd.isAgg89 Tryd.sizeOf89 (hm67.get 2 rfl) rfl) ?_
       obtain rfl := someE hM
       exact ⟨rfl, hm67.pick [] rfl (by decide)⟩
      ·refine gg 4 rfl ?_
       obtain ⟨j6, hj6, hM⟩ := jnE hM
       have hk6 : Calls Tryd.prog 67 #[pt b9 1, u8v (45 : UInt8)] w57 (fun x w' => ∃ g : T_glob_piece, x = .returned (.tuple #[]) ∧ (Hp Z0 No w w' [rdR 0 0 gl0, boxR b3 87 [iv 0, u64v (0 : UInt64), u64v (0 : UInt64), u64v (0 : UInt64), u64v (0 : UInt64), .bool false, u8v (0 : UInt8)], boxR b6 89 [iv 0, iv 0], boxR b9 87 [iv g.kind, u64v g.set.a0, u64v g.set.a1, u64v g.set.a2, u64v g.set.a3, .bool (g.plain), u8v g.c]]) ∧ j6 g = some r) := by
        refine Rn.enter Tryd.func67 rfl rfl (Nat.le_of_ble_eq_true rfl) ?_
        refine Rn.drawT 13 rfl hm57 (by kernel_rfl) ?_
        intro w70 hm70
        refine RT.v 0 (by kernel_rfl) rfl rfl rfl rfl (V.mv rfl) ?_
        refine RT.v 1 (by kernel_rfl) rfl rfl rfl rfl (V.mv rfl) ?_
        obtain ⟨z71, e71, hM⟩ := bindE hM
        refine RT.v 2 (by kernel_rfl) rfl rfl rfl rfl (V.quo8 rfl rfl e71) ?_
        refine RT.v 3 (by kernel_rfl) rfl rfl rfl rfl (V.nil rfl) ?_
        obtain ⟨z72, e72, hM⟩ := bindE hM
        obtain ⟨kk72, ke72, kz72, kl72⟩ := idxE e72
        refine RT.v 4 (by kernel_rfl) rfl rfl rfl rfl (V.ixR kk72 Tryd.underlying85 Tryd.sizeOf53 rfl rfl ke72 (Nat.lt_of_lt_of_eq kl72 rfl)) ?_
        refine RT.v 5 (by kernel_rfl) rfl rfl rfl rfl (V.ldR0 Tryd.isAgg53 rfl (ar_rd0 (fun x : UInt64 => u64v x) (show Rd _ b9 1 (([y56.set.a0, y56.set.a1, y56.set.a2, y56.set.a3] : List UInt64).map (fun x : UInt64 => u64v x)) from (blkRd (hm70.get 3 rfl) 1 4)) kz72) rfl) ?_
        refine RT.v 6 (by kernel_rfl) rfl rfl rfl rfl (V.mv rfl) ?_
        obtain ⟨z73, e73, hM⟩ := bindE hM
        refine RT.v 7 (by kernel_rfl) rfl rfl rfl rfl (V.rem8 rfl rfl e73) ?_
        refine RT.v 8 (by kernel_rfl) rfl rfl rfl rfl (V.cv64 Tryd.underlying5 Tryd.underlying99 rfl) ?_
        refine RT.v 9 (by kernel_rfl) rfl rfl rfl rfl (V.shl64 (a := (1 : UInt64)) (m := (toU64 ((z73).toNat : Int)).toNat) rfl rfl) ?_
        refine RT.v 10 (by kernel_rfl) rfl rfl rfl rfl (V.o64 rfl rfl z72 (shl64 (1 : UInt64) ((toU64 ((z73).toNat : Int)).toNat)) rfl rfl (b64_or _ _ _)) ?_
        refine RT.v 11 (by kernel_rfl) rfl rfl rfl rfl (V.nil rfl) ?_
        refine RT.v 12 (by kernel_rfl) rfl rfl rfl rfl (V.ixR kk72 Tryd.underlying85 Tryd.sizeOf53 rfl rfl ke72 (Nat.lt_of_lt_of_eq kl72 rfl)) ?_
        refine RT.tail ?_
        refine RH.st 13 (by kernel_rfl) rfl rfl Tryd.sizeOf53 rfl rfl rfl rfl (by first | exact ones rfl | (simp [Value.oneCell']; done)) (hm70.get 3 rfl) (by have hh := kl72; simp at hh ⊢; omega) ?_
        intro w76 m76 x76
        have hm77 := (hm70.st 3 rfl x76 m76).reBox 3 rfl (show setL [iv y56.kind, u64v y56.set.a0, u64v y56.set.a1, u64v y56.set.a2, u64v y56.set.a3, .bool (y56.plain), u8v y56.c] (1 + kk72 * 1) [u64v (z72 ||| (shl64 (1 : UInt64) ((toU64 ((z73).toNat : Int)).toNat)))] = [iv y56.kind, u64v (if ((z71).toNat : Int) = 0 then z72 ||| (shl64 (1 : UInt64) ((toU64 ((z73).toNat : Int)).toNat)) else y56.set.a0), u64v (if ((z71).toNat : Int) = 1 then z72 ||| (shl64 (1 : UInt64) ((toU64 ((z73).toNat : Int)).toNat)) else y56.set.a1), u64v (if ((z71).toNat : Int) = 2 then z72 ||| (shl64 (1 : UInt64) ((toU64 ((z73).toNat : Int)).toNat)) else y56.set.a2), u64v (if ((z71).toNat : Int) = 3 then z72 ||| (shl64 (1 : UInt64) ((toU64 ((z73).toNat : Int)).toNat)) else y56.set.a3), .bool (y56.plain), u8v y56.c] from (ar_set (pre := [iv y56.kind]) (post := [.bool (y56.plain), u8v y56.c]) (L := ([y56.set.a0, y56.set.a1, y56.set.a2, y56.set.a3] : List UInt64)) (fun x : UInt64 => u64v x) rfl rfl kl72).trans (congrArg (fun l => ([iv y56.kind] : List Value) ++ (List.map (fun x : UInt64 => u64v x) l ++ ([.bool (y56.plain), u8v y56.c] : List Value))) (set4 ke72 kl72)))
        replace hm77 := hm77.nf [_, _, _, boxR _ _ [_, _, _, _, _, _, _]] rfl
        refine ⟨trivial, ?_⟩
        refine RH.doneP (by kernel_rfl) ?_
        refine Rn.end0 Tryd.func67 rfl ?_
        exact ⟨({ kind := y56.kind, set := ({ a0 := (if ((z71).toNat : Int) = 0 then z72 ||| (shl64 (1 : UInt64) ((toU64 ((z73).toNat : Int)).toNat)) else y56.set.a0), a1 := (if ((z71).toNat : Int) = 1 then z72 ||| (shl64 (1 : UInt64) ((toU64 ((z73).toNat : Int)).toNat)) else y56.set.a1), a2 := (if ((z71).toNat : Int) = 2 then z72 ||| (shl64 (1 : UInt64) ((toU64 ((z73).toNat : Int)).toNat)) else y56.set.a2), a3 := (if ((z71).toNat : Int) = 3 then z72 ||| (shl64 (1 : UInt64) ((toU64 ((z73).toNat : Int)).toNat)) else y56.set.a3) } : T_glob_set), plain := y56.plain, c := y56.c } : T_glob_piece), rfl, hm77.pick [0, 1, 2, 3] rfl (by decide), hM⟩
       refine Rn.cl ck67 rfl rfl rfl rfl hk6 ?_
       clear hM hk6
       subst hj6
       rintro _ w69 ⟨y68, rfl, hm69, hM⟩
       try dsimp only at hM hm69
       refine ⟨_, rfl, ?_⟩
       refine gg 8 rfl ?_
       exact hn57 ((W64 (y55 + 1)), y68) _ _ (sb ⟨rfl, rfl, rfl, rfl, rfl, rfl, rfl, rfl, trivial⟩) (hm69.pick [0, 1, 2, 3] rfl (by decide)) hM
     ·refine gg 5 rfl ?_
      obtain ⟨p78, e78, hM⟩ := bindE hM
      refine Rn.cl ck69 rfl rfl rfl rfl (m_glob_member_sim (Z0 := All) e78  :) ?_
      rintro _ w78 ⟨rfl, hq78⟩
      refine ⟨_, rfl, ?_⟩
      have hm79 := hm57.call0 hq78
      refine gg 23 rfl ?_
      obtain ⟨z80, e80, hM⟩ := bindE hM
      refine Rn.q rfl (V.idxSZ Tryd.underlying9 rfl rfl e80) (Rn.q rfl (V.eql rfl rfl) (gg 1 rfl ?_))
      obtain ⟨j7, hj7, hM⟩ := jnE hM
      refine Rn.joinR (r := r) (G := Bool) [11, 12, 13, 14, 15, 16, 17] (fun g => [(0, Str (x0)), (1, iv x1), (4, pt b3 0), (6, pt b6 0), (7, pt b9 0), (8, iv y55), (9, .bool (y12)), (10, iv y14), (11, u8v p78.1), (12, iv p78.2), (13, u8v p78.1), (14, iv (W64 (y55 + p78.2))), (81, .bool (g))]) (fun g w' => Hp Z0 No w w' [rdR 0 0 gl0, boxR b3 87 [iv 0, u64v (0 : UInt64), u64v (0 : UInt64), u64v (0 : UInt64), u64v (0 : UInt64), .bool false, u8v (0 : UInt8)], boxR b6 89 [iv 0, iv 0], boxR b9 87 [iv y56.kind, u64v y56.set.a0, u64v y56.set.a1, u64v y56.set.a2, u64v y56.set.a3, .bool (y56.plain), u8v y56.c]]) (fun g => j7 g) ?_ ?_
      ·subst hj7
       clear hM
       rintro y81 w82 hm82 hM
       try dsimp only at hM
       refine gg 1 rfl ?_
       obtain ⟨j8, hj8, hM⟩ := jnE hM
       refine Rn.joinR (r := r) (G := Bool) [] (fun g => [(0, Str (x0)), (1, iv x1), (4, pt b3 0), (6, pt b6 0), (7, pt b9 0), (8, iv y55), (9, .bool (y12)), (10, iv y14), (11, u8v p78.1), (12, iv p78.2), (13, u8v p78.1), (14, iv (W64 (y55 + p78.2))), (88, .bool (g))]) (fun g w' => Hp Z0 No w w' [rdR 0 0 gl0, boxR b3 87 [iv 0, u64v (0 : UInt64), u64v (0 : UInt64), u64v (0 : UInt64), u64v (0 : UInt64), .bool false, u8v (0 : UInt8)], boxR b6 89 [iv 0, iv 0], boxR b9 87 [iv y56.kind, u64v y56.set.a0, u64v y56.set.a1, u64v y56.set.a2, u64v y56.set.a3, .bool (y56.plain), u8v y56.c]]) (fun g => j8 g) ?_ ?_
       ·subst hj8
        clear hM
        rintro y83 w84 hm84 hM
        try dsimp only at hM
        refine gg 1 rfl ?_
        obtain ⟨j9, hj9, hM⟩ := jnE hM
        refine Rn.joinG (r := r) (G := Int × UInt8) (fun g => [(0, Str (x0)), (1, iv x1), (4, pt b3 0), (6, pt b6 0), (7, pt b9 0), (8, iv y55), (9, .bool (y12)), (10, iv y14), (11, u8v p78.1), (12, iv (g.1)), (13, u8v (g.2))]) (fun g w' => Hp Z0 No w w' [rdR 0 0 gl0, boxR b3 87 [iv 0, u64v (0 : UInt64), u64v (0 : UInt64), u64v (0 : UInt64), u64v (0 : UInt64), .bool false, u8v (0 : UInt8)], boxR b6 89 [iv 0, iv 0], boxR b9 87 [iv y56.kind, u64v y56.set.a0, u64v y56.set.a1, u64v y56.set.a2, u64v y56.set.a3, .bool (y56.plain), u8v y56.c]]) (fun g => j9 g.1 g.2) ?_ ?_
        ·subst hj9
         clear hM
         rintro ⟨y85, y86⟩ w87 hm87 hM
         try dsimp only at hM
         refine gg 5 rfl ?_
         obtain ⟨j10, hj10, hM⟩ := jnE hM
         have hk10 : Calls Tryd.prog 52 #[pt b9 1, u8v p78.1, u8v y86] w87 (fun x w' => ∃ g : T_glob_piece, x = .returned (.tuple #[]) ∧ (Hp Z0 No w w' [rdR 0 0 gl0, boxR b3 87 [iv 0, u64v (0 : UInt64), u64v (0 : UInt64), u64v (0 : UInt64), u64v (0 : UInt64), .bool false, u8v (0 : UInt8)], boxR b6 89 [iv 0, iv 0], boxR b9 87 [iv g.kind, u64v g.set.a0, u64v g.set.a1, u64v g.set.a2, u64v g.set.a3, .bool (g.plain), u8v g.c]]) ∧ j10 g = some r) := by
          refine Rn.enter Tryd.func52 rfl rfl (Nat.le_of_ble_eq_true rfl) ?_
          refine gg 3 rfl (Rn.q rfl (V.cv8i (a := p78.1) Tryd.underlying5 Tryd.underlying3 rfl) (gg 2 rfl ?_))
          obtain ⟨j11, hj11, hM⟩ := jnE hM
          refine Rn.joinG (r := r) (G := T_glob_piece) (fun g => []) (fun g w' => Hp Z0 No w w' [rdR 0 0 gl0, boxR b3 87 [iv 0, u64v (0 : UInt64), u64v (0 : UInt64), u64v (0 : UInt64), u64v (0 : UInt64), .bool false, u8v (0 : UInt8)], boxR b6 89 [iv 0, iv 0], boxR b9 87 [iv g.kind, u64v g.set.a0, u64v g.set.a1, u64v g.set.a2, u64v g.set.a3, .bool (g.plain), u8v g.c]]) (fun g => j11 g) ?_ ?_
          ·subst hj11
           clear hM
           rintro y90 w91 hm91 hM
           try dsimp only at hM
           refine Rn.end0 Tryd.func52 rfl ?_
           exact ⟨y90, rfl, hm91.pick [0, 1, 2, 3] rfl (by decide), hM⟩
          intro hk11
          clear hj11
          refine gg 1 rfl ?_
          refine Rn.loopF (G := Int × T_glob_piece) (fun g => [(0, pt b9 1), (2, u8v y86), (6, iv (g.1))]) (fun g w' => Hp Z0 No w w' [rdR 0 0 gl0, boxR b3 87 [iv 0, u64v (0 : UInt64), u64v (0 : UInt64), u64v (0 : UInt64), u64v (0 : UInt64), .bool false, u8v (0 : UInt8)], boxR b6 89 [iv 0, iv 0], boxR b9 87 [iv (g.2).kind, u64v (g.2).set.a0, u64v (g.2).set.a1, u64v (g.2).set.a2, u64v (g.2).set.a3, .bool ((g.2).plain), u8v (g.2).c]]) (fun n g => m_glob_class_L3 y86 j11 n g.1 g.2) fuel ((p78.1.toNat : Int), y56) (sb ⟨rfl, rfl, rfl, trivial⟩) (hm87.pick [0, 1, 2, 3] rfl (by decide)) hM (fun _ => rfl) ?_
          clear hM
          rintro m94 ⟨y92, y93⟩ w94 hm94 hM hn94
          replace hM : m_glob_class_L3 y86 j11 (m94 + 1) y92 y93 = some r := hM
          rw [m_glob_class_L3] at hM
          refine gg 5 rfl (Rn.q rfl (V.cv8i (a := y86) Tryd.underlying5 Tryd.underlying3 rfl) (gg 2 rfl ?_))
          refine askD hM (Rn.condD rfl) (fun h95 hM => ?_) (fun h95 hM => ?_)
          ·refine gg 6 rfl (Rn.q rfl (V.cv8 Tryd.underlying3 Tryd.underlying5 rfl) ?_)
           obtain ⟨j12, hj12, hM⟩ := jnE hM
           have hk12 : Calls Tryd.prog 67 #[pt b9 1, u8v (toU8 y92)] w94 (fun x w' => ∃ g : T_glob_piece, x = .returned (.tuple #[]) ∧ (Hp Z0 No w w' [rdR 0 0 gl0, boxR b3 87 [iv 0, u64v (0 : UInt64), u64v (0 : UInt64), u64v (0 : UInt64), u64v (0 : UInt64), .bool false, u8v (0 : UInt8)], boxR b6 89 [iv 0, iv 0], boxR b9 87 [iv g.kind, u64v g.set.a0, u64v g.set.a1, u64v g.set.a2, u64v g.set.a3, .bool (g.plain), u8v g.c]]) ∧ j12 g = some r) := by
            refine Rn.enter Tryd.func67 rfl rfl (Nat.le_of_ble_eq_true rfl) ?_
            refine Rn.drawT 13 rfl hm94 (by kernel_rfl) ?_
            intro w98 hm98
            refine RT.v 0 (by kernel_rfl) rfl rfl rfl rfl (V.mv rfl) ?_
            refine RT.v 1 (by kernel_rfl) rfl rfl rfl rfl (V.mv rfl) ?_
            obtain ⟨z99, e99, hM⟩ := bindE hM
            refine RT.v 2 (by kernel_rfl) rfl rfl rfl rfl (V.quo8 rfl rfl e99) ?_
            refine RT.v 3 (by kernel_rfl) rfl rfl rfl rfl (V.nil rfl) ?_
            obtain ⟨z100, e100, hM⟩ := bindE hM
            obtain ⟨kk100, ke100, kz100, kl100⟩ := idxE e100
            refine RT.v 4 (by kernel_rfl) rfl rfl rfl rfl (V.ixR kk100 Tryd.underlying85 Tryd.sizeOf53 rfl rfl ke100 (Nat.lt_of_lt_of_eq kl100 rfl)) ?_
            refine RT.v 5 (by kernel_rfl) rfl rfl rfl rfl (V.ldR0 Tryd.isAgg53 rfl (ar_rd0 (fun x : UInt64 => u64v x) (show Rd _ b9 1 (([y93.set.a0, y93.set.a1, y93.set.a2, y93.set.a3] : List UInt64).map (fun x : UInt64 => u64v x)) from (blkRd (hm98.get 3 rfl) 1 4)) kz100) rfl) ?_
            refine RT.v 6 (by kernel_rfl) rfl rfl rfl rfl (V.mv rfl) ?_
            obtain ⟨z101, e101, hM⟩ := bindE hM
            refine RT.v 7 (by kernel_rfl) rfl rfl rfl rfl (V.rem8 rfl rfl e101) ?_
            refine RT.v 8 (by kernel_rfl) rfl rfl rfl rfl (V.cv64 Tryd.underlying5 Tryd.underlying99 rfl) ?_
            refine RT.v 9 (by kernel_rfl) rfl rfl rfl rfl (V.shl64 (a := (1 : UInt64)) (m := (toU64 ((z101).toNat : Int)).toNat) rfl rfl) ?_
            refine RT.v 10 (by kernel_rfl) rfl rfl rfl rfl (V.o64 rfl rfl z100 (shl64 (1 : UInt64) ((toU64 ((z101).toNat : Int)).toNat)) rfl rfl (b64_or _ _ _)) ?_
            refine RT.v 11 (by kernel_rfl) rfl rfl rfl rfl (V.nil rfl) ?_
            refine RT.v 12 (by kernel_rfl) rfl rfl rfl rfl (V.ixR kk100 Tryd.underlying85 Tryd.sizeOf53 rfl rfl ke100 (Nat.lt_of_lt_of_eq kl100 rfl)) ?_
            refine RT.tail ?_
            refine RH.st 13 (by kernel_rfl) rfl rfl Tryd.sizeOf53 rfl rfl rfl rfl (by first | exact ones rfl | (simp [Value.oneCell']; done)) (hm98.get 3 rfl) (by have hh := kl100; simp at hh ⊢; omega) ?_
            intro w104 m104 x104
            have hm105 := (hm98.st 3 rfl x104 m104).reBox 3 rfl (show setL [iv y93.kind, u64v y93.set.a0, u64v y93.set.a1, u64v y93.set.a2, u64v y93.set.a3, .bool (y93.plain), u8v y93.c] (1 + kk100 * 1) [u64v (z100 ||| (shl64 (1 : UInt64) ((toU64 ((z101).toNat : Int)).toNat)))] = [iv y93.kind, u64v (if ((z99).toNat : Int) = 0 then z100 ||| (shl64 (1 : UInt64) ((toU64 ((z101).toNat : Int)).toNat)) else y93.set.a0), u64v (if ((z99).toNat : Int) = 1 then z100 ||| (shl64 (1 : UInt64) ((toU64 ((z101).toNat : Int)).toNat)) else y93.set.a1), u64v (if ((z99).toNat : Int) = 2 then z100 ||| (shl64 (1 : UInt64) ((toU64 ((z101).toNat : Int)).toNat)) else y93.set.a2), u64v (if ((z99).toNat : Int) = 3 then z100 ||| (shl64 (1 : UInt64) ((toU64 ((z101).toNat : Int)).toNat)) else y93.set.a3), .bool (y93.plain), u8v y93.c] from (ar_set (pre := [iv y93.kind]) (post := [.bool (y93.plain), u8v y93.c]) (L := ([y93.set.a0, y93.set.a1, y93.set.a2, y93.set.a3] : List UInt64)) (fun x : UInt64 => u64v x) rfl rfl kl100).trans (congrArg (fun l => ([iv y93.kind] : List Value) ++ (List.map (fun x : UInt64 => u64v x) l ++ ([.bool (y93.plain), u8v y93.c] : List Value))) (set4 ke100 kl100)))
            replace hm105 := hm105.nf [_, _, _, boxR _ _ [_, _, _, _, _, _, _]] rfl
            refine ⟨trivial, ?_⟩
            refine RH.doneP (by kernel_rfl) ?_
            refine Rn.end0 Tryd.func67 rfl ?_
            exact ⟨({ kind := y93.kind, set := ({ a0 := (if ((z99).toNat : Int) = 0 then z100 ||| (shl64 (1 : UInt64) ((toU64 ((z101).toNat : Int)).toNat)) else y93.set.a0), a1 := (if ((z99).toNat : Int) = 1 then z100 ||| (shl64 (1 : UInt64) ((toU64 ((z101).toNat : Int)).toNat)) else y93.set.a1), a2 := (if ((z99).toNat : Int) = 2 then z100 ||| (shl64 (1 : UInt64) ((toU64 ((z101).toNat : Int)).toNat)) else y93.set.a2), a3 := (if ((z99).toNat : Int) = 3 then z100 ||| (shl64 (1 : UInt64) ((toU64 ((z101).toNat : Int)).toNat)) else y93.set.a3) } : T_glob_set), plain := y93.plain, c := y93.c } : T_glob_piece), rfl, hm105.pick [0, 1, 2, 3] rfl (by decide), hM⟩
           refine Rn.cl ck67 rfl rfl rfl rfl hk12 ?_
           clear hM hk12
           subst hj12
           rintro _ w97 ⟨y96, rfl, hm97, hM⟩
           try dsimp only at hM hm97
           refine ⟨_, rfl, ?_⟩
           refine gg 7 rfl ?_
           exact hn94 ((W64 (y92 + 1)), y96) _ _ (sb ⟨rfl, rfl, rfl, trivial⟩) (hm97.pick [0, 1, 2, 3] rfl (by decide)) hM
          ·refine gg 1 rfl ?_
           exact hk11 y93 _ _ (sb trivial) (hm94.pick [0, 1, 2, 3] rfl (by decide)) hM
         refine Rn.cl ck52 rfl rfl rfl rfl hk10 ?_
         clear hM hk10
         subst hj10
         rintro _ w89 ⟨y88, rfl, hm89, hM⟩
         try dsimp only at hM hm89
         refine ⟨_, rfl, ?_⟩
         refine gg 8 rfl ?_
         exact hn57 ((W64 (y55 + y85)), y88) _ _ (sb ⟨rfl, rfl, rfl, rfl, rfl, rfl, rfl, rfl, trivial⟩) (hm89.pick [0, 1, 2, 3] rfl (by decide)) hM
        intro hk9
        clear hj9
        refine askS hM (Rn.condS rfl) (fun h106 hM => ?_) (fun h106 hM => ?_)
        ·refine gg 5 rfl ?_
         obtain ⟨p107, e107, hM⟩ := bindE hM
         refine Rn.cl ck69 rfl rfl rfl rfl (m_glob_member_sim (Z0 := All) e107  :) ?_
         rintro _ w107 ⟨rfl, hq107⟩
         refine ⟨_, rfl, ?_⟩
         have hm108 := hm84.call0 hq107
         refine gg 11 rfl (Rn.q rfl (V.lss rfl rfl) (gg 1 rfl ?_))
         refine askD hM (Rn.condD rfl) (fun h109 hM => ?_) (fun h109 hM => ?_)
         ·refine gg 2 rfl (Rn.q rfl (V.ldBA [_, _, _, _, _, _, _] Tryd.isAgg87 Tryd.sizeOf87 rfl (hm108.get 3 rfl) rfl rfl) (gg 1 rfl (Rn.q rfl (V.bldS (cs := [_, _]) st89 rfl rfl) (Rn.st rfl rfl Tryd.sizeOf87 rfl rfl rfl rfl (by first | exact ones rfl | (simp [Value.oneCell']; done)) (hm108.get 1 rfl) (by first | exact Nat.le_of_ble_eq_true rfl | (simp; done)) ?_))))
          intro w110 m110 x110
          have hm111 := (hm108.st 1 rfl x110 m110).nf [_, boxR _ _ [_, _, _, _, _, _, _], _, _] rfl
          refine gg 1 rfl (Rn.st rfl rfl Tryd.sizeOf89 rfl rfl rfl rfl (by first | exact ones rfl | (simp [Value.oneCell']; done)) (hm111.get 2 rfl) (by first | exact Nat.le_of_ble_eq_true rfl | (simp; done)) ?_)
          intro w112 m112 x112
          have hm113 := (hm111.st 2 rfl x112 m112).nf [_, _, boxR _ _ [_, _], _] rfl
          refine gg 1 rfl ?_
          refine Rn.retG3 Tryd.func53 rfl (rvC rfl Tryd.isAgg87 Tryd.sizeOf87 (hm113.get 1 rfl) rfl) (rvT rfl) (rvC rfl Tryd.isAgg89 Tryd.sizeOf89 (hm113.get 2 rfl) rfl) ?_
          obtain rfl := someE hM
          exact ⟨rfl, hm113.pick [] rfl (by decide)⟩
         ·refine gg 10 rfl ?_
          exact hk9 ((W64 ((W64 (p78.2 + 1)) + p107.2)), p107.1) _ _ (sb ⟨rfl, rfl, rfl, rfl, rfl, rfl, rfl, rfl, rfl, rfl, rfl, trivial⟩) (hm108.pick [0, 1, 2, 3] rfl (by decide)) hM
        ·refine gg 1 rfl ?_
         exact hk9 (p78.2, p78.1) _ _ (sb ⟨rfl, rfl, rfl, rfl, rfl, rfl, rfl, rfl, rfl, rfl, rfl, trivial⟩) (hm84.pick [0, 1, 2, 3] rfl (by decide)) hM
       intro hk8
       clear hj8
       refine askS hM (Rn.part (t := 82) rfl) (fun h114 hM => ?_) (fun h114 hM => ?_)
       ·refine gg 3 rfl ?_
        obtain ⟨z115, e115, hM⟩ := bindE hM
        refine Rn.q rfl (V.idxSZ Tryd.underlying9 rfl rfl e115) (Rn.q rfl (V.neq rfl rfl) (gg 1 rfl ?_))
        exact hk8 (decide (((z115).toNat : Int) ≠ 45)) _ _ (sb ⟨rfl, rfl, rfl, rfl, rfl, rfl, rfl, rfl, rfl, rfl, rfl, rfl, rfl, trivial⟩) (hm82.pick [0, 1, 2, 3] rfl (by decide)) hM
       ·refine gg 6 rfl ?_
        exact hk8 false _ _ (sb ⟨rfl, rfl, rfl, rfl, rfl, rfl, rfl, rfl, rfl, rfl, rfl, rfl, rfl, trivial⟩) (hm82.pick [0, 1, 2, 3] rfl (by decide)) hM
      intro hk7
      clear hj7
      refine askD hM (Rn.partD (t := 75) rfl) (fun h116 hM => ?_) (fun h116 hM => ?_)
      ·refine gg 3 rfl ?_
       obtain ⟨z117, e117, hM⟩ := bindE hM
       refine Rn.q rfl (V.idxSZ Tryd.underlying9 rfl rfl e117) (Rn.q rfl (V.neq rfl rfl) (gg 1 rfl ?_))
       exact hk7 (decide (((z117).toNat : Int) ≠ 93)) _ _ (sb ⟨rfl, rfl, rfl, rfl, rfl, rfl, rfl, rfl, rfl, rfl, rfl, rfl, rfl, trivial⟩) (hm79.pick [0, 1, 2, 3] rfl (by decide)) hM
      ·refine gg 6 rfl ?_
       exact hk7 false _ _ (sb ⟨rfl, rfl, rfl, rfl, rfl, rfl, rfl, rfl, rfl, rfl, rfl, rfl, rfl, trivial⟩) (hm79.pick [0, 1, 2, 3] rfl (by decide)) hM
    ·refine gg 1 rfl ?_
     exact hk3 (y55, y56) _ _ (sb ⟨rfl, rfl, rfl, rfl, rfl, rfl, rfl, trivial⟩) (hm57.pick [0, 1, 2, 3] rfl (by decide)) hM
  intro hk2
  clear hj2
  refine askS hM (Rn.condS rfl) (fun h118 hM => ?_) (fun h118 hM => ?_)
  ·refine gg 5 rfl ?_
   exact hk2 (W64 ((W64 (x1 + 1)) + 1)) _ _ (sb ⟨rfl, rfl, rfl, rfl, rfl, rfl, rfl, trivial⟩) (hm13.pick [0, 1, 2, 3] rfl (by decide)) hM
  ·refine gg 1 rfl ?_
   exact hk2 (W64 (x1 + 1)) _ _ (sb ⟨rfl, rfl, rfl, rfl, rfl, rfl, rfl, trivial⟩) (hm13.pick [0, 1, 2, 3] rfl (by decide)) hM
 intro hk1
 clear hj1
 refine askD hM (Rn.partD (t := 24) rfl) (fun h119 hM => ?_) (fun h119 hM => ?_)
 ·refine gg 2 rfl ?_
  obtain ⟨z120, e120, hM⟩ := bindE hM
  refine Rn.q rfl (V.idxSZ Tryd.underlying9 rfl rfl e120) (Rn.q rfl (V.eql rfl rfl) (gg 1 rfl ?_))
  exact hk1 (decide (((z120).toNat : Int) = 33)) _ _ (sb ⟨rfl, rfl, rfl, rfl, rfl, rfl, rfl, trivial⟩) (hm11.pick [0, 1, 2, 3] rfl (by decide)) hM
 ·refine gg 5 rfl ?_
  exact hk1 false _ _ (sb ⟨rfl, rfl, rfl, rfl, rfl, rfl, rfl, trivial⟩) (hm11.pick [0, 1, 2, 3] rfl (by decide)) hM

theorem m_glob_byteOf_sim {Z0 : Nat → Prop} {w : World} {x0 : UInt8} {r : T_glob_piece} (hM : m_glob_byteOf x0 = some r)  :
    Calls Tryd.prog 54 #[u8v x0] w fun x w' => x = .returned (.agg [iv r.kind, u64v r.set.a0, u64v r.set.a1, u64v r.set.a2, u64v r.set.a3, .bool (r.plain), u8v r.c].toArray) ∧ Hp Z0 No w w' [] := by
 have hm0 := Hp.nil Z0 No w
 have hc0 := Calm.nil
 refine Rn.enter Tryd.func54 rfl rfl (Nat.le_of_ble_eq_true rfl) ?_
 refine gg 2 rfl (Rn.alloc rfl rfl rfl Tryd.zeroValue87 rfl ?_)
 intro b1 w1 hb1 m1 e1
 have hm3 := (hm0.addBox hb1 e1 m1).nf [boxR _ _ [_, _, _, _, _, _, _]] rfl
 refine gg 4 rfl (Rn.q rfl (V.bldS (cs := [_, _, _, _, _, _, _]) st87 rfl rfl) (Rn.als rfl rfl rfl Tryd.zeroValue87 rfl Tryd.sizeOf87 rfl rfl rfl rfl (by first | exact ones rfl | (simp [Value.oneCell']; done)) ?_))
 intro b4 w4 hb4 m4 e4
 have hm6 := (hm3.addBox hb4 e4 m4).nf [_, boxR _ _ [_, _, _, _, _, _, _]] rfl
 refine gg 5 rfl ?_
 obtain ⟨j1, hj1, hM⟩ := jnE hM
 have hk1 : Calls Tryd.prog 67 #[pt b4 1, u8v x0] w4 (fun x w' => ∃ g : T_glob_piece, x = .returned (.tuple #[]) ∧ (Hp Z0 No w w' [boxR b1 87 [iv 0, u64v (0 : UInt64), u64v (0 : UInt64), u64v (0 : UInt64), u64v (0 : UInt64), .bool false, u8v (0 : UInt8)], boxR b4 87 [iv g.kind, u64v g.set.a0, u64v g.set.a1, u64v g.set.a2, u64v g.set.a3, .bool (g.plain), u8v g.c]]) ∧ j1 g = some r) := by
  refine Rn.enter Tryd.func67 rfl rfl (Nat.le_of_ble_eq_true rfl) ?_
  refine Rn.drawT 13 rfl hm6 (by kernel_rfl) ?_
  intro w9 hm9
  refine RT.v 0 (by kernel_rfl) rfl rfl rfl rfl (V.mv rfl) ?_
  refine RT.v 1 (by kernel_rfl) rfl rfl rfl rfl (V.mv rfl) ?_
  obtain ⟨z10, e10, hM⟩ := bindE hM
  refine RT.v 2 (by kernel_rfl) rfl rfl rfl rfl (V.quo8 rfl rfl e10) ?_
  refine RT.v 3 (by kernel_rfl) rfl rfl rfl rfl (V.nil rfl) ?_
  obtain ⟨z11, e11, hM⟩ := bindE hM
  obtain ⟨kk11, ke11, kz11, kl11⟩ := idxE e11
  refine RT.v 4 (by kernel_rfl) rfl rfl rfl rfl (V.ixR kk11 Tryd.underlying85 Tryd.sizeOf53 rfl rfl ke11 (Nat.lt_of_lt_of_eq kl11 rfl)) ?_
  refine RT.v 5 (by kernel_rfl) rfl rfl rfl rfl (V.ldR0 Tryd.isAgg53 rfl (ar_rd0 (fun x : UInt64 => u64v x) (show Rd _ b4 1 (([(0 : UInt64), (0 : UInt64), (0 : UInt64), (0 : UInt64)] : List UInt64).map (fun x : UInt64 => u64v x)) from (blkRd (hm9.get 1 rfl) 1 4)) kz11) rfl) ?_
  refine RT.v 6 (by kernel_rfl) rfl rfl rfl rfl (V.mv rfl) ?_
  obtain ⟨z12, e12, hM⟩ := bindE hM
  refine RT.v 7 (by kernel_rfl) rfl rfl rfl rfl (V.rem8 rfl rfl e12) ?_
  refine RT.v 8 (by kernel_rfl) rfl rfl rfl rfl (V.cv64 Tryd.underlying5 Tryd.underlying99 rfl) ?_
  refine RT.v 9 (by kernel_rfl) rfl rfl rfl rfl (V.shl64 (a := (1 : UInt64)) (m := (toU64 ((z12).toNat : Int)).toNat) rfl rfl) ?_
  refine RT.v 10 (by kernel_rfl) rfl rfl rfl rfl (V.o64 rfl rfl z11 (shl64 (1 : UInt64) ((toU64 ((z12).toNat : Int)).toNat)) rfl rfl (b64_or _ _ _)) ?_
  refine RT.v 11 (by kernel_rfl) rfl rfl rfl rfl (V.nil rfl) ?_
  refine RT.v 12 (by kernel_rfl) rfl rfl rfl rfl (V.ixR kk11 Tryd.underlying85 Tryd.sizeOf53 rfl rfl ke11 (Nat.lt_of_lt_of_eq kl11 rfl)) ?_
  refine RT.tail ?_
  refine RH.st 13 (by kernel_rfl) rfl rfl Tryd.sizeOf53 rfl rfl rfl rfl (by first | exact ones rfl | (simp [Value.oneCell']; done)) (hm9.get 1 rfl) (by have hh := kl11; simp at hh ⊢; omega) ?_
  intro w15 m15 x15
  have hm16 := (hm9.st 1 rfl x15 m15).reBox 1 rfl (show setL [iv 0, u64v (0 : UInt64), u64v (0 : UInt64), u64v (0 : UInt64), u64v (0 : UInt64), .bool true, u8v x0] (1 + kk11 * 1) [u64v (z11 ||| (shl64 (1 : UInt64) ((toU64 ((z12).toNat : Int)).toNat)))] = [iv 0, u64v (if ((z10).toNat : Int) = 0 then z11 ||| (shl64 (1 : UInt64) ((toU64 ((z12).toNat : Int)).toNat)) else (0 : UInt64)), u64v (if ((z10).toNat : Int) = 1 then z11 ||| (shl64 (1 : UInt64) ((toU64 ((z12).toNat : Int)).toNat)) else (0 : UInt64)), u64v (if ((z10).toNat : Int) = 2 then z11 ||| (shl64 (1 : UInt64) ((toU64 ((z12).toNat : Int)).toNat)) else (0 : UInt64)), u64v (if ((z10).toNat : Int) = 3 then z11 ||| (shl64 (1 : UInt64) ((toU64 ((z12).toNat : Int)).toNat)) else (0 : UInt64)), .bool true, u8v x0] from (ar_set (pre := [iv 0]) (post := [.bool true, u8v x0]) (L := ([(0 : UInt64), (0 : UInt64), (0 : UInt64), (0 : UInt64)] : List UInt64)) (fun x : UInt64 => u64v x) rfl rfl kl11).trans (congrArg (fun l => ([iv 0] : List Value) ++ (List.map (fun x : UInt64 => u64v x) l ++ ([.bool true, u8v x0] : List Value))) (set4 ke11 kl11)))
  replace hm16 := hm16.nf [_, boxR _ _ [_, _, _, _, _, _, _]] rfl
  refine ⟨trivial, ?_⟩
  refine RH.doneP (by kernel_rfl) ?_
  refine Rn.end0 Tryd.func67 rfl ?_
  exact ⟨({ kind := 0, set := ({ a0 := (if ((z10).toNat : Int) = 0 then z11 ||| (shl64 (1 : UInt64) ((toU64 ((z12).toNat : Int)).toNat)) else (0 : UInt64)), a1 := (if ((z10).toNat : Int) = 1 then z11 ||| (shl64 (1 : UInt64) ((toU64 ((z12).toNat : Int)).toNat)) else (0 : UInt64)), a2 := (if ((z10).toNat : Int) = 2 then z11 ||| (shl64 (1 : UInt64) ((toU64 ((z12).toNat : Int)).toNat)) else (0 : UInt64)), a3 := (if ((z10).toNat : Int) = 3 then z11 ||| (shl64 (1 : UInt64) ((toU64 ((z12).toNat : Int)).toNat)) else (0 : UInt64)) } : T_glob_set), plain := true, c := x0 } : T_glob_piece), rfl, hm16.pick [0, 1] rfl (by decide), hM⟩
 refine Rn.cl ck67 rfl rfl rfl rfl hk1 ?_
 clear hM hk1
 subst hj1
 rintro _ w8 ⟨y7, rfl, hm8, hM⟩
 try dsimp only at hM hm8
 refine ⟨_, rfl, ?_⟩
 refine gg 3 rfl (Rn.q rfl (V.ldBA [_, _, _, _, _, _, _] Tryd.isAgg87 Tryd.sizeOf87 rfl (hm8.get 1 rfl) rfl rfl) (Rn.st rfl rfl Tryd.sizeOf87 rfl rfl rfl rfl (by first | exact ones rfl | (simp [Value.oneCell']; done)) (hm8.get 0 rfl) (by first | exact Nat.le_of_ble_eq_true rfl | (simp; done)) ?_))
 intro w17 m17 x17
 have hm18 := (hm8.st 0 rfl x17 m17).nf [boxR _ _ [_, _, _, _, _, _, _], _] rfl
 refine gg 1 rfl ?_
 refine Rn.retG1 Tryd.func54 rfl (rvC rfl Tryd.isAgg87 Tryd.sizeOf87 (hm18.get 0 rfl) rfl) ?_
 obtain rfl := someE hM
 exact ⟨rfl, hm18.pick [] rfl (by decide)⟩

theorem m_glob_next_sim {Z0 : Nat → Prop} {w : World} {x0 : (List UInt8)} {x1 : Int} {r : (T_glob_piece × Int × T_glob_fault)} (hM : m_glob_next x0 x1 = some r) (f0 : (rdR 0 0 gl0).H Z0 w) :
    Calls Tryd.prog 33 #[Str (x0), iv x1] w fun x w' => x = .returned (.tuple #[.agg [iv r.1.kind, u64v r.1.set.a0, u64v r.1.set.a1, u64v r.1.set.a2, u64v r.1.set.a3, .bool (r.1.plain), u8v r.1.c].toArray, iv r.2.1, .agg [iv r.2.2.at_, iv r.2.2.e].toArray]) ∧ Hp Z0 No w w' [] := by
 have hm0 := Hp.nil Z0 No w
 have hc0 := Calm.nil
 have hm2 := hm0.know (rdR 0 0 gl0) (fun _ h => h) (hm0.in0 hc0 f0)
 replace hc0 := hc0.snoc (r := rdR 0 0 gl0) (fun _ h => h)
 refine Rn.enter Tryd.func33 rfl rfl (Nat.le_of_ble_eq_true rfl) ?_
 refine gg 2 rfl (Rn.alloc rfl rfl rfl Tryd.zeroValue87 rfl ?_)
 intro b3 w3 hb3 m3 e3
 have hm5 := (hm2.addBox hb3 e3 m3).nf [_, boxR _ _ [_, _, _, _, _, _, _]] rfl
 refine gg 1 rfl (Rn.alloc rfl rfl rfl Tryd.zeroValue89 rfl ?_)
 intro b6 w6 hb6 m6 e6
 have hm8 := (hm5.addBox hb6 e6 m6).nf [_, _, boxR _ _ [_, _]] rfl
 refine gg 6 rfl ?_
 obtain ⟨z9, e9, hM⟩ := bindE hM
 refine Rn.q rfl (V.idxSZ Tryd.underlying9 rfl rfl e9) (gg 4 rfl (Rn.q rfl (V.eql rfl rfl) (gg 2 rfl ?_)))
 refine askD hM (Rn.condD rfl) (fun h10 hM => ?_) (fun h10 hM => ?_)
 ·refine gg 1 rfl ?_
  have hm13 := (hm8.cutF [] [1, 2] [0] rfl (by decide) ⟨fun _ h => h, trivial⟩).nf ([_] ++ [_, _, _]) rfl
  refine Rn.drawF rfl hm13 ?_
  intro w14 hmo14 hm14
  refine RH.take 0 (by kernel_rfl) rfl rfl rfl rfl (fun w' hDr => V.bldS (cs := [_, _, _, _, _, _, _]) st87 rfl rfl) ?_
  refine RH.take 1 (by kernel_rfl) rfl rfl rfl rfl (fun w' hDr => V.ldA (vs := [iv 0, iv 0]) Tryd.isAgg89 Tryd.sizeOf89 rfl ((hmo14.awayK hDr).get 0 rfl).2 rfl) ?_
  refine RH.st 2 (by kernel_rfl) rfl rfl Tryd.sizeOf87 rfl rfl rfl rfl (by first | exact ones rfl | (simp [Value.oneCell']; done)) (hm14.get 0 rfl) (by first | exact Nat.le_of_ble_eq_true rfl | (simp; done)) ?_
  intro w15 m15 x15
  have hm16 := (hm14.st 0 rfl x15 m15).nf [boxR _ _ [_, _, _, _, _, _, _], _, _] rfl
  refine ⟨hm16.fr, ?_⟩
  refine dd [3] (by kernel_rfl) rfl rfl ?_
  refine RH.st 4 (by kernel_rfl) rfl rfl Tryd.sizeOf89 rfl rfl rfl rfl (by first | exact ones rfl | (simp [Value.oneCell']; done)) (hm16.get 1 rfl) (by first | exact Nat.le_of_ble_eq_true rfl | (simp; done)) ?_
  intro w17 m17 x17
  have hm18 := (hm16.st 1 rfl x17 m17).nf [_, boxR _ _ [_, _], _] rfl
  refine ⟨hm18.fr, ?_⟩
  refine RH.doneP (by kernel_rfl) ?_
  have hm19 := hmo14.callAZ hm18
  have hm20 := (hm19.pick [1, 2, 3] rfl (by decide)).nf [_, _, _] rfl
  refine Rn.retG3 Tryd.func33 rfl (rvC rfl Tryd.isAgg87 Tryd.sizeOf87 (hm20.get 0 rfl) rfl) (rvT rfl) (rvC rfl Tryd.isAgg89 Tryd.sizeOf89 (hm20.get 1 rfl) rfl) ?_
  obtain rfl := someE hM
  exact ⟨rfl, hm20.pick [] rfl (by decide)⟩
 ·refine gg 2 rfl (Rn.q rfl (V.eql rfl rfl) (gg 2 rfl ?_))
  refine askD hM (Rn.condD rfl) (fun h21 hM => ?_) (fun h21 hM => ?_)
  ·refine gg 2 rfl (Rn.alloc rfl rfl rfl Tryd.zeroValue87 rfl ?_)
   intro b22 w22 hb22 m22 e22
   have hm24 := (hm8.addBox hb22 e22 m22).nf [_, _, _, boxR _ _ [_, _, _, _, _, _, _]] rfl
   refine gg 4 rfl ?_
   obtain ⟨j1, hj1, hM⟩ := jnE hM
   have hk1 : Calls Tryd.prog 52 #[pt b22 1, u8v (0 : UInt8), u8v (255 : UInt8)] w22 (fun x w' => ∃ g : T_glob_piece, x = .returned (.tuple #[]) ∧ (Hp Z0 No w w' [rdR 0 0 gl0, boxR b3 87 [iv 0, u64v (0 : UInt64), u64v (0 : UInt64), u64v (0 : UInt64), u64v (0 : UInt64), .bool false, u8v (0 : UInt8)], boxR b6 89 [iv 0, iv 0], boxR b22 87 [iv g.kind, u64v g.set.a0, u64v g.set.a1, u64v g.set.a2, u64v g.set.a3, .bool (g.plain), u8v g.c]]) ∧ j1 g = some r) := by
    refine Rn.enter Tryd.func52 rfl rfl (Nat.le_of_ble_eq_true rfl) ?_
    refine gg 3 rfl (Rn.q rfl (V.cv8i (a := (0 : UInt8)) Tryd.underlying5 Tryd.underlying3 rfl) (gg 2 rfl ?_))
    obtain ⟨j2, hj2, hM⟩ := jnE hM
    refine Rn.joinG (r := r) (G := T_glob_piece) (fun g => []) (fun g w' => Hp Z0 No w w' [rdR 0 0 gl0, boxR b3 87 [iv 0, u64v (0 : UInt64), u64v (0 : UInt64), u64v (0 : UInt64), u64v (0 : UInt64), .bool false, u8v (0 : UInt8)], boxR b6 89 [iv 0, iv 0], boxR b22 87 [iv g.kind, u64v g.set.a0, u64v g.set.a1, u64v g.set.a2, u64v g.set.a3, .bool (g.plain), u8v g.c]]) (fun g => j2 g) ?_ ?_
    ·subst hj2
     clear hM
     rintro y27 w28 hm28 hM
     try dsimp only at hM
     refine Rn.end0 Tryd.func52 rfl ?_
     exact ⟨y27, rfl, hm28.pick [0, 1, 2, 3] rfl (by decide), hM⟩
    intro hk2
    clear hj2
    refine gg 1 rfl ?_
    refine Rn.loopF (G := Int × T_glob_piece) (fun g => [(0, pt b22 1), (2, u8v (255 : UInt8)), (6, iv (g.1))]) (fun g w' => Hp Z0 No w w' [rdR 0 0 gl0, boxR b3 87 [iv 0, u64v (0 : UInt64), u64v (0 : UInt64), u64v (0 : UInt64), u64v (0 : UInt64), .bool false, u8v (0 : UInt8)], boxR b6 89 [iv 0, iv 0], boxR b22 87 [iv (g.2).kind, u64v (g.2).set.a0, u64v (g.2).set.a1, u64v (g.2).set.a2, u64v (g.2).set.a3, .bool ((g.2).plain), u8v (g.2).c]]) (fun n g => m_glob_next_L1 j2 n g.1 g.2) fuel (((0 : UInt8).toNat : Int), ({ kind := 0, set := ({ a0 := (0 : UInt64), a1 := (0 : UInt64), a2 := (0 : UInt64), a3 := (0 : UInt64) } : T_glob_set), plain := false, c := (0 : UInt8) } : T_glob_piece)) (sb ⟨rfl, rfl, rfl, trivial⟩) (hm24.pick [0, 1, 2, 3] rfl (by decide)) hM (fun _ => rfl) ?_
    clear hM
    rintro m31 ⟨y29, y30⟩ w31 hm31 hM hn31
    replace hM : m_glob_next_L1 j2 (m31 + 1) y29 y30 = some r := hM
    rw [m_glob_next_L1] at hM
    refine gg 5 rfl (Rn.q rfl (V.cv8i (a := (255 : UInt8)) Tryd.underlying5 Tryd.underlying3 rfl) (gg 2 rfl ?_))
    refine askD hM (Rn.condD rfl) (fun h32 hM => ?_) (fun h32 hM => ?_)
    ·refine gg 6 rfl (Rn.q rfl (V.cv8 Tryd.underlying3 Tryd.underlying5 rfl) ?_)
     obtain ⟨j3, hj3, hM⟩ := jnE hM
     have hk3 : Calls Tryd.prog 67 #[pt b22 1, u8v (toU8 y29)] w31 (fun x w' => ∃ g : T_glob_piece, x = .returned (.tuple #[]) ∧ (Hp Z0 No w w' [rdR 0 0 gl0, boxR b3 87 [iv 0, u64v (0 : UInt64), u64v (0 : UInt64), u64v (0 : UInt64), u64v (0 : UInt64), .bool false, u8v (0 : UInt8)], boxR b6 89 [iv 0, iv 0], boxR b22 87 [iv g.kind, u64v g.set.a0, u64v g.set.a1, u64v g.set.a2, u64v g.set.a3, .bool (g.plain), u8v g.c]]) ∧ j3 g = some r) := by
      refine Rn.enter Tryd.func67 rfl rfl (Nat.le_of_ble_eq_true rfl) ?_
      refine Rn.drawT 13 rfl hm31 (by kernel_rfl) ?_
      intro w35 hm35
      refine RT.v 0 (by kernel_rfl) rfl rfl rfl rfl (V.mv rfl) ?_
      refine RT.v 1 (by kernel_rfl) rfl rfl rfl rfl (V.mv rfl) ?_
      obtain ⟨z36, e36, hM⟩ := bindE hM
      refine RT.v 2 (by kernel_rfl) rfl rfl rfl rfl (V.quo8 rfl rfl e36) ?_
      refine RT.v 3 (by kernel_rfl) rfl rfl rfl rfl (V.nil rfl) ?_
      obtain ⟨z37, e37, hM⟩ := bindE hM
      obtain ⟨kk37, ke37, kz37, kl37⟩ := idxE e37
      refine RT.v 4 (by kernel_rfl) rfl rfl rfl rfl (V.ixR kk37 Tryd.underlying85 Tryd.sizeOf53 rfl rfl ke37 (Nat.lt_of_lt_of_eq kl37 rfl)) ?_
      refine RT.v 5 (by kernel_rfl) rfl rfl rfl rfl (V.ldR0 Tryd.isAgg53 rfl (ar_rd0 (fun x : UInt64 => u64v x) (show Rd _ b22 1 (([y30.set.a0, y30.set.a1, y30.set.a2, y30.set.a3] : List UInt64).map (fun x : UInt64 => u64v x)) from (blkRd (hm35.get 3 rfl) 1 4)) kz37) rfl) ?_
      refine RT.v 6 (by kernel_rfl) rfl rfl rfl rfl (V.mv rfl) ?_
      obtain ⟨z38, e38, hM⟩ := bindE hM
      refine RT.v 7 (by kernel_rfl) rfl rfl rfl rfl (V.rem8 rfl rfl e38) ?_
      refine RT.v 8 (by kernel_rfl) rfl rfl rfl rfl (V.cv64 Tryd.underlying5 Tryd.underlying99 rfl) ?_
      refine RT.v 9 (by kernel_rfl) rfl rfl rfl rfl (V.shl64 (a := (1 : UInt64)) (m := (toU64 ((z38).toNat : Int)).toNat) rfl rfl) ?_
      refine RT.v 10 (by kernel_rfl) rfl rfl rfl rfl (V.o64 rfl rfl z37 (shl64 (1 : UInt64) ((toU64 ((z38).toNat : Int)).toNat)) rfl rfl (b64_or _ _ _)) ?_
      refine RT.v 11 (by kernel_rfl) rfl rfl rfl rfl (V.nil rfl) ?_
      refine RT.v 12 (by kernel_rfl) rfl rfl rfl rfl (V.ixR kk37 Tryd.underlying85 Tryd.sizeOf53 rfl rfl ke37 (Nat.lt_of_lt_of_eq kl37 rfl)) ?_
      refine RT.tail ?_
      refine RH.st 13 (by kernel_rfl) rfl rfl Tryd.sizeOf53 rfl rfl rfl rfl (by first | exact ones rfl | (simp [Value.oneCell']; done)) (hm35.get 3 rfl) (by have hh := kl37; simp at hh ⊢; omega) ?_
      intro w41 m41 x41
      have hm42 := (hm35.st 3 rfl x41 m41).reBox 3 rfl (show setL [iv y30.kind, u64v y30.set.a0, u64v y30.set.a1, u64v y30.set.a2, u64v y30.set.a3, .bool (y30.plain), u8v y30.c] (1 + kk37 * 1) [u64v (z37 ||| (shl64 (1 : UInt64) ((toU64 ((z38).toNat : Int)).toNat)))] = [iv y30.kind, u64v (if ((z36).toNat : Int) = 0 then z37 ||| (shl64 (1 : UInt64) ((toU64 ((z38).toNat : Int)).toNat)) else y30.set.a0), u64v (if ((z36).toNat : Int) = 1 then z37 ||| (shl64 (1 : UInt64) ((toU64 ((z38).toNat : Int)).toNat)) else y30.set.a1), u64v (if ((z36).toNat : Int) = 2 then z37 ||| (shl64 (1 : UInt64) ((toU64 ((z38).toNat : Int)).toNat)) else y30.set.a2), u64v (if ((z36).toNat : Int) = 3 then z37 ||| (shl64 (1 : UInt64) ((toU64 ((z38).toNat : Int)).toNat)) else y30.set.a3), .bool (y30.plain), u8v y30.c] from (ar_set (pre := [iv y30.kind]) (post := [.bool (y30.plain), u8v y30.c]) (L := ([y30.set.a0, y30.set.a1, y30.set.a2, y30.set.a3] : List UInt64)) (fun x : UInt64 => u64v x) rfl rfl kl37).trans (congrArg (fun l => ([iv y30.kind] : List Value) ++ (List.map (fun x : UInt64 => u64v x) l ++ ([.bool (y30.plain), u8v y30.c] : List Value))) (set4 ke37 kl37)))
      replace hm42 := hm42.nf [_, _, _, boxR _ _ [_, _, _, _, _, _, _]] rfl
      refine ⟨trivial, ?_⟩
      refine RH.doneP (by kernel_rfl) ?_
      refine Rn.end0 Tryd.func67 rfl ?_
      exact ⟨({ kind := y30.kind, set := ({ a0 := (if ((z36).toNat : Int) = 0 then z37 ||| (shl64 (1 : UInt64) ((toU64 ((z38).toNat : Int)).toNat)) else y30.set.a0), a1 := (if ((z36).toNat : Int) = 1 then z37 ||| (shl64 (1 : UInt64) ((toU64 ((z38).toNat : Int)).toNat)) else y30.set.a1), a2 := (if ((z36).toNat : Int) = 2 then z37 ||| (shl64 (1 : UInt64) ((toU64 ((z38).toNat : Int)).toNat)) else y30.set.a2), a3 := (if ((z36).toNat : Int) = 3 then z37 ||| (shl64 (1 : UInt64) ((toU64 ((z38).toNat : Int)).toNat)) else y30.set.a3) } : T_glob_set), plain := y30.plain, c := y30.c } : T_glob_piece), rfl, hm42.pick [0, 1, 2, 3] rfl (by decide), hM⟩
     refine Rn.cl ck67 rfl rfl rfl rfl hk3 ?_
     clear hM hk3
     subst hj3
     rintro _ w34 ⟨y33, rfl, hm34, hM⟩
     try dsimp only at hM hm34
     refine ⟨_, rfl, ?_⟩
     refine gg 7 rfl ?_
     exact hn31 ((W64 (y29 + 1)), y33) _ _ (sb ⟨rfl, rfl, rfl, trivial⟩) (hm34.pick [0, 1, 2, 3] rfl (by decide)) hM
    ·refine gg 1 rfl ?_
     exact hk2 y30 _ _ (sb trivial) (hm31.pick [0, 1, 2, 3] rfl (by decide)) hM
   refine Rn.cl ck52 rfl rfl rfl rfl hk1 ?_
   clear hM hk1
   subst hj1
   rintro _ w26 ⟨y25, rfl, hm26, hM⟩
   try dsimp only at hM hm26
   refine ⟨_, rfl, ?_⟩
   refine gg 2 rfl ?_
   have hm45 := (hm26.cutF [3] [1, 2] [0] rfl (by decide) ⟨fun _ h => h, trivial⟩).nf ([_, _] ++ [_, _, _]) rfl
   refine Rn.drawF rfl hm45 ?_
   intro w46 hmo46 hm46
   refine RH.take 0 (by kernel_rfl) rfl rfl rfl rfl (fun w' hDr => V.ldBA [_, _, _, _, _, _, _] Tryd.isAgg87 Tryd.sizeOf87 rfl ((hmo46.awayK hDr).get 0 rfl) rfl rfl) ?_
   refine RH.take 1 (by kernel_rfl) rfl rfl rfl rfl (fun w' hDr => V.ldA (vs := [iv 0, iv 0]) Tryd.isAgg89 Tryd.sizeOf89 rfl ((hmo46.awayK hDr).get 1 rfl).2 rfl) ?_
   refine RH.st 2 (by kernel_rfl) rfl rfl Tryd.sizeOf87 rfl rfl rfl rfl (by first | exact ones rfl | (simp [Value.oneCell']; done)) (hm46.get 0 rfl) (by first | exact Nat.le_of_ble_eq_true rfl | (simp; done)) ?_
   intro w47 m47 x47
   have hm48 := (hm46.st 0 rfl x47 m47).nf [boxR _ _ [_, _, _, _, _, _, _], _, _] rfl
   refine ⟨hm48.fr, ?_⟩
   refine dd [3] (by kernel_rfl) rfl rfl ?_
   refine RH.st 4 (by kernel_rfl) rfl rfl Tryd.sizeOf89 rfl rfl rfl rfl (by first | exact ones rfl | (simp [Value.oneCell']; done)) (hm48.get 1 rfl) (by first | exact Nat.le_of_ble_eq_true rfl | (simp; done)) ?_
   intro w49 m49 x49
   have hm50 := (hm48.st 1 rfl x49 m49).nf [_, boxR _ _ [_, _], _] rfl
   refine ⟨hm50.fr, ?_⟩
   refine RH.doneP (by kernel_rfl) ?_
   have hm51 := hmo46.callAZ hm50
   have hm52 := (hm51.pick [0, 2, 3, 4] rfl (by decide)).nf [_, _, _, _] rfl
   refine Rn.retG3 Tryd.func33 rfl (rvC rfl Tryd.isAgg87 Tryd.sizeOf87 (hm52.get 1 rfl) rfl) (rvT rfl) (rvC rfl Tryd.isAgg89 Tryd.sizeOf89 (hm52.get 2 rfl) rfl) ?_
   obtain rfl := someE hM
   exact ⟨rfl, hm52.pick [] rfl (by decide)⟩
  ·refine gg 2 rfl (Rn.q rfl (V.eql rfl rfl) (gg 2 rfl ?_))
   refine askD hM (Rn.condD rfl) (fun h53 hM => ?_) (fun h53 hM => ?_)
   ·refine gg 4 rfl ?_
    obtain ⟨p54, e54, hM⟩ := bindE hM
    refine Rn.cl ck53 rfl rfl rfl rfl (m_glob_class_sim (Z0 := All) e54 (rdR_all (hm8.get 0 rfl)) :) ?_
    rintro _ w54 ⟨rfl, hq54⟩
    refine ⟨_, rfl, ?_⟩
    have hm55 := hm8.call0 hq54
    refine gg 3 rfl (Rn.st rfl rfl Tryd.sizeOf87 rfl rfl rfl rfl (by first | exact ones rfl | (simp [Value.oneCell']; done)) (hm55.get 1 rfl) (by first | exact Nat.le_of_ble_eq_true rfl | (simp; done)) ?_)
    intro w56 m56 x56
    have hm57 := (hm55.st 1 rfl x56 m56).nf [_, boxR _ _ [_, _, _, _, _, _, _], _] rfl
    refine gg 1 rfl (Rn.st rfl rfl Tryd.sizeOf89 rfl rfl rfl rfl (by first | exact ones rfl | (simp [Value.oneCell']; done)) (hm57.get 2 rfl) (by first | exact Nat.le_of_ble_eq_true rfl | (simp; done)) ?_)
    intro w58 m58 x58
    have hm59 := (hm57.st 2 rfl x58 m58).nf [_, _, boxR _ _ [_, _]] rfl
    refine gg 1 rfl ?_
    refine Rn.retG3 Tryd.func33 rfl (rvC rfl Tryd.isAgg87 Tryd.sizeOf87 (hm59.get 1 rfl) rfl) (rvT rfl) (rvC rfl Tryd.isAgg89 Tryd.sizeOf89 (hm59.get 2 rfl) rfl) ?_
    obtain rfl := someE hM
    exact ⟨rfl, hm59.pick [] rfl (by decide)⟩
   ·refine gg 2 rfl (Rn.q rfl (V.eql rfl rfl) (gg 2 rfl ?_))
    refine askD hM (Rn.condD rfl) (fun h60 hM => ?_) (fun h60 hM => ?_)
    ·refine gg 6 rfl (Rn.q rfl (V.lenS Tryd.underlying9 rfl) (gg 2 rfl ?_))
     refine askD hM (Rn.condD rfl) (fun h61 hM => ?_) (fun h61 hM => ?_)
     ·refine gg 2 rfl (Rn.q rfl (V.bldS (cs := [_, _, _, _, _, _, _]) st87 rfl rfl) (gg 1 rfl (Rn.q rfl (V.bldS (cs := [_, _]) st89 rfl rfl) (Rn.st rfl rfl Tryd.sizeOf87 rfl rfl rfl rfl (by first | exact ones rfl | (simp [Value.oneCell']; done)) (hm8.get 1 rfl) (by first | exact Nat.le_of_ble_eq_true rfl | (simp; done)) ?_))))
      intro w62 m62 x62
      have hm63 := (hm8.st 1 rfl x62 m62).nf [_, boxR _ _ [_, _, _, _, _, _, _], _] rfl
      refine gg 1 rfl (Rn.st rfl rfl Tryd.sizeOf89 rfl rfl rfl rfl (by first | exact ones rfl | (simp [Value.oneCell']; done)) (hm63.get 2 rfl) (by first | exact Nat.le_of_ble_eq_true rfl | (simp; done)) ?_)
      intro w64 m64 x64
      have hm65 := (hm63.st 2 rfl x64 m64).nf [_, _, boxR _ _ [_, _]] rfl
      refine gg 1 rfl ?_
      refine Rn.retG3 Tryd.func33 rfl (rvC rfl Tryd.isAgg87 Tryd.sizeOf87 (hm65.get 1 rfl) rfl) (rvT rfl) (rvC rfl Tryd.isAgg89 Tryd.sizeOf89 (hm65.get 2 rfl) rfl) ?_
      obtain rfl := someE hM
      exact ⟨rfl, hm65.pick [] rfl (by decide)⟩
     ·refine gg 2 rfl ?_
      have hm68 := (hm8.cutF [] [1, 2] [0] rfl (by decide) ⟨fun _ h => h, trivial⟩).nf ([_] ++ [_, _, _]) rfl
      refine Rn.drawF rfl hm68 ?_
      intro w69 hmo69 hm69
      refine dd [0, 1, 2] (by kernel_rfl) rfl rfl ?_
      obtain ⟨z70, e70, hM⟩ := bindE hM
      refine RH.take 3 (by kernel_rfl) rfl rfl rfl rfl (fun w' hDr => V.idxSZ Tryd.underlying9 rfl rfl e70) ?_
      refine RH.take 5 (by kernel_rfl) rfl rfl rfl rfl (fun w' hDr => V.ldA (vs := [iv 0, iv 0]) Tryd.isAgg89 Tryd.sizeOf89 rfl ((hmo69.awayK hDr).get 0 rfl).2 rfl) ?_
      obtain ⟨p71, e71, hM⟩ := bindE hM
      refine RH.cl ck54 4 (by kernel_rfl) rfl rfl rfl rfl (m_glob_byteOf_sim (Z0 := All) e71  :) ?_
      rintro _ w71 ⟨rfl, hq71⟩
      have hm72 := hm69.call0 hq71
      refine ⟨_, rfl, hm72.fr, ?_⟩
      refine RH.st 6 (by kernel_rfl) rfl rfl Tryd.sizeOf87 rfl rfl rfl rfl (by first | exact ones rfl | (simp [Value.oneCell']; done)) (hm72.get 0 rfl) (by first | exact Nat.le_of_ble_eq_true rfl | (simp; done)) ?_
      intro w73 m73 x73
      have hm74 := (hm72.st 0 rfl x73 m73).nf [boxR _ _ [_, _, _, _, _, _, _], _, _] rfl
      refine ⟨hm74.fr, ?_⟩
      refine dd [7] (by kernel_rfl) rfl rfl ?_
      refine RH.st 8 (by kernel_rfl) rfl rfl Tryd.sizeOf89 rfl rfl rfl rfl (by first | exact ones rfl | (simp [Value.oneCell']; done)) (hm74.get 1 rfl) (by first | exact Nat.le_of_ble_eq_true rfl | (simp; done)) ?_
      intro w75 m75 x75
      have hm76 := (hm74.st 1 rfl x75 m75).nf [_, boxR _ _ [_, _], _] rfl
      refine ⟨hm76.fr, ?_⟩
      refine RH.doneP (by kernel_rfl) ?_
      have hm77 := hmo69.callAZ hm76
      have hm78 := (hm77.pick [1, 2, 3] rfl (by decide)).nf [_, _, _] rfl
      refine Rn.retG3 Tryd.func33 rfl (rvC rfl Tryd.isAgg87 Tryd.sizeOf87 (hm78.get 0 rfl) rfl) (rvT rfl) (rvC rfl Tryd.isAgg89 Tryd.sizeOf89 (hm78.get 1 rfl) rfl) ?_
      obtain rfl := someE hM
      exact ⟨rfl, hm78.pick [] rfl (by decide)⟩
    ·refine gg 3 rfl ?_
     have hm81 := (hm8.cutF [] [1, 2] [0] rfl (by decide) ⟨fun _ h => h, trivial⟩).nf ([_] ++ [_, _, _]) rfl
     refine Rn.drawF rfl hm81 ?_
     intro w82 hmo82 hm82
     refine dd [0, 1] (by kernel_rfl) rfl rfl ?_
     obtain ⟨z83, e83, hM⟩ := bindE hM
     refine RH.take 2 (by kernel_rfl) rfl rfl rfl rfl (fun w' hDr => V.idxSZ Tryd.underlying9 rfl rfl e83) ?_
     refine RH.take 4 (by kernel_rfl) rfl rfl rfl rfl (fun w' hDr => V.ldA (vs := [iv 0, iv 0]) Tryd.isAgg89 Tryd.sizeOf89 rfl ((hmo82.awayK hDr).get 0 rfl).2 rfl) ?_
     obtain ⟨p84, e84, hM⟩ := bindE hM
     refine RH.cl ck54 3 (by kernel_rfl) rfl rfl rfl rfl (m_glob_byteOf_sim (Z0 := All) e84  :) ?_
     rintro _ w84 ⟨rfl, hq84⟩
     have hm85 := hm82.call0 hq84
     refine ⟨_, rfl, hm85.fr, ?_⟩
     refine RH.st 5 (by kernel_rfl) rfl rfl Tryd.sizeOf87 rfl rfl rfl rfl (by first | exact ones rfl | (simp [Value.oneCell']; done)) (hm85.get 0 rfl) (by first | exact Nat.le_of_ble_eq_true rfl | (simp; done)) ?_
     intro w86 m86 x86
     have hm87 := (hm85.st 0 rfl x86 m86).nf [boxR _ _ [_, _, _, _, _, _, _], _, _] rfl
     refine ⟨hm87.fr, ?_⟩
     refine dd [6] (by kernel_rfl) rfl rfl ?_
     refine RH.st 7 (by kernel_rfl) rfl rfl Tryd.sizeOf89 rfl rfl rfl rfl (by first | exact ones rfl | (simp [Value.oneCell']; done)) (hm87.get 1 rfl) (by first | exact Nat.le_of_ble_eq_true rfl | (simp; done)) ?_
     intro w88 m88 x88
     have hm89 := (hm87.st 1 rfl x88 m88).nf [_, boxR _ _ [_, _], _] rfl
     refine ⟨hm89.fr, ?_⟩
     refine RH.doneP (by kernel_rfl) ?_
     have hm90 := hmo82.callAZ hm89
     have hm91 := (hm90.pick [1, 2, 3] rfl (by decide)).nf [_, _, _] rfl
     refine Rn.retG3 Tryd.func33 rfl (rvC rfl Tryd.isAgg87 Tryd.sizeOf87 (hm91.get 0 rfl) rfl) (rvT rfl) (rvC rfl Tryd.isAgg89 Tryd.sizeOf89 (hm91.get 1 rfl) rfl) ?_
     obtain rfl := someE hM
     exact ⟨rfl, hm91.pick [] rfl (by decide)⟩

end Go.Proofs.YtpcpfjpcfcbopaaDoor
