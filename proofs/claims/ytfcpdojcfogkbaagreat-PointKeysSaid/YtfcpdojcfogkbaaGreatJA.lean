/-
  The join of these laws: from their plain forms to the rows. Printed by a program.
-/
import Derived.Test.YtfcpdojcfogkbaaGreatWo
import Derived.Test.YtfcpdojcfogkbaaGreatSA7
import Derived.Test.YtfcpdojcfogkbaaGreatR8
set_option linter.unusedVariables false
set_option linter.unusedSimpArgs false
namespace Go.Proofs.YtfcpdojcfogkbaaGreat
open Go Go.RowKit Go.Wk Go.WideShapes Go.ChangeShapes
def T_api_Pair.ok (x : T_api_Pair) : Prop := (x.Key.length ≤ maxLen) ∧ (x.Val.length ≤ maxLen)
theorem jc9 : Tryz.prog.cellsOf 9 = 1 := by kernel_rfl
theorem jc42 : Tryz.prog.cellsOf 42 = 2 := by kernel_rfl
theorem reads_T_api_Pair {H : Type} {enc : TypeId × Value → H} {w : World} {sp : Nat → Bool} {hd : Bool} : ReadsP enc Tryz.prog w sp hd 42 T_api_Pair.rep T_api_Pair.ok := by
  intro n cs x h
  obtain ⟨xs, n', _, _, hl, hxl, hf⟩ := DataW.trod_struct Tryz.underlying42 h
  rw [jc42] at hl
  have h0 : DataW.trod enc Tryz.prog w 0 sp hd n' 9 ((cs.drop 0).take (Tryz.prog.cellsOf 9)) = xs[0]? := hf 0 _ rfl
  rw [jc9] at h0
  obtain ⟨y0, hy0⟩ := some_at 0 hxl (show 0 < 2 by decide)
  rw [hy0] at h0
  obtain ⟨z0, r0, q0⟩ := (reads_text Tryz.underlying9) _ _ _ h0
  have h1 : DataW.trod enc Tryz.prog w 0 sp hd n' 9 ((cs.drop 1).take (Tryz.prog.cellsOf 9)) = xs[1]? := hf 1 _ rfl
  rw [jc9] at h1
  obtain ⟨y1, hy1⟩ := some_at 1 hxl (show 1 < 2 by decide)
  rw [hy1] at h1
  obtain ⟨z1, r1, q1⟩ := (reads_text Tryz.underlying9) _ _ _ h1
  exact ⟨⟨z0, z1⟩, two_at 0 1 r0 (last_at 1 1 hl r1), ⟨q0, q1⟩⟩
theorem jc23 : Tryz.prog.cellsOf 23 = 1 := by kernel_rfl
def T_api_Side.ok (x : T_api_Side) : Prop := ((Lit.int .i64 x.Offset).wf = true) ∧ (x.Counts.length ≤ maxLen ∧ ∀ z ∈ x.Counts, True)
theorem jc3 : Tryz.prog.cellsOf 3 = 1 := by kernel_rfl
theorem jc24 : Tryz.prog.cellsOf 24 = 1 := by kernel_rfl
theorem jc26 : Tryz.prog.cellsOf 26 = 2 := by kernel_rfl
theorem reads_T_api_Side {H : Type} {enc : TypeId × Value → H} {w : World} {sp : Nat → Bool} {hd : Bool} : ReadsP enc Tryz.prog w sp hd 26 T_api_Side.rep T_api_Side.ok := by
  intro n cs x h
  obtain ⟨xs, n', _, _, hl, hxl, hf⟩ := DataW.trod_struct Tryz.underlying26 h
  rw [jc26] at hl
  have h0 : DataW.trod enc Tryz.prog w 0 sp hd n' 3 ((cs.drop 0).take (Tryz.prog.cellsOf 3)) = xs[0]? := hf 0 _ rfl
  rw [jc3] at h0
  obtain ⟨y0, hy0⟩ := some_at 0 hxl (show 0 < 2 by decide)
  rw [hy0] at h0
  obtain ⟨z0, r0, q0⟩ := (reads_int Tryz.underlying3) _ _ _ h0
  have h1 : DataW.trod enc Tryz.prog w 0 sp hd n' 24 ((cs.drop 1).take (Tryz.prog.cellsOf 24)) = xs[1]? := hf 1 _ rfl
  rw [jc24] at h1
  obtain ⟨y1, hy1⟩ := some_at 1 hxl (show 1 < 2 by decide)
  rw [hy1] at h1
  obtain ⟨z1, r1, q1⟩ := (reads_slP Tryz.underlying24 jc23 (reads_w64 Tryz.underlying23)) _ _ _ h1
  exact ⟨⟨z0, z1⟩, two_at 0 1 r0 (last_at 1 1 hl r1), ⟨q0, q1⟩⟩
def T_api_Hist.ok (x : T_api_Hist) : Prop := ((Lit.int .i64 x.Scale).wf = true) ∧ (True) ∧ (T_api_Side.ok x.Pos) ∧ (T_api_Side.ok x.Neg)
theorem jc28 : Tryz.prog.cellsOf 28 = 6 := by kernel_rfl
theorem reads_T_api_Hist {H : Type} {enc : TypeId × Value → H} {w : World} {sp : Nat → Bool} {hd : Bool} : ReadsP enc Tryz.prog w sp hd 28 T_api_Hist.rep T_api_Hist.ok := by
  intro n cs x h
  obtain ⟨xs, n', _, _, hl, hxl, hf⟩ := DataW.trod_struct Tryz.underlying28 h
  rw [jc28] at hl
  have h0 : DataW.trod enc Tryz.prog w 0 sp hd n' 3 ((cs.drop 0).take (Tryz.prog.cellsOf 3)) = xs[0]? := hf 0 _ rfl
  rw [jc3] at h0
  obtain ⟨y0, hy0⟩ := some_at 0 hxl (show 0 < 4 by decide)
  rw [hy0] at h0
  obtain ⟨z0, r0, q0⟩ := (reads_int Tryz.underlying3) _ _ _ h0
  have h1 : DataW.trod enc Tryz.prog w 0 sp hd n' 23 ((cs.drop 1).take (Tryz.prog.cellsOf 23)) = xs[1]? := hf 1 _ rfl
  rw [jc23] at h1
  obtain ⟨y1, hy1⟩ := some_at 1 hxl (show 1 < 4 by decide)
  rw [hy1] at h1
  obtain ⟨z1, r1, q1⟩ := (reads_w64 Tryz.underlying23) _ _ _ h1
  have h2 : DataW.trod enc Tryz.prog w 0 sp hd n' 26 ((cs.drop 2).take (Tryz.prog.cellsOf 26)) = xs[2]? := hf 2 _ rfl
  rw [jc26] at h2
  obtain ⟨y2, hy2⟩ := some_at 2 hxl (show 2 < 4 by decide)
  rw [hy2] at h2
  obtain ⟨z2, r2, q2⟩ := reads_T_api_Side _ _ _ h2
  have h3 : DataW.trod enc Tryz.prog w 0 sp hd n' 26 ((cs.drop 4).take (Tryz.prog.cellsOf 26)) = xs[3]? := hf 3 _ rfl
  rw [jc26] at h3
  obtain ⟨y3, hy3⟩ := some_at 3 hxl (show 3 < 4 by decide)
  rw [hy3] at h3
  obtain ⟨z3, r3, q3⟩ := reads_T_api_Side _ _ _ h3
  exact ⟨⟨z0, z1, z2, z3⟩, two_at 0 1 r0 (two_at 1 1 r1 (two_at 2 2 r2 (last_at 4 2 hl r3))), ⟨q0, q1, q2, q3⟩⟩
def T_api_Point.ok (x : T_api_Point) : Prop := (x.Name.length ≤ maxLen) ∧ (x.Attrs.length ≤ maxLen ∧ ∀ z ∈ x.Attrs, T_api_Pair.ok z) ∧ ((Lit.int .i64 x.Kind).wf = true) ∧ ((Lit.int .i64 x.Temp).wf = true) ∧ (True) ∧ ((Lit.int .i64 x.Start).wf = true) ∧ ((Lit.int .i64 x.Time).wf = true) ∧ ((Lit.int .i64 x.Int_).wf = true) ∧ (True) ∧ (True) ∧ (T_api_Hist.ok x.Hist) ∧ ((Lit.int .i64 x.Flags).wf = true)
theorem jc22 : Tryz.prog.cellsOf 22 = 1 := by kernel_rfl
theorem jc4 : Tryz.prog.cellsOf 4 = 1 := by kernel_rfl
theorem jc30 : Tryz.prog.cellsOf 30 = 17 := by kernel_rfl
theorem reads_T_api_Point {H : Type} {enc : TypeId × Value → H} {w : World} {sp : Nat → Bool} {hd : Bool} : ReadsP enc Tryz.prog w sp hd 30 T_api_Point.rep T_api_Point.ok := by
  intro n cs x h
  obtain ⟨xs, n', _, _, hl, hxl, hf⟩ := DataW.trod_struct Tryz.underlying30 h
  rw [jc30] at hl
  have h0 : DataW.trod enc Tryz.prog w 0 sp hd n' 9 ((cs.drop 0).take (Tryz.prog.cellsOf 9)) = xs[0]? := hf 0 _ rfl
  rw [jc9] at h0
  obtain ⟨y0, hy0⟩ := some_at 0 hxl (show 0 < 12 by decide)
  rw [hy0] at h0
  obtain ⟨z0, r0, q0⟩ := (reads_text Tryz.underlying9) _ _ _ h0
  have h1 : DataW.trod enc Tryz.prog w 0 sp hd n' 22 ((cs.drop 1).take (Tryz.prog.cellsOf 22)) = xs[1]? := hf 1 _ rfl
  rw [jc22] at h1
  obtain ⟨y1, hy1⟩ := some_at 1 hxl (show 1 < 12 by decide)
  rw [hy1] at h1
  obtain ⟨z1, r1, q1⟩ := (reads_slP Tryz.underlying22 jc42 reads_T_api_Pair) _ _ _ h1
  have h2 : DataW.trod enc Tryz.prog w 0 sp hd n' 3 ((cs.drop 2).take (Tryz.prog.cellsOf 3)) = xs[2]? := hf 2 _ rfl
  rw [jc3] at h2
  obtain ⟨y2, hy2⟩ := some_at 2 hxl (show 2 < 12 by decide)
  rw [hy2] at h2
  obtain ⟨z2, r2, q2⟩ := (reads_int Tryz.underlying3) _ _ _ h2
  have h3 : DataW.trod enc Tryz.prog w 0 sp hd n' 3 ((cs.drop 3).take (Tryz.prog.cellsOf 3)) = xs[3]? := hf 3 _ rfl
  rw [jc3] at h3
  obtain ⟨y3, hy3⟩ := some_at 3 hxl (show 3 < 12 by decide)
  rw [hy3] at h3
  obtain ⟨z3, r3, q3⟩ := (reads_int Tryz.underlying3) _ _ _ h3
  have h4 : DataW.trod enc Tryz.prog w 0 sp hd n' 4 ((cs.drop 4).take (Tryz.prog.cellsOf 4)) = xs[4]? := hf 4 _ rfl
  rw [jc4] at h4
  obtain ⟨y4, hy4⟩ := some_at 4 hxl (show 4 < 12 by decide)
  rw [hy4] at h4
  obtain ⟨z4, r4, q4⟩ := (reads_bool Tryz.underlying4) _ _ _ h4
  have h5 : DataW.trod enc Tryz.prog w 0 sp hd n' 3 ((cs.drop 5).take (Tryz.prog.cellsOf 3)) = xs[5]? := hf 5 _ rfl
  rw [jc3] at h5
  obtain ⟨y5, hy5⟩ := some_at 5 hxl (show 5 < 12 by decide)
  rw [hy5] at h5
  obtain ⟨z5, r5, q5⟩ := (reads_int Tryz.underlying3) _ _ _ h5
  have h6 : DataW.trod enc Tryz.prog w 0 sp hd n' 3 ((cs.drop 6).take (Tryz.prog.cellsOf 3)) = xs[6]? := hf 6 _ rfl
  rw [jc3] at h6
  obtain ⟨y6, hy6⟩ := some_at 6 hxl (show 6 < 12 by decide)
  rw [hy6] at h6
  obtain ⟨z6, r6, q6⟩ := (reads_int Tryz.underlying3) _ _ _ h6
  have h7 : DataW.trod enc Tryz.prog w 0 sp hd n' 3 ((cs.drop 7).take (Tryz.prog.cellsOf 3)) = xs[7]? := hf 7 _ rfl
  rw [jc3] at h7
  obtain ⟨y7, hy7⟩ := some_at 7 hxl (show 7 < 12 by decide)
  rw [hy7] at h7
  obtain ⟨z7, r7, q7⟩ := (reads_int Tryz.underlying3) _ _ _ h7
  have h8 : DataW.trod enc Tryz.prog w 0 sp hd n' 23 ((cs.drop 8).take (Tryz.prog.cellsOf 23)) = xs[8]? := hf 8 _ rfl
  rw [jc23] at h8
  obtain ⟨y8, hy8⟩ := some_at 8 hxl (show 8 < 12 by decide)
  rw [hy8] at h8
  obtain ⟨z8, r8, q8⟩ := (reads_w64 Tryz.underlying23) _ _ _ h8
  have h9 : DataW.trod enc Tryz.prog w 0 sp hd n' 23 ((cs.drop 9).take (Tryz.prog.cellsOf 23)) = xs[9]? := hf 9 _ rfl
  rw [jc23] at h9
  obtain ⟨y9, hy9⟩ := some_at 9 hxl (show 9 < 12 by decide)
  rw [hy9] at h9
  obtain ⟨z9, r9, q9⟩ := (reads_w64 Tryz.underlying23) _ _ _ h9
  have h10 : DataW.trod enc Tryz.prog w 0 sp hd n' 28 ((cs.drop 10).take (Tryz.prog.cellsOf 28)) = xs[10]? := hf 10 _ rfl
  rw [jc28] at h10
  obtain ⟨y10, hy10⟩ := some_at 10 hxl (show 10 < 12 by decide)
  rw [hy10] at h10
  obtain ⟨z10, r10, q10⟩ := reads_T_api_Hist _ _ _ h10
  have h11 : DataW.trod enc Tryz.prog w 0 sp hd n' 3 ((cs.drop 16).take (Tryz.prog.cellsOf 3)) = xs[11]? := hf 11 _ rfl
  rw [jc3] at h11
  obtain ⟨y11, hy11⟩ := some_at 11 hxl (show 11 < 12 by decide)
  rw [hy11] at h11
  obtain ⟨z11, r11, q11⟩ := (reads_int Tryz.underlying3) _ _ _ h11
  exact ⟨⟨z0, z1, z2, z3, z4, z5, z6, z7, z8, z9, z10, z11⟩, two_at 0 1 r0 (two_at 1 1 r1 (two_at 2 1 r2 (two_at 3 1 r3 (two_at 4 1 r4 (two_at 5 1 r5 (two_at 6 1 r6 (two_at 7 1 r7 (two_at 8 1 r8 (two_at 9 1 r9 (two_at 10 6 r10 (last_at 16 1 hl r11))))))))))), ⟨q0, q1, q2, q3, q4, q5, q6, q7, q8, q9, q10, q11⟩⟩
namespace pointBack
open Go.ChangeShapes Go.WideShapes Go.ChangeAt Go.RowKit Go.Wk Go
theorem own : ownKnob Tryz.prog.godebug = none := by kernel_rfl
theorem laidOut : laidOutB Tryz.prog = true := by kernel_rfl
theorem rd30 : Tryz.prog.readableRec 30 = true ∧ 30 < Tryz.prog.types.size := ⟨by kernel_rfl, of_decide_eq_true (by kernel_rfl)⟩
theorem readable : ∀ t ∈ Tryz.f3.params.toList, Tryz.prog.readableRec t = true ∧ t < Tryz.prog.types.size := by
  rw [Tryz.params3]
  exact List.forall_mem_cons.2 ⟨rd30, fun _ h => by cases h⟩
set_option maxRecDepth 100000 in
theorem contract (H : Type) (enc : TypeId × Value → H) (W : World) (base : Nat) (args : Array Value) (ds gs : List (DataW H)) (before : List MemPlace)
    (hval : ∀ (j : Nat) t v, Tryz.f3.params[j]? = some t → args[j]? = some v → Value.okWide Tryz.prog W .any base t v)
    (hW : DataW.Whole enc Tryz.prog Tryz.f3.params.toList Rows.pointBackSpec.vars false W args.toList ds gs before) :
    Calls Tryz.prog 3 args W fun e W' => ∃ v, e = .returned v ∧ Rows.pointBackSpec.post enc Tryz.prog Tryz.f3 false true false false W args v W' := by
  have hW' := hW
  obtain ⟨p, q, hA0, hV, rfl, hfz, hnd⟩ := hW
  have hA : DataW.TrodAll enc Tryz.prog W 0 (fun _ => true) true Tryz.f3.params.toList args.toList ds p := hA0
  rw [Tryz.params3] at hA hval
  obtain ⟨v0, vs0, d0, ds0, p0, q0, hargs, rfl, rfl, h0, r0⟩ := trodAll_cons hA
  obtain ⟨rfl, rfl, rfl⟩ := trodAll_nil r0
  obtain rfl : args = #[v0] := by cases args; simp_all
  obtain ⟨rfl, rfl⟩ := trodVars_none hV
  obtain ⟨x0, cs0, rfl, f0, k0⟩ := arg_agg Tryz.underlying30 (reads_T_api_Point) (hval 0 30 v0 rfl rfl) h0
  refine (m_limnographlaw12_PointBack_sim (Z0 := All) (back_law2 x0 k0) f0 :).mono fun e W' ⟨he, hx⟩ => ⟨_, he, ?_⟩
  exact post_of_ext laidOut readable hW' rfl (by kernel_rfl) Tryz.underlying4 rfl rfl rfl hx.fr
set_option maxRecDepth 100000 in
theorem lifted (os : Os) (started : os.Started) (H : Type) (enc : TypeId × Value → H) :
    ReturnsInHanded {} Tryz.checked os 3 .any (Rows.pointBackSpec.pre6 enc Tryz.prog Tryz.f3 Rows.pointBackRow.domain false) (Rows.pointBackSpec.post enc Tryz.prog Tryz.f3 false true false false) := by
  refine returnsInHanded_of_change (C := Tryz.checked) own started (by kernel_rfl) Tryz.func3
    (ChangeSpec.witness6 (enc := enc) (C := Tryz.checked) false ⟨#[], #[.agg #[Str [], .slice none 0 0, .int .i64 0, .int .i64 0, .bool false, .int .i64 0, .int .i64 0, .int .i64 0, .int .u64 0, .int .u64 0, .int .i64 0, .int .u64 0, .int .i64 0, .slice none 0 0, .int .i64 0, .slice none 0 0, .int .i64 0]], []⟩ 8 (by kernel_rfl) (by kernel_rfl) (by kernel_rfl) (by kernel_rfl)) ?_
  intro W base args ds gs before hval hW _ _
  exact contract H enc W base args ds gs before hval hW
theorem holds : Rows.PointBackSaid :=
  OpenClaim.holds_of_wide 3 Tryz.f3 rfl rfl rfl rfl rfl rfl rfl ⟨rfl, rfl, rfl, rfl, rfl⟩ rfl rfl rfl rfl rfl (by kernel_rfl) Tryz.func3 (by kernel_rfl)
    (of_decide_eq_true (by kernel_rfl)) (by unfold Func.isWrapper; first | (rw [if_pos (by decide +kernel)]; kernel_rfl) | (rw [if_neg (by decide +kernel)]; exact ⟨rfl, rfl⟩))
    (fun os started H enc _ => lifted os started H enc)
end pointBack
namespace pointKeys
open Go.ChangeShapes Go.WideShapes Go.ChangeAt Go.RowKit Go.Wk Go
theorem own : ownKnob Tryz.prog.godebug = none := by kernel_rfl
theorem laidOut : laidOutB Tryz.prog = true := by kernel_rfl
theorem rd30 : Tryz.prog.readableRec 30 = true ∧ 30 < Tryz.prog.types.size := ⟨by kernel_rfl, of_decide_eq_true (by kernel_rfl)⟩
theorem readable : ∀ t ∈ Tryz.f4.params.toList, Tryz.prog.readableRec t = true ∧ t < Tryz.prog.types.size := by
  rw [Tryz.params4]
  exact List.forall_mem_cons.2 ⟨rd30, List.forall_mem_cons.2 ⟨rd30, fun _ h => by cases h⟩⟩
set_option maxRecDepth 100000 in
theorem contract (H : Type) (enc : TypeId × Value → H) (W : World) (base : Nat) (args : Array Value) (ds gs : List (DataW H)) (before : List MemPlace)
    (hval : ∀ (j : Nat) t v, Tryz.f4.params[j]? = some t → args[j]? = some v → Value.okWide Tryz.prog W .any base t v)
    (hW : DataW.Whole enc Tryz.prog Tryz.f4.params.toList Rows.pointKeysSpec.vars false W args.toList ds gs before) :
    Calls Tryz.prog 4 args W fun e W' => ∃ v, e = .returned v ∧ Rows.pointKeysSpec.post enc Tryz.prog Tryz.f4 false true false false W args v W' := by
  have hW' := hW
  obtain ⟨p, q, hA0, hV, rfl, hfz, hnd⟩ := hW
  have hA : DataW.TrodAll enc Tryz.prog W 0 (fun _ => true) true Tryz.f4.params.toList args.toList ds p := hA0
  rw [Tryz.params4] at hA hval
  obtain ⟨v0, vs0, d0, ds0, p0, q0, hargs, rfl, rfl, h0, r0⟩ := trodAll_cons hA
  obtain ⟨v1, vs1, d1, ds1, p1, q1, rfl, rfl, rfl, h1, r1⟩ := trodAll_cons r0
  obtain ⟨rfl, rfl, rfl⟩ := trodAll_nil r1
  obtain rfl : args = #[v0, v1] := by cases args; simp_all
  obtain ⟨rfl, rfl⟩ := trodVars_none hV
  obtain ⟨x0, cs0, rfl, f0, k0⟩ := arg_agg Tryz.underlying30 (reads_T_api_Point) (hval 0 30 v0 rfl rfl) h0
  obtain ⟨x1, cs1, rfl, f1, k1⟩ := arg_agg Tryz.underlying30 (reads_T_api_Point) (hval 1 30 v1 rfl rfl) h1
  refine (m_limnographlaw12_PointKeys_sim (Z0 := All) (keys_law2 x0 x1 k0 k1) f0 f1 :).mono fun e W' ⟨he, hx⟩ => ⟨_, he, ?_⟩
  exact post_of_ext laidOut readable hW' rfl (by kernel_rfl) Tryz.underlying4 rfl rfl rfl hx.fr
set_option maxRecDepth 100000 in
theorem lifted (os : Os) (started : os.Started) (H : Type) (enc : TypeId × Value → H) :
    ReturnsInHanded {} Tryz.checked os 4 .any (Rows.pointKeysSpec.pre6 enc Tryz.prog Tryz.f4 Rows.pointKeysRow.domain false) (Rows.pointKeysSpec.post enc Tryz.prog Tryz.f4 false true false false) := by
  refine returnsInHanded_of_change (C := Tryz.checked) own started (by kernel_rfl) Tryz.func4
    (ChangeSpec.witness6 (enc := enc) (C := Tryz.checked) false ⟨#[], #[.agg #[Str [], .slice none 0 0, .int .i64 0, .int .i64 0, .bool false, .int .i64 0, .int .i64 0, .int .i64 0, .int .u64 0, .int .u64 0, .int .i64 0, .int .u64 0, .int .i64 0, .slice none 0 0, .int .i64 0, .slice none 0 0, .int .i64 0], .agg #[Str [], .slice none 0 0, .int .i64 0, .int .i64 0, .bool false, .int .i64 0, .int .i64 0, .int .i64 0, .int .u64 0, .int .u64 0, .int .i64 0, .int .u64 0, .int .i64 0, .slice none 0 0, .int .i64 0, .slice none 0 0, .int .i64 0]], []⟩ 8 (by kernel_rfl) (by kernel_rfl) (by kernel_rfl) (by kernel_rfl)) ?_
  intro W base args ds gs before hval hW _ _
  exact contract H enc W base args ds gs before hval hW
theorem holds : Rows.PointKeysSaid :=
  OpenClaim.holds_of_wide 4 Tryz.f4 rfl rfl rfl rfl rfl rfl rfl ⟨rfl, rfl, rfl, rfl, rfl⟩ rfl rfl rfl rfl rfl (by kernel_rfl) Tryz.func4 (by kernel_rfl)
    (of_decide_eq_true (by kernel_rfl)) (by unfold Func.isWrapper; first | (rw [if_pos (by decide +kernel)]; kernel_rfl) | (rw [if_neg (by decide +kernel)]; exact ⟨rfl, rfl⟩))
    (fun os started H enc _ => lifted os started H enc)
end pointKeys
end Go.Proofs.YtfcpdojcfogkbaaGreat
