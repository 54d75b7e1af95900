/-
  The join of these laws: from their plain forms to the rows. Printed by a program.
-/
import Derived.Test.YtknenggmdnpimaaWo
import Derived.Test.YtknenggmdnpimaaSA1
import Derived.Test.YtknenggmdnpimaaSA2
import Derived.Test.YtknenggmdnpimaaSA3
import Derived.Test.YtknenggmdnpimaaQ7
set_option linter.unusedVariables false
set_option linter.unusedSimpArgs false
namespace Go.Proofs.Ytknenggmdnpimaa
open Go Go.RowKit Go.Wk Go.WideShapes Go.ChangeShapes
theorem jc63 : Try.prog.cellsOf 63 = 2 := by kernel_rfl
theorem jc5 : Try.prog.cellsOf 5 = 1 := by kernel_rfl
def T_api_File.ok (x : T_api_File) : Prop := (x.Name.length ≤ maxLen) ∧ (x.Data.length ≤ maxLen ∧ ∀ z ∈ x.Data, True)
theorem jc9 : Try.prog.cellsOf 9 = 1 := by kernel_rfl
theorem jc22 : Try.prog.cellsOf 22 = 1 := by kernel_rfl
theorem reads_T_api_File {H : Type} {enc : TypeId × Value → H} {w : World} {sp : Nat → Bool} {hd : Bool} : ReadsP enc Try.prog w sp hd 63 T_api_File.rep T_api_File.ok := by
  intro n cs x h
  obtain ⟨xs, n', _, _, hl, hxl, hf⟩ := DataW.trod_struct Try.underlying63 h
  rw [jc63] at hl
  have h0 : DataW.trod enc Try.prog w 0 sp hd n' 9 ((cs.drop 0).take (Try.prog.cellsOf 9)) = xs[0]? := hf 0 _ rfl
  rw [jc9] at h0
  obtain ⟨y0, hy0⟩ := some_at 0 hxl (show 0 < 2 by decide)
  rw [hy0] at h0
  obtain ⟨z0, r0, q0⟩ := (reads_text Try.underlying9) _ _ _ h0
  have h1 : DataW.trod enc Try.prog w 0 sp hd n' 22 ((cs.drop 1).take (Try.prog.cellsOf 22)) = xs[1]? := hf 1 _ rfl
  rw [jc22] at h1
  obtain ⟨y1, hy1⟩ := some_at 1 hxl (show 1 < 2 by decide)
  rw [hy1] at h1
  obtain ⟨z1, r1, q1⟩ := (reads_slP Try.underlying22 jc5 (reads_byte Try.underlying5)) _ _ _ h1
  exact ⟨⟨z0, z1⟩, two_at 0 1 r0 (last_at 1 1 hl r1), ⟨q0, q1⟩⟩
theorem jc44 : Try.prog.cellsOf 44 = 6 := by kernel_rfl
theorem jc3 : Try.prog.cellsOf 3 = 1 := by kernel_rfl
def T_limnographlaw20_Act.ok (x : T_limnographlaw20_Act) : Prop := ((Lit.int .i64 x.Kind).wf = true) ∧ ((Lit.int .i64 x.N).wf = true) ∧ (x.Name.length ≤ maxLen) ∧ (x.B.length ≤ maxLen) ∧ ((Lit.int .i64 x.Code).wf = true) ∧ (x.Keep.length ≤ maxLen ∧ ∀ z ∈ x.Keep, (Lit.int .i64 z).wf = true)
theorem jc23 : Try.prog.cellsOf 23 = 1 := by kernel_rfl
theorem jc24 : Try.prog.cellsOf 24 = 1 := by kernel_rfl
theorem reads_T_limnographlaw20_Act {H : Type} {enc : TypeId × Value → H} {w : World} {sp : Nat → Bool} {hd : Bool} : ReadsP enc Try.prog w sp hd 44 T_limnographlaw20_Act.rep T_limnographlaw20_Act.ok := by
  intro n cs x h
  obtain ⟨xs, n', _, _, hl, hxl, hf⟩ := DataW.trod_struct Try.underlying44 h
  rw [jc44] at hl
  have h0 : DataW.trod enc Try.prog w 0 sp hd n' 3 ((cs.drop 0).take (Try.prog.cellsOf 3)) = xs[0]? := hf 0 _ rfl
  rw [jc3] at h0
  obtain ⟨y0, hy0⟩ := some_at 0 hxl (show 0 < 6 by decide)
  rw [hy0] at h0
  obtain ⟨z0, r0, q0⟩ := (reads_int Try.underlying3) _ _ _ h0
  have h1 : DataW.trod enc Try.prog w 0 sp hd n' 3 ((cs.drop 1).take (Try.prog.cellsOf 3)) = xs[1]? := hf 1 _ rfl
  rw [jc3] at h1
  obtain ⟨y1, hy1⟩ := some_at 1 hxl (show 1 < 6 by decide)
  rw [hy1] at h1
  obtain ⟨z1, r1, q1⟩ := (reads_int Try.underlying3) _ _ _ h1
  have h2 : DataW.trod enc Try.prog w 0 sp hd n' 9 ((cs.drop 2).take (Try.prog.cellsOf 9)) = xs[2]? := hf 2 _ rfl
  rw [jc9] at h2
  obtain ⟨y2, hy2⟩ := some_at 2 hxl (show 2 < 6 by decide)
  rw [hy2] at h2
  obtain ⟨z2, r2, q2⟩ := (reads_text Try.underlying9) _ _ _ h2
  have h3 : DataW.trod enc Try.prog w 0 sp hd n' 9 ((cs.drop 3).take (Try.prog.cellsOf 9)) = xs[3]? := hf 3 _ rfl
  rw [jc9] at h3
  obtain ⟨y3, hy3⟩ := some_at 3 hxl (show 3 < 6 by decide)
  rw [hy3] at h3
  obtain ⟨z3, r3, q3⟩ := (reads_text Try.underlying9) _ _ _ h3
  have h4 : DataW.trod enc Try.prog w 0 sp hd n' 23 ((cs.drop 4).take (Try.prog.cellsOf 23)) = xs[4]? := hf 4 _ rfl
  rw [jc23] at h4
  obtain ⟨y4, hy4⟩ := some_at 4 hxl (show 4 < 6 by decide)
  rw [hy4] at h4
  obtain ⟨z4, r4, q4⟩ := (reads_int Try.underlying23) _ _ _ h4
  have h5 : DataW.trod enc Try.prog w 0 sp hd n' 24 ((cs.drop 5).take (Try.prog.cellsOf 24)) = xs[5]? := hf 5 _ rfl
  rw [jc24] at h5
  obtain ⟨y5, hy5⟩ := some_at 5 hxl (show 5 < 6 by decide)
  rw [hy5] at h5
  obtain ⟨z5, r5, q5⟩ := (reads_slP Try.underlying24 jc3 (reads_int Try.underlying3)) _ _ _ h5
  exact ⟨⟨z0, z1, z2, z3, z4, z5⟩, two_at 0 1 r0 (two_at 1 1 r1 (two_at 2 1 r2 (two_at 3 1 r3 (two_at 4 1 r4 (last_at 5 1 hl r5))))), ⟨q0, q1, q2, q3, q4, q5⟩⟩
namespace snapPlays
open Go.ChangeShapes Go.WideShapes Go.ChangeAt Go.RowKit Go.Wk Go
theorem own : ownKnob Try.prog.godebug = none := by kernel_rfl
theorem laidOut : laidOutB Try.prog = true := by kernel_rfl
theorem rd3 : Try.prog.readableRec 3 = true ∧ 3 < Try.prog.types.size := ⟨by kernel_rfl, of_decide_eq_true (by kernel_rfl)⟩
theorem rd38 : Try.prog.readableRec 38 = true ∧ 38 < Try.prog.types.size := ⟨by kernel_rfl, of_decide_eq_true (by kernel_rfl)⟩
theorem rd39 : Try.prog.readableRec 39 = true ∧ 39 < Try.prog.types.size := ⟨by kernel_rfl, of_decide_eq_true (by kernel_rfl)⟩
theorem readable : ∀ t ∈ Try.f4.params.toList, Try.prog.readableRec t = true ∧ t < Try.prog.types.size := by
  rw [Try.params4]
  exact List.forall_mem_cons.2 ⟨rd38, List.forall_mem_cons.2 ⟨rd3, List.forall_mem_cons.2 ⟨rd39, fun _ h => by cases h⟩⟩⟩
set_option maxRecDepth 100000 in
theorem contract (H : Type) (enc : TypeId × Value → H) (W : World) (base : Nat) (args : Array Value) (ds gs : List (DataW H)) (before : List MemPlace)
    (hval : ∀ (j : Nat) t v, Try.f4.params[j]? = some t → args[j]? = some v → Value.okWide Try.prog W .any base t v)
    (hW : DataW.Whole enc Try.prog Try.f4.params.toList Rows.snapPlaysSpec.vars false W args.toList ds gs before) :
    Calls Try.prog 4 args W fun e W' => ∃ v, e = .returned v ∧ Rows.snapPlaysSpec.post enc Try.prog Try.f4 false true false false W args v W' := by
  have hW' := hW
  obtain ⟨p, q, hA0, hV, rfl, hfz, hnd⟩ := hW
  have hA : DataW.TrodAll enc Try.prog W 0 (fun _ => true) true Try.f4.params.toList args.toList ds p := hA0
  rw [Try.params4] at hA hval
  obtain ⟨v0, vs0, d0, ds0, p0, q0, hargs, rfl, rfl, h0, r0⟩ := trodAll_cons hA
  obtain ⟨v1, vs1, d1, ds1, p1, q1, rfl, rfl, rfl, h1, r1⟩ := trodAll_cons r0
  obtain ⟨v2, vs2, d2, ds2, p2, q2, rfl, rfl, rfl, h2, r2⟩ := trodAll_cons r1
  obtain ⟨rfl, rfl, rfl⟩ := trodAll_nil r2
  obtain rfl : args = #[v0, v1, v2] := by cases args; simp_all
  obtain ⟨rfl, rfl⟩ := trodVars_none hV
  obtain ⟨x0, A0, c0, rfl, f0, k0⟩ := arg_slice Try.underlying38 jc63 reads_T_api_File (hval 0 38 v0 rfl rfl) h0
  obtain ⟨x1, rfl, k1⟩ := arg_int Try.underlying3 (hval 1 3 v1 rfl rfl) h1
  obtain ⟨x2, A2, c2, rfl, f2, k2⟩ := arg_slice Try.underlying39 jc44 reads_T_limnographlaw20_Act (hval 2 39 v2 rfl rfl) h2
  refine (m_limnographlaw20_SnapPlays_sim (Z0 := All) W A0 c0 x0 x1 A2 c2 x2 f0 f2 (plays_law x0 x1 x2 k0 k1 k2)).mono fun e W' ⟨he, hx⟩ => ⟨_, he, ?_⟩
  exact post_of_ext laidOut readable hW' rfl (by kernel_rfl) Try.underlying4 rfl rfl rfl hx.fr
set_option maxRecDepth 100000 in
theorem lifted (os : Os) (started : os.Started) (H : Type) (enc : TypeId × Value → H) :
    ReturnsInHanded {} Try.checked os 4 .any (Rows.snapPlaysSpec.pre6 enc Try.prog Try.f4 Rows.snapPlaysRow.domain false) (Rows.snapPlaysSpec.post enc Try.prog Try.f4 false true false false) := by
  refine returnsInHanded_of_change (C := Try.checked) own started (by kernel_rfl) Try.func4
    (ChangeSpec.witness6 (enc := enc) (C := Try.checked) false ⟨#[], #[.slice none 0 0, .int .i64 0, .slice none 0 0], []⟩ 8 (by kernel_rfl) (by kernel_rfl) (by kernel_rfl) (by kernel_rfl)) ?_
  intro W base args ds gs before hval hW _ _
  exact contract H enc W base args ds gs before hval hW
theorem holds : Rows.SnapPlaysSaid :=
  OpenClaim.holds_of_wide 4 Try.f4 rfl rfl rfl rfl rfl rfl rfl ⟨rfl, rfl, rfl, rfl, rfl⟩ rfl rfl rfl rfl rfl (by kernel_rfl) Try.func4 (by kernel_rfl)
    (of_decide_eq_true (by kernel_rfl)) (by unfold Func.isWrapper; first | (rw [if_pos (by decide +kernel)]; kernel_rfl) | (rw [if_neg (by decide +kernel)]; exact ⟨rfl, rfl⟩))
    (fun os started H enc _ => lifted os started H enc)
end snapPlays
namespace snapWhole
open Go.ChangeShapes Go.WideShapes Go.ChangeAt Go.RowKit Go.Wk Go
theorem own : ownKnob Try.prog.godebug = none := by kernel_rfl
theorem laidOut : laidOutB Try.prog = true := by kernel_rfl
theorem rd3 : Try.prog.readableRec 3 = true ∧ 3 < Try.prog.types.size := ⟨by kernel_rfl, of_decide_eq_true (by kernel_rfl)⟩
theorem rd22 : Try.prog.readableRec 22 = true ∧ 22 < Try.prog.types.size := ⟨by kernel_rfl, of_decide_eq_true (by kernel_rfl)⟩
theorem rd23 : Try.prog.readableRec 23 = true ∧ 23 < Try.prog.types.size := ⟨by kernel_rfl, of_decide_eq_true (by kernel_rfl)⟩
theorem rd24 : Try.prog.readableRec 24 = true ∧ 24 < Try.prog.types.size := ⟨by kernel_rfl, of_decide_eq_true (by kernel_rfl)⟩
theorem readable : ∀ t ∈ Try.f3.params.toList, Try.prog.readableRec t = true ∧ t < Try.prog.types.size := by
  rw [Try.params3]
  exact List.forall_mem_cons.2 ⟨rd22, List.forall_mem_cons.2 ⟨rd22, List.forall_mem_cons.2 ⟨rd3, List.forall_mem_cons.2 ⟨rd3, List.forall_mem_cons.2 ⟨rd3, List.forall_mem_cons.2 ⟨rd23, List.forall_mem_cons.2 ⟨rd24, fun _ h => by cases h⟩⟩⟩⟩⟩⟩⟩
set_option maxRecDepth 100000 in
theorem contract (H : Type) (enc : TypeId × Value → H) (W : World) (base : Nat) (args : Array Value) (ds gs : List (DataW H)) (before : List MemPlace)
    (hval : ∀ (j : Nat) t v, Try.f3.params[j]? = some t → args[j]? = some v → Value.okWide Try.prog W .any base t v)
    (hW : DataW.Whole enc Try.prog Try.f3.params.toList Rows.snapWholeSpec.vars false W args.toList ds gs before) :
    Calls Try.prog 3 args W fun e W' => ∃ v, e = .returned v ∧ Rows.snapWholeSpec.post enc Try.prog Try.f3 false true false false W args v W' := by
  have hW' := hW
  obtain ⟨p, q, hA0, hV, rfl, hfz, hnd⟩ := hW
  have hA : DataW.TrodAll enc Try.prog W 0 (fun _ => true) true Try.f3.params.toList args.toList ds p := hA0
  rw [Try.params3] at hA hval
  obtain ⟨v0, vs0, d0, ds0, p0, q0, hargs, rfl, rfl, h0, r0⟩ := trodAll_cons hA
  obtain ⟨v1, vs1, d1, ds1, p1, q1, rfl, rfl, rfl, h1, r1⟩ := trodAll_cons r0
  obtain ⟨v2, vs2, d2, ds2, p2, q2, rfl, rfl, rfl, h2, r2⟩ := trodAll_cons r1
  obtain ⟨v3, vs3, d3, ds3, p3, q3, rfl, rfl, rfl, h3, r3⟩ := trodAll_cons r2
  obtain ⟨v4, vs4, d4, ds4, p4, q4, rfl, rfl, rfl, h4, r4⟩ := trodAll_cons r3
  obtain ⟨v5, vs5, d5, ds5, p5, q5, rfl, rfl, rfl, h5, r5⟩ := trodAll_cons r4
  obtain ⟨v6, vs6, d6, ds6, p6, q6, rfl, rfl, rfl, h6, r6⟩ := trodAll_cons r5
  obtain ⟨rfl, rfl, rfl⟩ := trodAll_nil r6
  obtain rfl : args = #[v0, v1, v2, v3, v4, v5, v6] := by cases args; simp_all
  obtain ⟨rfl, rfl⟩ := trodVars_none hV
  obtain ⟨x0, A0, c0, rfl, f0, k0⟩ := arg_slice Try.underlying22 jc5 (reads_byte Try.underlying5) (hval 0 22 v0 rfl rfl) h0
  obtain ⟨x1, A1, c1, rfl, f1, k1⟩ := arg_slice Try.underlying22 jc5 (reads_byte Try.underlying5) (hval 1 22 v1 rfl rfl) h1
  obtain ⟨x2, rfl, k2⟩ := arg_int Try.underlying3 (hval 2 3 v2 rfl rfl) h2
  obtain ⟨x3, rfl, k3⟩ := arg_int Try.underlying3 (hval 3 3 v3 rfl rfl) h3
  obtain ⟨x4, rfl, k4⟩ := arg_int Try.underlying3 (hval 4 3 v4 rfl rfl) h4
  obtain ⟨x5, rfl, k5⟩ := arg_int Try.underlying23 (hval 5 23 v5 rfl rfl) h5
  obtain ⟨x6, A6, c6, rfl, f6, k6⟩ := arg_slice Try.underlying24 jc3 (reads_int Try.underlying3) (hval 6 24 v6 rfl rfl) h6
  refine (m_limnographlaw20_SnapWhole_sim (Z0 := All) W A0 c0 x0 A1 c1 x1 x2 x3 x4 x5 A6 c6 x6 f0 f1 f6 (whole_law x0 x1 x2 x3 x4 x5 x6 k0 k1 k2 k3 k4 k5 k6)).mono fun e W' ⟨he, hx⟩ => ⟨_, he, ?_⟩
  exact post_of_ext laidOut readable hW' rfl (by kernel_rfl) Try.underlying4 rfl rfl rfl hx.fr
set_option maxRecDepth 100000 in
theorem lifted (os : Os) (started : os.Started) (H : Type) (enc : TypeId × Value → H) :
    ReturnsInHanded {} Try.checked os 3 .any (Rows.snapWholeSpec.pre6 enc Try.prog Try.f3 Rows.snapWholeRow.domain false) (Rows.snapWholeSpec.post enc Try.prog Try.f3 false true false false) := by
  refine returnsInHanded_of_change (C := Try.checked) own started (by kernel_rfl) Try.func3
    (ChangeSpec.witness6 (enc := enc) (C := Try.checked) false ⟨#[], #[.slice none 0 0, .slice none 0 0, .int .i64 0, .int .i64 0, .int .i64 0, .int .i64 0, .slice none 0 0], []⟩ 8 (by kernel_rfl) (by kernel_rfl) (by kernel_rfl) (by kernel_rfl)) ?_
  intro W base args ds gs before hval hW _ _
  exact contract H enc W base args ds gs before hval hW
theorem holds : Rows.SnapWholeSaid :=
  OpenClaim.holds_of_wide 3 Try.f3 rfl rfl rfl rfl rfl rfl rfl ⟨rfl, rfl, rfl, rfl, rfl⟩ rfl rfl rfl rfl rfl (by kernel_rfl) Try.func3 (by kernel_rfl)
    (of_decide_eq_true (by kernel_rfl)) (by unfold Func.isWrapper; first | (rw [if_pos (by decide +kernel)]; kernel_rfl) | (rw [if_neg (by decide +kernel)]; exact ⟨rfl, rfl⟩))
    (fun os started H enc _ => lifted os started H enc)
end snapWhole
end Go.Proofs.Ytknenggmdnpimaa
