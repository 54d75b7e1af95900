/-
  The join of these laws: from their plain forms to the rows. Printed by a program.
-/
import Derived.Test.YtklaeckldfooaaaWo
import Derived.Test.YtklaeckldfooaaaSA1
import Derived.Test.YtklaeckldfooaaaQ4
namespace Go.Proofs.Ytklaeckldfooaaa
open Go Go.RowKit Go.Wk Go.WideShapes Go.ChangeShapes
theorem jc29 : Try.prog.cellsOf 29 = 3 := by kernel_rfl
def T_limnographlaw14_Act.ok (x : T_limnographlaw14_Act) : Prop := ((Lit.int .i64 x.Kind).wf = true) ∧ (x.Key.length ≤ maxLen) ∧ ((Lit.int .i64 x.V).wf = true)
theorem jc3 : Try.prog.cellsOf 3 = 1 := by kernel_rfl
theorem jc9 : Try.prog.cellsOf 9 = 1 := by kernel_rfl
theorem reads_T_limnographlaw14_Act {H : Type} {enc : TypeId × Value → H} {w : World} {sp : Nat → Bool} {hd : Bool} : ReadsP enc Try.prog w sp hd 29 T_limnographlaw14_Act.rep T_limnographlaw14_Act.ok := by
  intro n cs x h
  obtain ⟨xs, n', _, _, hl, hxl, hf⟩ := DataW.trod_struct Try.underlying29 h
  rw [jc29] at hl
  have h0 : DataW.trod enc Try.prog w 0 sp hd n' 3 ((cs.drop 0).take (Try.prog.cellsOf 3)) = xs[0]? := hf 0 _ rfl
  rw [jc3] at h0
  obtain ⟨y0, hy0⟩ := some_at 0 hxl (show 0 < 3 by decide)
  rw [hy0] at h0
  obtain ⟨z0, r0, q0⟩ := (reads_int Try.underlying3) _ _ _ h0
  have h1 : DataW.trod enc Try.prog w 0 sp hd n' 9 ((cs.drop 1).take (Try.prog.cellsOf 9)) = xs[1]? := hf 1 _ rfl
  rw [jc9] at h1
  obtain ⟨y1, hy1⟩ := some_at 1 hxl (show 1 < 3 by decide)
  rw [hy1] at h1
  obtain ⟨z1, r1, q1⟩ := (reads_text Try.underlying9) _ _ _ h1
  have h2 : DataW.trod enc Try.prog w 0 sp hd n' 3 ((cs.drop 2).take (Try.prog.cellsOf 3)) = xs[2]? := hf 2 _ rfl
  rw [jc3] at h2
  obtain ⟨y2, hy2⟩ := some_at 2 hxl (show 2 < 3 by decide)
  rw [hy2] at h2
  obtain ⟨z2, r2, q2⟩ := (reads_int Try.underlying3) _ _ _ h2
  exact ⟨⟨z0, z1, z2⟩, two_at 0 1 r0 (two_at 1 1 r1 (last_at 2 1 hl r2)), ⟨q0, q1, q2⟩⟩
namespace tablePlays
open Go.ChangeShapes Go.WideShapes Go.ChangeAt Go.RowKit Go.Wk Go
theorem own : ownKnob Try.prog.godebug = none := by kernel_rfl
theorem laidOut : laidOutB Try.prog = true := by kernel_rfl
theorem rd3 : Try.prog.readableRec 3 = true ∧ 3 < Try.prog.types.size := ⟨by kernel_rfl, of_decide_eq_true (by kernel_rfl)⟩
theorem rd22 : Try.prog.readableRec 22 = true ∧ 22 < Try.prog.types.size := ⟨by kernel_rfl, of_decide_eq_true (by kernel_rfl)⟩
theorem readable : ∀ t ∈ Try.f3.params.toList, Try.prog.readableRec t = true ∧ t < Try.prog.types.size := by
  rw [Try.params3]
  exact List.forall_mem_cons.2 ⟨rd3, List.forall_mem_cons.2 ⟨rd22, fun _ h => by cases h⟩⟩
set_option maxRecDepth 100000 in
theorem contract (H : Type) (enc : TypeId × Value → H) (W : World) (base : Nat) (args : Array Value) (ds gs : List (DataW H)) (before : List MemPlace)
    (hval : ∀ (j : Nat) t v, Try.f3.params[j]? = some t → args[j]? = some v → Value.okWide Try.prog W .any base t v)
    (hW : DataW.Whole enc Try.prog Try.f3.params.toList Rows.tablePlaysSpec.vars false W args.toList ds gs before) :
    Calls Try.prog 3 args W fun e W' => ∃ v, e = .returned v ∧ Rows.tablePlaysSpec.post enc Try.prog Try.f3 false true false false W args v W' := by
  have hW' := hW
  obtain ⟨p, q, hA0, hV, rfl, hfz, hnd⟩ := hW
  have hA : DataW.TrodAll enc Try.prog W 0 (fun _ => true) true Try.f3.params.toList args.toList ds p := hA0
  rw [Try.params3] at hA hval
  obtain ⟨v0, vs0, d0, ds0, p0, q0, hargs, rfl, rfl, h0, r0⟩ := trodAll_cons hA
  obtain ⟨v1, vs1, d1, ds1, p1, q1, rfl, rfl, rfl, h1, r1⟩ := trodAll_cons r0
  obtain ⟨rfl, rfl, rfl⟩ := trodAll_nil r1
  obtain rfl : args = #[v0, v1] := by cases args; simp_all
  obtain ⟨rfl, rfl⟩ := trodVars_none hV
  obtain ⟨x0, rfl, k0⟩ := arg_int Try.underlying3 (hval 0 3 v0 rfl rfl) h0
  obtain ⟨x1, A1, c1, rfl, f1, k1⟩ := arg_slice Try.underlying22 jc29 reads_T_limnographlaw14_Act (hval 1 22 v1 rfl rfl) h1
  refine (m_limnographlaw14_TablePlays_sim (Z0 := All) W x0 A1 c1 x1 f1 (plays_law x0 x1 k0 k1)).mono fun e W' ⟨he, hx⟩ => ⟨_, he, ?_⟩
  exact post_of_ext laidOut readable hW' rfl (by kernel_rfl) Try.underlying4 rfl rfl rfl hx.fr
set_option maxRecDepth 100000 in
theorem lifted (os : Os) (started : os.Started) (H : Type) (enc : TypeId × Value → H) :
    ReturnsInHanded {} Try.checked os 3 .any (Rows.tablePlaysSpec.pre6 enc Try.prog Try.f3 Rows.tablePlaysRow.domain false) (Rows.tablePlaysSpec.post enc Try.prog Try.f3 false true false false) := by
  refine returnsInHanded_of_change (C := Try.checked) own started (by kernel_rfl) Try.func3
    (ChangeSpec.witness6 (enc := enc) (C := Try.checked) false ⟨#[], #[.int .i64 0, .slice none 0 0], []⟩ 8 (by kernel_rfl) (by kernel_rfl) (by kernel_rfl) (by kernel_rfl)) ?_
  intro W base args ds gs before hval hW _ _
  exact contract H enc W base args ds gs before hval hW
theorem holds : Rows.TablePlaysSaid :=
  OpenClaim.holds_of_wide 3 Try.f3 rfl rfl rfl rfl rfl rfl rfl ⟨rfl, rfl, rfl, rfl, rfl⟩ rfl rfl rfl rfl rfl (by kernel_rfl) Try.func3 (by kernel_rfl)
    (of_decide_eq_true (by kernel_rfl)) (by unfold Func.isWrapper; first | (rw [if_pos (by decide +kernel)]; kernel_rfl) | (rw [if_neg (by decide +kernel)]; exact ⟨rfl, rfl⟩))
    (fun os started H enc _ => lifted os started H enc)
end tablePlays
namespace tableOldest
open Go.ChangeShapes Go.WideShapes Go.ChangeAt Go.RowKit Go.Wk Go
theorem own : ownKnob Try.prog.godebug = none := by kernel_rfl
theorem laidOut : laidOutB Try.prog = true := by kernel_rfl
theorem rd22 : Try.prog.readableRec 22 = true ∧ 22 < Try.prog.types.size := ⟨by kernel_rfl, of_decide_eq_true (by kernel_rfl)⟩
theorem readable : ∀ t ∈ Try.f4.params.toList, Try.prog.readableRec t = true ∧ t < Try.prog.types.size := by
  rw [Try.params4]
  exact List.forall_mem_cons.2 ⟨rd22, fun _ h => by cases h⟩
set_option maxRecDepth 100000 in
theorem contract (H : Type) (enc : TypeId × Value → H) (W : World) (base : Nat) (args : Array Value) (ds gs : List (DataW H)) (before : List MemPlace)
    (hval : ∀ (j : Nat) t v, Try.f4.params[j]? = some t → args[j]? = some v → Value.okWide Try.prog W .any base t v)
    (hW : DataW.Whole enc Try.prog Try.f4.params.toList Rows.tableOldestSpec.vars false W args.toList ds gs before) :
    Calls Try.prog 4 args W fun e W' => ∃ v, e = .returned v ∧ Rows.tableOldestSpec.post enc Try.prog Try.f4 false true false false W args v W' := by
  have hW' := hW
  obtain ⟨p, q, hA0, hV, rfl, hfz, hnd⟩ := hW
  have hA : DataW.TrodAll enc Try.prog W 0 (fun _ => true) true Try.f4.params.toList args.toList ds p := hA0
  rw [Try.params4] at hA hval
  obtain ⟨v0, vs0, d0, ds0, p0, q0, hargs, rfl, rfl, h0, r0⟩ := trodAll_cons hA
  obtain ⟨rfl, rfl, rfl⟩ := trodAll_nil r0
  obtain rfl : args = #[v0] := by cases args; simp_all
  obtain ⟨rfl, rfl⟩ := trodVars_none hV
  obtain ⟨x0, A0, c0, rfl, f0, k0⟩ := arg_slice Try.underlying22 jc29 reads_T_limnographlaw14_Act (hval 0 22 v0 rfl rfl) h0
  refine (m_limnographlaw14_TableOldest_sim (Z0 := All) W A0 c0 x0 f0 (oldest_law x0 k0)).mono fun e W' ⟨he, hx⟩ => ⟨_, he, ?_⟩
  exact post_of_ext laidOut readable hW' rfl (by kernel_rfl) Try.underlying4 rfl rfl rfl hx.fr
set_option maxRecDepth 100000 in
theorem lifted (os : Os) (started : os.Started) (H : Type) (enc : TypeId × Value → H) :
    ReturnsInHanded {} Try.checked os 4 .any (Rows.tableOldestSpec.pre6 enc Try.prog Try.f4 Rows.tableOldestRow.domain false) (Rows.tableOldestSpec.post enc Try.prog Try.f4 false true false false) := by
  refine returnsInHanded_of_change (C := Try.checked) own started (by kernel_rfl) Try.func4
    (ChangeSpec.witness6 (enc := enc) (C := Try.checked) false ⟨#[], #[.slice none 0 0], []⟩ 8 (by kernel_rfl) (by kernel_rfl) (by kernel_rfl) (by kernel_rfl)) ?_
  intro W base args ds gs before hval hW _ _
  exact contract H enc W base args ds gs before hval hW
theorem holds : Rows.TableOldestSaid :=
  OpenClaim.holds_of_wide 4 Try.f4 rfl rfl rfl rfl rfl rfl rfl ⟨rfl, rfl, rfl, rfl, rfl⟩ rfl rfl rfl rfl rfl (by kernel_rfl) Try.func4 (by kernel_rfl)
    (of_decide_eq_true (by kernel_rfl)) (by unfold Func.isWrapper; first | (rw [if_pos (by decide +kernel)]; kernel_rfl) | (rw [if_neg (by decide +kernel)]; exact ⟨rfl, rfl⟩))
    (fun os started H enc _ => lifted os started H enc)
end tableOldest
end Go.Proofs.Ytklaeckldfooaaa
