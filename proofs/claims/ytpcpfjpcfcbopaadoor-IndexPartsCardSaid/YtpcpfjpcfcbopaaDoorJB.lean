/-
  The join of these laws: from their plain forms to the rows. Printed by a program.
-/
import Derived.Test.YtpcpfjpcfcbopaaDoorWo
import Derived.Test.YtpcpfjpcfcbopaaDoorTie
import Derived.Test.YtpcpfjpcfcbopaaDoorCards
import Derived.Test.YtpcpfjpcfcbopaaDoorG
import Derived.ProofKit
import Derived.OpenShut
import Derived.LaidMore
import Derived.Lay
import Derived.SevenTiedAt
import Derived.Stop.Joined
import Derived.Test.YtpcpfjpcfcbopaaDoorSA2
import Derived.Test.YtpcpfjpcfcbopaaDoorX9
set_option linter.unusedVariables false
set_option linter.unusedSimpArgs false
namespace Go.Proofs.YtpcpfjpcfcbopaaDoor
open Go Go.RowKit Go.Wk Go.WideShapes Go.ChangeShapes
theorem jc9 : Tryd.prog.cellsOf 9 = 1 := by kernel_rfl
theorem jc40 : Tryd.prog.cellsOf 40 = 3 := by kernel_rfl
def T_api_Match.ok (x : T_api_Match) : Prop := (x.Key.length ≤ maxLen) ∧ (x.Glob.length ≤ maxLen) ∧ (True)
theorem jc4 : Tryd.prog.cellsOf 4 = 1 := by kernel_rfl
theorem reads_T_api_Match {H : Type} {enc : TypeId × Value → H} {w : World} {sp : Nat → Bool} {hd : Bool} : ReadsP enc Tryd.prog w sp hd 40 T_api_Match.rep T_api_Match.ok := by
  intro n cs x h
  obtain ⟨xs, n', _, _, hl, hxl, hf⟩ := DataW.trod_struct Tryd.underlying40 h
  rw [jc40] at hl
  have h0 : DataW.trod enc Tryd.prog w 0 sp hd n' 9 ((cs.drop 0).take (Tryd.prog.cellsOf 9)) = xs[0]? := hf 0 _ rfl
  rw [jc9] at h0
  obtain ⟨y0, hy0⟩ := some_at 0 hxl (show 0 < 3 by decide)
  rw [hy0] at h0
  obtain ⟨z0, r0, q0⟩ := (reads_text Tryd.underlying9) _ _ _ h0
  have h1 : DataW.trod enc Tryd.prog w 0 sp hd n' 9 ((cs.drop 1).take (Tryd.prog.cellsOf 9)) = xs[1]? := hf 1 _ rfl
  rw [jc9] at h1
  obtain ⟨y1, hy1⟩ := some_at 1 hxl (show 1 < 3 by decide)
  rw [hy1] at h1
  obtain ⟨z1, r1, q1⟩ := (reads_text Tryd.underlying9) _ _ _ h1
  have h2 : DataW.trod enc Tryd.prog w 0 sp hd n' 4 ((cs.drop 2).take (Tryd.prog.cellsOf 4)) = xs[2]? := hf 2 _ rfl
  rw [jc4] at h2
  obtain ⟨y2, hy2⟩ := some_at 2 hxl (show 2 < 3 by decide)
  rw [hy2] at h2
  obtain ⟨z2, r2, q2⟩ := (reads_bool Tryd.underlying4) _ _ _ h2
  exact ⟨⟨z0, z1, z2⟩, two_at 0 1 r0 (two_at 1 1 r1 (last_at 2 1 hl r2)), ⟨q0, q1, q2⟩⟩
namespace indexParts
open Go.ChangeShapes Go.WideShapes Go.ChangeAt Go.RowKit Go.Wk Go
theorem own : ownKnob Tryd.prog.godebug = none := by kernel_rfl
theorem laidOut : laidOutB Tryd.prog = true := by kernel_rfl
theorem rd28 : Tryd.prog.readableRec 28 = true ∧ 28 < Tryd.prog.types.size := ⟨by kernel_rfl, of_decide_eq_true (by kernel_rfl)⟩
theorem rd29 : Tryd.prog.readableRec 29 = true ∧ 29 < Tryd.prog.types.size := ⟨by kernel_rfl, of_decide_eq_true (by kernel_rfl)⟩
theorem readable : ∀ t ∈ Tryd.f4.params.toList, Tryd.prog.readableRec t = true ∧ t < Tryd.prog.types.size := by
  rw [Tryd.params4]
  exact List.forall_mem_cons.2 ⟨rd28, List.forall_mem_cons.2 ⟨rd29, List.forall_mem_cons.2 ⟨rd29, fun _ h => by cases h⟩⟩⟩
set_option maxRecDepth 100000 in
theorem contract (H : Type) (enc : TypeId × Value → H) (W : World) (base : Nat) (args : Array Value) (ds gs : List (DataW H)) (before : List MemPlace)
    (hval : ∀ (j : Nat) t v, Tryd.f4.params[j]? = some t → args[j]? = some v → Value.okWide Tryd.prog W .any base t v)
    (hW : DataW.Whole enc Tryd.prog Tryd.f4.params.toList Rows.indexPartsSpec.vars false W args.toList ds gs before) (hL : laidMetH Tryd.prog laidAll W) :
    Calls Tryd.prog 4 args W fun e W' => ∃ v, e = .returned v ∧ Rows.indexPartsSpec.post enc Tryd.prog Tryd.f4 false true false false W args v W' := by
  have hW' := hW
  obtain ⟨p, q, hA0, hV, rfl, hfz, hnd⟩ := hW
  have hA : DataW.TrodAll enc Tryd.prog W 0 (fun _ => true) true Tryd.f4.params.toList args.toList ds p := hA0
  rw [Tryd.params4] at hA hval
  obtain ⟨v0, vs0, d0, ds0, p0, q0, hargs, rfl, rfl, h0, r0⟩ := trodAll_cons hA
  obtain ⟨v1, vs1, d1, ds1, p1, q1, rfl, rfl, rfl, h1, r1⟩ := trodAll_cons r0
  obtain ⟨v2, vs2, d2, ds2, p2, q2, rfl, rfl, rfl, h2, r2⟩ := trodAll_cons r1
  obtain ⟨rfl, rfl, rfl⟩ := trodAll_nil r2
  obtain rfl : args = #[v0, v1, v2] := by cases args; simp_all
  obtain ⟨rfl, rfl⟩ := trodVars_none hV
  obtain ⟨x0, A0, c0, rfl, f0, k0⟩ := arg_slice Tryd.underlying28 jc9 (reads_text Tryd.underlying9) (hval 0 28 v0 rfl rfl) h0
  obtain ⟨x1, A1, c1, rfl, f1, k1⟩ := arg_slice Tryd.underlying29 jc40 reads_T_api_Match (hval 1 29 v1 rfl rfl) h1
  obtain ⟨x2, A2, c2, rfl, f2, k2⟩ := arg_slice Tryd.underlying29 jc40 reads_T_api_Match (hval 2 29 v2 rfl rfl) h2
  have g0 := laid_cells hL
  refine (m_limnographlaw35_IndexParts_sim (Z0 := All) (parts_law x0 x1 x2) f0 f1 f2 g0 :).mono fun e W' ⟨he, hx⟩ => ⟨_, he, ?_⟩
  exact post_of_ext laidOut readable hW' rfl (by kernel_rfl) Tryd.underlying4 rfl rfl rfl hx.fr
set_option maxRecDepth 100000 in
theorem lifted (os : Os) (started : os.Started) (H : Type) (enc : TypeId × Value → H) :
    ReturnsInHanded {} Tryd.checked os 4 .any (fun w args => (Rows.indexPartsSpec.pre enc Tryd.prog Tryd.f4 Rows.indexPartsRow.domain false w args ∧ laidMetH Tryd.prog laidAll w) ∧ sizedMet enc Tryd.prog Tryd.f4 (OpenSpec.ofChange Rows.indexPartsSpec) false w args) (Rows.indexPartsSpec.post enc Tryd.prog Tryd.f4 false true false false) := by
  refine returnsInHanded_of_change_and (C := Tryd.checked) (X := fun w _ => laidMetH Tryd.prog laidAll w) (fun _ _ _ hh h => h.of_heap hh) own started (by kernel_rfl) Tryd.func4
    (ChangeSpec.witness_shaped (enc := enc) (C := Tryd.checked) (os := os) (X := fun w _ => laidMetH Tryd.prog laidAll w) false (World.laidAll Tryd.prog os laidAll) #[.slice none 0 0, .slice none 0 0, .slice none 0 0] 8 (World.laidAll_os _ _ _)
      (World.shaped_of_ZipB (by kernel_rfl) (by kernel_rfl)) (by kernel_rfl) (by kernel_rfl) (by kernel_rfl)
      (by rw [MakeChecks.laidMetH_plain _ _ _ (by kernel_rfl)]; exact laidMet_laidAll _ (by kernel_rfl) (by kernel_rfl))) ?_
  intro W base args ds gs before hval hW _ _ hL _
  exact contract H enc W base args ds gs before hval hW hL
theorem holds : Rows.IndexPartsSaid :=
  OpenClaim.holds_of_wide 4 Tryd.f4 rfl rfl rfl rfl rfl rfl rfl ⟨rfl, rfl, rfl, rfl, rfl⟩ rfl rfl rfl rfl rfl (by kernel_rfl) Tryd.func4 (by kernel_rfl)
    (of_decide_eq_true (by kernel_rfl)) (by unfold Func.isWrapper; first | (rw [if_pos (by decide +kernel)]; kernel_rfl) | (rw [if_neg (by decide +kernel)]; exact ⟨rfl, rfl⟩))
    (fun os started H enc _ => lifted os started H enc)
set_option maxRecDepth 100000 in
theorem cardHolds : Rows.IndexPartsCardSaid :=
  Claim7.holds_tied_plain_at .later [] [.data] true (true, "654a2807c9c9a26a8efdef7a891824db3ed52dba1918bddb7ed78f4f4dc38024") false holds (fun _ h => by cases h) (by kernel_rfl) (fun _ h => by cases h) indexParts_row_tie rfl ⟨rfl, rfl⟩ (by kernel_rfl) rfl
    (fun f fn hf hfn => by
      obtain rfl : f = 4 := Option.some.inj ((show Tryd.prog.funcNamed "limnograph/limnographlaw35.IndexParts" = some 4 by kernel_rfl).symm.trans hf) |>.symm
      obtain rfl : fn = Tryd.f4 := (Option.some.inj (Tryd.func4.symm.trans hfn)).symm
      exact ⟨by kernel_rfl, fun j t ht => by
        rw [Tryd.params4] at ht
        have hm : t ∈ [28, 29, 29] := by simpa using Array.mem_of_getElem? ht
        have hall : ([28, 29, 29].all fun u => !Tryd.prog.wantsStandIn u) = true := by kernel_rfl
        exact (show Tryd.prog.wantsStandIn t = false by simpa using List.all_eq_true.1 hall t hm)⟩)
    (by kernel_rfl)
end indexParts
end Go.Proofs.YtpcpfjpcfcbopaaDoor
