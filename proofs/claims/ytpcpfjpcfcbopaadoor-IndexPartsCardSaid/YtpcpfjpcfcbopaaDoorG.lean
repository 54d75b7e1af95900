/-
  What the row says of the package variable, told as cells. Printed by a program.
-/
import Derived.Test.YtpcpfjpcfcbopaaDoorWo
import Derived.Test.YtpcpfjpcfcbopaaDoorSA2
import Derived.Test.YtpcpfjpcfcbopaaDoorTie
import Derived.MakeChecks
set_option maxRecDepth 100000
set_option linter.unusedVariables false
set_option linter.unusedSimpArgs false
namespace Go.Proofs.YtpcpfjpcfcbopaaDoor
open Go Go.RowKit Go.Wk Go.WideShapes Go.ChangeShapes
abbrev laidAll : List (String × DataW Unit) := [("limnograph/glob.none", Rows.laid_limnograph_glob_none)]
theorem laid_cells {W : World} (h : laidMetH Tryd.prog laidAll W) : (rdR 0 0 gl0).H All W := by
  rw [MakeChecks.laidMetH_plain _ _ _ (by kernel_rfl)] at h
  obtain ⟨ps, ⟨g2, t2, cs2, fuel2, p2, q2, hg2, ht2, hv2, hd2, _, _⟩, _, _⟩ := h
  obtain rfl := Option.some.inj ((show Tryd.prog.globalNamed "limnograph/glob.none" = some 0 by kernel_rfl).symm.trans hg2)
  obtain rfl := Option.some.inj ((show (Tryd.prog.globals[0]?).map (·.type) = some 89 by kernel_rfl).symm.trans ht2)
  refine ⟨fun _ => trivial, ?_⟩
  obtain ⟨xs, n', _, ex, hl, hxl, hf⟩ := DataW.trod_struct Tryd.underlying89 hd2
  have ca : Tryd.prog.cellsOf 3 = 1 := by kernel_rfl
  have cb : Tryd.prog.cellsOf 33 = 1 := by kernel_rfl
  have ct : Tryd.prog.cellsOf 89 = 2 := by kernel_rfl
  rw [ct] at hl
  have f0 : DataW.trod (fun _ => ()) Tryd.prog W 0 (fun _ => true) false n' 3 ((cs2.toList.drop 0).take (Tryd.prog.cellsOf 3)) = xs[0]? := hf 0 _ rfl
  have f1 : DataW.trod (fun _ => ()) Tryd.prog W 0 (fun _ => true) false n' 33 ((cs2.toList.drop 1).take (Tryd.prog.cellsOf 33)) = xs[1]? := hf 1 _ rfl
  obtain ⟨a, b, rfl⟩ : ∃ a b, xs = [a, b] := by
    match xs, hxl with
    | [a, b], _ => exact ⟨a, b, rfl⟩
  obtain ⟨z0, q0, d0, _⟩ := DataW.trod_int Tryd.underlying3 f0
  obtain ⟨z1, q1, d1, _⟩ := DataW.trod_int Tryd.underlying33 f1
  subst d0 d1
  have ex' := DataW.agg.inj (Prod.mk.inj ex).1
  simp only [List.map_cons, List.map_nil, List.cons.injEq, DataW.lit.injEq, Lit.int.injEq, true_and, and_true] at ex'
  obtain ⟨rfl, rfl⟩ := ex'
  intro r v hr
  rw [Nat.zero_add, World.var?_cell hg2 hv2 r]
  rw [ca] at q0
  rw [cb] at q1
  have g0 : cs2.toList[0]? = some (.int .i64 0) := by
    have h0 : ((cs2.toList.drop 0).take 1)[0]? = some (.int .i64 0) := by rw [q0]; rfl
    simpa using h0
  have g1 : cs2.toList[1]? = some (.int .i64 0) := by
    have h0 : ((cs2.toList.drop 1).take 1)[0]? = some (.int .i64 0) := by rw [q1]; rfl
    simpa using h0
  match r, hr with
  | 0, hr => rw [← Option.some.inj hr]; simpa using g0
  | 1, hr => rw [← Option.some.inj hr]; simpa using g1
end Go.Proofs.YtpcpfjpcfcbopaaDoor
