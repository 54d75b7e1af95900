/-
  The join for spans: what is read as a span lies there as one. Plain Lean.
-/
import Derived.Test.YtpeloppldpdonaaWj
import Derived.Test.YtpeloppldpdonaaPf
namespace Go.Wk
open Go Go.RowKit Go.WideShapes Go.ChangeShapes
theorem reads_span {H : Type} {enc : TypeId × Value → H} {P : Program} {w : World} {sp : Nat → Bool} {hd : Bool} {e : TypeId} {f0 f1 : Field} (hs : P.underlying e = some (.struct #[f0, f1])) (o0 : f0.offset = 0) (o1 : f1.offset = 1) (i0 : P.underlying f0.type = some (.int .i64)) (i1 : P.underlying f1.type = some (.int .i64)) (c0 : P.cellsOf f0.type = 1) (c1 : P.cellsOf f1.type = 1) (ce : P.cellsOf e = 2) : Reads enc P w sp hd e spanR := by
  intro n cs x h
  obtain ⟨xs, n', _, _, hl, hxl, hf⟩ := DataW.trod_struct hs h
  rw [ce] at hl
  match cs, hl with
  | [a, b], _ =>
    match xs, hxl with
    | [y0, y1], _ =>
      have h0 := hf 0 f0 rfl
      have h1 := hf 1 f1 rfl
      rw [o0, c0] at h0
      rw [o1, c1] at h1
      obtain ⟨z0, hz0, _⟩ := DataW.trod_int i0 h0
      obtain ⟨z1, hz1, _⟩ := DataW.trod_int i1 h1
      simp at hz0 hz1
      exact ⟨(z0, z1), by show [a, b] = _; rw [hz0, hz1], trivial⟩
end Go.Wk
