/-
  Arrays of numbers in memory, one element by a changing index: read and written. Plain laws over any program.
-/
import Derived.Test.YtpcpfjpcfcbopaaDoorWz
set_option linter.unusedVariables false
set_option linter.unusedSimpArgs false
namespace Go.Wk
open Go Go.RowKit
section
variable {α : Type} {w : World} {b : Nat}
theorem ar_get {pre post : List Value} {L : List α} {f : α → Value} {kk : Nat} {z : α} (hz : L[kk]? = some z) : (pre ++ (L.map f ++ post))[pre.length + kk]? = some (f z) := by
  have hl : kk < L.length := (List.getElem?_eq_some_iff.1 hz).1
  rw [List.getElem?_append_right (by omega), show pre.length + kk - pre.length = kk by omega, List.getElem?_append_left (by simpa using hl), List.getElem?_map, hz]; rfl
/-- One element of an array that lies in cells from 'off' on. -/
theorem ar_rd {cs pre post : List Value} {L : List α} (f : α → Value) {off kk : Nat} {z : α} (h : Rd w b 0 cs) (hc : cs = pre ++ (L.map f ++ post)) (ho : off = pre.length) (hz : L[kk]? = some z) : Rd w b (off + kk * 1) [f z] := by
  intro i v hi
  cases i with
  | zero =>
    injection hi with hi
    subst hi
    have := h (pre.length + kk) (f z) (by rw [hc]; exact ar_get hz)
    rw [ho]
    simpa using this
  | succ i => simp at hi
/-- One element of an array that lies in these cells. -/
theorem ar_rd0 {L : List α} (f : α → Value) {o kk : Nat} {z : α} (h : Rd w b o (L.map f)) (hz : L[kk]? = some z) : Rd w b (o + kk * 1) [f z] := by
  intro i v hi
  cases i with
  | zero =>
    injection hi with hi
    subst hi
    have := h kk (f z) (by rw [List.getElem?_map, hz]; rfl)
    simpa using this
  | succ i => simp at hi
theorem ar_set {cs pre post : List Value} {L : List α} (f : α → Value) {off kk : Nat} {v : α} (hc : cs = pre ++ (L.map f ++ post)) (ho : off = pre.length) (hk : kk < L.length) : setL cs (off + kk * 1) [f v] = pre ++ ((L.set kk v).map f ++ post) := by
  subst hc ho
  have e : pre.length + kk * 1 = pre.length + kk := by omega
  rw [e]
  have h1 : (pre ++ (L.map f ++ post)).set (pre.length + kk) (f v) = pre ++ ((L.set kk v).map f ++ post) := by
    rw [List.set_append_right _ _ (by omega), show pre.length + kk - pre.length = kk by omega, List.set_append_left _ _ (by simpa using hk), List.map_set]
  simpa [setL] using h1
theorem set4 {a0 a1 a2 a3 v : α} {j : Int} {kk : Nat} (hj : j = (kk : Int)) (hk : kk < 4) : ([a0, a1, a2, a3] : List α).set kk v = [if j = 0 then v else a0, if j = 1 then v else a1, if j = 2 then v else a2, if j = 3 then v else a3] := by
  subst hj
  match kk, hk with
  | 0, _ => rfl
  | 1, _ => rfl
  | 2, _ => rfl
  | 3, _ => rfl
end
end Go.Wk
