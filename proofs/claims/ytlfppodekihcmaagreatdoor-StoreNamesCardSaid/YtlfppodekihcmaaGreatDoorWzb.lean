/-
  The bytes of a text as a row of one's own, of which elements are written, that does not grow.
-/
import Derived.Test.YtlfppodekihcmaaGreatDoorWw
set_option linter.unusedVariables false
set_option linter.unusedSimpArgs false
namespace Go.Wk
open Go Go.RowKit
/-- A row of bytes of its own; cells behind them may be marked. -/
def zbR (el b : Nat) (l : List UInt8) : Rs where
  F := fun x => x = b
  H := fun _ w => ∃ (z : Nat × Nat) (pad : List Value), w.heap[b]? = some (.cells (l.map I8 ++ pad).toArray el z) ∧ l.length ≤ z.1
  keep := fun {_ _ w _} h hF _ _ => by
    obtain ⟨z, pad, h1, h2⟩ := h
    have hlt : b < w.heap.size := (Array.getElem?_eq_some_iff.1 h1).1
    exact ⟨z, pad, by rw [hF b rfl hlt]; exact h1, h2⟩
  lt := fun h b' hb => by
    obtain ⟨z, pad, h1, _⟩ := h
    have hlt := (Array.getElem?_eq_some_iff.1 h1).1
    have hb' : b' = b := hb
    rw [hb']; exact hlt
theorem zb_cell {Z : Nat → Prop} {w : World} {el b : Nat} {l : List UInt8} (h : (zbR el b l).H Z w) {k : Nat} {x : UInt8} (hx : l[k]? = some x) : w.cell? ⟨b, k, none⟩ = some (I8 x) := by
  obtain ⟨z, pad, h1, _⟩ := h
  have hk := lt_of_get hx
  simp only [World.cell?, h1, Option.isSome_none, Bool.false_eq_true, if_false]
  rw [List.getElem?_toArray, List.getElem?_append_left (by simpa using hk), List.getElem?_map, hx]
  rfl
theorem zb_sl {Z : Nat → Prop} {w : World} {el b : Nat} {l : List UInt8} (h : (zbR el b l).H Z w) : Sl All w (some ⟨b, 0, none⟩) byteR l := fun _ => ⟨b, 0, rfl, trivial, fun k x hx => ⟨[I8 x], fun j v hv => by
  cases j with
  | succ j => simp at hv
  | zero =>
    simp at hv; subst hv
    have hsz : byteR.sz = 1 := rfl
    rw [hsz, Nat.mul_one, Nat.zero_add, Nat.add_zero]
    exact zb_cell h hx, rfl, trivial⟩⟩
theorem s2bz_run {P : Program} {s t el : TypeId} (hs : P.underlying s = some .string) (ht : P.underlying t = some (.slice el)) (he : P.underlying el = some (.int .u8)) (l : List UInt8) (w : World) :
    ∃ c w', (convert s t (Str l)).run P w = .ok (.slice (some ⟨w.heap.size, 0, none⟩) l.length c) w' ∧ Ext w w' ∧ (zbR el w.heap.size l).H All w' := by
  have hq : (⟨l.toArray⟩ : ByteArray).size = l.length := by simp [ByteArray.size]
  have hr := run_bytes_of_string (P := P) w s t el ⟨l.toArray⟩ hs ht he
  rw [hq] at hr
  have hge := grownCap_ge w l.length 0 el
  refine ⟨_, _, hr, (Ext.drew w).trans (Ext.alloc _ _), ((bytesRow ⟨l.toArray⟩ (grownCap w l.length 0 el)).size, (bytesRow ⟨l.toArray⟩ (grownCap w l.length 0 el)).size + 1), List.replicate (grownCap w l.length 0 el - l.length) (.int .u8 0), ?_, ?_⟩
  · have hnew := heap_alloc_new w.drew (.cells (bytesRow ⟨l.toArray⟩ (grownCap w l.length 0 el)) el ((bytesRow ⟨l.toArray⟩ (grownCap w l.length 0 el)).size, (bytesRow ⟨l.toArray⟩ (grownCap w l.length 0 el)).size + 1))
    have hsz : w.drew.heap.size = w.heap.size := rfl
    rw [hsz] at hnew
    rw [hnew]
    congr 2
    unfold bytesRow
    apply Array.ext'
    simp [hq]
  · unfold bytesRow
    simp
section
variable {Z0 S : Nat → Prop} {w0 w : World} {L : List Rs}
theorem Hp.zbAt {gb kk : Nat} {xs : List UInt8} {et : TypeId} {z : UInt8} (hm : Hp Z0 S w0 w L) (m' : Nat) (hi : L[m']? = some (zbR et gb xs)) (hz : xs[kk]? = some z) : ∃ vs, Rd w gb (kk * byteR.sz) vs ∧ byteR.rel (Zo Z0 S w0 L) w vs z := by
  have h := zb_cell (hm.get m' hi) hz
  refine ⟨[I8 z], fun j v hv => ?_, rfl, trivial⟩
  cases j with
  | succ j => simp at hv
  | zero =>
    simp at hv; subst hv
    have hsz : byteR.sz = 1 := rfl
    rw [hsz, Nat.mul_one, Nat.add_zero]
    exact h
variable {P : Program} {f : FuncId} {n : Nat} {R : Ending → World → Prop} {k : List Item} {e : Env}
variable {ops : Array Oper} {i : Nat} {rest : List Nat} {d : Nat} {dst : Option Nat} {ty : TypeId} {pos : String} {af : Array Edge} {g : Option (Nat × Bool)}
theorem Rn.s2bZ {s t el : TypeId} {x : Operand} {l z : List UInt8} (hm : Hp Z0 S w0 w L) (hz : lenS l = some z) (ho : ops[i]? = some ⟨some d, .convert s t x, ty, pos, af, g⟩) (hg : gok e ops g = true) (hn : Nat.blt d n = true) (hs : P.underlying s = some .string) (ht : P.underlying t = some (.slice el)) (he : P.underlying el = some (.int .u8)) (hx : ev e x = some (Str l))
    (h : ∀ b c w', Hp Z0 S w0 w' (L ++ [zbR el b z]) → Rn P f n R (.inRegion ops rest :: k) ((d, .slice (some ⟨b, 0, none⟩) z.length c) :: e) w') : Rn P f n R (.inRegion ops (i :: rest) :: k) e w := by
  obtain ⟨_, rfl⟩ := lenE hz
  obtain ⟨c, w', hr, hE, hH⟩ := s2bz_run (P := P) hs ht he z w
  exact Rn.opV ho hg rfl hn (fun a hf => by simp [execOp, ev_eval hf hx, hr]) (h _ c w' (hm.add (zbR el w.heap.size z) hE (fun x hx => by have hx' : x = w.heap.size := hx; omega) fun _ _ => hH))
theorem zb_store {w : World} {el b kk : Nat} {xs : List UInt8} {Z : Nat → Prop} (h : (zbR el b xs).H Z w) (hk : kk < xs.length) (z : UInt8) :
    (storeCells ⟨b, kk, none⟩ [I8 z] 0).run P w = .ok () (w.setCell ⟨b, kk, none⟩ (I8 z)) ∧ ∀ Z', (zbR el b (xs.set kk z)).H Z' (w.setCell ⟨b, kk, none⟩ (I8 z)) := by
  have hc : w.cell? ⟨b, kk, none⟩ = some (I8 xs[kk]) := zb_cell h (List.getElem?_eq_getElem hk)
  obtain ⟨q, pad, h1, h2⟩ := h
  have hf : w.frozen? ⟨b, kk, none⟩ = false := by simp [World.frozen?, h1]; omega
  constructor
  · rw [storeCells]
    simp only [Sem.run_bind, Addr.add_none, Nat.add_zero, run_store P w ⟨b, kk, none⟩ (I8 z) .plain (by simp [Value.oneCell']), hc, hf, Bool.false_eq_true, if_false, Result.andThen_ok]
    rfl
  · intro Z'
    refine ⟨q, pad, ?_, by simpa using h2⟩
    simp only [World.setCell, Array.getElem?_modify, h1, if_true, Option.map_some]
    congr 2
    apply Array.ext'
    simp [List.map_set, List.set_append, hk]
theorem Rn.stZ {t el : TypeId} {x y : Operand} {gb kk : Nat} {j : Int} {xs : List UInt8} {z : UInt8} (hm : Hp Z0 S w0 w L) (m' : Nat) (hi : L[m']? = some (zbR el gb xs)) (hj : j = (kk : Int)) (hk : kk < xs.length) (ho : ops[i]? = some ⟨none, .store t x y, ty, pos, af, g⟩) (hg : gok e ops g = true)
    (hs : ∀ w, (sizeOf t).run P w = .ok 1 w) (hx : ev e x = some (.pointer (some ⟨gb, kk * 1, none⟩))) (hy : ev e y = some (I8 z))
    (h : ∀ w', Hp Z0 S w0 w' (L.set m' (zbR el gb (setI xs j z))) → Rn P f n R (.inRegion ops rest :: k) e w') : Rn P f n R (.inRegion ops (i :: rest) :: k) e w := by
  subst hj
  rw [Nat.mul_one] at hx
  obtain ⟨hr, hH⟩ := zb_store (P := P) (hm.get m' hi) hk z
  refine Rn.opU (w' := w.setCell ⟨gb, kk, none⟩ (I8 z)) ho hg rfl (fun a hf => ?_) (h _ (hm.upd m' (zbR el gb (xs.set kk z)) hi (Fr.setCell w ⟨gb, kk, none⟩ (I8 z)) (fun x hx => .inl hx) fun Z' _ _ => hH Z'))
  have hv : (I8 z).cells = [I8 z].toArray := by simp [Value.cells]
  simp [execOp, ev_eval hf hx, ev_eval hf hy, Instr.storeAt, Instr.sureAddr, storeVar, hs, hv, hr]
end
/-- The library's strings.Repeat in plain words. -/
def repE (s : List UInt8) (c : Int) : Option (List UInt8) := if 0 ≤ c ∧ c ≤ 9223372036854775807 ∧ s.length * c.toNat ≤ 140737488355328 then some (List.replicate c.toNat s).flatten else none
theorem repE_some {s : List UInt8} {c : Int} {r : List UInt8} (h : repE s c = some r) : 0 ≤ c ∧ (c ≤ 9223372036854775807 ∧ s.length * c.toNat ≤ 140737488355328) ∧ r = (List.replicate c.toNat s).flatten := by
  unfold repE at h
  split at h
  · rename_i hg
    exact ⟨hg.1, hg.2, (Option.some.inj h).symm⟩
  · cases h
end Go.Wk
