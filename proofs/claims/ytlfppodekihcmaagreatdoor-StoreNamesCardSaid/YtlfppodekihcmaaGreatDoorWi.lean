/-
  The walk by places: more of the regions whose order is drawn. Plain laws over any program.
-/
import Derived.Test.YtlfppodekihcmaaGreatDoorWh
set_option linter.unusedVariables false
set_option linter.unusedSimpArgs false
namespace Go.Wk
open Go Go.RowKit
variable {K : Act → World → Prop}
section
variable {P : Program} {f : FuncId} {n : Nat} {R : Ending → World → Prop} {k : List Item} {e : Env} {w : World}
variable {ops : Array Oper} {S : World → Prop} {fuel : Nat} {listed : Array Bool} {d : Nat} {ty : TypeId} {pos : String} {af : Array Edge} {g : Option (Nat × Bool)}
theorem RH.s2b {s t el : TypeId} {x : Operand} {l : List UInt8} (i : Nat) (hr : Region.ready .any ops listed = [i]) (ho : ops[i]? = some ⟨some d, .convert s t x, ty, pos, af, g⟩) (hg : gok e ops g = true) (hn : Nat.blt d n = true) (hs : P.underlying s = some .string) (ht : P.underlying t = some (.slice el)) (he : P.underlying el = some (.int .u8)) (hx : ev e x = some (Str l)) (hl : l.length ≤ maxLen)
    (h : ∀ b c w', b = w.heap.size → l.length ≤ c → c ≤ maxLen → Ext w w' → b < w'.heap.size → Sl (fun x => x = b) w' (some ⟨b, 0, none⟩) byteR l → S w' ∧ RG P n K ops S fuel (listed.setIfInBounds i true) ((d, .slice (some ⟨b, 0, none⟩) l.length c) :: e) w') : RG P n K ops S (fuel + 1) listed e w := by
  obtain ⟨c, w', hr', h1, h2, h3, h4, h5⟩ := s2b_run (P := P) hs ht he l hl w
  obtain ⟨h6, h7⟩ := h _ c w' rfl h1 h2 h3 (by omega) h5
  exact RH.one i hr ho hg rfl hn (fun a hf => by simp [execOp, ev_eval hf hx, hr']) h6 h7
theorem RH.box {t : TypeId} {x : Operand} {v : Value} {cs : List Value} (i : Nat) (hr : Region.ready .any ops listed = [i]) (ho : ops[i]? = some ⟨some d, .box t x, ty, pos, af, g⟩) (hg : gok e ops g = true) (hn : Nat.blt d n = true) (hx : ev e x = some v) (hc : v.cells = cs.toArray)
    (h : ∀ b w', b = w.heap.size → Blk w' b t cs → Ext w w' → S w' ∧ RG P n K ops S fuel (listed.setIfInBounds i true) ((d, .pointer (some ⟨b, 0, none⟩)) :: e) w') : RG P n K ops S (fuel + 1) listed e w := by
  obtain ⟨h6, h7⟩ := h w.heap.size (w.alloc (.cells cs.toArray t)) rfl (Blk.new w t cs) (Ext.alloc w _)
  exact RH.one i hr ho hg rfl hn (V.box hx hc) h6 h7
theorem RH.mu {t kt et : TypeId} {x y z : Operand} {b c : Nat} {l : Ms} {key : List UInt8} {v : Value} (i : Nat) (hr : Region.ready .any ops listed = [i]) (ho : ops[i]? = some ⟨none, .mapUpdate t x y z, ty, pos, af, g⟩) (hg : gok e ops g = true) (ht : P.underlying t = some (.map kt et)) (hk : P.underlying kt = some .string) (hx : ev e x = some (.map (some b))) (hy : ev e y = some (Str key)) (hz : ev e z = some v) (hM : Mp w b l c)
    (h : ∀ c' w', Mp w' b (putM key v c l) c' → Fr (fun x => x = b) w w' → c' = (if (lookM l key).isSome then c else c + 1) → S w' ∧ RG P n K ops S fuel (listed.setIfInBounds i true) e w') : RG P n K ops S (fuel + 1) listed e w := by
  obtain ⟨c', w', hr', h1, h2, h3⟩ := mapUpdate_run (P := P) key v ht hk hM
  obtain ⟨h6, h7⟩ := h c' w' h1 h2 h3
  exact RH.oneU i hr ho hg rfl (fun a hf => by simp [execOp, ev_eval hf hx, ev_eval hf hy, ev_eval hf hz, hr']) h6 h7
theorem RH.sayL {t : Nat} {A : Option Addr} {m c : Nat} (m' : Nat) (hl : lk e t = some (.slice A m c)) (hm : m = m') (h : RG P n K ops S fuel listed ((t, .slice A m' c) :: e) w) : RG P n K ops S fuel listed e w := by subst hm; exact RH.say _ hl rfl h
/-- A draw with any knowledge of the worlds between. -/
theorem Rn.drawS {id : Nat} {ops : Array Oper} (S : World → World → Prop) (hm : P.follows .mixedOrders = true) (h0 : ∀ w1, S w1 w1)
    (h : ∀ w1, Ext w w1 → RH P f n R k ops (fun w' => S w1 w') ops.size (Array.replicate ops.size false) e w1) : Rn P f n R (.code (.region id ops true) :: k) e w :=
  Rn.draw (fun w' => S w.drew w') hm (h0 _) (h w.drew (Ext.drew w))
end
theorem ones {l : List Value} (h : l.all (·.oneCell') = true) : ∀ u ∈ l, u.oneCell' = true := List.all_eq_true.1 h
theorem szs {us : List Value} {s : Nat} (h : us.all (fun u => u.cells.size == s) = true) : ∀ u ∈ us, u.cells.size = s := fun u hu => by simpa using List.all_eq_true.1 h u hu
theorem wc32 (c : UInt32) : IntKind.i64.wrap (c.toNat : Int) = c.toNat := w64 (by omega) (by have := c.toNat_lt; omega)
theorem V.neqA {P : Program} {n : Nat} {e : Env} {w : World} {x y : Operand} {xs ys : Array Value} {r : Bool} {dst : Option Nat} {t u ty : TypeId} {pos : String} {af : Array Edge} {g : Option (Nat × Bool)} (hm : P.eqGuardType P.depth t = false) (hx : ev e x = some (.agg xs)) (hy : ev e y = some (.agg ys)) (he : ∀ w, (Op.equalIn 10000 t (.agg xs) (.agg ys)).run P w = .ok r w) :
    OpV P n e w ⟨dst, .binOp .neq t x y u, ty, pos, af, g⟩ (.bool (!r)) w := fun a hf => by
  simp [execOp, ev_eval hf hx, ev_eval hf hy, run_eqGuard_agg w .neq t x y xs ys hm, run_neq_struct w t xs ys, he]
theorem V.to {P : Program} {n : Nat} {e : Env} {w w' : World} {o : Oper} {u v : Value} (h : OpV P n e w o u w') (hv : u = v) : OpV P n e w o v w' := hv ▸ h
/-- Where a slice with something in it lies. -/
theorem Sl.where_ {α : Type} {rep : Rep α} {D : Nat → Prop} {w : World} {A : Option Addr} {xs : List α} (h : Sl D w A rep xs) (hne : xs ≠ []) : ∃ b o, A = some ⟨b, o, none⟩ ∧ ∀ k x, xs[k]? = some x → ∃ vs, Rd w b (o + k * rep.sz) vs ∧ rep.rel D w vs x := by
  obtain ⟨b, o, h1, _, h3⟩ := h hne; exact ⟨b, o, h1, h3⟩
theorem Sl.bytes {D : Nat → Prop} {w : World} {A : Option Addr} {xs : List UInt8} (h : Sl D w A byteR xs) (hne : xs ≠ []) : ∃ b o, A = some ⟨b, o, none⟩ ∧ ∀ k x, xs[k]? = some x → Rd w b (o + k * 1) [I8 x] := by
  obtain ⟨b, o, h1, h3⟩ := h.where_ hne
  exact ⟨b, o, h1, fun k x hx => by obtain ⟨vs, h4, rfl, _⟩ := h3 k x hx; exact h4⟩
end Go.Wk
