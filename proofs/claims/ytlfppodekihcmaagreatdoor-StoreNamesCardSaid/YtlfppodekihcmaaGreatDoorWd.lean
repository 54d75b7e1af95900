/-
  The walk by places: regions that draw their order. Plain laws over any program, on the base's own 'wpAnyH'.
-/
import Derived.Test.YtlfppodekihcmaaGreatDoorWc
import Derived.OrdersHeld
import Derived.KernelRfl
set_option linter.unusedVariables false
set_option linter.unusedSimpArgs false
namespace Go.Wk
open Go Go.RowKit
variable {K : Act → World → Prop}

section
variable {P : Program} {f : FuncId} {n : Nat} {R : Ending → World → Prop} {k : List Item} {e : Env} {w : World}

/-- The same as Rn, of one frame. -/
def Ra (P : Program) (f : FuncId) (R : Ending → World → Prop) (k : List Item) (a : Act) (w : World) : Prop :=
  ∀ (b : Frame) (cs : List Frame), b.fn = f → b.kind = .normal → ∃ x w' fr, R x w' ∧ Comes P (lone (b.at a k) cs w) (lone fr cs w') x ∧ fr.fn = f ∧ fr.leaving P w' x
def QK (K : Act → World → Prop) : Exit → Act → World → Prop := fun x a w => x = .normal ∧ K a w
abbrev QQ (P : Program) (f : FuncId) (R : Ending → World → Prop) (k : List Item) : Exit → Act → World → Prop := QK (Ra P f R k)
/-- A region that draws its order, from a state of it on; K: what is to be shown at its end. -/
def RG (P : Program) (n : Nat) (K : Act → World → Prop) (ops : Array Oper) (S : World → Prop) (fuel : Nat) (listed : Array Bool) (e : Env) (w : World) : Prop :=
  ∀ a : Act, a.defers = [] → Fits e n a.tmps → S w → wpAnyH P .any ops (QK K) S fuel listed a w
abbrev RH (P : Program) (f : FuncId) (n : Nat) (R : Ending → World → Prop) (k : List Item) (ops : Array Oper) (S : World → Prop) (fuel : Nat) (listed : Array Bool) (e : Env) (w : World) : Prop := RG P n (Ra P f R k) ops S fuel listed e w

theorem Rn.draw {id : Nat} {ops : Array Oper} (S : World → Prop) (hm : P.follows .mixedOrders = true) (hS : S w.drew)
    (h : RH P f n R k ops S ops.size (Array.replicate ops.size false) e w.drew) : Rn P f n R (.code (.region id ops true) :: k) e w := by
  intro b tm cs h1 h2 h3
  have h4 := wp_region_held (id := id) (a := ⟨tm, []⟩) (w := w) hm (h ⟨tm, []⟩ rfl h3 hS)
  obtain ⟨x, a', w', ⟨rfl, hR⟩, harr⟩ := h4 b k cs
  obtain ⟨x, w2, fr, hR2, hc, q⟩ := hR b cs h1 h2
  exact ⟨x, w2, fr, hR2, Comes.of_steps harr hc, q⟩
/-- With 'nothing that was there has turned' for S. -/
theorem Rn.drawE {id : Nat} {ops : Array Oper} (hm : P.follows .mixedOrders = true)
    (h : ∀ w1, Ext w w1 → RH P f n R k ops (fun w' => Ext w1 w') ops.size (Array.replicate ops.size false) e w1) : Rn P f n R (.code (.region id ops true) :: k) e w :=
  Rn.draw (fun w' => Ext w.drew w') hm (Ext.refl _) (h w.drew (Ext.drew w))

section
variable {ops : Array Oper} {S : World → Prop} {fuel : Nat} {listed : Array Bool} {i d : Nat} {o : Oper}
theorem defers_put (a : Act) (x : Option Nat) (v : Value) : (a.put x v).defers = a.defers := by cases x <;> rfl
theorem fits_put {a : Act} (hf : Fits e n a.tmps) (hn : Nat.blt d n = true) (v : Value) : Fits ((d, v) :: e) n (a.put (some d) v).tmps := hf.put (by simpa [Nat.blt_eq] using hn) v

def okTake (ops : Array Oper) (listed : Array Bool) (i : Nat) : Bool := Region.noSelect ops && Region.free .any ops listed i && (Region.ready .any ops listed).contains i

theorem RH.take {v : Value} (i : Nat) (hk : okTake ops listed i = true) (ho : ops[i]? = some o) (hg : gok e ops o.guard = true) (hd : o.dst = some d) (hn : Nat.blt d n = true) (hv : ∀ w, S w → OpV P n e w o v w)
    (h : RG P n K ops S fuel (listed.setIfInBounds i true) ((d, v) :: e) w) : RG P n K ops S (fuel + 1) listed e w := by
  intro a ha hf hS
  simp only [okTake, Bool.and_eq_true] at hk
  refine wpAnyH_take (v := v) ho hk.1.1 hk.1.2 hk.2 (fun c a w hh => by cases hh.1) (.inl ⟨wanted_of_gok hf hg, fun w hS => hv w hS a hf⟩) hS ?_
  rw [hd]
  exact h _ (by rw [defers_put]; exact ha) (fits_put hf hn v) hS
theorem RH.no (i : Nat) (hk : okTake ops listed i = true) (ho : ops[i]? = some o) (hg : gno e ops o.guard = true) (hd : o.dst = some d) (hn : Nat.blt d n = true)
    (h : RG P n K ops S fuel (listed.setIfInBounds i true) ((d, undef) :: e) w) : RG P n K ops S (fuel + 1) listed e w := by
  intro a ha hf hS
  simp only [okTake, Bool.and_eq_true] at hk
  refine wpAnyH_take (v := undef) ho hk.1.1 hk.1.2 hk.2 (fun c a w hh => by cases hh.1) (.inr ⟨wanted_of_gno hf hg, rfl⟩) hS ?_
  rw [hd]
  exact h _ (by rw [defers_put]; exact ha) (fits_put hf hn _) hS
/-- The one that may come up. -/
theorem RH.one {v : Value} {w' : World} (i : Nat) (hr : Region.ready .any ops listed = [i]) (ho : ops[i]? = some o) (hg : gok e ops o.guard = true) (hd : o.dst = some d) (hn : Nat.blt d n = true) (hv : OpV P n e w o v w') (hS' : S w')
    (h : RG P n K ops S fuel (listed.setIfInBounds i true) ((d, v) :: e) w') : RG P n K ops S (fuel + 1) listed e w := by
  intro a ha hf hS
  refine wpAnyH_all hr (by simp) fun j hj => ?_
  obtain rfl : j = i := by simpa using hj
  unfold wpOp
  simp only [ho, wanted_of_gok hf hg, if_true]
  refine .inl ?_
  unfold Oper.wp
  rw [hv a hf, Oper.upon_value, hd]
  exact ⟨hS', h _ (by rw [defers_put]; exact ha) (fits_put hf hn v) hS'⟩
theorem RH.oneU {w' : World} (i : Nat) (hr : Region.ready .any ops listed = [i]) (ho : ops[i]? = some o) (hg : gok e ops o.guard = true) (hd : o.dst = none) (hv : ∀ a : Act, Fits e n a.tmps → (execOp a.eval o).run P w = .ok .skip w') (hS' : S w')
    (h : RG P n K ops S fuel (listed.setIfInBounds i true) e w') : RG P n K ops S (fuel + 1) listed e w := by
  intro a ha hf hS
  refine wpAnyH_all hr (by simp) fun j hj => ?_
  obtain rfl : j = i := by simpa using hj
  unfold wpOp
  simp only [ho, wanted_of_gok hf hg, if_true]
  refine .inl ?_
  unfold Oper.wp
  rw [hv a hf, Oper.upon_skip, hd]
  exact ⟨hS', h _ (by rw [defers_put]; exact ha) hf hS'⟩
theorem RH.noOne (i : Nat) (hr : Region.ready .any ops listed = [i]) (ho : ops[i]? = some o) (hg : gno e ops o.guard = true) (hd : o.dst = none)
    (h : RG P n K ops S fuel (listed.setIfInBounds i true) e w) : RG P n K ops S (fuel + 1) listed e w := by
  intro a ha hf hS
  refine wpAnyH_all hr (by simp) fun j hj => ?_
  obtain rfl : j = i := by simpa using hj
  unfold wpOp
  simp only [ho, wanted_of_gno hf hg, Bool.false_eq_true, if_false, hd]
  exact ⟨hS, h _ ha hf hS⟩
theorem RH.opC {g : FuncId} {args : Array Value} {R' : Ending → World → Prop} (i : Nat) (hr : Region.ready .any ops listed = [i]) (ho : ops[i]? = some o) (hg : gok e ops o.guard = true) (hd : o.dst = some d) (hn : Nat.blt d n = true)
    (hrun : ∀ a : Act, Fits e n a.tmps → (execOp a.eval o).run P w = .ok (.enter g args) w) (hc : Calls P g args w R')
    (h : ∀ x w', R' x w' → ∃ v, x = .returned v ∧ S w' ∧ RG P n K ops S fuel (listed.setIfInBounds i true) ((d, v) :: e) w') : RG P n K ops S (fuel + 1) listed e w := by
  intro a ha hf hS
  refine wpAnyH_all hr (by simp) fun j hj => ?_
  obtain rfl : j = i := by simpa using hj
  unfold wpOp
  simp only [ho, wanted_of_gok hf hg, if_true]
  refine .inl ?_
  unfold Oper.wp
  rw [hrun a hf, Oper.upon_enter]
  refine hc.mono fun x w' hR => ?_
  obtain ⟨v, rfl, hS', hk⟩ := h x w' hR
  rw [hd]
  exact ⟨hS', hk _ (by rw [defers_put]; exact ha) (fits_put hf hn v) hS'⟩
theorem RH.done (hr : Region.ready .any ops listed = []) (h : S w → Rn P f n R k e w) : RH P f n R k ops S fuel listed e w := by
  intro a ha hf hS
  refine wpAnyH_done hr ⟨rfl, ?_⟩ fuel
  intro b cs h1 h2
  obtain ⟨tm, ds⟩ := a
  subst ha
  exact h hS b tm cs h1 h2 hf
/-- A bool in a slot, parted. -/
theorem RH.part {t : Nat} {b : Bool} (hl : lk e t = some (.bool b)) (ht : b = true → RG P n K ops S fuel listed ((t, .bool true) :: e) w) (hf : b = false → RG P n K ops S fuel listed ((t, .bool false) :: e) w) : RG P n K ops S fuel listed e w := by
  intro a ha hfit hS
  cases b
  · exact hf rfl a ha (hfit.sub (Sub.cons hl (Sub.refl e))) hS
  · exact ht rfl a ha (hfit.sub (Sub.cons hl (Sub.refl e))) hS
theorem RH.partD {t : Nat} {p : Prop} [Decidable p] (hl : lk e t = some (.bool (decide p))) (ht : p → RG P n K ops S fuel listed ((t, .bool true) :: e) w) (hf : ¬ p → RG P n K ops S fuel listed ((t, .bool false) :: e) w) : RG P n K ops S fuel listed e w :=
  RH.part hl (fun h => ht (of_decide_eq_true h)) (fun h => hf (of_decide_eq_false h))
theorem RH.say {t : Nat} {u : Value} (v : Value) (hl : lk e t = some u) (hv : u = v) (h : RG P n K ops S fuel listed ((t, v) :: e) w) : RG P n K ops S fuel listed e w := by
  subst hv
  intro a ha hfit hS
  exact h a ha (hfit.sub (Sub.cons hl (Sub.refl e))) hS
theorem RH.call {gg : FuncId} {fn : Func} {c : Code} {xs : List Operand} {ts : Array TypeId} {vs : List Value} {R' : Ending → World → Prop} {ty : TypeId} {pos : String} {af : Array Edge} {gd : Option (Nat × Bool)} (i : Nat) (hr : Region.ready .any ops listed = [i])
    (ho : ops[i]? = some ⟨some d, .call { callee := .value (.func gg), args := xs.toArray, argTypes := ts }, ty, pos, af, gd⟩) (hg : gok e ops gd = true) (hn : Nat.blt d n = true)
    (hfn : P.funcs[gg]? = some fn) (hb : fn.body = some c) (hnm : (fn.name == "runtime.NumGoroutine") = false) (hx : evs e xs = some vs) (hc : Calls P gg vs.toArray w R')
    (h : ∀ x w', R' x w' → ∃ v, x = .returned v ∧ S w' ∧ RG P n K ops S fuel (listed.setIfInBounds i true) ((d, v) :: e) w') : RG P n K ops S (fuel + 1) listed e w :=
  RH.opC (g := gg) (args := vs.toArray) i hr ho hg rfl hn (fun a hf => by
    simp [execOp, resolve, Act.eval, Deferred.ofValue, invoke, run_callFunc hfn hb hnm, evs_map hf hx]) hc h
end
end

/-- What a call asks of the one that is called. -/
def CallOk (P : Program) (g : FuncId) : Prop := ∃ fn c, P.funcs[g]? = some fn ∧ fn.body = some c ∧ (fn.name == "runtime.NumGoroutine") = false
section
variable {P : Program} {f : FuncId} {n : Nat} {R : Ending → World → Prop} {k : List Item} {e : Env} {w : World}
variable {ops : Array Oper} {i : Nat} {rest : List Nat} {d : Nat} {ty : TypeId} {pos : String} {af : Array Edge} {g : Option (Nat × Bool)}
theorem Rn.cl {gg : FuncId} {xs : List Operand} {ts : Array TypeId} {vs : List Value} {R' : Ending → World → Prop} (ck : CallOk P gg)
    (ho : ops[i]? = some ⟨some d, .call { callee := .value (.func gg), args := xs.toArray, argTypes := ts }, ty, pos, af, g⟩) (hg : gok e ops g = true) (hn : Nat.blt d n = true)
    (hx : evs e xs = some vs) (hc : Calls P gg vs.toArray w R')
    (h : ∀ x w', R' x w' → ∃ v, x = .returned v ∧ Rn P f n R (.inRegion ops rest :: k) ((d, v) :: e) w') : Rn P f n R (.inRegion ops (i :: rest) :: k) e w :=
  let ⟨_, _, h1, h2, h3⟩ := ck; Rn.call ho hg hn h1 h2 h3 hx hc h
theorem Rn.clN {gg : FuncId} {xs : List Operand} {ts : Array TypeId} {vs : List Value} {R' : Ending → World → Prop} (ck : CallOk P gg)
    (ho : ops[i]? = some ⟨none, .call { callee := .value (.func gg), args := xs.toArray, argTypes := ts }, ty, pos, af, g⟩) (hg : gok e ops g = true)
    (hx : evs e xs = some vs) (hc : Calls P gg vs.toArray w R')
    (h : ∀ x w', R' x w' → ∃ v, x = .returned v ∧ Rn P f n R (.inRegion ops rest :: k) e w') : Rn P f n R (.inRegion ops (i :: rest) :: k) e w :=
  let ⟨_, _, h1, h2, h3⟩ := ck; Rn.callN ho hg h1 h2 h3 hx hc h
theorem Rn.clV {gg : FuncId} {y : Operand} {cs : List Value} {xs : List Operand} {ts : Array TypeId} {vs : List Value} {R' : Ending → World → Prop} (ck : CallOk P gg)
    (ho : ops[i]? = some ⟨some d, .call { callee := .value y, args := xs.toArray, argTypes := ts }, ty, pos, af, g⟩) (hg : gok e ops g = true) (hn : Nat.blt d n = true)
    (hy : ev e y = some (.func (.func gg) #[] cs.toArray)) (hx : evs e xs = some vs) (hc : Calls P gg (vs ++ cs).toArray w R')
    (h : ∀ x w', R' x w' → ∃ v, x = .returned v ∧ Rn P f n R (.inRegion ops rest :: k) ((d, v) :: e) w') : Rn P f n R (.inRegion ops (i :: rest) :: k) e w :=
  let ⟨_, _, h1, h2, h3⟩ := ck; Rn.callV ho hg hn hy h1 h2 h3 hx hc h
theorem RH.cl {S : World → Prop} {fuel : Nat} {listed : Array Bool} {gg : FuncId} {xs : List Operand} {ts : Array TypeId} {vs : List Value} {R' : Ending → World → Prop} (ck : CallOk P gg) (i : Nat) (hr : Region.ready .any ops listed = [i])
    (ho : ops[i]? = some ⟨some d, .call { callee := .value (.func gg), args := xs.toArray, argTypes := ts }, ty, pos, af, g⟩) (hg : gok e ops g = true) (hn : Nat.blt d n = true)
    (hx : evs e xs = some vs) (hc : Calls P gg vs.toArray w R')
    (h : ∀ x w', R' x w' → ∃ v, x = .returned v ∧ S w' ∧ RG P n K ops S fuel (listed.setIfInBounds i true) ((d, v) :: e) w') : RG P n K ops S (fuel + 1) listed e w :=
  let ⟨_, _, h1, h2, h3⟩ := ck; RH.call i hr ho hg hn h1 h2 h3 hx hc h

/- the append -/
/-- Cells to be put behind. -/
def Src {α : Type} (D : Nat → Prop) (w : World) (A : Option Addr) (rep : Rep α) (ys : List α) : Prop := ys ≠ [] →
    ∃ (b o : Nat) (vss : List (List Value)), A = some ⟨b, o, none⟩ ∧ vss.length = ys.length ∧ (∀ (k : Nat) (vs : List Value) (x : α), vss[k]? = some vs → ys[k]? = some x → rep.rel D w vs x) ∧ ∀ j u, vss.flatten[j]? = some u → w.cell? ⟨b, o + j, none⟩ = some u
theorem reads_of_sl {α : Type} {rep : Rep α} {D : Nat → Prop} {A : Option Addr} {ys : List α} (h : Sl D w A rep ys) : Src D w A rep ys := by
  intro hne
  obtain ⟨b, o, hA, hD, he⟩ := h hne
  have : ∀ (m : Nat) (zs : List α) (p : Nat), zs.length = m → (∀ k x, zs[k]? = some x → ∃ vs, Rd w b (p + k * rep.sz) vs ∧ rep.rel D w vs x) →
      ∃ vss : List (List Value), vss.length = zs.length ∧ (∀ (k : Nat) (vs : List Value) (x : α), vss[k]? = some vs → zs[k]? = some x → rep.rel D w vs x) ∧ ∀ j u, vss.flatten[j]? = some u → w.cell? ⟨b, p + j, none⟩ = some u := by
    intro m
    induction m with
    | zero => intro zs p hz _; exact ⟨[], by simp [hz], fun k vs x h => by simp at h, fun j u h => by simp at h⟩
    | succ m ih =>
      intro zs p hz hzs
      cases zs with
      | nil => cases hz
      | cons z zr =>
        obtain ⟨vs, hR, hrel⟩ := hzs 0 z rfl
        obtain ⟨vss, h1, h2, h3⟩ := ih zr (p + rep.sz) (by simpa using hz) (fun k x hx => by
          obtain ⟨us, g1, g2⟩ := hzs (k + 1) x (by simpa using hx)
          refine ⟨us, ?_, g2⟩
          have : p + (k + 1) * rep.sz = p + rep.sz + k * rep.sz := by rw [Nat.add_mul]; omega
          rw [this] at g1; exact g1)
        refine ⟨vs :: vss, by simp [h1], ?_, ?_⟩
        · intro k us x hu hx
          cases k with
          | zero => simp at hu hx; subst hu hx; exact hrel
          | succ k => exact h2 k us x (by simpa using hu) (by simpa using hx)
        · intro j u hu
          rw [List.flatten_cons] at hu
          have hl := rep.len hrel
          rcases Nat.lt_or_ge j vs.length with hj | hj
          · rw [List.getElem?_append_left hj] at hu
            have := hR j u hu
            rw [Nat.zero_mul, Nat.add_zero] at this
            exact this
          · rw [List.getElem?_append_right hj] at hu
            have := h3 (j - vs.length) u hu
            have hh : p + rep.sz + (j - vs.length) = p + j := by omega
            rw [hh] at this
            exact this
  obtain ⟨vss, h1, h2, h3⟩ := this ys.length ys o rfl he
  exact ⟨b, o, vss, hA, h1, h2, h3⟩

/-- What the program's tables say of an element's type. -/
def ElOk (P : Program) (el : TypeId) (sz by_ : Nat) : Prop := ∃ i z, P.info? el = some i ∧ i.zero = some z ∧ i.size = sz ∧ i.bytes = by_ ∧ z.cells.size = sz ∧ 0 < sz

/-- 'out = append(out, ys...)', out the call's own. -/
theorem app_run {α : Type} {rep : Rep α} {B by_ : Nat} {D D' : Nat → Prop} {t el : TypeId} {A A' : Option Addr} {c c' m : Nat} {xs ys : List α}
    (ht : P.underlying t = some (.slice el)) (hel : ElOk P el rep.sz by_)
    (hO : Own B D w el A c rep xs) (hS : Src D' w A' rep ys) (hm : ys.length = m) (hB : B ≤ w.heap.size) (hlen : xs.length + m ≤ 4294967296) (hby : (xs.length + m) * by_ ≤ 140737488355328) (ty : TypeId) :
    ∃ A2 c2 w', (Builtin.append_ #[t, t] ty #[.slice A xs.length c, .slice A' m c']).run P w = .ok (.slice A2 (xs.length + m) c2) w' ∧ Fr (fun b => ob A b) w w' ∧ (∀ b, ob A2 b → ob A b ∨ b = w.heap.size) ∧
      ((∀ b, D b → ¬ ob A b) → (∀ b, D' b → ¬ ob A b) → Own B (fun b => D b ∨ D' b) w' el A2 c2 rep (xs ++ ys)) := by
  obtain ⟨inf, z, hi, hz, hsz, hbt, hzs, hpos⟩ := hel
  by_cases hne : ys = []
  · subst hne
    simp only [List.length_nil] at hm
    subst hm
    have hc : ∀ s : Nat, ∃ cs : Array Value, (Builtin.firstCells s 0 (.slice A' 0 c')).run P w = .ok cs w ∧ cs = #[] := by
      intro s
      cases A' with
      | none => exact ⟨#[], by simp [Builtin.firstCells], rfl⟩
      | some a => exact ⟨#[], by simp [Builtin.firstCells, loadCells, loadCellsFrom], rfl⟩
    obtain ⟨cs0, h1, rfl⟩ := hc inf.size
    have hr : (Builtin.append_ #[t, t] ty #[.slice A xs.length c, .slice A' 0 c']).run P w = .ok (.slice A xs.length c) w := by
      have := hO.1
      cases A <;> simp [Builtin.append_, run_underlying ht, sizeOf, typeInfo, hi, Builtin.lenOf, h1, this, storeCells]
    refine ⟨A, c, w, by simpa using hr, Fr.refl _ _, fun b hb => .inl hb, fun _ _ => ?_⟩
    rw [List.append_nil]
    exact hO.mono fun b hb => .inl hb
  · obtain ⟨b, o, uss, rfl, hul, hur, huc⟩ := hS hne
    have hulen := lens_of hul hur
    have h1 := ones_of hul hur
    have hufl : uss.flatten.length = m * rep.sz := by rw [length_flat rep.sz uss hulen, hul, hm]
    have hm0 : 0 < m := by rw [← hm]; exact List.length_pos_iff.2 hne
    have hnews : ∀ j u, uss.flatten[j]? = some u → w.cell? ((⟨b, o, none⟩ : Addr).add j) = some u := fun j u hj => by rw [Addr.add_none]; exact huc j u hj
    have hl2 : (xs ++ ys).length = xs.length + m := by rw [List.length_append, hm]
    -- a new row
    have made : ∀ (old : Nat) (vss : List (List Value)), old < xs.length + m → vss.length = xs.length → (∀ (k : Nat) (vs : List Value) (x : α), vss[k]? = some vs → xs[k]? = some x → rep.rel D w vs x) →
        let w2 := w.drew.alloc (.cells (vss.flatten.toArray ++ uss.flatten.toArray ++ Builtin.zeroCells z.cells (grownCap w (xs.length + m) old el - (xs.length + m))) el)
        Ext w w2 ∧ Own B (fun b => D b ∨ D' b) w2 el (some ⟨w.heap.size, 0, none⟩) (grownCap w (xs.length + m) old el) rep (xs ++ ys) := by
      intro old vss ho hvl hvr
      have hge := grownCap_ge w (xs.length + m) old el
      have hcm : grownCap w (xs.length + m) old el ≤ maxLen := grownCap_le_maxLen w (xs.length + m) old el (by simp only [maxLen]; omega)
      have hE : Ext w (w.drew.alloc (.cells (vss.flatten.toArray ++ uss.flatten.toArray ++ Builtin.zeroCells z.cells (grownCap w (xs.length + m) old el - (xs.length + m))) el)) := (Ext.drew w).trans (Ext.alloc _ _)
      have hvfl : vss.flatten.length = xs.length * rep.sz := by rw [length_flat rep.sz vss (lens_of hvl hvr), hvl]
      refine ⟨hE, ?_⟩
      refine ⟨by rw [hl2]; exact hge, hcm, .inr ⟨w.heap.size, vss.flatten ++ uss.flatten ++ (Builtin.zeroCells z.cells (grownCap w (xs.length + m) old el - (xs.length + m))).toList, vss ++ uss, rfl, hB, ?_, ?_, by simp [hvl, hul], ?_, ?_⟩⟩
      · have := heap_alloc_new w.drew (.cells (vss.flatten.toArray ++ uss.flatten.toArray ++ Builtin.zeroCells z.cells (grownCap w (xs.length + m) old el - (xs.length + m))) el)
        unfold Blk
        have e1 : vss.flatten.toArray ++ uss.flatten.toArray ++ Builtin.zeroCells z.cells (grownCap w (xs.length + m) old el - (xs.length + m)) = (vss.flatten ++ uss.flatten ++ (Builtin.zeroCells z.cells (grownCap w (xs.length + m) old el - (xs.length + m))).toList).toArray := by
          apply Array.ext'; simp
        rw [← e1]
        exact this
      · simp only [List.length_append, Array.length_toList, size_zeroCells, hzs, hvfl, hufl, ← Nat.add_mul]
        apply Nat.le_of_eq; congr 1; omega
      · intro k vs x hv hx
        rcases Nat.lt_or_ge k xs.length with hk | hk
        · rw [List.getElem?_append_left (by omega)] at hv
          rw [List.getElem?_append_left hk] at hx
          exact rep.mono (Rep.ext (hvr k vs x hv hx) hE) fun b hb => .inl hb
        · rw [List.getElem?_append_right (by omega)] at hv
          rw [List.getElem?_append_right hk] at hx
          rw [hvl] at hv
          exact rep.mono (Rep.ext (hur _ vs x hv hx) hE) fun b hb => .inr hb
      · rw [hl2, List.flatten_append, Nat.add_mul, ← hvfl, ← hufl, ← List.length_append, List.take_left]
    rcases hO.2.2 with ⟨rfl, hc0⟩ | ⟨gb, cs, vss, rfl, hg1, hg2, hg3, hg4, hg5, hg6⟩
    · have hx : xs = [] := List.eq_nil_of_length_eq_zero (by have := hO.1; omega)
      subst hx hc0
      have hr := run_append_nil (P := P) w t ty el inf z ht hi hz ⟨b, o, none⟩ m c' uss.flatten (by rw [hsz]; exact hufl) hnews hm0 (by omega) (by have := hby; simp only [List.length_nil, Nat.zero_add] at this; rw [hbt]; omega)
      obtain ⟨hE, hown⟩ := made 0 [] (by simp; omega) rfl (fun k vs x hv => by simp at hv)
      simp only [List.length_nil, Nat.zero_add, List.flatten_nil, List.nil_append, Array.empty_append] at hE hown hr ⊢
      exact ⟨_, _, _, hr, Ext.fr hE, fun x hx => .inr (by cases hx; rfl), fun _ _ => hown⟩
    · by_cases hroom : xs.length + m ≤ c
      · have hcsl : xs.length * rep.sz + uss.flatten.length ≤ cs.length := by rw [hufl, ← Nat.add_mul]; exact Nat.le_trans (Nat.mul_le_mul_right _ hroom) hg3
        have hr := run_append_room (P := P) w t ty el inf ht hi gb xs.length c cs.toArray hg2 ⟨b, o, none⟩ m c' uss.flatten (by rw [hsz]; exact hufl) hnews h1 hroom (by rw [hsz]; simpa using hcsl)
        have hF : Fr (fun x => ob (some ⟨gb, 0, none⟩) x) w (w.setRow gb (cs.toArray.toList.take (xs.length * inf.size) ++ uss.flatten ++ cs.toArray.toList.drop (xs.length * inf.size + uss.flatten.length)).toArray) :=
          ⟨rfl, rfl, rfl, by simp, fun x hx hn => setRow_other w gb x _ (fun e => hn (by rw [e]; rfl))⟩
        refine ⟨_, _, _, hr, hF, fun x hx => .inl hx, fun hD hD' => ⟨by rw [hl2]; exact hroom, hO.2.1, .inr ⟨gb, _, vss ++ uss, rfl, hg1, setRow_heap w gb _ _ el _ hg2, ?_, by simp [hg4, hul], ?_, ?_⟩⟩⟩
        · simp only [List.toList_toArray, List.length_append, List.length_take, List.length_drop, hsz]; omega
        · intro k vs x hv hx
          rcases Nat.lt_or_ge k xs.length with hk | hk
          · rw [List.getElem?_append_left (by omega)] at hv
            rw [List.getElem?_append_left hk] at hx
            exact rep.mono (Rep.fr (hg5 k vs x hv hx) hF hD) fun b hb => .inl hb
          · rw [List.getElem?_append_right (by omega)] at hv
            rw [List.getElem?_append_right hk] at hx
            rw [hg4] at hv
            exact rep.mono (Rep.fr (hur _ vs x hv hx) hF hD') fun b hb => .inr hb
        · simp only [List.toList_toArray, hsz]
          rw [hl2, List.flatten_append, hg6, Nat.add_mul, ← hufl]
          have : vss.flatten.length = xs.length * rep.sz := by rw [length_flat rep.sz vss (lens_of hg4 hg5), hg4]
          rw [← this, ← List.length_append, List.take_left]
      · have holds : ∀ j u, vss.flatten[j]? = some u → w.cell? ((⟨gb, 0, none⟩ : Addr).add j) = some u := by
          intro j u hj
          rw [← hg6, List.getElem?_take] at hj
          split at hj
          · rw [Addr.add_none, Nat.zero_add, hg2.cell]; exact hj
          · cases hj
        have hvfl : vss.flatten.length = xs.length * rep.sz := by rw [length_flat rep.sz vss (lens_of hg4 hg5), hg4]
        have hr := run_append_grow (P := P) w t ty el inf z ht hi hz ⟨gb, 0, none⟩ xs.length c vss.flatten (by rw [hsz]; exact hvfl) holds ⟨b, o, none⟩ m c' uss.flatten (by rw [hsz]; exact hufl) hnews (by omega) (by omega) (growslice_fits (by omega) (by rw [hbt]; exact hby))
        obtain ⟨hE, hown⟩ := made c vss (by omega) hg4 hg5
        exact ⟨_, _, _, hr, Ext.fr hE, fun x hx => .inr (by cases hx; rfl), fun _ _ => hown⟩
theorem Rn.app {α : Type} {rep : Rep α} {B by_ : Nat} {D D' : Nat → Prop} {t el : TypeId} {x y : Operand} {A A' : Option Addr} {c c' m : Nat} {xs ys : List α}
    (ho : ops[i]? = some ⟨some d, .call { callee := .builtin .append, args := #[x, y], argTypes := #[t, t] }, ty, pos, af, g⟩) (hg : gok e ops g = true) (hn : Nat.blt d n = true)
    (ht : P.underlying t = some (.slice el)) (hel : ElOk P el rep.sz by_) (hx : ev e x = some (.slice A xs.length c)) (hy : ev e y = some (.slice A' m c'))
    (hO : Own B D w el A c rep xs) (hS : Sl D' w A' rep ys) (hm : ys.length = m) (hB : B ≤ w.heap.size) (hlen : xs.length + m ≤ 4294967296) (hby : (xs.length + m) * by_ ≤ 140737488355328)
    (hD : ∀ b, D b → ¬ ob A b) (hD' : ∀ b, D' b → ¬ ob A b)
    (h : ∀ A2 c2 w', Own B (fun b => D b ∨ D' b) w' el A2 c2 rep (xs ++ ys) → Fr (fun b => ob A b) w w' → (∀ b, ob A2 b → ob A b ∨ b = w.heap.size) → Rn P f n R (.inRegion ops rest :: k) ((d, .slice A2 (xs.length + m) c2) :: e) w') : Rn P f n R (.inRegion ops (i :: rest) :: k) e w := by
  obtain ⟨A2, c2, w', hr, hF, hob, hown⟩ := app_run (c' := c') ht hel hO (reads_of_sl hS) hm hB hlen hby ty
  refine Rn.opV (w' := w') ho hg rfl hn (fun a hf => ?_) (h A2 c2 w' (hown hD hD') hF hob)
  simp [execOp, resolve, invoke, builtin, ev_eval hf hx, ev_eval hf hy, hr]
end

/- small change -/
theorem w64 {z : Int} (h1 : -9223372036854775808 ≤ z) (h2 : z ≤ 9223372036854775807) : IntKind.i64.wrap z = z := by rw [IntKind.wrap_i64]; omega
theorem wu64 {z : Int} (h1 : 0 ≤ z) (h2 : z ≤ 18446744073709551615) : IntKind.u64.wrap z = z := by simp [IntKind.wrap, IntKind.signed, IntKind.bits]; omega
theorem wu32 {z : Int} (h1 : 0 ≤ z) (h2 : z ≤ 4294967295) : IntKind.u32.wrap z = z := by simp [IntKind.wrap, IntKind.signed, IntKind.bits]; omega
theorem wu8 {z : Int} (h1 : 0 ≤ z) (h2 : z ≤ 255) : IntKind.u8.wrap z = z := by simp [IntKind.wrap, IntKind.signed, IntKind.bits]; omega
theorem wi32 {z : Int} (h1 : -2147483648 ≤ z) (h2 : z ≤ 2147483647) : IntKind.i32.wrap z = z := by simp [IntKind.wrap, IntKind.signed, IntKind.bits]; omega
theorem lki {e : Env} {t : Nat} {q : IntKind} {a : Int} (b : Int) (h : lk e t = some (.int q a)) (hab : a = b) : lk e t = some (.int q b) := by rw [h, hab]
theorem lkv {e : Env} {t : Nat} {a : Value} (b : Value) (h : lk e t = some a) (hab : a = b) : lk e t = some b := by rw [h, hab]
theorem wf64 {a : Int} (h : (Lit.int .i64 a).wf = true) : -9223372036854775808 ≤ a ∧ a ≤ 9223372036854775807 := by simpa [Lit.wf, IntKind.min, IntKind.max, IntKind.signed, IntKind.bits] using h
end Go.Wk
