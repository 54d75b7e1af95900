/-
  The walk by places, in few words: a way that hangs on the slots alone is gone in one step, by reckoning. Plain laws over any program.
-/
import Derived.Test.YtlfppodekihcmaaGreatDoorWz
set_option linter.unusedVariables false
set_option linter.unusedSimpArgs false
namespace Go.Wk
open Go Go.RowKit

/-- Where a struct's fields lie. -/
def FoL (P : Program) : List Field → List Nat → Prop
  | [], [] => True
  | fd :: fs, o :: os => (∃ sz, (∀ w, (sizeOf fd.type).run P w = .ok sz w) ∧ Nat.beq sz 0 = false) ∧ fd.offset = o ∧ FoL P fs os
  | _, _ => False
def FoOk (P : Program) (s : TypeId) (offs : List Nat) : Prop := ∃ fs : Array Field, P.underlying s = some (.struct fs) ∧ FoL P fs.toList offs
theorem FoL.at {P : Program} : ∀ {fs : List Field} {os : List Nat} {m o : Nat}, FoL P fs os → os[m]? = some o → ∃ fd sz, fs[m]? = some fd ∧ (∀ w, (sizeOf fd.type).run P w = .ok sz w) ∧ Nat.beq sz 0 = false ∧ fd.offset = o
  | [], [], m, o, _, h => by simp at h
  | [], _ :: _, _, _, h, _ => h.elim
  | _ :: _, [], _, _, h, _ => h.elim
  | fd :: fs, q :: os, 0, o, ⟨⟨sz, h1, h2⟩, h3, _⟩, h => by simp at h; subst h; exact ⟨fd, sz, rfl, h1, h2, h3⟩
  | fd :: fs, q :: os, m + 1, o, ⟨_, _, hr⟩, h => by
    have := FoL.at (m := m) hr (by simpa using h)
    simpa using this
def lkD : List (Nat × List Nat) → Nat → Option (List Nat)
  | [], _ => none
  | p :: r, t => bif Nat.beq p.1 t then some p.2 else lkD r t
def TabOk (P : Program) (D : List (Nat × List Nat)) : Prop := ∀ s offs, lkD D s = some offs → FoOk P s offs
theorem TabOk.nil {P : Program} : TabOk P [] := fun _ _ h => by cases h
theorem TabOk.cons {P : Program} {D : List (Nat × List Nat)} {s : Nat} {offs : List Nat} (h : FoOk P s offs) (hr : TabOk P D) : TabOk P ((s, offs) :: D) := fun t o ht => by
  simp only [lkD] at ht
  cases hb : Nat.beq s t with
  | true => rw [hb] at ht; cases ht; rw [← Nat.eq_of_beq_eq_true hb]; exact h
  | false => rw [hb] at ht; exact hr t o ht

/-- A whole number's operation. -/
def zop : BinOp → Int → Int → Option Value
  | .add, a, b => some (.int .i64 (W64 (a + b)))
  | .sub, a, b => some (.int .i64 (W64 (a - b)))
  | .mul, a, b => some (.int .i64 (W64 (a * b)))
  | .lss, a, b => some (.bool (decide (a < b)))
  | .leq, a, b => some (.bool (decide (a ≤ b)))
  | .gtr, a, b => some (.bool (decide (a > b)))
  | .geq, a, b => some (.bool (decide (a ≥ b)))
  | .eql, a, b => some (.bool (decide (a = b)))
  | .neq, a, b => some (.bool (decide (a ≠ b)))
  | _, _, _ => none
/-- What an operation yields that hangs on the slots alone. -/
def pop (D : List (Nat × List Nat)) (e : Env) : Op → Option Value
  | .move x => ev e x
  | .assign x => ev e x
  | .nilCheck x => match ev e x with
    | some (.pointer (some p)) => some (.pointer (some p))
    | _ => none
  | .fieldAddr s x m => match ev e x with
    | some (.pointer (some ⟨b, o, none⟩)) => match lkD D s with
      | some offs => match offs[m]? with
        | some off => some (.pointer (some ⟨b, o + off, none⟩))
        | none => none
      | none => none
    | _ => none
  | .pick c x y => match ev e c with
    | some (.bool true) => ev e x
    | some (.bool false) => ev e y
    | _ => none
  | .extract x j => match ev e x with
    | some (.tuple vs) => vs[j]?
    | _ => none
  | .binOp b _ x y _ => match ev e x with
    | some (.int .i64 a) => match ev e y with
      | some (.int .i64 c) => zop b a c
      | _ => none
    | _ => none
  | _ => none
theorem pop_ok {P : Program} {D : List (Nat × List Nat)} (hD : TabOk P D) {n : Nat} {e : Env} {w : World} {o : Oper} {v : Value} (h : pop D e o.op = some v) : OpV P n e w o v w := by
  obtain ⟨dst, op, ty, pos, af, g⟩ := o
  simp only at h
  unfold pop at h
  split at h
  · exact V.mv h
  · exact V.as h
  · split at h
    · rename_i hp; cases h; exact V.nil hp
    · cases h
  · split at h
    · rename_i hp
      split at h
      · rename_i offs ho
        split at h
        · rename_i off hoff
          cases h
          obtain ⟨fs, h1, h2⟩ := hD _ _ ho
          obtain ⟨fd, sz, h3, h4, h5, rfl⟩ := h2.at hoff
          exact V.fa h1 (by simpa using h3) h4 h5 hp
        · cases h
      · cases h
    · cases h
  · split at h
    · rename_i hp; exact V.pkT hp h
    · rename_i hp; exact V.pkF hp h
    · cases h
  · split at h
    · rename_i hp; exact V.ext hp h
    · cases h
  · split at h
    · rename_i hx
      split at h
      · rename_i hy
        unfold zop at h
        split at h <;> first | cases h | skip
        · exact V.addW hx hy
        · exact V.subW hx hy
        · exact V.mulW hx hy
        · exact V.lss hx hy
        · exact V.leq hx hy
        · exact V.gtr hx hy
        · exact V.geq hx hy
        · exact V.eql hx hy
        · exact V.neq hx hy
      · cases h
    · cases h
  · cases h

/-- A way of m steps that hang on the slots alone. -/
def sr (D : List (Nat × List Nat)) (n : Nat) : Nat → List Item → Env → Option (List Item × Env)
  | 0, k, e => some (k, e)
  | m + 1, k, e => match k with
    | .code c :: k => match c with
      | .skip => sr D n m k e
      | .label _ => sr D n m k e
      | .seq x y => sr D n m (.code x :: .code y :: k) e
      | .block id c => sr D n m (.code c :: .inBlock id :: k) e
      | .scope c => sr D n m (.code c :: .inScope c :: k) e
      | .exit id => match exitTo id k with
        | some k' => sr D n m k' e
        | none => none
      | .goto l => match gotoIn l k with
        | some k' => sr D n m k' e
        | none => none
      | .region _ ops false => sr D n m (.inRegion ops (List.range ops.size) :: k) e
      | .cond c x y => match ev e c with
        | some (.bool true) => sr D n m (.code x :: k) e
        | some (.bool false) => sr D n m (.code y :: k) e
        | _ => none
      | _ => none
    | .inBlock _ :: k => sr D n m k e
    | .inScope _ :: k => sr D n m k e
    | .inRegion _ [] :: k => sr D n m k e
    | .inRegion ops (i :: rest) :: k => match ops[i]? with
      | some o => match o.dst with
        | some d => bif Nat.blt d n then (bif gok e ops o.guard then (match pop D e o.op with
            | some v => sr D n m (.inRegion ops rest :: k) ((d, v) :: e)
            | none => none)
          else bif gno e ops o.guard then sr D n m (.inRegion ops rest :: k) ((d, undef) :: e) else none) else none
        | none => bif gno e ops o.guard then sr D n m (.inRegion ops rest :: k) e else none
      | none => none
    | _ => none
theorem sr_ok {P : Program} {D : List (Nat × List Nat)} (hD : TabOk P D) {f : FuncId} {n : Nat} {R : Ending → World → Prop} {w : World} : ∀ (m : Nat) (k : List Item) (e : Env) {k' : List Item} {e' : Env}, sr D n m k e = some (k', e') → Rn P f n R k' e' w → Rn P f n R k e w := by
  intro m
  induction m with
  | zero => intro k e k' e' h hr; simp only [sr] at h; cases h; exact hr
  | succ m ih =>
    intro k e k' e' h hr
    simp only [sr] at h
    split at h
    · split at h
      · exact Rn.skip (ih _ _ h hr)
      · exact Rn.label (ih _ _ h hr)
      · exact Rn.seq (ih _ _ h hr)
      · exact Rn.block (ih _ _ h hr)
      · exact Rn.scope (ih _ _ h hr)
      · split at h
        · rename_i hk; exact Rn.exit hk (ih _ _ h hr)
        · cases h
      · split at h
        · rename_i hk; exact Rn.goto hk (ih _ _ h hr)
        · cases h
      · exact Rn.reg (ih _ _ h hr)
      · split at h
        · rename_i hk; exact Rn.condT hk (ih _ _ h hr)
        · rename_i hk; exact Rn.condF hk (ih _ _ h hr)
        · cases h
      · cases h
    · exact Rn.inBlock (ih _ _ h hr)
    · exact Rn.inScope (ih _ _ h hr)
    · exact Rn.regEnd (ih _ _ h hr)
    · split at h
      · rename_i o ho
        split at h
        · rename_i d hd
          cases hn : Nat.blt d n with
          | false => rw [hn] at h; cases h
          | true =>
            rw [hn] at h
            cases hg : gok e _ o.guard with
            | true =>
              rw [hg] at h
              simp only [cond_true] at h
              split at h
              · rename_i v hv; exact Rn.v ho hg hd hn (pop_ok hD hv) (ih _ _ h hr)
              · cases h
            | false =>
              rw [hg] at h
              simp only [cond_true, cond_false] at h
              cases hg' : gno e _ o.guard with
              | true => rw [hg'] at h; exact Rn.no ho hg' hd hn (ih _ _ h hr)
              | false => rw [hg'] at h; cases h
        · rename_i hd
          cases hg' : gno e _ o.guard with
          | true => rw [hg'] at h; exact Rn.noU ho hg' hd (ih _ _ h hr)
          | false => rw [hg'] at h; cases h
      · cases h
    · cases h
/-- An operation that is to be done, and where it yields. -/
def ft (n : Nat) (ops : Array Oper) (i : Nat) (e : Env) : Option (Oper × Nat) := match ops[i]? with
  | some o => match o.dst with
    | some d => bif Nat.blt d n then (bif gok e ops o.guard then some (o, d) else none) else none
    | none => none
  | none => none
theorem ft_ok {n : Nat} {ops : Array Oper} {i : Nat} {e : Env} {o : Oper} {d : Nat} (h : ft n ops i e = some (o, d)) : ops[i]? = some o ∧ gok e ops o.guard = true ∧ o.dst = some d ∧ Nat.blt d n = true := by
  unfold ft at h
  split at h
  · rename_i o' ho
    split at h
    · rename_i d' hd
      cases hn : Nat.blt d' n with
      | false => rw [hn] at h; cases h
      | true =>
        cases hg : gok e ops o'.guard with
        | false => rw [hn, hg] at h; cases h
        | true => rw [hn, hg] at h; cases h; exact ⟨ho, hg, hd, hn⟩
    · cases h
  · cases h
section
variable {P : Program} {f : FuncId} {n : Nat} {R : Ending → World → Prop} {k : List Item} {e : Env} {w w' : World} {ops : Array Oper} {i : Nat} {rest : List Nat} {o : Oper}
theorem Rn.q {v : Value} {d : Nat} (h0 : ft n ops i e = some (o, d)) (hv : OpV P n e w o v w') (h : Rn P f n R (.inRegion ops rest :: k) ((d, v) :: e) w') : Rn P f n R (.inRegion ops (i :: rest) :: k) e w :=
  let ⟨h1, h2, h3, h4⟩ := ft_ok h0; Rn.v h1 h2 h3 h4 hv h
end
/-- The things in two parts. -/
theorem pickL_app (L : List Rs) : ∀ (a b : List Nat), pickL L (a ++ b) = pickL L a ++ pickL L b
  | [], b => rfl
  | i :: r, b => by
    simp only [List.cons_append, pickL]
    cases L[i]? with
    | none => exact pickL_app L r b
    | some x => simp only [List.cons_append, pickL_app L r b]
theorem Hp.cut {Z0 S : Nat → Prop} {w0 w : World} {L : List Rs} (hm : Hp Z0 S w0 w L) (a b : List Nat) (h : (a ++ b).all (fun i => Nat.blt i L.length) = true) (hnd : (a ++ b).Nodup) : Hp Z0 S w0 w (pickL L a ++ pickL L b) := by
  rw [← pickL_app]; exact hm.pick _ h hnd
theorem iteFB {α : Type} {b : Bool} {x y : Option α} {r : α} (hM : (if b = true then x else y) = some r) (h : b = false) : y = some r := by subst h; exact hM
theorem Hp.nf {Z0 S : Nat → Prop} {w0 w : World} {L : List Rs} (hm : Hp Z0 S w0 w L) (L' : List Rs) (h : L = L') : Hp Z0 S w0 w L' := h ▸ hm
/-- A box's cells, told otherwise. -/
theorem Hp.reBox {Z0 S : Nat → Prop} {w0 w : World} {L : List Rs} (hm : Hp Z0 S w0 w L) {b : Nat} {t : TypeId} {cs cs' : List Value} (i : Nat) (hi : L[i]? = some (boxR b t cs)) (h : cs = cs') : Hp Z0 S w0 w (L.set i (boxR b t cs')) := by
  subst h
  have hil := lt_of_get hi
  have : L.set i (boxR b t cs) = L := by
    have hx : L[i] = boxR b t cs := by rw [List.getElem?_eq_getElem hil] at hi; exact Option.some.inj hi
    rw [← hx]; exact List.set_getElem_self hil
  rw [this]; exact hm
/-- What stays, for a call. -/
abbrev Hp.Z {Z0 S : Nat → Prop} {w0 w : World} {L : List Rs} (_ : Hp Z0 S w0 w L) : Nat → Prop := Zo Z0 S w0 L
/-- A region that draws its order: some operations that hang on the slots alone. -/
def okTakes (ops : Array Oper) : Array Bool → List Nat → Bool
  | _, [] => true
  | l, i :: r => okTake ops l i && okTakes ops (l.setIfInBounds i true) r
def taken : Array Bool → List Nat → Array Bool
  | l, [] => l
  | l, i :: r => taken (l.setIfInBounds i true) r
def dr (D : List (Nat × List Nat)) (n : Nat) (ops : Array Oper) : List Nat → Env → Option Env
  | [], e => some e
  | i :: r, e => match ops[i]? with
    | some o => match o.dst with
      | some d => bif Nat.blt d n then (bif gok e ops o.guard then (match pop D e o.op with
          | some v => dr D n ops r ((d, v) :: e)
          | none => none)
        else bif gno e ops o.guard then dr D n ops r ((d, undef) :: e) else none) else none
      | none => none
    | none => none
theorem dr_ok {P : Program} {D : List (Nat × List Nat)} (hD : TabOk P D) {n : Nat} {K : Act → World → Prop} {S : World → Prop} {w : World} {ops : Array Oper} : ∀ (is : List Nat) {fuel : Nat} {listed : Array Bool} {e e' : Env}, okTakes ops listed is = true → Nat.ble is.length fuel = true → dr D n ops is e = some e' →
    RG P n K ops S (fuel - is.length) (taken listed is) e' w → RG P n K ops S fuel listed e w := by
  intro is
  induction is with
  | nil => intro fuel listed e e' _ _ h hr; simp only [dr] at h; cases h; exact hr
  | cons i r ih =>
    intro fuel listed e e' hk hf h hr
    simp only [okTakes, Bool.and_eq_true] at hk
    have hf' : r.length + 1 ≤ fuel := Nat.le_of_ble_eq_true hf
    obtain ⟨q, rfl⟩ : ∃ q, fuel = q + 1 := ⟨fuel - 1, by omega⟩
    have hq : Nat.ble r.length q = true := by rw [Nat.ble_eq]; omega
    have hfu : q + 1 - (i :: r).length = q - r.length := by simp
    rw [hfu] at hr
    simp only [dr] at h
    split at h
    · rename_i o ho
      split at h
      · rename_i d hd
        cases hn : Nat.blt d n with
        | false => rw [hn] at h; cases h
        | true =>
          rw [hn] at h
          cases hg : gok e ops o.guard with
          | true =>
            rw [hg] at h
            simp only [cond_true] at h
            split at h
            · rename_i v hv; exact RH.take i hk.1 ho hg hd hn (fun _ _ => pop_ok hD hv) (ih hk.2 hq h hr)
            · cases h
          | false =>
            rw [hg] at h
            simp only [cond_true, cond_false] at h
            cases hg' : gno e ops o.guard with
            | true => rw [hg'] at h; exact RH.no i hk.1 ho hg' hd hn (ih hk.2 hq h hr)
            | false => rw [hg'] at h; cases h
      · cases h
    · cases h
/-- Two structs are the same, field by field. -/
theorem eqF_nil {P : Program} {d : Nat} {xs ys : Array Value} {w : World} : (Op.eqFields d xs ys []).run P w = .ok (decide True) w := by simp [Op.eqFields]
theorem eqF_cons {P : Program} {d : Nat} {xs ys : Array Value} {w : World} {f : Field} {fs : List Field} {a b : Value} {p q : Prop} [Decidable p] [Decidable q] (hn : (f.name == "_") = false) (ht : ∀ w, (isAgg f.type).run P w = .ok false w) (ha : xs[f.offset]? = some a) (hb : ys[f.offset]? = some b)
    (he : (Op.equalIn d f.type a b).run P w = .ok (decide p) w) (hr : (Op.eqFields d xs ys fs).run P w = .ok (decide q) w) : (Op.eqFields d xs ys (f :: fs)).run P w = .ok (decide (p ∧ q)) w := by
  have hn' : f.name ≠ "_" := by intro h; rw [h] at hn; cases hn
  have pa : (part f.type xs f.offset).run P w = .ok a w := by simp [part, ht, ha]
  have pb : (part f.type ys f.offset).run P w = .ok b w := by simp [part, ht, hb]
  simp only [Op.eqFields, hn', ne_eq, not_false_eq_true, if_true, Sem.run_bind, pa, pb, he, Result.andThen_ok]
  by_cases hp : p
  · simp [hp, hr]
  · simp [hp]
theorem eqF_top {P : Program} {t : TypeId} {xs ys : Array Value} {w : World} {fs : Array Field} {p q : Prop} [Decidable p] [Decidable q] (hf : P.underlying t = some (.struct (P.fieldsOf t))) (hu : P.underlying t = some (.struct fs)) (hs : P.stoodInHeld t = false) (h : (Op.eqFields 9999 xs ys fs.toList).run P w = .ok (decide q) w) (hpq : q ↔ p) : (Op.equalIn 10000 t (.agg xs) (.agg ys)).run P w = .ok (decide p) w := by
  rw [run_equalIn_struct w 9999 t _ _ hf hs]
  rw [hf] at hu
  have hfs := TypeDesc.struct.inj (Option.some.inj hu)
  rw [hfs, h]; simp only [hpq]
theorem eqI {P : Program} {t : TypeId} {q : IntKind} (w : World) (a b : Int) (h : P.underlying t = some (.int q)) : (Op.equalIn 9999 t (.int q a) (.int q b)).run P w = .ok (decide (a = b)) w := by
  rw [run_equalIn_int (P := P) w 9998 t q q a b h]; congr 1
theorem eqB {P : Program} {t : TypeId} (w : World) (a b : Bool) (h : P.underlying t = some .bool) : (Op.equalIn 9999 t (.bool a) (.bool b)).run P w = .ok (decide (a = b)) w := by
  rw [run_equalIn_bool (P := P) w 9998 t a b h]; congr 1
theorem eqS {P : Program} {t : TypeId} (w : World) (a b : List UInt8) (h : P.underlying t = some .string) : (Op.equalIn 9999 t (Str a) (Str b)).run P w = .ok (decide (a = b)) w := by
  have h := run_equalIn_string (P := P) w 9998 t ⟨a.toArray⟩ ⟨b.toArray⟩ h
  rw [h]; congr 1; simp only [ByteArray.toList_mk]; by_cases hab : a = b <;> simp [hab]
theorem eqU64 {P : Program} {t : TypeId} {q : IntKind} (w : World) (a b : UInt64) (h : P.underlying t = some (.int q)) : (Op.equalIn 9999 t (.int q (a.toNat : Nat)) (.int q (b.toNat : Nat))).run P w = .ok (decide (a = b)) w := by
  rw [eqI w _ _ h]; congr 1; by_cases hab : a = b
  · simp [hab]
  · have : a.toNat ≠ b.toNat := fun hh => hab (UInt64.toNat_inj.1 hh)
    simp [hab]; omega
theorem eqU32 {P : Program} {t : TypeId} {q : IntKind} (w : World) (a b : UInt32) (h : P.underlying t = some (.int q)) : (Op.equalIn 9999 t (.int q (a.toNat : Nat)) (.int q (b.toNat : Nat))).run P w = .ok (decide (a = b)) w := by
  rw [eqI w _ _ h]; congr 1; by_cases hab : a = b
  · simp [hab]
  · have : a.toNat ≠ b.toNat := fun hh => hab (UInt32.toNat_inj.1 hh)
    simp [hab]; omega
theorem eqU8 {P : Program} {t : TypeId} {q : IntKind} (w : World) (a b : UInt8) (h : P.underlying t = some (.int q)) : (Op.equalIn 9999 t (.int q (a.toNat : Nat)) (.int q (b.toNat : Nat))).run P w = .ok (decide (a = b)) w := by
  rw [eqI w _ _ h]; congr 1; by_cases hab : a = b
  · simp [hab]
  · have : a.toNat ≠ b.toNat := fun hh => hab (UInt8.toNat_inj.1 hh)
    simp [hab]; omega
end Go.Wk
namespace Go.Wk
open Go Go.RowKit
theorem setL_cons0 (a : Value) : ∀ (us l : List Value) (o : Nat), setL (a :: l) (o + 1) us = a :: setL l o us
  | [], _, _ => rfl
  | u :: r, l, o => by simp only [setL, List.set_cons_succ]; exact setL_cons0 a r _ _
theorem setL_pre (pre : List Value) (us l : List Value) (o : Nat) : setL (pre ++ l) (pre.length + o) us = pre ++ setL l o us := by
  induction pre with
  | nil => simp
  | cons a pre ih => rw [List.cons_append, List.length_cons, show pre.length + 1 + o = pre.length + o + 1 by omega, setL_cons0, ih]; rfl
theorem setL_post (post : List Value) : ∀ (us l : List Value) (o : Nat), o + us.length ≤ l.length → setL (l ++ post) o us = setL l o us ++ post
  | [], _, _, _ => rfl
  | u :: r, l, o, h => by
    simp only [List.length_cons] at h
    simp only [setL]
    rw [List.set_append_left _ _ (by omega)]
    exact setL_post post r _ _ (by simp; omega)
section
variable {P : Program} {α : Type} {rep : Rep α} {Z0 S : Nat → Prop} {w0 w : World} {L : List Rs}
/-- A part of an element is written. -/
theorem own_part_run {t el : TypeId} {gb c kk o m : Nat} {xs : List α} {z : α} {v : Value} {us vs0 vs1 : List Value} {D : Nat → Prop} (hO : Own 0 D w el (some ⟨gb, 0, none⟩) c rep xs) (hk : kk < xs.length) (hs : ∀ w, (sizeOf t).run P w = .ok m w) (hv : v.cells = us.toArray) (hl : us.length = m)
    (hone : ∀ u ∈ us, u.oneCell' = true) (hR : Rd w gb (kk * rep.sz) vs0) (hl0 : vs0.length = rep.sz) (ho : o + us.length ≤ vs0.length) (h1' : setL vs0 o us = vs1) (hrel : rep.rel D w vs1 z) (hD : ∀ b, D b → ¬ ob (some ⟨gb, 0, none⟩) b) :
    ∃ w', (storeVar t ⟨gb, kk * rep.sz + o, none⟩ v).run P w = .ok () w' ∧ Own 0 D w' el (some ⟨gb, 0, none⟩) c rep (xs.set kk z) ∧ Fr (fun b => ob (some ⟨gb, 0, none⟩) b) w w' := by
  rcases hO.2.2 with ⟨h, _⟩ | ⟨g, cs, vss, hg, h1, h2, h3, h4, h5, h6⟩
  · cases h
  · cases hg
    have hlen := lens_of h4 h5
    have hkv : kk < vss.length := by omega
    have hvl : vs1.length = rep.sz := by rw [← h1', length_setL, hl0]
    have hul : vss[kk].length = rep.sz := hlen _ (List.getElem_mem hkv)
    obtain ⟨pre, post, q1, q2, q3⟩ := flatten_set rep.sz vss hlen kk vs1 vss[kk] (List.getElem?_eq_getElem hkv) hvl
    have hcs : cs = pre ++ (vss[kk] ++ (post ++ cs.drop (xs.length * rep.sz))) := by
      have := List.take_append_drop (xs.length * rep.sz) cs
      rw [h6, q1] at this
      rw [← List.append_assoc, ← List.append_assoc]; exact this.symm
    have he : vss[kk] = vs0 := by
      refine List.ext_getElem? fun j => ?_
      by_cases hj : j < rep.sz
      · have a1 : vss[kk][j]? = some (vss[kk][j]'(by omega)) := List.getElem?_eq_getElem (by omega)
        have a2 : vs0[j]? = some (vs0[j]'(by omega)) := List.getElem?_eq_getElem (by omega)
        have b2 := hR j _ a2
        rw [h2.cell] at b2
        have : cs[kk * rep.sz + j]? = vss[kk][j]? := by
          rw [hcs, List.getElem?_append_right (by omega), q3, show kk * rep.sz + j - kk * rep.sz = j by omega, List.getElem?_append_left (by omega)]
        rw [a2, ← b2, this]
      · rw [List.getElem?_eq_none (by omega), List.getElem?_eq_none (by omega)]
    have hcl : kk * rep.sz + o + us.length ≤ cs.length := by
      have hh := congrArg List.length hcs
      simp only [List.length_append, q3, hul] at hh; omega
    obtain ⟨w', hr, hB, hF⟩ := storeCells_blk P el gb us cs (kk * rep.sz + o) 0 w h2 hone (by omega)
    have hset : setL cs (kk * rep.sz + o + 0) us = pre ++ vs1 ++ (post ++ cs.drop (xs.length * rep.sz)) := by
      have a0 : setL cs (kk * rep.sz + o + 0) us = setL (pre ++ (vss[kk] ++ (post ++ cs.drop (xs.length * rep.sz)))) (pre.length + o) us := by rw [← hcs, q3]; rfl
      rw [a0, setL_pre, setL_post _ _ _ _ (by omega), he, h1']; simp
    have hF' : Fr (fun b => ob (some ⟨gb, 0, none⟩) b) w w' := hF.mono fun b hb => by rw [hb]; rfl
    rw [hset] at hB
    refine ⟨w', ?_, ⟨by rw [List.length_set]; exact hO.1, hO.2.1, .inr ⟨gb, _, vss.set kk vs1, rfl, h1, hB, ?_, by simp [h4], ?_, ?_⟩⟩, hF'⟩
    · simp [storeVar, hs, hv, hl, hr]
    · have hh := congrArg List.length hcs
      simp only [List.length_append, hul, hvl] at hh ⊢; omega
    · intro k us' x hu hx
      rw [List.getElem?_set] at hu hx
      split at hu
      · rename_i hkk
        rw [if_pos hkk] at hx
        have e1 : us' = vs1 := by
          first
          | exact (Option.some.inj hu).symm
          | (rw [if_pos (by omega)] at hu; exact (Option.some.inj hu).symm)
        have e2 : x = z := by
          rw [if_pos (by omega)] at hx; exact (Option.some.inj hx).symm
        subst e1 e2
        exact Rep.fr hrel hF' hD
      · rename_i hkk
        rw [if_neg hkk] at hx
        exact Rep.fr (h5 k us' x hu hx) hF' hD
    · rw [List.length_set, q2, ← List.append_assoc]
      have : (pre ++ vs1 ++ post).length = xs.length * rep.sz := by
        have hh := length_flat rep.sz vss hlen
        rw [q1, h4] at hh
        simp only [List.length_append, hul, hvl] at hh ⊢; omega
      rw [← this, List.take_left]
variable {f : FuncId} {n : Nat} {R : Ending → World → Prop} {k : List Item} {e : Env}
variable {ops : Array Oper} {i : Nat} {rest : List Nat} {ty : TypeId} {pos : String} {af : Array Edge} {g : Option (Nat × Bool)}
theorem Rn.stP {t el : TypeId} {x y : Operand} {gb kk m o c s : Nat} {j : Int} {xs : List α} {z : α} {v : Value} {us vs0 vs1 : List Value} (hm : Hp Z0 S w0 w L) (m' : Nat) (hi : L[m']? = some (ownR el (some ⟨gb, 0, none⟩) c rep xs)) (hj : j = (kk : Int)) (hk : kk < xs.length) (hR : Rd w gb (kk * rep.sz) vs0) (ho : ops[i]? = some ⟨none, .store t x y, ty, pos, af, g⟩) (hg : gok e ops g = true)
    (hs : ∀ w, (sizeOf t).run P w = .ok m w) (hsz : rep.sz = s) (hx : ev e x = some (.pointer (some ⟨gb, kk * s + o, none⟩))) (hy : ev e y = some v) (hv : v.cells = us.toArray) (hl : us.length = m) (hone : ∀ u ∈ us, u.oneCell' = true) (hl0 : vs0.length = s) (hb : Nat.ble (o + us.length) s = true) (h1' : setL vs0 o us = vs1) (hrel : rep.rel (Zo Z0 S w0 L) w vs1 z)
    (h : ∀ w', Hp Z0 S w0 w' (L.set m' (ownR el (some ⟨gb, 0, none⟩) c rep (setI xs j z))) → Rn P f n R (.inRegion ops rest :: k) e w') : Rn P f n R (.inRegion ops (i :: rest) :: k) e w := by
  subst hj
  have h0 := hm.get m' hi
  have hO : Own 0 (fun b => Zo Z0 S w0 L b ∧ b < w.heap.size) w el (some ⟨gb, 0, none⟩) c rep xs := Own.bd h0
  obtain ⟨w', hr, hO2, hF⟩ := own_part_run (P := P) (t := t) hO hk hs hv hl hone hR (by rw [hl0, hsz]) (by rw [hl0]; exact Nat.le_of_ble_eq_true hb) h1' (rep.bd hrel) (fun b hb hob => hb.1.2 m' _ hi hob)
  rw [hsz] at hr
  refine Rn.opU ho hg rfl (fun a hf => by simp [execOp, ev_eval hf hx, ev_eval hf hy, Instr.storeAt, Instr.sureAddr, hr]) (h w' ?_)
  exact hm.upd m' _ hi hF (fun x hx => .inl hx) fun Z' h1 _ => hO2.mono fun b hb => h1 b hb.1 hb.2
end
end Go.Wk
namespace Go.Wk
open Go Go.RowKit
section
variable {P : Program} {n : Nat} {K : Act → World → Prop} {e : Env} {w : World} {ops : Array Oper} {S : World → Prop} {fuel : Nat} {listed : Array Bool} {d : Nat} {ty : TypeId} {pos : String} {af : Array Edge} {g : Option (Nat × Bool)}
theorem RB.alloc {t : TypeId} {z : Value} {cs : List Value} (i : Nat) (ho : ops[i]? = some ⟨some d, .alloc t, ty, pos, af, g⟩) (hg : gok e ops g = true) (hn : Nat.blt d n = true) (hz : ∀ w, (zeroValue t).run P w = .ok z w) (hc : z.cells = cs.toArray)
    (h : ∀ b w', b = w.heap.size → Blk w' b t cs → Ext w w' → S w' ∧ RG P n K ops S fuel (listed.setIfInBounds i true) ((d, .pointer (some ⟨b, 0, none⟩)) :: e) w') : RB P n K ops S fuel listed i e w := by
  obtain ⟨h6, h7⟩ := h w.heap.size (w.alloc (.cells cs.toArray t)) rfl (Blk.new w t cs) (Ext.alloc w _)
  exact RB.one i ho hg rfl hn (V.alloc hz hc) h6 h7
theorem RB.box {t : TypeId} {x : Operand} {v : Value} {cs : List Value} (i : Nat) (ho : ops[i]? = some ⟨some d, .box t x, ty, pos, af, g⟩) (hg : gok e ops g = true) (hn : Nat.blt d n = true) (hx : ev e x = some v) (hc : v.cells = cs.toArray)
    (h : ∀ b w', b = w.heap.size → Blk w' b t cs → Ext w w' → S w' ∧ RG P n K ops S fuel (listed.setIfInBounds i true) ((d, .pointer (some ⟨b, 0, none⟩)) :: e) w') : RB P n K ops S fuel listed i e w := by
  obtain ⟨h6, h7⟩ := h w.heap.size (w.alloc (.cells cs.toArray t)) rfl (Blk.new w t cs) (Ext.alloc w _)
  exact RB.one i ho hg rfl hn (V.box hx hc) h6 h7
theorem RB.bslS {t el : TypeId} {s by_ : Nat} {ps : List (Nat × Operand)} {m : Nat} {us cs : List Value} (i : Nat) (ho : ops[i]? = some ⟨some d, .buildSlice t m ps.toArray, ty, pos, af, g⟩) (hg : gok e ops g = true) (hn : Nat.blt d n = true)
    (ht : P.underlying t = some (.slice el)) (hel : ElOk P el s by_) (hps : ps.map (·.1) = List.range m) (hx : evs e (ps.map (·.2)) = some us) (hl : us.length = m) (hcs : us.flatMap (fun u => u.cells.toList) = cs) (hu : ∀ u ∈ us, u.cells.size = s) (hbig : m * s ≤ 16777216)
    (h : ∀ b w', b = w.heap.size → Blk w' b el cs → Ext w w' → S w' ∧ RG P n K ops S fuel (listed.setIfInBounds i true) ((d, .slice (some ⟨b, 0, none⟩) m m) :: e) w') : RB P n K ops S fuel listed i e w := by
  obtain ⟨h6, h7⟩ := h w.heap.size (w.alloc (.cells cs.toArray el)) rfl (Blk.new w el cs) (Ext.alloc w _)
  refine RB.one i ho hg rfl hn (V.bsl (by simpa using hx) (fun w => ?_)) h6 h7
  rw [List.toList_toArray, hps, ← hcs]
  exact run_buildSlice ht hel hl hu hbig w
end
end Go.Wk
namespace Go.Wk
open Go Go.RowKit
section
variable {Z0 S : Nat → Prop} {w0 w : World} {L K D M : List Rs}
def CalmL : List Rs → Prop
  | [] => True
  | r :: l => (∀ x, ¬ r.F x) ∧ CalmL l
theorem CalmL.mem : ∀ {L : List Rs}, CalmL L → ∀ r ∈ L, ∀ x, ¬ r.F x
  | _ :: _, ⟨h, hr⟩, r, hm => by
    rcases List.mem_cons.1 hm with rfl | hm
    · exact h
    · exact hr.mem r hm
theorem get3 {i : Nat} {a : Rs} (h : ((K ++ D) ++ M)[i]? = some a) : (i < K.length ∧ K[i]? = some a) ∨ a ∈ D ∨ (K.length + D.length ≤ i ∧ M[i - K.length - D.length]? = some a) := by
  rcases get_app h with h | ⟨h1, h2⟩
  · rcases get_app h with h | ⟨h1, h2⟩
    · exact .inl ⟨lt_of_get h, h⟩
    · exact .inr (.inl (List.mem_of_getElem? h2))
  · refine .inr (.inr ⟨by simpa using h1, ?_⟩)
    rw [List.length_append] at h2
    rw [Nat.sub_sub]; exact h2
theorem Hp.insD (hm : Hp Z0 S w0 w (K ++ M)) (hD : ∀ r ∈ D, (∀ x, ¬ r.F x) ∧ r.H (Zo Z0 S w0 (K ++ M)) w) : Hp Z0 S w0 w ((K ++ D) ++ M) := by
  have hz : ∀ b, Zo Z0 S w0 (K ++ M) b → Zo Z0 S w0 ((K ++ D) ++ M) b := fun b ⟨h1, h2⟩ => ⟨h1, fun j r hj hr => by
    rcases get3 hj with ⟨_, h⟩ | h | ⟨_, h⟩
    · exact h2 j r (get_left h) hr
    · exact (hD r h).1 b hr
    · exact h2 _ r (get_right h) hr⟩
  have kp : ∀ r : Rs, r.H (Zo Z0 S w0 (K ++ M)) w → r.H (Zo Z0 S w0 ((K ++ D) ++ M)) w := fun r h => r.keep h (fun _ _ _ => rfl) (fun _ _ _ => rfl) fun b hb _ => hz b hb
  refine ⟨hm.fr, fun i r hi => ?_, fun i j a b hij hi hj x hx hb => ?_, fun i r hi x hx => ?_⟩
  · rcases get3 hi with ⟨_, h⟩ | h | ⟨_, h⟩
    · exact kp r (hm.hs _ r (get_left h))
    · exact kp r (hD r h).2
    · exact kp r (hm.hs _ r (get_right h))
  · rcases get3 hi with ⟨hi1, hi⟩ | hi | ⟨hi1, hi⟩
    · rcases get3 hj with ⟨hj1, hj⟩ | hj | ⟨hj1, hj⟩
      · exact hm.ap _ _ a b hij (get_left hi) (get_left hj) x hx hb
      · exact (hD b hj).1 x hb
      · exact hm.ap _ _ a b (by omega) (get_left hi) (get_right hj) x hx hb
    · exact (hD a hi).1 x hx
    · rcases get3 hj with ⟨hj1, hj⟩ | hj | ⟨hj1, hj⟩
      · exact hm.ap _ _ a b (by omega) (get_right hi) (get_left hj) x hx hb
      · exact (hD b hj).1 x hb
      · exact hm.ap _ _ a b (by omega) (get_right hi) (get_right hj) x hx hb
  · rcases get3 hi with ⟨_, h⟩ | h | ⟨_, h⟩
    · exact hm.nw _ r (get_left h) x hx
    · exact ((hD r h).1 x hx).elim
    · exact hm.nw _ r (get_right h) x hx
/-- What a region turns, apart from what it leaves; what is calm in both. -/
theorem Hp.cutF (hm : Hp Z0 S w0 w L) (k j d : List Nat) (h : (k ++ (j ++ d)).all (fun i => Nat.blt i L.length) = true) (hnd : (k ++ (j ++ d)).Nodup) (hc : CalmL (pickL L d)) : Hp Z0 S w0 w ((pickL L k ++ pickL L d) ++ (pickL L j ++ pickL L d)) := by
  have h1 := hm.cut k (j ++ d) h hnd
  rw [pickL_app] at h1
  refine h1.insD fun r hr => ⟨hc.mem r hr, ?_⟩
  obtain ⟨q, hq, rfl⟩ := List.getElem_of_mem hr
  exact h1.hs _ _ (get_right (get_right (List.getElem?_eq_getElem hq)))
end
end Go.Wk
namespace Go.Wk
open Go Go.RowKit
section
variable {β : Type} {a b : Option β} {r : β} {A B C : Prop}
/-- The plain form asks what the way asks. -/
theorem askD {p : Prop} [Decidable p] (hM : (if p then a else b) = some r) (X : (p → A) → (¬ p → B) → C) (ht : p → a = some r → A) (hf : ¬ p → b = some r → B) : C := X (fun h => ht h (iteT h hM)) (fun h => hf h (iteF h hM))
theorem askS {t : Bool} (hM : (if t = true then a else b) = some r) (X : (t = true → A) → (t = false → B) → C) (ht : t = true → a = some r → A) (hf : t = false → b = some r → B) : C := X (fun h => ht h (iteT h hM)) (fun h => hf h (iteFB hM h))
/-- All of these slots stand there. -/
def AllIn : Env → Env → Prop
  | [], _ => True
  | (t, v) :: e, e' => lk e' t = some v ∧ AllIn e e'
theorem sb : ∀ {e e' : Env}, AllIn e e' → Sub e e'
  | [], _, _ => Sub.nil _
  | (_, _) :: _, _, ⟨h, hr⟩ => Sub.cons h (sb hr)
end
abbrev pt (b o : Nat) : Value := .pointer (some ⟨b, o, none⟩)
abbrev iv (z : Int) : Value := .int .i64 z
abbrev u8v (x : UInt8) : Value := .int .u8 ((x.toNat : Nat) : Int)
abbrev u32v (x : UInt32) : Value := .int .u32 ((x.toNat : Nat) : Int)
abbrev u64v (x : UInt64) : Value := .int .u64 ((x.toNat : Nat) : Int)
end Go.Wk
namespace Go.Wk
open Go Go.RowKit
section
variable {Z0 S : Nat → Prop} {w0 w : World} {L : List Rs} {α : Type} {rep : Rep α}
/-- A slice of one's own, shortened. -/
theorem Own.take {B : Nat} {D : Nat → Prop} {et : TypeId} {A : Option Addr} {c : Nat} {xs : List α} (h : Own B D w et A c rep xs) (k : Nat) : Own B D w et A c rep (xs.take k) := by
  obtain ⟨h1, h2, h3⟩ := h
  refine ⟨Nat.le_trans (by simp; omega) h1, h2, ?_⟩
  rcases h3 with ⟨hA, hc⟩ | ⟨g, cs, vss, hA, hB, hk, hcl, hlen, hrel, hfl⟩
  · exact .inl ⟨hA, hc⟩
  · refine .inr ⟨g, cs, vss.take k, hA, hB, hk, hcl, by simp [hlen], fun q vs x hv hx => ?_, ?_⟩
    · rw [List.getElem?_take] at hv hx
      split at hv
      · rename_i hq; rw [if_pos hq] at hx; exact hrel q vs x hv hx
      · cases hv
    · have hl := lens_of hlen hrel
      have e : (vss.take k).flatten = vss.flatten.take ((vss.take k).length * rep.sz) := by
        have hf := length_flat rep.sz (vss.take k) (fun vs hvs => hl vs (List.mem_of_mem_take hvs))
        have hs : vss.flatten = (vss.take k).flatten ++ (vss.drop k).flatten := by rw [← List.flatten_append, List.take_append_drop]
        rw [hs, ← hf, List.take_left]
      have hkl : (vss.take k).length = (xs.take k).length := by simp [hlen]
      rw [e, ← hfl, List.take_take, hkl]
      congr 1
      have : (xs.take k).length * rep.sz ≤ xs.length * rep.sz := Nat.mul_le_mul_right _ (by simp; omega)
      omega
theorem Hp.shorten {et : TypeId} {A : Option Addr} {c : Nat} {xs : List α} (hm : Hp Z0 S w0 w L) (i : Nat) (hi : L[i]? = some (ownR et A c rep xs)) (k : Nat) : Hp Z0 S w0 w (L.set i (ownR et A c rep (xs.take k))) := by
  have h0 := hm.get i hi
  have h1 : Own 0 (fun b => Zo Z0 S w0 L b ∧ b < w.heap.size) w et A c rep xs := Own.bd h0
  refine hm.upd i _ hi (Fr.refl _ _) (fun x hx => .inl hx) fun Z' h2 _ => ?_
  exact (Own.take h1 k).mono fun b hb => h2 b hb.1 hb.2
variable {P : Program} {f : FuncId} {n : Nat} {R : Ending → World → Prop} {k : List Item} {e : Env} {ops : Array Oper} {i : Nat} {rest : List Nat} {d : Nat} {ty : TypeId} {pos : String} {af : Array Edge} {g : Option (Nat × Bool)}
theorem Rn.cutOH {t el : TypeId} {x : Operand} {lo hi : Option Operand} {A : Option Addr} {c m : Nat} {p q : Int} {xs zs : List α} {s : Nat} (hm : Hp Z0 S w0 w L) (m' : Nat) (hi' : L[m']? = some (ownR el A c rep xs)) (hz : cutL xs p q = some zs) (hp : p = 0) (ho : ops[i]? = some ⟨some d, .slice t x lo hi none, ty, pos, af, g⟩) (hg : gok e ops g = true) (hn : Nat.blt d n = true)
    (ht : P.underlying t = some (.slice el)) (hs : ∀ w, (sizeOf el).run P w = .ok s w) (hsz : rep.sz = s) (hx : ev e x = some (.slice A m c)) (hmm : xs.length = m) (hlo : lo? e lo p) (hhi : hi? e hi q m)
    (h : Hp Z0 S w0 w (L.set m' (ownR el A c rep zs)) → Rn P f n R (.inRegion ops rest :: k) ((d, .slice A zs.length c) :: e) w) : Rn P f n R (.inRegion ops (i :: rest) :: k) e w := by
  subst hp
  obtain ⟨p', q', hp', rfl, h1, h2, rfl⟩ := cutE hz
  obtain rfl : p' = 0 := by omega
  have h0 := hm.get m' hi'
  have hA : (if c = 0 then A else A.map (·.add (0 * s))) = A := by
    rcases h0.2.2 with ⟨rfl, _⟩ | ⟨g, _, _, rfl, _⟩
    · split <;> rfl
    · split <;> simp [Addr.add_none]
  have hv : OpV P n e w ⟨some d, .slice t x lo hi none, ty, pos, af, g⟩ (.slice A (xs.take q').length c) w := by
    have := V.cutV (n := n) (dst := some d) (ty := ty) (pos := pos) (af := af) (g := g) (w := w) 0 q' ht hs hx (lo := lo) (hi := hi) ?_ ?_ h1 (by have := h0.1; omega)
    · rw [hA] at this
      have e1 : q' - 0 = (xs.take q').length := by simp; omega
      rw [e1] at this; exact this
    · cases lo with
      | none => rfl
      | some y => exact ⟨_, hlo, rfl⟩
    · cases hi with
      | none => have hh : (q' : Int) = _ := hhi; exact Int.ofNat.inj hh
      | some y => exact ⟨_, hhi, rfl⟩
  have hm2 := hm.shorten m' hi' q'
  rw [List.drop_zero] at h
  exact Rn.v ho hg rfl hn hv (h hm2)
end
theorem objR_flat {F : Nat → Prop} {P : List Rs → Prop} (h : ∀ L, P L → ∀ (i : Nat) r, L[i]? = some r → r.Flat) : (objR F P).Flat :=
  fun Z Z' w ⟨L, h1, h2, h3, h4⟩ => ⟨L, h1, h2, fun i r hi => h L h1 i r hi Z Z' w (h3 i r hi), h4⟩
theorem fz_rd {b : Nat} {t : TypeId} {cs : List Value} {Z : Nat → Prop} {w : World} (h : (fzR (boxR b t cs)).H Z w) : (rdR b 0 cs).H Z w := ⟨fun _ => h.2 b rfl, Blk.rd h.1⟩
theorem rdT {b : Nat} {T : List UInt8} {Z : Nat → Prop} {w : World} {kk : Nat} {z : UInt8} (h : (rdR b 0 (T.map fun x => u8v x)).H Z w) (hz : T[kk]? = some z) : (rdR b (0 + kk * 1) [u8v z]).H Z w := by
  have hv : (T.map fun x => u8v x)[kk]? = some (u8v z) := by rw [List.getElem?_map, hz]; rfl
  refine ⟨fun _ => h.1 fun h0 => by rw [h0] at hv; simp at hv, fun j v hj => ?_⟩
  cases j with
  | zero => cases hj; have := h.2 kk _ hv; simpa using this
  | succ j => simp at hj
/- A LIST OF ITS OWN THAT IS ONLY READ: a part of one that was made -/
def roR {α : Type} (F : Nat → Prop) (A : Option Addr) (c : Nat) (rep : Rep α) (xs : List α) : Rs where
  F := F
  H := fun _ w => xs.length ≤ c ∧ c ≤ maxLen ∧ Sl F w A rep xs ∧ ∀ b, F b → b < w.heap.size
  keep := fun {_ _ w w'} ⟨h1, h2, h3, h4⟩ hF _ _ => ⟨h1, h2, h3.keep fun b hb hlt => hF b hb hlt, fun b hb => by
    have h5 := hF b hb (h4 b hb)
    rw [Array.getElem?_eq_getElem (h4 b hb)] at h5
    exact (Array.getElem?_eq_some_iff.1 h5).1⟩
  lt := fun h b hb => h.2.2.2 b hb
theorem roR_flat {α : Type} {F : Nat → Prop} {A : Option Addr} {c : Nat} {rep : Rep α} {xs : List α} : (roR F A c rep xs).Flat := fun _ _ _ h => h
section
variable {α : Type} {rep : Rep α} {Z0 S : Nat → Prop} {w0 w : World} {L : List Rs}
theorem Hp.toRo {et : TypeId} {A : Option Addr} {c : Nat} {xs : List α} (hr : rep.Flat) (hm : Hp Z0 S w0 w L) (i : Nat) (hi : L[i]? = some (ownR et A c rep xs)) : Hp Z0 S w0 w (L.set i (roR (ob A) A c rep xs)) := by
  have h0 := hm.get i hi
  have h3 := Own.sl (Own.flat hr (D' := fun _ => False) h0)
  exact hm.upd i _ hi (Fr.refl _ _) (fun x hx => .inl hx) fun Z' _ _ => ⟨h0.1, h0.2.1, h3.mono fun b hb => hb.elim False.elim id, fun b hb => (ownR et A c rep xs).lt h0 b hb⟩
theorem Hp.freezeRo {F : Nat → Prop} {A : Option Addr} {c : Nat} {xs : List α} (hm : Hp Z0 S w0 w L) (i : Nat) (hi : L[i]? = some (roR F A c rep xs)) : Hp Z0 S w0 w (L.set i (slR A c rep xs)) := by
  have h0 := hm.get i hi
  exact hm.upd i _ hi (Fr.refl _ _) (fun x hx => hx.elim) fun Z' h1 h2 => ⟨h0.1, h0.2.1, h0.2.2.1.mono fun b hb => h2 b (.inl hb) fun h => h⟩
end
section
variable {P : Program} {f : FuncId} {n : Nat} {R : Ending → World → Prop} {k : List Item} {e : Env} {w w0 : World} {ops : Array Oper} {i d : Nat} {rest : List Nat} {ty : TypeId} {pos : String} {af : Array Edge} {g : Option (Nat × Bool)} {Z0 S : Nat → Prop} {L : List Rs} {α : Type} {rep : Rep α}
theorem Rn.cutRo {t el : TypeId} {x : Operand} {lo hi : Option Operand} {A : Option Addr} {c m : Nat} {p q : Int} {xs zs : List α} {s : Nat} (hr : rep.Flat) (hm : Hp Z0 S w0 w L) (m' : Nat) (hi' : L[m']? = some (ownR el A c rep xs)) (hz : cutL xs p q = some zs) (ho : ops[i]? = some ⟨some d, .slice t x lo hi none, ty, pos, af, g⟩) (hg : gok e ops g = true) (hn : Nat.blt d n = true)
    (ht : P.underlying t = some (.slice el)) (hs : ∀ w, (sizeOf el).run P w = .ok s w) (hsz : rep.sz = s) (hx : ev e x = some (.slice A m c)) (hmm : xs.length = m) (hlo : lo? e lo p) (hhi : hi? e hi q m)
    (h : ∀ F A' c', Hp Z0 S w0 w (L.set m' (roR F A' c' rep zs)) → Rn P f n R (.inRegion ops rest :: k) ((d, .slice A' zs.length c') :: e) w) : Rn P f n R (.inRegion ops (i :: rest) :: k) e w := by
  obtain ⟨p', q', rfl, rfl, h1, h2, rfl⟩ := cutE hz
  have h0 := hm.get m' hi'
  have h3 := Own.sl (Own.flat hr (D' := fun _ => False) h0)
  refine Rn.cutSl p' q' ho hg hn ht hs hx h3 hmm (by have := h0.1; omega) hsz ?_ ?_ h1 (by omega) fun A' hS hl => h (ob A) A' _ (hm.upd m' _ hi' (Fr.refl _ _) (fun x hx => .inl hx) fun Z' _ _ => ⟨hl, by have := h0.2.1; omega, hS.mono fun b hb => hb.elim False.elim id, fun b hb => (ownR el A c rep xs).lt h0 b hb⟩)
  · cases lo with
    | none => simpa using hlo
    | some y => exact ⟨_, hlo, rfl⟩
  · cases hi with
    | none => have hh : (q' : Int) = _ := hhi; exact Int.ofNat.inj hh
    | some y => exact ⟨_, hhi, rfl⟩
end
end Go.Wk
namespace Go.Wk
open Go Go.RowKit
theorem blkRd {w : World} {b : Nat} {t : TypeId} {cs : List Value} {Z : Nat → Prop} (h : (boxR b t cs).H Z w) (o m : Nat) : Rd w b o ((cs.drop o).take m) := by
  have := (Blk.rd h).sub o m
  rwa [Nat.zero_add] at this
end Go.Wk
namespace Go.Wk
open Go Go.RowKit
section
variable {P : Program} {f : FuncId} {n : Nat} {R : Ending → World → Prop} {k : List Item} {e : Env} {w : World} {ops : Array Oper}
variable {K : Act → World → Prop}
theorem wpAnyH_str {md : Region.Mode} {Q : Exit → Act → World → Prop} {S1 S : World → Prop} (hs : ∀ w', S1 w' → S w') : ∀ (fuel : Nat) (listed : Array Bool) (a : Act) (w : World), wpAnyH P md ops Q S1 fuel listed a w → wpAnyH P md ops Q S fuel listed a w
  | 0, _, _, _, h => h
  | fuel + 1, _, _, _, h => ⟨h.1, fun i hi => wpOp_mono (fun a' w' h' => ⟨hs _ h'.1, wpAnyH_str hs fuel _ a' w' h'.2⟩) (h.2 i hi)⟩
/-- From here on more stays as it is. -/
theorem RG.str {S1 S : World → Prop} {fuel : Nat} {listed : Array Bool} (hs : ∀ w', S1 w' → S w') (h1 : S1 w) (h : RG P n K ops S1 fuel listed e w) : RG P n K ops S fuel listed e w :=
  fun a ha hf _ => wpAnyH_str hs fuel listed a w (h a ha hf h1)
/- functions that hold what they are called upon -/
theorem V.mkFB {fn : Fn} {bs xs : List Operand} {us vs : List Value} {dst : Option Nat} {ty : TypeId} {pos : String} {af : Array Edge} {g : Option (Nat × Bool)} (hb : evs e bs = some us) (hx : evs e xs = some vs) :
    OpV P n e w ⟨dst, .makeFunc fn bs.toArray xs.toArray, ty, pos, af, g⟩ (.func fn us.toArray vs.toArray) w :=
  fun c hf => by simp [execOp, Instr.makeFunc, evs_map hf hx, evs_map hf hb]
theorem Rn.clVB {i d : Nat} {rest : List Nat} {ty : TypeId} {pos : String} {af : Array Edge} {g : Option (Nat × Bool)} {gg : FuncId} {y : Operand} {bs cs : List Value} {xs : List Operand} {ts : Array TypeId} {vs : List Value} {R' : Ending → World → Prop} (ck : CallOk P gg)
    (ho : ops[i]? = some ⟨some d, .call { callee := .value y, args := xs.toArray, argTypes := ts }, ty, pos, af, g⟩) (hg : gok e ops g = true) (hn : Nat.blt d n = true)
    (hy : ev e y = some (.func (.func gg) bs.toArray cs.toArray)) (hx : evs e xs = some vs) (hc : Calls P gg (bs ++ vs ++ cs).toArray w R')
    (h : ∀ x w', R' x w' → ∃ v, x = .returned v ∧ Rn P f n R (.inRegion ops rest :: k) ((d, v) :: e) w') : Rn P f n R (.inRegion ops (i :: rest) :: k) e w :=
  let ⟨_, _, h1, h2, h3⟩ := ck
  Rn.opC (g := gg) (args := (bs ++ vs ++ cs).toArray) ho hg rfl hn (fun a hf => by
    simp [execOp, resolve, ev_eval hf hy, Deferred.ofValue, invoke, run_callFunc h1 h2 h3, evs_map hf hx]) hc h
theorem RH.clVB {S : World → Prop} {fuel : Nat} {listed : Array Bool} {d : Nat} {ty : TypeId} {pos : String} {af : Array Edge} {g : Option (Nat × Bool)} {gg : FuncId} {y : Operand} {bs cs : List Value} {xs : List Operand} {ts : Array TypeId} {vs : List Value} {R' : Ending → World → Prop} (ck : CallOk P gg) (i : Nat) (hr : Region.ready .any ops listed = [i])
    (ho : ops[i]? = some ⟨some d, .call { callee := .value y, args := xs.toArray, argTypes := ts }, ty, pos, af, g⟩) (hg : gok e ops g = true) (hn : Nat.blt d n = true)
    (hy : ev e y = some (.func (.func gg) bs.toArray cs.toArray)) (hx : evs e xs = some vs) (hc : Calls P gg (bs ++ vs ++ cs).toArray w R')
    (h : ∀ x w', R' x w' → ∃ v, x = .returned v ∧ S w' ∧ RG P n K ops S fuel (listed.setIfInBounds i true) ((d, v) :: e) w') : RG P n K ops S (fuel + 1) listed e w := by
  obtain ⟨fn, c, h1, h2, h3⟩ := ck
  exact RH.opC (g := gg) (args := (bs ++ vs ++ cs).toArray) i hr ho hg rfl hn (fun a hf => by
    simp [execOp, resolve, ev_eval hf hy, Deferred.ofValue, invoke, run_callFunc h1 h2 h3, evs_map hf hx]) hc h
end
end Go.Wk
namespace Go.Wk
open Go Go.RowKit
def minU (a b : UInt64) : UInt64 := if a ≤ b then a else b
def maxU (a b : UInt64) : UInt64 := if a ≤ b then b else a
section
variable {P : Program} {n : Nat} {e : Env} {w : World} {dst : Option Nat} {ty : TypeId} {pos : String} {af : Array Edge} {g : Option (Nat × Bool)}
theorem V.minU {x y : Operand} {a b : UInt64} {ts : Array TypeId} (hx : ev e x = some (u64v a)) (hy : ev e y = some (u64v b)) :
    OpV P n e w ⟨dst, .call { callee := .builtin .min, args := #[x, y], argTypes := ts }, ty, pos, af, g⟩ (u64v (Wk.minU a b)) w := by
  have h : u64v (Wk.minU a b) = .int .u64 (min ((a.toNat : Nat) : Int) ((b.toNat : Nat) : Int)) := by
    unfold Wk.minU u64v
    split <;> rename_i hh <;> rw [UInt64.le_iff_toNat_le] at hh <;> congr 1 <;> omega
  rw [h]; exact V.mini hx hy
theorem V.maxU {x y : Operand} {a b : UInt64} {ts : Array TypeId} (hx : ev e x = some (u64v a)) (hy : ev e y = some (u64v b)) :
    OpV P n e w ⟨dst, .call { callee := .builtin .max, args := #[x, y], argTypes := ts }, ty, pos, af, g⟩ (u64v (Wk.maxU a b)) w := by
  have h : u64v (Wk.maxU a b) = .int .u64 (max ((a.toNat : Nat) : Int) ((b.toNat : Nat) : Int)) := by
    unfold Wk.maxU u64v
    split <;> rename_i hh <;> rw [UInt64.le_iff_toNat_le] at hh <;> congr 1 <;> omega
  rw [h]; exact V.maxi hx hy
end
end Go.Wk
namespace Go.Wk
open Go Go.RowKit
section
variable {P : Program} {n : Nat} {K : Act → World → Prop} {ops : Array Oper} {S' : World → Prop} {fuel : Nat} {listed : Array Bool} {e : Env} {w w0 : World} {d : Nat} {ty : TypeId} {pos : String} {af : Array Edge} {g : Option (Nat × Bool)} {Z0 S : Nat → Prop} {L : List Rs} {α : Type} {rep : Rep α}
theorem RB.mkSlH {by_ : Nat} {t el : TypeId} {x y : Operand} {m : Int} {zm : α} {xs : List α} {zs : List Value} (i : Nat) (hm : Hp Z0 S w0 w L) (hxs : mkL m zm = some xs) (ho : ops[i]? = some ⟨some d, .makeSlice t x y, ty, pos, af, g⟩) (hg : gok e ops g = true) (hn : Nat.blt d n = true) (ht : P.underlying t = some (.slice el)) (hel : ElOk P el rep.sz by_) (hby : Nat.ble by_ 131072 = true)
    (hzc : ((P.info? el).bind (·.zero)).map (·.cells) = some zs.toArray) (hx : ev e x = some (.int .i64 m)) (hy : ev e y = some (.int .i64 m)) (hrel : ∀ (Z : Nat → Prop) (w : World), rep.rel Z w zs zm)
    (h : ∀ b w', Hp Z0 S w0 w' (L ++ [ownR el (some ⟨b, 0, none⟩) xs.length rep xs]) → Ext w w' → S' w' ∧ RG P n K ops S' fuel (listed.setIfInBounds i true) ((d, .slice (some ⟨b, 0, none⟩) xs.length xs.length) :: e) w') : RB P n K ops S' fuel listed i e w := by
  obtain ⟨b, w', hr, hE, hm'⟩ := mk_run hm hxs ht hel hby hzc hrel
  obtain ⟨h6, h7⟩ := h b w' hm' hE
  exact RB.one i ho hg rfl hn (fun a hf => by simp [execOp, ev_eval hf hx, ev_eval hf hy, hr]) h6 h7
theorem RB.clVB {gg : FuncId} {y : Operand} {bs cs : List Value} {xs : List Operand} {ts : Array TypeId} {vs : List Value} {R' : Ending → World → Prop} (ck : CallOk P gg) (i : Nat)
    (ho : ops[i]? = some ⟨some d, .call { callee := .value y, args := xs.toArray, argTypes := ts }, ty, pos, af, g⟩) (hg : gok e ops g = true) (hn : Nat.blt d n = true)
    (hy : ev e y = some (.func (.func gg) bs.toArray cs.toArray)) (hx : evs e xs = some vs) (hc : Calls P gg (bs ++ vs ++ cs).toArray w R')
    (h : ∀ x w', R' x w' → ∃ v, x = .returned v ∧ S' w' ∧ RG P n K ops S' fuel (listed.setIfInBounds i true) ((d, v) :: e) w') : RB P n K ops S' fuel listed i e w := by
  obtain ⟨fn, c, h1, h2, h3⟩ := ck
  exact RB.opC (g := gg) (args := (bs ++ vs ++ cs).toArray) i ho hg rfl hn (fun a hf => by
    simp [execOp, resolve, ev_eval hf hy, Deferred.ofValue, invoke, run_callFunc h1 h2 h3, evs_map hf hx]) hc h
end
end Go.Wk
namespace Go.Wk
open Go Go.RowKit
section
variable {P : Program} {f : FuncId} {n : Nat} {R : Ending → World → Prop} {k : List Item} {e : Env} {w w0 : World} {ops : Array Oper} {i d : Nat} {rest : List Nat} {ty : TypeId} {pos : String} {af : Array Edge} {g : Option (Nat × Bool)} {Z0 S : Nat → Prop} {L : List Rs}
/-- A text's bytes, as a list of one's own that is only read. -/
theorem Rn.s2bRo {s t el : TypeId} {x : Operand} {l z : List UInt8} (hm : Hp Z0 S w0 w L) (hz : lenS l = some z) (ho : ops[i]? = some ⟨some d, .convert s t x, ty, pos, af, g⟩) (hg : gok e ops g = true) (hn : Nat.blt d n = true) (hs : P.underlying s = some .string) (ht : P.underlying t = some (.slice el)) (he : P.underlying el = some (.int .u8)) (hx : ev e x = some (Str l))
    (h : ∀ F A c w', Hp Z0 S w0 w' (L ++ [roR F A c byteR z]) → Rn P f n R (.inRegion ops rest :: k) ((d, .slice A z.length c) :: e) w') : Rn P f n R (.inRegion ops (i :: rest) :: k) e w := by
  obtain ⟨hl, rfl⟩ := lenE hz
  refine Rn.s2b ho hg hn hs ht he hx (by simp only [maxLen]; omega) fun b c w' hb h1 h2 hE hlt hS => ?_
  refine h (fun x => x = b) _ c w' (hm.add _ hE (fun x hx => ?_) fun _ _ => ⟨h1, h2, hS, fun x hx => ?_⟩)
  · have hx' : x = b := hx
    omega
  · subst hx; first | exact hlt | omega
end
theorem lkB {e : Env} {t : Nat} {a b : Value} (h : lk e t = some a) (hab : a = b := by first | exact andT (by assumption) | exact andF (by assumption) | exact orT (by assumption) | exact orF (by assumption) | exact nandF (by assumption) | exact nandT (by assumption) | exact norT (by assumption) | exact norF (by assumption) | (simp [*]; done) | grind) : lk e t = some b := lkv _ h hab
theorem nbl {a b : Nat} (h : Nat.ble a b = true) : a ≤ b := Nat.le_of_ble_eq_true h
end Go.Wk
