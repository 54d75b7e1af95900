/-
  The walk by places: whole numbers without a sign, by their bits. Plain laws over any program.
-/
import Derived.Test.YtlfppodekihcmaaGreatDoorWg
set_option linter.unusedVariables false
set_option linter.unusedSimpArgs false
namespace Go.Wk
open Go Go.RowKit

section
variable {P : Program} {f : FuncId} {n : Nat} {R : Ending → World → Prop} {k : List Item} {e : Env} {w : World}
variable {ops : Array Oper} {i : Nat} {rest : List Nat} {d : Nat} {dst : Option Nat} {ty : TypeId} {pos : String} {af : Array Edge} {g : Option (Nat × Bool)}

theorem V.op2 {q q' : IntKind} {op : BinOp} {x y : Operand} {a b : Int} {c : Value} {t u : TypeId} (hx : ev e x = some (.int q a)) (hy : ev e y = some (.int q' b)) (hop : (binOp op t (.int q a) (.int q' b)) = pure c) :
    OpV P n e w ⟨dst, .binOp op t x y u, ty, pos, af, g⟩ c w := fun a hf => by simp [execOp, ev_eval hf hx, ev_eval hf hy, eqGuard_at_int, hop]
abbrev I32 (u : UInt32) : Value := .int .u32 u.toNat
abbrev I64 (u : UInt64) : Value := .int .u64 u.toNat
abbrev I8 (u : UInt8) : Value := .int .u8 u.toNat
/-- With both sides in the form of bits: whatever the numbers were called. -/
theorem V.o32 {op : BinOp} {x y : Operand} {a b : Int} {t v : TypeId} {c : UInt32} (hx : ev e x = some (.int .u32 a)) (hy : ev e y = some (.int .u32 b)) (p q : UInt32) (ha : a = p.toNat) (hb : b = q.toNat) (hop : (binOp op t (I32 p) (I32 q)) = pure (I32 c)) :
    OpV P n e w ⟨dst, .binOp op t x y v, ty, pos, af, g⟩ (I32 c) w := by subst ha hb; exact V.op2 hx hy hop
theorem V.o64 {op : BinOp} {x y : Operand} {a b : Int} {t v : TypeId} {c : UInt64} (hx : ev e x = some (.int .u64 a)) (hy : ev e y = some (.int .u64 b)) (p q : UInt64) (ha : a = p.toNat) (hb : b = q.toNat) (hop : (binOp op t (I64 p) (I64 q)) = pure (I64 c)) :
    OpV P n e w ⟨dst, .binOp op t x y v, ty, pos, af, g⟩ (I64 c) w := by subst ha hb; exact V.op2 hx hy hop
theorem b32_shr (t : TypeId) (u : UInt32) (q : IntKind) (m : Nat) (hm : m < 32) : binOp .shr t (I32 u) (.int q (m : Int)) = pure (I32 (u >>> UInt32.ofNat m)) := by
  rw [binOp_shr, shift_shr .u32 q _ _ (by omega) (by simp [IntKind.bits]; omega)]
  congr 2
  rw [UInt32.toNat_shiftRight]
  have : (UInt32.ofNat m).toNat % 32 = m := by rw [UInt32.toNat_ofNat']; omega
  rw [this, Nat.shiftRight_eq_div_pow]
  simp
theorem b32_shl (t : TypeId) (u : UInt32) (q : IntKind) (m : Nat) (hm : m < 32) : binOp .shl t (I32 u) (.int q (m : Int)) = pure (I32 (u <<< UInt32.ofNat m)) := by
  rw [binOp_shl, shift_shl .u32 q _ _ (by omega) (by simp [IntKind.bits]; omega)]
  congr 2
  rw [UInt32.toNat_shiftLeft]
  have : (UInt32.ofNat m).toNat % 32 = m := by rw [UInt32.toNat_ofNat']; omega
  rw [this, Nat.shiftLeft_eq]
  simp [IntKind.wrap, IntKind.signed, IntKind.bits]
theorem b64_shr (t : TypeId) (u : UInt64) (q : IntKind) (m : Nat) (hm : m < 64) : binOp .shr t (I64 u) (.int q (m : Int)) = pure (I64 (u >>> UInt64.ofNat m)) := by
  rw [binOp_shr, shift_shr .u64 q _ _ (by omega) (by simp [IntKind.bits]; omega)]
  congr 2
  rw [UInt64.toNat_shiftRight]
  have : (UInt64.ofNat m).toNat % 64 = m := by rw [UInt64.toNat_ofNat']; omega
  rw [this, Nat.shiftRight_eq_div_pow]
  simp
theorem b64_shl (t : TypeId) (u : UInt64) (q : IntKind) (m : Nat) (hm : m < 64) : binOp .shl t (I64 u) (.int q (m : Int)) = pure (I64 (u <<< UInt64.ofNat m)) := by
  rw [binOp_shl, shift_shl .u64 q _ _ (by omega) (by simp [IntKind.bits]; omega)]
  congr 2
  rw [UInt64.toNat_shiftLeft]
  have : (UInt64.ofNat m).toNat % 64 = m := by rw [UInt64.toNat_ofNat']; omega
  rw [this, Nat.shiftLeft_eq]
  simp [IntKind.wrap, IntKind.signed, IntKind.bits]
theorem V.sh32 {op : BinOp} {q : IntKind} {x y : Operand} {a b : Int} {t v : TypeId} {c : UInt32} (hx : ev e x = some (.int .u32 a)) (hy : ev e y = some (.int q b)) (p : UInt32) (m : Nat) (ha : a = p.toNat) (hb : b = m) (hop : (binOp op t (I32 p) (.int q m)) = pure (I32 c)) :
    OpV P n e w ⟨dst, .binOp op t x y v, ty, pos, af, g⟩ (I32 c) w := by subst ha hb; exact V.op2 hx hy hop
theorem V.sh64 {op : BinOp} {q : IntKind} {x y : Operand} {a b : Int} {t v : TypeId} {c : UInt64} (hx : ev e x = some (.int .u64 a)) (hy : ev e y = some (.int q b)) (p : UInt64) (m : Nat) (ha : a = p.toNat) (hb : b = m) (hop : (binOp op t (I64 p) (.int q m)) = pure (I64 c)) :
    OpV P n e w ⟨dst, .binOp op t x y v, ty, pos, af, g⟩ (I64 c) w := by subst ha hb; exact V.op2 hx hy hop
theorem V.neg32 {x : Operand} {a : Int} {t : TypeId} (hx : ev e x = some (.int .u32 a)) (p : UInt32) (ha : a = p.toNat) : OpV P n e w ⟨dst, .unOp .neg t x, ty, pos, af, g⟩ (I32 (0 - p)) w := by
  subst ha
  have : IntKind.u32.wrap (0 - (p.toNat : Int)) = ((0 - p).toNat : Int) := by
    rw [UInt32.toNat_sub]
    have := p.toNat_lt
    simp [IntKind.wrap, IntKind.signed, IntKind.bits]
    omega
  have h := V.negI (P := P) (n := n) (w := w) (dst := dst) (ty := ty) (pos := pos) (af := af) (g := g) (t := t) hx
  rw [this] at h; exact h
theorem V.not32 {x : Operand} {a : Int} {t : TypeId} (hx : ev e x = some (.int .u32 a)) (p : UInt32) (ha : a = p.toNat) : OpV P n e w ⟨dst, .unOp .xor t x, ty, pos, af, g⟩ (I32 (~~~p)) w := by
  subst ha; exact V.xorU hx (Go.Wk.not32 p)
theorem V.cv832 {x : Operand} {a : Int} {s t : TypeId} {ds : TypeDesc} (hs : P.underlying s = some ds) (ht : P.underlying t = some (.int .u32)) (hx : ev e x = some (.int .u8 a)) (c : UInt8) (ha : a = c.toNat) : OpV P n e w ⟨dst, .convert s t x, ty, pos, af, g⟩ (I32 c.toUInt32) w := by
  subst ha
  have h := V.cvI (P := P) (n := n) (w := w) (dst := dst) (ty := ty) (pos := pos) (af := af) (g := g) hs ht hx (wu32 (by omega) (by have := c.toNat_lt; omega))
  simpa [I32] using h
theorem V.cv864 {x : Operand} {a : Int} {s t : TypeId} {ds : TypeDesc} (hs : P.underlying s = some ds) (ht : P.underlying t = some (.int .u64)) (hx : ev e x = some (.int .u8 a)) (c : UInt8) (ha : a = c.toNat) : OpV P n e w ⟨dst, .convert s t x, ty, pos, af, g⟩ (I64 c.toUInt64) w := by
  subst ha
  have h := V.cvI (P := P) (n := n) (w := w) (dst := dst) (ty := ty) (pos := pos) (af := af) (g := g) hs ht hx (wu64 (by omega) (by have := c.toNat_lt; omega))
  simpa [I64] using h
theorem V.cv328 {x : Operand} {a : Int} {s t : TypeId} {ds : TypeDesc} (hs : P.underlying s = some ds) (ht : P.underlying t = some (.int .u8)) (hx : ev e x = some (.int .u32 a)) (c : UInt32) (ha : a = c.toNat) : OpV P n e w ⟨dst, .convert s t x, ty, pos, af, g⟩ (I8 c.toUInt8) w := by
  subst ha
  have h := V.cvW (P := P) (n := n) (w := w) (dst := dst) (ty := ty) (pos := pos) (af := af) (g := g) hs ht hx
  have : IntKind.u8.wrap (c.toNat : Int) = (c.toUInt8.toNat : Int) := by simp [IntKind.wrap, IntKind.signed, IntKind.bits]
  rw [this] at h; exact h
theorem V.cv648 {x : Operand} {a : Int} {s t : TypeId} {ds : TypeDesc} (hs : P.underlying s = some ds) (ht : P.underlying t = some (.int .u8)) (hx : ev e x = some (.int .u64 a)) (c : UInt64) (ha : a = c.toNat) : OpV P n e w ⟨dst, .convert s t x, ty, pos, af, g⟩ (I8 c.toUInt8) w := by
  subst ha
  have h := V.cvW (P := P) (n := n) (w := w) (dst := dst) (ty := ty) (pos := pos) (af := af) (g := g) hs ht hx
  have : IntKind.u8.wrap (c.toNat : Int) = (c.toUInt8.toNat : Int) := by simp [IntKind.wrap, IntKind.signed, IntKind.bits]
  rw [this] at h; exact h
theorem wc8 (c : UInt8) : IntKind.i64.wrap (c.toNat : Int) = c.toNat := w64 (by omega) (by have := c.toNat_lt; omega)
end
end Go.Wk
namespace Go.Wk
open Go Go.RowKit
theorem own_bytes {B b : Nat} {D : Nat → Prop} {w : World} {et : TypeId} (l : List UInt8) (h : Blk w b et (l.map I8)) (hB : B ≤ b) (hl : l.length ≤ maxLen) : Own B D w et (some ⟨b, 0, none⟩) l.length byteR l := by
  have hsz : byteR.sz = 1 := rfl
  refine ⟨Nat.le_refl _, hl, .inr ⟨b, l.map I8, l.map (fun c => [I8 c]), rfl, hB, h, by simp [hsz], by simp, ?_, ?_⟩⟩
  · intro k vs x hv hx
    rw [List.getElem?_map, hx] at hv
    cases hv
    exact ⟨rfl, trivial⟩
  · rw [hsz, Nat.mul_one]
    have : ∀ m : List UInt8, (m.map (fun c => [I8 c])).flatten = m.map I8 := by
      intro m
      induction m with
      | nil => rfl
      | cons a r ih => simp only [List.map_cons, List.flatten_cons, ih]; rfl
    rw [this]
    exact List.take_of_length_le (by simp)
theorem sl_bytes {b : Nat} {w : World} {et : TypeId} (l : List UInt8) (h : Blk w b et (l.map I8)) : Sl (fun x => x = b) w (some ⟨b, 0, none⟩) byteR l := fun _ => ⟨b, 0, rfl, rfl, fun k x hx => ⟨[I8 x], fun j v hv => by
  cases j with
  | succ j => simp at hv
  | zero =>
    simp at hv; subst hv
    have hsz : byteR.sz = 1 := rfl
    rw [h.cell, hsz]
    simp [List.getElem?_map, hx], rfl, trivial⟩⟩
/-- Data that hang on no memory. -/
def Rep.Flat {α : Type} (rep : Rep α) : Prop := ∀ (D D' : Nat → Prop) (w w' : World) (vs : List Value) (x : α), rep.rel D w vs x → rep.rel D' w' vs x
theorem Rep.flat_flat {α : Type} (sz : Nat) (enc : α → List Value) (ok : α → Prop) (hl : ∀ x, (enc x).length = sz) (h1 : ∀ x, ∀ u ∈ enc x, u.oneCell' = true) (hp : 0 < sz) : (Rep.flat sz enc ok hl h1 hp).Flat := fun _ _ _ _ _ _ h => h
theorem byte_flat : byteR.Flat := Rep.flat_flat _ _ _ _ _ _
theorem Own.flat {α : Type} {rep : Rep α} (hr : rep.Flat) {B c : Nat} {D D' : Nat → Prop} {w : World} {et : TypeId} {A : Option Addr} {xs : List α} (h : Own B D w et A c rep xs) : Own B D' w et A c rep xs := by
  refine ⟨h.1, h.2.1, ?_⟩
  rcases h.2.2 with h0 | ⟨g, cs, vss, rfl, h1, h2, h3, h4, h5, h6⟩
  · exact .inl h0
  · exact .inr ⟨g, cs, vss, rfl, h1, h2, h3, h4, fun k vs x hv hx => hr _ _ _ _ _ _ (h5 k vs x hv hx), h6⟩
theorem Src.flat {α : Type} {rep : Rep α} (hr : rep.Flat) {D D' : Nat → Prop} {w : World} {A : Option Addr} {ys : List α} (h : Src D w A rep ys) : Src D' w A rep ys := fun hne => by
  obtain ⟨b, o, vss, h1, h2, h3, h4⟩ := h hne
  exact ⟨b, o, vss, h1, h2, fun k vs x hv hx => hr _ _ _ _ _ _ (h3 k vs x hv hx), h4⟩
section
variable {P : Program} {f : FuncId} {n : Nat} {R : Ending → World → Prop} {k : List Item} {e : Env} {w : World}
variable {ops : Array Oper} {i : Nat} {rest : List Nat} {d : Nat} {dst : Option Nat} {ty : TypeId} {pos : String} {af : Array Edge} {g : Option (Nat × Bool)}
/-- 'out = append(out, ys...)' of data that hang on no memory. -/
theorem Rn.appF {α : Type} {rep : Rep α} {B by_ : Nat} {D D' : Nat → Prop} {t el : TypeId} {x y : Operand} {A A' : Option Addr} {c c' m m' : Nat} {xs ys : List α} (hr : rep.Flat)
    (ho : ops[i]? = some ⟨some d, .call { callee := .builtin .append, args := #[x, y], argTypes := #[t, t] }, ty, pos, af, g⟩) (hg : gok e ops g = true) (hn : Nat.blt d n = true)
    (ht : P.underlying t = some (.slice el)) (hel : ElOk P el rep.sz by_) (hx : ev e x = some (.slice A m' c)) (hm' : xs.length = m') (hy : ev e y = some (.slice A' m c'))
    (hO : Own B D w el A c rep xs) (hS : Sl D' w A' rep ys) (hm : ys.length = m) (hB : B ≤ w.heap.size) (hlen : m' + m ≤ 4294967296) (hby : (m' + m) * by_ ≤ 140737488355328)
    (h : ∀ A2 c2 w', Own B No w' el A2 c2 rep (xs ++ ys) → Fr (fun b => ob A b) w w' → (∀ b, ob A2 b → ob A b ∨ b = w.heap.size) → Rn P f n R (.inRegion ops rest :: k) ((d, .slice A2 (m' + m) c2) :: e) w') : Rn P f n R (.inRegion ops (i :: rest) :: k) e w := by
  subst hm'
  obtain ⟨A2, c2, w', hr', hF, hob, hown⟩ := app_run (c' := c') ht hel (hO.flat (D' := No) hr) ((reads_of_sl hS).flat (D' := No) hr) hm hB hlen hby ty
  refine Rn.opV (w' := w') ho hg rfl hn (fun a hf => ?_) (h A2 c2 w' ((hown (fun _ hh => hh.elim) (fun _ hh => hh.elim)).mono fun _ hh => hh.elim id id) hF hob)
  simp [execOp, resolve, invoke, builtin, ev_eval hf hx, ev_eval hf hy, hr']
end
theorem Sl.nil_of {α : Type} {rep : Rep α} {D : Nat → Prop} {w : World} {xs : List α} (h : Sl D w none rep xs) : xs = [] := by
  cases xs with
  | nil => rfl
  | cons x r => obtain ⟨b, o, h1, _⟩ := h (by simp); cases h1
theorem Sl.all {α : Type} {rep : Rep α} {D : Nat → Prop} {w : World} {A : Option Addr} {xs : List α} (h : Sl D w A rep xs) : Sl All w A rep xs := h.mono fun _ _ => trivial
theorem Own.all {α : Type} {rep : Rep α} {B c : Nat} {D : Nat → Prop} {w : World} {et : TypeId} {A : Option Addr} {xs : List α} (h : Own B D w et A c rep xs) : Sl All w A rep xs := h.sl.all
end Go.Wk
namespace Go.Wk
open Go Go.RowKit
theorem elOk_of {P : Program} {el : TypeId} {sz by_ : Nat} (h : ((P.info? el).map fun i => (i.zero.map fun z => z.cells.size, i.size, i.bytes)) = some (some sz, sz, by_)) (hp : 0 < sz) : ElOk P el sz by_ := by
  cases hi : P.info? el with
  | none => rw [hi] at h; cases h
  | some i =>
    rw [hi] at h
    simp only [Option.map_some, Option.some.injEq, Prod.mk.injEq] at h
    obtain ⟨h1, h2, h3⟩ := h
    cases hz : i.zero with
    | none => rw [hz] at h1; cases h1
    | some z => rw [hz] at h1; exact ⟨i, z, hi, hz, h2, h3, by simpa using h1, hp⟩
end Go.Wk
namespace Go.Wk
open Go Go.RowKit
abbrev bnd (e : Env) (o : Option Operand) (p d : Nat) : Prop := match o with | some y => ∃ j, ev e y = some (.int .i64 j) ∧ j = (p : Int) | none => p = d
section
variable {P : Program} {f : FuncId} {n : Nat} {R : Ending → World → Prop} {k : List Item} {e : Env} {w : World}
variable {ops : Array Oper} {i : Nat} {rest : List Nat} {d : Nat} {dst : Option Nat} {ty : TypeId} {pos : String} {af : Array Edge} {g : Option (Nat × Bool)}
/-- A cut of a slice whose elements are known. -/
theorem Rn.cutSl {α : Type} {rep : Rep α} {D : Nat → Prop} {x : Operand} {lo hi : Option Operand} {A : Option Addr} {m c s : Nat} {t el : TypeId} {xs : List α} (p q : Nat) (ho : ops[i]? = some ⟨some d, .slice t x lo hi none, ty, pos, af, g⟩) (hg : gok e ops g = true) (hn : Nat.blt d n = true) (ht : P.underlying t = some (.slice el)) (hs : ∀ w, (sizeOf el).run P w = .ok s w) (hx : ev e x = some (.slice A m c))
    (hS : Sl D w A rep xs) (hm : xs.length = m) (hmc : m ≤ c) (hsz : rep.sz = s)
    (hlo : bnd e lo p 0) (hhi : bnd e hi q m) (h1 : p ≤ q) (h2 : q ≤ m)
    (h : ∀ A', Sl D w A' rep ((xs.take q).drop p) → ((xs.take q).drop p).length ≤ c - p → Rn P f n R (.inRegion ops rest :: k) ((d, .slice A' ((xs.take q).drop p).length (c - p)) :: e) w) : Rn P f n R (.inRegion ops (i :: rest) :: k) e w := by
  have hl : ((xs.take q).drop p).length = q - p := by rw [List.length_drop, List.length_take]; omega
  have hcut := hS.cut (c := c) p q (by omega) (by omega)
  rw [hsz] at hcut
  have := h _ hcut (by rw [hl]; omega)
  rw [hl] at this
  exact Rn.opV ho hg rfl hn (V.cutV p q ht hs hx hlo hhi h1 (by omega)) this
end
end Go.Wk
