/-
  The walk by places: one law an operation, over memory as a list of things apart and over plain forms. Plain laws over any program.
-/
import Derived.Test.YtlfppodekihcmaaGreatDoorWk
set_option linter.unusedVariables false
set_option linter.unusedSimpArgs false
namespace Go.Wk
open Go Go.RowKit
variable {K : Act → World → Prop}

/- HOW DATA LIE -/
def intR (q : IntKind) : Rep Int := Rep.flat 1 (fun x => [.int q x]) (fun _ => True) (fun _ => rfl) (fun _ => by simp [Value.oneCell']) Nat.one_pos
def boolR : Rep Bool := Rep.flat 1 (fun x => [.bool x]) (fun _ => True) (fun _ => rfl) (fun _ => by simp [Value.oneCell']) Nat.one_pos
def textR : Rep (List UInt8) := Rep.flat 1 (fun l => [Str l]) (fun _ => True) (fun _ => rfl) (fun _ => by simp [Value.oneCell']) Nat.one_pos
def w32R : Rep UInt32 := Rep.flat 1 (fun c => [.int .u32 c.toNat]) (fun _ => True) (fun _ => rfl) (fun _ => by simp [Value.oneCell']) Nat.one_pos
def w64R : Rep UInt64 := Rep.flat 1 (fun c => [.int .u64 c.toNat]) (fun _ => True) (fun _ => rfl) (fun _ => by simp [Value.oneCell']) Nat.one_pos
theorem int_flat (q : IntKind) : (intR q).Flat := Rep.flat_flat _ _ _ _ _ _
theorem bool_flat : boolR.Flat := Rep.flat_flat _ _ _ _ _ _
theorem text_flat : textR.Flat := Rep.flat_flat _ _ _ _ _ _
theorem w32_flat : w32R.Flat := Rep.flat_flat _ _ _ _ _ _
theorem w64_flat : w64R.Flat := Rep.flat_flat _ _ _ _ _ _
theorem two_flat {α β : Type} {r : Rep α} {s : Rep β} (hr : r.Flat) (hs : s.Flat) : (Rep.two r s).Flat := fun D D' w w' _ x ⟨us, ts, h, h1, h2⟩ => ⟨us, ts, h, hr D D' w w' us x.1 h1, hs D D' w w' ts x.2 h2⟩
theorem map_flat {α β : Type} {r : Rep α} (g : β → α) (hr : r.Flat) : (Rep.map g r).Flat := fun D D' w w' vs x h => hr D D' w w' vs (g x) h

/- WHOLE NUMBERS WITHOUT A SIGN -/
def toU8 (z : Int) : UInt8 := UInt8.ofNat (z % 256).toNat
def toU32 (z : Int) : UInt32 := UInt32.ofNat (z % 4294967296).toNat
def toU64 (z : Int) : UInt64 := UInt64.ofNat (z % 18446744073709551616).toNat
theorem wrap_u8 (z : Int) : IntKind.u8.wrap z = ((toU8 z).toNat : Int) := by
  simp [toU8, IntKind.wrap, IntKind.signed, IntKind.bits, UInt8.toNat_ofNat']; omega
theorem wrap_u32 (z : Int) : IntKind.u32.wrap z = ((toU32 z).toNat : Int) := by
  simp [toU32, IntKind.wrap, IntKind.signed, IntKind.bits, UInt32.toNat_ofNat']; omega
theorem wrap_u64 (z : Int) : IntKind.u64.wrap z = ((toU64 z).toNat : Int) := by
  simp [toU64, IntKind.wrap, IntKind.signed, IntKind.bits, UInt64.toNat_ofNat']; omega
theorem toU8_add (a b : UInt8) : toU8 ((a.toNat : Int) + (b.toNat : Int)) = a + b := by
  apply UInt8.toNat_inj.1; rw [UInt8.toNat_add]; simp only [toU8, UInt8.toNat_ofNat']; omega
theorem toU8_sub (a b : UInt8) : toU8 ((a.toNat : Int) - (b.toNat : Int)) = a - b := by
  apply UInt8.toNat_inj.1; rw [UInt8.toNat_sub]; have := a.toNat_lt; have := b.toNat_lt; simp only [toU8, UInt8.toNat_ofNat']; omega
theorem toU32_add (a b : UInt32) : toU32 ((a.toNat : Int) + (b.toNat : Int)) = a + b := by
  apply UInt32.toNat_inj.1; rw [UInt32.toNat_add]; simp only [toU32, UInt32.toNat_ofNat']; omega
theorem toU32_sub (a b : UInt32) : toU32 ((a.toNat : Int) - (b.toNat : Int)) = a - b := by
  apply UInt32.toNat_inj.1; rw [UInt32.toNat_sub]; have := a.toNat_lt; have := b.toNat_lt; simp only [toU32, UInt32.toNat_ofNat']; omega
theorem toU64_add (a b : UInt64) : toU64 ((a.toNat : Int) + (b.toNat : Int)) = a + b := by
  apply UInt64.toNat_inj.1; rw [UInt64.toNat_add]; simp only [toU64, UInt64.toNat_ofNat']; omega
theorem toU64_sub (a b : UInt64) : toU64 ((a.toNat : Int) - (b.toNat : Int)) = a - b := by
  apply UInt64.toNat_inj.1; rw [UInt64.toNat_sub]; have := a.toNat_lt; have := b.toNat_lt; simp only [toU64, UInt64.toNat_ofNat']; omega
theorem toU64_mul (a b : UInt64) : toU64 ((a.toNat : Int) * (b.toNat : Int)) = a * b := by
  have h : ((a.toNat : Int) * (b.toNat : Int)) = ((a.toNat * b.toNat : Nat) : Int) := by simp
  apply UInt64.toNat_inj.1; rw [UInt64.toNat_mul, h]; simp only [toU64, UInt64.toNat_ofNat']; omega
def quoZ (a b : Int) : Option Int := if b = 0 then none else some (W64 (a.tdiv b))
def remZ (a b : Int) : Option Int := if b = 0 then none else some (a.tmod b)

section
variable {P : Program} {f : FuncId} {n : Nat} {R : Ending → World → Prop} {k : List Item} {e : Env} {w : World}
variable {ops : Array Oper} {i : Nat} {rest : List Nat} {d : Nat} {dst : Option Nat} {ty : TypeId} {pos : String} {af : Array Edge} {g : Option (Nat × Bool)}
theorem V.ari8 {op : BinOp} {x y : Operand} {a b c : UInt8} {t u : TypeId} (hx : ev e x = some (.int .u8 a.toNat)) (hy : ev e y = some (.int .u8 b.toNat)) (z : Int) (hop : binOp op t (.int .u8 a.toNat) (.int .u8 b.toNat) = pure (.int .u8 (IntKind.u8.wrap z))) (hc : toU8 z = c) :
    OpV P n e w ⟨dst, .binOp op t x y u, ty, pos, af, g⟩ (.int .u8 (c.toNat : Nat)) w := by
  rw [wrap_u8, hc] at hop; exact V.op2 hx hy hop
theorem V.ari32 {op : BinOp} {x y : Operand} {a b c : UInt32} {t u : TypeId} (hx : ev e x = some (.int .u32 a.toNat)) (hy : ev e y = some (.int .u32 b.toNat)) (z : Int) (hop : binOp op t (.int .u32 a.toNat) (.int .u32 b.toNat) = pure (.int .u32 (IntKind.u32.wrap z))) (hc : toU32 z = c) :
    OpV P n e w ⟨dst, .binOp op t x y u, ty, pos, af, g⟩ (.int .u32 (c.toNat : Nat)) w := by
  rw [wrap_u32, hc] at hop; exact V.op2 hx hy hop
theorem V.ari64 {op : BinOp} {x y : Operand} {a b c : UInt64} {t u : TypeId} (hx : ev e x = some (.int .u64 a.toNat)) (hy : ev e y = some (.int .u64 b.toNat)) (z : Int) (hop : binOp op t (.int .u64 a.toNat) (.int .u64 b.toNat) = pure (.int .u64 (IntKind.u64.wrap z))) (hc : toU64 z = c) :
    OpV P n e w ⟨dst, .binOp op t x y u, ty, pos, af, g⟩ (.int .u64 (c.toNat : Nat)) w := by
  rw [wrap_u64, hc] at hop; exact V.op2 hx hy hop
theorem V.cv8 {q : IntKind} {x : Operand} {a : Int} {s t : TypeId} {ds : TypeDesc} (hs : P.underlying s = some ds) (ht : P.underlying t = some (.int .u8)) (hx : ev e x = some (.int q a)) : OpV P n e w ⟨dst, .convert s t x, ty, pos, af, g⟩ (.int .u8 ((toU8 a).toNat : Nat)) w := by
  rw [← wrap_u8]; exact V.cvW hs ht hx
theorem V.cv32 {q : IntKind} {x : Operand} {a : Int} {s t : TypeId} {ds : TypeDesc} (hs : P.underlying s = some ds) (ht : P.underlying t = some (.int .u32)) (hx : ev e x = some (.int q a)) : OpV P n e w ⟨dst, .convert s t x, ty, pos, af, g⟩ (.int .u32 ((toU32 a).toNat : Nat)) w := by
  rw [← wrap_u32]; exact V.cvW hs ht hx
theorem V.cv64 {q : IntKind} {x : Operand} {a : Int} {s t : TypeId} {ds : TypeDesc} (hs : P.underlying s = some ds) (ht : P.underlying t = some (.int .u64)) (hx : ev e x = some (.int q a)) : OpV P n e w ⟨dst, .convert s t x, ty, pos, af, g⟩ (.int .u64 ((toU64 a).toNat : Nat)) w := by
  rw [← wrap_u64]; exact V.cvW hs ht hx
theorem V.cv8i {x : Operand} {a : UInt8} {s t : TypeId} {ds : TypeDesc} (hs : P.underlying s = some ds) (ht : P.underlying t = some (.int .i64)) (hx : ev e x = some (.int .u8 a.toNat)) : OpV P n e w ⟨dst, .convert s t x, ty, pos, af, g⟩ (.int .i64 (a.toNat : Nat)) w :=
  V.cvI hs ht hx (wc8 a)
theorem V.cv32i {x : Operand} {a : UInt32} {s t : TypeId} {ds : TypeDesc} (hs : P.underlying s = some ds) (ht : P.underlying t = some (.int .i64)) (hx : ev e x = some (.int .u32 a.toNat)) : OpV P n e w ⟨dst, .convert s t x, ty, pos, af, g⟩ (.int .i64 (a.toNat : Nat)) w :=
  V.cvI hs ht hx (wc32 a)
theorem V.quoZ {x y : Operand} {a b c : Int} {t u : TypeId} (hx : ev e x = some (.int .i64 a)) (hy : ev e y = some (.int .i64 b)) (h : quoZ a b = some c) : OpV P n e w ⟨dst, .binOp .quo t x y u, ty, pos, af, g⟩ (.int .i64 c) w := fun q hf => by
  unfold Go.Wk.quoZ at h
  split at h
  · cases h
  · rename_i hb
    cases h
    simp [execOp, ev_eval hf hx, ev_eval hf hy, eqGuard_quo, binOp_quo, Op.intDiv, hb]
theorem V.remZ {x y : Operand} {a b c : Int} {t u : TypeId} (hx : ev e x = some (.int .i64 a)) (hy : ev e y = some (.int .i64 b)) (h : remZ a b = some c) : OpV P n e w ⟨dst, .binOp .rem t x y u, ty, pos, af, g⟩ (.int .i64 c) w := fun q hf => by
  unfold Go.Wk.remZ at h
  split at h
  · cases h
  · rename_i hb
    cases h
    simp [execOp, ev_eval hf hx, ev_eval hf hy, eqGuard_rem, binOp_rem, Op.intDiv, hb]
theorem V.idxSZ {x y : Operand} {a : List UInt8} {q : IntKind} {j : Int} {c : UInt8} {t : TypeId} (ht : P.underlying t = some .string) (hx : ev e x = some (Str a)) (hy : ev e y = some (.int q j)) (h : idx a j = some c) :
    OpV P n e w ⟨dst, .index t x y, ty, pos, af, g⟩ (.int .u8 c.toNat) w := by
  obtain ⟨m, h1, h2, _⟩ := idxE h
  exact V.idxS m ht hx hy h1 c h2
theorem V.catZ {x y : Operand} {a b c : List UInt8} {t u : TypeId} (hx : ev e x = some (Str a)) (hy : ev e y = some (Str b)) (h : Go.Wk.catS a b = some c) : OpV P n e w ⟨dst, .binOp .add t x y u, ty, pos, af, g⟩ (Str c) w := by
  obtain ⟨h1, rfl⟩ := catE h; exact V.catS hx hy h1
abbrev lo? (e : Env) (o : Option Operand) (a : Int) : Prop := match o with | some y => ev e y = some (.int .i64 a) | none => a = 0
abbrev hi? (e : Env) (o : Option Operand) (a : Int) (m : Nat) : Prop := match o with | some y => ev e y = some (.int .i64 a) | none => a = m
theorem V.cutSZ {x : Operand} {lo hi : Option Operand} {a c : List UInt8} {p q : Int} {t : TypeId} (ht : P.underlying t = some .string) (hx : ev e x = some (Str a)) (h : cutL a p q = some c) (hlo : lo? e lo p) (hhi : hi? e hi q a.length) :
    OpV P n e w ⟨dst, .slice t x lo hi none, ty, pos, af, g⟩ (Str c) w := by
  obtain ⟨p', q', rfl, rfl, h1, h2, rfl⟩ := cutE h
  refine V.cutS p' q' ht hx ?_ ?_ h1 h2
  · cases lo with
    | none => simpa using hlo
    | some y => exact ⟨_, hlo, rfl⟩
  · cases hi with
    | none => have hh : (q' : Int) = _ := hhi; exact Int.ofNat.inj hh
    | some y => exact ⟨_, hhi, rfl⟩
variable {Z0 S : Nat → Prop} {w0 : World} {L : List Rs} {α : Type} {rep : Rep α}
theorem Own.bd {B c : Nat} {D : Nat → Prop} {et : TypeId} {A : Option Addr} {xs : List α} (h : Own B D w et A c rep xs) : Own B (fun b => D b ∧ b < w.heap.size) w et A c rep xs := by
  refine ⟨h.1, h.2.1, ?_⟩
  rcases h.2.2 with h0 | ⟨g, cs, vss, rfl, h1, h2, h3, h4, h5, h6⟩
  · exact .inl h0
  · exact .inr ⟨g, cs, vss, rfl, h1, h2, h3, h4, fun k vs x hv hx => rep.bd (h5 k vs x hv hx), h6⟩
theorem Own.src {B c : Nat} {D : Nat → Prop} {et : TypeId} {A : Option Addr} {xs : List α} (h : Own B D w et A c rep xs) : Src D w A rep xs := fun hne => by
  rcases h.2.2 with ⟨rfl, hc⟩ | ⟨g, cs, vss, rfl, h1, h2, h3, h4, h5, h6⟩
  · exact (hne (List.eq_nil_of_length_eq_zero (by have := h.1; omega))).elim
  · refine ⟨g, 0, vss, rfl, h4, h5, fun j u hj => ?_⟩
    rw [← h6, List.getElem?_take] at hj
    split at hj
    · rw [Nat.zero_add, h2.cell]; exact hj
    · cases hj
theorem Src.bd {D : Nat → Prop} {A : Option Addr} {ys : List α} (h : Src D w A rep ys) : Src (fun b => D b ∧ b < w.heap.size) w A rep ys := fun hne => by
  obtain ⟨b, o, vss, h1, h2, h3, h4⟩ := h hne
  exact ⟨b, o, vss, h1, h2, fun k vs x hv hx => rep.bd (h3 k vs x hv hx), h4⟩
theorem Hp.addNil (hm : Hp Z0 S w0 w L) (et : TypeId) (rep : Rep α) : Hp Z0 S w0 w (L ++ [ownR et none 0 rep []]) := hm.know _ (fun x hx => by cases hx) (Own.nil _ _ _ _ _)
theorem Hp.st {b : Nat} {t : TypeId} {cs cs' : List Value} {w' : World} (hm : Hp Z0 S w0 w L) (i : Nat) (hi : L[i]? = some (boxR b t cs)) (hf : Fr (fun x => x = b) w w') (h : Blk w' b t cs') : Hp Z0 S w0 w' (L.set i (boxR b t cs')) :=
  hm.upd i _ hi hf (fun x hx => .inl hx) fun _ _ _ => h
theorem mul_by {a b : Nat} (h : a ≤ 1073741824) (hb : Nat.ble b 131072 = true) : a * b ≤ 140737488355328 := Nat.le_trans (Nat.mul_le_mul h (Nat.le_of_ble_eq_true hb)) (by decide)
/-- 'out = append(out, x)'. -/
theorem Rn.pushH {by_ : Nat} {t el : TypeId} {x y : Operand} {A : Option Addr} {c : Nat} {xs ys : List α} {i2 d2 : Nat} {v : Value} {vs : List Value} {ty2 : TypeId} {pos2 : String} {af2 : Array Edge} {z : α}
    (hm : Hp Z0 S w0 w L) (m : Nat) (hi : L[m]? = some (ownR el A c rep xs)) (hys : appL xs [z] = some ys)
    (ho : ops[i]? = some ⟨some d, .buildSlice t 1 #[(0, x)], ty, pos, af, none⟩) (ho2 : ops[i2]? = some ⟨some d2, .call { callee := .builtin .append, args := #[y, .tmp d], argTypes := #[t, t] }, ty2, pos2, af2, none⟩)
    (hn : Nat.blt d n = true) (hn2 : Nat.blt d2 n = true)
    (ht : P.underlying t = some (.slice el)) (hel : ElOk P el rep.sz by_) (hby : Nat.ble by_ 131072 = true) (hsz : Nat.ble rep.sz 16777216 = true) (hx : ev e x = some v) (hv : v.cells = vs.toArray) (hy : ∀ u, ev ((d, u) :: e) y = some (.slice A xs.length c))
    (hrel : rep.rel (Zo Z0 S w0 L) w vs z)
    (h : ∀ A2 c2 w' u, Hp Z0 S w0 w' (L.set m (ownR el A2 c2 rep ys)) → Rn P f n R (.inRegion ops rest :: k) ((d2, .slice A2 ys.length c2) :: (d, u) :: e) w') : Rn P f n R (.inRegion ops (i :: i2 :: rest) :: k) e w := by
  obtain ⟨hle, rfl⟩ := appE hys
  have h0 := hm.get m hi
  have hO : Own 0 (fun b => Zo Z0 S w0 L b ∧ b < w.heap.size) w el A c rep xs := Own.bd h0
  refine Rn.push z ho ho2 hn hn2 ht hel hx hv hy hO (rep.bd hrel) (Nat.zero_le _) (by simp at hle; omega) (mul_by (by simpa using hle) hby) (Nat.le_of_ble_eq_true hsz) (fun b hb hob => hb.1.2 m _ hi hob) ?_
  intro A2 c2 w' u hO2 hF hq
  have := h A2 c2 w' u (hm.upd m _ hi hF (fun x hx => hq x hx) fun Z' h1 _ => hO2.mono fun b hb => h1 b hb.1 hb.2)
  rw [List.length_append] at this
  exact this
/-- 'out = append(out, ys...)'. -/
theorem Rn.appH {by_ : Nat} {t el : TypeId} {x y : Operand} {A A' : Option Addr} {c c' l' : Nat} {xs ys zs : List α}
    (hm : Hp Z0 S w0 w L) (m : Nat) (hi : L[m]? = some (ownR el A c rep xs)) (hzs : appL xs ys = some zs)
    (ho : ops[i]? = some ⟨some d, .call { callee := .builtin .append, args := #[x, y], argTypes := #[t, t] }, ty, pos, af, g⟩) (hg : gok e ops g = true) (hn : Nat.blt d n = true)
    (ht : P.underlying t = some (.slice el)) (hel : ElOk P el rep.sz by_) (hby : Nat.ble by_ 131072 = true) (hx : ev e x = some (.slice A xs.length c)) (hy : ev e y = some (.slice A' l' c')) (hl : ys.length = l')
    (hS : Src (Zo Z0 S w0 L) w A' rep ys)
    (h : ∀ A2 c2 w', Hp Z0 S w0 w' (L.set m (ownR el A2 c2 rep zs)) → Rn P f n R (.inRegion ops rest :: k) ((d, .slice A2 zs.length c2) :: e) w') : Rn P f n R (.inRegion ops (i :: rest) :: k) e w := by
  obtain ⟨hle, rfl⟩ := appE hzs
  subst hl
  have h0 := hm.get m hi
  have hO : Own 0 (fun b => Zo Z0 S w0 L b ∧ b < w.heap.size) w el A c rep xs := Own.bd h0
  obtain ⟨A2, c2, w', hr, hF, hob, hown⟩ := app_run (P := P) (c' := c') ht hel hO hS.bd rfl (Nat.zero_le _) (by omega) (mul_by hle hby) ty
  have hO2 := hown (fun b hb hob => hb.1.2 m _ hi hob) (fun b hb hob => hb.1.2 m _ hi hob)
  refine Rn.opV (v := .slice A2 (xs.length + ys.length) c2) (w' := w') ho hg rfl hn (fun a hf => by simp [execOp, resolve, invoke, builtin, ev_eval hf hx, ev_eval hf hy, hr]) ?_
  have := h A2 c2 w' (hm.upd m _ hi hF (fun x hx => (hob x hx).imp id fun hh => by omega) fun Z' h1 _ => hO2.mono fun b hb => by rcases hb with hb | hb <;> exact h1 b hb.1 hb.2)
  rw [List.length_append] at this
  exact this
theorem Hp.src {A : Option Addr} {c : Nat} {xs : List α} (hm : Hp Z0 S w0 w L) (i : Nat) (hi : L[i]? = some (slR A c rep xs)) : Src (Zo Z0 S w0 L) w A rep xs := reads_of_sl (hm.get i hi).2.2
theorem Hp.srcO {A : Option Addr} {c : Nat} {et : TypeId} {xs : List α} (hm : Hp Z0 S w0 w L) (i : Nat) (hi : L[i]? = some (ownR et A c rep xs)) : Src (Zo Z0 S w0 L) w A rep xs := Own.src (hm.get i hi)
/-- An element's address. -/
theorem Rn.ixH {t el : TypeId} {x y : Operand} {A : Option Addr} {c m : Nat} {q : IntKind} {j : Int} {xs : List α} {s : Nat} {z : α} (hm : Hp Z0 S w0 w L) (m' : Nat) (hi : L[m']? = some (slR A c rep xs)) (hz : idx xs j = some z) (ho : ops[i]? = some ⟨some d, .indexAddr t x y, ty, pos, af, g⟩) (hg : gok e ops g = true) (hn : Nat.blt d n = true)
    (ht : P.underlying t = some (.slice el)) (hs : ∀ w, (sizeOf el).run P w = .ok s w) (hsz : rep.sz = s) (hx : ev e x = some (.slice A m c)) (hmm : xs.length = m) (hy : ev e y = some (.int q j))
    (h : ∀ b o vs, rep.rel (Zo Z0 S w0 L) w vs z → Hp Z0 S w0 w (L ++ [rdR b o vs]) → Rn P f n R (.inRegion ops rest :: k) ((d, .pointer (some ⟨b, o, none⟩)) :: e) w) : Rn P f n R (.inRegion ops (i :: rest) :: k) e w := by
  obtain ⟨kk, h1, h2, h3⟩ := idxE hz
  exact Rn.ix kk z ho hg hn ht hs hx hy (hm.get m' hi).2.2 hsz h2 h1 (by omega) fun b o vs hR hrel hD => h b o vs hrel (hm.knowRd hD hR)
theorem Rn.ixO {t el : TypeId} {x y : Operand} {A : Option Addr} {c m : Nat} {q : IntKind} {j : Int} {xs : List α} {s : Nat} {z : α} {et : TypeId} (hm : Hp Z0 S w0 w L) (m' : Nat) (hi : L[m']? = some (ownR et A c rep xs)) (hz : idx xs j = some z) (ho : ops[i]? = some ⟨some d, .indexAddr t x y, ty, pos, af, g⟩) (hg : gok e ops g = true) (hn : Nat.blt d n = true)
    (ht : P.underlying t = some (.slice el)) (hs : ∀ w, (sizeOf el).run P w = .ok s w) (hsz : rep.sz = s) (hx : ev e x = some (.slice A m c)) (hmm : xs.length = m) (hy : ev e y = some (.int q j))
    (h : ∀ b o vs, rep.rel (Zo Z0 S w0 L) w vs z → Rd w b o vs → Rn P f n R (.inRegion ops rest :: k) ((d, .pointer (some ⟨b, o, none⟩)) :: e) w) : Rn P f n R (.inRegion ops (i :: rest) :: k) e w := by
  obtain ⟨kk, h1, h2, h3⟩ := idxE hz
  have hO := hm.get m' hi
  have hS := Own.src hO (by rintro rfl; simp at h2)
  obtain ⟨b, o, vss, rfl, hl, hrel, hc⟩ := hS
  have hk : kk < vss.length := by rw [hl]; exact h3
  refine Rn.opV ho hg rfl hn (V.ixA kk ht hs hx hy h1 (by omega)) (h b (o + kk * s) vss[kk] (hrel kk _ z (List.getElem?_eq_getElem hk) h2) ?_)
  intro jj v hv
  have := flatten_get rep.sz vss (lens_of hl hrel) kk _ (List.getElem?_eq_getElem hk) jj v hv
  have := hc _ v this
  rw [hsz] at this
  rw [Nat.add_assoc]; exact this
/-- A cut of a slice that stays. -/
theorem Rn.cutH {t el : TypeId} {x : Operand} {lo hi : Option Operand} {A : Option Addr} {c m : Nat} {p q : Int} {xs zs : List α} {s : Nat} (hm : Hp Z0 S w0 w L) (m' : Nat) (hi' : L[m']? = some (slR A c rep xs)) (hz : cutL xs p q = some zs) (ho : ops[i]? = some ⟨some d, .slice t x lo hi none, ty, pos, af, g⟩) (hg : gok e ops g = true) (hn : Nat.blt d n = true)
    (ht : P.underlying t = some (.slice el)) (hs : ∀ w, (sizeOf el).run P w = .ok s w) (hsz : rep.sz = s) (hx : ev e x = some (.slice A m c)) (hmm : xs.length = m) (hlo : lo? e lo p) (hhi : hi? e hi q m)
    (h : ∀ A' c', Hp Z0 S w0 w (L ++ [slR A' c' rep zs]) → Rn P f n R (.inRegion ops rest :: k) ((d, .slice A' zs.length c') :: e) w) : Rn P f n R (.inRegion ops (i :: rest) :: k) e w := by
  obtain ⟨p', q', rfl, rfl, h1, h2, rfl⟩ := cutE hz
  obtain ⟨g1, g2, g3⟩ := hm.get m' hi'
  refine Rn.cutSl p' q' ho hg hn ht hs hx g3 hmm (by omega) hsz ?_ ?_ h1 (by omega) fun A' hS hl => h A' _ (hm.knowSl hl (by omega) hS)
  · cases lo with
    | none => simpa using hlo
    | some y => exact ⟨_, hlo, rfl⟩
  · cases hi with
    | none => have hh : (q' : Int) = _ := hhi; exact Int.ofNat.inj hh
    | some y => exact ⟨_, hhi, rfl⟩
/-- A region that draws its order and only reads. -/
theorem Rn.drawP {id : Nat} {ops : Array Oper} (hm' : P.follows .mixedOrders = true) (hm : Hp Z0 S w0 w L)
    (h : ∀ w1, Hp Z0 S w0 w1 L → RH P f n R k ops (fun w' => w' = w1) ops.size (Array.replicate ops.size false) e w1) : Rn P f n R (.code (.region id ops true) :: k) e w :=
  Rn.draw (fun w' => w' = w.drew) hm' rfl (h w.drew (hm.ext (Ext.drew w)))
theorem Rn.drawH {id : Nat} {ops : Array Oper} (hm' : P.follows .mixedOrders = true) (hm : Hp Z0 S w0 w L)
    (h : ∀ w1, Hp Z0 S w0 w1 L → RH P f n R k ops (fun w' => Ext w1 w') ops.size (Array.replicate ops.size false) e w1) : Rn P f n R (.code (.region id ops true) :: k) e w :=
  Rn.draw (fun w' => Ext w.drew w') hm' (Ext.refl _) (h w.drew (hm.ext (Ext.drew w)))
end
section
variable {P : Program} {f : FuncId} {n : Nat} {R : Ending → World → Prop} {k : List Item} {e : Env} {w w1 : World} {ops : Array Oper} {fuel : Nat} {listed : Array Bool} {d : Nat} {o : Oper} {S : World → Prop}
theorem RH.takeP {v : Value} (i : Nat) (hk : okTake ops listed i = true) (ho : ops[i]? = some o) (hg : gok e ops o.guard = true) (hd : o.dst = some d) (hn : Nat.blt d n = true) (hv : OpV P n e w1 o v w1)
    (h : RG P n K ops (fun w' => w' = w1) fuel (listed.setIfInBounds i true) ((d, v) :: e) w) : RG P n K ops (fun w' => w' = w1) (fuel + 1) listed e w :=
  RH.take i hk ho hg hd hn (fun w' hw => by subst hw; exact hv) h
theorem RH.doneP (hr : Region.ready .any ops listed = []) (h : Rn P f n R k e w) : RH P f n R k ops S fuel listed e w := RH.done hr fun _ => h
/-- What comes behind the region is told once. -/
theorem RH.condT {t : Nat} {p : Prop} [Decidable p] (hl : lk e t = some (.bool (decide p))) (h : p) (hh : RG P n K ops S fuel listed ((t, .bool true) :: e) w) : RG P n K ops S fuel listed e w := RH.say _ hl (by rw [decide_eq_true h]) hh
end
/- results -/
section
variable {P : Program} {f : FuncId} {n : Nat} {R : Ending → World → Prop} {k : List Item} {e : Env} {w : World}
/-- What a result is. -/
def RvIs (P : Program) (e : Env) (w : World) (r : ResultVar) (v : Value) : Prop := match r with
  | .tmp t => lk e t = some v
  | .cell a t => ∃ b o s vs, lk e a = some (.pointer (some ⟨b, o, none⟩)) ∧ (((∀ w, (isAgg t).run P w = .ok true w) ∧ (∀ w, (sizeOf t).run P w = .ok s w) ∧ Rd w b o vs ∧ vs.length = s ∧ v = .agg vs.toArray) ∨ ((∀ w, (isAgg t).run P w = .ok false w) ∧ w.cell? ⟨b, o, none⟩ = some v))
def rvS (tm : Array Value) : ResultVar → Sem Value
  | .tmp t => pure (tm.getD t undef)
  | .cell a t => do loadVar t (← asAddr (tm.getD a undef))
theorem results_eq (fn : Func) (tm : Array Value) : results fn tm = (do let vs ← fn.results.mapM (rvS tm); pure (if h : vs.size = 1 then vs[0] else .tuple vs)) := by
  unfold results
  congr 2
theorem rv_run {r : ResultVar} {v : Value} (h : RvIs P e w r v) (tm : Array Value) (hf : Fits e n tm) : (rvS tm r).run P w = .ok v w := by
  cases r with
  | tmp t => simp [rvS, getD_of_fits hf h]
  | cell a t =>
    obtain ⟨b, o, s, vs, hl, h⟩ := h
    rcases h with ⟨ha, hs, hR, hvs, rfl⟩ | ⟨ha, hc⟩
    · have hc : ∀ j v, vs[j]? = some v → w.cell? ((⟨b, o, none⟩ : Addr).add j) = some v := fun j v hv => by rw [Addr.add_none]; exact hR j v hv
      have := run_loadCells_list (P := P) (w := w) ⟨b, o, none⟩ vs hc
      rw [hvs] at this
      simp [rvS, getD_of_fits hf hl, asAddr, loadVar, ha, hs, this]
    · simp [rvS, getD_of_fits hf hl, asAddr, loadVar, ha, hc]
theorem resG1 {fn : Func} {r1 : ResultVar} {v1 : Value} (hr : fn.results = #[r1]) (h1 : RvIs P e w r1 v1) (tm : Array Value) (hf : Fits e n tm) : (results fn tm).run P w = .ok v1 w := by
  have g1 := rv_run h1 tm hf
  rw [results_eq, hr]
  simp [g1]
theorem resG2 {fn : Func} {r1 r2 : ResultVar} {v1 v2 : Value} (hr : fn.results = #[r1, r2]) (h1 : RvIs P e w r1 v1) (h2 : RvIs P e w r2 v2) (tm : Array Value) (hf : Fits e n tm) : (results fn tm).run P w = .ok (.tuple #[v1, v2]) w := by
  have g1 := rv_run h1 tm hf
  have g2 := rv_run h2 tm hf
  rw [results_eq, hr]
  simp [g1, g2]
theorem resG3 {fn : Func} {r1 r2 r3 : ResultVar} {v1 v2 v3 : Value} (hr : fn.results = #[r1, r2, r3]) (h1 : RvIs P e w r1 v1) (h2 : RvIs P e w r2 v2) (h3 : RvIs P e w r3 v3) (tm : Array Value) (hf : Fits e n tm) : (results fn tm).run P w = .ok (.tuple #[v1, v2, v3]) w := by
  have g1 := rv_run h1 tm hf
  have g2 := rv_run h2 tm hf
  have g3 := rv_run h3 tm hf
  rw [results_eq, hr]
  simp [g1, g2, g3]
theorem resG4 {fn : Func} {r1 r2 r3 r4 : ResultVar} {v1 v2 v3 v4 : Value} (hr : fn.results = #[r1, r2, r3, r4]) (h1 : RvIs P e w r1 v1) (h2 : RvIs P e w r2 v2) (h3 : RvIs P e w r3 v3) (h4 : RvIs P e w r4 v4) (tm : Array Value) (hf : Fits e n tm) : (results fn tm).run P w = .ok (.tuple #[v1, v2, v3, v4]) w := by
  have g1 := rv_run h1 tm hf
  have g2 := rv_run h2 tm hf
  have g3 := rv_run h3 tm hf
  have g4 := rv_run h4 tm hf
  rw [results_eq, hr]
  simp [g1, g2, g3, g4]
theorem Rn.retG1 {fn : Func} {r1 : ResultVar} {v1 : Value} (hf : P.funcs[f]? = some fn) (hr : fn.results = #[r1]) (h1 : RvIs P e w r1 v1) (h : R (.returned (v1)) w) : Rn P f n R (.code .ret :: k) e w := Rn.retV hf (fun tm hh => resG1 hr h1 tm hh) h
theorem Rn.endG1 {fn : Func} {r1 : ResultVar} {v1 : Value} (hf : P.funcs[f]? = some fn) (hr : fn.results = #[r1]) (h1 : RvIs P e w r1 v1) (h : R (.returned (v1)) w) : Rn P f n R [] e w := Rn.endV hf (fun tm hh => resG1 hr h1 tm hh) h
theorem Rn.retG2 {fn : Func} {r1 r2 : ResultVar} {v1 v2 : Value} (hf : P.funcs[f]? = some fn) (hr : fn.results = #[r1, r2]) (h1 : RvIs P e w r1 v1) (h2 : RvIs P e w r2 v2) (h : R (.returned (.tuple #[v1, v2])) w) : Rn P f n R (.code .ret :: k) e w := Rn.retV hf (fun tm hh => resG2 hr h1 h2 tm hh) h
theorem Rn.endG2 {fn : Func} {r1 r2 : ResultVar} {v1 v2 : Value} (hf : P.funcs[f]? = some fn) (hr : fn.results = #[r1, r2]) (h1 : RvIs P e w r1 v1) (h2 : RvIs P e w r2 v2) (h : R (.returned (.tuple #[v1, v2])) w) : Rn P f n R [] e w := Rn.endV hf (fun tm hh => resG2 hr h1 h2 tm hh) h
theorem Rn.retG3 {fn : Func} {r1 r2 r3 : ResultVar} {v1 v2 v3 : Value} (hf : P.funcs[f]? = some fn) (hr : fn.results = #[r1, r2, r3]) (h1 : RvIs P e w r1 v1) (h2 : RvIs P e w r2 v2) (h3 : RvIs P e w r3 v3) (h : R (.returned (.tuple #[v1, v2, v3])) w) : Rn P f n R (.code .ret :: k) e w := Rn.retV hf (fun tm hh => resG3 hr h1 h2 h3 tm hh) h
theorem Rn.endG3 {fn : Func} {r1 r2 r3 : ResultVar} {v1 v2 v3 : Value} (hf : P.funcs[f]? = some fn) (hr : fn.results = #[r1, r2, r3]) (h1 : RvIs P e w r1 v1) (h2 : RvIs P e w r2 v2) (h3 : RvIs P e w r3 v3) (h : R (.returned (.tuple #[v1, v2, v3])) w) : Rn P f n R [] e w := Rn.endV hf (fun tm hh => resG3 hr h1 h2 h3 tm hh) h
theorem Rn.retG4 {fn : Func} {r1 r2 r3 r4 : ResultVar} {v1 v2 v3 v4 : Value} (hf : P.funcs[f]? = some fn) (hr : fn.results = #[r1, r2, r3, r4]) (h1 : RvIs P e w r1 v1) (h2 : RvIs P e w r2 v2) (h3 : RvIs P e w r3 v3) (h4 : RvIs P e w r4 v4) (h : R (.returned (.tuple #[v1, v2, v3, v4])) w) : Rn P f n R (.code .ret :: k) e w := Rn.retV hf (fun tm hh => resG4 hr h1 h2 h3 h4 tm hh) h
theorem Rn.endG4 {fn : Func} {r1 r2 r3 r4 : ResultVar} {v1 v2 v3 v4 : Value} (hf : P.funcs[f]? = some fn) (hr : fn.results = #[r1, r2, r3, r4]) (h1 : RvIs P e w r1 v1) (h2 : RvIs P e w r2 v2) (h3 : RvIs P e w r3 v3) (h4 : RvIs P e w r4 v4) (h : R (.returned (.tuple #[v1, v2, v3, v4])) w) : Rn P f n R [] e w := Rn.endV hf (fun tm hh => resG4 hr h1 h2 h3 h4 tm hh) h
/-- A struct in a block of one's own as a result. -/
theorem rvC {a : Nat} {t t' : TypeId} {b s : Nat} {vs : List Value} (hl : lk e a = some (.pointer (some ⟨b, 0, none⟩))) (ha : ∀ w, (isAgg t).run P w = .ok true w) (hs : ∀ w, (sizeOf t).run P w = .ok s w) (hB : Blk w b t' vs) (hv : vs.length = s) : RvIs P e w (.cell a t) (.agg vs.toArray) := ⟨b, 0, s, vs, hl, .inl ⟨ha, hs, hB.rd, hv, rfl⟩⟩
theorem rvC1 {a : Nat} {t t' : TypeId} {b : Nat} {v : Value} {vs : List Value} (hl : lk e a = some (.pointer (some ⟨b, 0, none⟩))) (ha : ∀ w, (isAgg t).run P w = .ok false w) (hB : Blk w b t' vs) (hv : vs[0]? = some v) : RvIs P e w (.cell a t) v := ⟨b, 0, 0, vs, hl, .inr ⟨ha, (hB.cell 0).trans hv⟩⟩
theorem rvT {t : Nat} {v : Value} (hl : lk e t = some v) : RvIs P e w (.tmp t) v := hl
end
theorem Rd.pre {w : World} {b o : Nat} {vs : List Value} (h : Rd w b o vs) (m : Nat) : Rd w b o (vs.take m) := fun j v hv => h j v (by rw [List.getElem?_take] at hv; split at hv; exact hv; cases hv)
theorem Rd.sub {w : World} {b o : Nat} {vs : List Value} (h : Rd w b o vs) (p m : Nat) : Rd w b (o + p) ((vs.drop p).take m) := fun j v hv => by
  rw [List.getElem?_take] at hv
  split at hv
  · rw [List.getElem?_drop] at hv; rw [Nat.add_assoc]; exact h _ v hv
  · cases hv
section
variable {Z0 S : Nat → Prop} {w0 w w' : World} {L : List Rs} {α : Type} {rep : Rep α}
theorem Hp.fresh {b : Nat} (hm : Hp Z0 S w0 w L) (hb : w.heap.size ≤ b) : Zo Z0 S w0 L b := ⟨.inr (.inr (by have := hm.size; omega)), fun i r hi hr => by have := hm.lt hi b hr; omega⟩
/-- Where an element lies. -/
theorem Hp.at {A : Option Addr} {c : Nat} {xs : List α} {k : Nat} {z : α} (hm : Hp Z0 S w0 w L) (i : Nat) (hi : L[i]? = some (slR A c rep xs)) (hz : xs[k]? = some z) : ∃ b o vs, A = some ⟨b, o, none⟩ ∧ Zo Z0 S w0 L b ∧ Rd w b (o + k * rep.sz) vs ∧ rep.rel (Zo Z0 S w0 L) w vs z := (hm.get i hi).2.2.get hz
/-- New data, written down. -/
theorem Hp.addLit {et : TypeId} {b : Nat} {cs : List Value} {xs : List α} {vss : List (List Value)} (hm : Hp Z0 S w0 w L) (hb : b = w.heap.size) (hE : Ext w w') (hB : Blk w' b et cs) (hfl : vss.flatten = cs) (hl : vss.length = xs.length) (hm' : Nat.ble xs.length maxLen = true)
    (hrel : ∀ (Z : Nat → Prop) (w : World) (k : Nat) (vs : List Value) (x : α), vss[k]? = some vs → xs[k]? = some x → rep.rel Z w vs x) : Hp Z0 S w0 w' (L ++ [ownR et (some ⟨b, 0, none⟩) xs.length rep xs]) :=
  hm.add _ hE (fun x hx => by have hxb : b = x := (by simpa [ownR, ob] using hx); omega) fun Z _ => by
    have hlen : ∀ vs ∈ vss, vs.length = rep.sz := lens_of hl (hrel All w)
    have hf := length_flat rep.sz vss hlen
    refine ⟨Nat.le_refl _, Nat.le_of_ble_eq_true hm', .inr ⟨b, cs, vss, rfl, Nat.zero_le _, hB, ?_, hl, hrel Z w', ?_⟩⟩
    · rw [← hfl, hf, hl]; exact Nat.le_refl _
    · rw [← hfl, ← hl, ← hf, List.take_length]
theorem rels0 : ∀ (Z : Nat → Prop) (w : World) (k : Nat) (vs : List Value) (x : α), ([] : List (List Value))[k]? = some vs → ([] : List α)[k]? = some x → rep.rel Z w vs x := fun _ _ k _ _ h => by simp at h
theorem rels_cons {v : List Value} {x : α} {vss : List (List Value)} {xs : List α} (h : ∀ Z w, rep.rel Z w v x) (hr : ∀ (Z : Nat → Prop) (w : World) (k : Nat) (vs : List Value) (x : α), vss[k]? = some vs → xs[k]? = some x → rep.rel Z w vs x) :
    ∀ (Z : Nat → Prop) (w : World) (k : Nat) (vs : List Value) (y : α), (v :: vss)[k]? = some vs → (x :: xs)[k]? = some y → rep.rel Z w vs y
  | Z, w, 0, vs, y, h1, h2 => by cases h1; cases h2; exact h Z w
  | Z, w, k + 1, vs, y, h1, h2 => hr Z w k vs y h1 h2
end
section
variable {P : Program} {f : FuncId} {n : Nat} {R : Ending → World → Prop} {k : List Item} {e : Env} {w : World}
variable {ops : Array Oper} {i : Nat} {rest : List Nat} {d : Nat} {dst : Option Nat} {ty : TypeId} {pos : String} {af : Array Edge} {g : Option (Nat × Bool)}
variable {Z0 S : Nat → Prop} {w0 : World} {L : List Rs}
theorem V.ixA' {t el : TypeId} {x y : Operand} {A : Option Addr} {b o m c : Nat} {q : IntKind} {j : Int} {s : Nat} (hA : A = some ⟨b, o, none⟩) (kk : Nat) (ht : P.underlying t = some (.slice el)) (hs : ∀ w, (sizeOf el).run P w = .ok s w) (hx : ev e x = some (.slice A m c)) (hy : ev e y = some (.int q j)) (hj : j = (kk : Int)) (hm : kk < m) :
    OpV P n e w ⟨dst, .indexAddr t x y, ty, pos, af, g⟩ (.pointer (some ⟨b, o + kk * s, none⟩)) w := by subst hA; exact V.ixA kk ht hs hx hy hj hm
theorem V.eqlT {x y : Operand} {xs ys : Array Value} {p : Prop} [Decidable p] {t u : TypeId} (hm : P.eqGuardType P.depth t = false) (hx : ev e x = some (.agg xs)) (hy : ev e y = some (.agg ys)) (he : ∀ w, (Op.equalIn 10000 t (.agg xs) (.agg ys)).run P w = .ok (decide p) w) :
    OpV P n e w ⟨dst, .binOp .eql t x y u, ty, pos, af, g⟩ (.bool (decide p)) w := fun a hf => by
  simp [execOp, ev_eval hf hx, ev_eval hf hy, run_eqGuard_agg w .eql t x y xs ys hm, run_eql_struct w t xs ys, he]
theorem V.neqT {x y : Operand} {xs ys : Array Value} {p : Prop} [Decidable p] {t u : TypeId} (hm : P.eqGuardType P.depth t = false) (hx : ev e x = some (.agg xs)) (hy : ev e y = some (.agg ys)) (he : ∀ w, (Op.equalIn 10000 t (.agg xs) (.agg ys)).run P w = .ok (decide p) w) :
    OpV P n e w ⟨dst, .binOp .neq t x y u, ty, pos, af, g⟩ (.bool (decide (¬ p))) w := fun a hf => by
  simp [execOp, ev_eval hf hx, ev_eval hf hy, run_eqGuard_agg w .neq t x y xs ys hm, run_neq_struct w t xs ys, he]
theorem V.cvSame {q : IntKind} {x : Operand} {a : Int} {s t : TypeId} (hs : P.underlying s = some (.int q)) (ht : P.underlying t = some (.int q)) (hx : ev e x = some (.int q a)) (hr : q.wrap a = a) : OpV P n e w ⟨dst, .convert s t x, ty, pos, af, g⟩ (.int q a) w := V.cvI hs ht hx hr
/-- The bytes of a text. -/
theorem Rn.s2bH {s t el : TypeId} {x : Operand} {l z : List UInt8} (hm : Hp Z0 S w0 w L) (hz : lenS l = some z) (ho : ops[i]? = some ⟨some d, .convert s t x, ty, pos, af, g⟩) (hg : gok e ops g = true) (hn : Nat.blt d n = true) (hs : P.underlying s = some .string) (ht : P.underlying t = some (.slice el)) (he : P.underlying el = some (.int .u8)) (hx : ev e x = some (Str l))
    (h : ∀ A c w', Hp Z0 S w0 w' (L ++ [slR A c byteR z]) → Rn P f n R (.inRegion ops rest :: k) ((d, .slice A z.length c) :: e) w') : Rn P f n R (.inRegion ops (i :: rest) :: k) e w := by
  obtain ⟨hl, rfl⟩ := lenE hz
  refine Rn.s2b ho hg hn hs ht he hx (by simp only [maxLen]; omega) fun b c w' hb h1 h2 hE hlt hS => ?_
  exact h _ c w' ((hm.ext hE).knowSl h1 h2 (hS.mono fun x hx => by subst hx; exact hm.fresh (by omega)))
end
end Go.Wk
