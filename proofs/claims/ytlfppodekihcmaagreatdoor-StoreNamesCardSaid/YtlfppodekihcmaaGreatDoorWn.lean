/-
  The walk by places: texts that are put together in a builder, bytes of a text put behind, a byte that is looked for. Plain laws over any program.
-/
import Derived.Test.YtlfppodekihcmaaGreatDoorWm
import Derived.Lib.AppendStr
import Derived.Lib.UnsafeStr
import Derived.Lib.Builder
import Derived.Lib.Bytealg
import Derived.Laws.Externs
set_option linter.unusedVariables false
set_option linter.unusedSimpArgs false
namespace Go.Wk
open Go Go.RowKit

section
variable {P : Program} {f : FuncId} {n : Nat} {R : Ending → World → Prop} {k : List Item} {e : Env} {w : World}
variable {ops : Array Oper} {i : Nat} {rest : List Nat} {d : Nat} {dst : Option Nat} {ty : TypeId} {pos : String} {af : Array Edge} {g : Option (Nat × Bool)}
/-- An entry of the model's own, that hands back a value and leaves the world. -/
theorem V.extern {gg : FuncId} {fn : Func} {en : Array Value → Sem Value} {xs : List Operand} {vs : List Value} {ts : Array TypeId} {v : Value} (hf : P.funcs[gg]? = some fn) (hname : (fn.name == "runtime.NumGoroutine") = false) (hb : fn.body.isNone = true) (hn : Extern.findNext fn = none) (he : Extern.find fn = some en)
    (hx : evs e xs = some vs) (hr : (en vs.toArray).run P w = .ok v w) : OpV P n e w ⟨dst, .call { callee := .value (.func gg), args := xs.toArray, argTypes := ts }, ty, pos, af, g⟩ v w := fun a hfit => by
  simp [execOp, resolve, Act.eval, Deferred.ofValue, invoke, evs_map hfit hx, run_callFunc_extern hf hname hb hn he, hr]
theorem V.indexByte {gg : FuncId} {fn : Func} {x y : Operand} {ts : Array TypeId} {s : List UInt8} {c : UInt8} (hf : P.funcs[gg]? = some fn) (hname : (fn.name == "runtime.NumGoroutine") = false) (hb : fn.body.isNone = true) (hn : Extern.findNext fn = none) (he : Extern.find fn = some Extern.BytealgIndexByte.indexByte)
    (hx : evs e [x, y] = some [Str s, .int .u8 c.toNat]) : OpV P n e w ⟨dst, .call { callee := .value (.func gg), args := #[x, y], argTypes := ts }, ty, pos, af, g⟩ (.int .i64 (Lib.indexByte s c)) w := by
  have h := Lib.run_indexByteString (P := P) (⟨s.toArray⟩ : ByteArray) (c.toNat : Int) w
  have hc : (c.toNat : Int).toNat.toUInt8 = c := by simp
  rw [hc] at h
  exact V.extern (xs := [x, y]) hf hname hb hn he hx h
theorem V.noEsc {gg : FuncId} {fn : Func} {x : Operand} {ts : Array TypeId} {v : Value} (hf : P.funcs[gg]? = some fn) (hname : (fn.name == "runtime.NumGoroutine") = false) (hb : fn.body.isNone = true) (hn : Extern.findNext fn = none) (he : Extern.find fn = some Extern.AbiNoEscape.same)
    (hx : ev e x = some v) : OpV P n e w ⟨dst, .call { callee := .value (.func gg), args := #[x], argTypes := ts }, ty, pos, af, g⟩ v w :=
  V.extern (xs := [x]) hf hname hb hn he (by simp [evs, hx]) (Lib.run_noEscape w v)
theorem V.neqSame {x y : Operand} {a : Addr} {tp te u : TypeId} {j : TypeInfo} (hp : P.underlying tp = some (.pointer te)) (hte : P.info? te = some j) (hx : ev e x = some (.pointer (some a))) (hy : ev e y = some (.pointer (some a))) :
    OpV P n e w ⟨dst, .binOp .neq tp x y u, ty, pos, af, g⟩ (.bool false) w := fun c hf => by
  simp [execOp, ev_eval hf hx, ev_eval hf hy, eqGuard_at_pointer, Lib.run_neq_ptr_same w a hp hte]
theorem V.toUns {x : Operand} {src dst' t t' : TypeId} {j : TypeInfo} {b : Nat} {cs : List Value} (hs : P.underlying src = some (.pointer t)) (hd : P.underlying dst' = some .unsafePointer) (ht : P.info? t = some j) (hj : j.size ≠ 0) (hx : ev e x = some (.pointer (some ⟨b, 0, none⟩))) (hB : Blk w b t' cs) (hc : 0 < cs.length) :
    OpV P n e w ⟨dst, .convert src dst' x, ty, pos, af, g⟩ (.pointer (some ⟨b, 0, none⟩)) w := fun a hf => by
  have hsh : w.shape? b = some (t', cs.length) := by unfold Blk at hB; simp [World.shape?, hB]
  simp [execOp, ev_eval hf hx, Lib.run_to_unsafe w (P := P) ⟨b, 0, none⟩ hs hd ht hj hsh (by simpa using hc)]
theorem V.fromUns {x : Operand} {src dst' u t' : TypeId} {j : TypeInfo} {b : Nat} {cs : List Value} (hs : P.underlying src = some .unsafePointer) (hd : P.underlying dst' = some (.pointer u)) (hu : P.info? u = some j) (hx : ev e x = some (.pointer (some ⟨b, 0, none⟩))) (hB : Blk w b t' cs) (hl : liesAt P P.depth t' (cs.length / P.cellsOf t') 0 u 1 = true) :
    OpV P n e w ⟨dst, .convert src dst' x, ty, pos, af, g⟩ (.pointer (some ⟨b, 0, none⟩)) w := fun a hf => by
  have hsh : w.shape? b = some (t', cs.length) := by unfold Blk at hB; simp [World.shape?, hB]
  simp [execOp, ev_eval hf hx, Lib.run_from_unsafe w (P := P) ⟨b, 0, none⟩ hs hd hu hsh hl]
theorem V.ifaceNil : OpV P n e w ⟨dst, .assign (.const .nilIface), ty, pos, af, g⟩ .nilIface w := V.as rfl
end

/- A BUILDER -/
theorem Fr.own {α : Type} {rep : Rep α} {B c : Nat} {D : Nat → Prop} {w w' : World} {et : TypeId} {A : Option Addr} {xs : List α} {S : Nat → Prop} (h : Own B D w et A c rep xs) (hf : Fr S w w') (hn : ∀ b, D b → ¬ S b) (ho : ∀ b, ob A b → ¬ S b) : Own B D w' et A c rep xs := h.fr hf hn ho
/-- A builder: its block, the row that it owns, the text. -/
def bldR (T el b : Nat) (A : Option Addr) (c : Nat) (l : List UInt8) : Rs where
  F := fun x => x = b ∨ ob A x
  H := fun _ w => ∃ p : Option Addr, (p = none ∨ p = some ⟨b, 0, none⟩) ∧ Blk w b T [.pointer p, .slice A l.length c] ∧ Own 0 No w el A c byteR l ∧ ¬ ob A b ∧ (l = [] → A = none)
  keep := fun {_ _ w w'} ⟨p, hp, hB, hO, hn⟩ hF _ _ => by
    refine ⟨p, hp, ?_, ?_, hn⟩
    · have := hF b (.inl rfl) hB.lt; unfold Blk at hB ⊢; rw [this]; exact hB
    · refine ⟨hO.1, hO.2.1, ?_⟩
      rcases hO.2.2 with h0 | ⟨g, cs, vss, rfl, h1, h2, h3, h4, h5, h6⟩
      · exact .inl h0
      · refine .inr ⟨g, cs, vss, rfl, h1, ?_, h3, h4, fun k vs x hv hx => byte_flat _ _ _ _ _ _ (h5 k vs x hv hx), h6⟩
        have := hF g (.inr rfl) h2.lt
        unfold Blk at h2 ⊢; rw [this]; exact h2
  lt := fun ⟨p, hp, hB, hO, hn⟩ x hx => by
    rcases hx with rfl | hx
    · exact hB.lt
    · exact (hO.base x hx).2
theorem bldR_flat (T el b : Nat) (A : Option Addr) (c : Nat) (l : List UInt8) : (bldR T el b A c l).Flat := fun _ _ _ h => h
theorem Hp.toBld {Z0 S : Nat → Prop} {w0 w : World} {L : List Rs} {T el b : Nat} (hm : Hp Z0 S w0 w L) (i : Nat) (hi : L[i]? = some (boxR b T [.pointer none, .slice none 0 0])) : Hp Z0 S w0 w (L.set i (bldR T el b none 0 [])) :=
  hm.upd i _ hi (Fr.refl _ _) (fun x hx => by rcases hx with rfl | hx; exact .inl rfl; cases hx) fun Z _ _ => ⟨none, .inl rfl, hm.get i hi, Own.nil _ _ _ _ _, (fun h => by cases h), fun _ => rfl⟩
/-- A text's bytes are put behind. -/
theorem appS_run {P : Program} {w : World} {t u el : TypeId} {A : Option Addr} {c : Nat} {xs s : List UInt8} (ht : P.underlying t = some (.slice el)) (hu : P.underlying u = some .string) (hel : ElOk P el 1 1)
    (hO : Own 0 No w el A c byteR xs) (hlen : xs.length + s.length ≤ 1073741824) (ty : TypeId) :
    ∃ A2 c2 w', (Builtin.append_ #[t, u] ty #[.slice A xs.length c, Str s]).run P w = .ok (.slice A2 (xs.length + s.length) c2) w' ∧ Fr (fun b => ob A b) w w' ∧ (∀ b, ob A2 b → ob A b ∨ b = w.heap.size) ∧ Own 0 No w' el A2 c2 byteR (xs ++ s) ∧ (xs ++ s = [] → A = none → A2 = none) := by
  obtain ⟨inf, z, hi, hz, hsz, hbt, hzs, hpos⟩ := hel
  have hss : (⟨s.toArray⟩ : ByteArray).size = s.length := by simp [ByteArray.size]
  have hsc : Lib.strCells ⟨s.toArray⟩ = s.map I8 := rfl
  have hb1 : byteR.sz = 1 := rfl
  have hfl : ∀ m : List UInt8, (m.map (fun c => [I8 c])).flatten = m.map I8 := by
    intro m
    induction m with
    | nil => rfl
    | cons a r ih => simp only [List.map_cons, List.flatten_cons, ih]; rfl
  have hrel : ∀ (m : List UInt8) (k : Nat) (vs : List Value) (x : UInt8), (m.map (fun c => [I8 c]))[k]? = some vs → m[k]? = some x → vs = [I8 x] := by
    intro m k vs x hv hx
    rw [List.getElem?_map, hx] at hv
    cases hv; rfl
  have vssmap : ∀ {w : World} {vss : List (List Value)} {ys : List UInt8}, vss.length = ys.length → (∀ (k : Nat) (vs : List Value) (x : UInt8), vss[k]? = some vs → ys[k]? = some x → byteR.rel No w vs x) → vss.flatten = ys.map I8 := by
    intro w vss ys hl h
    have : vss = ys.map (fun c => [I8 c]) := by
      apply List.ext_getElem?
      intro k
      rcases Nat.lt_or_ge k ys.length with hk | hk
      · have hk' : k < vss.length := by omega
        rw [List.getElem?_map, List.getElem?_eq_getElem hk', List.getElem?_eq_getElem hk]
        obtain ⟨h1, _⟩ := h k vss[k] ys[k] (List.getElem?_eq_getElem hk') (List.getElem?_eq_getElem hk)
        rw [h1]; rfl
      · rw [List.getElem?_eq_none (by omega), List.getElem?_eq_none (by simpa using hk)]
    rw [this, hfl]
  have made : ∀ (old : Nat), old < xs.length + s.length →
      let w2 := w.drew.alloc (.cells ((xs.map I8).toArray ++ (s.map I8).toArray ++ Builtin.zeroCells z.cells (grownCap w (xs.length + s.length) old el - (xs.length + s.length))) el)
      Ext w w2 ∧ Own 0 No w2 el (some ⟨w.heap.size, 0, none⟩) (grownCap w (xs.length + s.length) old el) byteR (xs ++ s) := by
    intro old ho
    have hge := grownCap_ge w (xs.length + s.length) old el
    have hcm : grownCap w (xs.length + s.length) old el ≤ maxLen := grownCap_le_maxLen w (xs.length + s.length) old el (by simp only [maxLen]; omega)
    refine ⟨(Ext.drew w).trans (Ext.alloc _ _), by rw [List.length_append]; exact hge, hcm, .inr ⟨w.heap.size, (xs ++ s).map I8 ++ (Builtin.zeroCells z.cells (grownCap w (xs.length + s.length) old el - (xs.length + s.length))).toList, (xs ++ s).map (fun c => [I8 c]), rfl, Nat.zero_le _, ?_, ?_, by simp, fun k vs x hv hx => ⟨hrel _ k vs x hv hx, trivial⟩, ?_⟩⟩
    · have := heap_alloc_new w.drew (.cells ((xs.map I8).toArray ++ (s.map I8).toArray ++ Builtin.zeroCells z.cells (grownCap w (xs.length + s.length) old el - (xs.length + s.length))) el)
      unfold Blk
      have e1 : (xs.map I8).toArray ++ (s.map I8).toArray ++ Builtin.zeroCells z.cells (grownCap w (xs.length + s.length) old el - (xs.length + s.length)) = ((xs ++ s).map I8 ++ (Builtin.zeroCells z.cells (grownCap w (xs.length + s.length) old el - (xs.length + s.length))).toList).toArray := by
        apply Array.ext'; simp
      rw [← e1]
      exact this
    · simp only [hb1, List.length_append, List.length_map, Array.length_toList, size_zeroCells, hzs]; omega
    · rw [hfl, hb1, Nat.mul_one]
      have : (xs ++ s).length = ((xs ++ s).map I8).length := by simp
      rw [this, List.take_left]
  rcases hO.2.2 with ⟨rfl, hc0⟩ | ⟨gb, cs, vss, rfl, hg1, hg2, hg3, hg4, hg5, hg6⟩
  · have hx : xs = [] := List.eq_nil_of_length_eq_zero (by have := hO.1; omega)
    subst hx hc0
    by_cases hs : s = []
    · subst hs
      have hf := Lib.run_firstCells_string (P := P) (w := w) inf.size ⟨([] : List UInt8).toArray⟩
      refine ⟨none, 0, w, ?_, Fr.refl _ _, fun b hb => .inl hb, Own.nil _ _ _ _ _, fun _ _ => rfl⟩
      have h0 : Lib.strCells ⟨([] : List UInt8).toArray⟩ = [] := rfl
      have hz0 : (⟨([] : List UInt8).toArray⟩ : ByteArray).size = 0 := rfl
      rw [h0, hz0] at hf
      have hf' : (Builtin.firstCells inf.size 0 (.string ByteArray.empty)).run P w = .ok #[] w := hf
      show (Builtin.append_ #[t, u] ty #[.slice none 0 0, .string ByteArray.empty]).run P w = _
      simp [Builtin.append_, run_underlying ht, run_underlying hu, sizeOf, typeInfo, hi, Builtin.lenOf, hf']
    · have hsp : 0 < s.length := List.length_pos_iff.2 hs
      have hr := run_append_nil_string (P := P) w t u ty el inf z ht hu hi hz ⟨s.toArray⟩ (by rw [hss]; exact hsp) (by rw [hss]; omega) (by rw [hss, hbt]; omega)
      obtain ⟨hE, hown⟩ := made 0 (by simpa using hsp)
      simp only [List.length_nil, Nat.zero_add, List.nil_append, List.map_nil] at hE hown hr ⊢
      have e2 : (⟨s.toArray⟩ : ByteArray).data.map (fun b => Value.int .u8 b.toNat) = ([] : List Value).toArray ++ (s.map I8).toArray := by
        apply Array.ext'; simp
      rw [e2, hss] at hr
      exact ⟨_, _, _, hr, Ext.fr hE, fun x hx => .inr (by cases hx; rfl), hown, fun h => (hs h).elim⟩
  · have hxs := vssmap hg4 hg5
    rw [hxs, hb1, Nat.mul_one] at hg6
    by_cases hroom : xs.length + s.length ≤ c
    · have hcl : c ≤ cs.length := by rw [hb1, Nat.mul_one] at hg3; exact hg3
      have hr := Lib.run_append_room_string (P := P) (w := w) t u ty el inf ht hu hi hsz gb xs.length c cs.toArray hg2 ⟨s.toArray⟩ (by rw [hss]; exact hroom) (by rw [hss]; simp; omega)
      rw [hss, hsc] at hr
      refine ⟨_, _, _, hr, ⟨rfl, rfl, rfl, by simp, fun x hx hn => setRow_other w gb x _ (fun e => hn (by rw [e]; rfl))⟩, fun x hx => .inl hx, ⟨by rw [List.length_append]; exact hroom, hO.2.1, .inr ⟨gb, _, (xs ++ s).map (fun c => [I8 c]), rfl, hg1, setRow_heap w gb _ _ el _ hg2, ?_, by simp, fun k vs x hv hx => ⟨hrel _ k vs x hv hx, trivial⟩, ?_⟩⟩, fun h1 h2 => by cases h2⟩
      · simp only [hb1, List.toList_toArray, List.length_append, List.length_take, List.length_drop, List.length_map]; omega
      · simp only [List.toList_toArray]
        rw [hfl, hb1, Nat.mul_one, hg6]
        have : (xs ++ s).length = (xs.map I8 ++ s.map I8).length := by simp
        rw [this, List.take_left, List.map_append]
    · have holds : ∀ j u, (xs.map I8)[j]? = some u → w.cell? ((⟨gb, 0, none⟩ : Addr).add j) = some u := by
        intro j u hj
        rw [← hg6, List.getElem?_take] at hj
        split at hj
        · rw [Addr.add_none, Nat.zero_add, hg2.cell]; exact hj
        · cases hj
      have hr := Lib.run_append_grow_string (P := P) (w := w) t u ty el inf z ht hu hi hz ⟨gb, 0, none⟩ xs.length c (xs.map I8) (by rw [hsz]; simp) holds ⟨s.toArray⟩ (by rw [hss]; omega) (by rw [hss]; omega) (by rw [hss, hbt]; exact growslice_fits (by omega) (by omega))
      rw [hss, hsc] at hr
      obtain ⟨hE, hown⟩ := made c (by omega)
      exact ⟨_, _, _, hr, Ext.fr hE, fun x hx => .inr (by cases hx; rfl), hown, fun h1 h2 => by cases h2⟩
section
variable {P : Program} {f : FuncId} {n : Nat} {R : Ending → World → Prop} {k : List Item} {e : Env} {w : World}
variable {ops : Array Oper} {i : Nat} {rest : List Nat} {d : Nat} {dst : Option Nat} {ty : TypeId} {pos : String} {af : Array Edge} {g : Option (Nat × Bool)}
theorem Rn.appS {t u el : TypeId} {x y : Operand} {A : Option Addr} {c : Nat} {l s : List UInt8} (ho : ops[i]? = some ⟨some d, .call { callee := .builtin .append, args := #[x, y], argTypes := #[t, u] }, ty, pos, af, g⟩) (hg : gok e ops g = true) (hn : Nat.blt d n = true)
    (ht : P.underlying t = some (.slice el)) (hu : P.underlying u = some .string) (hel : ElOk P el 1 1) (hx : ev e x = some (.slice A l.length c)) (hy : ev e y = some (Str s)) (hO : Own 0 No w el A c byteR l) (hle : l.length + s.length ≤ 1073741824)
    (h : ∀ A2 c2 w', Own 0 No w' el A2 c2 byteR (l ++ s) → Fr (fun b => ob A b) w w' → (∀ b, ob A2 b → ob A b ∨ b = w.heap.size) → (l ++ s = [] → A = none → A2 = none) → Rn P f n R (.inRegion ops rest :: k) ((d, .slice A2 (l ++ s).length c2) :: e) w') : Rn P f n R (.inRegion ops (i :: rest) :: k) e w := by
  obtain ⟨A2, c2, w', hr, hF, hob, hown, hnil⟩ := appS_run (P := P) ht hu hel hO hle ty
  refine Rn.opV (v := .slice A2 (l.length + s.length) c2) (w' := w') ho hg rfl hn (fun a hf => by simp [execOp, resolve, invoke, builtin, ev_eval hf hx, ev_eval hf hy, hr]) ?_
  have := h A2 c2 w' hown hF hob hnil
  rw [List.length_append] at this
  exact this
theorem uData {x : Operand} {A : Option Addr} {c : Nat} {l : List UInt8} {t el : TypeId} (hx : ev e x = some (.slice A l.length c)) (hO : Own 0 No w el A c byteR l) (hnil : l = [] → A = none) : ∀ w1 : World, OpV P n e w1 ⟨dst, .call { callee := .builtin .unsafeSliceData, args := #[x], argTypes := #[t] }, ty, pos, af, g⟩ (.pointer A) w1 := by
  intro w1 a hf
  cases A with
  | none => simp [execOp, resolve, invoke, builtin, ev_eval hf hx, Lib.run_unsafeSliceData_nil]
  | some q =>
    have hne : l ≠ [] := fun hl => by have := hnil hl; cases this
    have hlp := List.length_pos_iff.2 hne
    have hc : c ≠ 0 := by have := hO.1; omega
    simp [execOp, resolve, invoke, builtin, ev_eval hf hx, Lib.run_unsafeSliceData_row (P := P) w1 #[t] ty q l.length c hc]
theorem uStr_run {A : Option Addr} {c : Nat} {l : List UInt8} {el pt it : TypeId} (hp : P.underlying pt = some (.pointer el)) (hc : P.cellsOf el = 1) (hO : Own 0 No w el A c byteR l) (hnil : l = [] → A = none) :
    ∃ w', (Builtin.unsafeString_ #[pt, it] ty #[.pointer A, .int .i64 l.length]).run P w = .ok (Str l) w' ∧ Fr (fun x => ob A x) w w' := by
  by_cases hl : l = []
  · subst hl
    exact ⟨w, Lib.run_unsafeString_none (P := P) w pt it ty A, Fr.refl _ _⟩
  · rcases hO.2.2 with ⟨rfl, h⟩ | ⟨gb, cs, vss, rfl, h1, h2, h3, h4, h5, h6⟩
    · exact (hl (List.eq_nil_of_length_eq_zero (by have := hO.1; omega))).elim
    · have hsh : w.shape? gb = some (el, cs.length) := by unfold Blk at h2; simp [World.shape?, h2]
      have hb1 : byteR.sz = 1 := rfl
      have hcell : ∀ j x, l[j]? = some x → w.cell? ((⟨gb, 0, none⟩ : Addr).add j) = some (.int .u8 x.toNat) := fun j x hj => by
        have hjv : j < vss.length := by rw [h4]; exact lt_of_get hj
        obtain ⟨h7, _⟩ := h5 j vss[j] x (List.getElem?_eq_getElem hjv) hj
        have h8 := flatten_get byteR.sz vss (lens_of h4 h5) j _ (List.getElem?_eq_getElem hjv) 0 (.int .u8 x.toNat) (by rw [h7]; rfl)
        rw [hb1, Nat.mul_one, Nat.add_zero, ← h6, List.getElem?_take] at h8
        split at h8
        · rw [Addr.add_none, Nat.zero_add, h2.cell]; exact h8
        · cases h8
      have hle := hO.1
      have hle2 := hO.2.1
      have hm : maxLen = 9223372036854775807 := rfl
      refine ⟨_, Lib.run_unsafeString_row (P := P) w pt it ty el hp hc gb cs.length hsh l hl (by rw [hb1, Nat.mul_one] at h3; omega) (by omega) hcell, ?_⟩
      refine ⟨by simp [World.freeze, hl], by simp [World.freeze, hl], by simp [World.freeze, hl], by simp [World.freeze, hl], fun b hb hn => ?_⟩
      have hne : gb ≠ b := fun hh => hn (by rw [hh]; rfl)
      simp [World.freeze, hl, Array.getElem?_modify, hne]
end
end Go.Wk
namespace Go.Wk
open Go Go.RowKit
theorem Hp.end1 {Z0 S : Nat → Prop} {w0 w w' : World} {r : Rs} (hm : Hp Z0 S w0 w [r]) (hf : Fr r.F w w') : Hp Z0 S w0 w' [] :=
  ⟨hm.fr.trans' hf fun x hx => hm.nw 0 r rfl x hx, fun i r h => by simp at h, fun i j a b _ h => by simp at h, fun i r h => by simp at h⟩
section
variable {P : Program} {n : Nat} {e : Env} {w : World} {dst : Option Nat} {ty : TypeId} {pos : String} {af : Array Edge} {g : Option (Nat × Bool)}
theorem V.uStr {w' : World} {v : Value} {x y : Operand} {A : Option Addr} {m : Int} {pt it : TypeId} (hr : (Builtin.unsafeString_ #[pt, it] ty #[.pointer A, .int .i64 m]).run P w = .ok v w') (hx : ev e x = some (.pointer A)) (hy : ev e y = some (.int .i64 m)) :
    OpV P n e w ⟨dst, .call { callee := .builtin .unsafeString, args := #[x, y], argTypes := #[pt, it] }, ty, pos, af, g⟩ v w' := fun a hf => by
  simp [execOp, resolve, invoke, builtin, ev_eval hf hx, ev_eval hf hy, hr]
end
/-- The copy of a slice, in new memory. -/
theorem clone_get {α : Type} {Z : Nat → Prop} {w : World} {rep : Rep α} {xs : List α} {c : Nat} (h : (slR none c rep xs).H Z w) : xs = [] := h.2.2.nil_of
end Go.Wk
