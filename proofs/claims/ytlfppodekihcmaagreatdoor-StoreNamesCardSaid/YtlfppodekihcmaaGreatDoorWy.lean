/-
  Arrays as values: put together, and an element by its index. Plain laws over any program.
-/
import Derived.Test.YtlfppodekihcmaaGreatDoorWu
import Derived.Laws.Externs
set_option linter.unusedVariables false
set_option linter.unusedSimpArgs false
namespace Go.Wk
open Go Go.RowKit
def ArOk (P : Program) (t : TypeId) (zs : List Value) (n s : Nat) (el : TypeId) : Prop :=
  (∀ w, (zeroValue t).run P w = .ok (.agg zs.toArray) w) ∧ P.underlying t = some (.array n el) ∧ (∀ w, (sizeOf el).run P w = .ok s w)
theorem fill_mono (p q : Nat → Option (Nat × Nat)) (hpq : ∀ i v, p i = some v → q i = some v) : ∀ (l : List (Nat × Value)) (cs r : Array Value), Instr.fill p cs l = some r → Instr.fill q cs l = some r
  | [], cs, r, h => h
  | (i, v) :: rest, cs, r, h => by
    simp only [Instr.fill] at h ⊢
    cases hp : p i with
    | none => rw [hp] at h; cases h
    | some x =>
      obtain ⟨off, size⟩ := x
      rw [hpq i _ hp]
      rw [hp] at h
      dsimp only at h ⊢
      split
      · rename_i hc; rw [if_pos hc] at h; cases h
      · rename_i hc; rw [if_neg hc] at h; exact fill_mono p q hpq rest _ _ h
section
variable {P : Program} {f : FuncId} {n : Nat} {e : Env} {w : World}
variable {dst : Option Nat} {ty : TypeId} {pos : String} {af : Array Edge} {g : Option (Nat × Bool)}
theorem V.bldA {t el : TypeId} {ps : Array (Nat × Operand)} {us : List Value} {zs cs : List Value} {m s : Nat} (offs : List (Nat × Nat)) (hst : ArOk P t zs m s el) (ho : ∀ i v, offs[i]? = some v → v = (i * s, s)) (hx : evs e (ps.toList.map (·.2)) = some us) (hf : fillL offs zs ((ps.toList.map (·.1)).zip us) = some cs) :
    OpV P n e w ⟨dst, .build t ps, ty, pos, af, g⟩ (.agg cs.toArray) w := by
  obtain ⟨hz, hu, hs⟩ := hst
  refine V.bld hx fun w => ?_
  have hfill := fill_mono _ (fun i => some (i * s, s)) (fun i v h => by
    have h' : offs[i]? = some v := by simpa using h
    rw [ho i v h']) _ _ _ (fill_eq offs _ _ _ hf)
  simp only [Instr.build, Sem.run_bind, hz, Result.andThen_ok, run_underlying hu, hs, Value.cells]
  rw [hfill]
  simp
theorem V.arE {t el : TypeId} {x y : Operand} {zs cs : List Value} {m s : Nat} {i : Int} {kd : IntKind} {v : Value} (hst : ArOk P t zs m s el) (ha : ∀ w, (isAgg el).run P w = .ok true w) (hx : ev e x = some (.agg cs.toArray)) (hy : ev e y = some (.int kd i)) (h0 : 0 ≤ i ∧ i < m)
    (hv : Value.agg (cs.toArray.extract (i.toNat * s) (i.toNat * s + s)) = v) : OpV P n e w ⟨dst, .index t x y, ty, pos, af, g⟩ v w := fun b hf => by
  obtain ⟨_, hu, hs⟩ := hst
  subst hv
  simp [execOp, ev_eval hf hx, ev_eval hf hy, Instr.index, asIntOf, run_underlying hu, h0.1, h0.2, part, ha, hs]
theorem V.arE1 {t el : TypeId} {x y : Operand} {zs cs : List Value} {m : Nat} {i : Int} {kd : IntKind} {v : Value} (hst : ArOk P t zs m 1 el) (ha : ∀ w, (isAgg el).run P w = .ok false w) (hx : ev e x = some (.agg cs.toArray)) (hy : ev e y = some (.int kd i)) (h0 : 0 ≤ i ∧ i < m)
    (hv : cs[i.toNat]? = some v) : OpV P n e w ⟨dst, .index t x y, ty, pos, af, g⟩ v w := fun b hf => by
  obtain ⟨_, hu, hs⟩ := hst
  have hv' : cs.toArray[i.toNat]? = some v := by simpa using hv
  simp [execOp, ev_eval hf hx, ev_eval hf hy, Instr.index, asIntOf, run_underlying hu, h0.1, h0.2, part, ha, hs, hv]
end
section
variable {α β : Type} {rep : Rep β} {Z0 S : Nat → Prop} {w0 w : World} {L : List Rs}
/-- One of two elements, and the slice in it. -/
theorem Hp.idx2 {x0 x1 z : α} {i : Int} {A0 A1 : Option Addr} {c0 c1 : Nat} (cnt : α → List β) (he : idx [x0, x1] i = some z) (hm : Hp Z0 S w0 w L) (i0 i1 : Nat) (h0 : L[i0]? = some (slR A0 c0 rep (cnt x0))) (h1 : L[i1]? = some (slR A1 c1 rep (cnt x1))) :
    ∃ A c, Hp Z0 S w0 w (L ++ [slR A c rep (cnt z)]) ∧ ((i = 0 ∧ A = A0 ∧ c = c0 ∧ z = x0) ∨ (i = 1 ∧ A = A1 ∧ c = c1 ∧ z = x1)) := by
  unfold idx at he
  split at he
  · rename_i hi
    obtain ⟨k, rfl⟩ : ∃ k : Nat, i = k := ⟨i.toNat, by omega⟩
    rw [Int.toNat_natCast] at he
    match k, he with
    | 0, he =>
      obtain rfl : x0 = z := by simpa using he
      exact ⟨A0, c0, by have := hm.dup i0 h0 (fun _ h => h); exact this, .inl ⟨rfl, rfl, rfl, rfl⟩⟩
    | 1, he =>
      obtain rfl : x1 = z := by simpa using he
      exact ⟨A1, c1, by have := hm.dup i1 h1 (fun _ h => h); exact this, .inr ⟨rfl, rfl, rfl, rfl⟩⟩
    | k + 2, he => simp at he
  · cases he
end
end Go.Wk
namespace Go.Wk
open Go Go.RowKit
theorem offs_range (n s : Nat) : ∀ (i : Nat) v, ((List.range n).map fun i => (i * s, s))[i]? = some v → v = (i * s, s) := by
  intro i v h
  rw [List.getElem?_map] at h
  cases hi : (List.range n)[i]? with
  | none => rw [hi] at h; cases h
  | some k =>
    rw [hi] at h
    have : k = i := by
      have h2 := List.getElem?_eq_some_iff.1 hi
      obtain ⟨hl, h3⟩ := h2
      rw [List.getElem_range] at h3; exact h3.symm
    subst this
    exact (Option.some.inj h).symm
theorem idx_bd {α : Type} {l : List α} {i : Int} {z : α} {m : Nat} (h : idx l i = some z) (hl : l.length = m) : 0 ≤ i ∧ i < m := by
  unfold idx at h
  split at h
  · have := (List.getElem?_eq_some_iff.1 h).1; omega
  · cases h
theorem idx_map {α β : Type} (f : α → β) {l : List α} {i : Int} {z : α} (h : idx l i = some z) : (l.map f)[i.toNat]? = some (f z) := by
  unfold idx at h
  split at h
  · rw [List.getElem?_map, h]; rfl
  · cases h
end Go.Wk
namespace Go.Wk
open Go Go.RowKit
/-- What is carried over. -/
def cry (a b : UInt64) : UInt64 := if 18446744073709551616 ≤ a.toNat + b.toNat then 1 else 0
theorem cry_nat (a b : UInt64) : ((cry a b).toNat : Int) = ((a.toNat : Int) + b.toNat + 0) / 18446744073709551616 := by
  have h1 := a.toNat_lt; have h2 := b.toNat_lt
  unfold cry
  split
  · show ((1 : Nat) : Int) = _; omega
  · show ((0 : Nat) : Int) = _; omega
theorem add_nat (a b : UInt64) : ((a + b).toNat : Int) = ((a.toNat : Int) + b.toNat + 0) % 18446744073709551616 := by
  rw [UInt64.toNat_add]; omega
section
variable {P : Program} {n : Nat} {e : Env} {w : World}
variable {dst : Option Nat} {ty : TypeId} {pos : String} {af : Array Edge} {g : Option (Nat × Bool)}
theorem V.add64 {gg : FuncId} {fn : Func} {xs : List Operand} {ts : Array TypeId} {a b : UInt64} (hf : P.funcs[gg]? = some fn) (hname : (fn.name == "runtime.NumGoroutine") = false) (hb : fn.body.isNone = true) (hn : Extern.findNext fn = none) (he : Extern.find fn = some Go.add64Entry)
    (hx : evs e xs = some [.int .u64 ((a.toNat : Nat) : Int), .int .u64 ((b.toNat : Nat) : Int), .int .u64 0]) : OpV P n e w ⟨dst, .call { callee := .value (.func gg), args := xs.toArray, argTypes := ts }, ty, pos, af, g⟩ (.tuple #[.int .u64 (((a + b).toNat : Nat) : Int), .int .u64 (((cry a b).toNat : Nat) : Int)]) w := by
  refine V.externW hf hname hb hn he hx ?_
  rw [cry_nat, add_nat]
  exact Go.run_add64 _ _ _ (by omega) (by omega) (by omega) (by omega) w
end
end Go.Wk
namespace Go.Wk
open Go Go.RowKit
/-- A float by its bits, and one that is below another. -/
abbrev Flt (u : UInt64) : Value := .float .f64 u.toNat
def fltLt (a b : UInt64) : Bool := FloatKind.f64.format.order a.toNat b.toNat == some .lt
section
variable {P : Program} {n : Nat} {e : Env} {w : World}
variable {dst : Option Nat} {ty : TypeId} {pos : String} {af : Array Edge} {g : Option (Nat × Bool)}
theorem V.lssF {x y : Operand} {a b : UInt64} {t u : TypeId} (hx : ev e x = some (Flt a)) (hy : ev e y = some (Flt b)) :
    OpV P n e w ⟨dst, .binOp .lss t x y u, ty, pos, af, g⟩ (.bool (fltLt a b)) w :=
  fun c hf => by simp [execOp, ev_eval hf hx, ev_eval hf hy, eqGuard, binOp, Op.floatCmp, fltLt]
theorem V.fltOf {gg : FuncId} {fn : Func} {xs : List Operand} {ts : Array TypeId} {a : UInt64} (hf : P.funcs[gg]? = some fn) (hname : (fn.name == "runtime.NumGoroutine") = false) (hb : fn.body.isNone = true) (hn : Extern.findNext fn = none) (he : Extern.find fn = some Extern.MathFloatBits.float64frombits)
    (hx : evs e xs = some [.int .u64 ((a.toNat : Nat) : Int)]) : OpV P n e w ⟨dst, .call { callee := .value (.func gg), args := xs.toArray, argTypes := ts }, ty, pos, af, g⟩ (Flt a) w :=
  V.externW hf hname hb hn he hx rfl
end
end Go.Wk
namespace Go.Wk
open Go Go.RowKit
theorem b64_and (t : TypeId) (u v : UInt64) : binOp .and t (.int .u64 u.toNat) (.int .u64 v.toNat) = pure (.int .u64 (u &&& v).toNat) := by
  rw [binOp_and, intBits_and]; congr 2
  have h1 : BitVec.ofInt 64 (u.toNat : Int) = u.toBitVec := by apply BitVec.eq_of_toNat_eq; simp
  have h2 : BitVec.ofInt 64 (v.toNat : Int) = v.toBitVec := by apply BitVec.eq_of_toNat_eq; simp
  show IntKind.u64.wrap ((BitVec.ofInt 64 (u.toNat : Int) &&& BitVec.ofInt 64 (v.toNat : Int)).toNat : Int) = _
  rw [h1, h2, wu64 (by omega) (by have := (u.toBitVec &&& v.toBitVec).isLt; omega)]
  simp
theorem b64_xor (t : TypeId) (u v : UInt64) : binOp .xor t (.int .u64 u.toNat) (.int .u64 v.toNat) = pure (.int .u64 (u ^^^ v).toNat) := by
  rw [binOp_xor, intBits_xor]; congr 2
  have h1 : BitVec.ofInt 64 (u.toNat : Int) = u.toBitVec := by apply BitVec.eq_of_toNat_eq; simp
  have h2 : BitVec.ofInt 64 (v.toNat : Int) = v.toBitVec := by apply BitVec.eq_of_toNat_eq; simp
  show IntKind.u64.wrap ((BitVec.ofInt 64 (u.toNat : Int) ^^^ BitVec.ofInt 64 (v.toNat : Int)).toNat : Int) = _
  rw [h1, h2, wu64 (by omega) (by have := (u.toBitVec ^^^ v.toBitVec).isLt; omega)]
  simp
end Go.Wk
