/-
  The walk by places: one law an operation, for those that make and read no memory. Plain laws over any program.
-/
import Derived.Test.YtlfppodekihcmaaGreatDoorWa
set_option linter.unusedVariables false
set_option linter.unusedSimpArgs false
namespace Go.Wk
open Go Go.RowKit

/-- A text, by its bytes. -/
abbrev Str (l : List UInt8) : Value := .string ⟨l.toArray⟩
theorem str_eta (s : ByteArray) : Value.string s = Str s.data.toList := by cases s; simp [Str]

/-- An operation's outcome, of any frame that has these slots. -/
def OpV (P : Program) (n : Nat) (e : Env) (w : World) (o : Oper) (v : Value) (w' : World) : Prop := ∀ a : Act, Fits e n a.tmps → (execOp a.eval o).run P w = .ok (.value v) w'

section
variable {P : Program} {f : FuncId} {n : Nat} {R : Ending → World → Prop} {k : List Item} {e : Env} {w : World}
variable {ops : Array Oper} {i : Nat} {rest : List Nat} {o : Oper}
theorem Rn.v {v : Value} {w' : World} {d : Nat} (ho : ops[i]? = some o) (hg : gok e ops o.guard = true) (hd : o.dst = some d) (hn : Nat.blt d n = true) (hv : OpV P n e w o v w')
    (h : Rn P f n R (.inRegion ops rest :: k) ((d, v) :: e) w') : Rn P f n R (.inRegion ops (i :: rest) :: k) e w := Rn.opV ho hg hd hn hv h
theorem Rn.vN {v : Value} {w' : World} (ho : ops[i]? = some o) (hg : gok e ops o.guard = true) (hd : o.dst = none) (hv : OpV P n e w o v w')
    (h : Rn P f n R (.inRegion ops rest :: k) e w') : Rn P f n R (.inRegion ops (i :: rest) :: k) e w := Rn.opN ho hg hd hv h
end

section
variable {P : Program} {f : FuncId} {n : Nat} {R : Ending → World → Prop} {k : List Item} {e : Env} {w : World}
variable {ops : Array Oper} {i : Nat} {rest : List Nat} {d : Nat} {dst : Option Nat} {ty : TypeId} {pos : String} {af : Array Edge} {g : Option (Nat × Bool)}

theorem V.mv {x : Operand} {v : Value} (hx : ev e x = some v) :
    OpV P n e w ⟨dst, .move x, ty, pos, af, g⟩ (v) w :=
  fun a hf => by simp [execOp, ev_eval hf hx]
theorem V.as {x : Operand} {v : Value} (hx : ev e x = some v) :
    OpV P n e w ⟨dst, .assign x, ty, pos, af, g⟩ (v) w :=
  fun a hf => by simp [execOp, ev_eval hf hx]
theorem V.pkT {c x y : Operand} {v : Value} (hc : ev e c = some (.bool true)) (hx : ev e x = some v) :
    OpV P n e w ⟨dst, .pick c x y, ty, pos, af, g⟩ (v) w :=
  fun a hf => by simp [execOp, ev_eval hf hx, ev_eval hf hc, asBool]
theorem V.pkF {c x y : Operand} {v : Value} (hc : ev e c = some (.bool false)) (hx : ev e y = some v) :
    OpV P n e w ⟨dst, .pick c x y, ty, pos, af, g⟩ (v) w :=
  fun a hf => by simp [execOp, ev_eval hf hx, ev_eval hf hc, asBool]

/- integers -/
theorem V.addI {q : IntKind} {x y : Operand} {a b : Int} {t u : TypeId} (hx : ev e x = some (.int q a)) (hy : ev e y = some (.int q b))
    (hr : q.wrap (a + b) = a + b) :
    OpV P n e w ⟨dst, .binOp .add t x y u, ty, pos, af, g⟩ (.int q (a + b)) w :=
  fun c hf => by simp [execOp, ev_eval hf hx, ev_eval hf hy, eqGuard_add, binOp_add, Op.intArith, hr]
theorem V.subI {q : IntKind} {x y : Operand} {a b : Int} {t u : TypeId} (hx : ev e x = some (.int q a)) (hy : ev e y = some (.int q b))
    (hr : q.wrap (a - b) = a - b) :
    OpV P n e w ⟨dst, .binOp .sub t x y u, ty, pos, af, g⟩ (.int q (a - b)) w :=
  fun c hf => by simp [execOp, ev_eval hf hx, ev_eval hf hy, eqGuard_sub, binOp_sub, Op.intArith, hr]
theorem V.mulI {q : IntKind} {x y : Operand} {a b : Int} {t u : TypeId} (hx : ev e x = some (.int q a)) (hy : ev e y = some (.int q b))
    (hr : q.wrap (a * b) = a * b) :
    OpV P n e w ⟨dst, .binOp .mul t x y u, ty, pos, af, g⟩ (.int q (a * b)) w :=
  fun c hf => by simp [execOp, ev_eval hf hx, ev_eval hf hy, eqGuard_mul, binOp_mul, Op.intArith, hr]
theorem V.addW {q : IntKind} {x y : Operand} {a b : Int} {t u : TypeId} (hx : ev e x = some (.int q a)) (hy : ev e y = some (.int q b)) :
    OpV P n e w ⟨dst, .binOp .add t x y u, ty, pos, af, g⟩ (.int q (q.wrap (a + b))) w :=
  fun c hf => by simp [execOp, ev_eval hf hx, ev_eval hf hy, eqGuard_add, binOp_add, Op.intArith]
theorem V.subW {q : IntKind} {x y : Operand} {a b : Int} {t u : TypeId} (hx : ev e x = some (.int q a)) (hy : ev e y = some (.int q b)) :
    OpV P n e w ⟨dst, .binOp .sub t x y u, ty, pos, af, g⟩ (.int q (q.wrap (a - b))) w :=
  fun c hf => by simp [execOp, ev_eval hf hx, ev_eval hf hy, eqGuard_sub, binOp_sub, Op.intArith]
theorem V.mulW {q : IntKind} {x y : Operand} {a b : Int} {t u : TypeId} (hx : ev e x = some (.int q a)) (hy : ev e y = some (.int q b)) :
    OpV P n e w ⟨dst, .binOp .mul t x y u, ty, pos, af, g⟩ (.int q (q.wrap (a * b))) w :=
  fun c hf => by simp [execOp, ev_eval hf hx, ev_eval hf hy, eqGuard_mul, binOp_mul, Op.intArith]
theorem V.quoI {q : IntKind} {x y : Operand} {a b : Int} {t u : TypeId} (hx : ev e x = some (.int q a)) (hy : ev e y = some (.int q b))
    (h0 : 0 ≤ a) (h1 : 0 < b) (hr : q.wrap (a / b) = a / b) :
    OpV P n e w ⟨dst, .binOp .quo t x y u, ty, pos, af, g⟩ (.int q (a / b)) w :=
  fun c hf => by
    have hb : b ≠ 0 := by omega
    simp [execOp, ev_eval hf hx, ev_eval hf hy, eqGuard_quo, binOp_quo, Op.intDiv, hb, Int.tdiv_eq_ediv_of_nonneg h0, hr]
theorem V.remI {q : IntKind} {x y : Operand} {a b : Int} {t u : TypeId} (hx : ev e x = some (.int q a)) (hy : ev e y = some (.int q b))
    (h0 : 0 ≤ a) (h1 : 0 < b) :
    OpV P n e w ⟨dst, .binOp .rem t x y u, ty, pos, af, g⟩ (.int q (a % b)) w :=
  fun c hf => by
    have hb : b ≠ 0 := by omega
    simp [execOp, ev_eval hf hx, ev_eval hf hy, eqGuard_rem, binOp_rem, Op.intDiv, hb, Int.tmod_eq_emod_of_nonneg h0]
theorem V.lss {q : IntKind} {x y : Operand} {a b : Int} {t u : TypeId} (hx : ev e x = some (.int q a)) (hy : ev e y = some (.int q b)) :
    OpV P n e w ⟨dst, .binOp .lss t x y u, ty, pos, af, g⟩ (.bool (decide (a < b))) w :=
  fun c hf => by simp [execOp, ev_eval hf hx, ev_eval hf hy, eqGuard_lss, binOp_lss]
theorem V.leq {q : IntKind} {x y : Operand} {a b : Int} {t u : TypeId} (hx : ev e x = some (.int q a)) (hy : ev e y = some (.int q b)) :
    OpV P n e w ⟨dst, .binOp .leq t x y u, ty, pos, af, g⟩ (.bool (decide (a ≤ b))) w :=
  fun c hf => by simp [execOp, ev_eval hf hx, ev_eval hf hy, eqGuard_leq, binOp_leq]
theorem V.gtr {q : IntKind} {x y : Operand} {a b : Int} {t u : TypeId} (hx : ev e x = some (.int q a)) (hy : ev e y = some (.int q b)) :
    OpV P n e w ⟨dst, .binOp .gtr t x y u, ty, pos, af, g⟩ (.bool (decide (b < a))) w :=
  fun c hf => by simp [execOp, ev_eval hf hx, ev_eval hf hy, eqGuard_gtr, binOp_gtr, GT.gt]
theorem V.geq {q : IntKind} {x y : Operand} {a b : Int} {t u : TypeId} (hx : ev e x = some (.int q a)) (hy : ev e y = some (.int q b)) :
    OpV P n e w ⟨dst, .binOp .geq t x y u, ty, pos, af, g⟩ (.bool (decide (b ≤ a))) w :=
  fun c hf => by simp [execOp, ev_eval hf hx, ev_eval hf hy, eqGuard_geq, binOp_geq, GE.ge]
theorem V.eql {q : IntKind} {x y : Operand} {a b : Int} {t u : TypeId} (hx : ev e x = some (.int q a)) (hy : ev e y = some (.int q b)) :
    OpV P n e w ⟨dst, .binOp .eql t x y u, ty, pos, af, g⟩ (.bool (decide (a = b))) w :=
  fun c hf => by simp [execOp, ev_eval hf hx, ev_eval hf hy, eqGuard_at_int, binOp_eql]; rfl
theorem V.neq {q : IntKind} {x y : Operand} {a b : Int} {t u : TypeId} (hx : ev e x = some (.int q a)) (hy : ev e y = some (.int q b)) :
    OpV P n e w ⟨dst, .binOp .neq t x y u, ty, pos, af, g⟩ (.bool (decide (a ≠ b))) w :=
  fun c hf => by
    have : (a != b) = decide (a ≠ b) := by by_cases hab : a = b <;> simp [hab]
    simp [execOp, ev_eval hf hx, ev_eval hf hy, eqGuard_at_int, binOp_neq, this]
theorem V.bits {q : IntKind} {op : BinOp} {x y : Operand} {a b c : Int} {t u : TypeId} (hx : ev e x = some (.int q a)) (hy : ev e y = some (.int q b))
    (hop : (binOp op t (.int q a) (.int q b)) = pure (.int q c)) :
    OpV P n e w ⟨dst, .binOp op t x y u, ty, pos, af, g⟩ (.int q c) w :=
  fun a hf => by simp [execOp, ev_eval hf hx, ev_eval hf hy, eqGuard_at_int, hop]
/-- Whatever two values, by a run of the operator. -/
theorem V.bin {op : BinOp} {x y : Operand} {a b c : Value} {t u : TypeId} (hx : ev e x = some a) (hy : ev e y = some b)
    (hq : (eqGuard op t x y a b).run P w = .ok () w) (hop : (binOp op t a b).run P w = .ok c w) :
    OpV P n e w ⟨dst, .binOp op t x y u, ty, pos, af, g⟩ (c) w :=
  fun a hf => by simp [execOp, ev_eval hf hx, ev_eval hf hy, hq, hop]
theorem V.shl {q q' : IntKind} {x y : Operand} {a b : Int} {t u : TypeId} (hx : ev e x = some (.int q a)) (hy : ev e y = some (.int q' b))
    (h0 : 0 ≤ b) (h1 : b ≤ q.bits) :
    OpV P n e w ⟨dst, .binOp .shl t x y u, ty, pos, af, g⟩ (.int q (q.wrap (a * 2 ^ b.toNat))) w :=
  fun c hf => by simp [execOp, ev_eval hf hx, ev_eval hf hy, eqGuard_shl, binOp_shl, shift_shl q q' a b h0 h1]
theorem V.shr {q q' : IntKind} {x y : Operand} {a b : Int} {t u : TypeId} (hx : ev e x = some (.int q a)) (hy : ev e y = some (.int q' b))
    (h0 : 0 ≤ b) (h1 : b ≤ q.bits) :
    OpV P n e w ⟨dst, .binOp .shr t x y u, ty, pos, af, g⟩ (.int q (a / 2 ^ b.toNat)) w :=
  fun c hf => by simp [execOp, ev_eval hf hx, ev_eval hf hy, eqGuard_shr, binOp_shr, shift_shr q q' a b h0 h1]
theorem V.notB {x : Operand} {b : Bool} {t : TypeId} (hx : ev e x = some (.bool b)) :
    OpV P n e w ⟨dst, .unOp .not t x, ty, pos, af, g⟩ (.bool (!b)) w :=
  fun c hf => by simp [execOp, ev_eval hf hx, Op.unary]
theorem V.notD {x : Operand} {p : Prop} [Decidable p] {t : TypeId} (hx : ev e x = some (.bool (decide p))) :
    OpV P n e w ⟨dst, .unOp .not t x, ty, pos, af, g⟩ (.bool (decide (¬ p))) w :=
  fun c hf => by simp [execOp, ev_eval hf hx, Op.unary]
theorem V.negI {q : IntKind} {x : Operand} {a : Int} {t : TypeId} (hx : ev e x = some (.int q a)) :
    OpV P n e w ⟨dst, .unOp .neg t x, ty, pos, af, g⟩ (.int q (q.wrap (0 - a))) w :=
  fun c hf => by simp [execOp, ev_eval hf hx, Op.unary, Op.intArith]
theorem V.xorU {q : IntKind} {x : Operand} {a c : Int} {t : TypeId} (hx : ev e x = some (.int q a))
    (hc : Op.intBits .xor q (if q.signed then -1 else q.max) a = pure (.int q c)) :
    OpV P n e w ⟨dst, .unOp .xor t x, ty, pos, af, g⟩ (.int q c) w :=
  fun c hf => by simp [execOp, ev_eval hf hx, Op.unary, hc]
theorem V.cvI {q q' : IntKind} {x : Operand} {a : Int} {s t : TypeId} {ds : TypeDesc} (hs : P.underlying s = some ds) (ht : P.underlying t = some (.int q')) (hx : ev e x = some (.int q a))
    (hr : q'.wrap a = a) :
    OpV P n e w ⟨dst, .convert s t x, ty, pos, af, g⟩ (.int q' a) w :=
  fun c hf => by simp [execOp, ev_eval hf hx, convert, run_underlying hs, run_underlying ht, Conv.intToInt, hr]
theorem V.cvW {q q' : IntKind} {x : Operand} {a : Int} {s t : TypeId} {ds : TypeDesc} (hs : P.underlying s = some ds) (ht : P.underlying t = some (.int q')) (hx : ev e x = some (.int q a)) :
    OpV P n e w ⟨dst, .convert s t x, ty, pos, af, g⟩ (.int q' (q'.wrap a)) w :=
  fun c hf => by simp [execOp, ev_eval hf hx, convert, run_underlying hs, run_underlying ht, Conv.intToInt]
theorem V.cvS {x : Operand} {b : ByteArray} {s t : TypeId} (hs : P.underlying s = some .string) (ht : P.underlying t = some .string) (hx : ev e x = some (.string b)) :
    OpV P n e w ⟨dst, .convert s t x, ty, pos, af, g⟩ (.string b) w :=
  fun c hf => by simp [execOp, ev_eval hf hx, convert, run_underlying hs, run_underlying ht]

/- texts -/
theorem V.eqlS {x y : Operand} {a b : List UInt8} {t u : TypeId} (hx : ev e x = some (Str a)) (hy : ev e y = some (Str b)) :
    OpV P n e w ⟨dst, .binOp .eql t x y u, ty, pos, af, g⟩ (.bool (decide (a = b))) w :=
  fun c hf => by
    have : (a == b) = decide (a = b) := by by_cases hab : a = b <;> simp [hab]
    simp [execOp, ev_eval hf hx, ev_eval hf hy, eqGuard_at_string, binOp_string_eql, this]
theorem V.neqS {x y : Operand} {a b : List UInt8} {t u : TypeId} (hx : ev e x = some (Str a)) (hy : ev e y = some (Str b)) :
    OpV P n e w ⟨dst, .binOp .neq t x y u, ty, pos, af, g⟩ (.bool (decide (a ≠ b))) w :=
  fun c hf => by
    have : (!(a == b)) = decide (a ≠ b) := by by_cases hab : a = b <;> simp [hab]
    simp [execOp, ev_eval hf hx, ev_eval hf hy, eqGuard_at_string, binOp_string_neq, this]
theorem V.lssS {x y : Operand} {a b : List UInt8} {t u : TypeId} (hx : ev e x = some (Str a)) (hy : ev e y = some (Str b)) :
    OpV P n e w ⟨dst, .binOp .lss t x y u, ty, pos, af, g⟩ (.bool (Op.bytesLess a b)) w :=
  fun c hf => by simp [execOp, ev_eval hf hx, ev_eval hf hy, eqGuard_at_string, binOp_string_lss]
theorem bytesLess_geq (a b : List UInt8) : (!(Op.bytesLess a b || a == b)) = Op.bytesLess b a := by
  induction a generalizing b with
  | nil => cases b <;> simp [Op.bytesLess]
  | cons x a ih =>
    cases b with
    | nil => simp [Op.bytesLess]
    | cons y b =>
      have := ih b
      simp only [Op.bytesLess]
      by_cases hxy : x = y
      · subst hxy
        have hlt : ¬ (x < x) := by simp [UInt8.lt_iff_toNat_lt]
        simp only [hlt, decide_false, Bool.false_or, BEq.rfl, Bool.true_and]
        rw [← this]
        simp
      · have h1 : (x == y) = false := by simpa using hxy
        have h2 : (y == x) = false := by simpa using fun hh => hxy hh.symm
        have h3 : (x :: a == y :: b) = false := by simp [hxy]
        have h4 : decide (x < y) = !decide (y < x) := by
          have hne : x.toNat ≠ y.toNat := fun hh => hxy (UInt8.toNat_inj.1 hh)
          simp only [UInt8.lt_iff_toNat_lt]
          by_cases hh : x.toNat < y.toNat
          · have : ¬ y.toNat < x.toNat := by omega
            simp [hh, this]
          · have : y.toNat < x.toNat := by omega
            simp [hh, this]
        simp [h1, h2, h3, h4]
theorem V.gtrS {x y : Operand} {a b : List UInt8} {t u : TypeId} (hx : ev e x = some (Str a)) (hy : ev e y = some (Str b)) :
    OpV P n e w ⟨dst, .binOp .gtr t x y u, ty, pos, af, g⟩ (.bool (Op.bytesLess b a)) w :=
  fun c hf => by
    simp only [execOp, ev_eval hf hx, ev_eval hf hy, eqGuard_at_string, binOp, Op.stringOp, ByteArray.toList_mk, bytesLess_geq, Sem.run_bind, Sem.run_pure, Result.andThen_ok]
theorem V.catS {x y : Operand} {a b : List UInt8} {t u : TypeId} (hx : ev e x = some (Str a)) (hy : ev e y = some (Str b))
    (hb : a.length + b.length ≤ 9223372036854775807) :
    OpV P n e w ⟨dst, .binOp .add t x y u, ty, pos, af, g⟩ (Str (a ++ b)) w :=
  fun c hf => by
    have hr := run_string_add_sum (P := P) (w := w) (⟨a.toArray⟩ : ByteArray) (⟨b.toArray⟩ : ByteArray) (by simpa [ByteArray.size] using hb)
    simp only [execOp, ev_eval hf hx, ev_eval hf hy, eqGuard_at_string, binOp_string_add, Sem.run_bind, Sem.run_pure, Result.andThen_ok, hr, ByteArray.mk_append_mk]
theorem V.lenS {x : Operand} {a : List UInt8} {t : TypeId} (ht : P.underlying t = some .string) (hx : ev e x = some (Str a)) :
    OpV P n e w ⟨dst, .call { callee := .builtin .len, args := #[x], argTypes := #[t] }, ty, pos, af, g⟩ (.int .i64 a.length) w :=
  fun c hf => by simp [execOp, resolve, invoke, builtin, ev_eval hf hx, run_len_string, ht, ByteArray.size, goInt]
theorem V.lenV {x : Operand} {A : Option Addr} {m c : Nat} {t el : TypeId} (ht : P.underlying t = some (.slice el)) (hx : ev e x = some (.slice A m c)) :
    OpV P n e w ⟨dst, .call { callee := .builtin .len, args := #[x], argTypes := #[t] }, ty, pos, af, g⟩ (.int .i64 m) w :=
  fun c hf => by simp [execOp, resolve, invoke, builtin, ev_eval hf hx, Builtin.len_, run_underlying ht, goInt]
theorem V.idxS {x y : Operand} {a : List UInt8} {q : IntKind} {j : Int} {t : TypeId} (m : Nat) (ht : P.underlying t = some .string) (hx : ev e x = some (Str a)) (hy : ev e y = some (.int q j))
    (hj : j = m) (c : UInt8) (hc : a[m]? = some c) :
    OpV P n e w ⟨dst, .index t x y, ty, pos, af, g⟩ (.int .u8 c.toNat) w :=
  fun b hf => by
    subst hj
    have hlt : m < a.length := by
      rcases Nat.lt_or_ge m a.length with hh | hh
      · exact hh
      · rw [List.getElem?_eq_none hh] at hc; cases hc
    have hg' : (⟨a.toArray⟩ : ByteArray)[m]? = some c := by
      rw [ByteArray.getElem?_lt' _ _ (by simpa [ByteArray.size] using hlt)]
      rw [List.getElem?_eq_getElem hlt] at hc
      cases hc
      rfl
    simp [execOp, ev_eval hf hx, ev_eval hf hy, Instr.index, asIntOf, run_underlying ht, hg']
theorem sbound {q : IntKind} {m y : Nat} (code : BoundsCode) (h : m ≤ y) : (Instr.sliceBound (.int q (m : Int)) y code).run P w = .ok m w := by
  rw [run_sliceBound w q (m : Int) y code (by omega) (by omega)]; simp
/-- A cut of a text. -/
theorem V.cutS {x : Operand} {lo hi : Option Operand} {a : List UInt8} {t : TypeId} (p q : Nat) (ht : P.underlying t = some .string) (hx : ev e x = some (Str a))
    (hlo : match lo with | some y => ∃ j, ev e y = some (.int .i64 j) ∧ j = (p : Int) | none => p = 0) (hhi : match hi with | some y => ∃ j, ev e y = some (.int .i64 j) ∧ j = (q : Int) | none => q = a.length) (h1 : p ≤ q) (h2 : q ≤ a.length) :
    OpV P n e w ⟨dst, .slice t x lo hi none, ty, pos, af, g⟩ (Str ((a.take q).drop p)) w :=
  fun b hf => by
    have hs : (⟨a.toArray⟩ : ByteArray).size = a.length := by simp [ByteArray.size]
    have hex : (⟨a.toArray⟩ : ByteArray).extract p q = ⟨((a.take q).drop p).toArray⟩ := by
      rw [ByteArray.extract_mk, List.drop_take]
    cases lo with
    | none =>
      cases hi with
      | none =>
        simp only at hlo hhi
        subst hlo hhi
        simp only [execOp, Option.map_none, ev_eval hf hx, Instr.sliceAt, run_underlying ht, Instr.slice, Instr.sliceBounds, Sem.run_bind, Sem.run_pure, Result.andThen_ok, Option.isSome_none, Bool.false_eq_true, if_false, hs, hex]
      | some y =>
        simp only at hlo hhi
        obtain ⟨j, hy, rfl⟩ := hhi
        subst hlo
        simp only [execOp, Option.map_none, Option.map_some, ev_eval hf hx, ev_eval hf hy, Instr.sliceAt, run_underlying ht, Instr.slice, Instr.sliceBounds, Sem.run_bind, Sem.run_pure, Result.andThen_ok, Option.isSome_none, Bool.false_eq_true, if_false, hs]
        rw [sbound _ (by omega)]
        simp [hex]
    | some z =>
      cases hi with
      | none =>
        simp only at hlo hhi
        obtain ⟨j, hz, rfl⟩ := hlo
        subst hhi
        simp only [execOp, Option.map_none, Option.map_some, ev_eval hf hx, ev_eval hf hz, Instr.sliceAt, run_underlying ht, Instr.slice, Instr.sliceBounds, Sem.run_bind, Sem.run_pure, Result.andThen_ok, Option.isSome_none, Bool.false_eq_true, if_false, hs]
        rw [sbound _ (by omega)]
        simp [hex]
      | some y =>
        simp only at hlo hhi
        obtain ⟨j, hz, rfl⟩ := hlo
        obtain ⟨j', hy, rfl⟩ := hhi
        simp only [execOp, Option.map_none, Option.map_some, ev_eval hf hx, ev_eval hf hy, ev_eval hf hz, Instr.sliceAt, run_underlying ht, Instr.slice, Instr.sliceBounds, Sem.run_bind, Sem.run_pure, Result.andThen_ok, Option.isSome_none, Bool.false_eq_true, if_false, hs]
        rw [sbound _ h2]
        simp only [Result.andThen_ok]
        rw [sbound _ h1]
        simp [hex]

/- bools, pointers, tuples -/
theorem V.eqlB {x y : Operand} {a b : Bool} {t u : TypeId} (ht : P.underlying t = some .bool) (hx : ev e x = some (.bool a)) (hy : ev e y = some (.bool b)) :
    OpV P n e w ⟨dst, .binOp .eql t x y u, ty, pos, af, g⟩ (.bool (decide (a = b))) w :=
  fun c hf => by
    have : (a == b) = decide (a = b) := by cases a <;> cases b <;> rfl
    simp [execOp, ev_eval hf hx, ev_eval hf hy, eqGuard_at_bool, run_eql_bool w t a b ht, this]
theorem V.neqB {x y : Operand} {a b : Bool} {t u : TypeId} (ht : P.underlying t = some .bool) (hx : ev e x = some (.bool a)) (hy : ev e y = some (.bool b)) :
    OpV P n e w ⟨dst, .binOp .neq t x y u, ty, pos, af, g⟩ (.bool (decide (a ≠ b))) w :=
  fun c hf => by
    have : (!(a == b)) = decide (a ≠ b) := by cases a <;> cases b <;> rfl
    simp [execOp, ev_eval hf hx, ev_eval hf hy, eqGuard_at_bool, run_neq_bool w t a b ht, this]
theorem run_eq_ptr_nil {t el : TypeId} (ht : P.underlying t = some (.pointer el)) (p : Option Addr) : (Op.equal t (.pointer p) (.pointer none)).run P w = .ok p.isNone w := by
  have h : ∀ m : Nat, (Op.equalIn (m + 1) t (.pointer p) (.pointer none)).run P w = .ok p.isNone w := fun m => by cases p <;> simp [Op.equalIn, run_underlying ht]
  exact h 9999
theorem run_eq_slice_nil {t el : TypeId} (ht : P.underlying t = some (.slice el)) (A : Option Addr) (m c : Nat) : (Op.equal t (.slice A m c) (.slice none 0 0)).run P w = .ok A.isNone w := by
  have h : ∀ q : Nat, (Op.equalIn (q + 1) t (.slice A m c) (.slice none 0 0)).run P w = .ok A.isNone w := fun q => by cases A <;> simp [Op.equalIn, run_underlying ht]
  exact h 9999
theorem run_eq_map_nil {t q el : TypeId} (ht : P.underlying t = some (.map q el)) (p : Option Nat) : (Op.equal t (.map p) (.map none)).run P w = .ok p.isNone w := by
  have h : ∀ m : Nat, (Op.equalIn (m + 1) t (.map p) (.map none)).run P w = .ok p.isNone w := fun m => by cases p <;> simp [Op.equalIn, run_underlying ht]
  exact h 9999
theorem V.eqlP {x y : Operand} {p : Option Addr} {t el u : TypeId} (ht : P.underlying t = some (.pointer el)) (hx : ev e x = some (.pointer p)) (hy : ev e y = some (.pointer none)) :
    OpV P n e w ⟨dst, .binOp .eql t x y u, ty, pos, af, g⟩ (.bool p.isNone) w :=
  fun c hf => by simp [execOp, ev_eval hf hx, ev_eval hf hy, eqGuard_at_pointer, binOp, run_eq_ptr_nil ht]
theorem V.neqP {x y : Operand} {p : Option Addr} {t el u : TypeId} (ht : P.underlying t = some (.pointer el)) (hx : ev e x = some (.pointer p)) (hy : ev e y = some (.pointer none)) :
    OpV P n e w ⟨dst, .binOp .neq t x y u, ty, pos, af, g⟩ (.bool p.isSome) w :=
  fun c hf => by
    have hb : (!p.isNone) = p.isSome := by cases p <;> rfl
    simp [execOp, ev_eval hf hx, ev_eval hf hy, eqGuard_at_pointer, binOp, run_eq_ptr_nil ht, -Option.not_isNone, hb]
theorem V.eqlV {x y : Operand} {A : Option Addr} {m c : Nat} {t el u : TypeId} (ht : P.underlying t = some (.slice el)) (hx : ev e x = some (.slice A m c)) (hy : ev e y = some (.slice none 0 0)) :
    OpV P n e w ⟨dst, .binOp .eql t x y u, ty, pos, af, g⟩ (.bool A.isNone) w :=
  fun c hf => by simp [execOp, ev_eval hf hx, ev_eval hf hy, eqGuard_at_slice, binOp, run_eq_slice_nil ht]
theorem V.neqV {x y : Operand} {A : Option Addr} {m c : Nat} {t el u : TypeId} (ht : P.underlying t = some (.slice el)) (hx : ev e x = some (.slice A m c)) (hy : ev e y = some (.slice none 0 0)) :
    OpV P n e w ⟨dst, .binOp .neq t x y u, ty, pos, af, g⟩ (.bool A.isSome) w :=
  fun c hf => by
    have hb : (!A.isNone) = A.isSome := by cases A <;> rfl
    simp [execOp, ev_eval hf hx, ev_eval hf hy, eqGuard_at_slice, binOp, run_eq_slice_nil ht, -Option.not_isNone, hb]
theorem V.ext {x : Operand} {vs : Array Value} {j : Nat} {v : Value} (hx : ev e x = some (.tuple vs)) (hv : vs[j]? = some v) :
    OpV P n e w ⟨dst, .extract x j, ty, pos, af, g⟩ (v) w :=
  fun c hf => by simp [execOp, ev_eval hf hx, Instr.extract, hv]
theorem V.nil {x : Operand} {p : Addr} (hx : ev e x = some (.pointer (some p))) :
    OpV P n e w ⟨dst, .nilCheck x, ty, pos, af, g⟩ (.pointer (some p)) w :=
  fun c hf => by simp [execOp, ev_eval hf hx]
theorem Rn.nilN {x : Operand} {p : Addr} (ho : ops[i]? = some ⟨none, .nilCheck x, ty, pos, af, g⟩) (hg : gok e ops g = true) (hx : ev e x = some (.pointer (some p)))
    (h : Rn P f n R (.inRegion ops rest :: k) e w) : Rn P f n R (.inRegion ops (i :: rest) :: k) e w :=
  Rn.opN (v := .pointer (some p)) ho hg rfl (fun c hf => by simp [execOp, ev_eval hf hx]) h
theorem V.mini {x y : Operand} {q q' : IntKind} {a b : Int} {ts : Array TypeId} (hx : ev e x = some (.int q a)) (hy : ev e y = some (.int q' b)) :
    OpV P n e w ⟨dst, .call { callee := .builtin .min, args := #[x, y], argTypes := ts }, ty, pos, af, g⟩ (.int q (min a b)) w :=
  fun c hf => by
    have : (if b < a then b else a) = min a b := by split <;> omega
    simp [execOp, resolve, invoke, builtin, ev_eval hf hx, ev_eval hf hy, run_min_int2, this]
theorem V.maxi {x y : Operand} {q q' : IntKind} {a b : Int} {ts : Array TypeId} (hx : ev e x = some (.int q a)) (hy : ev e y = some (.int q' b)) :
    OpV P n e w ⟨dst, .call { callee := .builtin .max, args := #[x, y], argTypes := ts }, ty, pos, af, g⟩ (.int q (max a b)) w :=
  fun c hf => by
    have : (if a < b then b else a) = max a b := by split <;> omega
    simp [execOp, resolve, invoke, builtin, ev_eval hf hx, ev_eval hf hy, run_max_int2, this]
theorem V.mkI {x : Operand} {v : Value} {t : TypeId} {ds : TypeDesc} (ht : P.underlying t = some ds) (hds : ∀ ms, ds ≠ .interface ms) (hx : ev e x = some v) :
    OpV P n e w ⟨dst, .makeInterface t x, ty, pos, af, g⟩ (.iface t v) w :=
  fun c hf => by
    have : (Instr.makeInterface t v).run P w = .ok (.iface t v) w := by
      simp only [Instr.makeInterface, Sem.run_bind, run_underlying ht, Result.andThen_ok]
      cases ds <;> first | rfl | exact absurd rfl (hds _)
    simp [execOp, ev_eval hf hx, this]
def evs (e : Env) : List Operand → Option (List Value)
  | [] => some []
  | x :: r => match ev e x, evs e r with
    | some v, some vs => some (v :: vs)
    | _, _ => none
theorem evs_map {a : Act} (hf : Fits e n a.tmps) : ∀ {l : List Operand} {vs : List Value}, evs e l = some vs → l.map a.eval = vs
  | [], vs, h => by cases h; rfl
  | x :: r, vs, h => by
    simp only [evs] at h
    split at h
    · rename_i v us hv hr
      cases h
      simp [ev_eval hf hv, evs_map hf hr]
    · cases h
theorem V.mkF {fn : Fn} {xs : List Operand} {vs : List Value} (hx : evs e xs = some vs) :
    OpV P n e w ⟨dst, .makeFunc fn #[] xs.toArray, ty, pos, af, g⟩ (.func fn #[] vs.toArray) w :=
  fun c hf => by simp [execOp, Instr.makeFunc, evs_map hf hx]

/- calls -/
theorem run_callFunc {fn : Func} {c : Code} {gg : FuncId} {args : Array Value} (hfn : P.funcs[gg]? = some fn) (hb : fn.body = some c) (hnm : (fn.name == "runtime.NumGoroutine") = false) : (callFunc gg args).run P w = .ok (.enter gg args) w := by
  have hnm' : ¬ fn.name = "runtime.NumGoroutine" := by simpa using hnm
  simp [callFunc, hfn, hb, hnm']
theorem Rn.call {gg : FuncId} {fn : Func} {c : Code} {xs : List Operand} {ts : Array TypeId} {vs : List Value} {R' : Ending → World → Prop}
    (ho : ops[i]? = some ⟨some d, .call { callee := .value (.func gg), args := xs.toArray, argTypes := ts }, ty, pos, af, g⟩) (hg : gok e ops g = true) (hn : Nat.blt d n = true)
    (hfn : P.funcs[gg]? = some fn) (hb : fn.body = some c) (hnm : (fn.name == "runtime.NumGoroutine") = false) (hx : evs e xs = some vs) (hc : Calls P gg vs.toArray w R')
    (h : ∀ x w', R' x w' → ∃ v, x = .returned v ∧ Rn P f n R (.inRegion ops rest :: k) ((d, v) :: e) w') : Rn P f n R (.inRegion ops (i :: rest) :: k) e w :=
  Rn.opC (g := gg) (args := vs.toArray) ho hg rfl hn (fun a hf => by
    simp [execOp, resolve, Act.eval, Deferred.ofValue, invoke, run_callFunc hfn hb hnm, evs_map hf hx]) hc h
theorem Rn.callN {gg : FuncId} {fn : Func} {c : Code} {xs : List Operand} {ts : Array TypeId} {vs : List Value} {R' : Ending → World → Prop}
    (ho : ops[i]? = some ⟨none, .call { callee := .value (.func gg), args := xs.toArray, argTypes := ts }, ty, pos, af, g⟩) (hg : gok e ops g = true)
    (hfn : P.funcs[gg]? = some fn) (hb : fn.body = some c) (hnm : (fn.name == "runtime.NumGoroutine") = false) (hx : evs e xs = some vs) (hc : Calls P gg vs.toArray w R')
    (h : ∀ x w', R' x w' → ∃ v, x = .returned v ∧ Rn P f n R (.inRegion ops rest :: k) e w') : Rn P f n R (.inRegion ops (i :: rest) :: k) e w :=
  Rn.opCN (g := gg) (args := vs.toArray) ho hg rfl (fun a hf => by
    simp [execOp, resolve, Act.eval, Deferred.ofValue, invoke, run_callFunc hfn hb hnm, evs_map hf hx]) hc h
/-- A function value is called. -/
theorem Rn.callV {gg : FuncId} {fn : Func} {c : Code} {y : Operand} {cs : List Value} {xs : List Operand} {ts : Array TypeId} {vs : List Value} {R' : Ending → World → Prop}
    (ho : ops[i]? = some ⟨some d, .call { callee := .value y, args := xs.toArray, argTypes := ts }, ty, pos, af, g⟩) (hg : gok e ops g = true) (hn : Nat.blt d n = true)
    (hy : ev e y = some (.func (.func gg) #[] cs.toArray)) (hfn : P.funcs[gg]? = some fn) (hb : fn.body = some c) (hnm : (fn.name == "runtime.NumGoroutine") = false) (hx : evs e xs = some vs) (hc : Calls P gg (vs ++ cs).toArray w R')
    (h : ∀ x w', R' x w' → ∃ v, x = .returned v ∧ Rn P f n R (.inRegion ops rest :: k) ((d, v) :: e) w') : Rn P f n R (.inRegion ops (i :: rest) :: k) e w :=
  Rn.opC (g := gg) (args := (vs ++ cs).toArray) ho hg rfl hn (fun a hf => by
    simp [execOp, resolve, ev_eval hf hy, Deferred.ofValue, invoke, run_callFunc hfn hb hnm, evs_map hf hx]) hc h
end
end Go.Wk
