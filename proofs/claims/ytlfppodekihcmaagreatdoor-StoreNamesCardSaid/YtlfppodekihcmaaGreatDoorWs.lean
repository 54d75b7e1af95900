/-
  Words for the operations of numbers that plain forms use: shifts by what is not known, bits of bytes and of signed numbers, remainders. Plain laws over any program.
-/
import Derived.Test.YtlfppodekihcmaaGreatDoorWr
set_option linter.unusedVariables false
set_option linter.unusedSimpArgs false
namespace Go.Wk
open Go Go.RowKit
def natI (z : Int) : Option Nat := if z < 0 then none else some z.toNat
theorem natE {z : Int} {m : Nat} (h : natI z = some m) : z = (m : Int) := by
  unfold natI at h
  split at h
  · cases h
  · cases h; omega
def shlZ (x : Int) (n : Nat) : Int := W64 (x * 2 ^ (min n 64))
def shrZ (x : Int) (n : Nat) : Int := x.fdiv (2 ^ (min n 64))
def andZ (x y : Int) : Int := W64 ((BitVec.ofInt 64 x &&& BitVec.ofInt 64 y).toNat : Int)
def orZ (x y : Int) : Int := W64 ((BitVec.ofInt 64 x ||| BitVec.ofInt 64 y).toNat : Int)
def xorZ (x y : Int) : Int := W64 ((BitVec.ofInt 64 x ^^^ BitVec.ofInt 64 y).toNat : Int)
def andNotZ (x y : Int) : Int := W64 ((BitVec.ofInt 64 x &&& ~~~ BitVec.ofInt 64 y).toNat : Int)
section
variable {P : Program} {n : Nat} {e : Env} {w : World} {dst : Option Nat} {ty : TypeId} {pos : String} {af : Array Edge} {g : Option (Nat × Bool)}
theorem V.shlZ {q : IntKind} {x y : Operand} {a : Int} {m : Nat} {t u : TypeId} (hx : ev e x = some (.int .i64 a)) (hy : ev e y = some (.int q (m : Nat))) : OpV P n e w ⟨dst, .binOp .shl t x y u, ty, pos, af, g⟩ (.int .i64 (shlZ a m)) w :=
  V.op2 hx hy (by rw [binOp_shl]; simp [Op.shift, IntKind.bits, Go.Wk.shlZ]; intro h; omega)
theorem V.shrZ {q : IntKind} {x y : Operand} {a : Int} {m : Nat} {t u : TypeId} (hx : ev e x = some (.int .i64 a)) (hy : ev e y = some (.int q (m : Nat))) : OpV P n e w ⟨dst, .binOp .shr t x y u, ty, pos, af, g⟩ (.int .i64 (shrZ a m)) w :=
  V.op2 hx hy (by rw [binOp_shr]; simp [Op.shift, IntKind.bits, Go.Wk.shrZ]; intro h; omega)
theorem V.andZ {x y : Operand} {a b : Int} {t u : TypeId} (hx : ev e x = some (.int .i64 a)) (hy : ev e y = some (.int .i64 b)) : OpV P n e w ⟨dst, .binOp .and t x y u, ty, pos, af, g⟩ (.int .i64 (andZ a b)) w := V.op2 hx hy (by rw [binOp_and, intBits_and]; rfl)
theorem V.orZ {x y : Operand} {a b : Int} {t u : TypeId} (hx : ev e x = some (.int .i64 a)) (hy : ev e y = some (.int .i64 b)) : OpV P n e w ⟨dst, .binOp .or t x y u, ty, pos, af, g⟩ (.int .i64 (orZ a b)) w := V.op2 hx hy (by rw [binOp_or, intBits_or]; rfl)
theorem V.xorZ {x y : Operand} {a b : Int} {t u : TypeId} (hx : ev e x = some (.int .i64 a)) (hy : ev e y = some (.int .i64 b)) : OpV P n e w ⟨dst, .binOp .xor t x y u, ty, pos, af, g⟩ (.int .i64 (xorZ a b)) w := V.op2 hx hy (by rw [binOp_xor, intBits_xor]; rfl)
def shl8 (a : UInt8) (n : Nat) : UInt8 := if n < 8 then a <<< UInt8.ofNat n else 0
def shr8 (a : UInt8) (n : Nat) : UInt8 := if n < 8 then a >>> UInt8.ofNat n else 0
theorem V.shl8 {q : IntKind} {x y : Operand} {a : UInt8} {m : Nat} {t u : TypeId} (hx : ev e x = some (.int .u8 a.toNat)) (hy : ev e y = some (.int q (m : Nat))) : OpV P n e w ⟨dst, .binOp .shl t x y u, ty, pos, af, g⟩ (.int .u8 ((shl8 a m).toNat : Nat)) w := by
  refine V.op2 hx hy ?_
  rw [binOp_shl]
  have h : ¬ ((m : Int) < 0) := by omega
  simp only [Op.shift, h, if_false, IntKind.bits]
  congr 2
  unfold Go.Wk.shl8
  by_cases hm : m < 8
  · rw [if_pos hm, UInt8.toNat_shiftLeft]
    have h2 : (UInt8.ofNat m).toNat % 8 = m := by rw [UInt8.toNat_ofNat']; omega
    have h3 : min (m : Int).toNat 8 = m := by omega
    rw [h2, h3, Nat.shiftLeft_eq]
    simp [IntKind.wrap, IntKind.signed, IntKind.bits]
  · rw [if_neg hm]
    have h3 : min (m : Int).toNat 8 = 8 := by omega
    rw [h3]
    simp [IntKind.wrap, IntKind.signed, IntKind.bits]
theorem V.shr8 {q : IntKind} {x y : Operand} {a : UInt8} {m : Nat} {t u : TypeId} (hx : ev e x = some (.int .u8 a.toNat)) (hy : ev e y = some (.int q (m : Nat))) : OpV P n e w ⟨dst, .binOp .shr t x y u, ty, pos, af, g⟩ (.int .u8 ((shr8 a m).toNat : Nat)) w := by
  refine V.op2 hx hy ?_
  rw [binOp_shr]
  have h : ¬ ((m : Int) < 0) := by omega
  simp only [Op.shift, h, if_false, IntKind.bits]
  congr 2
  unfold Go.Wk.shr8
  by_cases hm : m < 8
  · rw [if_pos hm, UInt8.toNat_shiftRight]
    have h2 : (UInt8.ofNat m).toNat % 8 = m := by rw [UInt8.toNat_ofNat']; omega
    have h3 : min (m : Int).toNat 8 = m := by omega
    rw [h2, h3, Nat.shiftRight_eq_div_pow, Int.fdiv_eq_ediv_of_nonneg _ (by exact Int.pow_nonneg (by decide))]
    simp
  · rw [if_neg hm]
    have h3 : min (m : Int).toNat 8 = 8 := by omega
    have := a.toNat_lt
    rw [h3, Int.fdiv_eq_ediv_of_nonneg _ (by decide), Int.ediv_eq_zero_of_lt (by omega) (by omega)]
    rfl
def quo8 (a b : UInt8) : Option UInt8 := if b = 0 then none else some (a / b)
def rem8 (a b : UInt8) : Option UInt8 := if b = 0 then none else some (a % b)
theorem V.rem8 {x y : Operand} {a b c : UInt8} {t u : TypeId} (hx : ev e x = some (.int .u8 a.toNat)) (hy : ev e y = some (.int .u8 b.toNat)) (h : rem8 a b = some c) : OpV P n e w ⟨dst, .binOp .rem t x y u, ty, pos, af, g⟩ (.int .u8 (c.toNat : Nat)) w := fun q hf => by
  unfold Go.Wk.rem8 at h
  split at h
  · cases h
  · rename_i hb
    cases h
    have hb' : b.toNat ≠ 0 := fun hh => hb (UInt8.toNat_inj.1 hh)
    have hb2 : (b.toNat : Int) ≠ 0 := by omega
    have hb3 : ((b.toNat : Int) == 0) = false := by simpa using hb2
    have h1 : (a.toNat : Int).tmod b.toNat = ((a % b).toNat : Int) := by rw [← Int.ofNat_tmod, UInt8.toNat_mod]
    simp only [execOp, ev_eval hf hx, ev_eval hf hy, eqGuard_rem, binOp_rem, Op.intDiv, hb3, h1]
    simp [hb']
theorem V.quo8 {x y : Operand} {a b c : UInt8} {t u : TypeId} (hx : ev e x = some (.int .u8 a.toNat)) (hy : ev e y = some (.int .u8 b.toNat)) (h : quo8 a b = some c) : OpV P n e w ⟨dst, .binOp .quo t x y u, ty, pos, af, g⟩ (.int .u8 (c.toNat : Nat)) w := fun q hf => by
  unfold Go.Wk.quo8 at h
  split at h
  · cases h
  · rename_i hb
    cases h
    have hb' : b.toNat ≠ 0 := fun hh => hb (UInt8.toNat_inj.1 hh)
    have hb2 : (b.toNat : Int) ≠ 0 := by omega
    have hb3 : ((b.toNat : Int) == 0) = false := by simpa using hb2
    have h1 : IntKind.u8.wrap ((a.toNat : Int).tdiv b.toNat) = ((a / b).toNat : Int) := by
      rw [← Int.ofNat_tdiv, UInt8.toNat_div]
      have := Nat.div_le_self a.toNat b.toNat
      have := a.toNat_lt
      have h5 : 0 ≤ (a.toNat : Int) / (b.toNat : Int) := Int.ediv_nonneg (by omega) (by omega)
      simp [IntKind.wrap, IntKind.signed, IntKind.bits]
      omega
    simp only [execOp, ev_eval hf hx, ev_eval hf hy, eqGuard_quo, binOp_quo, Op.intDiv, hb3, h1]
    simp [hb']
theorem V.and8 {x y : Operand} {a b : UInt8} {t u : TypeId} (hx : ev e x = some (.int .u8 a.toNat)) (hy : ev e y = some (.int .u8 b.toNat)) : OpV P n e w ⟨dst, .binOp .and t x y u, ty, pos, af, g⟩ (.int .u8 ((a &&& b).toNat : Nat)) w := by
  refine V.op2 hx hy ?_
  rw [binOp_and, intBits_and]; congr 2
  have h1 : BitVec.ofInt 8 (a.toNat : Int) = a.toBitVec := by apply BitVec.eq_of_toNat_eq; simp
  have h2 : BitVec.ofInt 8 (b.toNat : Int) = b.toBitVec := by apply BitVec.eq_of_toNat_eq; simp
  show IntKind.u8.wrap ((BitVec.ofInt 8 (a.toNat : Int) &&& BitVec.ofInt 8 (b.toNat : Int)).toNat : Int) = _
  rw [h1, h2]
  have := (a.toBitVec &&& b.toBitVec).isLt
  simp only [IntKind.wrap, IntKind.signed, IntKind.bits, Bool.false_and, Bool.false_eq_true, if_false]
  have h3 : ((a.toBitVec &&& b.toBitVec).toNat : Int) % 2 ^ 8 = ((a.toBitVec &&& b.toBitVec).toNat : Int) := by omega
  rw [h3]; simp
theorem V.or8 {x y : Operand} {a b : UInt8} {t u : TypeId} (hx : ev e x = some (.int .u8 a.toNat)) (hy : ev e y = some (.int .u8 b.toNat)) : OpV P n e w ⟨dst, .binOp .or t x y u, ty, pos, af, g⟩ (.int .u8 ((a ||| b).toNat : Nat)) w := by
  refine V.op2 hx hy ?_
  rw [binOp_or, intBits_or]; congr 2
  have h1 : BitVec.ofInt 8 (a.toNat : Int) = a.toBitVec := by apply BitVec.eq_of_toNat_eq; simp
  have h2 : BitVec.ofInt 8 (b.toNat : Int) = b.toBitVec := by apply BitVec.eq_of_toNat_eq; simp
  show IntKind.u8.wrap ((BitVec.ofInt 8 (a.toNat : Int) ||| BitVec.ofInt 8 (b.toNat : Int)).toNat : Int) = _
  rw [h1, h2]
  have := (a.toBitVec ||| b.toBitVec).isLt
  simp only [IntKind.wrap, IntKind.signed, IntKind.bits, Bool.false_and, Bool.false_eq_true, if_false]
  have h3 : ((a.toBitVec ||| b.toBitVec).toNat : Int) % 2 ^ 8 = ((a.toBitVec ||| b.toBitVec).toNat : Int) := by omega
  rw [h3]; simp
theorem V.xor8 {x y : Operand} {a b : UInt8} {t u : TypeId} (hx : ev e x = some (.int .u8 a.toNat)) (hy : ev e y = some (.int .u8 b.toNat)) : OpV P n e w ⟨dst, .binOp .xor t x y u, ty, pos, af, g⟩ (.int .u8 ((a ^^^ b).toNat : Nat)) w := by
  refine V.op2 hx hy ?_
  rw [binOp_xor, intBits_xor]; congr 2
  have h1 : BitVec.ofInt 8 (a.toNat : Int) = a.toBitVec := by apply BitVec.eq_of_toNat_eq; simp
  have h2 : BitVec.ofInt 8 (b.toNat : Int) = b.toBitVec := by apply BitVec.eq_of_toNat_eq; simp
  show IntKind.u8.wrap ((BitVec.ofInt 8 (a.toNat : Int) ^^^ BitVec.ofInt 8 (b.toNat : Int)).toNat : Int) = _
  rw [h1, h2]
  have := (a.toBitVec ^^^ b.toBitVec).isLt
  simp only [IntKind.wrap, IntKind.signed, IntKind.bits, Bool.false_and, Bool.false_eq_true, if_false]
  have h3 : ((a.toBitVec ^^^ b.toBitVec).toNat : Int) % 2 ^ 8 = ((a.toBitVec ^^^ b.toBitVec).toNat : Int) := by omega
  rw [h3]; simp
theorem V.com8 {x : Operand} {a : UInt8} {t : TypeId} (hx : ev e x = some (.int .u8 a.toNat)) : OpV P n e w ⟨dst, .unOp .xor t x, ty, pos, af, g⟩ (.int .u8 ((~~~ a).toNat : Nat)) w := fun q hf => by
  have h1 : BitVec.ofInt 8 (a.toNat : Int) = a.toBitVec := by apply BitVec.eq_of_toNat_eq; simp
  have h0 : BitVec.ofInt 8 (IntKind.u8.max) = BitVec.allOnes 8 := by decide
  have h2 : (Op.intBits .xor .u8 (IntKind.u8.max) (a.toNat : Int)) = pure (.int .u8 ((~~~ a).toNat : Int)) := by
    rw [intBits_xor]; congr 2
    show IntKind.u8.wrap ((BitVec.ofInt 8 (IntKind.u8.max) ^^^ BitVec.ofInt 8 (a.toNat : Int)).toNat : Int) = _
    rw [h1, h0]
    have h4 : BitVec.allOnes 8 ^^^ a.toBitVec = ~~~ a.toBitVec := by rw [BitVec.not_def]
    rw [h4]
    have := (~~~ a.toBitVec).isLt
    simp only [IntKind.wrap, IntKind.signed, IntKind.bits, Bool.false_and, Bool.false_eq_true, if_false]
    have h3 : ((~~~ a.toBitVec).toNat : Int) % 2 ^ 8 = ((~~~ a.toBitVec).toNat : Int) := by omega
    rw [h3]
    rfl
  simp [execOp, ev_eval hf hx, Op.unary, IntKind.signed, h2]
theorem V.neg8U {x : Operand} {a : UInt8} {t : TypeId} (hx : ev e x = some (.int .u8 a.toNat)) : OpV P n e w ⟨dst, .unOp .neg t x, ty, pos, af, g⟩ (.int .u8 ((0 - a).toNat : Nat)) w := by
  have h1 : IntKind.u8.wrap (0 - (a.toNat : Int)) = ((0 - a).toNat : Int) := by
    rw [UInt8.toNat_sub]
    have := a.toNat_lt
    simp [IntKind.wrap, IntKind.signed, IntKind.bits]
    omega
  rw [← h1]; exact V.negI hx
def shl32 (a : UInt32) (n : Nat) : UInt32 := if n < 32 then a <<< UInt32.ofNat n else 0
def shr32 (a : UInt32) (n : Nat) : UInt32 := if n < 32 then a >>> UInt32.ofNat n else 0
theorem V.shl32 {q : IntKind} {x y : Operand} {a : UInt32} {m : Nat} {t u : TypeId} (hx : ev e x = some (.int .u32 a.toNat)) (hy : ev e y = some (.int q (m : Nat))) : OpV P n e w ⟨dst, .binOp .shl t x y u, ty, pos, af, g⟩ (.int .u32 ((shl32 a m).toNat : Nat)) w := by
  refine V.op2 hx hy ?_
  rw [binOp_shl]
  have h : ¬ ((m : Int) < 0) := by omega
  simp only [Op.shift, h, if_false, IntKind.bits]
  congr 2
  unfold Go.Wk.shl32
  by_cases hm : m < 32
  · rw [if_pos hm, UInt32.toNat_shiftLeft]
    have h2 : (UInt32.ofNat m).toNat % 32 = m := by rw [UInt32.toNat_ofNat']; omega
    have h3 : min (m : Int).toNat 32 = m := by omega
    rw [h2, h3, Nat.shiftLeft_eq]
    simp [IntKind.wrap, IntKind.signed, IntKind.bits]
  · rw [if_neg hm]
    have h3 : min (m : Int).toNat 32 = 32 := by omega
    rw [h3]
    simp [IntKind.wrap, IntKind.signed, IntKind.bits]
theorem V.shr32 {q : IntKind} {x y : Operand} {a : UInt32} {m : Nat} {t u : TypeId} (hx : ev e x = some (.int .u32 a.toNat)) (hy : ev e y = some (.int q (m : Nat))) : OpV P n e w ⟨dst, .binOp .shr t x y u, ty, pos, af, g⟩ (.int .u32 ((shr32 a m).toNat : Nat)) w := by
  refine V.op2 hx hy ?_
  rw [binOp_shr]
  have h : ¬ ((m : Int) < 0) := by omega
  simp only [Op.shift, h, if_false, IntKind.bits]
  congr 2
  unfold Go.Wk.shr32
  by_cases hm : m < 32
  · rw [if_pos hm, UInt32.toNat_shiftRight]
    have h2 : (UInt32.ofNat m).toNat % 32 = m := by rw [UInt32.toNat_ofNat']; omega
    have h3 : min (m : Int).toNat 32 = m := by omega
    rw [h2, h3, Nat.shiftRight_eq_div_pow, Int.fdiv_eq_ediv_of_nonneg _ (by exact Int.pow_nonneg (by decide))]
    simp
  · rw [if_neg hm]
    have h3 : min (m : Int).toNat 32 = 32 := by omega
    have := a.toNat_lt
    rw [h3, Int.fdiv_eq_ediv_of_nonneg _ (by decide), Int.ediv_eq_zero_of_lt (by omega) (by omega)]
    rfl
def quo32 (a b : UInt32) : Option UInt32 := if b = 0 then none else some (a / b)
def rem32 (a b : UInt32) : Option UInt32 := if b = 0 then none else some (a % b)
theorem V.rem32 {x y : Operand} {a b c : UInt32} {t u : TypeId} (hx : ev e x = some (.int .u32 a.toNat)) (hy : ev e y = some (.int .u32 b.toNat)) (h : rem32 a b = some c) : OpV P n e w ⟨dst, .binOp .rem t x y u, ty, pos, af, g⟩ (.int .u32 (c.toNat : Nat)) w := fun q hf => by
  unfold Go.Wk.rem32 at h
  split at h
  · cases h
  · rename_i hb
    cases h
    have hb' : b.toNat ≠ 0 := fun hh => hb (UInt32.toNat_inj.1 hh)
    have hb2 : (b.toNat : Int) ≠ 0 := by omega
    have hb3 : ((b.toNat : Int) == 0) = false := by simpa using hb2
    have h1 : (a.toNat : Int).tmod b.toNat = ((a % b).toNat : Int) := by rw [← Int.ofNat_tmod, UInt32.toNat_mod]
    simp only [execOp, ev_eval hf hx, ev_eval hf hy, eqGuard_rem, binOp_rem, Op.intDiv, hb3, h1]
    simp [hb']
theorem V.quo32 {x y : Operand} {a b c : UInt32} {t u : TypeId} (hx : ev e x = some (.int .u32 a.toNat)) (hy : ev e y = some (.int .u32 b.toNat)) (h : quo32 a b = some c) : OpV P n e w ⟨dst, .binOp .quo t x y u, ty, pos, af, g⟩ (.int .u32 (c.toNat : Nat)) w := fun q hf => by
  unfold Go.Wk.quo32 at h
  split at h
  · cases h
  · rename_i hb
    cases h
    have hb' : b.toNat ≠ 0 := fun hh => hb (UInt32.toNat_inj.1 hh)
    have hb2 : (b.toNat : Int) ≠ 0 := by omega
    have hb3 : ((b.toNat : Int) == 0) = false := by simpa using hb2
    have h1 : IntKind.u32.wrap ((a.toNat : Int).tdiv b.toNat) = ((a / b).toNat : Int) := by
      rw [← Int.ofNat_tdiv, UInt32.toNat_div]
      have := Nat.div_le_self a.toNat b.toNat
      have := a.toNat_lt
      have h5 : 0 ≤ (a.toNat : Int) / (b.toNat : Int) := Int.ediv_nonneg (by omega) (by omega)
      simp [IntKind.wrap, IntKind.signed, IntKind.bits]
      omega
    simp only [execOp, ev_eval hf hx, ev_eval hf hy, eqGuard_quo, binOp_quo, Op.intDiv, hb3, h1]
    simp [hb']
theorem V.and32 {x y : Operand} {a b : UInt32} {t u : TypeId} (hx : ev e x = some (.int .u32 a.toNat)) (hy : ev e y = some (.int .u32 b.toNat)) : OpV P n e w ⟨dst, .binOp .and t x y u, ty, pos, af, g⟩ (.int .u32 ((a &&& b).toNat : Nat)) w := by
  refine V.op2 hx hy ?_
  rw [binOp_and, intBits_and]; congr 2
  have h1 : BitVec.ofInt 32 (a.toNat : Int) = a.toBitVec := by apply BitVec.eq_of_toNat_eq; simp
  have h2 : BitVec.ofInt 32 (b.toNat : Int) = b.toBitVec := by apply BitVec.eq_of_toNat_eq; simp
  show IntKind.u32.wrap ((BitVec.ofInt 32 (a.toNat : Int) &&& BitVec.ofInt 32 (b.toNat : Int)).toNat : Int) = _
  rw [h1, h2]
  have := (a.toBitVec &&& b.toBitVec).isLt
  simp only [IntKind.wrap, IntKind.signed, IntKind.bits, Bool.false_and, Bool.false_eq_true, if_false]
  have h3 : ((a.toBitVec &&& b.toBitVec).toNat : Int) % 2 ^ 32 = ((a.toBitVec &&& b.toBitVec).toNat : Int) := by omega
  rw [h3]; simp
theorem V.or32 {x y : Operand} {a b : UInt32} {t u : TypeId} (hx : ev e x = some (.int .u32 a.toNat)) (hy : ev e y = some (.int .u32 b.toNat)) : OpV P n e w ⟨dst, .binOp .or t x y u, ty, pos, af, g⟩ (.int .u32 ((a ||| b).toNat : Nat)) w := by
  refine V.op2 hx hy ?_
  rw [binOp_or, intBits_or]; congr 2
  have h1 : BitVec.ofInt 32 (a.toNat : Int) = a.toBitVec := by apply BitVec.eq_of_toNat_eq; simp
  have h2 : BitVec.ofInt 32 (b.toNat : Int) = b.toBitVec := by apply BitVec.eq_of_toNat_eq; simp
  show IntKind.u32.wrap ((BitVec.ofInt 32 (a.toNat : Int) ||| BitVec.ofInt 32 (b.toNat : Int)).toNat : Int) = _
  rw [h1, h2]
  have := (a.toBitVec ||| b.toBitVec).isLt
  simp only [IntKind.wrap, IntKind.signed, IntKind.bits, Bool.false_and, Bool.false_eq_true, if_false]
  have h3 : ((a.toBitVec ||| b.toBitVec).toNat : Int) % 2 ^ 32 = ((a.toBitVec ||| b.toBitVec).toNat : Int) := by omega
  rw [h3]; simp
theorem V.xor32 {x y : Operand} {a b : UInt32} {t u : TypeId} (hx : ev e x = some (.int .u32 a.toNat)) (hy : ev e y = some (.int .u32 b.toNat)) : OpV P n e w ⟨dst, .binOp .xor t x y u, ty, pos, af, g⟩ (.int .u32 ((a ^^^ b).toNat : Nat)) w := by
  refine V.op2 hx hy ?_
  rw [binOp_xor, intBits_xor]; congr 2
  have h1 : BitVec.ofInt 32 (a.toNat : Int) = a.toBitVec := by apply BitVec.eq_of_toNat_eq; simp
  have h2 : BitVec.ofInt 32 (b.toNat : Int) = b.toBitVec := by apply BitVec.eq_of_toNat_eq; simp
  show IntKind.u32.wrap ((BitVec.ofInt 32 (a.toNat : Int) ^^^ BitVec.ofInt 32 (b.toNat : Int)).toNat : Int) = _
  rw [h1, h2]
  have := (a.toBitVec ^^^ b.toBitVec).isLt
  simp only [IntKind.wrap, IntKind.signed, IntKind.bits, Bool.false_and, Bool.false_eq_true, if_false]
  have h3 : ((a.toBitVec ^^^ b.toBitVec).toNat : Int) % 2 ^ 32 = ((a.toBitVec ^^^ b.toBitVec).toNat : Int) := by omega
  rw [h3]; simp
theorem V.com32 {x : Operand} {a : UInt32} {t : TypeId} (hx : ev e x = some (.int .u32 a.toNat)) : OpV P n e w ⟨dst, .unOp .xor t x, ty, pos, af, g⟩ (.int .u32 ((~~~ a).toNat : Nat)) w := fun q hf => by
  have h1 : BitVec.ofInt 32 (a.toNat : Int) = a.toBitVec := by apply BitVec.eq_of_toNat_eq; simp
  have h0 : BitVec.ofInt 32 (IntKind.u32.max) = BitVec.allOnes 32 := by decide
  have h2 : (Op.intBits .xor .u32 (IntKind.u32.max) (a.toNat : Int)) = pure (.int .u32 ((~~~ a).toNat : Int)) := by
    rw [intBits_xor]; congr 2
    show IntKind.u32.wrap ((BitVec.ofInt 32 (IntKind.u32.max) ^^^ BitVec.ofInt 32 (a.toNat : Int)).toNat : Int) = _
    rw [h1, h0]
    have h4 : BitVec.allOnes 32 ^^^ a.toBitVec = ~~~ a.toBitVec := by rw [BitVec.not_def]
    rw [h4]
    have := (~~~ a.toBitVec).isLt
    simp only [IntKind.wrap, IntKind.signed, IntKind.bits, Bool.false_and, Bool.false_eq_true, if_false]
    have h3 : ((~~~ a.toBitVec).toNat : Int) % 2 ^ 32 = ((~~~ a.toBitVec).toNat : Int) := by omega
    rw [h3]
    rfl
  simp [execOp, ev_eval hf hx, Op.unary, IntKind.signed, h2]
theorem V.neg32U {x : Operand} {a : UInt32} {t : TypeId} (hx : ev e x = some (.int .u32 a.toNat)) : OpV P n e w ⟨dst, .unOp .neg t x, ty, pos, af, g⟩ (.int .u32 ((0 - a).toNat : Nat)) w := by
  have h1 : IntKind.u32.wrap (0 - (a.toNat : Int)) = ((0 - a).toNat : Int) := by
    rw [UInt32.toNat_sub]
    have := a.toNat_lt
    simp [IntKind.wrap, IntKind.signed, IntKind.bits]
    omega
  rw [← h1]; exact V.negI hx
def shl64 (a : UInt64) (n : Nat) : UInt64 := if n < 64 then a <<< UInt64.ofNat n else 0
def shr64 (a : UInt64) (n : Nat) : UInt64 := if n < 64 then a >>> UInt64.ofNat n else 0
theorem V.shl64 {q : IntKind} {x y : Operand} {a : UInt64} {m : Nat} {t u : TypeId} (hx : ev e x = some (.int .u64 a.toNat)) (hy : ev e y = some (.int q (m : Nat))) : OpV P n e w ⟨dst, .binOp .shl t x y u, ty, pos, af, g⟩ (.int .u64 ((shl64 a m).toNat : Nat)) w := by
  refine V.op2 hx hy ?_
  rw [binOp_shl]
  have h : ¬ ((m : Int) < 0) := by omega
  simp only [Op.shift, h, if_false, IntKind.bits]
  congr 2
  unfold Go.Wk.shl64
  by_cases hm : m < 64
  · rw [if_pos hm, UInt64.toNat_shiftLeft]
    have h2 : (UInt64.ofNat m).toNat % 64 = m := by rw [UInt64.toNat_ofNat']; omega
    have h3 : min (m : Int).toNat 64 = m := by omega
    rw [h2, h3, Nat.shiftLeft_eq]
    simp [IntKind.wrap, IntKind.signed, IntKind.bits]
  · rw [if_neg hm]
    have h3 : min (m : Int).toNat 64 = 64 := by omega
    rw [h3]
    simp [IntKind.wrap, IntKind.signed, IntKind.bits]
theorem V.shr64 {q : IntKind} {x y : Operand} {a : UInt64} {m : Nat} {t u : TypeId} (hx : ev e x = some (.int .u64 a.toNat)) (hy : ev e y = some (.int q (m : Nat))) : OpV P n e w ⟨dst, .binOp .shr t x y u, ty, pos, af, g⟩ (.int .u64 ((shr64 a m).toNat : Nat)) w := by
  refine V.op2 hx hy ?_
  rw [binOp_shr]
  have h : ¬ ((m : Int) < 0) := by omega
  simp only [Op.shift, h, if_false, IntKind.bits]
  congr 2
  unfold Go.Wk.shr64
  by_cases hm : m < 64
  · rw [if_pos hm, UInt64.toNat_shiftRight]
    have h2 : (UInt64.ofNat m).toNat % 64 = m := by rw [UInt64.toNat_ofNat']; omega
    have h3 : min (m : Int).toNat 64 = m := by omega
    rw [h2, h3, Nat.shiftRight_eq_div_pow, Int.fdiv_eq_ediv_of_nonneg _ (by exact Int.pow_nonneg (by decide))]
    simp
  · rw [if_neg hm]
    have h3 : min (m : Int).toNat 64 = 64 := by omega
    have := a.toNat_lt
    rw [h3, Int.fdiv_eq_ediv_of_nonneg _ (by decide), Int.ediv_eq_zero_of_lt (by omega) (by omega)]
    rfl
def quo64 (a b : UInt64) : Option UInt64 := if b = 0 then none else some (a / b)
def rem64 (a b : UInt64) : Option UInt64 := if b = 0 then none else some (a % b)
theorem V.rem64 {x y : Operand} {a b c : UInt64} {t u : TypeId} (hx : ev e x = some (.int .u64 a.toNat)) (hy : ev e y = some (.int .u64 b.toNat)) (h : rem64 a b = some c) : OpV P n e w ⟨dst, .binOp .rem t x y u, ty, pos, af, g⟩ (.int .u64 (c.toNat : Nat)) w := fun q hf => by
  unfold Go.Wk.rem64 at h
  split at h
  · cases h
  · rename_i hb
    cases h
    have hb' : b.toNat ≠ 0 := fun hh => hb (UInt64.toNat_inj.1 hh)
    have hb2 : (b.toNat : Int) ≠ 0 := by omega
    have hb3 : ((b.toNat : Int) == 0) = false := by simpa using hb2
    have h1 : (a.toNat : Int).tmod b.toNat = ((a % b).toNat : Int) := by rw [← Int.ofNat_tmod, UInt64.toNat_mod]
    simp only [execOp, ev_eval hf hx, ev_eval hf hy, eqGuard_rem, binOp_rem, Op.intDiv, hb3, h1]
    simp [hb']
theorem V.quo64 {x y : Operand} {a b c : UInt64} {t u : TypeId} (hx : ev e x = some (.int .u64 a.toNat)) (hy : ev e y = some (.int .u64 b.toNat)) (h : quo64 a b = some c) : OpV P n e w ⟨dst, .binOp .quo t x y u, ty, pos, af, g⟩ (.int .u64 (c.toNat : Nat)) w := fun q hf => by
  unfold Go.Wk.quo64 at h
  split at h
  · cases h
  · rename_i hb
    cases h
    have hb' : b.toNat ≠ 0 := fun hh => hb (UInt64.toNat_inj.1 hh)
    have hb2 : (b.toNat : Int) ≠ 0 := by omega
    have hb3 : ((b.toNat : Int) == 0) = false := by simpa using hb2
    have h1 : IntKind.u64.wrap ((a.toNat : Int).tdiv b.toNat) = ((a / b).toNat : Int) := by
      rw [← Int.ofNat_tdiv, UInt64.toNat_div]
      have := Nat.div_le_self a.toNat b.toNat
      have := a.toNat_lt
      have h5 : 0 ≤ (a.toNat : Int) / (b.toNat : Int) := Int.ediv_nonneg (by omega) (by omega)
      simp [IntKind.wrap, IntKind.signed, IntKind.bits]
      omega
    simp only [execOp, ev_eval hf hx, ev_eval hf hy, eqGuard_quo, binOp_quo, Op.intDiv, hb3, h1]
    simp [hb']
theorem V.and64 {x y : Operand} {a b : UInt64} {t u : TypeId} (hx : ev e x = some (.int .u64 a.toNat)) (hy : ev e y = some (.int .u64 b.toNat)) : OpV P n e w ⟨dst, .binOp .and t x y u, ty, pos, af, g⟩ (.int .u64 ((a &&& b).toNat : Nat)) w := by
  refine V.op2 hx hy ?_
  rw [binOp_and, intBits_and]; congr 2
  have h1 : BitVec.ofInt 64 (a.toNat : Int) = a.toBitVec := by apply BitVec.eq_of_toNat_eq; simp
  have h2 : BitVec.ofInt 64 (b.toNat : Int) = b.toBitVec := by apply BitVec.eq_of_toNat_eq; simp
  show IntKind.u64.wrap ((BitVec.ofInt 64 (a.toNat : Int) &&& BitVec.ofInt 64 (b.toNat : Int)).toNat : Int) = _
  rw [h1, h2]
  have := (a.toBitVec &&& b.toBitVec).isLt
  simp only [IntKind.wrap, IntKind.signed, IntKind.bits, Bool.false_and, Bool.false_eq_true, if_false]
  have h3 : ((a.toBitVec &&& b.toBitVec).toNat : Int) % 2 ^ 64 = ((a.toBitVec &&& b.toBitVec).toNat : Int) := by omega
  rw [h3]; simp
theorem V.or64 {x y : Operand} {a b : UInt64} {t u : TypeId} (hx : ev e x = some (.int .u64 a.toNat)) (hy : ev e y = some (.int .u64 b.toNat)) : OpV P n e w ⟨dst, .binOp .or t x y u, ty, pos, af, g⟩ (.int .u64 ((a ||| b).toNat : Nat)) w := by
  refine V.op2 hx hy ?_
  rw [binOp_or, intBits_or]; congr 2
  have h1 : BitVec.ofInt 64 (a.toNat : Int) = a.toBitVec := by apply BitVec.eq_of_toNat_eq; simp
  have h2 : BitVec.ofInt 64 (b.toNat : Int) = b.toBitVec := by apply BitVec.eq_of_toNat_eq; simp
  show IntKind.u64.wrap ((BitVec.ofInt 64 (a.toNat : Int) ||| BitVec.ofInt 64 (b.toNat : Int)).toNat : Int) = _
  rw [h1, h2]
  have := (a.toBitVec ||| b.toBitVec).isLt
  simp only [IntKind.wrap, IntKind.signed, IntKind.bits, Bool.false_and, Bool.false_eq_true, if_false]
  have h3 : ((a.toBitVec ||| b.toBitVec).toNat : Int) % 2 ^ 64 = ((a.toBitVec ||| b.toBitVec).toNat : Int) := by omega
  rw [h3]; simp
theorem V.xor64 {x y : Operand} {a b : UInt64} {t u : TypeId} (hx : ev e x = some (.int .u64 a.toNat)) (hy : ev e y = some (.int .u64 b.toNat)) : OpV P n e w ⟨dst, .binOp .xor t x y u, ty, pos, af, g⟩ (.int .u64 ((a ^^^ b).toNat : Nat)) w := by
  refine V.op2 hx hy ?_
  rw [binOp_xor, intBits_xor]; congr 2
  have h1 : BitVec.ofInt 64 (a.toNat : Int) = a.toBitVec := by apply BitVec.eq_of_toNat_eq; simp
  have h2 : BitVec.ofInt 64 (b.toNat : Int) = b.toBitVec := by apply BitVec.eq_of_toNat_eq; simp
  show IntKind.u64.wrap ((BitVec.ofInt 64 (a.toNat : Int) ^^^ BitVec.ofInt 64 (b.toNat : Int)).toNat : Int) = _
  rw [h1, h2]
  have := (a.toBitVec ^^^ b.toBitVec).isLt
  simp only [IntKind.wrap, IntKind.signed, IntKind.bits, Bool.false_and, Bool.false_eq_true, if_false]
  have h3 : ((a.toBitVec ^^^ b.toBitVec).toNat : Int) % 2 ^ 64 = ((a.toBitVec ^^^ b.toBitVec).toNat : Int) := by omega
  rw [h3]; simp
theorem V.com64 {x : Operand} {a : UInt64} {t : TypeId} (hx : ev e x = some (.int .u64 a.toNat)) : OpV P n e w ⟨dst, .unOp .xor t x, ty, pos, af, g⟩ (.int .u64 ((~~~ a).toNat : Nat)) w := fun q hf => by
  have h1 : BitVec.ofInt 64 (a.toNat : Int) = a.toBitVec := by apply BitVec.eq_of_toNat_eq; simp
  have h0 : BitVec.ofInt 64 (IntKind.u64.max) = BitVec.allOnes 64 := by decide
  have h2 : (Op.intBits .xor .u64 (IntKind.u64.max) (a.toNat : Int)) = pure (.int .u64 ((~~~ a).toNat : Int)) := by
    rw [intBits_xor]; congr 2
    show IntKind.u64.wrap ((BitVec.ofInt 64 (IntKind.u64.max) ^^^ BitVec.ofInt 64 (a.toNat : Int)).toNat : Int) = _
    rw [h1, h0]
    have h4 : BitVec.allOnes 64 ^^^ a.toBitVec = ~~~ a.toBitVec := by rw [BitVec.not_def]
    rw [h4]
    have := (~~~ a.toBitVec).isLt
    simp only [IntKind.wrap, IntKind.signed, IntKind.bits, Bool.false_and, Bool.false_eq_true, if_false]
    have h3 : ((~~~ a.toBitVec).toNat : Int) % 2 ^ 64 = ((~~~ a.toBitVec).toNat : Int) := by omega
    rw [h3]
    rfl
  simp [execOp, ev_eval hf hx, Op.unary, IntKind.signed, h2]
theorem V.neg64U {x : Operand} {a : UInt64} {t : TypeId} (hx : ev e x = some (.int .u64 a.toNat)) : OpV P n e w ⟨dst, .unOp .neg t x, ty, pos, af, g⟩ (.int .u64 ((0 - a).toNat : Nat)) w := by
  have h1 : IntKind.u64.wrap (0 - (a.toNat : Int)) = ((0 - a).toNat : Int) := by
    rw [UInt64.toNat_sub]
    have := a.toNat_lt
    simp [IntKind.wrap, IntKind.signed, IntKind.bits]
    omega
  rw [← h1]; exact V.negI hx
end
end Go.Wk
