/-
  Check sums: what the program's steps of four bits and the reference's single steps come to. Plain Lean.
-/
import Derived.Test.YtlfppodekihcmaaGreatDoorWh
set_option linter.unusedVariables false
set_option linter.unusedSimpArgs false
namespace Go.Wk
/-- One step, as the program has it. -/
def stepC (s : UInt32) : UInt32 := (s >>> 1) ^^^ (2197175160 &&& (0 - (s &&& 1)))
def stepN : Nat → UInt32 → UInt32
  | 0, s => s
  | k + 1, s => stepC (stepN k s)
def nib (i : UInt32) : UInt32 := stepN 4 i
def tbl (i : Nat) : List Value := (List.range 16).map fun j => if j < i then I32 (nib (UInt32.ofNat j)) else .int .u32 0
theorem tbl_set (i : Nat) (hi : i < 16) : (tbl i).set i (I32 (nib (UInt32.ofNat i))) = tbl (i + 1) := by
  unfold tbl
  apply List.ext_getElem?
  intro j
  rw [List.getElem?_set]
  by_cases hij : i = j
  · subst hij
    simp [hi]
  · simp only [hij, if_false, List.getElem?_map]
    cases hj : (List.range 16)[j]? with
    | none => rfl
    | some x =>
      have : x = j := by
        have := List.getElem?_range (n := 16) (i := j)
        rcases Nat.lt_or_ge j 16 with hh | hh
        · rw [List.getElem?_range hh] at hj; exact (Option.some.inj hj).symm
        · rw [List.getElem?_eq_none (by simpa using hh)] at hj; cases hj
      subst this
      simp only [Option.map_some]
      by_cases h1 : x < i
      · rw [if_pos h1, if_pos (by omega)]
      · rw [if_neg h1, if_neg (by omega)]
theorem tbl_one (i : Nat) : ∀ u ∈ tbl i, u.oneCell' = true := by
  intro u hu
  unfold tbl at hu
  obtain ⟨j, _, rfl⟩ := List.mem_map.1 hu
  split <;> rfl
theorem tbl_get (u : UInt32) : (tbl 16)[(u &&& 15).toNat]? = some (I32 (nib (u &&& 15))) ∧ (u &&& 15).toNat < 16 := by
  have h : (u &&& 15).toNat < 16 := by
    rw [UInt32.toNat_and]
    exact Nat.lt_of_le_of_lt Nat.and_le_right (by decide)
  refine ⟨?_, h⟩
  unfold tbl
  rw [List.getElem?_map, List.getElem?_range h]
  simp only [Option.map_some, h, if_true, UInt32.ofNat_toNat]
/-- A byte, as the program has it. -/
def byteC (s : UInt32) (c : UInt8) : UInt32 :=
  let a := s ^^^ c.toUInt32
  let b := (a >>> 4) ^^^ nib (a &&& 15)
  (b >>> 4) ^^^ nib (b &&& 15)
def moreC (s : UInt32) (b : List UInt8) : UInt32 := ~~~ (b.foldl byteC (~~~ s))
/-- One step, as the reference has it. -/
def stepR (s : UInt32) : UInt32 := if s % (2 : UInt32) = 1 then (s / (2 : UInt32)) ^^^ (2197175160 : UInt32) else s / (2 : UInt32)
def stepRN : Nat → UInt32 → UInt32
  | 0, s => s
  | k + 1, s => stepR (stepRN k s)
def byteR8 (s : UInt32) (c : UInt8) : UInt32 := stepRN 8 (s ^^^ c.toUInt32)
def moreR (s : UInt32) (b : List UInt8) : UInt32 := b.foldl byteR8 s
def ofR (b : List UInt8) : UInt32 := 4294967295 - moreR 4294967295 b

theorem stepC_eq (s : UInt32) : stepC s = stepR s := by
  unfold stepC stepR
  have h2 : s % (2 : UInt32) = s &&& 1 := by
    apply UInt32.toNat_inj.1
    rw [UInt32.toNat_and, UInt32.toNat_mod]
    exact (Nat.and_two_pow_sub_one_eq_mod s.toNat 1).symm
  have h3 : s / (2 : UInt32) = s >>> 1 := by
    apply UInt32.toNat_inj.1
    rw [UInt32.toNat_div, UInt32.toNat_shiftRight]
    rw [Nat.shiftRight_eq_div_pow]; rfl
  rw [h2, h3]
  have h1 : s &&& 1 = 0 ∨ s &&& 1 = 1 := by
    rw [← h2]
    have : (s % (2 : UInt32)).toNat < 2 := by rw [UInt32.toNat_mod]; exact Nat.mod_lt _ (by decide)
    rcases Nat.lt_or_ge (s % (2 : UInt32)).toNat 1 with h | h
    · left; apply UInt32.toNat_inj.1; show _ = 0; omega
    · right; apply UInt32.toNat_inj.1; show _ = 1; omega
  rcases h1 with h1 | h1
  · rw [h1]
    have : (2197175160 : UInt32) &&& (0 - 0) = 0 := by decide
    rw [this, if_neg (by decide)]
    simp
  · rw [h1]
    have : (2197175160 : UInt32) &&& (0 - 1) = 2197175160 := by decide
    rw [this, if_pos rfl]
theorem stepR_xor (a b : UInt32) : stepR (a ^^^ b) = stepR a ^^^ stepR b := by
  rw [← stepC_eq, ← stepC_eq, ← stepC_eq]
  unfold stepC
  have key : ∀ x y : UInt32, (2197175160 : UInt32) &&& (0 - ((x ^^^ y) &&& 1)) = (2197175160 &&& (0 - (x &&& 1))) ^^^ (2197175160 &&& (0 - (y &&& 1))) := by
    intro x y
    have h : ∀ z : UInt32, z &&& 1 = 0 ∨ z &&& 1 = 1 := by
      intro z
      have h2 : z &&& 1 = z % (2 : UInt32) := by
        apply UInt32.toNat_inj.1
        rw [UInt32.toNat_and, UInt32.toNat_mod]
        exact Nat.and_two_pow_sub_one_eq_mod z.toNat 1
      rw [h2]
      have : (z % (2 : UInt32)).toNat < 2 := by rw [UInt32.toNat_mod]; exact Nat.mod_lt _ (by decide)
      rcases Nat.lt_or_ge (z % (2 : UInt32)).toNat 1 with h | h
      · left; apply UInt32.toNat_inj.1; show _ = 0; omega
      · right; apply UInt32.toNat_inj.1; show _ = 1; omega
    have hd : (x ^^^ y) &&& 1 = (x &&& 1) ^^^ (y &&& 1) := by
      apply UInt32.toBitVec_inj.1
      simp only [UInt32.toBitVec_and, UInt32.toBitVec_xor]
      apply BitVec.eq_of_getLsbD_eq
      intro i hi
      simp only [BitVec.getLsbD_and, BitVec.getLsbD_xor]
      cases BitVec.getLsbD x.toBitVec i <;> cases BitVec.getLsbD y.toBitVec i <;> cases BitVec.getLsbD (UInt32.toBitVec 1) i <;> rfl
    rw [hd]
    rcases h x with h1 | h1 <;> rcases h y with h2 | h2 <;> rw [h1, h2] <;> decide
  rw [key]
  have hs : (a ^^^ b) >>> 1 = (a >>> 1) ^^^ (b >>> 1) := by
    apply UInt32.toBitVec_inj.1
    simp only [UInt32.toBitVec_xor, UInt32.toBitVec_shiftRight]
    exact BitVec.ushiftRight_xor_distrib _ _ _
  rw [hs]
  simp only [← UInt32.toBitVec_inj, UInt32.toBitVec_xor]
  generalize (a >>> 1).toBitVec = p
  generalize (b >>> 1).toBitVec = q
  generalize UInt32.toBitVec (2197175160 &&& (0 - (a &&& 1))) = r
  generalize UInt32.toBitVec (2197175160 &&& (0 - (b &&& 1))) = s
  apply BitVec.eq_of_getLsbD_eq
  intro i hi
  simp only [BitVec.getLsbD_xor]
  cases BitVec.getLsbD p i <;> cases BitVec.getLsbD q i <;> cases BitVec.getLsbD r i <;> cases BitVec.getLsbD s i <;> rfl
theorem stepRN_xor : ∀ (k : Nat) (a b : UInt32), stepRN k (a ^^^ b) = stepRN k a ^^^ stepRN k b
  | 0, _, _ => rfl
  | k + 1, a, b => by simp only [stepRN, stepRN_xor k a b, stepR_xor]
theorem stepN_eq : ∀ (k : Nat) (s : UInt32), stepN k s = stepRN k s
  | 0, _ => rfl
  | k + 1, s => by simp only [stepN, stepRN, stepN_eq k s, stepC_eq]
theorem stepRN_add : ∀ (j k : Nat) (s : UInt32), stepRN (j + k) s = stepRN j (stepRN k s)
  | 0, k, s => by simp [stepRN]
  | j + 1, k, s => by
    have : j + 1 + k = (j + k) + 1 := by omega
    rw [this]; simp only [stepRN, stepRN_add j k s]
theorem stepR_even (s : UInt32) (h : s &&& 1 = 0) : stepR s = s >>> 1 := by
  rw [← stepC_eq]; unfold stepC; rw [h]
  have : (2197175160 : UInt32) &&& (0 - 0) = 0 := by decide
  rw [this]; simp
theorem four_steps (s : UInt32) : stepRN 4 s = (s >>> 4) ^^^ nib (s &&& 15) := by
  have hs : s = (s &&& 4294967280) ^^^ (s &&& 15) := by
    apply UInt32.toBitVec_inj.1
    simp only [UInt32.toBitVec_xor, UInt32.toBitVec_and]
    have h1 : (4294967280 : UInt32).toBitVec = ~~~ (15 : UInt32).toBitVec := by decide
    rw [h1]
    apply BitVec.eq_of_getLsbD_eq
    intro i hi
    simp only [BitVec.getLsbD_xor, BitVec.getLsbD_and, BitVec.getLsbD_not, hi, decide_true, Bool.true_and]
    cases BitVec.getLsbD s.toBitVec i <;> cases BitVec.getLsbD (UInt32.toBitVec 15) i <;> rfl
  have hlow : ∀ (m : Nat), m < 4 → ((s &&& 4294967280) >>> UInt32.ofNat m) &&& 1 = 0 := by
    intro m hm
    apply UInt32.toBitVec_inj.1
    simp only [UInt32.toBitVec_and, UInt32.toBitVec_shiftRight]
    apply BitVec.eq_of_getLsbD_eq
    intro i hi
    have hmm : (UInt32.toBitVec (UInt32.ofNat m) % 32).toNat = m := by
      have : m = 0 ∨ m = 1 ∨ m = 2 ∨ m = 3 := by omega
      rcases this with rfl | rfl | rfl | rfl <;> decide
    simp only [BitVec.getLsbD_and, BitVec.ushiftRight_eq', BitVec.getLsbD_ushiftRight, hmm]
    by_cases h0 : i = 0
    · subst h0
      have : BitVec.getLsbD (UInt32.toBitVec 4294967280) (m + 0) = false := by
        have : m = 0 ∨ m = 1 ∨ m = 2 ∨ m = 3 := by omega
        rcases this with rfl | rfl | rfl | rfl <;> decide
      rw [this]; simp
    · have : BitVec.getLsbD (UInt32.toBitVec 1) i = false := by
        have h1 : (UInt32.toBitVec 1) = 1#32 := by decide
        rw [h1, BitVec.getLsbD_one]; simp [h0]
      rw [this]; simp
  have shift : ∀ (a : UInt32) (m : Nat), m < 31 → (a >>> UInt32.ofNat m) >>> 1 = a >>> UInt32.ofNat (m + 1) := by
    intro a m hm
    apply UInt32.toNat_inj.1
    rw [UInt32.toNat_shiftRight, UInt32.toNat_shiftRight, UInt32.toNat_shiftRight]
    have h1 : (UInt32.ofNat m).toNat % 32 = m := by rw [UInt32.toNat_ofNat']; omega
    have h2 : (UInt32.ofNat (m + 1)).toNat % 32 = m + 1 := by rw [UInt32.toNat_ofNat']; omega
    have h3 : (1 : UInt32).toNat % 32 = 1 := by decide
    rw [h1, h2, h3, ← Nat.shiftRight_add]
  have e0 : (s &&& 4294967280) = (s &&& 4294967280) >>> UInt32.ofNat 0 := by
    apply UInt32.toNat_inj.1; rw [UInt32.toNat_shiftRight]; rfl
  have h4 : stepRN 4 (s &&& 4294967280) = (s &&& 4294967280) >>> 4 := by
    simp only [stepRN]
    have s1 := shift (s &&& 4294967280) 1 (by omega)
    have s2 := shift (s &&& 4294967280) 2 (by omega)
    have s3 := shift (s &&& 4294967280) 3 (by omega)
    have t0 : stepR (s &&& 4294967280) = (s &&& 4294967280) >>> UInt32.ofNat 1 := stepR_even _ (by rw [e0]; exact hlow 0 (by omega))
    have t1 : stepR ((s &&& 4294967280) >>> UInt32.ofNat 1) = (s &&& 4294967280) >>> UInt32.ofNat 2 := (stepR_even _ (hlow 1 (by omega))).trans s1
    have t2 : stepR ((s &&& 4294967280) >>> UInt32.ofNat 2) = (s &&& 4294967280) >>> UInt32.ofNat 3 := (stepR_even _ (hlow 2 (by omega))).trans s2
    have t3 : stepR ((s &&& 4294967280) >>> UInt32.ofNat 3) = (s &&& 4294967280) >>> UInt32.ofNat 4 := (stepR_even _ (hlow 3 (by omega))).trans s3
    rw [t0, t1, t2, t3]
    rfl
  have h5 : (s &&& 4294967280) >>> 4 = s >>> 4 := by
    apply UInt32.toBitVec_inj.1
    simp only [UInt32.toBitVec_and, UInt32.toBitVec_shiftRight]
    apply BitVec.eq_of_getLsbD_eq
    intro i hi
    have hmm : (UInt32.toBitVec 4 % 32).toNat = 4 := by decide
    simp only [BitVec.ushiftRight_eq', BitVec.getLsbD_ushiftRight, BitVec.getLsbD_and, hmm]
    by_cases h : 4 + i < 32
    · have : BitVec.getLsbD (UInt32.toBitVec 4294967280) (4 + i) = true := by
        have hx : ∀ j, j < 28 → BitVec.getLsbD (UInt32.toBitVec 4294967280) (4 + j) = true := by decide
        exact hx i (by omega)
      rw [this]; simp
    · rw [BitVec.getLsbD_of_ge _ _ (by omega)]; simp
  have h6 : stepRN 4 s = stepRN 4 (s &&& 4294967280) ^^^ stepRN 4 (s &&& 15) := by
    rw [← stepRN_xor, ← hs]
  rw [h6, h4, h5, nib, stepN_eq]
theorem byteC_eq (s : UInt32) (c : UInt8) : byteC s c = byteR8 s c := by
  unfold byteC byteR8
  simp only
  rw [← four_steps, ← four_steps, ← stepRN_add]
theorem foldl_byteC (b : List UInt8) : ∀ s, b.foldl byteC s = b.foldl byteR8 s := by
  induction b with
  | nil => intro s; rfl
  | cons c b ih => intro s; rw [List.foldl_cons, List.foldl_cons, byteC_eq, ih]
theorem not_eq_sub (x : UInt32) : ~~~ x = 4294967295 - x := by
  apply UInt32.toNat_inj.1
  rw [UInt32.toNat_not, UInt32.toNat_sub]
  have := x.toNat_lt
  have h : (4294967295 : UInt32).toNat = 4294967295 := by decide
  rw [h]
  simp [UInt32.size]
  omega
theorem moreC_zero (b : List UInt8) : moreC 0 b = ofR b := by
  unfold moreC ofR moreR
  rw [foldl_byteC, not_eq_sub]
  rfl
theorem moreC_append (s : UInt32) (a b : List UInt8) : moreC (moreC s a) b = moreC s (a ++ b) := by
  unfold moreC
  rw [UInt32.not_not, List.foldl_append]
end Go.Wk
