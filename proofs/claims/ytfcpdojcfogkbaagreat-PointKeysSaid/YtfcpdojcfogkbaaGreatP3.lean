/-
  Package pack: signed numbers, fixed ones and texts are read as they were written; plain Lean.
-/
import Derived.Test.YtfcpdojcfogkbaaGreatP2
set_option linter.unusedVariables false
set_option linter.unusedSimpArgs false
namespace Go.Proofs.YtfcpdojcfogkbaaGreat
open Go Go.RowKit Go.Wk
abbrev okI (x : Int) : Prop := -9223372036854775808 ≤ x ∧ x ≤ 9223372036854775807
/-- A signed number as one that isn't. -/
def zig (x : Int) : UInt64 := UInt64.ofNat (if 0 ≤ x then 2 * x.toNat else 2 * (-1 - x).toNat + 1)
theorem zig_nat {x : Int} (h : okI x) : (zig x).toNat = if 0 ≤ x then 2 * x.toNat else 2 * (-1 - x).toNat + 1 := by
  unfold zig
  rw [UInt64.toNat_ofNat', Nat.mod_eq_of_lt]
  split <;> omega
theorem xor_all (y : Nat) (h : y < 18446744073709551616) : y ^^^ 18446744073709551615 = 18446744073709551615 - y := by
  have e := congrArg BitVec.toNat (BitVec.xor_allOnes (x := BitVec.ofNat 64 y))
  rw [BitVec.toNat_xor, BitVec.toNat_not, BitVec.toNat_ofNat, BitVec.toNat_allOnes, Nat.mod_eq_of_lt (by simpa using h)] at e
  simpa using e
theorem W64_big {z : Int} (h0 : 9223372036854775808 ≤ z) (h1 : z < 18446744073709551616) : W64 z = z - 18446744073709551616 := by
  unfold W64 IntKind.wrap
  simp [IntKind.signed, IntKind.bits]
  split <;> omega
theorem ofInt_nat (n : Nat) (h : n < 18446744073709551616) : (BitVec.ofInt 64 (n : Int)).toNat = n := by
  rw [BitVec.toNat_ofInt]; simp; omega
theorem ofInt_m1 : BitVec.ofInt 64 (-1) = BitVec.allOnes 64 := by decide
theorem xorZ_zero (n : Nat) (h : n < 9223372036854775808) : xorZ (n : Int) 0 = n := by
  unfold xorZ
  rw [BitVec.toNat_xor, ofInt_nat _ (by omega), show (0 : Int) = ((0 : Nat) : Int) from rfl, ofInt_nat _ (by omega), Nat.xor_zero, W64_id (by omega) (by omega)]
theorem xorZ_m1 (n : Nat) (h : n < 9223372036854775808) : xorZ (n : Int) (-1) = -1 - n := by
  unfold xorZ
  rw [BitVec.toNat_xor, ofInt_nat _ (by omega), ofInt_m1, BitVec.toNat_allOnes, show 2 ^ 64 - 1 = 18446744073709551615 by decide, xor_all _ (by omega), W64_big (by omega) (by omega)]
  omega
theorem zig_eq {x : Int} (h : okI x) : m_pack_Zig x = some (zig x) := by
  unfold m_pack_Zig
  congr 1
  apply UInt64.toNat_inj.1
  rw [zig_nat h, UInt64.toNat_xor]
  have e1 : (toU64 x <<< UInt64.ofNat 1).toNat = if 0 ≤ x then 2 * x.toNat else 18446744073709551616 - 2 * (-x).toNat := by
    rw [UInt64.toNat_shiftLeft]
    have : (UInt64.ofNat 1).toNat % 64 = 1 := by decide
    rw [this, Nat.shiftLeft_eq]
    simp only [toU64, UInt64.toNat_ofNat']
    split <;> omega
  have e2 : (toU64 (shrZ x 63)).toNat = if 0 ≤ x then 0 else 18446744073709551615 := by
    have : shrZ x 63 = if 0 ≤ x then 0 else -1 := by
      unfold shrZ
      rw [show min 63 64 = 63 by decide, Int.fdiv_eq_ediv_of_nonneg _ (by decide)]
      split <;> omega
    rw [this]
    split <;> rfl
  rw [e1, e2]
  by_cases h0 : 0 ≤ x
  · rw [if_pos h0, if_pos h0, if_pos h0, Nat.xor_zero]
  · rw [if_neg h0, if_neg h0, if_neg h0]
    rw [xor_all _ (by omega)]; omega
theorem zag_zig {x : Int} (h : okI x) : m_pack_Zag (zig x) = some x := by
  unfold m_pack_Zag
  have e1 : ((zig x) >>> UInt64.ofNat 1).toNat = if 0 ≤ x then x.toNat else (-1 - x).toNat := by
    rw [UInt64.toNat_shiftRight]
    have : (UInt64.ofNat 1).toNat % 64 = 1 := by decide
    rw [this, Nat.shiftRight_eq_div_pow, zig_nat h]
    split <;> omega
  have e2 : ((zig x) &&& (1 : UInt64)).toNat = if 0 ≤ x then 0 else 1 := by
    rw [UInt64.toNat_and, show (1 : UInt64).toNat = 1 from rfl, Nat.and_one_is_mod, zig_nat h]
    split <;> omega
  rw [e1, e2]
  by_cases h0 : 0 ≤ x
  · rw [if_pos h0, if_pos h0, W64_id (z := ((x.toNat : Nat) : Int)) (by omega) (by omega)]
    rw [show IntKind.i64.wrap (0 - W64 ((0 : Nat) : Int)) = 0 by decide, xorZ_zero _ (by omega)]; congr 1; omega
  · rw [if_neg h0, if_neg h0, W64_id (z := (((-1 - x).toNat : Nat) : Int)) (by omega) (by omega)]
    rw [show IntKind.i64.wrap (0 - W64 ((1 : Nat) : Int)) = -1 by decide, xorZ_m1 _ (by omega)]; congr 1; omega
/-- What is written of a signed number. -/
theorem wint_eq (b : List UInt8) {x : Int} (hx : okI x) (h : b.length ≤ 1000000000) : m_pack_Writer_Int ⟨b⟩ x = some ⟨b ++ enc (zig x)⟩ := by
  unfold m_pack_Writer_Int; rw [zig_eq hx, bndS, wnum_eq _ _ h, bndS]
theorem rint_eq (pre post : List UInt8) {x : Int} (hx : okI x) {b : List UInt8} {at_ : Int} (hb : b = pre ++ (enc (zig x) ++ post)) (ha : at_ = pre.length) (hl : b.length ≤ 1000000000) : m_pack_Reader_Int ⟨b, at_, 0⟩ = some (x, ⟨b, ((pre ++ enc (zig x)).length : Nat), 0⟩) := by
  unfold m_pack_Reader_Int; rw [rnum_eq pre post _ hb ha hl, bndS, zag_zig hx, bndS]
theorem rcount_eq (pre post : List UInt8) (n most : Nat) {b : List UInt8} {at_ : Int} (hb : b = pre ++ (enc (UInt64.ofNat n) ++ post)) (ha : at_ = pre.length) (hl : b.length ≤ 1000000000) (hn : n ≤ most) (hm : most < 9223372036854775808) : m_pack_Reader_Count ⟨b, at_, 0⟩ (most : Int) = some ((n : Int), ⟨b, ((pre ++ enc (UInt64.ofNat n)).length : Nat), 0⟩) := by
  unfold m_pack_Reader_Count
  have e : (UInt64.ofNat n).toNat = n := by simp [UInt64.toNat_ofNat']; omega
  have e2 : (toU64 (most : Int)).toNat = most := by simp [toU64, UInt64.toNat_ofNat']; omega
  rw [rnum_eq pre post _ hb ha hl, bndS, if_neg, W64_id (by dsimp only; omega) (by dsimp only; omega)]
  · dsimp only; rw [e]
  · dsimp only; rw [e, e2]; omega
theorem clone_eq (l : List UInt8) (h : l.length ≤ 1073741824) : m_bytes_Clone l = some l := by unfold m_bytes_Clone; rw [app_some (by simpa using h)]; rfl
theorem raw_eq (pre s post : List UInt8) {b : List UInt8} {at_ : Int} (hb : b = pre ++ (s ++ post)) (ha : at_ = pre.length) (hl : b.length ≤ 1000000000) : m_pack_Reader_Raw ⟨b, at_, 0⟩ (s.length : Int) = some (s, ⟨b, ((pre ++ s).length : Nat), 0⟩) := by
  subst ha
  have hlen := congrArg List.length hb
  simp only [List.length_append] at hlen
  unfold m_pack_Reader_Raw
  dsimp only
  rw [if_neg (by omega), if_neg (by omega), left_eq _ _ _ (by omega) hl, bndS, if_neg (by omega)]
  rw [W64_id (z := (pre.length : Int) + s.length) (by omega) (by omega), W64_id (by omega) (by omega)]
  have hcut : cutL b ((pre.length : Int) + s.length - s.length) ((pre.length : Int) + s.length) = some s := by
    rw [cut_some (by omega) (by omega) (by omega)]
    congr 1
    have e1 : ((pre.length : Int) + s.length).toNat = (pre ++ s).length := by rw [List.length_append]; omega
    have e2 : ((pre.length : Int) + s.length - s.length).toNat = pre.length := by omega
    rw [e1, e2, hb, ← List.append_assoc, List.take_left, List.drop_left]
  rw [hcut, bndS, clone_eq _ (by omega), bndS]
  simp
/-- What is written of a text. -/
def encT (s : List UInt8) : List UInt8 := enc (UInt64.ofNat s.length) ++ s
theorem wtext_eq (b s : List UInt8) (h : b.length ≤ 1000000000) (hs : s.length ≤ 10000000) : m_pack_Writer_Text ⟨b⟩ s = some ⟨b ++ encT s⟩ := by
  unfold m_pack_Writer_Text
  have e : toU64 (s.length : Int) = UInt64.ofNat s.length := by unfold toU64; congr 1; omega
  have := enc_len_le (UInt64.ofNat s.length)
  rw [e, wnum_eq _ _ h, bndS, app_some (by simp; omega), bndS]; simp [encT]
theorem rtext_eq (pre s post : List UInt8) (most : Nat) {b : List UInt8} {at_ : Int} (hb : b = pre ++ (encT s ++ post)) (ha : at_ = pre.length) (hl : b.length ≤ 1000000000) (hs : s.length ≤ most) (hm : most < 9223372036854775808) : m_pack_Reader_Text ⟨b, at_, 0⟩ (most : Int) = some (s, ⟨b, ((pre ++ encT s).length : Nat), 0⟩) := by
  unfold m_pack_Reader_Text
  rw [rcount_eq pre (s ++ post) s.length most (by rw [hb, encT]; simp) ha hl hs hm, bndS, raw_eq (pre ++ enc (UInt64.ofNat s.length)) s post (by rw [hb, encT]; simp) rfl hl, bndS, jn_eq]
  dsimp only
  rw [if_neg (by omega)]; simp [encT]
/-- A fixed number's bytes, the least first. -/
def fix (n : Nat) : Nat → List UInt8
  | 0 => []
  | k + 1 => UInt8.ofNat (n % 256) :: fix (n / 256) k
def encF (v : UInt64) : List UInt8 := fix v.toNat 8
theorem fix_len (n k : Nat) : (fix n k).length = k := by
  induction k generalizing n with
  | zero => rfl
  | succ k ih => simp [fix, ih]
theorem wfixL (x : UInt64) (j : T_pack_Writer → Option T_pack_Writer) : ∀ (k i n : Nat) (b : List UInt8), k < n → k + i = 8 → b.length ≤ 1073741824 - k → m_pack_Writer_Fix_L1 x j n (i : Int) ⟨b⟩ = j ⟨b ++ fix (x.toNat / 256 ^ i) k⟩
  | 0, i, n, b, hn, hk, _ => by
    obtain ⟨n, rfl⟩ : ∃ m, n = m + 1 := ⟨n - 1, by omega⟩
    rw [m_pack_Writer_Fix_L1, if_neg (by omega)]; simp [fix]
  | k + 1, i, n, b, hn, hk, hb => by
    obtain ⟨n, rfl⟩ : ∃ m, n = m + 1 := ⟨n - 1, by omega⟩
    rw [m_pack_Writer_Fix_L1, if_pos (by omega), W64_id (z := 8 * (i : Int)) (by omega) (by omega), show 8 * (i : Int) = ((8 * i : Nat) : Int) by omega, u64cnt _ (by omega), shr_nat _ _ (by omega), toU8_nat]
    rw [app_some (by simp; omega), bndS, W64_id (by omega) (by omega), show (i : Int) + 1 = ((i + 1 : Nat) : Int) by omega]
    rw [wfixL x j k (i + 1) n _ (by omega) (by omega) (by simp; omega)]
    simp [fix, Nat.div_div_eq_div_mul, Nat.pow_succ]
theorem wfix_eq (b : List UInt8) (v : UInt64) (h : b.length ≤ 1000000000) : m_pack_Writer_Fix ⟨b⟩ v = some ⟨b ++ encF v⟩ := by
  unfold m_pack_Writer_Fix
  rw [jn_eq]
  obtain ⟨m, hm⟩ := fuelS 9 (by omega)
  have := wfixL v (fun y2 => some y2) 8 0 fuel b (by omega) rfl (by omega)
  simpa [encF] using this
end Go.Proofs.YtfcpdojcfogkbaaGreat
