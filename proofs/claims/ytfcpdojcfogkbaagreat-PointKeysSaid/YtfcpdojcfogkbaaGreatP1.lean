/-
  Package pack's numbers, as plain forms: what is written of a number, and that it is read as it was; plain Lean.
-/
import Derived.Test.YtfcpdojcfogkbaaGreatLA
set_option linter.unusedVariables false
set_option linter.unusedSimpArgs false
namespace Go.Proofs.YtfcpdojcfogkbaaGreat
open Go Go.RowKit Go.Wk
theorem jn_post {α β : Type} {F : α} {B : α → β} {r : β} (Q : α → Prop) (hF : Q F) (hB : ∀ j, Q j → B j = r) : jn F B = r := hB F hF
theorem jn_ind {α β : Type} {F : α} {B : α → β} (P : β → Prop) (Q : α → Prop) (hF : Q F) (hB : ∀ j, Q j → P (B j)) : P (jn F B) := hB F hF
/-- How many bits a number has. -/
def bl (n : Nat) : Nat := if n = 0 then 0 else n.log2 + 1
theorem bl_hi (n : Nat) : n < 2 ^ bl n := by
  unfold bl; split
  · rename_i h; subst h; decide
  · exact Nat.lt_log2_self
theorem bl_lo {n : Nat} (h : n ≠ 0) : 2 ^ (bl n - 1) ≤ n := by
  unfold bl; rw [if_neg h]; exact Nat.log2_self_le h
theorem bl_of {n L : Nat} (h1 : n < 2 ^ L) (h2 : L = 0 ∨ 2 ^ (L - 1) ≤ n) : bl n = L := by
  rcases h2 with rfl | h2
  · have : n = 0 := by simpa using h1
    subst this; rfl
  · have hn : n ≠ 0 := by have := Nat.two_pow_pos (L - 1); omega
    have hl := bl_lo hn
    have hh := bl_hi n
    have a1 : L - 1 < bl n := (Nat.pow_lt_pow_iff_right (a := 2) (by omega)).1 (by omega)
    have a2 : bl n - 1 < L := (Nat.pow_lt_pow_iff_right (a := 2) (by omega)).1 (by omega)
    have a3 : 0 < bl n := by omega
    omega
theorem bl_shift {n : Nat} (k : Nat) (h : 2 ^ k ≤ n) : bl n = bl (n / 2 ^ k) + k := by
  have hp := Nat.two_pow_pos k
  have hq : n / 2 ^ k ≠ 0 := Nat.pos_iff_ne_zero.1 (Nat.div_pos h hp)
  have h1 := bl_hi (n / 2 ^ k)
  have h2 := bl_lo hq
  have h3 : 0 < bl (n / 2 ^ k) := by
    rcases Nat.eq_zero_or_pos (bl (n / 2 ^ k)) with h0 | h0
    · rw [h0] at h1; exact absurd (by simpa using h1) hq
    · exact h0
  refine bl_of ?_ (.inr ?_)
  · rw [Nat.pow_add]; exact (Nat.div_lt_iff_lt_mul hp).1 h1
  · rw [show bl (n / 2 ^ k) + k - 1 = bl (n / 2 ^ k) - 1 + k by omega, Nat.pow_add]; exact (Nat.le_div_iff_mul_le hp).1 h2
theorem bl_le {n k : Nat} (h : n < 2 ^ k) : bl n ≤ k := by
  by_cases h0 : n = 0
  · subst h0; exact Nat.zero_le _
  · have := bl_lo h0
    have : bl n - 1 < k := (Nat.pow_lt_pow_iff_right (a := 2) (by omega)).1 (by omega)
    omega
theorem tabL {T : List UInt8} (hT : ∀ n, n < 256 → T[n]? = some (UInt8.ofNat (bl n))) {n : Nat} (h : n < 256) : idx T (n : Int) = some (UInt8.ofNat (bl n)) := by rw [idx_nat]; exact hT n h
theorem ofNat_bl {n : Nat} (h : n < 256) : (UInt8.ofNat (bl n)).toNat = bl n := by
  have : bl n ≤ 8 := bl_le h
  simp [UInt8.toNat_ofNat']; omega
theorem len64_eq (x : UInt64) : m_math_bits_Len64 x = some ((bl x.toNat : Nat) : Int) := by
  unfold m_math_bits_Len64
  have hsh : ∀ (y : UInt64) (k : Nat), k < 64 → (y >>> UInt64.ofNat k).toNat = y.toNat / 2 ^ k := fun y k hk => by
    rw [UInt64.toNat_shiftRight, Nat.shiftRight_eq_div_pow]; congr 2
    simp [UInt64.toNat_ofNat']; omega
  refine jn_post (fun j => ∀ (y : UInt64) (a : Int), y.toNat < 4294967296 → 0 ≤ a → a ≤ 32 → j y a = some (a + (bl y.toNat : Nat))) (fun y a hy h0 h1 => ?_) (fun j hj => ?_)
  · refine jn_post (fun j => ∀ (y : UInt64) (a : Int), y.toNat < 65536 → 0 ≤ a → a ≤ 48 → j y a = some (a + (bl y.toNat : Nat))) (fun y a hy h0 h1 => ?_) (fun j hj => ?_)
    · refine jn_post (fun j => ∀ (y : UInt64) (a : Int), y.toNat < 256 → 0 ≤ a → a ≤ 56 → j y a = some (a + (bl y.toNat : Nat))) (fun y a hy h0 h1 => ?_) (fun j hj => ?_)
      · have hb : bl y.toNat ≤ 8 := bl_le hy
        have e8 : (toU8 (y.toNat : Int)).toNat = y.toNat := by simp [toU8, UInt8.toNat_ofNat']; omega
        dsimp only
        rw [e8, tabL ?_ hy]
        · rw [bndS, ofNat_bl hy, W64_id (by omega) (by omega)]
        · decide +kernel
      · by_cases hc : (y.toNat : Int) ≥ 256
        · rw [if_pos hc, W64_id (by omega) (by omega), hj _ _ (by rw [hsh _ _ (by omega)]; omega) (by omega) (by omega), hsh _ _ (by omega), bl_shift (n := y.toNat) 8 (by omega)]
          congr 1; omega
        · rw [if_neg hc, hj _ _ (by omega) h0 (by omega)]
    · by_cases hc : (y.toNat : Int) ≥ 65536
      · rw [if_pos hc, W64_id (by omega) (by omega), hj _ _ (by rw [hsh _ _ (by omega)]; omega) (by omega) (by omega), hsh _ _ (by omega), bl_shift (n := y.toNat) 16 (by omega)]
        congr 1; omega
      · rw [if_neg hc, hj _ _ (by omega) h0 (by omega)]
  · have hx := x.toNat_lt
    by_cases hc : (x.toNat : Int) ≥ 4294967296
    · rw [if_pos hc, hj _ _ (by rw [hsh _ _ (by omega)]; omega) (by omega) (by omega), hsh _ _ (by omega), bl_shift (n := x.toNat) 32 (by omega)]
      congr 1; omega
    · rw [if_neg hc, hj _ _ (by omega) (by omega) (by omega)]; congr 1; omega
/-- How many bytes stand behind the first one. -/
def oth (n : Nat) : Nat := if 56 < bl n then 8 else (bl n - 1) / 7
theorem others_eq (x : UInt64) : m_pack_others x = some ((oth x.toNat : Nat) : Int) := by
  unfold m_pack_others
  have hb : bl x.toNat ≤ 64 := bl_le x.toNat_lt
  rw [len64_eq, bndS]
  unfold oth
  by_cases h : 56 < bl x.toNat
  · rw [if_pos h, if_pos (by omega)]; rfl
  · rw [if_neg h, if_neg (by omega), W64_id (by omega) (by omega)]
    unfold quoZ
    rw [if_neg (by omega), bndS]
    rw [Int.tdiv_eq_ediv_of_nonneg (by omega), W64_id (by omega) (by omega)]
    congr 1; omega
theorem oth_le (n : Nat) : oth n ≤ 8 := by unfold oth; split <;> omega
theorem oth_hi {n : Nat} (h : oth n < 8) : n < 2 ^ (7 * oth n + 7) := by
  have h1 := bl_hi n
  unfold oth at h ⊢
  split at h
  · omega
  · rename_i hb
    rw [if_neg hb]
    exact Nat.lt_of_lt_of_le h1 (Nat.pow_le_pow_right (by omega) (by omega))
theorem oth_lo {n : Nat} (h : oth n ≠ 0) : 2 ^ (7 * oth n) ≤ n := by
  have hn : n ≠ 0 := by rintro rfl; exact h rfl
  have h1 := bl_lo hn
  unfold oth at h ⊢
  split
  · exact Nat.le_trans (Nat.pow_le_pow_right (by omega) (by omega)) h1
  · exact Nat.le_trans (Nat.pow_le_pow_right (by omega) (by omega)) h1
theorem oth_of {n k : Nat} (hk : k ≤ 8) (h1 : k < 8 → n < 2 ^ (7 * k + 7)) (h2 : k = 0 ∨ 2 ^ (7 * k) ≤ n) : oth n = k := by
  have hle := oth_le n
  rcases Nat.lt_trichotomy (oth n) k with h | h | h
  · have := oth_hi (n := n) (by omega)
    have h3 := h2.resolve_left (by omega)
    have : 2 ^ (7 * oth n + 7) ≤ 2 ^ (7 * k) := Nat.pow_le_pow_right (by omega) (by omega)
    omega
  · exact h
  · have := oth_lo (n := n) (by omega)
    have h3 := h1 (by omega)
    have : 2 ^ (7 * k + 7) ≤ 2 ^ (7 * oth n) := Nat.pow_le_pow_right (by omega) (by omega)
    omega
/-- A number's low bytes, the greatest first. -/
def byt (n : Nat) : Nat → List UInt8
  | 0 => []
  | k + 1 => UInt8.ofNat (n / 256 ^ k % 256) :: byt n k
theorem byt_len (n k : Nat) : (byt n k).length = k := by induction k with
  | zero => rfl
  | succ k ih => simp [byt, ih]
def fstB (n k : Nat) : UInt8 := if k < 8 then UInt8.ofNat (256 - 2 ^ (8 - k) + n / 256 ^ k) else 255
def enc (v : UInt64) : List UInt8 := fstB v.toNat (oth v.toNat) :: byt v.toNat (oth v.toNat)
theorem enc_len (v : UInt64) : (enc v).length = oth v.toNat + 1 := by simp [enc, byt_len]
theorem enc_len_le (v : UInt64) : (enc v).length ≤ 9 := by have := oth_le v.toNat; rw [enc_len]; omega
theorem pow256 (k : Nat) : 256 ^ k = 2 ^ (8 * k) := by rw [Nat.pow_mul]
theorem shr_nat (x : UInt64) (k : Nat) (hk : k < 8) : (shr64 x (8 * k)).toNat = x.toNat / 256 ^ k := by
  unfold shr64
  rw [if_pos (by omega), UInt64.toNat_shiftRight, Nat.shiftRight_eq_div_pow, pow256]
  congr 2
  simp [UInt64.toNat_ofNat']; omega
theorem toU8_nat (n : Nat) : toU8 (n : Int) = UInt8.ofNat (n % 256) := by unfold toU8; congr 1
theorem u64cnt (k : Nat) (h : k ≤ 64) : (toU64 (k : Int)).toNat = k := by
  simp [toU64, UInt64.toNat_ofNat']; omega
theorem top_small {n : Nat} (h : oth n < 8) : n / 256 ^ oth n < 2 ^ (7 - oth n) := by
  have h1 := oth_hi h
  rw [Nat.div_lt_iff_lt_mul (Nat.pow_pos (by omega)), pow256, ← Nat.pow_add]
  rw [show 7 - oth n + 8 * oth n = 7 * oth n + 7 by omega]; exact h1
theorem first_or : ∀ k, k < 8 → ∀ t, t < 2 ^ (7 - k) → shl8 (255 : UInt8) (8 - k) ||| UInt8.ofNat (t % 256) = UInt8.ofNat (256 - 2 ^ (8 - k) + t) := by
  decide +kernel
theorem wnumL (x : UInt64) (j : T_pack_Writer → Option T_pack_Writer) : ∀ (k n : Nat) (b : List UInt8), k < n → k ≤ 8 → b.length + k ≤ 1073741824 → m_pack_Writer_Num_L1 x j n (k : Int) ⟨b⟩ = j ⟨b ++ byt x.toNat k⟩
  | 0, n, b, hn, _, _ => by
    obtain ⟨n, rfl⟩ : ∃ m, n = m + 1 := ⟨n - 1, by omega⟩
    rw [m_pack_Writer_Num_L1, if_neg (by omega)]; simp [byt]
  | k + 1, n, b, hn, hk, hb => by
    obtain ⟨n, rfl⟩ : ∃ m, n = m + 1 := ⟨n - 1, by omega⟩
    rw [m_pack_Writer_Num_L1, if_pos (by omega), W64_id (z := 8 * ((k + 1 : Nat) : Int)) (by omega) (by omega), W64_id (z := 8 * ((k + 1 : Nat) : Int) - 8) (by omega) (by omega)]
    rw [show 8 * ((k + 1 : Nat) : Int) - 8 = ((8 * k : Nat) : Int) by omega, u64cnt _ (by omega), shr_nat _ _ (by omega), toU8_nat]
    rw [app_some (by simp; omega), bndS, W64_id (by omega) (by omega), show ((k + 1 : Nat) : Int) - 1 = (k : Int) by omega]
    rw [wnumL x j k n _ (by omega) (by omega) (by simp; omega)]
    simp [byt]
theorem wnum_eq (b : List UInt8) (v : UInt64) (h : b.length ≤ 1000000000) : m_pack_Writer_Num ⟨b⟩ v = some ⟨b ++ enc v⟩ := by
  unfold m_pack_Writer_Num
  have hle := oth_le v.toNat
  rw [others_eq, bndS]
  refine jn_post (fun j => j (fstB v.toNat (oth v.toNat)) = some ⟨b ++ enc v⟩) ?_ fun j hj => ?_
  · rw [app_some (by simp; omega), bndS, jn_eq]
    obtain ⟨m, hm⟩ := fuelS 9 (by omega)
    rw [wnumL v _ _ _ _ (by omega) hle (by simp; omega)]
    simp [enc]
  · by_cases hk : oth v.toNat < 8
    · rw [if_pos (by omega)]
      rw [W64_id (by omega) (by omega), W64_id (by omega) (by omega)]
      rw [show (8 : Int) - (oth v.toNat : Nat) = ((8 - oth v.toNat : Nat) : Int) by omega, show 8 * ((oth v.toNat : Nat) : Int) = ((8 * oth v.toNat : Nat) : Int) by omega, u64cnt _ (by omega), u64cnt _ (by omega), shr_nat _ _ (by omega), toU8_nat]
      rw [first_or _ hk _ (top_small hk)]
      unfold fstB at hj; rw [if_pos hk] at hj; exact hj
    · have : oth v.toNat = 8 := by omega
      rw [if_neg (by omega), W64_id (by omega) (by omega)]
      rw [this] at hj ⊢; exact hj
end Go.Proofs.YtfcpdojcfogkbaaGreat
