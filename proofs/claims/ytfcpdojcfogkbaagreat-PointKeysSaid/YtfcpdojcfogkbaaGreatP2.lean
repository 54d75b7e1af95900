/-
  Package pack's reader, as plain forms: a number that was written is read as it was; plain Lean.
-/
import Derived.Test.YtfcpdojcfogkbaaGreatP1
set_option linter.unusedVariables false
set_option linter.unusedSimpArgs false
namespace Go.Proofs.YtfcpdojcfogkbaaGreat
open Go Go.RowKit Go.Wk
theorem lead_of : ∀ k, k < 8 → ∀ t, t < 2 ^ (7 - k) → m_math_bits_LeadingZeros8 (~~~ (UInt8.ofNat (256 - 2 ^ (8 - k) + t))) = some ((k : Nat) : Int) := by decide +kernel
theorem lead_all : m_math_bits_LeadingZeros8 (~~~ (255 : UInt8)) = some 8 := by decide +kernel
theorem mask_of : ∀ k, k < 8 → ∀ t, t < 2 ^ (7 - k) → (UInt8.ofNat (256 - 2 ^ (8 - k) + t) &&& shr8 (127 : UInt8) k) = UInt8.ofNat t := by decide +kernel
theorem lead_first (v : UInt64) : m_math_bits_LeadingZeros8 (~~~ (fstB v.toNat (oth v.toNat))) = some ((oth v.toNat : Nat) : Int) := by
  have hle := oth_le v.toNat
  unfold fstB
  by_cases hk : oth v.toNat < 8
  · rw [if_pos hk]; exact lead_of _ hk _ (top_small hk)
  · rw [if_neg hk, lead_all, show oth v.toNat = 8 by omega]; rfl
theorem shl_or (y : UInt64) (c : UInt8) (h : y.toNat < 2 ^ 56) : ((y <<< UInt64.ofNat 8) ||| toU64 (c.toNat : Int)).toNat = y.toNat * 256 + c.toNat := by
  have hc := c.toNat_lt
  have e1 : (toU64 (c.toNat : Int)).toNat = c.toNat := by simp [toU64, UInt64.toNat_ofNat']; omega
  have e2 : (y <<< UInt64.ofNat 8).toNat = y.toNat * 256 := by
    rw [UInt64.toNat_shiftLeft]
    have : (UInt64.ofNat 8).toNat % 64 = 8 := by decide
    rw [this, Nat.shiftLeft_eq]
    exact Nat.mod_eq_of_lt (by omega)
  rw [UInt64.toNat_or, e1, e2, show y.toNat * 256 = y.toNat <<< 8 by rw [Nat.shiftLeft_eq], ← Nat.shiftLeft_add_eq_or_of_lt (by omega)]
theorem div_step (n k : Nat) : n / 256 ^ (k + 1) * 256 + n / 256 ^ k % 256 = n / 256 ^ k := by
  rw [Nat.pow_succ, ← Nat.div_div_eq_div_mul]; omega
theorem rnumL (x : UInt64) (z : List UInt8) (j : UInt64 → Option (UInt64 × T_pack_Reader)) : ∀ (k n : Nat) (p : List UInt8) (y : UInt64), z = p ++ byt x.toNat k → k < n → k ≤ 8 → z.length ≤ 1000 → y.toNat = x.toNat / 256 ^ k → m_pack_Reader_Num_L1 z j n y (p.length : Int) = j x
  | 0, n, p, y, hz, hn, _, _, hy => by
    obtain ⟨n, rfl⟩ : ∃ m, n = m + 1 := ⟨n - 1, by omega⟩
    rw [m_pack_Reader_Num_L1, if_neg (by rw [hz]; simp [byt])]
    congr 1; apply UInt64.toNat_inj.1; rw [hy]; simp
  | k + 1, n, p, y, hz, hn, hk, hl, hy => by
    obtain ⟨n, rfl⟩ : ∃ m, n = m + 1 := ⟨n - 1, by omega⟩
    have hzl := congrArg List.length hz
    simp only [List.length_append, byt_len] at hzl
    have hyl : y.toNat < 2 ^ 56 := by
      rw [hy, Nat.div_lt_iff_lt_mul (Nat.pow_pos (by omega))]
      refine Nat.lt_of_lt_of_le x.toNat_lt ?_
      have : 256 ^ 1 ≤ 256 ^ (k + 1) := Nat.pow_le_pow_right (by omega) (by omega)
      calc 2 ^ 64 = 2 ^ 56 * 256 ^ 1 := by decide
        _ ≤ 2 ^ 56 * 256 ^ (k + 1) := Nat.mul_le_mul_left _ this
    rw [m_pack_Reader_Num_L1, if_pos (by omega), hz, byt, idx_mid, bndS, W64_id (by omega) (by omega), ← byt, ← hz]
    have hc : (UInt8.ofNat (x.toNat / 256 ^ k % 256)).toNat = x.toNat / 256 ^ k % 256 := by simp [UInt8.toNat_ofNat']
    have hy' := shl_or y (UInt8.ofNat (x.toNat / 256 ^ k % 256)) hyl
    rw [hy, hc, div_step] at hy'
    rw [← hc] at hy'
    have h := rnumL x z j k n (p ++ [UInt8.ofNat (x.toNat / 256 ^ k % 256)]) _ (by rw [hz, byt]; simp) (by omega) (by omega) hl hy'
    rw [show ((p ++ [UInt8.ofNat (x.toNat / 256 ^ k % 256)]).length : Int) = (p.length : Int) + 1 by simp] at h
    exact h
theorem left_eq (b : List UInt8) (at_ : Nat) (e : Int) (h : at_ ≤ b.length) (hb : b.length ≤ 1000000000) : m_pack_Reader_Left ⟨b, at_, e⟩ = some ((b.length - at_ : Nat) : Int) := by
  unfold m_pack_Reader_Left; rw [W64_id (by dsimp only; omega) (by dsimp only; omega)]; congr 1; dsimp only; omega
theorem rnum_eq (pre post : List UInt8) (v : UInt64) {b : List UInt8} {at_ : Int} (hb : b = pre ++ (enc v ++ post)) (ha : at_ = pre.length) (hl : b.length ≤ 1000000000) : m_pack_Reader_Num ⟨b, at_, 0⟩ = some (v, ⟨b, ((pre ++ enc v).length : Nat), 0⟩) := by
  subst ha
  have hle := oth_le v.toNat
  have hlen := congrArg List.length hb
  simp only [List.length_append, enc_len] at hlen
  have hb2 : b = pre ++ fstB v.toNat (oth v.toNat) :: (byt v.toNat (oth v.toNat) ++ post) := by rw [hb]; simp [enc]
  have hi : idx b (pre.length : Int) = some (fstB v.toNat (oth v.toNat)) := by rw [hb2]; exact idx_mid _ _ _
  unfold m_pack_Reader_Num
  rw [jn_eq]
  dsimp only
  rw [if_neg (by omega), left_eq _ _ _ (by omega) hl, bndS, if_neg (by omega), hi, bndS, lead_first, bndS, bndS, if_neg (by omega)]
  have hcut : cutL b ((pre.length : Int) + 1) ((pre.length : Int) + 1 + (oth v.toNat : Nat)) = some (byt v.toNat (oth v.toNat)) := by
    rw [cut_some (by omega) (by omega) (by omega)]
    congr 1
    have e1 : ((pre.length : Int) + 1 + (oth v.toNat : Nat)).toNat = (pre ++ enc v).length := by rw [List.length_append, enc_len]; omega
    have e2 : ((pre.length : Int) + 1).toNat = (pre ++ [fstB v.toNat (oth v.toNat)]).length := by simp
    rw [e1, e2, hb, ← List.append_assoc, List.take_left]
    unfold enc
    rw [show pre ++ fstB v.toNat (oth v.toNat) :: byt v.toNat (oth v.toNat) = (pre ++ [fstB v.toNat (oth v.toNat)]) ++ byt v.toNat (oth v.toNat) by simp, List.drop_left]
  refine jn_post (fun j => ∀ y : UInt64, y.toNat = v.toNat / 256 ^ oth v.toNat → j y = some (v, ⟨b, ((pre ++ enc v).length : Nat), 0⟩)) (fun y hy => ?_) fun j hj => ?_
  · rw [W64_id (z := (pre.length : Int) + 1) (by omega) (by omega), W64_id (z := (pre.length : Int) + 1 + _) (by omega) (by omega), hcut, bndS]
    refine jn_post (fun j => j v = some (v, ⟨b, ((pre ++ enc v).length : Nat), 0⟩)) ?_ fun j hj => ?_
    · rw [others_eq, bndS, if_neg (by omega), W64_id (z := 1 + ((oth v.toNat : Nat) : Int)) (by omega) (by omega), W64_id (by omega) (by omega)]
      simp only [List.length_append, enc_len]; congr 3; omega
    · obtain ⟨m, hm⟩ := fuelS 9 (by omega)
      have := rnumL v (byt v.toNat (oth v.toNat)) j (oth v.toNat) fuel [] y (by simp) (by omega) hle (by rw [byt_len]; omega) hy
      exact this.trans hj
  · by_cases hk : oth v.toNat < 8
    · rw [if_pos (by omega), u64cnt _ (by omega)]
      refine hj _ ?_
      unfold fstB
      rw [if_pos hk, mask_of _ hk _ (top_small hk)]
      have ht := top_small hk
      have h7 : 2 ^ (7 - oth v.toNat) ≤ 2 ^ 7 := Nat.pow_le_pow_right (by omega) (by omega)
      generalize v.toNat / 256 ^ oth v.toNat = t at ht ⊢
      have ht2 : t < 128 := by omega
      simp [toU64, UInt64.toNat_ofNat', UInt8.toNat_ofNat']; omega
    · rw [if_neg (by omega)]
      refine hj _ ?_
      have : oth v.toNat = 8 := by omega
      rw [this]
      have := v.toNat_lt
      exact (Nat.div_eq_of_lt (by omega)).symm
end Go.Proofs.YtfcpdojcfogkbaaGreat
