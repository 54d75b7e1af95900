/-
  Package pack: a fixed number is read as it was written; plain Lean.
-/
import Derived.Test.YtfcpdojcfogkbaaGreatP3
set_option linter.unusedVariables false
set_option linter.unusedSimpArgs false
namespace Go.Proofs.YtfcpdojcfogkbaaGreat
open Go Go.RowKit Go.Wk
theorem fix_get (n : Nat) : ∀ (k i : Nat) (m : Nat), i < k → (fix m k)[i]? = some (UInt8.ofNat (m / 256 ^ i % 256))
  | 0, i, m, h => by omega
  | k + 1, 0, m, h => by simp [fix]
  | k + 1, i + 1, m, h => by
    rw [fix, List.getElem?_cons_succ, fix_get n k i _ (by omega), Nat.div_div_eq_div_mul, Nat.pow_succ, Nat.mul_comm 256]
theorem or_shl (y : UInt64) (c : UInt8) (i : Nat) (hi : i < 8) (h : y.toNat < 256 ^ i) : (y ||| shl64 (toU64 (c.toNat : Int)) (8 * i)).toNat = y.toNat + c.toNat * 256 ^ i := by
  have hc := c.toNat_lt
  have e1 : (toU64 (c.toNat : Int)).toNat = c.toNat := by simp [toU64, UInt64.toNat_ofNat']; omega
  have e2 : (shl64 (toU64 (c.toNat : Int)) (8 * i)).toNat = c.toNat * 256 ^ i := by
    unfold shl64
    rw [if_pos (by omega), UInt64.toNat_shiftLeft, e1, Nat.shiftLeft_eq, pow256]
    have : (UInt64.ofNat (8 * i)).toNat % 64 = 8 * i := by simp [UInt64.toNat_ofNat']; omega
    rw [this]
    refine Nat.mod_eq_of_lt ?_
    have h2 : 2 ^ (8 * i) ≤ 2 ^ 56 := Nat.pow_le_pow_right (by omega) (by omega)
    calc c.toNat * 2 ^ (8 * i) ≤ 255 * 2 ^ 56 := Nat.mul_le_mul (by omega) h2
      _ < 2 ^ 64 := by decide
  rw [pow256] at h
  rw [UInt64.toNat_or, e2, Nat.or_comm, pow256]
  have := Nat.shiftLeft_add_eq_or_of_lt h c.toNat
  rw [Nat.shiftLeft_eq] at this
  rw [← this]; omega
theorem mod_step (n i : Nat) : n % 256 ^ i + n / 256 ^ i % 256 * 256 ^ i = n % 256 ^ (i + 1) := by
  rw [Nat.pow_succ, Nat.mod_mul]; rw [Nat.mul_comm (n / 256 ^ i % 256)]
theorem rfixL (x : UInt64) (rd : T_pack_Reader) (j : UInt64 → Option (UInt64 × T_pack_Reader)) : ∀ (k i n : Nat) (y : UInt64), k < n → k + i = 8 → y.toNat = x.toNat % 256 ^ i → m_pack_Reader_Fix_L1 (encF x, rd) j n y (i : Int) = j x
  | 0, i, n, y, hn, hk, hy => by
    obtain ⟨n, rfl⟩ : ∃ m, n = m + 1 := ⟨n - 1, by omega⟩
    have : i = 8 := by omega
    subst this
    rw [m_pack_Reader_Fix_L1, if_neg (by simp [encF, fix_len])]
    congr 1; apply UInt64.toNat_inj.1; rw [hy]
    have := x.toNat_lt
    exact Nat.mod_eq_of_lt (by omega)
  | k + 1, i, n, y, hn, hk, hy => by
    obtain ⟨n, rfl⟩ : ∃ m, n = m + 1 := ⟨n - 1, by omega⟩
    have hl : y.toNat < 256 ^ i := by rw [hy]; exact Nat.mod_lt _ (Nat.pow_pos (by omega))
    rw [m_pack_Reader_Fix_L1, if_pos (by simp [encF, fix_len]; omega), idx_nat]
    dsimp only
    rw [encF, fix_get 0 8 i _ (by omega), ← encF, bndS, W64_id (z := 8 * (i : Int)) (by omega) (by omega), show 8 * (i : Int) = ((8 * i : Nat) : Int) by omega, u64cnt _ (by omega), W64_id (by omega) (by omega), show (i : Int) + 1 = ((i + 1 : Nat) : Int) by omega]
    refine rfixL x rd j k (i + 1) n _ (by omega) (by omega) ?_
    rw [or_shl _ _ _ (by omega) hl, hy]
    have : (UInt8.ofNat (x.toNat / 256 ^ i % 256)).toNat = x.toNat / 256 ^ i % 256 := by simp [UInt8.toNat_ofNat']
    rw [this]; exact mod_step _ _
theorem rfix_eq (pre post : List UInt8) (v : UInt64) {b : List UInt8} {at_ : Int} (hb : b = pre ++ (encF v ++ post)) (ha : at_ = pre.length) (hl : b.length ≤ 1000000000) : m_pack_Reader_Fix ⟨b, at_, 0⟩ = some (v, ⟨b, ((pre ++ encF v).length : Nat), 0⟩) := by
  unfold m_pack_Reader_Fix
  have h8 : ((encF v).length : Int) = 8 := by simp [encF, fix_len]
  have hr := raw_eq pre (encF v) post hb ha hl
  rw [h8] at hr
  rw [hr, bndS, jn_eq]
  obtain ⟨m, hm⟩ := fuelS 9 (by omega)
  exact rfixL v _ _ 8 0 fuel 0 (by omega) rfl (by simp [Nat.mod_one])
theorem done_eq (b : List UInt8) (hl : b.length ≤ 1000000000) : m_pack_Reader_Done ⟨b, (b.length : Nat), 0⟩ = some 0 := by
  unfold m_pack_Reader_Done
  rw [jn_eq]
  dsimp only
  rw [if_pos rfl, left_eq _ _ _ (Nat.le_refl _) hl, bndS]
  simp
theorem new_eq (b : List UInt8) (hl : b.length ≤ 1000000000) : m_pack_NewReader b = some ⟨b, 0, 0⟩ := by
  unfold m_pack_NewReader; rw [clone_eq _ (by omega), bndS]
end Go.Proofs.YtfcpdojcfogkbaaGreat
