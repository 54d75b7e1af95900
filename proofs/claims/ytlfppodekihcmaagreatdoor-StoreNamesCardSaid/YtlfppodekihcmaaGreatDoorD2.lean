/-
  The name of a segment's file is the document's, and names stand as the ordinals do; plain Lean.
-/
import Derived.Test.YtlfppodekihcmaaGreatDoorD1
set_option linter.unusedVariables false
set_option linter.unusedSimpArgs false
namespace Go.Proofs.YtlfppodekihcmaaGreatDoor
open Go Go.RowKit Go.Wk
def pre4 : List UInt8 := [115, 101, 103, 45]
def nmN (n : Nat) : List UInt8 := pre4 ++ dg 16 n
def nmE (a : Int) : List UInt8 := if a < 0 ∨ a > 4503599627370496 then [] else nmN a.toNat
theorem quoT {a : Nat} (ha : a ≤ 9223372036854775807) : quoZ (a : Int) 10 = some ((a / 10 : Nat) : Int) := by
  unfold quoZ
  rw [if_neg (by omega), Int.tdiv_eq_ediv_of_nonneg (by omega), W64_id (by omega) (by omega)]
  rfl
theorem remT (a : Nat) : remZ (a : Int) 10 = some ((a % 10 : Nat) : Int) := by
  unfold remZ
  rw [if_neg (by omega), Int.tmod_eq_emod_of_nonneg (by omega)]
  rfl
theorem digit8 {d : Nat} (h : d < 10) : toU8 (W64 (48 + (d : Int))) = UInt8.ofNat (48 + d) := by
  rw [W64_id (by omega) (by omega)]
  unfold toU8
  congr 1
  omega
theorem dg_one (n : Nat) : dg 1 n = [UInt8.ofNat (48 + n % 10)] := by rw [dg, dg]; rfl
theorem dg_top (k n : Nat) : dg (k + 1) n = UInt8.ofNat (48 + n / 10 ^ k % 10) :: dg k n := by
  rw [Nat.add_comm, dg_add k 1 n, dg_one]
  rfl
theorem setI_mid {α : Type} {p : List α} {x y : α} {q : List α} {i : Int} (h : i = p.length) : setI (p ++ x :: q) i y = p ++ y :: q := by subst h; simp [setI]
theorem name_L1 (j : List UInt8 → Option (List UInt8)) (a : Nat) (ha : a ≤ 4503599627370496) : ∀ m k n, m + k = 16 →
    m_store_Name_L1 j (n + m + 1) (pre4 ++ (List.replicate m 48 ++ dg k a)) ((a / 10 ^ k : Nat) : Int) ((3 + m : Nat) : Int) = j (nmN a) := by
  intro m
  induction m with
  | zero =>
    intro k n hk
    have h0 : a / 10 ^ k = 0 := by
      rw [show k = 16 by omega]
      exact Nat.div_eq_of_lt (by omega)
    rw [Nat.add_zero, m_store_Name_L1, if_neg (by rw [h0]; omega), show k = 16 by omega]
    rfl
  | succ m ih =>
    intro k n hk
    rw [m_store_Name_L1]
    by_cases h0 : a / 10 ^ k = 0
    · rw [if_neg (by rw [h0]; omega)]
      have e : List.replicate (m + 1) 48 ++ dg k a = dg 16 a := by
        rw [show 16 = (m + 1) + k by omega, dg_add k (m + 1) a, h0, dg_zero]
      rw [e]
      rfl
    · have hle : a / 10 ^ k ≤ a := Nat.div_le_self _ _
      have e1 : pre4 ++ (List.replicate (m + 1) 48 ++ dg k a) = (pre4 ++ List.replicate m 48) ++ 48 :: dg k a := by
        rw [List.replicate_succ', List.append_assoc, List.append_assoc]
        rfl
      have hl : ((3 + (m + 1) : Nat) : Int) = ((pre4 ++ List.replicate m (48 : UInt8)).length : Int) := by
        rw [List.length_append, List.length_replicate]
        have : pre4.length = 4 := rfl
        omega
      rw [if_pos (Int.natCast_pos.mpr (Nat.pos_of_ne_zero h0)), remT, bndS, e1, idx_mid' hl, bndS, quoT (Nat.le_trans hle (by omega)), bndS, setI_mid hl, digit8 (Nat.mod_lt _ (by omega)), ← dg_top, Nat.div_div_eq_div_mul, ← Nat.pow_succ, List.append_assoc, show W64 (((3 + (m + 1) : Nat) : Int) - 1) = ((3 + m : Nat) : Int) by rw [W64_id (by omega) (by omega)]; omega]
      exact ih (k + 1) n (by omega)
theorem rname_L1 (j : List UInt8 → Option (List UInt8)) (a : Nat) (ha : a ≤ 4503599627370496) : ∀ m k n, m + k = 16 →
    m_limnographref22_Name_L1 j (n + m + 1) ((a / 10 ^ k : Nat) : Int) (dg k a) ((k : Nat) : Int) = j (dg 16 a) := by
  intro m
  induction m with
  | zero =>
    intro k n hk
    rw [Nat.add_zero, m_limnographref22_Name_L1, if_neg (by omega), show k = 16 by omega]
  | succ m ih =>
    intro k n hk
    have hle : a / 10 ^ k ≤ a := Nat.div_le_self _ _
    rw [m_limnographref22_Name_L1, if_pos (by omega), remT, bndS, digit8 (Nat.mod_lt _ (by omega)), cat_some (by rw [dg_len]; simp; omega), bndS, quoT (Nat.le_trans hle (by omega)), bndS, List.singleton_append, ← dg_top, Nat.div_div_eq_div_mul, ← Nat.pow_succ, show W64 (((k : Nat) : Int) + 1) = ((k + 1 : Nat) : Int) by rw [W64_id (by omega) (by omega)]; rfl]
    exact ih (k + 1) n (by omega)
theorem name_eq (x : Int) : m_store_Name x = some (nmE x) := by
  unfold m_store_Name nmE
  by_cases h : x < 0 ∨ x > 4503599627370496
  · rw [if_pos h, if_pos h]
  · obtain ⟨a, rfl⟩ : ∃ a : Nat, x = (a : Int) := ⟨x.toNat, by omega⟩
    obtain ⟨f, hf⟩ := fuelS 17 (by omega)
    have e1 : repE ([48] : List UInt8) 16 = some (List.replicate 16 48) := rfl
    rw [if_neg h, if_neg h, e1, bndS, cat_some (by simp), bndS, len_some (by simp), bndS, jn_eq, hf]
    have h1 := name_L1 (fun y => some y) a (by omega) 16 0 f rfl
    rw [Nat.pow_zero, Nat.div_one] at h1
    exact h1
theorem rname_eq (x : Int) : m_limnographref22_Name x = some (nmE x) := by
  unfold m_limnographref22_Name nmE
  by_cases h : x < 0 ∨ x > 4503599627370496
  · rw [if_pos h, if_pos h]
  · obtain ⟨a, rfl⟩ : ∃ a : Nat, x = (a : Int) := ⟨x.toNat, by omega⟩
    obtain ⟨f, hf⟩ := fuelS 17 (by omega)
    rw [if_neg h, if_neg h, jn_eq, hf]
    have h1 := rname_L1 (fun y4 => (catS ([115, 101, 103, 45] : List UInt8) y4).bind fun z6 => some z6) a (by omega) 16 0 f rfl
    rw [Nat.pow_zero, Nat.div_one] at h1
    refine h1.trans ?_
    rw [cat_some (by rw [dg_len]; simp), bndS]
    rfl
theorem nm_lt (x y : Int) (hx : nmE x ≠ []) (hy : nmE y ≠ []) : Op.bytesLess (nmE x) (nmE y) = decide (x < y) := by
  unfold nmE at *
  by_cases h1 : x < 0 ∨ x > 4503599627370496
  · rw [if_pos h1] at hx
    exact absurd rfl hx
  by_cases h2 : y < 0 ∨ y > 4503599627370496
  · rw [if_pos h2] at hy
    exact absurd rfl hy
  rw [if_neg h1, if_neg h2, bl_eq]
  have h3 : (nmN x.toNat < nmN y.toNat) ↔ x.toNat < y.toNat := by
    unfold nmN
    rw [pre_lt, dg_lt 16 _ _ (by omega) (by omega)]
  rw [decide_eq_decide, h3]
  omega
theorem awake_eq : m_limnographlaw22_awake = some true := by decide +kernel
theorem names_law (x0 x1 : Int) : m_limnographlaw22_StoreNames x0 x1 = some true := by
  unfold m_limnographlaw22_StoreNames
  rw [awake_eq, bndS, if_neg (by decide), name_eq, name_eq, rname_eq, rname_eq, bndS, bndS, bndS, jn_eq, if_neg (by simp), bndS]
  rw [show decide (nmE x1 ≠ nmE x1) = false by simp]
  dsimp only
  rw [if_neg (by decide)]
  by_cases h1 : nmE x0 = []
  · rw [h1]; simp
  by_cases h2 : nmE x1 = []
  · rw [h2]; simp
  rw [nm_lt x0 x1 h1 h2]
  simp
end Go.Proofs.YtlfppodekihcmaaGreatDoor
