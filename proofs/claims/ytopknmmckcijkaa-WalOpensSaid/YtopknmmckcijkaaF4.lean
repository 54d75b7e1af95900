/-
  Chapter 25: the document's frames; plain Lean.
-/
import Derived.Test.YtopknmmckcijkaaF3
set_option linter.unusedVariables false
set_option linter.unusedSimpArgs false
namespace Go.Proofs.Ytopknmmckcijkaa
open Go Go.RowKit Go.Wk
theorem quo_nat (n m : Nat) (hm : m ≠ 0) (hn : n < 9223372036854775808) : quoZ (n : Int) (m : Int) = some ((n / m : Nat) : Int) := by
  unfold quoZ
  rw [if_neg (by omega), ← Int.ofNat_tdiv]
  have := Nat.div_le_self n m
  have h5 : 0 ≤ (n : Int) / (m : Int) := Int.ediv_nonneg (by omega) (by omega)
  congr 1
  exact W64_id (by omega) (by omega)
theorem rem_nat (n m : Nat) (hm : m ≠ 0) : remZ (n : Int) (m : Int) = some ((n % m : Nat) : Int) := by
  unfold remZ
  rw [if_neg (by omega), ← Int.ofNat_tmod]
theorem u8_of (n : Nat) : toU8 ((n % 256 : Nat) : Int) = UInt8.ofNat n := by
  apply UInt8.toNat_inj.1
  simp [toU8, UInt8.toNat_ofNat']; omega
theorem u8_of' (n : Nat) : toU8 (n : Int) = UInt8.ofNat n := by
  apply UInt8.toNat_inj.1
  simp [toU8, UInt8.toNat_ofNat']; omega
theorem four_eq (n : Nat) (h : n < 4294967296) : m_limnographref04_four (n : Int) = some (le4 n) := by
  unfold m_limnographref04_four
  have e1 := rem_nat n 256 (by omega)
  have e2 := quo_nat n 256 (by omega) (by omega)
  have e3 := rem_nat (n / 256) 256 (by omega)
  have e4 := quo_nat n 65536 (by omega) (by omega)
  have e5 := rem_nat (n / 65536) 256 (by omega)
  have e6 := quo_nat n 16777216 (by omega) (by omega)
  simp only [Int.cast_ofNat_Int] at e1 e2 e3 e4 e5 e6
  rw [e1, bndS, e2, bndS, e3, bndS, e4, bndS, e5, bndS, e6, bndS, u8_of, u8_of, u8_of, u8_of']
  rfl
theorem wrap_eq (p : List UInt8) (h : p.length ≤ 65536) : m_limnographref04_Wrap p = some (wrapL p, 0) := by
  unfold m_limnographref04_Wrap
  rw [if_neg (by omega), four_eq _ (by omega), bndS, cat_some (by simp), bndS, cat_some (by simp; omega), bndS, len_some (by simp; omega), bndS, refOf_eq _ (by simp; omega), bndS, four_eq _ (UInt32.toNat_lt _), bndS, cat_some (by simp), bndS, cat_some (by simp; omega), bndS, len_some (by simp; omega), bndS]
  rfl
theorem be4 (j : Int → Option T_limnographref04_Got) (x0 x1 x2 x3 x4 : UInt8) (t : List UInt8) : m_limnographref04_First_L1 (x0 :: x1 :: x2 :: x3 :: x4 :: t) 0 j fuel 0 4 = j ((num4 x1 x2 x3 x4 : Nat) : Int) := by
  obtain ⟨F, hF⟩ := fuelS 5 (by omega)
  have a1 := x1.toNat_lt; have a2 := x2.toNat_lt; have a3 := x3.toNat_lt; have a4 := x4.toNat_lt
  rw [hF, m_limnographref04_First_L1, if_pos (by decide), show idx (x0 :: x1 :: x2 :: x3 :: x4 :: t) (W64 (0 + 4)) = some x4 from rfl, bndS, show W64 (4 - 1) = 3 from by decide]
  rw [W64_id (z := 256 * 0) (by omega) (by omega), W64_id (by omega) (by omega)]
  rw [m_limnographref04_First_L1, if_pos (by decide), show idx (x0 :: x1 :: x2 :: x3 :: x4 :: t) (W64 (0 + 3)) = some x3 from rfl, bndS, show W64 (3 - 1) = 2 from by decide]
  rw [W64_id (z := 256 * (256 * 0 + (x4.toNat : Int))) (by omega) (by omega), W64_id (by omega) (by omega)]
  rw [m_limnographref04_First_L1, if_pos (by decide), show idx (x0 :: x1 :: x2 :: x3 :: x4 :: t) (W64 (0 + 2)) = some x2 from rfl, bndS, show W64 (2 - 1) = 1 from by decide]
  rw [W64_id (z := 256 * (256 * (256 * 0 + (x4.toNat : Int)) + (x3.toNat : Int))) (by omega) (by omega), W64_id (by omega) (by omega)]
  rw [m_limnographref04_First_L1, if_pos (by decide), show idx (x0 :: x1 :: x2 :: x3 :: x4 :: t) (W64 (0 + 1)) = some x1 from rfl, bndS, show W64 (1 - 1) = 0 from by decide]
  rw [W64_id (z := 256 * (256 * (256 * (256 * 0 + (x4.toNat : Int)) + (x3.toNat : Int)) + (x2.toNat : Int))) (by omega) (by omega), W64_id (by omega) (by omega)]
  rw [m_limnographref04_First_L1, if_neg (by decide)]
  congr 1
  unfold num4; omega
theorem refFirst_eq (l : List UInt8) (hl : l.length ≤ 100000000) : m_limnographref04_First l 0 = some ⟨(fst3 l).1, (fst3 l).2.1, (fst3 l).2.2⟩ := by
  unfold m_limnographref04_First fst3
  rw [Int.sub_zero, W64_id (by omega) (by omega)]
  cases l with
  | nil => rfl
  | cons x0 t =>
    rw [if_neg (by simp; omega), idx0, bndS]
    by_cases h0 : x0 = 165
    · subst h0
      rw [if_neg (by simp)]
      by_cases h8 : t.length < 8
      · rw [if_pos (by simp; omega), firstF_short t h8]; rfl
      · obtain ⟨x1, x2, x3, x4, x5, x6, x7, x8, r, rfl⟩ := long8 t (by omega)
        have hlr : r.length ≤ 100000000 := by simp at hl; omega
        have hnl := num4_lt x1 x2 x3 x4
        rw [if_neg (by simp; omega), jn_eq, be4]
        by_cases hL : num4 x1 x2 x3 x4 > 65536
        · rw [if_pos (by omega), firstF_large _ _ _ _ _ _ _ _ _ hL]; rfl
        · rw [if_neg (by omega), W64_id (z := 9 + ((num4 x1 x2 x3 x4 : Nat) : Int)) (by omega) (by omega)]
          by_cases hS : num4 x1 x2 x3 x4 > r.length
          · rw [if_pos (by simp; omega), firstF_less _ _ _ _ _ _ _ _ _ hL hS]; rfl
          · have w9 : W64 (0 + 9) = 9 := by decide
            have c9 : cutL (165 :: x1 :: x2 :: x3 :: x4 :: x5 :: x6 :: x7 :: x8 :: r) 9 (W64 (9 + (num4 x1 x2 x3 x4 : Int))) = some (r.take (num4 x1 x2 x3 x4)) := by
              rw [W64_id (by omega) (by omega), cut_some (by omega) (by omega) (by simp; omega), ← pay_first 165 x1 x2 x3 x4 x5 x6 x7 x8 r]
              congr 2
            have c0 : cutL (165 :: x1 :: x2 :: x3 :: x4 :: x5 :: x6 :: x7 :: x8 :: r) 0 (W64 (9 + (num4 x1 x2 x3 x4 : Int))) = some ((165 :: x1 :: x2 :: x3 :: x4 :: x5 :: x6 :: x7 :: x8 :: r).take (9 + num4 x1 x2 x3 x4)) := by
              rw [W64_id (by omega) (by omega), cut_some (by omega) (by omega) (by simp; omega)]
              congr 1
            have hw := wrapL_eq_iff x1 x2 x3 x4 x5 x6 x7 x8 r (by omega)
            rw [if_neg (by simp; omega), w9, c9, bndS, wrap_eq _ (by simp; omega), bndS, c0, bndS]
            by_cases hC : sumL (r.take (num4 x1 x2 x3 x4)) = num4 x5 x6 x7 x8
            · rw [if_neg (fun h => h (hw.2 hC)), firstF_ok _ _ _ _ _ _ _ _ _ hL hS hC]; rfl
            · rw [if_pos (fun h => hC (hw.1 h)), firstF_sum _ _ _ _ _ _ _ _ _ hL hS hC]; rfl
    · rw [if_pos (fun h => h0 (UInt8.toNat_inj.1 (by simpa using Int.ofNat.inj h))), firstF_ne x0 t h0]; rfl
end Go.Proofs.Ytopknmmckcijkaa
