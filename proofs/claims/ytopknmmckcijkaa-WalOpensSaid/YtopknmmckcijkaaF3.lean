/-
  Chapter 25: frames are read as the document says; plain Lean.
-/
import Derived.Test.YtopknmmckcijkaaF2
set_option linter.unusedVariables false
set_option linter.unusedSimpArgs false
namespace Go.Proofs.Ytopknmmckcijkaa
open Go Go.RowKit Go.Wk
theorem u32_of (x : UInt8) : toU32 (x.toNat : Int) = x.toUInt32 := by
  apply UInt32.toNat_inj.1
  have := x.toNat_lt
  simp [toU32, UInt32.toNat_ofNat']; omega
theorem number_eq (a b c d : UInt8) (r : List UInt8) : m_frame_number (a :: b :: c :: d :: r) = some (numU a b c d) := by
  unfold m_frame_number
  rw [idx0, bndS, show idx (a :: b :: c :: d :: r) 1 = some b from rfl, bndS, show idx (a :: b :: c :: d :: r) 2 = some c from rfl, bndS, show idx (a :: b :: c :: d :: r) 3 = some d from rfl, bndS, u32_of, u32_of, u32_of, u32_of]
  rfl
theorem sum_eq (a b : List UInt8) (ha : a.length ≤ 1073741824) (hb : b.length ≤ 1073741824) : m_frame_sum a b = some (ofR (a ++ b)) := by
  unfold m_frame_sum m_crc_Of m_crc_More
  rw [if_pos ha, bndS, if_pos hb, bndS, moreC_append, moreC_zero]
theorem clone_eq (l : List UInt8) (h : l.length ≤ 1073741824) : m_bytes_Clone l = some l := by unfold m_bytes_Clone; rw [app_some (by simpa using h)]; rfl
def fst3 (l : List UInt8) : List UInt8 × Int × Int := ((firstF l).1, ((firstF l).2.1 : Int), ((firstF l).2.2 : Int))
theorem first_eq (l : List UInt8) (hl : l.length ≤ 100000000) : m_frame_First l = some (fst3 l) := by
  unfold m_frame_First fst3
  cases l with
  | nil => rfl
  | cons x0 t =>
    rw [if_neg (by simp; omega), idx0, bndS]
    by_cases h0 : x0 = 165
    · subst h0
      rw [if_neg (by simp)]
      by_cases h8 : t.length < 8
      · rw [if_pos (by simp; omega), firstF_short t h8]; rfl
      · obtain ⟨x1, x2, x3, x4, x5, x6, x7, x8, r, rfl⟩ := long8 t (by omega)
        have hlr : r.length ≤ 100000000 := by simp at hl; omega
        have hnl := num4_lt x1 x2 x3 x4
        rw [if_neg (by simp; omega)]
        have c1 : cutL (165 :: x1 :: x2 :: x3 :: x4 :: x5 :: x6 :: x7 :: x8 :: r) 1 ((165 :: x1 :: x2 :: x3 :: x4 :: x5 :: x6 :: x7 :: x8 :: r : List UInt8).length : Nat) = some (x1 :: x2 :: x3 :: x4 :: x5 :: x6 :: x7 :: x8 :: r) := cut_end [165] (x1 :: x2 :: x3 :: x4 :: x5 :: x6 :: x7 :: x8 :: r)
        have c5 : cutL (165 :: x1 :: x2 :: x3 :: x4 :: x5 :: x6 :: x7 :: x8 :: r) 5 ((165 :: x1 :: x2 :: x3 :: x4 :: x5 :: x6 :: x7 :: x8 :: r : List UInt8).length : Nat) = some (x5 :: x6 :: x7 :: x8 :: r) := cut_end [165, x1, x2, x3, x4] (x5 :: x6 :: x7 :: x8 :: r)
        have c0 : cutL (165 :: x1 :: x2 :: x3 :: x4 :: x5 :: x6 :: x7 :: x8 :: r) 0 5 = some [165, x1, x2, x3, x4] := by
          rw [cut_some (by omega) (by omega) (by simp; omega)]; rfl
        rw [c1, bndS, number_eq, bndS]
        simp only [numU_toNat]
        by_cases hL : num4 x1 x2 x3 x4 > 65536
        · rw [if_pos (by omega), firstF_large _ _ _ _ _ _ _ _ _ hL]; rfl
        · rw [if_neg (by omega)]
          have hw : W64 (((165 :: x1 :: x2 :: x3 :: x4 :: x5 :: x6 :: x7 :: x8 :: r : List UInt8).length : Int) - 9) = (r.length : Int) := by rw [W64_id (by simp; omega) (by simp; omega)]; simp; omega
          rw [hw]
          by_cases hS : num4 x1 x2 x3 x4 > r.length
          · rw [if_pos (by omega), firstF_less _ _ _ _ _ _ _ _ _ hL hS]; rfl
          · have c9 : cutL (165 :: x1 :: x2 :: x3 :: x4 :: x5 :: x6 :: x7 :: x8 :: r) 9 (W64 (9 + (num4 x1 x2 x3 x4 : Int))) = some (r.take (num4 x1 x2 x3 x4)) := by
              rw [W64_id (by omega) (by omega), cut_some (by omega) (by omega) (by simp; omega), ← pay_first 165 x1 x2 x3 x4 x5 x6 x7 x8 r]
              congr 2
            rw [if_neg (by omega), c0, bndS, c9, bndS, c5, bndS, sum_eq _ _ (by simp) (by simp; omega), bndS, number_eq, bndS]
            have hsum : ofR ([165, x1, x2, x3, x4] ++ r.take (num4 x1 x2 x3 x4)) = ofR (headL (r.take (num4 x1 x2 x3 x4)) ++ r.take (num4 x1 x2 x3 x4)) := by
              unfold headL
              have : (r.take (num4 x1 x2 x3 x4)).length = num4 x1 x2 x3 x4 := by simp; omega
              rw [this, le4_num4]
            rw [hsum]
            simp only [numU_toNat]
            by_cases hC : sumL (r.take (num4 x1 x2 x3 x4)) = num4 x5 x6 x7 x8
            · rw [if_neg (by unfold sumL at hC; omega), bndS, clone_eq _ (by simp; omega), bndS, firstF_ok _ _ _ _ _ _ _ _ _ hL hS hC, W64_id (by omega) (by omega)]
              rfl
            · rw [if_pos (by unfold sumL at hC; omega), firstF_sum _ _ _ _ _ _ _ _ _ hL hS hC]; rfl
    · rw [if_pos (fun h => h0 (UInt8.toNat_inj.1 (by simpa using Int.ofNat.inj h))), firstF_ne x0 t h0]; rfl
end Go.Proofs.Ytopknmmckcijkaa
