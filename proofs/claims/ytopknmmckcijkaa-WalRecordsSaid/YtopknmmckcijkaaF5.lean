/-
  Chapter 20: the program's frames, put down and read again; plain Lean.
-/
import Derived.Test.YtopknmmckcijkaaF4
set_option linter.unusedVariables false
set_option linter.unusedSimpArgs false
namespace Go.Proofs.Ytopknmmckcijkaa
open Go Go.RowKit Go.Wk
theorem fourm_eq (u : UInt32) : m_frame_four u = some (le4 u.toNat) := by
  unfold m_frame_four le4
  have h8 : (u >>> UInt32.ofNat 8).toNat = u.toNat / 256 := by simp [UInt32.toNat_shiftRight, Nat.shiftRight_eq_div_pow]
  have h16 : (u >>> UInt32.ofNat 16).toNat = u.toNat / 65536 := by simp [UInt32.toNat_shiftRight, Nat.shiftRight_eq_div_pow]
  have h24 : (u >>> UInt32.ofNat 24).toNat = u.toNat / 16777216 := by simp [UInt32.toNat_shiftRight, Nat.shiftRight_eq_div_pow]
  rw [h8, h16, h24, u8_of', u8_of', u8_of', u8_of']
theorem fwrap_eq (p : List UInt8) (h : p.length ≤ 65536) : m_frame_Wrap p = some (wrapL p, 0) := by
  unfold m_frame_Wrap
  have hu : (toU32 (p.length : Int)).toNat = p.length := by simp only [toU32, UInt32.toNat_ofNat']; omega
  rw [if_neg (by omega), fourm_eq, bndS, hu, app_some (by simp), bndS]
  have e1 : ([165] : List UInt8) ++ le4 p.length = headL p := rfl
  rw [e1, sum_eq _ _ (by simp [headL]) (by omega), bndS, fourm_eq, bndS, app_some (by simp [headL]), bndS, app_some (by simp [headL]; omega), bndS]
  rfl
theorem firstF_wrap (p : List UInt8) (h : p.length ≤ 65536) : firstF (wrapL p) = (p, 9 + p.length, 0) := by
  have e1 : wrapL p = 165 :: UInt8.ofNat p.length :: UInt8.ofNat (p.length / 256) :: UInt8.ofNat (p.length / 65536) :: UInt8.ofNat (p.length / 16777216) :: UInt8.ofNat (sumL p) :: UInt8.ofNat (sumL p / 256) :: UInt8.ofNat (sumL p / 65536) :: UInt8.ofNat (sumL p / 16777216) :: p := rfl
  have n4 : ∀ n : Nat, n < 4294967296 → num4 (UInt8.ofNat n) (UInt8.ofNat (n / 256)) (UInt8.ofNat (n / 65536)) (UInt8.ofNat (n / 16777216)) = n := by
    intro n hn
    simp only [num4, UInt8.toNat_ofNat']
    omega
  have a1 := n4 p.length (by omega)
  have a2 := n4 (sumL p) (sumL_lt p)
  rw [e1, firstF_ok _ _ _ _ _ _ _ _ _ (by rw [a1]; omega) (by rw [a1]; omega) (by rw [a1, a2, List.take_length]), a1, List.take_length]
end Go.Proofs.Ytopknmmckcijkaa
