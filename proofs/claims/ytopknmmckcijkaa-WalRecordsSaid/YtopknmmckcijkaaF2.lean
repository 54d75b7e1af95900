/-
  Chapter 25: checksums and frames, told shorter; plain Lean.
-/
import Derived.Test.YtopknmmckcijkaaLA
import Derived.Test.YtopknmmckcijkaaPd
set_option linter.unusedVariables false
set_option linter.unusedSimpArgs false
namespace Go.Proofs.Ytopknmmckcijkaa
open Go Go.RowKit Go.Wk
theorem step_eq (s : UInt32) : m_limnographref03_Step s = some (stepR s) := by
  unfold m_limnographref03_Step stepR rem32 quo32
  rw [if_neg (show ¬ ((2 : UInt32) = 0) by decide), if_neg (show ¬ ((2 : UInt32) = 0) by decide), bndS, bndS, jn_eq]
  by_cases h : s % (2 : UInt32) = 1
  · rw [if_pos h, if_pos (by rw [h]; rfl)]
  · rw [if_neg h, if_neg (fun hh => h (UInt32.toNat_inj.1 (by simpa using Int.ofNat.inj hh)))]
theorem more8 (j : UInt32 → Option UInt32) : ∀ (k : Nat) (i : Nat) (n : Nat) (s : UInt32), i + k = 8 → k < n → m_limnographref03_More_L2 j n s (i : Int) = j (stepRN k s)
  | 0, i, n, s, hi, hn => by
    obtain ⟨n, rfl⟩ : ∃ m, n = m + 1 := ⟨n - 1, by omega⟩
    rw [m_limnographref03_More_L2, if_neg (by omega)]; rfl
  | k + 1, i, n, s, hi, hn => by
    obtain ⟨n, rfl⟩ : ∃ m, n = m + 1 := ⟨n - 1, by omega⟩
    rw [m_limnographref03_More_L2, if_pos (by omega), step_eq, bndS, W64_up (by omega), more8 j k (i + 1) n _ (by omega) (by omega), stepRN_add k 1 s]
    rfl
theorem more_eq (s : UInt32) (l : List UInt8) (h : l.length < 4611686018427387904) : m_limnographref03_More s l = some (moreR s l) := by
  unfold m_limnographref03_More moreR
  rw [jn_eq, m_limnographref03_More_L1_scan _ _ _ h, scanL_fold byteR8]
  intro i x s k _
  rw [bndS, jn_eq]
  have h8 := more8 k 8 0 fuel (s ^^^ toU32 (x.toNat : Int)) rfl (by have := fuelS 9 (by omega); obtain ⟨m, hm⟩ := this; omega)
  have hx : toU32 (x.toNat : Int) = x.toUInt32 := by
    apply UInt32.toNat_inj.1
    have := x.toNat_lt
    simp [toU32, UInt32.toNat_ofNat']; omega
  rw [hx] at h8 ⊢
  exact h8
theorem refOf_eq (l : List UInt8) (h : l.length < 4611686018427387904) : m_limnographref03_Of l = some (ofR l) := by
  unfold m_limnographref03_Of
  rw [more_eq _ _ h, bndS]; rfl
end Go.Proofs.Ytopknmmckcijkaa
