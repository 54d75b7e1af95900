/-
  Records in a row: read back as far as they are whole. Plain laws over lists.
-/
import Derived.Test.YtopknmmckcijkaaPg
set_option linter.unusedVariables false
set_option linter.unusedSimpArgs false
namespace Go.Wk
open Go Go.RowKit
/-- The payloads that stand there, how many bytes they have, and the error. -/
def scanN : Nat → List UInt8 → List (List UInt8) × Nat × Nat
  | 0, _ => ([], 0, 0)
  | n + 1, l => if l = [] then ([], 0, 0) else if (firstF l).2.2 ≠ 0 then ([], 0, (firstF l).2.2) else ((firstF l).1 :: (scanN n (l.drop (firstF l).2.1)).1, (firstF l).2.1 + (scanN n (l.drop (firstF l).2.1)).2.1, (scanN n (l.drop (firstF l).2.1)).2.2)
theorem scanN_nil (n : Nat) : scanN n [] = ([], 0, 0) := by cases n <;> rfl
theorem scanN_err {n : Nat} {l : List UInt8} (h : l ≠ []) (he : (firstF l).2.2 ≠ 0) : scanN (n + 1) l = ([], 0, (firstF l).2.2) := by rw [scanN, if_neg h, if_pos he]
theorem scanN_ok {n : Nat} {l : List UInt8} (h : l ≠ []) (he : (firstF l).2.2 = 0) : scanN (n + 1) l = ((firstF l).1 :: (scanN n (l.drop (firstF l).2.1)).1, (firstF l).2.1 + (scanN n (l.drop (firstF l).2.1)).2.1, (scanN n (l.drop (firstF l).2.1)).2.2) := by
  rw [scanN, if_neg h, if_neg (by rw [he]; simp)]
/-- What a frame that is whole has. -/
theorem firstF_whole {l : List UInt8} (h : (firstF l).2.2 = 0) (hne : l ≠ []) : 9 ≤ (firstF l).2.1 ∧ (firstF l).2.1 ≤ l.length ∧ (firstF l).1.length + 9 = (firstF l).2.1 := by
  cases l with
  | nil => exact absurd rfl hne
  | cons x0 t =>
    by_cases h0 : x0 = 165
    · subst h0
      by_cases h8 : t.length < 8
      · rw [firstF_short t h8] at h; simp at h
      · obtain ⟨x1, x2, x3, x4, x5, x6, x7, x8, r, rfl⟩ := long8 t (by omega)
        by_cases hL : num4 x1 x2 x3 x4 > 65536
        · rw [firstF_large _ _ _ _ _ _ _ _ _ hL] at h; simp at h
        · by_cases hS : num4 x1 x2 x3 x4 > r.length
          · rw [firstF_less _ _ _ _ _ _ _ _ _ hL hS] at h; simp at h
          · by_cases hC : sumL (r.take (num4 x1 x2 x3 x4)) = num4 x5 x6 x7 x8
            · rw [firstF_ok _ _ _ _ _ _ _ _ _ hL hS hC]
              simp; omega
            · rw [firstF_sum _ _ _ _ _ _ _ _ _ hL hS hC] at h; simp at h
    · rw [firstF_ne x0 t h0] at h; simp at h
def Wl (ins : List (List UInt8)) : List UInt8 := (ins.map wrapL).flatten
theorem Wl_cons (r : List UInt8) (rs : List (List UInt8)) : Wl (r :: rs) = wrapL r ++ Wl rs := rfl
theorem Wl_app (a b : List (List UInt8)) : Wl (a ++ b) = Wl a ++ Wl b := by simp [Wl]
theorem Wl_one (r : List UInt8) : Wl [r] = wrapL r := by simp [Wl]
theorem wrapL_cons (p : List UInt8) : wrapL p = 165 :: UInt8.ofNat p.length :: UInt8.ofNat (p.length / 256) :: UInt8.ofNat (p.length / 65536) :: UInt8.ofNat (p.length / 16777216) :: UInt8.ofNat (sumL p) :: UInt8.ofNat (sumL p / 256) :: UInt8.ofNat (sumL p / 65536) :: UInt8.ofNat (sumL p / 16777216) :: p := rfl
theorem num4_le4 (n : Nat) (hn : n < 4294967296) : num4 (UInt8.ofNat n) (UInt8.ofNat (n / 256)) (UInt8.ofNat (n / 65536)) (UInt8.ofNat (n / 16777216)) = n := by
  simp only [num4, UInt8.toNat_ofNat']
  omega
theorem firstF_wrapA (p q : List UInt8) (h : p.length ≤ 65536) : firstF (wrapL p ++ q) = (p, 9 + p.length, 0) := by
  have a1 := num4_le4 p.length (by omega)
  have a2 := num4_le4 (sumL p) (sumL_lt p)
  rw [wrapL_cons]
  simp only [List.cons_append]
  rw [firstF_ok _ _ _ _ _ _ _ _ _ (by rw [a1]; omega) (by rw [a1]; simp) (by rw [a1, a2, List.take_left]), a1, List.take_left]
/-- A frame that ends too early. -/
theorem firstF_part (p : List UInt8) (h : p.length ≤ 65536) (K : Nat) (h0 : 0 < K) (h1 : K < 9 + p.length) : firstF ((wrapL p).take K) = ([], 0, 2) := by
  have a1 := num4_le4 p.length (by omega)
  rw [wrapL_cons]
  obtain ⟨k, rfl⟩ : ∃ k, K = k + 1 := ⟨K - 1, by omega⟩
  rw [List.take_succ_cons]
  by_cases h8 : k < 8
  · exact firstF_short _ (by rw [List.length_take]; omega)
  · obtain ⟨q, rfl⟩ : ∃ q, k = q + 8 := ⟨k - 8, by omega⟩
    simp only [List.take_succ_cons]
    exact firstF_less _ _ _ _ _ _ _ _ _ (by rw [a1]; omega) (by rw [a1, List.length_take]; omega)
/-- What is read of a beginning of records that were put down. -/
theorem scan_prefix : ∀ (ins : List (List UInt8)) (K n : Nat), (∀ r ∈ ins, r.length ≤ 65536) → K ≤ (Wl ins).length → K ≤ n →
    ∃ m e, m ≤ ins.length ∧ scanN n ((Wl ins).take K) = (ins.take m, (Wl (ins.take m)).length, e) ∧ (e = 0 ∨ e = 2) ∧ (Wl (ins.take m)).length ≤ K ∧ (∀ j, j ≤ ins.length → (Wl (ins.take j)).length ≤ K → j ≤ m)
  | [], K, n, _, hK, hn => by
    have : (Wl ([] : List (List UInt8))).take K = [] := by simp [Wl]
    rw [this, scanN_nil]
    exact ⟨0, 0, Nat.le_refl _, rfl, .inl rfl, by simp [Wl], fun j hj _ => hj⟩
  | r :: rs, K, n, hr, hK, hn => by
    have hrl := hr r (by simp)
    have hrs : ∀ x ∈ rs, x.length ≤ 65536 := fun x hx => hr x (by simp [hx])
    have hlen : ∀ j, (Wl ((r :: rs).take (j + 1))).length = 9 + r.length + (Wl (rs.take j)).length := by
      intro j; rw [List.take_succ_cons, Wl_cons, List.length_append, wrapL_length]
    rcases Nat.eq_zero_or_pos K with h0 | h0
    · subst h0
      rw [List.take_zero, scanN_nil]
      refine ⟨0, 0, Nat.zero_le _, rfl, .inl rfl, by simp [Wl], fun j hj h => ?_⟩
      cases j with
      | zero => exact Nat.le_refl _
      | succ j => rw [hlen] at h; omega
    · obtain ⟨n, rfl⟩ : ∃ q, n = q + 1 := ⟨n - 1, by omega⟩
      rw [Wl_cons]
      by_cases hp : K < 9 + r.length
      · have ht : (wrapL r ++ Wl rs).take K = (wrapL r).take K := List.take_append_of_le_length (by rw [wrapL_length]; omega)
        have hne : (wrapL r).take K ≠ [] := by
          intro hh
          have := congrArg List.length hh
          rw [List.length_take, wrapL_length] at this
          simp at this; omega
        have hf := firstF_part r hrl K h0 hp
        rw [ht, scanN_err hne (by rw [hf]; simp), hf]
        refine ⟨0, 2, Nat.zero_le _, rfl, .inr rfl, by simp [Wl], fun j hj h => ?_⟩
        cases j with
        | zero => exact Nat.le_refl _
        | succ j => rw [hlen] at h; omega
      · have hw : (wrapL r).length = 9 + r.length := wrapL_length r
        have ht : (wrapL r ++ Wl rs).take K = wrapL r ++ (Wl rs).take (K - (9 + r.length)) := by
          rw [List.take_append, List.take_of_length_le (by omega), hw]
        have hne : wrapL r ++ (Wl rs).take (K - (9 + r.length)) ≠ [] := by
          intro hh
          have := congrArg List.length hh
          rw [List.length_append, hw] at this
          simp at this
        have hf := firstF_wrapA r ((Wl rs).take (K - (9 + r.length))) hrl
        rw [Wl_cons, List.length_append, hw] at hK
        obtain ⟨m, e, m1, m2, m3, m4, m5⟩ := scan_prefix rs (K - (9 + r.length)) n hrs (by omega) (by omega)
        have hd : (wrapL r ++ (Wl rs).take (K - (9 + r.length))).drop (9 + r.length) = (Wl rs).take (K - (9 + r.length)) := by rw [← hw, List.drop_left]
        rw [ht, scanN_ok hne (by rw [hf]), hf]
        dsimp only
        rw [hd, m2]
        refine ⟨m + 1, e, by simp; omega, ?_, m3, by rw [hlen]; omega, fun j hj h => ?_⟩
        · dsimp only
          rw [List.take_succ_cons, Wl_cons, List.length_append, hw]
        · cases j with
          | zero => omega
          | succ j =>
            rw [hlen] at h
            have := m5 j (by simpa using hj) (by omega)
            omega
end Go.Wk
