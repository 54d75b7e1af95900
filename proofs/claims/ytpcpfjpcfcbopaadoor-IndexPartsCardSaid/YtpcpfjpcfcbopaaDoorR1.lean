/-
  Chapter 35: two rows are put together, as plain forms; plain Lean.
-/
import Derived.Test.YtpcpfjpcfcbopaaDoorLA
set_option linter.unusedVariables false
set_option linter.unusedSimpArgs false
namespace Go.Proofs.YtpcpfjpcfcbopaaDoor
open Go Go.RowKit Go.Wk
theorem cutTl {α : Type} (x : α) (a : List α) : cutL (x :: a) 1 ((x :: a).length : Int) = some a := by
  unfold cutL; rw [if_pos (by simp only [List.length_cons]; omega)]; simp
/-- One step of a merge, whatever is kept. -/
def mstep (K : Bool → Bool → Option Bool) (J : List Int → Option (List Int)) (L : List Int → List Int → List Int → Option (List Int)) (y9 y12 y15 : List Int) : Option (List Int) :=
    if ((y9.length : Int) > 0) ∨ ((y12.length : Int) > 0) then
    (jn (fun (y24 : Bool) =>
        (jn (fun (y26 : Bool) =>
            (jn (fun (y28 : (List Int)) (y31 : Int) =>
                (jn (fun (y33 : (List Int)) (y36 : Int) =>
                    ((K y24 y26).bind fun p38 =>
                      if p38 = true then
                      ((appL y15 [y36]).bind fun z41 =>
                        L y28 y33 z41)
                      else
                      (L y28 y33 y15))) fun j5 =>
                  if y26 = true then
                  ((idx y12 0).bind fun z45 =>
                    (cutL y12 1 ((y12).length)).bind fun z48 =>
                    j5 z48 z45)
                  else
                  (j5 y12 y31))) fun j4 =>
              if y24 = true then
              ((idx y9 0).bind fun z54 =>
                (cutL y9 1 ((y9).length)).bind fun z57 =>
                j4 z57 z54)
              else
              (j4 y9 0))) fun j3 =>
          if (y12.length : Int) > 0 then
          (if (y9.length : Int) = 0 then
            (j3 true)
            else
            ((idx y12 0).bind fun z64 =>
              (idx y9 0).bind fun z67 =>
              j3 (decide (z64 ≤ z67))))
          else
          (j3 false))) fun j2 =>
      if (y9.length : Int) > 0 then
      (if (y12.length : Int) = 0 then
        (j2 true)
        else
        ((idx y9 0).bind fun z73 =>
          (idx y12 0).bind fun z76 =>
          j2 (decide (z73 ≤ z76))))
      else
      (j2 false))
    else
    (J y15)
section
variable {K : Bool → Bool → Bool} {J : List Int → Option (List Int)} {L : List Int → List Int → List Int → Option (List Int)} {acc : List Int}
def kpM (L : List Int → List Int → List Int → Option (List Int)) (k : Bool) (x : Int) (a b acc : List Int) : Option (List Int) := if k = true then (appL acc [x]).bind fun z => L a b z else L a b acc
theorem len_pos (x : Int) (a : List Int) : ((x :: a).length : Int) > 0 := by simp only [List.length_cons]; omega
theorem len_ne (x : Int) (a : List Int) : ¬ ((x :: a).length : Int) = 0 := by simp only [List.length_cons]; omega
theorem mstep_nil : mstep (fun x y => some (K x y)) J L [] [] acc = J acc := by
  unfold mstep; rw [if_neg (by simp)]
theorem mstep_l (x : Int) (a : List Int) : mstep (fun x y => some (K x y)) J L (x :: a) [] acc = kpM L (K true false) x a [] acc := by
  unfold mstep
  rw [if_pos (.inl (len_pos x a))]
  simp only [jn_eq, if_pos (len_pos x a), List.length_nil, Int.ofNat_zero, if_true, idx0, bndS, cutTl, show ¬ ((0 : Int) > 0) from by omega, if_false, kpM, Bool.false_eq_true]
theorem mstep_r (y : Int) (b : List Int) : mstep (fun x y => some (K x y)) J L [] (y :: b) acc = kpM L (K false true) y [] b acc := by
  unfold mstep
  rw [if_pos (.inr (len_pos y b))]
  simp only [jn_eq, if_pos (len_pos y b), List.length_nil, Int.ofNat_zero, if_true, idx0, bndS, cutTl, show ¬ ((0 : Int) > 0) from by omega, if_false, kpM, Bool.false_eq_true]
theorem mstep_b (x y : Int) (a b : List Int) : mstep (fun x y => some (K x y)) J L (x :: a) (y :: b) acc = if x < y then kpM L (K true false) x a (y :: b) acc else if y < x then kpM L (K false true) y (x :: a) b acc else kpM L (K true true) x a b acc := by
  unfold mstep
  rw [if_pos (.inl (len_pos x a))]
  simp only [jn_eq, if_pos (len_pos x a), if_pos (len_pos y b), if_neg (len_ne x a), if_neg (len_ne y b), idx0, bndS, cutTl]
  by_cases h1 : x < y
  · rw [if_pos h1]
    have e1 : decide (x ≤ y) = true := by simp; omega
    have e2 : decide (y ≤ x) = false := by simp; omega
    simp only [e1, e2, if_true, Bool.false_eq_true, if_false, kpM]
  · rw [if_neg h1]
    by_cases h2 : y < x
    · rw [if_pos h2]
      have e1 : decide (x ≤ y) = false := by simp; omega
      have e2 : decide (y ≤ x) = true := by simp; omega
      simp only [e1, e2, if_true, Bool.false_eq_true, if_false, kpM]
    · rw [if_neg h2]
      have e : x = y := by omega
      subst e
      have e1 : decide (x ≤ x) = true := by simp
      simp only [e1, if_true, kpM]
/-- Two rows put together. -/
def mgE (K : Bool → Bool → Bool) (a b : List Int) : List Int :=
  match a, b with
  | [], [] => []
  | x :: a, [] => (if K true false = true then [x] else []) ++ mgE K a []
  | [], y :: b => (if K false true = true then [y] else []) ++ mgE K [] b
  | x :: a, y :: b => if x < y then (if K true false = true then [x] else []) ++ mgE K a (y :: b) else if y < x then (if K false true = true then [y] else []) ++ mgE K (x :: a) b else (if K true true = true then [x] else []) ++ mgE K a b
termination_by a.length + b.length
theorem kpM_eq {M : List Int → List Int → List Int → Option (List Int)} {G : List Int} (k : Bool) (x : Int) (a b acc : List Int) (hl : acc.length + 1 ≤ 1073741824) (h : ∀ acc', acc'.length ≤ acc.length + 1 → M a b acc' = J (acc' ++ G)) : kpM M k x a b acc = J (acc ++ ((if k = true then [x] else []) ++ G)) := by
  unfold kpM
  cases k with
  | true => rw [if_pos rfl, if_pos rfl, app_some (by simpa using hl), bndS, h _ (by simp)]; simp
  | false => rw [if_neg (by simp), if_neg (by simp), h _ (by omega)]; simp
theorem merge_eq (M : Nat → List Int → List Int → List Int → Option (List Int)) (hM : ∀ n a b acc, M (n + 1) a b acc = mstep (fun x y => some (K x y)) J (M n) a b acc) :
    ∀ (m n : Nat) (a b acc : List Int), a.length + b.length = m → m < n → acc.length + m ≤ 1073741824 → M n a b acc = J (acc ++ mgE K a b)
  | m, 0, _, _, _, _, h, _ => by omega
  | 0, n + 1, a, b, acc, h, _, _ => by
    have ha : a = [] := List.eq_nil_of_length_eq_zero (by omega)
    have hb : b = [] := List.eq_nil_of_length_eq_zero (by omega)
    subst ha hb
    rw [hM, mstep_nil, mgE]; simp
  | m + 1, n + 1, a, b, acc, h, hn, hl => by
    rw [hM]
    match a, b, h with
    | [], [], h => simp at h
    | x :: a, [], h =>
      rw [mstep_l, mgE]
      exact kpM_eq _ _ _ _ _ (by omega) fun acc' ha => merge_eq M hM m n a [] acc' (by simp at h ⊢; omega) (by omega) (by omega)
    | [], y :: b, h =>
      rw [mstep_r, mgE]
      exact kpM_eq _ _ _ _ _ (by omega) fun acc' ha => merge_eq M hM m n [] b acc' (by simp at h ⊢; omega) (by omega) (by omega)
    | x :: a, y :: b, h =>
      rw [mstep_b, mgE]
      by_cases h1 : x < y
      · rw [if_pos h1, if_pos h1]
        exact kpM_eq _ _ _ _ _ (by omega) fun acc' ha => merge_eq M hM m n a (y :: b) acc' (by simp at h ⊢; omega) (by omega) (by omega)
      · rw [if_neg h1, if_neg h1]
        by_cases h2 : y < x
        · rw [if_pos h2, if_pos h2]
          exact kpM_eq _ _ _ _ _ (by omega) fun acc' ha => merge_eq M hM m n (x :: a) b acc' (by simp at h ⊢; omega) (by omega) (by omega)
        · rw [if_neg h2, if_neg h2]
          have hl2 : a.length + b.length + 2 = m + 1 := by simp at h; omega
          match m, hl2 with
          | m + 1, hl2 => exact kpM_eq _ _ _ _ _ (by omega) fun acc' ha => merge_eq M hM m n a b acc' (by omega) (by omega) (by omega)
end
def kOr (_ _ : Bool) : Bool := true
def kAnd (a b : Bool) : Bool := a && b
def kLess (_ b : Bool) : Bool := !b
section
variable {a b : List Int} (h : a.length + b.length ≤ 1000000)
include h
theorem ixOr_eq : m_index_Or a b = some (mgE kOr a b) := by
  unfold m_index_Or m_index_merge_s1
  rw [jn_eq, merge_eq (K := kOr) (fun n => m_index_merge_s1_L1 (fun y => some y) n) (fun n a b acc => rfl) (a.length + b.length) fuel a b [] rfl (by unfold fuel; omega) (by simp; omega)]
  simp
theorem ixLess_eq : m_index_Less a b = some (mgE kLess a b) := by
  unfold m_index_Less m_index_merge_s2
  rw [jn_eq, merge_eq (K := kLess) (fun n => m_index_merge_s2_L1 (fun y => some y) n) (fun n a b acc => rfl) (a.length + b.length) fuel a b [] rfl (by unfold fuel; omega) (by simp; omega)]
  simp
theorem ixAnd_eq : m_index_And a b = some (mgE kAnd a b) := by
  unfold m_index_And m_index_merge_s3
  rw [jn_eq, merge_eq (K := kAnd) (fun n => m_index_merge_s3_L1 (fun y => some y) n) (fun n a b acc => by
    show mstep (fun x y => some (decide ((x = true) ∧ (y = true)))) _ _ _ _ _ = _
    congr 1; funext x y; cases x <;> cases y <;> rfl) (a.length + b.length) fuel a b [] rfl (by unfold fuel; omega) (by simp; omega)]
  simp
end
end Go.Proofs.YtpcpfjpcfcbopaaDoor
