/-
  Chapter 35: which rows an index has; plain Lean.
-/
import Derived.Test.YtpcpfjpcfcbopaaDoorLb
import Derived.Test.YtpcpfjpcfcbopaaDoorR3
set_option linter.unusedVariables false
set_option linter.unusedSimpArgs false
namespace Go.Proofs.YtpcpfjpcfcbopaaDoor
open Go Go.RowKit Go.Wk
/- ROWS OF THE SERIES OF WHICH SOMETHING IS SO -/
section
variable {α : Type}
def rowF (P : α → Bool) : Nat → List α → List Int
  | _, [] => []
  | i, k :: q => (if P k = true then [(i : Int)] else []) ++ rowF P (i + 1) q
theorem rowF_mem (P : α → Bool) (z : Int) : ∀ (i : Nat) (q : List α), z ∈ rowF P i q ↔ ∃ j k, q[j]? = some k ∧ P k = true ∧ z = ((i + j : Nat) : Int)
  | i, [] => by simp [rowF]
  | i, k :: q => by
    rw [rowF, mem_if, rowF_mem P z (i + 1) q]
    constructor
    · rintro (⟨h1, h2⟩ | ⟨j, x, h1, h2, h3⟩)
      · exact ⟨0, k, rfl, h1, h2⟩
      · exact ⟨j + 1, x, h1, h2, by rw [h3]; congr 1; omega⟩
    · rintro ⟨j, x, h1, h2, h3⟩
      cases j with
      | zero => simp at h1; subst h1; exact .inl ⟨h2, h3⟩
      | succ j => exact .inr ⟨j, x, h1, h2, by rw [h3]; congr 1; omega⟩
theorem rowF_asc (P : α → Bool) : ∀ (i : Nat) (q : List α), Asc (rowF P i q)
  | i, [] => List.Pairwise.nil
  | i, k :: q => asc_if (rowF_asc P (i + 1) q) fun z hz => by
    obtain ⟨j, x, _, _, h⟩ := (rowF_mem P z _ q).1 hz
    omega
theorem rowF_snoc (P : α → Bool) (k : α) : ∀ (i : Nat) (q : List α), rowF P i (q ++ [k]) = rowF P i q ++ (if P k = true then [((i + q.length : Nat) : Int)] else [])
  | i, [] => by simp [rowF]
  | i, x :: q => by
    rw [List.cons_append, rowF, rowF_snoc P k (i + 1) q, rowF, List.append_assoc, List.length_cons]
    have e : i + 1 + q.length = i + (q.length + 1) := by omega
    rw [e]
theorem rowF_len (P : α → Bool) : ∀ (i : Nat) (q : List α), (rowF P i q).length ≤ q.length
  | i, [] => by simp [rowF]
  | i, k :: q => by
    have := rowF_len P (i + 1) q
    rw [rowF, len_if]
    simp only [List.length_cons]
    split <;> omega
theorem rowF_all (i : Nat) (q : List α) : (rowF (fun _ => true) i q).length = q.length := by
  induction q generalizing i with
  | nil => rfl
  | cons k q ih => rw [rowF, len_if, ih]; simp; omega
theorem rowF_none (i : Nat) (q : List α) : rowF (fun _ => false) i q = [] := by
  induction q generalizing i with
  | nil => rfl
  | cons k q ih => rw [rowF, ih]; rfl
theorem rowF_ext {P Q : α → Bool} {i : Nat} {q : List α} (h : ∀ k ∈ q, P k = Q k) : rowF P i q = rowF Q i q := by
  induction q generalizing i with
  | nil => rfl
  | cons k q ih => rw [rowF, rowF, h k (by simp), ih fun x hx => h x (by simp [hx])]
/-- Rows with the same numbers are the same. -/
theorem asc_ext : ∀ {a b : List Int}, Asc a → Asc b → (∀ z, z ∈ a ↔ z ∈ b) → a = b
  | [], [], _, _, _ => rfl
  | x :: a, [], _, _, h => by have := (h x).1 (by simp); cases this
  | [], y :: b, _, _, h => by have := (h y).2 (by simp); cases this
  | x :: a, y :: b, ha, hb, h => by
    have ha' := List.pairwise_cons.1 ha
    have hb' := List.pairwise_cons.1 hb
    have e : x = y := by
      rcases List.mem_cons.1 ((h x).1 (by simp)) with h1 | h1
      · exact h1
      · rcases List.mem_cons.1 ((h y).2 (by simp)) with h2 | h2
        · exact h2.symm
        · have := hb'.1 x h1; have := ha'.1 y h2; omega
    subst e
    congr 1
    refine asc_ext ha'.2 hb'.2 fun z => ?_
    have hz := h z
    constructor
    · intro h1
      have h3 := ha'.1 z h1
      rcases List.mem_cons.1 (hz.1 (by simp [h1])) with h2 | h2
      · omega
      · exact h2
    · intro h1
      have h3 := hb'.1 z h1
      rcases List.mem_cons.1 (hz.2 (by simp [h1])) with h2 | h2
      · omega
      · exact h2
theorem rowF_in (P : α → Bool) (q : List α) {j : Nat} {k : α} (h : q[j]? = some k) : inB ((j : Nat) : Int) (rowF P 0 q) = P k := by
  have e := rowF_mem P ((j : Nat) : Int) 0 q
  cases hp : P k with
  | true => exact decide_eq_true (e.2 ⟨j, k, h, hp, by simp⟩)
  | false =>
    refine decide_eq_false fun hh => ?_
    obtain ⟨j', k', h1, h2, h3⟩ := e.1 hh
    have : j' = j := by omega
    subst this
    rw [h] at h1
    injection h1 with h1
    rw [h1, h2] at hp
    cases hp
theorem mg_rowF (K : Bool → Bool → Bool) (hK : K false false = false ∨ K = kLess ∨ K = kOr) (P Q : α → Bool) (q : List α) : mgE K (rowF P 0 q) (rowF Q 0 q) = rowF (fun k => (P k || Q k) && K (P k) (Q k)) 0 q := by
  refine asc_ext (mg_asc _ _ (rowF_asc P 0 q) (rowF_asc Q 0 q)) (rowF_asc _ 0 q) fun z => ?_
  rw [mg_mem z _ _ (rowF_asc P 0 q) (rowF_asc Q 0 q)]
  constructor
  · rintro ⟨h1, h2⟩
    have h3 : ∃ j k, q[j]? = some k ∧ z = ((j : Nat) : Int) := by
      rcases h1 with h1 | h1
      · obtain ⟨j, k, h4, _, h5⟩ := (rowF_mem P z 0 q).1 h1; exact ⟨j, k, h4, by rw [h5]; simp⟩
      · obtain ⟨j, k, h4, _, h5⟩ := (rowF_mem Q z 0 q).1 h1; exact ⟨j, k, h4, by rw [h5]; simp⟩
    obtain ⟨j, k, hk, rfl⟩ := h3
    rw [rowF_in P q hk, rowF_in Q q hk] at h2
    refine (rowF_mem _ _ 0 q).2 ⟨j, k, hk, ?_, by simp⟩
    rw [h2, Bool.and_true, Bool.or_eq_true, ← rowF_in P q hk, ← rowF_in Q q hk]
    exact h1.imp decide_eq_true decide_eq_true
  · intro h
    obtain ⟨j, k, hk, h1, h2⟩ := (rowF_mem _ z 0 q).1 h
    rw [Nat.zero_add] at h2
    subst h2
    rw [Bool.and_eq_true, Bool.or_eq_true] at h1
    rw [rowF_in P q hk, rowF_in Q q hk]
    refine ⟨h1.1.imp (fun h => ?_) fun h => ?_, h1.2⟩
    · rw [← rowF_in P q hk] at h; exact of_decide_eq_true h
    · rw [← rowF_in Q q hk] at h; exact of_decide_eq_true h
theorem and_rowF (P Q : α → Bool) (q : List α) : mgE kAnd (rowF P 0 q) (rowF Q 0 q) = rowF (fun k => P k && Q k) 0 q := by
  rw [mg_rowF kAnd (.inl rfl)]
  exact rowF_ext fun k _ => by cases P k <;> cases Q k <;> rfl
theorem or_rowF (P Q : α → Bool) (q : List α) : mgE kOr (rowF P 0 q) (rowF Q 0 q) = rowF (fun k => P k || Q k) 0 q := by
  rw [mg_rowF kOr (.inr (.inr rfl))]
  exact rowF_ext fun k _ => by cases P k <;> cases Q k <;> rfl
theorem less_rowF (P Q : α → Bool) (q : List α) : mgE kLess (rowF P 0 q) (rowF Q 0 q) = rowF (fun k => P k && !Q k) 0 q := by
  rw [mg_rowF kLess (.inr (.inl rfl))]
  exact rowF_ext fun k _ => by cases P k <;> cases Q k <;> rfl
end
/- WHAT LIES UNDER A KEY -/
section
variable {κ β : Type} [DecidableEq κ]
theorem lookO_put (a b : κ) (xs : List β) : ∀ R : Ko κ β, lookO a (putO b xs R) = if a = b then xs else lookO a R
  | [] => by
    unfold lookO putO
    by_cases h : b = a
    · simp [h]
    · simp [h, Ne.symm h]
  | p :: R => by
    have ih := lookO_put a b xs R
    unfold lookO at ih ⊢
    unfold putO
    by_cases h : p.1 = b
    · rw [if_pos h]
      by_cases h2 : b = a
      · subst h2; simp [h]
      · have h3 : ¬ p.1 = a := fun hh => h2 (h.symm.trans hh)
        simp [h2, h3, Ne.symm h2]
    · rw [if_neg h]
      by_cases h2 : p.1 = a
      · have h3 : ¬ a = b := fun hh => h (h2.trans hh)
        simp [h2, h3]
      · simp only [List.find?_cons, h2, decide_false]
        exact ih
theorem putO_mem (a b : κ) (xs : List β) : ∀ R : Ko κ β, a ∈ (putO b xs R).map (·.1) ↔ a = b ∨ a ∈ R.map (·.1)
  | [] => by simp [putO]
  | p :: R => by
    unfold putO
    by_cases h : p.1 = b
    · rw [if_pos h]; simp [h]
    · rw [if_neg h]
      have ih := putO_mem a b xs R
      simp only [List.map_cons, List.mem_cons] at ih ⊢
      rw [ih]
      constructor
      · rintro (h | h | h)
        · exact .inr (.inl h)
        · exact .inl h
        · exact .inr (.inr h)
      · rintro (h | h | h)
        · exact .inr (.inl h)
        · exact .inl h
        · exact .inr (.inr h)
theorem putO_len (b : κ) (xs : List β) : ∀ R : Ko κ β, (putO b xs R).length ≤ R.length + 1
  | [] => by simp [putO]
  | p :: R => by
    unfold putO
    have ih := putO_len b xs R
    split <;> simp <;> omega
end
section
variable {β : Type}
theorem lookP_put' (a b : List UInt8) (x : β) : ∀ R : Kv β, lookP a (putP b x R) = if a = b then some x else lookP a R
  | [] => by
    unfold lookP putP
    by_cases h : b = a
    · simp [h]
    · simp [h, Ne.symm h]
  | p :: R => by
    have ih := lookP_put' a b x R
    unfold lookP at ih ⊢
    unfold putP
    by_cases h : p.1 = b
    · rw [if_pos h]
      by_cases h2 : b = a
      · subst h2; simp [h]
      · have h3 : ¬ p.1 = a := fun hh => h2 (h.symm.trans hh)
        simp [h2, h3, Ne.symm h2]
    · rw [if_neg h]
      by_cases h2 : p.1 = a
      · have h3 : ¬ a = b := fun hh => h (h2.trans hh)
        simp [h2, h3]
      · simp only [List.find?_cons, h2, decide_false]
        exact ih
end
end Go.Proofs.YtpcpfjpcfcbopaaDoor
