/-
  Plain laws over lists with keys: found, put in order, sorted. No program in sight.
-/
import Derived.Test.YtlfppodekihcmaaGreatDoorWp
import Derived.Test.YtlfppodekihcmaaGreatDoorWu
import Derived.Sort.KeysCollected
import Derived.Sort.Walk0
set_option linter.unusedVariables false
set_option linter.unusedSimpArgs false
namespace Go.Wk
open Go Go.RowKit
/-- The first that is so, or none. -/
theorem splitF {α : Type} (p : α → Bool) : ∀ l : List α, (∀ x ∈ l, p x = false) ∨ ∃ a x b, l = a ++ x :: b ∧ (∀ y ∈ a, p y = false) ∧ p x = true
  | [] => .inl (by simp)
  | z :: r => by
    cases hz : p z with
    | true => exact .inr ⟨[], z, r, rfl, by simp, hz⟩
    | false =>
      rcases splitF p r with h | ⟨a, x, b, rfl, h1, h2⟩
      · exact .inl fun x hx => by rcases List.mem_cons.1 hx with rfl | hx; exact hz; exact h x hx
      · exact .inr ⟨z :: a, x, b, rfl, fun y hy => by rcases List.mem_cons.1 hy with rfl | hy; exact hz; exact h1 y hy, h2⟩
theorem bl_eq (x y : List UInt8) : Op.bytesLess x y = decide (x < y) := Go.Proofs.bytesLess_eq x y
theorem bl_iff {x y : List UInt8} : Op.bytesLess x y = true ↔ x < y := by rw [bl_eq]; simp
theorem tle_trans {a b c : List UInt8} (h1 : a ≤ b) (h2 : b ≤ c) : a ≤ c := List.le_trans h1 h2
theorem tle_total (a b : List UInt8) : a ≤ b ∨ b ≤ a := List.le_total a b
theorem tle_refl (a : List UInt8) : a ≤ a := List.le_refl a
theorem tlt_le {a b : List UInt8} (h : a < b) : a ≤ b := List.le_of_lt h
theorem tnlt {a b : List UInt8} (h : ¬ a < b) : b ≤ a := List.not_lt.1 h
theorem tle_anti {a b : List UInt8} (h1 : a ≤ b) (h2 : b ≤ a) : a = b := List.le_antisymm h1 h2
theorem tlt_irr (a : List UInt8) : ¬ a < a := List.lt_irrefl a
theorem tlt_of {a b : List UInt8} (h : a ≤ b) (hne : a ≠ b) : a < b := by
  rcases Decidable.em (a < b) with hh | hh
  · exact hh
  · exact absurd (tle_anti h (tnlt hh)) hne
/-- A loop from the end on, down to where it stops. -/
theorem back_scan {R : Type} (L : Nat → Int → Option R) (j : Int → Option R) (p : Nat → Bool) (m : Nat) (hm : m < 1000000) (h : ∀ n k : Nat, k ≤ m → L (n + 1) (k : Int) = if 0 < k ∧ p (k - 1) = true then L n ((k - 1 : Nat) : Int) else j k) :
    ∃ k : Nat, k ≤ m ∧ L fuel (m : Int) = j k ∧ (∀ i, k ≤ i → i < m → p i = true) ∧ (k = 0 ∨ p (k - 1) = false) := by
  have key : ∀ (k n : Nat), k ≤ m → k < n → (∀ i, k ≤ i → i < m → p i = true) → ∃ q : Nat, q ≤ m ∧ L n (k : Int) = j q ∧ (∀ i, q ≤ i → i < m → p i = true) ∧ (q = 0 ∨ p (q - 1) = false) := by
    intro k
    induction k with
    | zero =>
      intro n h1 h2 h3
      obtain ⟨n, rfl⟩ : ∃ q, n = q + 1 := ⟨n - 1, by omega⟩
      exact ⟨0, by omega, by rw [h n 0 h1, if_neg (by omega)], h3, .inl rfl⟩
    | succ k ih =>
      intro n h1 h2 h3
      obtain ⟨n, rfl⟩ : ∃ q, n = q + 1 := ⟨n - 1, by omega⟩
      rw [h n (k + 1) h1]
      by_cases hp : p k = true
      · rw [if_pos ⟨by omega, by simpa using hp⟩]
        exact ih n (by omega) (by omega) fun i h4 h5 => by
          rcases Nat.lt_or_ge k i with h6 | h6
          · exact h3 i h6 h5
          · have : i = k := by omega
            subst this; exact hp
      · rw [if_neg (by simp; exact Bool.eq_false_iff.2 hp)]
        exact ⟨k + 1, h1, rfl, h3, .inr (by simp; exact Bool.eq_false_iff.2 hp)⟩
  obtain ⟨F, hF⟩ := fuelS (m + 1) (by omega)
  exact key m fuel (Nat.le_refl _) (by omega) fun i h4 h5 => by omega
section
variable {α : Type} (key : α → List UInt8)
/-- Rising keys. -/
def Rising (l : List α) : Prop := l.Pairwise fun a b => key a ≤ key b
variable {key}
theorem Rising.insert {s : List α} {x : α} {k : Nat} (hk : k ≤ s.length) (hs : Rising key s) (h1 : ∀ i, k ≤ i → (h : i < s.length) → key x < key s[i]) (h2 : k = 0 ∨ ∃ h : k - 1 < s.length, ¬ key x < key s[k - 1]) :
    Rising key (s.take k ++ x :: s.drop k) ∧ (s.take k ++ x :: s.drop k).Perm (x :: s) := by
  refine ⟨?_, ?_⟩
  · have ht : Rising key (s.take k) := hs.sublist (List.take_sublist _ _)
    have hd : Rising key (s.drop k) := hs.sublist (List.drop_sublist _ _)
    have hle : ∀ y ∈ s.take k, key y ≤ key x := by
      intro y hy
      rcases h2 with rfl | ⟨hlt, h2⟩
      · simp at hy
      · obtain ⟨i, hi, rfl⟩ := List.getElem_of_mem hy
        have hik : i < k := by rw [List.length_take] at hi; omega
        rw [List.getElem_take]
        refine tle_trans ?_ (tnlt h2)
        rcases Nat.lt_or_ge i (k - 1) with h3 | h3
        · exact List.pairwise_iff_getElem.1 hs i (k - 1) _ _ h3
        · have : i = k - 1 := by omega
          subst this; exact tle_refl _
    have hgt : ∀ y ∈ s.drop k, key x ≤ key y := by
      intro y hy
      obtain ⟨i, hi, rfl⟩ := List.getElem_of_mem hy
      rw [List.length_drop] at hi
      rw [List.getElem_drop]
      exact tlt_le (h1 (k + i) (by omega) (by omega))
    refine List.pairwise_append.2 ⟨ht, List.pairwise_cons.2 ⟨hgt, hd⟩, fun a ha b hb => ?_⟩
    rcases List.mem_cons.1 hb with rfl | hb
    · exact hle a ha
    · exact tle_trans (hle a ha) (hgt b hb)
  · refine (List.perm_middle).trans ?_
    rw [List.take_append_drop]
/-- What is sorted is told by what is in it. -/
theorem sort_keys {β : Type} {ps : Kv β} {s : List α} (hp : (s.map key).Perm (ps.map (·.1))) (hs : Rising key s) : s.map key = sortK ps := by
  unfold sortK
  have h1 : (s.map key).mergeSort leB = (ps.map (·.1)).mergeSort leB := mergeSort_of_perm hp
  show _ = (ps.map (·.1)).mergeSort leB
  rw [← h1]
  refine (List.mergeSort_of_pairwise ?_).symm
  rw [List.pairwise_map]
  exact hs.imp fun h => by simpa [leB] using h
end
/- maps -/
section
variable {α : Type}
theorem lookP_none {key : List UInt8} {l : Kv α} : lookP key l = none ↔ ∀ p ∈ l, p.1 ≠ key := by
  unfold lookP
  rw [Option.map_eq_none_iff, List.find?_eq_none]
  simp
theorem lookP_mem {key : List UInt8} {x : α} {l : Kv α} (h : lookP key l = some x) : (key, x) ∈ l := by
  unfold lookP at h
  obtain ⟨p, h1, rfl⟩ := Option.map_eq_some_iff.1 h
  have h2 := List.find?_some h1
  have h3 := List.mem_of_find?_eq_some h1
  have : p.1 = key := by simpa using h2
  subst this; exact h3
theorem nodup_un {l : Kv α} (hn : (l.map (·.1)).Nodup) {k : List UInt8} {x y : α} (h1 : (k, x) ∈ l) (h2 : (k, y) ∈ l) : x = y := by
  obtain ⟨i, hi, e1⟩ := List.getElem_of_mem h1
  obtain ⟨j, hj, e2⟩ := List.getElem_of_mem h2
  have : i = j := by
    have e : (l.map (·.1))[i]? = (l.map (·.1))[j]? := by simp [hi, hj, e1, e2]
    exact (List.getElem?_inj (by simpa using hi) hn).1 e
  subst this
  rw [e1] at e2; exact (Prod.mk.inj e2).2
theorem lookP_of_mem {l : Kv α} (hn : (l.map (·.1)).Nodup) {k : List UInt8} {x : α} (h : (k, x) ∈ l) : lookP k l = some x := by
  cases hl : lookP k l with
  | none => exact absurd rfl (lookP_none.1 hl _ h)
  | some y => rw [nodup_un hn (lookP_mem hl) h]
theorem lookP_perm {l m : Kv α} (hp : l.Perm m) (hn : (l.map (·.1)).Nodup) (k : List UInt8) : lookP k l = lookP k m := by
  have hn' : (m.map (·.1)).Nodup := (hp.map _).nodup_iff.1 hn
  cases h : lookP k l with
  | some x => exact (lookP_of_mem hn' (hp.mem_iff.1 (lookP_mem h))).symm
  | none =>
    symm
    rw [lookP_none] at h ⊢
    exact fun p hp' => h p (hp.mem_iff.2 hp')
theorem delP_filter (k : List UInt8) : ∀ (l : Kv α), (l.map (·.1)).Nodup → delP k l = l.filter fun p => decide (p.1 ≠ k)
  | [], _ => rfl
  | p :: r, hn => by
    rw [List.map_cons, List.nodup_cons] at hn
    by_cases hk : p.1 = k
    · rw [delP, if_pos hk, List.filter_cons_of_neg (by simp [hk])]
      refine (List.filter_eq_self.2 fun q hq => ?_).symm
      simp only [ne_eq, decide_not, Bool.not_eq_true', decide_eq_false_iff_not]
      exact fun h => hn.1 (by rw [hk, ← h]; exact List.mem_map_of_mem hq)
    · rw [delP, if_neg hk, delP_filter k r hn.2, List.filter_cons_of_pos (by simp [hk])]
theorem putP_perm (k : List UInt8) (x : α) : ∀ (l : Kv α), (putP k x l).Perm (delP k l ++ [(k, x)])
  | [] => .refl _
  | p :: r => by
    by_cases hk : p.1 = k
    · rw [putP, if_pos hk, delP, if_pos hk]; exact (List.perm_append_singleton _ _).symm
    · rw [putP, if_neg hk, delP, if_neg hk]; exact (putP_perm k x r).cons p
theorem perm_len {l m : List α} (h : l.Perm m) : l.length = m.length := h.length_eq
theorem nodup_el {β : Type} {key : α → β} {l : List α} (hn : (l.map key).Nodup) {x y : α} (hx : x ∈ l) (hy : y ∈ l) (h : key x = key y) : x = y := by
  obtain ⟨i, hi, e1⟩ := List.getElem_of_mem hx
  obtain ⟨j, hj, e2⟩ := List.getElem_of_mem hy
  have hij : i = j := by
    have e : (l.map key)[i]? = (l.map key)[j]? := by rw [List.getElem?_map, List.getElem?_map, List.getElem?_eq_getElem hi, List.getElem?_eq_getElem hj, e1, e2]; simp [h]
    exact (List.getElem?_inj (by simpa using hi) hn).1 e
  subst hij
  exact e1.symm.trans e2
end
end Go.Wk
namespace Go.Wk
open Go Go.RowKit
/-- A scan's outcome, told by what it is of: the rest and the state. -/
theorem scanL_post {α S R : Type} {l : List α} {s : S} {B : Nat → α → S → (S → Option R) → Option R} {J : S → Option R} (I : List α → S → Prop) (Q : List α → S → Option R → Prop) (hI : I [] s)
    (h0 : ∀ s, I l s → Q [] s (J s)) (h1 : ∀ p x q s k, p ++ x :: q = l → I p s → (∀ s', I (p ++ [x]) s' → Q q s' (k s')) → Q (x :: q) s (B p.length x s k)) : Q l s (scanL l s B J) := by
  unfold scanL
  have key : ∀ (q p : List α) (s : S), p ++ q = l → I p s → Q q s (scan B J p.length q s) := by
    intro q
    induction q with
    | nil => intro p s hp hI; rw [List.append_nil] at hp; subst hp; exact h0 s hI
    | cons x q ih =>
      intro p s hp hI
      rw [scan_cons]
      refine h1 p x q s _ hp hI fun s' hI' => ?_
      have := ih (p ++ [x]) s' (by simpa using hp) hI'
      simpa using this
  exact key l [] s rfl hI
/-- Fuel, as much as is wanted. -/
theorem fuelB (k : Nat) (h : k ≤ 4611686018427387904) : ∃ m, fuel = m + k := ⟨fuel - k, (Nat.sub_add_cancel (by unfold fuel; exact h)).symm⟩
end Go.Wk
