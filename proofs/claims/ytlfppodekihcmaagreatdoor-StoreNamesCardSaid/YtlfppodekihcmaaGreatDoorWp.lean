/-
  Plain laws over the words of plain forms, for showing what a plain form computes. No program in sight.
-/
import Derived.Test.YtlfppodekihcmaaGreatDoorWk
set_option linter.unusedVariables false
set_option linter.unusedSimpArgs false
namespace Go.Wk
open Go Go.RowKit
theorem W64_id {z : Int} (h0 : -9223372036854775808 ≤ z) (h1 : z ≤ 9223372036854775807) : W64 z = z := by
  unfold W64 IntKind.wrap
  simp [IntKind.signed, IntKind.bits]
  split <;> omega
theorem idx_nat {α : Type} (l : List α) (k : Nat) : idx l (k : Int) = l[k]? := by unfold idx; simp
theorem idx_lt {α : Type} {l : List α} {i : Int} (h0 : 0 ≤ i) (h1 : i < l.length) : ∃ x, idx l i = some x := by
  unfold idx; rw [if_pos h0]; exact ⟨_, List.getElem?_eq_getElem (by omega)⟩
theorem idx_mid {α : Type} (p : List α) (x : α) (q : List α) : idx (p ++ x :: q) (p.length : Int) = some x := by rw [idx_nat]; simp
theorem idx_mid' {α : Type} {p : List α} {x : α} {q : List α} {i : Int} (h : i = p.length) : idx (p ++ x :: q) i = some x := by rw [h]; exact idx_mid p x q
theorem idx0 {α : Type} (x : α) (q : List α) : idx (x :: q) 0 = some x := rfl
theorem cut_mid {α : Type} (p q : List α) : cutL (p ++ q) 0 (p.length : Int) = some p := by
  unfold cutL; rw [if_pos (by simp; omega)]; simp
theorem cut_end {α : Type} (p q : List α) : cutL (p ++ q) (p.length : Int) ((p ++ q).length : Int) = some q := by
  unfold cutL; rw [if_pos (by simp; omega)]; congr 1; rw [Int.toNat_natCast, Int.toNat_natCast, List.take_length, List.drop_left]
theorem cut_some {α : Type} {l : List α} {a b : Int} (h0 : 0 ≤ a) (h1 : a ≤ b) (h2 : b ≤ l.length) : cutL l a b = some ((l.take b.toNat).drop a.toNat) := by unfold cutL; rw [if_pos ⟨h0, h1, h2⟩]
theorem app_some {α : Type} {l m : List α} (h : l.length + m.length ≤ 1073741824) : appL l m = some (l ++ m) := by unfold appL; rw [if_pos h]
theorem cat_some {a b : List UInt8} (h : a.length + b.length ≤ 9223372036854775807) : catS a b = some (a ++ b) := by unfold catS; rw [if_pos h]
theorem len_some {a : List UInt8} (h : a.length ≤ 1073741824) : lenS a = some a := by unfold lenS; rw [if_pos h]
theorem bndS {α β : Type} (a : α) (f : α → Option β) : (some a).bind f = f a := Eq.trans rfl rfl
theorem fuelS (k : Nat) (h : k ≤ 1000000) : ∃ m, fuel = m + k := ⟨fuel - k, (Nat.sub_add_cancel (Nat.le_trans h (by unfold fuel; exact Nat.le_of_ble_eq_true rfl))).symm⟩
theorem jn_eq {α β : Type} (F : α) (B : α → β) : jn F B = B F := Eq.trans rfl rfl
/-- A loop over a list by its index, with a state: L is the loop, B what is done at a place, J what comes behind. -/
def scan {α S R : Type} (B : Nat → α → S → (S → Option R) → Option R) (J : S → Option R) : Nat → List α → S → Option R
  | _, [], s => J s
  | i, x :: l, s => B i x s fun s' => scan B J (i + 1) l s'
theorem scan_eq {α S R : Type} (l : List α) (hl : l.length < 4611686018427387904) (L : Nat → S → Int → Option R) (B : Nat → α → S → (S → Option R) → Option R) (J : S → Option R)
    (h : ∀ n s (i : Nat), i ≤ l.length → L (n + 1) s i = if h : i < l.length then B i l[i] s (fun s' => L n s' ((i + 1 : Nat) : Int)) else J s) (s : S) : L fuel s 0 = scan B J 0 l s := by
  have key : ∀ n (q p : List α) s, p ++ q = l → q.length < n → L n s (p.length : Int) = scan B J p.length q s := by
    intro n
    induction n with
    | zero => intro q p s _ h; omega
    | succ n ih =>
      intro q p s hpq hn
      rw [h n s p.length (by rw [← hpq]; simp)]
      cases q with
      | nil => rw [dif_neg (by rw [← hpq]; simp)]; rfl
      | cons x q =>
        rw [dif_pos (by rw [← hpq]; simp)]
        have hx : l[p.length]'(by rw [← hpq]; simp) = x := by simp [← hpq]
        rw [hx]
        show _ = B p.length x s _
        congr 1
        funext s'
        have := ih q (p ++ [x]) s' (by simpa using hpq) (by simp at hn; omega)
        simpa using this
  exact key fuel l [] s rfl (by unfold fuel; omega)
end Go.Wk
namespace Go.Wk
theorem ite_cong {α : Type} {p q : Prop} [Decidable p] [Decidable q] {a b c d : α} (h : p ↔ q) (h1 : q → a = c) (h2 : ¬ q → b = d) : (if p then a else b) = if q then c else d := by
  by_cases hq : q
  · rw [if_pos hq, if_pos (h.2 hq)]; exact h1 hq
  · rw [if_neg hq, if_neg (fun hp => hq (h.1 hp))]; exact h2 hq
theorem ite_neg {α : Type} {p q : Prop} [Decidable p] [Decidable q] {a b c d : α} (h : p ↔ ¬ q) (h1 : ¬ q → a = d) (h2 : q → b = c) : (if p then a else b) = if q then c else d := by
  by_cases hq : q
  · rw [if_pos hq, if_neg (fun hp => (h.1 hp) hq)]; exact h2 hq
  · rw [if_neg hq, if_pos (h.2 hq)]; exact h1 hq
def scanL {α S R : Type} (l : List α) (s : S) (B : Nat → α → S → (S → Option R) → Option R) (J : S → Option R) : Option R := scan B J 0 l s
theorem idx_at {α : Type} {l : List α} {i : Nat} (h : i < l.length) : idx l (i : Int) = some l[i] := by rw [idx_nat, List.getElem?_eq_getElem h]
theorem W64_up {i : Nat} (h : i + 1 ≤ 9223372036854775807) : W64 ((i : Int) + 1) = ((i + 1 : Nat) : Int) := by rw [W64_id (by omega) (by omega)]; rfl
theorem scanQ {α S R : Type} {l : List α} {B : Nat → α → S → (S → Option R) → Option R} {J : S → Option R} (hl : l.length < 4611686018427387904) (L : Nat → S → Int → Option R) (s : S)
    (h : ∀ (n : Nat) (t : S) (i : Nat), i ≤ l.length → L (n + 1) t (i : Int) = if hh : i < l.length then B i l[i] t (fun s' => L n s' ((i + 1 : Nat) : Int)) else J t := by
      intro n t i hi
      refine Eq.trans (b := ite _ _ _) rfl ?_
      split
      · rename_i h; rw [dif_pos (Int.ofNat_lt.1 h)]; simp only [idx_at (Int.ofNat_lt.1 h), W64_up (show i + 1 ≤ 9223372036854775807 by omega)]
      · rename_i h; rw [dif_neg (fun k => h (Int.ofNat_lt.2 k))]) : L fuel s 0 = scanL l s B J := by
  unfold scanL
  exact scan_eq l hl L B J h s
section
variable {α S R : Type} {l : List α} {s : S} {B : Nat → α → S → (S → Option R) → Option R} {J : S → Option R}
theorem scan_nil {i : Nat} : scan B J i [] s = J s := rfl
theorem scan_cons {i : Nat} {x : α} : scan B J i (x :: l) s = B i x s fun s' => scan B J (i + 1) l s' := rfl
/-- A scan that ends at the first one that isn't so. -/
theorem scan_all (p : α → Bool) (N : Option R) (i : Nat) (h : ∀ i' x k, i ≤ i' → x ∈ l → B i' x s k = if p x = true then k s else N) : scan B J i l s = if l.all p = true then J s else N := by
  induction l generalizing i with
  | nil => rfl
  | cons x l ih =>
    rw [scan_cons, h i x _ (by omega) (by simp), ih (i + 1) (fun i' y k hi hy => h i' y k (by omega) (by simp [hy])), List.all_cons]
    cases hp : p x <;> simp
theorem scanL_all (p : α → Bool) (N : Option R) (h : ∀ i x k, x ∈ l → B i x s k = if p x = true then k s else N) : scanL l s B J = if l.all p = true then J s else N :=
  scan_all p N 0 fun i x k _ hx => h i x k hx
/-- What a scan answers, told by what is behind and what is ahead. -/
theorem scanL_inv (I : List α → S → Prop) (F : List α → List α → S → Option R) (hI : I [] s) (h0 : ∀ s, I l s → J s = F l [] s)
    (h1 : ∀ p x q s k, p ++ x :: q = l → I p s → (∀ s', I (p ++ [x]) s' → k s' = F (p ++ [x]) q s') → B p.length x s k = F p (x :: q) s) : scanL l s B J = F [] l s := by
  have key : ∀ (q p : List α) (s : S), p ++ q = l → I p s → scan B J p.length q s = F p q s := by
    intro q
    induction q with
    | nil => intro p s hp hI; rw [List.append_nil] at hp; subst hp; exact h0 s hI
    | cons x q ih =>
      intro p s hp hI
      refine h1 p x q s _ hp hI fun s' hI' => ?_
      have := ih (p ++ [x]) s' (by simpa using hp) hI'
      simpa using this
  exact key l [] s rfl hI
theorem scanL_pre (F : List α → List α → S → Option R) (h0 : ∀ s, J s = F l [] s)
    (h1 : ∀ p x q s k, p ++ x :: q = l → (∀ s', k s' = F (p ++ [x]) q s') → B p.length x s k = F p (x :: q) s) : scanL l s B J = F [] l s :=
  scanL_inv (fun _ _ => True) F trivial (fun s _ => h0 s) fun p x q s k hp _ hk => h1 p x q s k hp fun s' => hk s' trivial
/-- A scan that comes to its end, whatever its places tell. -/
theorem scanL_fold (f : S → α → S) (h : ∀ i x s k, x ∈ l → B i x s k = k (f s x)) : scanL l s B J = J (l.foldl f s) := by
  unfold scanL
  generalize 0 = i
  induction l generalizing s i with
  | nil => rfl
  | cons x l ih => rw [scan_cons, h i x s _ (by simp), List.foldl_cons]; exact ih (fun i y s k hy => h i y s k (by simp [hy])) (i + 1)
end
end Go.Wk
