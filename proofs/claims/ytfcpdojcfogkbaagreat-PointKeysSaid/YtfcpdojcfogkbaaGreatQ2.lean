/-
  Attributes in order: both ways to sort them are the same; plain Lean.
-/
import Derived.Test.YtfcpdojcfogkbaaGreatQ1
set_option linter.unusedVariables false
set_option linter.unusedSimpArgs false
namespace Go.Proofs.YtfcpdojcfogkbaaGreat
open Go Go.RowKit Go.Wk
def insR (a : Pr) : List Pr → List Pr
  | [] => [a]
  | b :: l => if Op.bytesLess a.Key b.Key = true then b :: insR a l else a :: b :: l
def srt (l : List Pr) : List Pr := (l.foldl (fun acc a => insR a acc) []).reverse
theorem setI_mid {α : Type} {p : List α} {x y : α} {q : List α} {i : Int} (h : i = p.length) : setI (p ++ x :: q) i y = p ++ y :: q := by subst h; simp [setI]
theorem sorted1_eq (a b : Pr) : m_label_Sorted_1 a b = some (if Op.bytesLess a.Key b.Key = true then -1 else if Op.bytesLess b.Key a.Key = true then 1 else 0) := by
  simp [m_label_Sorted_1, m_cmp_Compare_string, m_cmp_isNaN_string]; grind
theorem insL2 (j : List Pr → Option (List Pr)) (x : Pr) : ∀ (pre rest : List Pr) (n : Nat), pre.length < n → pre.length < 4611686018427387904 →
    m_slices_insertionSortCmpFunc_api_Pair_s2_L2 0 j n (pre.reverse ++ x :: rest) (pre.length : Int) = j ((insR x pre).reverse ++ rest)
  | [], rest, n, h, _ => by
    obtain ⟨n, rfl⟩ : ∃ m, n = m + 1 := ⟨n - 1, by omega⟩
    rw [m_slices_insertionSortCmpFunc_api_Pair_s2_L2, jn_eq, if_neg (by simp)]; rfl
  | b :: pre, rest, n, h, hb => by
    obtain ⟨n, rfl⟩ : ∃ m, n = m + 1 := ⟨n - 1, by omega⟩
    simp only [List.length_cons] at h hb
    have e1 : (b :: pre).reverse ++ x :: rest = (pre.reverse ++ [b]) ++ x :: rest := by simp
    have e2 : (b :: pre).reverse ++ x :: rest = pre.reverse ++ b :: (x :: rest) := by simp
    have e3 : pre.reverse ++ b :: b :: rest = (pre.reverse ++ [b]) ++ b :: rest := by simp
    have i1 : idx ((b :: pre).reverse ++ x :: rest) ((b :: pre).length : Int) = some x := by rw [e1]; exact idx_mid' (by simp)
    have w1 : W64 (((b :: pre).length : Int) - 1) = (pre.length : Int) := by rw [List.length_cons, W64_id (by omega) (by omega)]; omega
    have i2 : idx ((b :: pre).reverse ++ x :: rest) (pre.length : Int) = some b := by rw [e2]; exact idx_mid' (by simp)
    rw [m_slices_insertionSortCmpFunc_api_Pair_s2_L2, jn_eq, if_pos (by simp only [List.length_cons]; omega), i1, bndS, w1, i2, bndS, sorted1_eq, bndS, bndS, bndS]
    have s1 : setI ((b :: pre).reverse ++ x :: rest) ((b :: pre).length : Int) b = pre.reverse ++ b :: b :: rest := by rw [e1, setI_mid (by simp)]; simp
    rw [s1, idx_mid' (by simp), bndS, setI_mid (by simp), show pre.reverse ++ x :: b :: rest = pre.reverse ++ x :: (b :: rest) from rfl, insL2 j x pre (b :: rest) n (by omega) (by omega)]
    rw [insR]
    by_cases hx : Op.bytesLess x.Key b.Key = true
    · simp [hx]
    · simp [hx]; grind
theorem insL1 (j : List Pr → Option (List Pr)) (N : Nat) (hN : N < 4611686018427387904) : ∀ (q p : List Pr) (n : Nat), q.length < n → p.length + q.length = N →
    m_slices_insertionSortCmpFunc_api_Pair_s2_L1 0 N j n (p.reverse ++ q) (p.length : Int) = j (q.foldl (fun acc a => insR a acc) p).reverse
  | [], p, n, h, hl => by
    obtain ⟨n, rfl⟩ : ∃ m, n = m + 1 := ⟨n - 1, by omega⟩
    rw [m_slices_insertionSortCmpFunc_api_Pair_s2_L1, if_neg (by simp at hl; omega)]; simp
  | x :: q, p, n, h, hl => by
    obtain ⟨n, rfl⟩ : ∃ m, n = m + 1 := ⟨n - 1, by omega⟩
    simp only [List.length_cons] at h hl
    have hlen : ∀ p : List Pr, (insR x p).length = p.length + 1 := by
      intro p
      induction p with
      | nil => rfl
      | cons b p ih => unfold insR; split <;> simp [ih]
    rw [m_slices_insertionSortCmpFunc_api_Pair_s2_L1, if_pos (by omega), jn_eq, insL2 _ x p q _ (by unfold fuel; omega) (by omega)]
    have := insL1 j N hN q (insR x p) n (by omega) (by rw [hlen]; omega)
    rw [hlen] at this
    rw [W64_up (by omega), this, List.foldl_cons]
theorem insSort_eq (l : List Pr) (h : l.length < 4611686018427387904) : m_slices_insertionSortCmpFunc_api_Pair_s2 l 0 l.length = some (srt l) := by
  unfold m_slices_insertionSortCmpFunc_api_Pair_s2
  rw [jn_eq, show W64 (0 + 1) = 1 by decide]
  match l with
  | [] => rfl
  | x :: l => exact insL1 some (x :: l).length h l [x] fuel (by unfold fuel; simp at h; omega) (by simp; omega)
theorem insR_len (x : Pr) : ∀ p : List Pr, (insR x p).length = p.length + 1
  | [] => rfl
  | b :: p => by unfold insR; split <;> simp [insR_len x p]
theorem srt_len (l : List Pr) : (srt l).length = l.length := by
  have : ∀ (l p : List Pr), (l.foldl (fun acc a => insR a acc) p).length = p.length + l.length := by
    intro l
    induction l with
    | nil => intro p; rfl
    | cons x l ih => intro p; rw [List.foldl_cons, ih, insR_len, List.length_cons]; omega
  unfold srt; rw [List.length_reverse, this]; simp
theorem stable_eq (l : List Pr) (h : l.length ≤ 20) : m_slices_stableCmpFunc_api_Pair_s1 l l.length = some (srt l) := by
  obtain ⟨F, hF⟩ : ∃ m, fuel = m + 2 := fuelS 2 (by omega)
  unfold m_slices_stableCmpFunc_api_Pair_s1
  simp only [jn_eq]
  rw [hF, m_slices_stableCmpFunc_api_Pair_s1_L3]
  by_cases h20 : l.length = 20
  · rw [if_pos (by omega), show (20 : Int) = (l.length : Int) by omega, insSort_eq l (by omega), bndS, m_slices_stableCmpFunc_api_Pair_s1_L3, if_neg (by rw [W64_id (by omega) (by omega)]; omega)]
    rw [m_slices_insertionSortCmpFunc_api_Pair_s2, jn_eq]
    rw [hF, m_slices_insertionSortCmpFunc_api_Pair_s2_L1, if_neg (by rw [W64_id (by omega) (by omega)]; omega), bndS, m_slices_stableCmpFunc_api_Pair_s1_L1, if_neg (by omega)]
  · rw [if_neg (by omega), insSort_eq l (by omega), bndS, m_slices_stableCmpFunc_api_Pair_s1_L1, if_neg (by omega)]
theorem sorted_eq (l : List Pr) (h : l.length ≤ 20) : m_label_Sorted l = some (srt l) := by
  unfold m_label_Sorted m_slices_Clone_api_Pair_api_Pair m_slices_SortStableFunc_api_Pair_api_Pair_s1
  rw [app_some (by simp; omega), bndS, List.nil_append, stable_eq l h]; rfl
theorem refL2 (x0 : List Pr) (y : Int) (a : Pr) (ha : idx x0 y = some a) (j : Int → Option (List Pr)) (post : List Pr) : ∀ (pre : List Pr) (n : Nat), pre.length < n → pre.length < 4611686018427387904 →
    m_limnographref11_Sorted_L2 x0 (pre.reverse ++ post) y j n (pre.length : Int) = j ((pre.dropWhile fun b => Op.bytesLess a.Key b.Key).length : Nat)
  | [], n, h, _ => by
    obtain ⟨n, rfl⟩ : ∃ m, n = m + 1 := ⟨n - 1, by omega⟩
    rw [m_limnographref11_Sorted_L2, jn_eq, if_neg (by simp)]; rfl
  | b :: pre, n, h, hb => by
    obtain ⟨n, rfl⟩ : ∃ m, n = m + 1 := ⟨n - 1, by omega⟩
    simp only [List.length_cons] at h hb
    have w1 : W64 (((b :: pre).length : Int) - 1) = (pre.length : Int) := by rw [List.length_cons, W64_id (by omega) (by omega)]; omega
    have e2 : (b :: pre).reverse ++ post = pre.reverse ++ b :: post := by simp
    rw [m_limnographref11_Sorted_L2, jn_eq, if_pos (by simp only [List.length_cons]; omega), w1, e2, idx_mid' (by simp), bndS, ha, bndS]
    dsimp only
    by_cases hx : Op.bytesLess a.Key b.Key = true
    · rw [if_pos hx, List.dropWhile_cons, if_pos hx]
      have := refL2 x0 y a ha j (b :: post) pre n (by omega) (by omega)
      simpa using this
    · rw [if_neg hx, List.dropWhile_cons, if_neg hx]
theorem insR_split (a : Pr) (p : List Pr) : insR a p = (p.takeWhile fun b => Op.bytesLess a.Key b.Key) ++ a :: (p.dropWhile fun b => Op.bytesLess a.Key b.Key) := by
  induction p with
  | nil => rfl
  | cons b p ih => unfold insR; split <;> simp_all
theorem refSorted_eq (l : List Pr) (h : l.length ≤ 1048576) : m_limnographref11_Sorted l = some (srt l) := by
  unfold m_limnographref11_Sorted
  rw [jn_eq, m_limnographref11_Sorted_L1_scan _ _ _ (by omega)]
  rw [scanL_inv (fun p s => s.length = p.length) (fun _ q s => some (q.foldl (fun acc a => insR a acc) s.reverse).reverse) rfl (fun s _ => by simp)]
  · rfl
  · intro p x q s k hp hs hk
    subst hp
    have hx : idx (p ++ x :: q) (p.length : Int) = some x := idx_mid p x q
    have hr := refL2 (p ++ x :: q) (p.length : Int) x hx
    obtain ⟨pre, rfl⟩ : ∃ pre, s = pre.reverse := ⟨s.reverse, by simp⟩
    have hr := fun j => hr j [] pre fuel (by unfold fuel; simp at hs h; omega) (by simp at hs h; omega)
    simp only [List.append_nil] at hr
    rw [jn_eq, List.length_reverse, hr]
    have hd : pre = (pre.takeWhile fun b => Op.bytesLess x.Key b.Key) ++ (pre.dropWhile fun b => Op.bytesLess x.Key b.Key) := (List.takeWhile_append_dropWhile ..).symm
    have hsp := insR_split x pre
    generalize (pre.takeWhile fun b => Op.bytesLess x.Key b.Key) = u at hd hsp
    generalize (pre.dropWhile fun b => Op.bytesLess x.Key b.Key) = v at hd hsp
    have hl : u.length + v.length ≤ 1048576 := by
      have := congrArg List.length hd
      simp at this hs h; omega
    have e1 : pre.reverse = v.reverse ++ u.reverse := by rw [hd]; simp
    have c1 : cutL pre.reverse 0 (v.length : Int) = some v.reverse := by rw [e1]; have := cut_mid v.reverse u.reverse; simpa using this
    have c2 : cutL pre.reverse (v.length : Int) (pre.length : Nat) = some u.reverse := by rw [e1, show pre.length = (v.reverse ++ u.reverse).length by rw [hd]; simp; omega]; have := cut_end v.reverse u.reverse; rw [List.length_reverse] at this; exact this
    rw [c1, bndS, app_some (by simp; omega), bndS, bndS, app_some (by simp; omega), bndS, c2, bndS, app_some (by simp; omega), bndS, hk]
    · rw [List.foldl_cons]; simp [hsp]
    · have := congrArg List.length hd; simp at this hs ⊢; omega
end Go.Proofs.YtfcpdojcfogkbaaGreat
