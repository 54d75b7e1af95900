/-
  Laws over plain forms that chapters 11 to 13 share, as far as this seat has the functions; put together by a program.
-/
import Derived.Test.YtpcpfjpcfcbopaaDoorLA
import Derived.Sort.Walk0
set_option maxRecDepth 20000
set_option linter.unusedVariables false
set_option linter.unusedSimpArgs false
namespace Go.Proofs.YtpcpfjpcfcbopaaDoor
open Go Go.RowKit Go.Wk
theorem pow64 : (2 : Nat) ^ 64 = 18446744073709551616 := by decide
theorem pow_le {m : Nat} (h : 64 ≤ m) : 18446744073709551616 ≤ 2 ^ m := by rw [← pow64]; exact Nat.pow_le_pow_right (by omega) h
theorem shl64_mod (a : UInt64) (m : Nat) : (shl64 a m).toNat = a.toNat * 2 ^ m % 18446744073709551616 := by
  unfold shl64
  split
  · rename_i h
    rw [UInt64.toNat_shiftLeft, Nat.shiftLeft_eq, pow64]
    have : (UInt64.ofNat m).toNat % 64 = m := by rw [UInt64.toNat_ofNat']; omega
    rw [this]
  · rename_i h
    obtain ⟨q, rfl⟩ : ∃ q, m = 64 + q := ⟨m - 64, by omega⟩
    rw [Nat.pow_add, pow64, Nat.mul_left_comm, Nat.mul_mod_right]; rfl
theorem shr64_nat (a : UInt64) (m : Nat) : (shr64 a m).toNat = a.toNat / 2 ^ m := by
  unfold shr64
  split
  · rename_i h
    rw [UInt64.toNat_shiftRight, Nat.shiftRight_eq_div_pow]
    have : (UInt64.ofNat m).toNat % 64 = m := by rw [UInt64.toNat_ofNat']; omega
    rw [this]
  · rename_i h
    have := a.toNat_lt; have h2 := pow_le (Nat.le_of_not_lt h)
    rw [Nat.div_eq_of_lt (by omega)]; rfl
theorem ofNat_nat {n : Nat} (h : n < 18446744073709551616) : (UInt64.ofNat n).toNat = n := by rw [UInt64.toNat_ofNat']; exact Nat.mod_eq_of_lt h
def sumN (l : List UInt64) : Nat := (l.map UInt64.toNat).sum
theorem sumN_cons (x : UInt64) (l : List UInt64) : sumN (x :: l) = x.toNat + sumN l := by simp [sumN]
theorem or_zero (a b : UInt64) : a ||| b = 0 ↔ a = 0 ∧ b = 0 := by
  constructor
  · intro h
    have h1 : (a ||| b).toNat = 0 := by rw [h]; rfl
    rw [UInt64.toNat_or] at h1
    have := Nat.or_eq_zero_iff.1 h1
    exact ⟨UInt64.toNat_inj.1 this.1, UInt64.toNat_inj.1 this.2⟩
  · rintro ⟨rfl, rfl⟩; rfl
theorem tot_fold (l : List UInt64) : ∀ (a b : UInt64), ((l.foldl (fun (s : UInt64 × UInt64) x => (s.1 + x, s.2 ||| cry s.1 x)) (a, b)).1.toNat = (a.toNat + sumN l) % 2 ^ 64) ∧
    ((l.foldl (fun (s : UInt64 × UInt64) x => (s.1 + x, s.2 ||| cry s.1 x)) (a, b)).2 = 0 ↔ b = 0 ∧ a.toNat + sumN l < 2 ^ 64) := by
  induction l with
  | nil => intro a b; have := a.toNat_lt; simp [sumN]; omega
  | cons x l ih =>
    intro a b
    have ha := a.toNat_lt
    have hx := x.toNat_lt
    obtain ⟨h1, h2⟩ := ih (a + x) (b ||| cry a x)
    rw [List.foldl_cons]
    dsimp only
    rw [h1, h2, or_zero, sumN_cons]
    have e : (a + x).toNat = (a.toNat + x.toNat) % 2 ^ 64 := UInt64.toNat_add a x
    constructor
    · rw [e]; omega
    · unfold cry
      by_cases hc : 18446744073709551616 ≤ a.toNat + x.toNat
      · rw [if_pos hc]
        constructor
        · rintro ⟨⟨_, h⟩, _⟩; exact absurd h (by decide)
        · rintro ⟨_, h⟩; omega
      · rw [if_neg hc, e]
        constructor
        · rintro ⟨⟨h, _⟩, k⟩; exact ⟨h, by omega⟩
        · rintro ⟨h, k⟩; exact ⟨⟨h, rfl⟩, by omega⟩
def totN (h : T_api_Hist) : Nat := h.Zero.toNat + sumN h.Pos.Counts + sumN h.Neg.Counts
def totE (h : T_api_Hist) : UInt64 × Bool := if totN h < 2 ^ 64 then (UInt64.ofNat (totN h), true) else (0, false)
theorem Total_eq (h : T_api_Hist) (h1 : h.Pos.Counts.length ≤ 1000000) (h2 : h.Neg.Counts.length ≤ 1000000) : m_hist_Total h = some (totE h) := by
  have hL2 : ∀ (z : T_api_Side) (j : UInt64 → UInt64 → Option (UInt64 × Bool)) (a b : UInt64), z.Counts.length ≤ 1000000 → m_hist_Total_L2 z j fuel a b 0 = j (z.Counts.foldl (fun (s : UInt64 × UInt64) x => (s.1 + x, s.2 ||| cry s.1 x)) (a, b)).1 (z.Counts.foldl (fun (s : UInt64 × UInt64) x => (s.1 + x, s.2 ||| cry s.1 x)) (a, b)).2 := by
    intro z j a b h
    rw [m_hist_Total_L2_scan _ _ _ _ (by omega), scanL_fold (fun (s : UInt64 × UInt64) x => (s.1 + x, s.2 ||| cry s.1 x)) (fun i x s k _ => by rw [bndS])]
  unfold m_hist_Total m_hist_sides
  rw [bndS, jn_eq]
  obtain ⟨m, hm⟩ := fuelS 3 (by omega)
  rw [show m_hist_Total_L1 { a0 := h.Pos, a1 := h.Neg } _ fuel _ _ _ = m_hist_Total_L1 { a0 := h.Pos, a1 := h.Neg } _ (m + 3) _ _ _ by rw [← hm], m_hist_Total_L1, if_pos (by omega), show idx [h.Pos, h.Neg] 0 = some h.Pos from rfl, bndS, jn_eq, hL2 _ _ _ _ h1, W64_id (by omega) (by omega), show (0 : Int) + 1 = 1 from rfl,
    m_hist_Total_L1, if_pos (by omega), show idx [h.Pos, h.Neg] 1 = some h.Neg from rfl, bndS, jn_eq, hL2 _ _ _ _ h2, W64_id (by omega) (by omega), show (1 : Int) + 1 = 2 from rfl, m_hist_Total_L1, if_neg (by omega)]
  obtain ⟨p1, p2⟩ := tot_fold h.Pos.Counts h.Zero 0
  generalize h.Pos.Counts.foldl (fun (s : UInt64 × UInt64) x => (s.1 + x, s.2 ||| cry s.1 x)) (h.Zero, 0) = P at *
  obtain ⟨q1, q2⟩ := tot_fold h.Neg.Counts P.1 P.2
  generalize h.Neg.Counts.foldl (fun (s : UInt64 × UInt64) x => (s.1 + x, s.2 ||| cry s.1 x)) (P.1, P.2) = Q at *
  unfold totE totN
  by_cases hq : Q.2 = 0
  · obtain ⟨a1, a2⟩ := q2.1 hq
    obtain ⟨_, a3⟩ := p2.1 a1
    rw [if_neg (by rw [hq]; decide), if_pos (by omega)]
    have : Q.1 = UInt64.ofNat (h.Zero.toNat + sumN h.Pos.Counts + sumN h.Neg.Counts) := by
      apply UInt64.toNat_inj.1
      rw [q1, ofNat_nat (by omega)]; omega
    rw [this]
  · have hq' : Q.2.toNat ≠ 0 := fun h => hq (UInt64.toNat_inj.1 h)
    rw [if_pos (by omega), if_neg]
    intro h
    apply hq
    rw [q2]
    exact ⟨p2.2 ⟨rfl, by omega⟩, by omega⟩
def sdE (s : T_api_Side) : Int :=
  if s.Counts.length > 160 then 4
  else if s.Counts = [] then (if s.Offset ≠ 0 then 3 else 0)
  else if s.Counts.headD 0 = 0 ∨ s.Counts.getLastD 0 = 0 then 3
  else if s.Offset < -1073741824 ∨ s.Offset + s.Counts.length - 1 > 1073741824 then 1 else 0
theorem u64z' (x : UInt64) : ((x.toNat : Nat) : Int) = 0 ↔ x = 0 := by
  constructor
  · intro h; apply UInt64.toNat_inj.1; show x.toNat = 0; omega
  · rintro rfl; rfl
theorem ends {l : List UInt64} (h : l ≠ []) (hl : l.length ≤ 1000000) : idx l 0 = some (l.headD 0) ∧ idx l (W64 ((l.length : Int) - 1)) = some (l.getLastD 0) := by
  have h0 : 0 < l.length := List.length_pos_iff.2 h
  constructor
  · cases l with
    | nil => exact absurd rfl h
    | cons a t => rfl
  · rw [W64_id (by omega) (by omega), show (l.length : Int) - 1 = ((l.length - 1 : Nat) : Int) by omega, idx_nat, ← List.getLast?_eq_getElem?, List.getLast?_eq_some_getLast h]
    cases l with
    | nil => exact absurd rfl h
    | cons a t => rw [List.getLastD_cons, List.getLast_eq_getLastD]
theorem scheck_eq (s : T_api_Side) : m_hist_check s = some (sdE s) := by
  unfold m_hist_check sdE
  by_cases h1 : s.Counts.length > 160
  · rw [if_pos (by omega), if_pos h1]
  rw [if_neg (by omega), if_neg h1]
  by_cases h2 : s.Counts = []
  · rw [if_pos h2, h2]
    by_cases h3 : s.Offset ≠ 0
    · rw [if_pos ⟨rfl, h3⟩, if_pos h3]
    · rw [if_neg (fun h => h3 h.2), if_pos (by rfl), if_neg h3]
  have h0 : 0 < s.Counts.length := List.length_pos_iff.2 h2
  obtain ⟨e1, e2⟩ := ends h2 (by omega)
  rw [if_neg (by omega), if_neg (by omega), if_neg h2, e1, bndS]
  simp only [jn_eq]
  by_cases h3 : s.Counts.headD 0 = 0
  · rw [if_pos ((u64z' _).2 h3), if_pos (by trivial), if_pos (Or.inl h3)]
  rw [if_neg (fun h => h3 ((u64z' _).1 h)), e2, bndS]
  by_cases h4 : s.Counts.getLastD 0 = 0
  · rw [if_pos (decide_eq_true ((u64z' _).2 h4)), if_pos (Or.inr h4)]
  rw [if_neg (by rw [decide_eq_false (fun h => h4 ((u64z' _).1 h))]; decide), if_neg (show ¬ (s.Counts.headD 0 = 0 ∨ s.Counts.getLastD 0 = 0) from fun h => h.elim h3 h4), W64_id (z := (s.Counts.length : Int) - 1) (by omega) (by omega), W64_id (by omega) (by omega)]
  by_cases h5 : s.Offset < -1073741824
  · rw [if_pos h5, if_pos (by trivial), if_pos (Or.inl h5)]
  rw [if_neg h5]
  by_cases h6 : s.Offset > 1073741824 - ((s.Counts.length : Int) - 1)
  · rw [if_pos (decide_eq_true h6), if_pos (by omega)]
  · rw [if_neg (by rw [decide_eq_false h6]; decide), if_neg (by omega)]
def hcE (h : T_api_Hist) : Int :=
  if h.Scale < -10 ∨ h.Scale > 20 then 1 else if sdE h.Pos ≠ 0 then sdE h.Pos else if sdE h.Neg ≠ 0 then sdE h.Neg else if totN h < 2 ^ 64 then 0 else 4
theorem HCheck_eq (h : T_api_Hist) (h1 : h.Pos.Counts.length ≤ 1000000) (h2 : h.Neg.Counts.length ≤ 1000000) : m_hist_Check h = some (hcE h) := by
  unfold m_hist_Check m_hist_sides hcE
  by_cases hs : h.Scale < -10 ∨ h.Scale > 20
  · rw [if_pos hs, if_pos hs]
  rw [if_neg hs, if_neg hs, bndS, jn_eq]
  obtain ⟨m, hm⟩ := fuelS 3 (by omega)
  rw [hm, m_hist_Check_L1, if_pos (by omega), show idx [h.Pos, h.Neg] 0 = some h.Pos from rfl, bndS, scheck_eq, bndS]
  by_cases c1 : sdE h.Pos ≠ 0
  · rw [if_pos c1, if_pos c1]
  rw [if_neg c1, if_neg c1, W64_id (by omega) (by omega), show (0 : Int) + 1 = 1 from rfl, m_hist_Check_L1, if_pos (by omega), show idx [h.Pos, h.Neg] 1 = some h.Neg from rfl, bndS, scheck_eq, bndS]
  by_cases c2 : sdE h.Neg ≠ 0
  · rw [if_pos c2, if_pos c2]
  rw [if_neg c2, if_neg c2, W64_id (by omega) (by omega), show (1 : Int) + 1 = 2 from rfl, m_hist_Check_L1, if_neg (by omega), Total_eq h h1 h2, bndS]
  unfold totE
  by_cases ht : totN h < 2 ^ 64
  · rw [if_pos ht, if_pos ht, if_neg (by simp)]
  · rw [if_neg ht, if_neg ht, if_pos (by simp)]
abbrev h00 : T_api_Hist := ⟨0, 0, ⟨0, []⟩, ⟨0, []⟩⟩
abbrev Txt := List UInt8
abbrev Pr := T_api_Pair
def small (c : UInt8) : Bool := decide (97 ≤ c.toNat) && decide (c.toNat ≤ 122)
def nmC (c : UInt8) : Bool := small c || (decide (48 ≤ c.toNat) && decide (c.toNat ≤ 57)) || decide (c.toNat = 95) || decide (c.toNat = 46)
def nameB (s : Txt) : Bool := decide (s.length ≤ 32) && match s with | [] => false | c :: t => small c && t.all nmC
def valC (c : UInt8) : Bool := decide (33 ≤ c.toNat) && decide (c.toNat ≤ 126) && decide (c.toNat ≠ 61) && decide (c.toNat ≠ 59) && decide (c.toNat ≠ 44)
def valB (s : Txt) : Bool := decide (s.length ≤ 32) && decide (1 ≤ s.length) && s.all valC
theorem small_eq (c : UInt8) : m_label_small c = some (small c) := by unfold m_label_small small; rw [← Bool.decide_and]; congr 1; apply decide_eq_decide.2; omega
theorem isName_eq (s : Txt) : m_label_isName s = some (nameB s) := by
  unfold m_label_isName
  simp only [jn_eq]
  split
  · rename_i h; rcases h with rfl | h <;> simp [nameB]; omega
  · rename_i h
    match s, h with
    | c :: t, h =>
      simp only [not_or] at h
      have hb := h.2
      rw [idx0, bndS, small_eq, bndS, len_some (by omega), bndS, m_label_isName_L1_scan _ _ (by omega), scanL_all nmC (some false)]
      · have : (c :: t).length ≤ 32 := by omega
        have hn : small c = true → nmC c = true := fun h => by simp [nmC, h]
        unfold nameB
        cases hc : small c <;> simp_all
        split <;> simp_all
      · intro i x k _
        rw [bndS, small_eq, bndS]
        refine ite_neg ?_ (fun _ => rfl) fun _ => rfl
        simp [nmC]; grind
theorem isValue_eq (s : Txt) : m_label_isValue s = some (valB s) := by
  unfold m_label_isValue
  simp only [jn_eq]
  split
  · rename_i h; rcases h with rfl | h <;> simp [valB]; omega
  · rename_i h
    simp only [not_or] at h
    have hb := h.2
    have := List.length_pos_iff.2 h.1
    rw [len_some (by omega), bndS, m_label_isValue_L1_scan _ _ (by omega), scanL_all valC (some false)]
    · unfold valB; split <;> simp_all <;> omega
    · intro i x k _
      simp only [bndS, jn_eq, valC]
      grind
def chk : List Pr → List Pr → Int
  | _, [] => 0
  | p, a :: l => if (nameB a.Key && valB a.Val) = true then (if p.any (fun b => decide (b.Key = a.Key)) = true then 8 else chk (p ++ [a]) l) else 3
def check (name : Txt) (l : List Pr) : Int := if nameB name = true then (if l.length > 4 then 4 else chk [] l) else 3
theorem contains_eq (l : List Pr) (a : Pr) (h : l.length < 4611686018427387904) : m_slices_ContainsFunc_api_Pair_api_Pair_s2 l a = some (l.any fun b => decide (b.Key = a.Key)) := by
  unfold m_slices_ContainsFunc_api_Pair_api_Pair_s2 m_slices_IndexFunc_api_Pair_api_Pair_s1
  rw [jn_eq, m_slices_IndexFunc_api_Pair_api_Pair_s1_L1_scan _ _ _ h]
  rw [scanL_pre (fun p q _ => some (if q.any (fun b => decide (b.Key = a.Key)) = true then ((p.length + q.findIdx fun b => decide (b.Key = a.Key) : Nat) : Int) else -1)) ?_ ?_]
  · cases h : l.any (fun b => decide (b.Key = a.Key)) <;> simp [bndS]
  · intro s; rfl
  · intro p x q _ k _ hk
    simp only [bndS, m_label_Check_1, hk]
    by_cases hx : x.Key = a.Key
    · simp [hx, List.findIdx_cons]
    · simp [hx, List.findIdx_cons]; congr 1; omega
theorem check_eq (name : Txt) (l : List Pr) : m_label_Check name l = some (check name l) := by
  unfold m_label_Check check
  rw [isName_eq, bndS]
  by_cases hn : nameB name = true
  · rw [hn, if_neg (by simp), if_pos rfl]
    by_cases hl : l.length > 4
    · rw [if_pos (by omega), if_pos hl]
    rw [if_neg (by omega), if_neg hl, jn_eq, m_label_Check_L1_scan _ _ (by omega)]
    refine scanL_pre (fun p q _ => some (chk p q)) (fun _ => rfl) ?_
    intro p x q _ k hp hk
    subst hp
    simp only [bndS, isName_eq, isValue_eq, jn_eq, cut_mid, contains_eq p x (by simp at hl; omega), hk, chk]
    cases nameB x.Key <;> cases valB x.Val <;> simp
    split <;> rfl
  · simp at hn
    rw [hn]; rfl
def insR (a : Pr) : List Pr → List Pr
  | [] => [a]
  | b :: l => if Op.bytesLess a.Key b.Key = true then b :: insR a l else a :: b :: l
def srt (l : List Pr) : List Pr := (l.foldl (fun acc a => insR a acc) []).reverse
def at1 (a : Pr) : Txt := [59] ++ a.Key ++ [61] ++ a.Val
def texts (l : List Pr) : Txt := l.flatMap at1
def cut1 (c : UInt8) : Txt → Txt × Txt × Bool
  | [] => ([], [], false)
  | x :: s => if x = c then ([], s, true) else (x :: (cut1 c s).1, (cut1 c s).2)
theorem cut1_no {c : UInt8} : ∀ {s : Txt}, (cut1 c s).2.2 = false → cut1 c s = (s, [], false)
  | [], _ => rfl
  | x :: s, h => by
    unfold cut1 at h ⊢
    split at h
    · cases h
    · rename_i hx; rw [if_neg hx, cut1_no h]
theorem cut1_yes {c : UInt8} : ∀ {s : Txt}, (cut1 c s).2.2 = true → s = (cut1 c s).1 ++ c :: (cut1 c s).2.1
  | [], h => by cases h
  | x :: s, h => by
    unfold cut1 at h ⊢
    split at h
    · rename_i hx; rw [if_pos hx, hx]; rfl
    · rename_i hx; rw [if_neg hx]; have := cut1_yes h; show x :: s = x :: ((cut1 c s).1 ++ c :: (cut1 c s).2.1); rw [← this]
theorem cut1_len {c : UInt8} : ∀ {s : Txt}, (cut1 c s).1.length + (cut1 c s).2.1.length ≤ s.length
  | [] => by simp [cut1]
  | x :: s => by
    unfold cut1
    split
    · simp
    · have := cut1_len (c := c) (s := s); simp; omega
theorem indexByte_cut (c : UInt8) : ∀ s : Txt, Lib.indexByte s c = if (cut1 c s).2.2 = true then ((cut1 c s).1.length : Int) else -1
  | [] => rfl
  | x :: s => by
    unfold Lib.indexByte cut1
    by_cases hx : x = c
    · simp [hx]
    · rw [indexByte_cut c s]
      simp only [hx, beq_iff_eq, if_false]
      split
      · rw [if_neg (by omega), List.length_cons]; simp
      · simp
theorem strCut_eq (s : Txt) (c : UInt8) (h : s.length < 4611686018427387904) : m_strings_Cut s [c] = some (cut1 c s) := by
  have key : m_internal_stringslite_Index s [c] = some (if (cut1 c s).2.2 = true then ((cut1 c s).1.length : Int) else -1) := by
    unfold m_internal_stringslite_Index
    by_cases hs : [c] = s
    · rw [if_pos (.inr hs), ← hs]; simp [cut1]
    · rw [if_neg (by simp [hs]), if_pos (show (([c] : Txt).length : Int) = 1 from rfl), idx0, bndS, m_internal_stringslite_IndexByte, bndS, indexByte_cut]
  unfold m_strings_Cut m_internal_stringslite_Cut
  rw [key, bndS]
  by_cases hf : (cut1 c s).2.2 = true
  · have h1 := cut1_yes hf
    have hl := congrArg List.length h1
    simp at hl
    have c1 : cutL s 0 ((cut1 c s).1.length : Int) = some (cut1 c s).1 := by
      conv => lhs; arg 1; rw [h1]
      exact cut_mid _ _
    have c2 : cutL s (((cut1 c s).1.length : Int) + 1) (s.length : Nat) = some (cut1 c s).2.1 := by
      have := cut_end ((cut1 c s).1 ++ [c]) (cut1 c s).2.1
      rw [List.append_assoc, List.singleton_append, ← h1] at this
      simpa using this
    rw [if_pos hf, if_pos (by omega), c1, bndS]
    show ((cutL s (W64 (((cut1 c s).1.length : Int) + 1)) (s.length : Nat)).bind _).bind _ = _
    rw [W64_id (by omega) (by omega), c2, bndS, bndS]
    simp [← hf]
  · have h1 := cut1_no (by simpa using hf : (cut1 c s).2.2 = false)
    rw [if_neg hf, if_neg (by omega), bndS, h1]
def pairOf (s : Txt) : Option Pr := if ((cut1 61 s).2.2 && nameB (cut1 61 s).1 && valB (cut1 61 s).2.1) = true then some ⟨(cut1 61 s).1, (cut1 61 s).2.1⟩ else none
theorem pair_eq (s : Txt) (h : s.length < 4611686018427387904) : m_label_pair s = some (match pairOf s with | some a => (a, 0) | none => (⟨[], []⟩, 3)) := by
  unfold m_label_pair pairOf
  rw [strCut_eq s _ h, bndS]
  simp only [jn_eq, isName_eq, isValue_eq, bndS]
  cases (cut1 61 s).2.2 <;> cases nameB (cut1 61 s).1 <;> cases valB (cut1 61 s).2.1 <;> simp
def foll (l : List Pr) (key : Txt) : Int := if l.any (fun b => decide (b.Key = key)) = true then 8 else match l.getLast? with | some b => if Op.bytesLess key b.Key = true then 9 else 0 | none => 0
theorem follows_eq (l : List Pr) (key : Txt) (h0 : l ≠ []) (h : l.length < 4611686018427387904) : m_label_follows l key = some (foll l key) := by
  unfold m_label_follows foll
  rw [jn_eq, m_label_follows_L1_scan _ _ _ h, scanL_all (fun b => !decide (b.Key = key)) (some 8)]
  · obtain ⟨b, hb⟩ : ∃ b, l.getLast? = some b := ⟨_, List.getLast?_eq_some_getLast h0⟩
    have hp := List.length_pos_iff.2 h0
    have hi : idx l (W64 ((l.length : Int) - 1)) = some b := by
      rw [W64_id (by omega) (by omega), show (l.length : Int) - 1 = ((l.length - 1 : Nat) : Int) by omega, idx_nat, ← List.getLast?_eq_getElem?]; exact hb
    rw [hi, bndS, hb]
    by_cases ha : l.any (fun b => decide (b.Key = key)) = true
    · rw [if_pos ha, if_neg]
      simp at ha ⊢; exact ha
    · rw [if_neg ha, if_pos]
      · show (if _ then _ else _) = some (if _ then _ else _)
        split <;> rfl
      · simp at ha ⊢; exact ha
  · intro i x k _
    rw [bndS]
    by_cases hx : x.Key = key <;> simp [hx]
def spl : Txt → Txt × List Txt
  | [] => ([], [])
  | x :: s => if x = 59 then ([], (spl s).1 :: (spl s).2) else (x :: (spl s).1, (spl s).2)
def partsOf (more : Bool) (rest : Txt) : List Txt := if more = true then (spl rest).1 :: (spl rest).2 else []
theorem spl_cut : ∀ s, (cut1 59 s).1 = (spl s).1 ∧ partsOf (cut1 59 s).2.2 (cut1 59 s).2.1 = (spl s).2
  | [] => ⟨rfl, rfl⟩
  | x :: s => by
    unfold cut1 spl
    by_cases hx : x = 59
    · rw [if_pos hx, if_pos hx]; exact ⟨rfl, rfl⟩
    · rw [if_neg hx, if_neg hx]; have := spl_cut s; exact ⟨by simp [this.1], this.2⟩
theorem spl_join : ∀ s, s = (spl s).1 ++ (spl s).2.flatMap (fun p => 59 :: p)
  | [] => rfl
  | x :: s => by
    unfold spl
    by_cases hx : x = 59
    · rw [if_pos hx]; show x :: s = [] ++ (59 :: (spl s).1 ++ (spl s).2.flatMap (fun p => 59 :: p)); rw [hx, List.nil_append, List.cons_append, ← spl_join s]
    · rw [if_neg hx]; show x :: s = x :: ((spl s).1 ++ _); rw [← spl_join s]
abbrev Res := Txt × List Pr × Int × Int
def pgo (name : Txt) : List Pr → Int → List Txt → Res
  | l, _, [] => (name, l, 0, 0)
  | l, at_, p :: ps =>
    if l.length = 4 then ([], [], at_, 4) else
    match pairOf p with
    | none => ([], [], at_, 3)
    | some a => if foll l a.Key = 0 then pgo name (l ++ [a]) (at_ + p.length + 1) ps else ([], [], at_, foll l a.Key)
def parse (s : Txt) : Res := if nameB (spl s).1 = true then pgo (spl s).1 [] ((spl s).1.length + 1) (spl s).2 else ([], [], 0, 3)
theorem parseL (name : Txt) (j : List Pr → Option Res) (hj : ∀ l, j l = some (name, l, 0, 0)) : ∀ (n : Nat) (l : List Pr) (at_ : Int) (rest : Txt) (more : Bool), (if more = true then 1 + rest.length else 0) < n → l.length ≤ 4 → 0 ≤ at_ → at_ + rest.length ≤ 1000000 →
    m_label_Parse_L1 j n l at_ rest more = some (pgo name l at_ (partsOf more rest)) := by
  intro n
  induction n with
  | zero => intro l at_ rest more h; omega
  | succ n ih =>
    intro l at_ rest more h hl h0 h1
    rw [m_label_Parse_L1]
    cases more with
    | false => rw [if_neg (by simp), hj]; rfl
    | true =>
      rw [if_pos rfl] at h ⊢
      obtain ⟨e1, e2⟩ := spl_cut rest
      have hcl := cut1_len (c := 59) (s := rest)
      have hpo : partsOf true rest = (cut1 59 rest).1 :: partsOf (cut1 59 rest).2.2 (cut1 59 rest).2.1 := by rw [e1, e2]; rfl
      rw [strCut_eq rest _ (by omega), bndS, pair_eq _ (by omega), bndS, hpo, pgo]
      simp only [jn_eq]
      have hmore : (if (cut1 59 rest).2.2 = true then 1 + (cut1 59 rest).2.1.length else 0) < n ∧ ((cut1 59 rest).2.2 = true → (cut1 59 rest).1.length + (cut1 59 rest).2.1.length + 1 = rest.length) := by
        by_cases hm : (cut1 59 rest).2.2 = true
        · have hc := congrArg List.length (cut1_yes hm)
          simp at hc
          rw [if_pos hm]; omega
        · rw [if_neg hm]; exact ⟨by omega, fun h => absurd h hm⟩
      generalize (cut1 59 rest).1 = pt at *
      generalize (cut1 59 rest).2.1 = rst at *
      generalize (cut1 59 rest).2.2 = mr at *
      by_cases h4 : l.length = 4
      · rw [if_pos (by omega), if_pos h4, if_neg (by simp), if_pos (by simp)]
      · rw [if_neg (by omega), if_neg h4]
        cases hp : pairOf pt with
        | none => simp
        | some a =>
          have hnext : m_label_Parse_L1 j n (l ++ [a]) (W64 (at_ + W64 ((pt.length : Int) + 1))) rst mr = some (pgo name (l ++ [a]) (at_ + pt.length + 1) (partsOf mr rst)) := by
            rw [W64_id (z := (pt.length : Int) + 1) (by omega) (by omega), W64_id (by omega) (by omega), ← Int.add_assoc]
            cases mr with
            | false =>
              obtain ⟨m, rfl⟩ : ∃ m, n = m + 1 := ⟨n - 1, by omega⟩
              rw [m_label_Parse_L1, if_neg (by simp), hj]; rfl
            | true => exact ih _ _ _ _ hmore.1 (by simp; omega) (by omega) (by have := hmore.2 rfl; omega)
          have hap : appL l [(⟨a.Key, a.Val⟩ : Pr)] = some (l ++ [a]) := app_some (by simp; omega)
          dsimp only
          by_cases hl0 : l = []
          · subst hl0
            rw [if_neg (by simp), if_neg (by simp), hap, bndS, hnext, if_pos (show foll [] a.Key = 0 from rfl)]
          · have := List.length_pos_iff.2 hl0
            rw [if_pos ⟨rfl, by omega⟩, follows_eq l a.Key hl0 (by omega), bndS]
            by_cases hf : foll l a.Key = 0
            · rw [if_neg (by omega), hap, bndS, hnext, if_pos hf]
            · rw [if_pos hf, if_neg hf]
theorem spl_len (s : Txt) : (spl s).1.length ≤ s.length := by have := congrArg List.length (spl_join s); simp at this; omega
theorem parse_eq (s : Txt) (h : s.length ≤ 100000) : m_label_Parse s = some (parse s) := by
  unfold m_label_Parse parse
  obtain ⟨e1, e2⟩ := spl_cut s
  have hcl := cut1_len (c := 59) (s := s)
  rw [strCut_eq s _ (by omega), bndS, isName_eq, bndS, e1]
  have hsl := spl_len s
  by_cases hn : nameB (spl s).1 = true
  · rw [hn, if_neg (by simp), if_pos rfl, jn_eq, ← e2]
    rw [W64_id (by omega) (by omega)]
    exact parseL _ _ (fun l => rfl) _ _ _ _ _ (by unfold fuel; split <;> omega) (by simp) (by omega) (by rw [← e1]; omega)
  · simp at hn
    rw [hn]; rfl
def fall : List Pr → Prop
  | [] => True
  | [_] => True
  | a :: b :: l => Op.bytesLess a.Key b.Key = false ∧ fall (b :: l)
theorem srt_fall : ∀ (q p : List Pr), fall (q.reverse ++ p) → q.foldl (fun acc a => insR a acc) p = q.reverse ++ p
  | [], p, _ => rfl
  | x :: q, p, h => by
    rw [List.foldl_cons]
    have hx : insR x p = x :: p := by
      cases p with
      | nil => rfl
      | cons b p =>
        have : ∀ u : List Pr, fall (u ++ (x :: b :: p)) → Op.bytesLess x.Key b.Key = false := by
          intro u
          induction u with
          | nil => exact fun h => h.1
          | cons y u ih =>
            intro h
            cases u with
            | nil => exact h.2.1
            | cons z u => exact ih h.2
        rw [insR, if_neg (by rw [this q.reverse (by simpa using h)]; simp)]
    rw [hx, srt_fall q (x :: p) (by simpa using h)]; simp
theorem srt_id {l : List Pr} (h : fall l.reverse) : srt l = l := by unfold srt; rw [srt_fall l [] (by simpa using h)]; simp
theorem chk_snoc : ∀ (q p : List Pr) (a : Pr), chk p q = 0 → nameB a.Key = true → valB a.Val = true → (p ++ q).any (fun b => decide (b.Key = a.Key)) = false → chk p (q ++ [a]) = 0
  | [], p, a, _, h1, h2, h3 => by rw [List.append_nil] at h3; show chk p [a] = 0; rw [chk, h1, h2, h3]; rfl
  | x :: q, p, a, h, h1, h2, h3 => by
    rw [chk] at h
    rw [List.cons_append, chk]
    split at h
    · rename_i hx
      rw [if_pos hx]
      split at h
      · cases h
      · rename_i hp
        rw [if_neg hp]
        exact chk_snoc q (p ++ [x]) a h h1 h2 (by simpa using h3)
    · cases h
theorem pairOf_some {p : Txt} {a : Pr} (h : pairOf p = some a) : p = a.Key ++ 61 :: a.Val ∧ nameB a.Key = true ∧ valB a.Val = true := by
  unfold pairOf at h
  split at h
  · rename_i hh
    simp only [Bool.and_eq_true] at hh
    cases h
    exact ⟨cut1_yes hh.1.1, hh.1.2, hh.2⟩
  · cases h
theorem pgo_ok (name : Txt) : ∀ (ps : List Txt) (l : List Pr) (at_ : Int), l.length ≤ 4 → chk [] l = 0 → fall l.reverse → (pgo name l at_ ps).2.2.2 = 0 →
    ∃ m, pgo name l at_ ps = (name, m, 0, 0) ∧ m.length ≤ 4 ∧ chk [] m = 0 ∧ fall m.reverse ∧ texts m = texts l ++ ps.flatMap (fun p => 59 :: p)
  | [], l, at_, h4, hc, hf, _ => ⟨l, rfl, h4, hc, hf, by simp⟩
  | p :: ps, l, at_, h4, hc, hf, h => by
    rw [pgo] at h ⊢
    split at h
    · cases h
    · rename_i hl
      rw [if_neg hl]
      cases hp : pairOf p with
      | none => rw [hp] at h; cases h
      | some a =>
        rw [hp] at h
        dsimp only at h ⊢
        split at h
        · rename_i hfo
          rw [if_pos hfo]
          obtain ⟨e, hn, hv⟩ := pairOf_some hp
          have hfo' := hfo
          unfold foll at hfo
          split at hfo
          · cases hfo
          · rename_i hany
            have hfl : fall (l ++ [a]).reverse := by
              rw [List.reverse_append]
              cases hr : l.reverse with
              | nil => trivial
              | cons b r =>
                have hb : l.getLast? = some b := by rw [← List.head?_reverse, hr]; rfl
                rw [hb] at hfo
                dsimp only at hfo
                split at hfo
                · cases hfo
                · rename_i hlt
                  refine ⟨by simpa using hlt, ?_⟩
                  rw [← hr]; exact hf
            obtain ⟨m, h1, h2, h3, h5, h6⟩ := pgo_ok name ps (l ++ [a]) (at_ + p.length + 1) (by simp; omega) (chk_snoc l [] a hc hn hv (by simpa using hany)) hfl h
            refine ⟨m, h1, h2, h3, h5, ?_⟩
            rw [h6, e]
            simp [texts, at1]
        · rename_i hfo
          exact absurd h hfo
theorem parse_ok {s : Txt} (h : (parse s).2.2.2 = 0) : ∃ name m, parse s = (name, m, 0, 0) ∧ nameB name = true ∧ m.length ≤ 4 ∧ chk [] m = 0 ∧ srt m = m ∧ s = name ++ texts m := by
  unfold parse at h ⊢
  split at h
  · rename_i hn
    rw [if_pos hn]
    obtain ⟨m, h1, h2, h3, h4, h5⟩ := pgo_ok _ _ [] _ (by simp) rfl trivial h
    refine ⟨_, m, h1, hn, h2, h3, srt_id h4, ?_⟩
    rw [h5]
    simpa [texts] using spl_join s
  · cases h
theorem chk_iff : ∀ (l p : List Pr), chk p l = 0 ↔ (∀ a ∈ l, nameB a.Key = true ∧ valB a.Val = true) ∧ (∀ a ∈ l, ∀ b ∈ p, b.Key ≠ a.Key) ∧ l.Pairwise (fun a b => a.Key ≠ b.Key)
  | [], p => by simp [chk]
  | x :: l, p => by
    rw [chk]
    by_cases hx : (nameB x.Key && valB x.Val) = true
    · rw [if_pos hx]
      by_cases hp : p.any (fun b => decide (b.Key = x.Key)) = true
      · rw [if_pos hp]
        simp at hp
        obtain ⟨b, hb, hk⟩ := hp
        constructor
        · intro h; cases h
        · intro h; exact absurd hk (h.2.1 x (by simp) b hb)
      · rw [if_neg hp, chk_iff l (p ++ [x])]
        simp at hx hp ⊢
        grind
    · rw [if_neg hx]
      simp at hx ⊢
      grind
def finB (x : UInt64) : Bool := decide (x.toNat / 4503599627370496 % 2048 ≠ 2047)
theorem and_exp (x : Nat) : x &&& 9218868437227405312 = (x / 4503599627370496 % 2048) * 4503599627370496 := by
  have e1 : x / 4503599627370496 % 2048 = (x >>> 52) &&& (2 ^ 11 - 1) := by rw [Nat.and_two_pow_sub_one_eq_mod, Nat.shiftRight_eq_div_pow]
  have e2 : ((x >>> 52) &&& (2 ^ 11 - 1)) * 4503599627370496 = ((x >>> 52) &&& (2 ^ 11 - 1)) <<< 52 := by rw [Nat.shiftLeft_eq]
  rw [e1, e2]
  apply Nat.eq_of_testBit_eq
  intro i
  rw [Nat.testBit_and, Nat.testBit_shiftLeft, Nat.testBit_and, Nat.testBit_shiftRight, Nat.testBit_two_pow_sub_one, show (9218868437227405312 : Nat) = (2 ^ 11 - 1) <<< 52 by decide, Nat.testBit_shiftLeft, Nat.testBit_two_pow_sub_one]
  by_cases h : i ≥ 52
  · rw [show 52 + (i - 52) = i by omega]
    simp [h]
  · simp [h]
theorem fin_eq (x : UInt64) : m_num_Finite x = some (finB x) := by
  unfold m_num_Finite finB
  congr 1
  apply decide_eq_decide.2
  rw [UInt64.toNat_and, show (9218868437227405312 : UInt64).toNat = 9218868437227405312 by rfl, and_exp]
  omega
def ltZ (x : UInt64) : Bool := decide (9223372036854775808 ≤ x.toNat ∧ x.toNat % 9223372036854775808 ≠ 0 ∧ x.toNat % 9223372036854775808 ≤ 9218868437227405312)
theorem less_eq (x : UInt64) : m_num_Less x 0 = some (ltZ x) := by
  have hx := x.toNat_lt
  unfold m_num_Less m_num_of fltLt ltZ
  rw [bndS, bndS]
  congr 1
  have r0 : Ieee.Format.read Ieee.double (0 : UInt64).toNat = .number false 0 (-1074) := by decide
  show (Ieee.Datum.order (Ieee.Format.read Ieee.double x.toNat) (Ieee.Format.read Ieee.double (0 : UInt64).toNat) == some .lt) = _
  rw [r0]
  generalize x.toNat = v at *
  unfold Ieee.Format.read
  have sw : Ieee.double.signWeight = 9223372036854775808 := by decide
  have bn : Ieee.double.binade = 4503599627370496 := by decide
  have ir : Ieee.double.infRung = 9218868437227405312 := by decide
  have lp : Ieee.double.leastPlace = -1074 := by decide
  dsimp only
  rw [sw, bn, ir, lp]
  have hs : (v / 9223372036854775808 % 2 == 1) = decide (9223372036854775808 ≤ v) := by
    by_cases h : 9223372036854775808 ≤ v
    · rw [decide_eq_true h]; have : v / 9223372036854775808 % 2 = 1 := by omega
      rw [this]; rfl
    · rw [decide_eq_false h]; have : v / 9223372036854775808 % 2 = 0 := by omega
      rw [this]; rfl
  rw [hs]
  generalize hb : decide (9223372036854775808 ≤ v) = s
  have hb' : s = true ↔ 9223372036854775808 ≤ v := by rw [← hb]; exact decide_eq_true_iff
  have cmp : ∀ (m k : Nat), (Ieee.Datum.order (.number s m (-1074 + (k : Int))) (.number false 0 (-1074)) == some .lt) = decide (s = true ∧ m ≠ 0) := by
    intro m k
    have e1 : min (-1074 + (k : Int)) (-1074) = -1074 := by omega
    show (some (compare (Ieee.signed s m ((-1074 + (k : Int)) - min (-1074 + (k : Int)) (-1074)).toNat) (Ieee.signed false 0 ((-1074 : Int) - min (-1074 + (k : Int)) (-1074)).toNat)) == some .lt) = _
    rw [e1, show ((-1074 + (k : Int)) - (-1074)).toNat = k by omega, show ((-1074 : Int) - (-1074)).toNat = 0 by rfl]
    unfold Ieee.signed
    rw [if_neg (show ¬ (false = true) by decide), show ((0 <<< 0 : Nat) : Int) = 0 by rfl, Nat.shiftLeft_eq]
    have hp := Nat.two_pow_pos k
    cases s with
    | false =>
      have : ¬ (((m * 2 ^ k : Nat) : Int) < 0) := by omega
      simp only [compare, compareOfLessAndEq]
      rw [if_neg (show ¬ (if false = true then -((m * 2 ^ k : Nat) : Int) else ((m * 2 ^ k : Nat) : Int)) < 0 from this)]
      (repeat' split) <;> first | rfl | (exfalso; simp_all) | simp
    | true =>
      by_cases hm : m = 0
      · subst hm; simp [compare, compareOfLessAndEq]
      · have h0 : 0 < m * 2 ^ k := Nat.mul_pos (by omega) hp
        have : (-((m * 2 ^ k : Nat) : Int) < 0) := by omega
        simp only [compare, compareOfLessAndEq]
        rw [if_pos (show (if True then -((m * 2 ^ k : Nat) : Int) else ((m * 2 ^ k : Nat) : Int)) < 0 by rw [if_pos trivial]; exact this)]; simp [hm]
  by_cases h1 : v % 9223372036854775808 < 4503599627370496
  · rw [if_pos h1]
    refine (cmp (v % 9223372036854775808) 0).trans ?_
    apply decide_eq_decide.2; rw [hb']; omega
  · rw [if_neg h1]
    by_cases h2 : v % 9223372036854775808 < 9218868437227405312
    · rw [if_pos h2]
      refine (cmp (4503599627370496 + v % 9223372036854775808 % 4503599627370496) _).trans ?_
      apply decide_eq_decide.2; rw [hb']; omega
    · rw [if_neg h2]
      by_cases h3 : v % 9223372036854775808 = 9218868437227405312
      · rw [if_pos h3]
        show (some (if s = true then Ordering.lt else .gt) == some .lt) = _
        have : decide (s = true) = decide (9223372036854775808 ≤ v ∧ v % 9223372036854775808 ≠ 0 ∧ v % 9223372036854775808 ≤ 9218868437227405312) := by apply decide_eq_decide.2; rw [hb']; omega
        rw [← this]; cases s <;> rfl
      · rw [if_neg h3]
        show false = _
        symm; rw [decide_eq_false_iff_not]; omega
abbrev Pt := T_api_Point
def kindsB (p : Pt) : Bool := if p.Kind = 3 then decide (p.Temp = 0) else decide (1 ≤ p.Kind ∧ p.Kind ≤ 5) && decide (p.Temp = 1 ∨ p.Temp = 2)
theorem kinds_eq (p : Pt) : m_point_kinds p = some (kindsB p) := by
  unfold m_point_kinds kindsB
  rw [jn_eq]
  by_cases h3 : p.Kind = 3
  · rw [if_pos h3, if_pos h3]
  · rw [if_neg h3, if_neg h3]
    by_cases h1 : p.Kind = 1
    · simp [h1]
    · by_cases h2 : p.Kind = 2
      · simp [h2]
      · by_cases h4 : p.Kind = 4
        · simp [h4]
        · by_cases h5 : p.Kind = 5
          · simp [h5]
          · have : ¬ (1 ≤ p.Kind ∧ p.Kind ≤ 5) := by omega
            simp [h1, h2, h4, h5, this]
def timesB (p : Pt) : Bool := decide (0 ≤ p.Start ∧ p.Time ≤ 4503599627370496 ∧ (if p.Kind = 3 then p.Start = p.Time else p.Start < p.Time))
theorem times_eq (p : Pt) : m_point_times p = some (timesB p) := by
  unfold m_point_times timesB
  by_cases h : p.Start < 0 ∨ p.Time > 4503599627370496
  · rw [if_pos h]; congr 1; symm; rw [decide_eq_false_iff_not]; omega
  · rw [if_neg h]
    split <;> (congr 1; apply decide_eq_decide.2; omega)
def bareB (h : T_api_Hist) : Bool := decide (h.Scale = 0 ∧ h.Zero = 0 ∧ h.Pos.Offset = 0 ∧ h.Neg.Offset = 0 ∧ h.Pos.Counts = [] ∧ h.Neg.Counts = [])
theorem u64z (x : UInt64) : ((x.toNat : Nat) : Int) = 0 ↔ x = 0 := by
  constructor
  · intro h; apply UInt64.toNat_inj.1; simp; omega
  · rintro rfl; rfl
theorem bare_eq (h : T_api_Hist) (h1 : h.Pos.Counts.length ≤ 1000000) (h2 : h.Neg.Counts.length ≤ 1000000) : m_point_bare h = some (bareB h) := by
  unfold m_point_bare bareB
  rw [jn_eq, W64_id (by omega) (by omega)]
  simp only [u64z]
  have e : ((h.Pos.Counts.length : Int) + (h.Neg.Counts.length : Int) = 0) ↔ h.Pos.Counts = [] ∧ h.Neg.Counts = [] := by
    rw [← List.length_eq_zero_iff, ← List.length_eq_zero_iff]; omega
  simp only [e]
  split
  · rename_i hh; congr 1; apply decide_eq_decide.2; simp [hh]
  · rename_i hh; congr 1; symm; rw [decide_eq_false_iff_not]; intro hc; exact hh ⟨⟨⟨hc.1, hc.2.1⟩, hc.2.2.1⟩, hc.2.2.2.1⟩
def ownB (p : Pt) : Bool := decide ((p.Kind ≠ 1 → p.Int_ = 0) ∧ (¬ (p.Kind = 2 ∨ p.Kind = 3 ∨ p.Kind = 5) → p.Re = 0) ∧ (p.Kind ≠ 5 → p.Im = 0) ∧ (p.Kind ≠ 4 → bareB p.Hist = true) ∧ 0 ≤ p.Flags ∧ p.Flags ≤ 31)
theorem own_eq (p : Pt) (h1 : p.Hist.Pos.Counts.length ≤ 1000000) (h2 : p.Hist.Neg.Counts.length ≤ 1000000) : m_point_own p = some (ownB p) := by
  unfold m_point_own ownB
  rw [jn_eq, bare_eq _ h1 h2, jn_eq]
  simp only [u64z, ne_eq]
  by_cases a1 : ¬ p.Kind = 1 ∧ ¬ p.Int_ = 0
  · rw [if_pos a1, decide_eq_true a1, if_pos rfl]; congr 1; symm; rw [decide_eq_false_iff_not]; intro hc; exact a1.2 (hc.1 a1.1)
  · rw [if_neg a1]
    by_cases a2 : (¬ ((p.Kind = 2 ∨ p.Kind = 3) ∨ p.Kind = 5)) ∧ ¬ p.Re = 0
    · rw [if_pos a2, decide_eq_true a2, if_pos rfl]; congr 1; symm; rw [decide_eq_false_iff_not]; intro hc; exact a2.2 (hc.2.1 (by intro h; exact a2.1 (by omega)))
    · rw [if_neg a2]
      by_cases a3 : ¬ p.Kind = 5 ∧ ¬ p.Im = 0
      · rw [if_pos a3, decide_eq_true a3, if_pos rfl]; congr 1; symm; rw [decide_eq_false_iff_not]; intro hc; exact a3.2 (hc.2.2.1 a3.1)
      · rw [if_neg a3]
        have b1 : ¬ p.Kind = 1 → p.Int_ = 0 := fun h => Classical.byContradiction fun h' => a1 ⟨h, h'⟩
        have b2 : ¬ (p.Kind = 2 ∨ p.Kind = 3 ∨ p.Kind = 5) → p.Re = 0 := fun h => Classical.byContradiction fun h' => a2 ⟨by omega, h'⟩
        have b3 : ¬ p.Kind = 5 → p.Im = 0 := fun h => Classical.byContradiction fun h' => a3 ⟨h, h'⟩
        by_cases a4 : p.Kind = 4
        · rw [if_neg (by simpa using a4)]
          simp only [Bool.false_eq_true, if_false]
          by_cases a5 : p.Flags < 0 ∨ p.Flags > 31
          · rw [decide_eq_true a5, if_pos rfl]; congr 1; symm; rw [decide_eq_false_iff_not]; omega
          · rw [decide_eq_false a5]; simp only [Bool.false_eq_true, if_false]; congr 1; symm; rw [decide_eq_true_iff]; exact ⟨b1, b2, b3, fun h => (h a4).elim, by omega, by omega⟩
        · rw [if_pos a4, bndS]
          cases hb : bareB p.Hist with
          | false => simp only [Bool.not_false, if_true]; congr 1; symm; rw [decide_eq_false_iff_not]; intro hc; have := hc.2.2.2.1 a4; cases this
          | true =>
            simp only [Bool.not_true, Bool.false_eq_true, if_false]
            by_cases a5 : p.Flags < 0 ∨ p.Flags > 31
            · rw [decide_eq_true a5, if_pos rfl]; congr 1; symm; rw [decide_eq_false_iff_not]; omega
            · rw [decide_eq_false a5]; simp only [Bool.false_eq_true, if_false]; congr 1; symm; rw [decide_eq_true_iff]; exact ⟨b1, b2, b3, fun _ => by first | rfl | trivial, by omega, by omega⟩
def pcE (p : Pt) : Int :=
  if check p.Name p.Attrs ≠ 0 then check p.Name p.Attrs
  else if kindsB p = false then 14
  else if p.Mono = true ∧ p.Kind ≠ 1 ∧ p.Kind ≠ 2 then 1
  else if timesB p = false then 1
  else if ownB p = false then 3
  else if (p.Mono = true ∧ p.Kind = 2) ∧ finB p.Re = false then 11
  else if p.Mono = true ∧ (p.Int_ < 0 ∨ ltZ p.Re = true) then 1
  else if p.Kind = 4 then hcE p.Hist else 0
theorem PCheck_eq (p : Pt) (h1 : p.Hist.Pos.Counts.length ≤ 1000000) (h2 : p.Hist.Neg.Counts.length ≤ 1000000) : m_point_Check p = some (pcE p) := by
  unfold m_point_Check pcE m_point_sum
  rw [check_eq, bndS]
  by_cases c : check p.Name p.Attrs ≠ 0
  · rw [if_pos c, if_pos c]
  rw [if_neg c, if_neg c, kinds_eq, bndS]
  cases hk : kindsB p with
  | false => rw [if_pos (by rfl), if_pos rfl]
  | true =>
    rw [if_neg (by decide), if_neg (show ¬ (true = false) by decide)]
    simp only [jn_eq, bndS, times_eq, own_eq p h1 h2, fin_eq, less_eq, HCheck_eq p.Hist h1 h2]
    have e1 : (p.Mono = true ∧ p.Kind ≠ 1 ∧ p.Kind ≠ 2) ↔ (if p.Mono = true then (!decide ((p.Kind = 1) ∨ (p.Kind = 2))) else false) = true := by
      cases p.Mono <;> simp
    cases hm : p.Mono with
    | false =>
      simp only [Bool.false_eq_true, if_false, false_and]
      cases timesB p <;> simp
      cases ownB p <;> simp
      split <;> rfl
    | true =>
      simp only [if_true, true_and]
      by_cases hs : p.Kind = 1 ∨ p.Kind = 2
      · rw [decide_eq_true hs]
        simp only [Bool.not_true, Bool.false_eq_true, if_false]
        rw [if_neg (show ¬ (p.Kind ≠ 1 ∧ p.Kind ≠ 2) by omega)]
        cases timesB p <;> simp
        cases ownB p <;> simp
        have h4 : ¬ p.Kind = 4 := by omega
        by_cases h2 : p.Kind = 2
        · simp only [h2, if_true, true_and]
          cases finB p.Re <;> simp
          by_cases hi : p.Int_ < 0
          · simp [hi]
          · simp [hi]; split <;> rfl
        · simp only [h2, if_false, false_and]
          by_cases hi : p.Int_ < 0
          · simp [hi]
          · simp [hi, h4]; split <;> rfl
      · rw [decide_eq_false hs, if_pos (show p.Kind ≠ 1 ∧ p.Kind ≠ 2 by omega)]
        simp
abbrev zPt : Pt := ⟨[], [], 0, 0, false, 0, 0, 0, 0, 0, h00, 0⟩
def sPt (nm : Txt) (l : List Pr) (a b c : UInt8) : Pt := ⟨nm, l, W64 ((a.toNat : Int) - 48), W64 ((b.toNat : Int) - 48), decide (((c).toNat : Int) = 49), if W64 ((a.toNat : Int) - 48) = 3 then 1 else 0, 1, 0, 0, 0, h00, 0⟩
def oPt (nm : Txt) (l : List Pr) (a b c : UInt8) : Pt := ⟨nm, l, W64 ((a.toNat : Int) - 48), W64 ((b.toNat : Int) - 48), decide (((c).toNat : Int) = 49), 0, 0, 0, 0, 0, h00, 0⟩
def serE (s : Txt) : Pt × Int :=
  if (((cut1 32 s).2.2 = true ∧ (cut1 32 s).2.1.length = 3) ∧ (parse (cut1 32 s).1).2.2.2 = 0) ∧ ((cut1 32 s).2.1.getD 2 0 = 48 ∨ (cut1 32 s).2.1.getD 2 0 = 49) ∧
      pcE (sPt (parse (cut1 32 s).1).1 (parse (cut1 32 s).1).2.1 ((cut1 32 s).2.1.getD 0 0) ((cut1 32 s).2.1.getD 1 0) ((cut1 32 s).2.1.getD 2 0)) = 0
  then (oPt (parse (cut1 32 s).1).1 (parse (cut1 32 s).1).2.1 ((cut1 32 s).2.1.getD 0 0) ((cut1 32 s).2.1.getD 1 0) ((cut1 32 s).2.1.getD 2 0), 0) else (zPt, 3)
theorem byteZ (c : UInt8) (k : Nat) (hk : k < 256) : ((c.toNat : Nat) : Int) = (k : Int) ↔ c = UInt8.ofNat k := by
  constructor
  · intro h; apply UInt8.toNat_inj.1; rw [UInt8.toNat_ofNat']; omega
  · rintro rfl; rw [UInt8.toNat_ofNat']; omega
theorem three {l : List UInt8} (h : l.length = 3) : ∃ a b c, l = [a, b, c] := by
  match l, h with
  | [a, b, c], _ => exact ⟨a, b, c, rfl⟩
theorem series_eq (s : Txt) (hs : s.length ≤ 10000) : m_chunk_Series s = some (serE s) := by
  unfold m_chunk_Series serE
  have hl := cut1_len (c := 32) (s := s)
  rw [strCut_eq s 32 (by omega), bndS]
  generalize hc : cut1 32 s = t at *
  obtain ⟨p, q, f⟩ := t
  dsimp only at hl ⊢
  rw [parse_eq p (by omega), bndS]
  generalize parse p = r
  obtain ⟨nm, l, at_, e⟩ := r
  dsimp only
  simp only [jn_eq]
  by_cases h : (f = true ∧ q.length = 3) ∧ e = 0
  · obtain ⟨⟨hf, hq⟩, he⟩ := h
    obtain ⟨a, b, c, rfl⟩ := three hq
    subst hf he
    rw [if_neg (show ¬ (((!true) = true ∨ (0 : Int) ≠ 0) ∨ (([a, b, c] : List UInt8).length : Int) ≠ 3) by simp), show idx [a, b, c] 2 = some c from rfl, bndS, bndS, show idx [a, b, c] 0 = some a from rfl, bndS, show idx [a, b, c] 1 = some b from rfl, bndS, bndS]
    rw [show ([a, b, c] : List UInt8).getD 0 0 = a from rfl, show ([a, b, c] : List UInt8).getD 1 0 = b from rfl, show ([a, b, c] : List UInt8).getD 2 0 = c from rfl]
    have fin : (if W64 ((a.toNat : Int) - 48) = 3 then (m_point_Check ⟨nm, l, W64 ((a.toNat : Int) - 48), W64 ((b.toNat : Int) - 48), decide (((c).toNat : Int) = 49), 1, 1, 0, 0, 0, h00, 0⟩).bind fun p54 => if p54 ≠ 0 then some (zPt, (3 : Int)) else some (oPt nm l a b c, 0) else (m_point_Check ⟨nm, l, W64 ((a.toNat : Int) - 48), W64 ((b.toNat : Int) - 48), decide (((c).toNat : Int) = 49), 0, 1, 0, 0, 0, h00, 0⟩).bind fun p54 => if p54 ≠ 0 then some (zPt, (3 : Int)) else some (oPt nm l a b c, 0)) = some (if pcE (sPt nm l a b c) = 0 then (oPt nm l a b c, 0) else (zPt, 3)) := by
      have e1 : pcE (sPt nm l a b c) = pcE ⟨nm, l, W64 ((a.toNat : Int) - 48), W64 ((b.toNat : Int) - 48), decide (((c).toNat : Int) = 49), if W64 ((a.toNat : Int) - 48) = 3 then 1 else 0, 1, 0, 0, 0, h00, 0⟩ := rfl
      rw [e1]
      by_cases h3 : W64 ((a.toNat : Int) - 48) = 3
      · rw [if_pos h3, if_pos h3, PCheck_eq _ (by simp) (by simp), bndS]
        by_cases hh : pcE ⟨nm, l, W64 ((a.toNat : Int) - 48), W64 ((b.toNat : Int) - 48), decide (((c).toNat : Int) = 49), 1, 1, 0, 0, 0, h00, 0⟩ = 0
        · rw [if_neg (fun k => k hh), if_pos hh]
        · rw [if_pos hh, if_neg hh]
      · rw [if_neg h3, if_neg h3, PCheck_eq _ (by simp) (by simp), bndS]
        by_cases hh : pcE ⟨nm, l, W64 ((a.toNat : Int) - 48), W64 ((b.toNat : Int) - 48), decide (((c).toNat : Int) = 49), 0, 1, 0, 0, 0, h00, 0⟩ = 0
        · rw [if_neg (fun k => k hh), if_pos hh]
        · rw [if_pos hh, if_neg hh]
    by_cases h48 : c = 48
    · rw [if_neg (show ¬ ((c.toNat : Int) ≠ 48) by rw [h48]; decide), if_neg (show ¬ (false = true) by decide)]
      refine fin.trans ?_
      congr 1
      exact ite_cong ⟨fun h => ⟨⟨⟨rfl, rfl⟩, rfl⟩, Or.inl h48, h⟩, fun h => h.2.2⟩ (fun _ => rfl) (fun _ => rfl)
    · rw [if_pos (show (c.toNat : Int) ≠ 48 from fun h => h48 ((byteZ c 48 (by omega)).1 h))]
      by_cases h49 : c = 49
      · rw [if_neg (by rw [h49]; decide)]
        refine fin.trans ?_
        congr 1
        exact ite_cong ⟨fun h => ⟨⟨⟨rfl, rfl⟩, rfl⟩, Or.inr h49, h⟩, fun h => h.2.2⟩ (fun _ => rfl) (fun _ => rfl)
      · rw [if_pos (decide_eq_true (show (c.toNat : Int) ≠ 49 from fun h => h49 ((byteZ c 49 (by omega)).1 h))), if_neg (fun h => h.2.1.elim h48 h49)]
  · rw [if_neg (c := ((f = true ∧ q.length = 3) ∧ e = 0) ∧ _) (fun k => h k.1), if_pos, if_pos (by first | trivial | rfl)]
    cases f with
    | false => exact Or.inl (Or.inl rfl)
    | true =>
      by_cases hq : q.length = 3
      · exact Or.inl (Or.inr fun he => h ⟨⟨rfl, hq⟩, he⟩)
      · exact Or.inr (by omega)
end Go.Proofs.YtpcpfjpcfcbopaaDoor
