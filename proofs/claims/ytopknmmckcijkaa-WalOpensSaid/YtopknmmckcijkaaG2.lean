/-
  Chapter 19: both scans read what the lists say; plain Lean.
-/
import Derived.Test.YtopknmmckcijkaaF5
import Derived.Test.YtopknmmckcijkaaG1
set_option linter.unusedVariables false
set_option linter.unusedSimpArgs false
namespace Go.Proofs.Ytopknmmckcijkaa
open Go Go.RowKit Go.Wk
/- the document's first frame from a place on -/
theorem idx_shift {α : Type} (p l : List α) (i : Nat) (z : Int) (h : z = p.length + i) : idx (p ++ l) z = l[i]? := by
  rw [h, show ((p.length : Int) + i) = ((p.length + i : Nat) : Int) by omega, idx_nat, List.getElem?_append_right (by omega)]
  congr 1; omega
theorem cut_shift {α : Type} (p l : List α) (a b : Nat) (x y : Int) (hx : x = p.length + a) (hy : y = p.length + b) (h1 : a ≤ b) (h2 : b ≤ l.length) : cutL (p ++ l) x y = some ((l.take b).drop a) := by
  rw [cut_some (by omega) (by omega) (by rw [List.length_append]; omega)]
  rw [show y.toNat = p.length + b by omega, show x.toNat = p.length + a by omega, List.take_length_add_append, List.drop_length_add_append]
theorem be4S (p : List UInt8) (hp : p.length ≤ 100000000) (j : Int → Option T_limnographref04_Got) (x0 x1 x2 x3 x4 : UInt8) (t : List UInt8) : m_limnographref04_First_L1 (p ++ x0 :: x1 :: x2 :: x3 :: x4 :: t) p.length j fuel 0 4 = j ((num4 x1 x2 x3 x4 : Nat) : Int) := by
  obtain ⟨F, hF⟩ := fuelS 5 (by omega)
  have a1 := x1.toNat_lt; have a2 := x2.toNat_lt; have a3 := x3.toNat_lt; have a4 := x4.toNat_lt
  have w : ∀ k : Int, 0 ≤ k → k ≤ 4 → W64 ((p.length : Int) + k) = (p.length : Int) + k := fun k h1 h2 => W64_id (by omega) (by omega)
  have i4 : idx (p ++ x0 :: x1 :: x2 :: x3 :: x4 :: t) (W64 ((p.length : Int) + 4)) = some x4 := by rw [w 4 (by omega) (by omega), idx_shift _ _ 4 _ (by omega)]; rfl
  have i3 : idx (p ++ x0 :: x1 :: x2 :: x3 :: x4 :: t) (W64 ((p.length : Int) + 3)) = some x3 := by rw [w 3 (by omega) (by omega), idx_shift _ _ 3 _ (by omega)]; rfl
  have i2 : idx (p ++ x0 :: x1 :: x2 :: x3 :: x4 :: t) (W64 ((p.length : Int) + 2)) = some x2 := by rw [w 2 (by omega) (by omega), idx_shift _ _ 2 _ (by omega)]; rfl
  have i1 : idx (p ++ x0 :: x1 :: x2 :: x3 :: x4 :: t) (W64 ((p.length : Int) + 1)) = some x1 := by rw [w 1 (by omega) (by omega), idx_shift _ _ 1 _ (by omega)]; rfl
  rw [hF, m_limnographref04_First_L1, if_pos (by decide), i4, bndS, show W64 (4 - 1) = 3 from by decide]
  rw [W64_id (z := 256 * 0) (by omega) (by omega), W64_id (by omega) (by omega)]
  rw [m_limnographref04_First_L1, if_pos (by decide), i3, bndS, show W64 (3 - 1) = 2 from by decide]
  rw [W64_id (z := 256 * (256 * 0 + (x4.toNat : Int))) (by omega) (by omega), W64_id (by omega) (by omega)]
  rw [m_limnographref04_First_L1, if_pos (by decide), i2, bndS, show W64 (2 - 1) = 1 from by decide]
  rw [W64_id (z := 256 * (256 * (256 * 0 + (x4.toNat : Int)) + (x3.toNat : Int))) (by omega) (by omega), W64_id (by omega) (by omega)]
  rw [m_limnographref04_First_L1, if_pos (by decide), i1, bndS, show W64 (1 - 1) = 0 from by decide]
  rw [W64_id (z := 256 * (256 * (256 * (256 * 0 + (x4.toNat : Int)) + (x3.toNat : Int)) + (x2.toNat : Int))) (by omega) (by omega), W64_id (by omega) (by omega)]
  rw [m_limnographref04_First_L1, if_neg (by decide)]
  congr 1
  unfold num4; omega
theorem refFirstS (p l : List UInt8) (hp : p.length ≤ 100000000) (hl : l.length ≤ 100000000) : m_limnographref04_First (p ++ l) p.length = some ⟨(fst3 l).1, (fst3 l).2.1, (fst3 l).2.2⟩ := by
  unfold m_limnographref04_First fst3
  have hleft : W64 (((p ++ l).length : Int) - p.length) = (l.length : Int) := by rw [List.length_append, W64_id (by omega) (by omega)]; omega
  rw [hleft]
  cases l with
  | nil => rfl
  | cons x0 t =>
    rw [if_neg (by simp; omega), idx_shift p (x0 :: t) 0 _ (by omega), show (x0 :: t)[0]? = some x0 from rfl, bndS]
    by_cases h0 : x0 = 165
    · subst h0
      rw [if_neg (by simp)]
      by_cases h8 : t.length < 8
      · rw [if_pos (by simp; omega), firstF_short t h8]; rfl
      · obtain ⟨x1, x2, x3, x4, x5, x6, x7, x8, r, rfl⟩ := long8 t (by omega)
        have hlr : r.length ≤ 100000000 := by simp at hl; omega
        have hnl := num4_lt x1 x2 x3 x4
        rw [if_neg (by simp; omega), jn_eq, be4S p hp]
        by_cases hL : num4 x1 x2 x3 x4 > 65536
        · rw [if_pos (by omega), firstF_large _ _ _ _ _ _ _ _ _ hL]; rfl
        · rw [if_neg (by omega), W64_id (z := 9 + ((num4 x1 x2 x3 x4 : Nat) : Int)) (by omega) (by omega)]
          by_cases hS : num4 x1 x2 x3 x4 > r.length
          · rw [if_pos (by simp; omega), firstF_less _ _ _ _ _ _ _ _ _ hL hS]; rfl
          · have w9 : W64 ((p.length : Int) + 9) = (p.length : Int) + 9 := W64_id (by omega) (by omega)
            have w9n : W64 ((p.length : Int) + 9 + (num4 x1 x2 x3 x4 : Int)) = (p.length : Int) + 9 + (num4 x1 x2 x3 x4 : Int) := W64_id (by omega) (by omega)
            have c9 : cutL (p ++ 165 :: x1 :: x2 :: x3 :: x4 :: x5 :: x6 :: x7 :: x8 :: r) ((p.length : Int) + 9) ((p.length : Int) + 9 + (num4 x1 x2 x3 x4 : Int)) = some (r.take (num4 x1 x2 x3 x4)) := by
              rw [cut_shift p _ 9 (9 + num4 x1 x2 x3 x4) _ _ (by omega) (by omega) (by omega) (by simp; omega), ← pay_first 165 x1 x2 x3 x4 x5 x6 x7 x8 r]
            have c0 : cutL (p ++ 165 :: x1 :: x2 :: x3 :: x4 :: x5 :: x6 :: x7 :: x8 :: r) (p.length : Int) ((p.length : Int) + 9 + (num4 x1 x2 x3 x4 : Int)) = some ((165 :: x1 :: x2 :: x3 :: x4 :: x5 :: x6 :: x7 :: x8 :: r).take (9 + num4 x1 x2 x3 x4)) := by
              rw [cut_shift p _ 0 (9 + num4 x1 x2 x3 x4) _ _ (by omega) (by omega) (by omega) (by simp; omega)]
              rfl
            have hw := wrapL_eq_iff x1 x2 x3 x4 x5 x6 x7 x8 r (by omega)
            rw [if_neg (by simp; omega), w9, w9n, c9, bndS, wrap_eq _ (by simp; omega), bndS, c0, bndS]
            by_cases hC : sumL (r.take (num4 x1 x2 x3 x4)) = num4 x5 x6 x7 x8
            · rw [if_neg (fun h => h (hw.2 hC)), firstF_ok _ _ _ _ _ _ _ _ _ hL hS hC]; rfl
            · rw [if_pos (fun h => hC (hw.1 h)), firstF_sum _ _ _ _ _ _ _ _ _ hL hS hC]; rfl
    · rw [if_pos (fun h => h0 (UInt8.toNat_inj.1 (by simpa using Int.ofNat.inj h))), firstF_ne x0 t h0]; rfl
/- the scans -/
theorem pscan_L1 (b : List UInt8) (hb : b.length ≤ 100000000) : ∀ (m : Nat) (p l : List UInt8) (acc : List (List UInt8)) (F : Nat), p ++ l = b → l.length ≤ m → acc.length ≤ p.length → m_frame_Scan_L1 b (F + (m + 1)) acc (p.length : Int) = some (acc ++ (scanN m l).1, ((p.length + (scanN m l).2.1 : Nat) : Int), ((scanN m l).2.2 : Int))
  | 0, p, l, acc, F, hp, hl, ha => by
    have : l = [] := List.length_eq_zero_iff.1 (by omega)
    subst this
    rw [List.append_nil] at hp
    subst hp
    rw [show F + (0 + 1) = F + 1 from rfl, m_frame_Scan_L1, if_pos rfl, scanN_nil]; simp
  | m + 1, p, l, acc, F, hp, hl, ha => by
    rw [show F + (m + 1 + 1) = (F + (m + 1)) + 1 by omega, m_frame_Scan_L1]
    by_cases h0 : l = []
    · subst h0
      rw [List.append_nil] at hp
      subst hp
      rw [if_pos rfl, scanN_nil]; simp
    · have hll : 0 < l.length := List.length_pos_iff.2 h0
      have hbl : b.length = p.length + l.length := by rw [← hp, List.length_append]
      rw [if_neg (by omega)]
      have hc : cutL b (p.length : Int) (b.length : Int) = some l := by rw [← hp]; exact cut_end p l
      rw [hc, bndS, first_eq _ (by omega), bndS]
      unfold fst3
      dsimp only
      by_cases he : (firstF l).2.2 = 0
      · obtain ⟨q1, q2, q3⟩ := firstF_whole he h0
        rw [if_pos (by omega), app_some (by simp; omega), bndS, W64_id (by omega) (by omega), scanN_ok h0 he]
        have ih := pscan_L1 b hb m (p ++ l.take (firstF l).2.1) (l.drop (firstF l).2.1) (acc ++ [(firstF l).1]) F (by rw [List.append_assoc, List.take_append_drop]; exact hp) (by rw [List.length_drop]; omega) (by rw [List.length_append, List.length_append, List.length_take]; simp; omega)
        rw [List.length_append, List.length_take, Nat.min_eq_left q2] at ih
        have e1 : ((p.length : Int) + ((firstF l).2.1 : Int)) = ((p.length + (firstF l).2.1 : Nat) : Int) := by omega
        rw [e1, ih]
        congr 1
        refine Prod.ext (by simp) (Prod.ext ?_ rfl)
        dsimp only
        omega
      · rw [if_neg (by omega), scanN_err h0 he]; simp
theorem scanN_more : ∀ (m n : Nat) (l : List UInt8), l.length ≤ m → l.length ≤ n → scanN m l = scanN n l
  | 0, n, l, h1, _ => by
    have : l = [] := List.length_eq_zero_iff.1 (by omega)
    subst this; rw [scanN_nil, scanN_nil]
  | m + 1, 0, l, _, h2 => by
    have : l = [] := List.length_eq_zero_iff.1 (by omega)
    subst this; rw [scanN_nil, scanN_nil]
  | m + 1, n + 1, l, h1, h2 => by
    by_cases h0 : l = []
    · subst h0; rw [scanN_nil, scanN_nil]
    · by_cases he : (firstF l).2.2 = 0
      · obtain ⟨q1, q2, _⟩ := firstF_whole he h0
        rw [scanN_ok h0 he, scanN_ok h0 he, scanN_more m n _ (by rw [List.length_drop]; omega) (by rw [List.length_drop]; omega)]
      · rw [scanN_err h0 he, scanN_err h0 he]
def scF (l : List UInt8) : List (List UInt8) × Nat × Nat := scanN l.length l
theorem pscan_eq (b : List UInt8) (hb : b.length ≤ 100000000) : m_frame_Scan b = some ((scF b).1, ((scF b).2.1 : Int), ((scF b).2.2 : Int)) := by
  unfold m_frame_Scan
  obtain ⟨F, hF⟩ := fuelB (b.length + 1) (by omega)
  have := pscan_L1 b hb b.length [] b [] F rfl (Nat.le_refl _) (Nat.le_refl _)
  rw [← hF] at this
  refine this.trans ?_
  simp [scF]
theorem rscan_L1 (b : List UInt8) (hb : b.length ≤ 100000000) (j : T_limnographref04_Row → Option T_limnographref04_Row) (hj : ∀ r, j r = some r) : ∀ (m : Nat) (p l : List UInt8) (acc : List (List UInt8)) (F : Nat), p ++ l = b → l.length ≤ m → acc.length ≤ p.length →
    m_limnographref04_Scan_L1 b j (F + (m + 1)) ⟨acc, p.length, 0⟩ = some ⟨acc ++ (scanN m l).1, ((p.length + (scanN m l).2.1 : Nat) : Int), ((scanN m l).2.2 : Int)⟩
  | 0, p, l, acc, F, hp, hl, ha => by
    have : l = [] := List.length_eq_zero_iff.1 (by omega)
    subst this
    rw [List.append_nil] at hp
    subst hp
    rw [show F + (0 + 1) = F + 1 from rfl, m_limnographref04_Scan_L1, if_neg (by dsimp only; omega), hj, scanN_nil]; simp
  | m + 1, p, l, acc, F, hp, hl, ha => by
    rw [show F + (m + 1 + 1) = (F + (m + 1)) + 1 by omega, m_limnographref04_Scan_L1]
    dsimp only
    by_cases h0 : l = []
    · subst h0
      rw [List.append_nil] at hp
      subst hp
      rw [if_neg (by omega), hj, scanN_nil]; simp
    · have hll : 0 < l.length := List.length_pos_iff.2 h0
      have hbl : b.length = p.length + l.length := by rw [← hp, List.length_append]
      rw [if_pos (by omega)]
      have hf := refFirstS p l (by omega) (by omega)
      rw [hp] at hf
      rw [hf, bndS]
      unfold fst3
      dsimp only
      by_cases he : (firstF l).2.2 = 0
      · obtain ⟨q1, q2, q3⟩ := firstF_whole he h0
        rw [if_neg (by omega), app_some (by simp; omega), bndS, W64_id (by omega) (by omega), scanN_ok h0 he]
        have ih := rscan_L1 b hb j hj m (p ++ l.take (firstF l).2.1) (l.drop (firstF l).2.1) (acc ++ [(firstF l).1]) F (by rw [List.append_assoc, List.take_append_drop]; exact hp) (by rw [List.length_drop]; omega) (by rw [List.length_append, List.length_append, List.length_take]; simp; omega)
        rw [List.length_append, List.length_take, Nat.min_eq_left q2] at ih
        have e1 : ((p.length : Int) + ((firstF l).2.1 : Int)) = ((p.length + (firstF l).2.1 : Nat) : Int) := by omega
        rw [e1, ih]
        congr 1
        simp; omega
      · rw [if_pos (by omega), scanN_err h0 he]; simp
theorem rscan_eq (b : List UInt8) (hb : b.length ≤ 100000000) : m_limnographref04_Scan b = some ⟨(scF b).1, ((scF b).2.1 : Int), ((scF b).2.2 : Int)⟩ := by
  unfold m_limnographref04_Scan
  rw [jn_eq]
  obtain ⟨F, hF⟩ := fuelB (b.length + 1) (by omega)
  have := rscan_L1 b hb (fun y9 => some ({ L := y9.L, Used := y9.Used, E := y9.E } : T_limnographref04_Row)) (fun _ => rfl) b.length [] b [] F rfl (Nat.le_refl _) (Nat.le_refl _)
  rw [← hF] at this
  refine this.trans ?_
  simp [scF]
theorem same_refl (l : List (List UInt8)) (hl : l.length ≤ 100000000) : m_limnographref04_Same l l = some true := by
  unfold m_limnographref04_Same
  rw [if_neg (by simp), jn_eq, m_limnographref04_Same_L1_scan _ _ _ (by omega)]
  refine scanL_post (fun _ _ => True) (fun _ _ r => r = some true) trivial (fun _ _ => rfl) fun p x q s k hp _ hk => ?_
  rw [bndS, ← hp, idx_mid, bndS, if_neg (by simp)]
  exact hk () trivial
theorem scF_used (l : List UInt8) : ∀ n, (scanN n l).2.1 ≤ l.length ∧ (scanN n l).1.length ≤ l.length := by
  intro n
  induction n generalizing l with
  | zero => exact ⟨Nat.zero_le _, Nat.zero_le _⟩
  | succ n ih =>
    by_cases h0 : l = []
    · subst h0; rw [scanN_nil]; exact ⟨Nat.zero_le _, Nat.zero_le _⟩
    · by_cases he : (firstF l).2.2 = 0
      · obtain ⟨q1, q2, _⟩ := firstF_whole he h0
        have := ih (l.drop (firstF l).2.1)
        rw [List.length_drop] at this
        rw [scanN_ok h0 he]
        simp only [List.length_cons]
        omega
      · rw [scanN_err h0 he]; exact ⟨Nat.zero_le _, Nat.zero_le _⟩
/-- The records of bytes. -/
def recF (l : List UInt8) : List (List UInt8) × Nat × Nat := if (scF l).2.2 ≠ 0 ∧ (scF l).2.2 ≠ 2 then ([], 0, 15) else ((scF l).1, (scF l).2.1, 0)
theorem recs_eq (b : List UInt8) (hb : b.length ≤ 100000000) : m_wal_Records b = some ((recF b).1, ((recF b).2.1 : Int), ((recF b).2.2 : Int)) := by
  unfold m_wal_Records recF
  rw [pscan_eq b hb, bndS]
  dsimp only
  by_cases h : (scF b).2.2 ≠ 0 ∧ (scF b).2.2 ≠ 2
  · rw [if_pos h, if_pos (by omega)]; rfl
  · rw [if_neg h, if_neg (by omega)]; rfl
theorem rrecs_eq (b : List UInt8) (hb : b.length ≤ 100000000) : m_limnographref19_Records b = some ⟨(recF b).1, ((recF b).2.1 : Int), ((recF b).2.2 : Int)⟩ := by
  unfold m_limnographref19_Records recF
  rw [rscan_eq b hb, bndS]
  dsimp only
  by_cases h : (scF b).2.2 ≠ 0 ∧ (scF b).2.2 ≠ 2
  · rw [if_pos h, if_pos (by omega)]; rfl
  · rw [if_neg h, if_neg (by omega)]; rfl
theorem recF_le (l : List UInt8) : (recF l).2.1 ≤ l.length ∧ (recF l).1.length ≤ l.length := by
  unfold recF
  split
  · exact ⟨Nat.zero_le _, Nat.zero_le _⟩
  · exact scF_used l _
theorem awake_eq : m_limnographlaw19_awake = some true := by
  unfold m_limnographlaw19_awake
  decide +kernel
theorem records_law (x0 : List UInt8) {p : Prop} (_ : p) : m_limnographlaw19_WalRecords x0 = some true := by
  unfold m_limnographlaw19_WalRecords
  rw [awake_eq, bndS, if_neg (by simp)]
  by_cases h : (x0.length : Int) > 3000
  · rw [if_pos h]
  · rw [if_neg h, recs_eq _ (by omega), bndS, rrecs_eq _ (by omega), bndS, same_refl _ (by have := recF_le x0; show (recF x0).1.length ≤ _; omega), bndS]
    simp
end Go.Proofs.Ytopknmmckcijkaa
