/-
  Chapter 12: the laws PointBack and PointKeys hold, as plain forms; plain Lean.
-/
import Derived.Test.YtfcpdojcfogkbaaGreatR6
import Derived.Test.YtfcpdojcfogkbaaGreatWx
set_option linter.unusedVariables false
set_option linter.unusedSimpArgs false
namespace Go.Proofs.YtfcpdojcfogkbaaGreat
open Go Go.RowKit Go.Wk
theorem awake_eq : m_limnographlaw12_awake = some true := by decide +kernel
theorem light12 (p : Pt) : m_limnographref12_Light p = some (decide (p.Name.length ≤ 100) && light p.Attrs && decide (p.Hist.Pos.Counts.length ≤ 300 ∧ p.Hist.Neg.Counts.length ≤ 300)) := by
  unfold m_limnographref12_Light m_limnographref08_Light
  rw [jn_eq, light_eq]
  have e1 : ((p.Hist.Pos.Counts.length : Int) ≤ 300) ↔ p.Hist.Pos.Counts.length ≤ 300 := by omega
  have e2 : ((p.Hist.Neg.Counts.length : Int) ≤ 300) ↔ p.Hist.Neg.Counts.length ≤ 300 := by omega
  simp only [jn_eq, bndS, e1, e2]
  by_cases h1 : (p.Name.length : Int) ≤ 100
  · rw [if_pos h1, decide_eq_true (by omega : p.Name.length ≤ 100)]
    cases light p.Attrs with
    | false => simp
    | true => simp
  · rw [if_neg h1, decide_eq_false (by omega : ¬ p.Name.length ≤ 100)]; simp
theorem light_few {p : Pt} (h : (decide (p.Name.length ≤ 100) && light p.Attrs && decide (p.Hist.Pos.Counts.length ≤ 300 ∧ p.Hist.Neg.Counts.length ≤ 300)) = true) : Few p ∧ p.Hist.Pos.Counts.length ≤ 300 ∧ p.Hist.Neg.Counts.length ≤ 300 := by
  simp only [Bool.and_eq_true, decide_eq_true_iff] at h
  obtain ⟨⟨_, h2⟩, h3, h4⟩ := h
  exact ⟨⟨light_len h2, by omega, by omega⟩, h3, h4⟩
theorem clone_pt (p : Pt) (h : Few p) : m_point_Clone p = some p := by
  have := h.a
  have := h.p
  have := h.n
  unfold m_point_Clone m_slices_Clone_api_Pair_api_Pair m_hist_Clone m_slices_Clone_uint64_uint64
  rw [app_some (by simp; omega), bndS, app_some (by simp; omega), bndS, app_some (by simp; omega), bndS, bndS]
  rfl
theorem setI_len {α : Type} (l : List α) (i : Int) (x : α) : (setI l i x).length = l.length := by simp [setI]
theorem backL3 (q : List UInt8 × Int) (j : Unit → Option Bool) : ∀ (k n i : Nat) (y : List UInt8), y.length = q.1.length → i + k = q.1.length → k < n → q.1.length ≤ 1000000 → m_limnographlaw12_PointBack_L3 q j n y (i : Int) = j ()
  | 0, n, i, y, hy, hk, hn, hl => by
    obtain ⟨n, rfl⟩ : ∃ m, n = m + 1 := ⟨n - 1, by omega⟩
    rw [m_limnographlaw12_PointBack_L3, if_neg (by omega)]
  | k + 1, n, i, y, hy, hk, hn, hl => by
    obtain ⟨n, rfl⟩ : ∃ m, n = m + 1 := ⟨n - 1, by omega⟩
    obtain ⟨x, hx⟩ := idx_lt (l := y) (i := (i : Int)) (by omega) (by omega)
    rw [m_limnographlaw12_PointBack_L3, if_pos (by omega), hx, bndS, W64_id (by omega) (by omega)]
    exact backL3 q j k n (i + 1) _ (by rw [setI_len]; exact hy) (by omega) (by omega) hl
theorem backL2 (j : Pt → Option Bool) (R : Option Bool) (h : T_api_Hist) (hj : ∀ y : Pt, y.Hist = h → j y = R) : ∀ (k n i : Nat) (y : Pt), y.Hist = h → i + k = y.Attrs.length → k < n → y.Attrs.length ≤ 1000000 → m_limnographlaw12_PointBack_L2 j n (i : Int) y = R
  | 0, n, i, y, hy, hk, hn, hl => by
    obtain ⟨n, rfl⟩ : ∃ m, n = m + 1 := ⟨n - 1, by omega⟩
    rw [m_limnographlaw12_PointBack_L2, if_neg (by omega)]; exact hj y hy
  | k + 1, n, i, y, hy, hk, hn, hl => by
    obtain ⟨n, rfl⟩ : ∃ m, n = m + 1 := ⟨n - 1, by omega⟩
    obtain ⟨x, hx⟩ := idx_lt (l := y.Attrs) (i := (i : Int)) (by omega) (by omega)
    rw [m_limnographlaw12_PointBack_L2, if_pos (by omega), hx, bndS, W64_id (by omega) (by omega)]
    exact backL2 j R h hj k n (i + 1) _ hy (by dsimp only; rw [setI_len]; omega) (by omega) (by dsimp only; rw [setI_len]; exact hl)
theorem backL1 (j : Unit → Option Bool) : ∀ (k n i : Nat) (y : Pt), i + k = y.Hist.Pos.Counts.length → k < n → y.Hist.Pos.Counts.length ≤ 1000000 → m_limnographlaw12_PointBack_L1 j n (i : Int) y = j ()
  | 0, n, i, y, hk, hn, hl => by
    obtain ⟨n, rfl⟩ : ∃ m, n = m + 1 := ⟨n - 1, by omega⟩
    rw [m_limnographlaw12_PointBack_L1, if_neg (by omega)]
  | k + 1, n, i, y, hk, hn, hl => by
    obtain ⟨n, rfl⟩ : ∃ m, n = m + 1 := ⟨n - 1, by omega⟩
    obtain ⟨x, hx⟩ := idx_lt (l := y.Hist.Pos.Counts) (i := (i : Int)) (by omega) (by omega)
    rw [m_limnographlaw12_PointBack_L1, if_pos (by omega), hx, bndS, bndS, W64_id (by omega) (by omega)]
    exact backL1 j k n (i + 1) _ (by dsimp only; rw [setI_len]; omega) (by omega) (by dsimp only; rw [setI_len]; exact hl)
theorem same_back (p : Pt) : sameP p (back p) := ⟨rfl, (srt_srt p.Attrs).symm, rfl, rfl, rfl, rfl, rfl, rfl, rfl, rfl, rfl, rfl⟩
theorem back_law (p : Pt) (hi : okI p.Int_) : m_limnographlaw12_PointBack p = some true := by
  unfold m_limnographlaw12_PointBack
  rw [awake_eq, bndS, light12, bndS]
  simp only [Bool.not_true, Bool.false_eq_true, if_false]
  cases hl : (decide (p.Name.length ≤ 100) && light p.Attrs && decide (p.Hist.Pos.Counts.length ≤ 300 ∧ p.Hist.Neg.Counts.length ≤ 300)) with
  | false => rfl
  | true =>
    obtain ⟨hf, h1, h2⟩ := light_few hl
    simp only [Bool.not_true, Bool.false_eq_true, if_false]
    obtain ⟨e, he, ok, hb⟩ := bytes_eq p h1 h2 hi
    rw [hb, bndS, he]
    by_cases h0 : e = 0
    · subst h0
      have hp := ok rfl
      rw [if_pos rfl]
      dsimp only
      rw [if_neg (by simp), read_eq p hp he hi h1 h2, bndS, clone_pt p hf, bndS]
      have hfb : Few (back p) := ⟨by unfold back; dsimp only; rw [srt_len]; exact hf.a, hf.p, hf.n⟩
      have hbl : (bytesE p).length ≤ 1000000 := by
        have htl := text_len hp.1
        have := enc_len_le (UInt64.ofNat (p.Name ++ texts (srt p.Attrs)).length)
        have g1 := enc_len_le (UInt64.ofNat p.Kind.toNat)
        have g2 := enc_len_le (UInt64.ofNat p.Temp.toNat)
        have g3 := enc_len_le (UInt64.ofNat (mono p.Mono))
        have g4 := enc_len_le (UInt64.ofNat p.Flags.toNat)
        have g5 := enc_len_le (UInt64.ofNat p.Start.toNat)
        have g6 := enc_len_le (UInt64.ofNat (p.Time - p.Start).toNat)
        have q1 := enc_len_le (zig p.Int_)
        have q2 := enc_len_le (zig p.Hist.Scale)
        have q3 := enc_len_le p.Hist.Zero
        have q4 := sideE_len p.Hist.Pos
        have q5 := sideE_len p.Hist.Neg
        have hv : (valE p).length ≤ 10000 := by
          unfold valE
          split
          · omega
          · split
            · simp [encF_len]
            · split
              · simp only [List.length_append]; omega
              · simp [encF_len]
        unfold bytesE headE encT
        simp only [List.length_append] at htl this ⊢
        omega
      obtain ⟨m, hm⟩ := fuelB 2000001 (by omega)
      have ha := hf.a
      refine jn_post (fun j => j () = some true) ?_ fun j hj => ?_
      · refine jn_post (fun j => ∀ y : Pt, y.Hist = p.Hist → j y = some true) (fun y hy => ?_) fun j hj => ?_
        · refine jn_post (fun j => j () = some true) ?_ fun j hj => ?_
          · simp only [jn_eq, if_true, rSame_eq hf hfb, pSame_eq hf hfb, bndS, decide_eq_true (same_back p)]
            rfl
          · exact (backL1 j y.Hist.Pos.Counts.length fuel 0 y (by omega) (by rw [hy]; omega) (by rw [hy]; exact hf.p)).trans hj
        · exact backL2 j _ p.Hist hj p.Attrs.length fuel 0 p rfl (by omega) (by omega) (by omega)
      · exact (backL3 _ j (bytesE p).length fuel 0 _ rfl (by dsimp only; omega) (by omega) hbl).trans hj
    · rw [if_neg h0]
      dsimp only
      rw [if_pos h0]
      simp [jn_eq, bndS]
/-- A point's key. -/
def keyE (p : Pt) : List UInt8 := (p.Name ++ texts (srt p.Attrs)) ++ ([32] ++ [UInt8.ofNat (48 + p.Kind.toNat), UInt8.ofNat (48 + p.Temp.toNat), UInt8.ofNat (48 + mono p.Mono)])
theorem toU8_dig {x : Int} (h0 : 0 ≤ x) (h1 : x ≤ 100) : toU8 (W64 (48 + x)) = UInt8.ofNat (48 + x.toNat) := by
  rw [W64_id (by omega) (by omega), show 48 + x = ((48 + x.toNat : Nat) : Int) by omega, toU8_nat, Nat.mod_eq_of_lt (by omega)]
theorem key_eq (p : Pt) (h1 : p.Hist.Pos.Counts.length ≤ 300) (h2 : p.Hist.Neg.Counts.length ≤ 300) : ∃ e, (e = 0 → ptOk p) ∧ m_point_Key p = some (if e = 0 then (keyE p, 0) else ([], e)) := by
  obtain ⟨e, he, ok⟩ := pcheck_ok p (by omega) (by omega)
  refine ⟨e, ok, ?_⟩
  unfold m_point_Key
  rw [he, bndS]
  by_cases h0 : e = 0
  · rw [if_neg (by simpa using h0), if_pos h0]
    have hp := ok h0
    obtain ⟨k1, k2, t1, t2, f1, f2, s1, s2, s3⟩ := pt_nums hp
    have htl := text_len hp.1
    have hT : m_label_Text p.Name p.Attrs = some (p.Name ++ texts (srt p.Attrs), 0) := by rw [text_eq, text, if_pos hp.1]
    have hbit : m_point_bit p.Mono = some (mono p.Mono : Int) := by unfold m_point_bit mono; cases p.Mono <;> rfl
    have hm1 : mono p.Mono ≤ 1 := by unfold mono; split <;> omega
    rw [hT, bndS]
    dsimp only
    rw [cat_some (by simp only [List.length_append, List.length_cons, List.length_nil] at htl ⊢; omega), bndS, hbit, bndS, cat_some (by simp only [List.length_append, List.length_cons, List.length_nil] at htl ⊢; omega), bndS]
    rw [toU8_dig (by omega) (by omega), toU8_dig (by omega) (by omega), toU8_dig (by omega) (by omega), Int.toNat_natCast]
    unfold keyE; simp only [List.append_assoc]
  · rw [if_pos h0, if_neg h0]
theorem dig_inj {a b : Nat} (ha : a ≤ 100) (hb : b ≤ 100) : UInt8.ofNat (48 + a) = UInt8.ofNat (48 + b) ↔ a = b := by
  constructor
  · intro h
    have := congrArg UInt8.toNat h
    simp only [UInt8.toNat_ofNat'] at this
    omega
  · rintro rfl; rfl
theorem key_inj {a b : Pt} (ha : ptOk a) (hb : ptOk b) : keyE a = keyE b ↔ a.Name = b.Name ∧ a.Kind = b.Kind ∧ a.Temp = b.Temp ∧ a.Mono = b.Mono ∧ srt a.Attrs = srt b.Attrs := by
  obtain ⟨k1, k2, t1, t2, _⟩ := pt_nums ha
  obtain ⟨k3, k4, t3, t4, _⟩ := pt_nums hb
  have hm : ∀ x : Bool, mono x ≤ 1 := fun x => by unfold mono; split <;> omega
  have hma := hm a.Mono
  have hmb := hm b.Mono
  unfold keyE
  constructor
  · intro h
    obtain ⟨e1, e2⟩ := List.append_inj' h rfl
    simp only [List.cons_append, List.nil_append, List.cons.injEq, and_true, true_and] at e2
    obtain ⟨d1, d2, d3⟩ := e2
    rw [dig_inj (by omega) (by omega)] at d1 d2 d3
    obtain ⟨n1, n2⟩ := (text_inj ha.1 hb.1).1 e1
    refine ⟨n1, by omega, by omega, ?_, n2⟩
    unfold mono at d3
    cases h1 : a.Mono <;> cases h2 : b.Mono <;> simp [h1, h2] at d3 <;> rfl
  · rintro ⟨n1, n2, n3, n4, n5⟩
    rw [n1, n2, n3, n4, n5]
theorem keys_law (a b : Pt) : m_limnographlaw12_PointKeys a b = some true := by
  unfold m_limnographlaw12_PointKeys
  rw [awake_eq, bndS, light12, light12, bndS]
  simp only [Bool.not_true, Bool.false_eq_true, if_false]
  refine jn_post (fun j => j true = some true ∧ (∀ x : Bool, (Few a ∧ a.Hist.Pos.Counts.length ≤ 300 ∧ a.Hist.Neg.Counts.length ≤ 300) → (x = false → Few b ∧ b.Hist.Pos.Counts.length ≤ 300 ∧ b.Hist.Neg.Counts.length ≤ 300) → j x = some true)) ⟨rfl, fun x ha hb => ?_⟩ fun j hj => ?_
  · cases x with
    | true => rfl
    | false =>
      simp only [Bool.false_eq_true, if_false]
      obtain ⟨fa, a1, a2⟩ := ha
      obtain ⟨fb, b1, b2⟩ := hb rfl
      rw [pSame_eq fa fb, rSame_eq fa fb, clone_pt a fa]
      simp only [bndS, jn_eq]
      rw [if_neg (by simp), pSame_eq fa fa, bndS, decide_eq_true (show sameP a a from ⟨rfl, rfl, rfl, rfl, rfl, rfl, rfl, rfl, rfl, rfl, rfl, rfl⟩)]
      simp only [Bool.not_true, Bool.false_eq_true, if_false]
      obtain ⟨ea, oka, ka⟩ := key_eq a a1 a2
      obtain ⟨eb, okb, kb⟩ := key_eq b b1 b2
      rw [ka, bndS, kb, bndS]
      by_cases h0 : ea = 0 ∧ eb = 0
      · obtain ⟨ha0, hb0⟩ := h0
        have pa := oka ha0
        have pb := okb hb0
        rw [if_pos ha0, if_pos hb0]
        dsimp only
        rw [if_neg (by simp)]
        have e : ∀ l : List Pr, l.length ≤ 20 → (srt l).length < 4611686018427387904 := fun l hl => by rw [srt_len]; omega
        have la := fa.a
        have lb := fb.a
        rw [refSorted_eq _ (by omega), bndS, refSorted_eq _ (by omega), bndS, same_eq _ _ (e _ la), bndS]
        have hk := key_inj pa pb
        by_cases n1 : a.Name = b.Name
        · rw [if_pos n1]
          by_cases n2 : a.Kind = b.Kind
          · rw [if_pos n2]
            by_cases n3 : a.Temp = b.Temp
            · rw [if_pos n3]
              by_cases n4 : a.Mono = b.Mono
              · rw [if_pos n4]; congr 1; rw [decide_eq_true_iff]; apply decide_eq_decide.2; rw [hk]; simp [n1, n2, n3, n4]
              · rw [if_neg n4]; congr 1; rw [decide_eq_true_iff, decide_eq_false_iff_not, hk]; exact fun h => n4 h.2.2.2.1
            · rw [if_neg n3]; congr 1; rw [decide_eq_true_iff, decide_eq_false_iff_not, hk]; exact fun h => n3 h.2.2.1
          · rw [if_neg n2]; congr 1; rw [decide_eq_true_iff, decide_eq_false_iff_not, hk]; exact fun h => n2 h.2.1
        · rw [if_neg n1]; congr 1; rw [decide_eq_true_iff, decide_eq_false_iff_not, hk]; exact fun h => n1 h.1
      · rw [if_pos]
        by_cases ha0 : ea = 0
        · right; rw [if_neg (fun h => h0 ⟨ha0, h⟩)]; exact fun h => h0 ⟨ha0, h⟩
        · left; rw [if_neg ha0]; exact ha0
  · cases hl : (decide (a.Name.length ≤ 100) && light a.Attrs && decide (a.Hist.Pos.Counts.length ≤ 300 ∧ a.Hist.Neg.Counts.length ≤ 300)) with
    | false => exact hj.1
    | true =>
      simp only [Bool.not_true, Bool.false_eq_true, if_false, bndS]
      refine hj.2 _ (light_few hl) fun h => light_few (by simpa using h)
end Go.Proofs.YtfcpdojcfogkbaaGreat
