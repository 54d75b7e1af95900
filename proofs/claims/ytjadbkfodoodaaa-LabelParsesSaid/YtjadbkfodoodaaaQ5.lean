/-
  The document's parse is the same; plain Lean.
-/
import Derived.Test.YtjadbkfodoodaaaQ4
namespace Go.Proofs.Ytjadbkfodoodaaa
open Go Go.RowKit Go.Wk
theorem find_loop (c : UInt8) (j : Int → Option Int) : ∀ (p a r : Txt) (n : Nat), (∀ x ∈ p, x ≠ c) → (r = [] ∨ ∃ t, r = c :: t) → p.length < n → (a ++ p ++ r).length < 4611686018427387904 →
    m_limnographref11_find_L1 (a ++ p ++ r) c j n (a.length : Int) = j ((a.length + p.length : Nat) : Int)
  | [], a, r, n, hp, hr, h, hb => by
    obtain ⟨n, rfl⟩ : ∃ m, n = m + 1 := ⟨n - 1, by omega⟩
    rw [m_limnographref11_find_L1, jn_eq]
    rcases hr with rfl | ⟨t, rfl⟩
    · rw [if_neg (by simp)]; simp
    · rw [if_pos (by simp; omega), List.append_nil, idx_mid, bndS]; simp
  | x :: p, a, r, n, hp, hr, h, hb => by
    obtain ⟨n, rfl⟩ : ∃ m, n = m + 1 := ⟨n - 1, by omega⟩
    have ih := find_loop c j p (a ++ [x]) r n (fun y hy => hp y (by simp [hy])) hr (by simp at h; omega) (by simpa using hb)
    have hx := hp x (by simp)
    have e : a ++ x :: p ++ r = a ++ x :: (p ++ r) := by simp
    have hne : (x.toNat : Int) ≠ (c.toNat : Int) := fun h => hx (UInt8.toNat_inj.1 (by omega))
    rw [m_limnographref11_find_L1, jn_eq, if_pos (by simp; omega)]
    have e2 : a ++ x :: p ++ r = a ++ [x] ++ p ++ r := by simp
    rw [show idx (a ++ x :: p ++ r) (a.length : Int) = some x by rw [e]; exact idx_mid _ _ _, bndS]
    dsimp only
    rw [if_pos (by simp [hne]), W64_up (by simp at hb; omega), e2]
    rw [List.length_append, List.length_singleton] at ih
    rw [ih, List.length_cons]; congr 2; omega
theorem find_eq (c : UInt8) (p a r : Txt) (hp : ∀ x ∈ p, x ≠ c) (hr : r = [] ∨ ∃ t, r = c :: t) (hb : (a ++ p ++ r).length < 4611686018427387904) :
    m_limnographref11_find (a ++ p ++ r) (a.length : Int) c = some ((a.length + p.length : Nat) : Int) := by
  unfold m_limnographref11_find
  rw [jn_eq, find_loop c _ p a r _ hp hr (by unfold fuel; simp at hb; omega) hb]
theorem cut1_free {c : UInt8} : ∀ {s : Txt}, ∀ x ∈ (cut1 c s).1, x ≠ c
  | [], x, hx => by cases hx
  | y :: s, x, hx => by
    unfold cut1 at hx
    split at hx
    · cases hx
    · rename_i hy
      rcases List.mem_cons.1 hx with rfl | hx
      · exact hy
      · exact cut1_free x hx
theorem spl_free : ∀ (s : Txt), (∀ x ∈ (spl s).1, x ≠ 59) ∧ ∀ p ∈ (spl s).2, ∀ x ∈ p, x ≠ 59
  | [] => ⟨fun x hx => (by cases hx), fun x hx => (by cases hx)⟩
  | y :: s => by
    unfold spl
    have ih := spl_free s
    split
    · refine ⟨fun x hx => (by cases hx), fun p hp => ?_⟩
      rcases List.mem_cons.1 hp with rfl | hp
      · exact ih.1
      · exact ih.2 p hp
    · rename_i hy
      refine ⟨fun x hx => ?_, ih.2⟩
      rcases List.mem_cons.1 hx with rfl | hx
      · exact hy
      · exact ih.1 x hx
def got (r : Res) : T_limnographref11_Got := ⟨r.1, r.2.1, r.2.2.1, r.2.2.2⟩
theorem cut1_find (s : Txt) (h : s.length < 4611686018427387904) : m_limnographref11_find s 0 61 = some (((cut1 61 s).1.length : Nat) : Int) := by
  by_cases hf : (cut1 61 s).2.2 = true
  · have h1 := cut1_yes hf
    have := find_eq 61 (cut1 61 s).1 [] (61 :: (cut1 61 s).2.1) cut1_free (.inr ⟨_, rfl⟩) (by rw [List.nil_append, ← h1]; exact h)
    rw [List.nil_append, ← h1] at this
    simpa using this
  · have h1 := cut1_no (by simpa using hf : (cut1 61 s).2.2 = false)
    have hfr := cut1_free (c := 61) (s := s)
    rw [h1] at hfr ⊢
    have := find_eq 61 s [] [] hfr (.inl rfl) (by simpa using h)
    simpa using this
theorem refFoll (l : List Pr) (key : Txt) (a : Int) (nm : Txt) (at_ e : Int) (j : Unit → Option T_limnographref11_Got) (h : l.length < 4611686018427387904) :
    m_limnographref11_Parse_L2 a ⟨nm, l, at_, e⟩ key j fuel 0 = if l.any (fun b => decide (b.Key = key)) = true then some ⟨[], [], W64 (a + 1), 8⟩ else j () := by
  rw [m_limnographref11_Parse_L2_scan _ _ _ _ h, scanL_all (fun b => !decide (b.Key = key)) (some ⟨[], [], W64 (a + 1), 8⟩)]
  · by_cases ha : l.any (fun b => decide (b.Key = key)) = true
    · rw [if_pos ha, if_neg]
      simp at ha ⊢; exact ha
    · rw [if_neg ha, if_pos]
      simp at ha ⊢; exact ha
  · intro i x k _
    rw [bndS]
    by_cases hx : x.Key = key <;> simp [hx]
theorem refParseL (s name : Txt) (j : T_limnographref11_Got → Option T_limnographref11_Got) (hj : ∀ l, j ⟨name, l, 0, 0⟩ = some ⟨name, l, 0, 0⟩) (hs : s.length ≤ 1000000) : ∀ (ps : List Txt) (pre : Txt) (n : Nat) (l : List Pr), s = pre ++ ps.flatMap (fun p => 59 :: p) → (∀ p ∈ ps, ∀ x ∈ p, x ≠ 59) → ps.length < n → l.length ≤ 4 →
    m_limnographref11_Parse_L1 s j n (pre.length : Int) ⟨name, l, 0, 0⟩ = some (got (pgo name l ((pre.length : Int) + 1) ps))
  | [], pre, n, l, he, hp, h, hl => by
    obtain ⟨n, rfl⟩ : ∃ m, n = m + 1 := ⟨n - 1, by omega⟩
    rw [m_limnographref11_Parse_L1, if_neg (by rw [he]; simp), hj]; rfl
  | p :: ps, pre, n, l, he, hp, h, hl => by
    obtain ⟨n, rfl⟩ : ∃ m, n = m + 1 := ⟨n - 1, by omega⟩
    have hlen := congrArg List.length he
    simp only [List.flatMap_cons, List.length_append, List.length_cons] at hlen
    have e1 : s = (pre ++ [59]) ++ p ++ ps.flatMap (fun p => 59 :: p) := by rw [he]; simp
    have hfind : m_limnographref11_find s ((pre.length : Int) + 1) 59 = some (((pre ++ [59] ++ p).length : Nat) : Int) := by
      have := find_eq 59 p (pre ++ [59]) (ps.flatMap fun p => 59 :: p) (hp p (by simp)) (by cases ps with | nil => exact .inl rfl | cons q ps => exact .inr ⟨_, rfl⟩) (by rw [← e1]; omega)
      rw [← e1] at this
      rw [show ((pre.length : Int) + 1) = ((pre ++ [59] : Txt).length : Nat) by simp, this]; simp; omega
    have hcut : cutL s ((pre.length : Int) + 1) ((pre ++ [59] ++ p).length : Nat) = some p := by
      rw [cut_some (by omega) (by simp; omega) (by simp; omega)]
      congr 1
      rw [Int.toNat_natCast, e1, List.take_left]
      have : ((pre.length : Int) + 1).toNat = (pre ++ [59]).length := by simp
      rw [this, List.drop_left]
    have ih := fun l' (hl' : l'.length ≤ 4) => refParseL s name j hj hs ps (pre ++ [59] ++ p) n l' e1 (fun q hq => hp q (by simp [hq])) (by simp at h; omega) hl'
    have hcl := cut1_len (c := 61) (s := p)
    rw [m_limnographref11_Parse_L1, if_pos (by omega), W64_id (by omega) (by omega), hfind, bndS, hcut, bndS, pgo]
    dsimp only
    by_cases h4 : l.length = 4
    · rw [if_pos (by omega), if_pos h4]; rfl
    · rw [if_neg (by omega), if_neg h4, cut1_find p (by omega), bndS]
      simp only [jn_eq]
      unfold pairOf
      by_cases hf : (cut1 61 p).2.2 = true
      · have h1 := cut1_yes hf
        have hpl := congrArg List.length h1
        simp only [List.length_append, List.length_cons] at hpl
        have c1 : cutL p 0 ((cut1 61 p).1.length : Int) = some (cut1 61 p).1 := by
          conv => lhs; arg 1; rw [h1]
          exact cut_mid _ _
        have c2 : cutL p (((cut1 61 p).1.length : Int) + 1) (p.length : Nat) = some (cut1 61 p).2.1 := by
          have := cut_end ((cut1 61 p).1 ++ [61]) (cut1 61 p).2.1
          rw [List.append_assoc, List.singleton_append, ← h1] at this
          simpa using this
        rw [W64_id (z := ((cut1 61 p).1.length : Int) + 1) (by omega) (by omega), if_neg (by omega), c1, bndS, c2, refName_eq, bndS]
        simp only [bndS, refValue_eq, hf]
        generalize (cut1 61 p).1 = kk at *
        generalize (cut1 61 p).2.1 = vv at *
        cases hn : nameB kk with
        | false => simp [got]
        | true =>
          cases hv : valB vv with
          | false => simp [got]
          | true =>
            simp only [Bool.not_true, Bool.false_eq_true, if_false, Bool.and_self, if_true, bndS]
            rw [refFoll l kk _ _ _ _ _ (by omega), W64_id (by omega) (by omega)]
            have hap : appL l [(⟨kk, vv⟩ : Pr)] = some (l ++ [⟨kk, vv⟩]) := app_some (by simp; omega)
            have ih := ih (l ++ [⟨kk, vv⟩]) (by simp; omega)
            have hat : ((pre ++ [59] ++ p).length : Int) + 1 = (pre.length : Int) + 1 + p.length + 1 := by simp; omega
            rw [hat] at ih
            by_cases ha : l.any (fun b => decide (b.Key = kk)) = true
            · have hfo : foll l kk = 8 := by unfold foll; rw [if_pos ha]
              rw [if_pos ha, hfo]; rfl
            · rw [if_neg ha]
              by_cases hl0 : l = []
              · subst hl0
                have hfo : foll [] kk = 0 := rfl
                rw [hfo, if_pos (show (0 : Int) = 0 from rfl), if_neg (by simp), hap, bndS, ih]
              · obtain ⟨b, hb⟩ : ∃ b, l.getLast? = some b := ⟨_, List.getLast?_eq_some_getLast hl0⟩
                have hp0 := List.length_pos_iff.2 hl0
                have hi : idx l (W64 ((l.length : Int) - 1)) = some b := by
                  rw [W64_id (by omega) (by omega), show (l.length : Int) - 1 = ((l.length - 1 : Nat) : Int) by omega, idx_nat, ← List.getLast?_eq_getElem?]; exact hb
                have hfo : foll l kk = if Op.bytesLess kk b.Key = true then 9 else 0 := by unfold foll; rw [if_neg ha, hb]
                rw [if_pos (by omega), hi, bndS]
                by_cases hlt : Op.bytesLess kk b.Key = true
                · rw [if_pos hlt] at hfo; rw [if_pos hlt, hfo]; rfl
                · rw [if_neg hlt] at hfo; rw [if_neg hlt, hfo, hap, bndS, ih]; rfl
      · have h1 := cut1_no (by simpa using hf : (cut1 61 p).2.2 = false)
        rw [h1]; simp [got]
theorem refParse_eq (s : Txt) (h : s.length ≤ 100000) : m_limnographref11_Parse s = some (got (parse s)) := by
  unfold m_limnographref11_Parse parse
  have hj := spl_join s
  have hf := spl_free s
  have hlen := congrArg List.length hj
  simp only [List.length_append] at hlen
  have hfind : m_limnographref11_find s 0 59 = some (((spl s).1.length : Nat) : Int) := by
    have := find_eq 59 (spl s).1 [] ((spl s).2.flatMap fun p => 59 :: p) hf.1 (by cases (spl s).2 with | nil => exact .inl rfl | cons q ps => exact .inr ⟨_, rfl⟩) (by rw [List.nil_append, ← hj]; omega)
    rw [List.nil_append, ← hj] at this
    simpa using this
  have hcut : cutL s 0 ((spl s).1.length : Int) = some (spl s).1 := by
    conv => lhs; arg 1; rw [hj]
    exact cut_mid _ _
  rw [hfind, bndS, hcut, bndS, refName_eq, bndS]
  by_cases hn : nameB (spl s).1 = true
  · rw [hn, if_neg (by simp), if_pos rfl, jn_eq]
    refine refParseL s (spl s).1 _ (fun l => rfl) (by omega) (spl s).2 (spl s).1 fuel [] hj hf.2 ?_ (by simp)
    have : ∀ ps : List Txt, ps.length ≤ (ps.flatMap fun p => 59 :: p).length := by
      intro ps
      induction ps with
      | nil => simp
      | cons p ps ih => simp at ih ⊢; omega
    have := this (spl s).2
    unfold fuel; omega
  · simp at hn
    rw [hn]; rfl
end Go.Proofs.Ytjadbkfodoodaaa
