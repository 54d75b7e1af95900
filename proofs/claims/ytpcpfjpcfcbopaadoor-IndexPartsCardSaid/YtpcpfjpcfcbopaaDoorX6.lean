/-
  Chapter 35: a pattern's pieces; plain Lean.
-/
import Derived.Test.YtpcpfjpcfcbopaaDoorX5
set_option linter.unusedVariables false
set_option linter.unusedSimpArgs false
namespace Go.Proofs.YtpcpfjpcfcbopaaDoor
open Go Go.RowKit Go.Wk
/-- A set: what is wrong with it (0: nothing), its bytes, what comes behind it. -/
def clsE (t : Txt) : Int × T_glob_set × Txt :=
  if cloB (if t.head? = some 33 then t.tail else t) = true then
    match itemsE ((if t.head? = some 33 then t.tail else t).length + 1) (if t.head? = some 33 then t.tail else t) s0 with
    | none => (3, s0, [])
    | some (S, r) => if (if t.head? = some 33 then t.tail else t).head? = some 93 then (3, s0, []) else (0, if t.head? = some 33 then notS S else S, r.tail)
  else (2, s0, [])
/-- What a reading at a place comes to: an error, or a piece and the place behind it. -/
def Reads (s : Txt) (p : Txt) (x : Int × Pc × Txt) (o : Option (Pc × Int × T_glob_fault)) : Prop :=
  (x.1 ≠ 0 ∧ ∃ P a, o = some (P, 0, ⟨a, x.1⟩)) ∨ (x.1 = 0 ∧ ∃ n q, o = some (x.2.1, ((n : Nat) : Int), ⟨0, 0⟩) ∧ 1 ≤ n ∧ s = q ++ x.2.2 ∧ q.length = p.length + n)
theorem class_at (s : Txt) (hs : s.length ≤ 1000) (p0' t1 : Txt) (b : Bool) (fr : Int) (h : s = p0' ++ t1) (x : Int × T_glob_set × Txt) (hx : x = if cloB t1 = true then (match itemsE (t1.length + 1) t1 s0 with
    | none => ((3 : Int), s0, ([] : Txt))
    | some (S, r) => if t1.head? = some 93 then ((3 : Int), s0, ([] : Txt)) else ((0 : Int), if b = true then notS S else S, r.tail)) else ((2 : Int), s0, ([] : Txt))) (p : Txt) (hfr : fr = (p.length : Int)) (hp : p.length < p0'.length) :
    Reads s p (x.1, p0 x.2.1, x.2.2) ((m_glob_closed s (p0'.length : Int)).bind fun p16 =>
          if (!p16) = true then
          (some (({ kind := 0, set := ({ a0 := (0 : UInt64), a1 := (0 : UInt64), a2 := (0 : UInt64), a3 := (0 : UInt64) } : T_glob_set), plain := false, c := (0 : UInt8) } : T_glob_piece), 0, ({ at_ := fr, e := 2 } : T_glob_fault)))
          else
          (jn (fun (y23 : Int) (y24 : T_glob_piece) =>
              (if y23 = (p0'.length : Int) then
                (some (y24, 0, ({ at_ := fr, e := 3 } : T_glob_fault)))
                else
                (jn (fun (y31 : T_glob_piece) =>
                    (some (y31, W64 ((W64 (y23 + 1)) - fr), ({ at_ := 0, e := 0 } : T_glob_fault)))) fun j4 =>
                  if b = true then
                  (jn (fun (y44 : T_glob_piece) =>
                      (j4 y44)) fun j5 =>
                    m_glob_class_L1 j5 fuel 0 y24)
                  else
                  (j4 y24)))) fun j3 =>
            m_glob_class_L2 s j3 fuel (p0'.length : Int) ({ kind := 0, set := ({ a0 := (0 : UInt64), a1 := (0 : UInt64), a2 := (0 : UInt64), a3 := (0 : UInt64) } : T_glob_set), plain := false, c := (0 : UInt8) } : T_glob_piece))) := by
  have hl : s.length = p0'.length + t1.length := by rw [h]; simp
  rw [closed_eq s hs h, bndS]
  cases hc : cloB t1 with
  | false =>
    rw [hc, if_neg (by decide)] at hx
    rw [if_pos (by decide)]
    subst hx
    exact .inl ⟨by show (2 : Int) ≠ 0; decide, _, _, rfl⟩
  | true =>
    rw [hc, if_pos rfl] at hx
    rw [if_neg (by decide), jn_eq]
    rcases classL2 s hs _ t1.length t1 p0' s0 fuel h (Nat.le_refl _) (by unfold fuel; omega) hc with ⟨a, P, h1, h2⟩ | ⟨S, q, r, h1, h2, h3, h4, h5⟩
    · rw [h1] at hx
      subst hx
      exact .inl ⟨by show (3 : Int) ≠ 0; decide, P, a, h2⟩
    · rw [h1] at hx
      dsimp only at hx
      have h5' := h5
      refine (congrArg (Reads s p _) h5').mpr ?_
      dsimp only
      have hql : s.length = q.length + r.length := by rw [h2]; simp
      have hr1 : r ≠ [] := by rintro rfl; cases h3
      have hr2 : 1 ≤ r.length := List.length_pos_iff.2 hr1
      by_cases hh : t1.head? = some 93
      · rw [if_pos hh] at hx
        subst hx
        have : q.length = p0'.length := by
          obtain ⟨c, r', rfl⟩ := clo_ne hc
          simp at hh
          rw [itemsE, if_pos hh] at h1
          injection h1 with h1
          injection h1 with h1 h6
          rw [← h6] at hql; omega
        rw [if_pos (by rw [this])]
        exact .inl ⟨by show (3 : Int) ≠ 0; decide, _, _, rfl⟩
      · rw [if_neg hh] at hx
        subst hx
        have hne : ¬ ((q.length : Int) = (p0'.length : Int)) := by
          intro he
          have e1 : r = t1 := by
            have e2 : q.length = p0'.length := by omega
            have e3 : p0' ++ t1 = q ++ r := by rw [← h, ← h2]
            exact (List.append_inj e3 e2.symm).2.symm
          rw [e1] at h3
          exact hh h3
        rw [if_neg hne, jn_eq]
        have hr3 : s = (q ++ [93]) ++ r.tail := by
          cases r with
          | nil => exact (hr1 rfl).elim
          | cons c r => simp at h3; subst h3; rw [h2]; simp
        have e1 : W64 (W64 ((q.length : Int) + 1) - fr) = ((q.length + 1 - p.length : Nat) : Int) := by rw [W64_id (z := (q.length : Int) + 1) (by omega) (by omega), W64_id (by omega) (by omega), hfr]; omega
        refine .inr ⟨rfl, q.length + 1 - p.length, q ++ [93], ?_, by omega, hr3, by simp; omega⟩
        cases b with
        | false => rw [if_neg (by decide), e1, if_neg (by decide)]
        | true =>
          obtain ⟨m, hm⟩ := fuelS 5 (by omega)
          rw [if_pos rfl, jn_eq, hm, notL, if_pos rfl, e1]
theorem class_eq (s : Txt) (hs : s.length ≤ 1000) (p t : Txt) (h : s = p ++ 91 :: t) : Reads s p ((clsE t).1, p0 (clsE t).2.1, (clsE t).2.2) (m_glob_class s (p.length : Int)) := by
  have hl : s.length = p.length + (t.length + 1) := by rw [h]; simp
  have e1 : W64 ((p.length : Int) + 1) = ((p.length + 1 : Nat) : Int) := by rw [W64_id (by omega) (by omega)]; simp
  have h1 : s = (p ++ [91]) ++ t := by rw [h]; simp
  have hp1 : (p ++ [91]).length = p.length + 1 := by simp
  unfold m_glob_class
  rw [jn_eq, e1]
  have go : ∀ b : Bool, b = decide (t.head? = some 33) → Reads s p ((clsE t).1, p0 (clsE t).2.1, (clsE t).2.2) ((fun (y12 : Bool) =>
    (jn (fun (y14 : Int) =>
        ((m_glob_closed s y14).bind fun p16 =>
          if (!p16) = true then
          (some (({ kind := 0, set := ({ a0 := (0 : UInt64), a1 := (0 : UInt64), a2 := (0 : UInt64), a3 := (0 : UInt64) } : T_glob_set), plain := false, c := (0 : UInt8) } : T_glob_piece), 0, ({ at_ := (p.length : Int), e := 2 } : T_glob_fault)))
          else
          (jn (fun (y23 : Int) (y24 : T_glob_piece) =>
              (if y23 = y14 then
                (some (y24, 0, ({ at_ := (p.length : Int), e := 3 } : T_glob_fault)))
                else
                (jn (fun (y31 : T_glob_piece) =>
                    (some (y31, W64 ((W64 (y23 + 1)) - (p.length : Int)), ({ at_ := 0, e := 0 } : T_glob_fault)))) fun j4 =>
                  if y12 = true then
                  (jn (fun (y44 : T_glob_piece) =>
                      (j4 y44)) fun j5 =>
                    m_glob_class_L1 j5 fuel 0 y24)
                  else
                  (j4 y24)))) fun j3 =>
            m_glob_class_L2 s j3 fuel y14 ({ kind := 0, set := ({ a0 := (0 : UInt64), a1 := (0 : UInt64), a2 := (0 : UInt64), a3 := (0 : UInt64) } : T_glob_set), plain := false, c := (0 : UInt8) } : T_glob_piece)))) fun j2 =>
      if y12 = true then
      (j2 (W64 (((p.length + 1 : Nat) : Int) + 1)))
      else
      (j2 ((p.length + 1 : Nat) : Int)))) b) := by
    intro b hb
    dsimp only
    rw [jn_eq]
    cases b with
    | true =>
      have ht : t.head? = some 33 := of_decide_eq_true hb.symm
      have h2 : s = (p ++ [91, 33]) ++ t.tail := by
        cases t with
        | nil => cases ht
        | cons c t => simp at ht; subst ht; rw [h]; simp
      have e2 : W64 (((p.length + 1 : Nat) : Int) + 1) = (((p ++ [91, 33]).length : Nat) : Int) := by rw [W64_id (by omega) (by omega)]; simp; omega
      rw [if_pos rfl, e2]
      refine class_at s hs _ t.tail true _ h2 (clsE t) ?_ p rfl (by simp)
      unfold clsE
      simp only [ht, if_true]
    | false =>
      have ht : ¬ t.head? = some 33 := of_decide_eq_false hb.symm
      rw [if_neg (by decide), ← hp1]
      refine class_at s hs _ t false _ h1 (clsE t) ?_ p rfl (by simp)
      unfold clsE
      simp only [ht, if_false, Bool.false_eq_true]
  cases t with
  | nil =>
    rw [if_neg (by simp at hl; omega)]
    exact go false rfl
  | cons c t =>
    have hi : idx s ((p.length + 1 : Nat) : Int) = some c := (idx_suf 0 h1 (by rw [hp1])).trans rfl
    rw [if_pos (by simp at hl; omega), hi, bndS]
    refine go (decide (((c.toNat : Nat) : Int) = 33)) (decide_eq_decide.2 ?_)
    rw [c33]; simp
def byteP (c : UInt8) : Pc := ⟨0, addS s0 c, true, c⟩
theorem byteOf_eq (c : UInt8) : m_glob_byteOf c = some (byteP c) := by
  unfold m_glob_byteOf
  rw [jn_eq]
  exact add_step s0 c _
def nextE (c : UInt8) (r : Txt) : Int × Pc × Txt :=
  if c = 42 then (0, ⟨1, s0, false, 0⟩, r)
  else if c = 63 then (0, p0 (spanS 256 0 s0), r)
  else if c = 91 then ((clsE r).1, p0 (clsE r).2.1, (clsE r).2.2)
  else if c = 92 then (match r with | [] => (2, p0 s0, []) | d :: r' => (0, byteP d, r'))
  else (0, byteP c, r)
theorem next_eq (s : Txt) (hs : s.length ≤ 1000) (p : Txt) (c : UInt8) (r : Txt) (h : s = p ++ c :: r) : Reads s p (nextE c r) (m_glob_next s (p.length : Int)) := by
  have hl : s.length = p.length + (r.length + 1) := by rw [h]; simp
  have hi : idx s (p.length : Int) = some c := (idx_suf 0 h (by simp)).trans rfl
  have h1 : s = (p ++ [c]) ++ r := by rw [h]; simp
  unfold m_glob_next nextE
  rw [hi, bndS]
  by_cases h42 : c = 42
  · rw [if_pos ((c42 c).2 h42), if_pos h42]
    exact .inr ⟨rfl, 1, p ++ [c], rfl, by omega, h1, by simp⟩
  rw [if_neg (fun hh => h42 ((c42 c).1 hh)), if_neg h42]
  by_cases h63 : c = 63
  · rw [if_pos ((c63 c).2 h63), if_pos h63, jn_eq, jn_eq]
    have := fullL (fun y27 => (fun y25 => some (y25, 1, ({ at_ := 0, e := 0 } : T_glob_fault))) y27) 256 fuel 0 (p0 s0) (by unfold fuel; omega) (by omega)
    exact .inr ⟨rfl, 1, p ++ [c], this, by omega, h1, by simp⟩
  rw [if_neg (fun hh => h63 ((c63 c).1 hh)), if_neg h63]
  by_cases h91 : c = 91
  · subst h91
    rw [if_pos ((c91 91).2 rfl), if_pos rfl]
    rcases class_eq s hs p r h with ⟨g1, P, a, g2⟩ | ⟨g1, n, q, g2, g3, g4, g5⟩
    · rw [g2, bndS]; exact .inl ⟨g1, P, a, rfl⟩
    · rw [g2, bndS]; exact .inr ⟨g1, n, q, rfl, g3, g4, g5⟩
  rw [if_neg (fun hh => h91 ((c91 c).1 hh)), if_neg h91]
  by_cases h92 : c = 92
  · rw [if_pos ((c92 c).2 h92), if_pos h92, W64_id (by omega) (by omega)]
    cases r with
    | nil => rw [if_pos (by simp at hl; omega)]; exact .inl ⟨by show (2 : Int) ≠ 0; decide, _, _, rfl⟩
    | cons d r =>
      rw [if_neg (by simp at hl; omega), show idx s ((p.length : Int) + 1) = some d from (idx_suf 1 h (by simp)).trans rfl, bndS, byteOf_eq, bndS]
      exact .inr ⟨rfl, 2, p ++ [c, d], rfl, by omega, by rw [h]; simp, by simp⟩
  rw [if_neg (fun hh => h92 ((c92 c).1 hh)), if_neg h92, bndS, byteOf_eq, bndS]
  exact .inr ⟨rfl, 1, p ++ [c], rfl, by omega, h1, by simp⟩
theorem nextE_len (c : UInt8) (r : Txt) (hr : r.length < 1000) (h : (nextE c r).1 = 0) : (nextE c r).2.2.length ≤ r.length := by
  rcases next_eq (c :: r) (by simp; omega) [] c r rfl with ⟨g1, _⟩ | ⟨_, n, q, _, g3, g4, g5⟩
  · exact (g1 h).elim
  · have := congrArg List.length g4
    simp at this g5
    omega
def compE : Nat → Txt → List Pc → Int × List Pc
  | 0, _, acc => (0, acc)
  | _ + 1, [], acc => (0, acc)
  | f + 1, c :: r, acc => if (nextE c r).1 = 0 then compE f (nextE c r).2.2 (acc ++ [(nextE c r).2.1]) else ((nextE c r).1, [])
def cmpE (s : Txt) : Int × List Pc := if s.length > 64 then (4, []) else compE (s.length + 1) s []
theorem compE_len : ∀ (f : Nat) (t : Txt) (acc : List Pc), t.length < 1000 → (compE f t acc).2.length ≤ acc.length + t.length
  | 0, t, acc, _ => by simp [compE]
  | f + 1, [], acc, _ => by simp [compE]
  | f + 1, c :: r, acc, h => by
    rw [compE]
    split
    · rename_i h0
      have h1 := nextE_len c r (by simp at h; omega) h0
      have h2 := compE_len f (nextE c r).2.2 (acc ++ [(nextE c r).2.1]) (by simp at h; omega)
      simp at h2 ⊢; omega
    · simp
theorem cmpE_len (s : Txt) : (cmpE s).2.length ≤ 64 := by
  unfold cmpE
  split
  · simp
  · have := compE_len (s.length + 1) s [] (by omega)
    simp at this; omega
theorem compileL (s : Txt) (hs : s.length ≤ 64) : ∀ (f : Nat) (t p : Txt) (acc : List Pc) (n : Nat), s = p ++ t → t.length ≤ f → f < n → acc.length ≤ p.length →
    ∃ a, m_glob_Compile_L1 s (fun y13 => some ((some y13), 0, 0)) n (p.length : Int) ⟨s, acc⟩ = some (if (compE (f + 1) t acc).1 = 0 then (some ⟨s, (compE (f + 1) t acc).2⟩, 0, 0) else (none, a, (compE (f + 1) t acc).1))
  | f, [], p, acc, n + 1, h, _, _, _ => by
    have hl : s.length = p.length := by rw [h]; simp
    refine ⟨0, ?_⟩
    rw [m_glob_Compile_L1, if_neg (by omega), compE, if_pos rfl]
  | f + 1, c :: r, p, acc, n + 1, h, hf, hn, ha => by
    have hl : s.length = p.length + (r.length + 1) := by rw [h]; simp
    rw [m_glob_Compile_L1, if_pos (by omega), compE]
    rcases next_eq s (by omega) p c r h with ⟨g1, P, a, g2⟩ | ⟨g1, k, q, g2, g3, g4, g5⟩
    · refine ⟨a, ?_⟩
      rw [g2, bndS, if_pos (by intro hh; have := congrArg T_glob_fault.e hh; exact g1 this), if_neg g1]
      dsimp only
      rw [if_neg g1]
    · rw [g2, bndS, if_neg (fun hh => hh rfl), if_pos g1, jn_eq, app_some (by simp; omega), bndS]
      have hql : s.length = q.length + (nextE c r).2.2.length := by rw [g4]; simp
      have e : W64 ((p.length : Int) + ((k : Nat) : Int)) = ((q.length : Nat) : Int) := by rw [W64_id (by omega) (by omega), g5]; simp
      dsimp only
      rw [e]
      exact compileL s hs f _ q _ n g4 (by simp at hf; omega) (by omega) (by simp; omega)
theorem compile_eq (s : Txt) : ∃ a, m_glob_Compile s = some (if (cmpE s).1 = 0 then (some ⟨s, (cmpE s).2⟩, 0, 0) else (none, a, (cmpE s).1)) := by
  unfold m_glob_Compile cmpE
  by_cases h : s.length > 64
  · rw [if_pos (by omega), if_pos h]
    exact ⟨64, rfl⟩
  · rw [if_neg (by omega), if_neg h, jn_eq]
    exact compileL s (by omega) s.length s [] [] fuel rfl (Nat.le_refl _) (by unfold fuel; omega) (by simp)
end Go.Proofs.YtpcpfjpcfcbopaaDoor
