/-
  Chapter 35: what a pattern matches; plain Lean.
-/
import Derived.Test.YtpcpfjpcfcbopaaDoorX6
set_option linter.unusedVariables false
set_option linter.unusedSimpArgs false
namespace Go.Proofs.YtpcpfjpcfcbopaaDoor
open Go Go.RowKit Go.Wk
def starB (f : Txt → Bool) : Txt → Bool
  | [] => f []
  | c :: s => f (c :: s) || starB f s
def mM : List Pc → Txt → Bool
  | [], s => s.isEmpty
  | p :: ps, s => if p.kind = 1 then starB (mM ps) s else match s with | [] => false | c :: s' => hasB p.set c && mM ps s'
theorem mM_cons (p : Pc) (ps : List Pc) (s : Txt) : mM (p :: ps) s = if p.kind = 1 then starB (mM ps) s else match s with | [] => false | c :: s' => hasB p.set c && mM ps s' := by cases s <;> rfl
theorem starB_iff (f : Txt → Bool) : ∀ t : Txt, starB f t = true ↔ ∃ n, n ≤ t.length ∧ f (t.drop n) = true
  | [] => by
    constructor
    · intro h; exact ⟨0, Nat.le_refl _, h⟩
    · rintro ⟨n, _, h⟩
      have h2 : f [] = true := by simpa using h
      exact h2
  | c :: s => by
    rw [starB, Bool.or_eq_true, starB_iff f s]
    constructor
    · rintro (h | ⟨n, h1, h2⟩)
      · exact ⟨0, by omega, h⟩
      · exact ⟨n + 1, by simp; omega, h2⟩
    · rintro ⟨n, h1, h2⟩
      cases n with
      | zero => exact .inl h2
      | succ n => exact .inr ⟨n, by simp at h1; omega, h2⟩
section
variable (ps : List Pc) (s : Txt)
theorem mM_star {i : Nat} {p : Pc} (h : ps[i]? = some p) (hk : p.kind = 1) (t : Txt) : mM (ps.drop i) t = starB (mM (ps.drop (i + 1))) t := by
  obtain ⟨hi, rfl⟩ := List.getElem?_eq_some_iff.1 h
  rw [List.drop_eq_getElem_cons hi, mM_cons, if_pos hk]
theorem mM_set {i : Nat} {p : Pc} (h : ps[i]? = some p) (hk : ¬ p.kind = 1) (t : Txt) : mM (ps.drop i) t = match t with | [] => false | c :: s' => hasB p.set c && mM (ps.drop (i + 1)) s' := by
  obtain ⟨hi, rfl⟩ := List.getElem?_eq_some_iff.1 h
  rw [List.drop_eq_getElem_cons hi, mM_cons, if_neg hk]
theorem drop_at {i : Nat} {c : UInt8} (h : s[i]? = some c) : s.drop i = c :: s.drop (i + 1) := by
  obtain ⟨hi, rfl⟩ := List.getElem?_eq_some_iff.1 h
  exact List.drop_eq_getElem_cons hi
/-- A star takes nothing, or one byte more. -/
theorem star_step {i at_ : Nat} {p : Pc} (h : ps[i]? = some p) (hk : p.kind = 1) (ha : at_ ≤ s.length) :
    mM (ps.drop i) (s.drop at_) = (mM (ps.drop (i + 1)) (s.drop at_) || (decide (at_ < s.length) && mM (ps.drop i) (s.drop (at_ + 1)))) := by
  rw [mM_star ps h hk, mM_star ps h hk]
  by_cases hl : at_ < s.length
  · rw [List.drop_eq_getElem_cons hl, starB, decide_eq_true hl, Bool.true_and]
  · have e : s.drop at_ = [] := List.drop_eq_nil_of_le (by omega)
    rw [decide_eq_false hl, Bool.false_and, Bool.or_false, e]; rfl
theorem sets_go : ∀ (k b : Nat) (t : Txt), (∀ j, b ≤ j → j < b + k → ∃ p, ps[j]? = some p ∧ ¬ p.kind = 1) → mM (ps.drop b) t = true → k ≤ t.length ∧ mM (ps.drop (b + k)) (t.drop k) = true
  | 0, b, t, _, h => ⟨Nat.zero_le _, by simpa using h⟩
  | k + 1, b, t, hn, h => by
    obtain ⟨p, hp, hk⟩ := hn b (Nat.le_refl _) (by omega)
    rw [mM_set ps hp hk] at h
    cases t with
    | nil => cases h
    | cons c t =>
      dsimp only at h
      rw [Bool.and_eq_true] at h
      obtain ⟨h1, h2⟩ := sets_go k (b + 1) t (fun j hj1 hj2 => hn j (by omega) (by omega)) h.2
      refine ⟨by simp; omega, ?_⟩
      have e : b + (k + 1) = b + 1 + k := by omega
      rw [e]; exact h2
/-- What an older star may still take, a newer one may too. -/
theorem star_new {bk i at_ fr : Nat} {p q : Pc} (hb : 0 < bk) (hp : ps[bk - 1]? = some p) (hpk : p.kind = 1) (hq : ps[i]? = some q) (hqk : q.kind = 1)
    (hn : ∀ j, bk ≤ j → j < i → ∃ p, ps[j]? = some p ∧ ¬ p.kind = 1) (hbi : bk ≤ i) (hd : i - bk = at_ - fr) (hf : fr ≤ at_) (hfs : fr < s.length) (h : mM (ps.drop (bk - 1)) (s.drop (fr + 1)) = true) : mM (ps.drop i) (s.drop at_) = true := by
  rw [mM_star ps hp hpk, starB_iff] at h
  obtain ⟨n, h1, h2⟩ := h
  rw [List.length_drop] at h1
  rw [List.drop_drop, show bk - 1 + 1 = bk by omega] at h2
  obtain ⟨h3, h4⟩ := sets_go ps (i - bk) bk _ (fun j hj1 hj2 => hn j hj1 (by omega)) h2
  rw [List.length_drop] at h3
  rw [List.drop_drop, show bk + (i - bk) = i by omega, mM_star ps hq hqk, starB_iff] at h4
  obtain ⟨m, h5, h6⟩ := h4
  rw [List.length_drop] at h5
  rw [List.drop_drop] at h6
  rw [mM_star ps hq hqk, starB_iff]
  refine ⟨1 + n + m, by rw [List.length_drop]; omega, ?_⟩
  rw [List.drop_drop]
  have e : at_ + (1 + n + m) = fr + 1 + n + (i - bk) + m := by omega
  rw [e]; exact h6
/-- What is still to be found out. -/
def restV (at_ i bk fr : Nat) : Bool := mM (ps.drop i) (s.drop at_) || (decide (0 < bk) && (decide (fr < s.length) && mM (ps.drop (bk - 1)) (s.drop (fr + 1))))
structure MJ (at_ i bk fr : Nat) : Prop where
  ja : at_ ≤ s.length
  ji : i ≤ ps.length
  jf : fr ≤ at_
  jb : bk ≤ i
  js : 0 < bk → (∃ p, ps[bk - 1]? = some p ∧ p.kind = 1) ∧ (∀ j, bk ≤ j → j < i → ∃ p, ps[j]? = some p ∧ ¬ p.kind = 1) ∧ i - bk = at_ - fr
theorem less_by {A A' P x y : Nat} (h : A' < A) (hx : x ≤ P) : A' * (P + 1) + x < A * (P + 1) + y := by
  have := Nat.mul_le_mul_right (P + 1) (show A' + 1 ≤ A from h)
  rw [Nat.add_mul] at this
  omega
def meas (P S i bk fr : Nat) : Nat := ((P + 1 - bk) * (S + 1) + (S - fr)) * (P + 1) + (P - i)
end
theorem matchL (g : T_glob_Glob) (s : Txt) (hP : g.pieces.length ≤ 1000) (hS : s.length ≤ 1000) : ∀ (m n at_ i bk fr : Nat), MJ g.pieces s at_ i bk fr → meas g.pieces.length s.length i bk fr ≤ m → m < n →
    m_glob_Glob_Match_L1 g s n (at_ : Int) (i : Int) ((bk : Int) - 1) (fr : Int) = some (restV g.pieces s at_ i bk fr)
  | m, n + 1, at_, i, bk, fr, J, hm, hn => by
    have ha := J.ja
    have hi := J.ji
    have hf := J.jf
    have hb := J.jb
    rw [m_glob_Glob_Match_L1, jn_eq]
    -- the last two ways
    have tail : (∀ h : mM (g.pieces.drop i) (s.drop at_) = true, i = g.pieces.length ∧ at_ = s.length) →
        (if ((i : Int) = (g.pieces.length : Int)) ∧ ((at_ : Int) = (s.length : Int)) then (some true) else (if (((bk : Int) - 1) ≥ 0) ∧ ((fr : Int) < (s.length : Int)) then (m_glob_Glob_Match_L1 g s n (W64 ((fr : Int) + 1)) (W64 (((bk : Int) - 1) + 1)) ((bk : Int) - 1) (W64 ((fr : Int) + 1))) else (some false))) = some (restV g.pieces s at_ i bk fr) := by
      intro hno
      by_cases he : i = g.pieces.length ∧ at_ = s.length
      · rw [if_pos ⟨by omega, by omega⟩]
        have : mM (g.pieces.drop i) (s.drop at_) = true := by rw [he.1, he.2, List.drop_length, List.drop_length]; rfl
        rw [restV, this, Bool.true_or]
      · rw [if_neg (fun h => he ⟨by omega, by omega⟩)]
        have h0 : mM (g.pieces.drop i) (s.drop at_) = false := by
          cases hh : mM (g.pieces.drop i) (s.drop at_) with
          | false => rfl
          | true => exact (he (hno hh)).elim
        rw [restV, h0, Bool.false_or]
        by_cases hbk : 0 < bk ∧ fr < s.length
        · obtain ⟨⟨p, hp, hpk⟩, hns, hd⟩ := J.js hbk.1
          rw [if_pos ⟨by omega, by omega⟩, decide_eq_true hbk.1, decide_eq_true hbk.2, Bool.true_and, Bool.true_and]
          have e1 : W64 ((fr : Int) + 1) = ((fr + 1 : Nat) : Int) := by rw [W64_id (by omega) (by omega)]; simp
          have e2 : W64 (((bk : Int) - 1) + 1) = (bk : Int) := by rw [W64_id (by omega) (by omega)]; omega
          rw [e1, e2]
          have hdec : meas g.pieces.length s.length bk bk (fr + 1) < meas g.pieces.length s.length i bk fr := less_by (by omega) (by omega)
          rw [matchL g s hP hS (m - 1) n (fr + 1) bk bk (fr + 1) ⟨by omega, by omega, Nat.le_refl _, Nat.le_refl _, fun h => ⟨⟨p, hp, hpk⟩, fun j h1 h2 => by omega, by omega⟩⟩ (by omega) (by omega)]
          rw [star_step g.pieces s hp hpk (by omega), show bk - 1 + 1 = bk by omega, restV, decide_eq_true hbk.1, Bool.true_and]
        · rw [if_neg (fun h => hbk ⟨by omega, by omega⟩)]
          by_cases h1 : 0 < bk
          · have h2 : ¬ fr < s.length := fun h => hbk ⟨h1, h⟩
            simp [h2]
          · simp [h1]
    by_cases hiP : i < g.pieces.length
    · have hp : g.pieces[i]? = some g.pieces[i] := List.getElem?_eq_getElem hiP
      rw [if_pos (by omega), idx_nat, hp, bndS]
      by_cases hk : g.pieces[i].kind = 1
      · rw [decide_eq_true hk]; dsimp only; rw [if_pos rfl]
        have e1 : W64 ((i : Int) + 1) = ((i + 1 : Nat) : Int) := by rw [W64_id (by omega) (by omega)]; simp
        have e2 : (i : Int) = ((i + 1 : Nat) : Int) - 1 := by omega
        have hdec : meas g.pieces.length s.length (i + 1) (i + 1) at_ < meas g.pieces.length s.length i bk fr := by
          refine less_by ?_ (by omega)
          have h1 : (g.pieces.length + 1 - (i + 1)) + 1 ≤ g.pieces.length + 1 - bk := by omega
          have h2 := Nat.mul_le_mul_right (s.length + 1) h1
          rw [Nat.add_mul] at h2
          omega
        have ih := matchL g s hP hS (m - 1) n at_ (i + 1) (i + 1) at_ ⟨ha, by omega, Nat.le_refl _, Nat.le_refl _, fun _ => ⟨⟨_, hp, hk⟩, fun j h1 h2 => by omega, by omega⟩⟩ (by omega) (by omega)
        rw [← e2] at ih
        rw [e1, ih]
        congr 1
        rw [restV, show i + 1 - 1 = i by omega, decide_eq_true (by omega : 0 < i + 1), Bool.true_and, ← star_step g.pieces s hp hk ha, restV]
        cases hV : mM (g.pieces.drop i) (s.drop at_) with
        | true => rfl
        | false =>
          by_cases hbk : 0 < bk
          · obtain ⟨⟨p, hpp, hpk⟩, hns, hd⟩ := J.js hbk
            by_cases hfs : fr < s.length
            · cases hold : mM (g.pieces.drop (bk - 1)) (s.drop (fr + 1)) with
              | false => simp
              | true =>
                have := star_new g.pieces s hbk hpp hpk hp hk hns hb hd hf hfs hold
                rw [hV] at this; cases this
            · simp [hfs]
          · simp [hbk]
      · rw [decide_eq_false hk]; dsimp only; rw [if_neg (by decide), jn_eq, if_pos (by omega)]
        by_cases haS : at_ < s.length
        · have hc : s[at_]? = some s[at_] := List.getElem?_eq_getElem haS
          rw [if_pos (by omega), bndS, idx_nat, hc, bndS, has_eq, bndS]
          cases hh : hasB g.pieces[i].set s[at_] with
          | true =>
            dsimp only
            rw [if_pos rfl]
            have e1 : W64 ((i : Int) + 1) = ((i + 1 : Nat) : Int) := by rw [W64_id (by omega) (by omega)]; simp
            have e2 : W64 ((at_ : Int) + 1) = ((at_ + 1 : Nat) : Int) := by rw [W64_id (by omega) (by omega)]; simp
            have hdec : meas g.pieces.length s.length (i + 1) bk fr < meas g.pieces.length s.length i bk fr := by unfold meas; omega
            rw [e1, e2, matchL g s hP hS (m - 1) n (at_ + 1) (i + 1) bk fr ⟨by omega, by omega, by omega, by omega, fun h => by
              obtain ⟨h1, h2, h3⟩ := J.js h
              refine ⟨h1, fun j hj1 hj2 => ?_, by omega⟩
              by_cases hj : j = i
              · subst hj; exact ⟨_, hp, hk⟩
              · exact h2 j hj1 (by omega)⟩ (by omega) (by omega)]
            congr 1
            rw [restV, restV, mM_set g.pieces hp hk, drop_at s hc]
            simp only [hh, Bool.true_and]
          | false =>
            dsimp only
            rw [if_neg (by decide)]
            refine tail fun h => ?_
            rw [mM_set g.pieces hp hk, drop_at s hc] at h
            simp only [hh, Bool.false_and] at h
            cases h
        · rw [if_neg (by omega)]; dsimp only; rw [if_neg (by decide)]
          refine tail fun h => ?_
          rw [mM_set g.pieces hp hk, (List.drop_eq_nil_of_le (by omega) : s.drop at_ = [])] at h
          cases h
    · rw [if_neg (by omega)]; dsimp only; rw [if_neg (by decide), jn_eq, if_neg (by omega)]; dsimp only; rw [if_neg (by decide)]
      refine tail fun h => ?_
      have e : i = g.pieces.length := by omega
      refine ⟨e, ?_⟩
      rw [e, List.drop_length, mM, List.isEmpty_iff] at h
      have := congrArg List.length h
      rw [List.length_drop] at this
      simp at this; omega
theorem match_eq (g : T_glob_Glob) (s : Txt) (hP : g.pieces.length ≤ 1000) (hS : s.length ≤ 1000) : m_glob_Glob_Match g s = some (mM g.pieces s) := by
  unfold m_glob_Glob_Match
  have hm : meas g.pieces.length s.length 0 0 0 ≤ 1100000000 := by
    unfold meas
    have h1 := Nat.mul_le_mul (show g.pieces.length + 1 - 0 ≤ 1001 by omega) (show s.length + 1 ≤ 1001 by omega)
    have h2 := Nat.mul_le_mul (show (g.pieces.length + 1 - 0) * (s.length + 1) + (s.length - 0) ≤ 1003001 by omega) (show g.pieces.length + 1 ≤ 1001 by omega)
    omega
  have := matchL g s hP hS 1100000000 fuel 0 0 0 0 ⟨Nat.zero_le _, Nat.zero_le _, Nat.le_refl _, Nat.le_refl _, fun h => by omega⟩ hm (by unfold fuel; omega)
  refine this.trans ?_
  simp [restV]
end Go.Proofs.YtpcpfjpcfcbopaaDoor
