/-
  Chapter 35: a pattern's set of bytes, as it is read; plain Lean.
-/
import Derived.Test.YtpcpfjpcfcbopaaDoorX4
set_option linter.unusedVariables false
set_option linter.unusedSimpArgs false
namespace Go.Proofs.YtpcpfjpcfcbopaaDoor
open Go Go.RowKit Go.Wk
theorem idx_suf {α : Type} {s p t : List α} {i : Int} (j : Nat) (h : s = p ++ t) (hi : i = ((p.length + j : Nat) : Int)) : idx s i = t[j]? := by
  subst h hi
  rw [idx_nat, List.getElem?_append_right (by omega)]
  congr 1; omega
def cloB : List UInt8 → Bool
  | [] => false
  | c :: r => if c = 93 then true else if c = 92 then (match r with | [] => false | _ :: r' => cloB r') else cloB r
theorem cloB_cons (c : UInt8) (r : Txt) : cloB (c :: r) = if c = 93 then true else if c = 92 then (match r with | [] => false | _ :: r' => cloB r') else cloB r := by cases r <;> rfl
theorem u8i (c : UInt8) (k : Nat) (hk : k < 256) : ((c.toNat : Nat) : Int) = (k : Int) ↔ c = UInt8.ofNat k := byteZ c k hk
theorem c93 (c : UInt8) : ((c.toNat : Nat) : Int) = 93 ↔ c = 93 := u8i c 93 (by omega)
theorem c92 (c : UInt8) : ((c.toNat : Nat) : Int) = 92 ↔ c = 92 := u8i c 92 (by omega)
theorem c45 (c : UInt8) : ((c.toNat : Nat) : Int) = 45 ↔ c = 45 := u8i c 45 (by omega)
theorem d93t {c : UInt8} (h : c ≠ 93) : decide (((c.toNat : Nat) : Int) ≠ 93) = true := decide_eq_true fun hh => h ((c93 c).1 hh)
theorem d93f {c : UInt8} (h : c = 93) : decide (((c.toNat : Nat) : Int) ≠ 93) = false := decide_eq_false fun hh => hh ((c93 c).2 h)
theorem d45t {c : UInt8} (h : c ≠ 45) : decide (((c.toNat : Nat) : Int) ≠ 45) = true := decide_eq_true fun hh => h ((c45 c).1 hh)
theorem d45f {c : UInt8} (h : c = 45) : decide (((c.toNat : Nat) : Int) ≠ 45) = false := decide_eq_false fun hh => hh ((c45 c).2 h)
theorem c33 (c : UInt8) : ((c.toNat : Nat) : Int) = 33 ↔ c = 33 := u8i c 33 (by omega)
theorem c42 (c : UInt8) : ((c.toNat : Nat) : Int) = 42 ↔ c = 42 := u8i c 42 (by omega)
theorem c63 (c : UInt8) : ((c.toNat : Nat) : Int) = 63 ↔ c = 63 := u8i c 63 (by omega)
theorem c91 (c : UInt8) : ((c.toNat : Nat) : Int) = 91 ↔ c = 91 := u8i c 91 (by omega)
section
variable (s : Txt) (hs : s.length ≤ 1000)
include hs
theorem closedL : ∀ (f : Nat) (t p : Txt) (n : Nat), s = p ++ t → t.length ≤ f → f < n → m_glob_closed_L1 s (fun y1 => some (decide (y1 < (s.length : Int)))) n (p.length : Int) = some (cloB t)
  | f, [], p, n + 1, h, _, _ => by
    have hl : s.length = p.length := by rw [h]; simp
    rw [m_glob_closed_L1, jn_eq, if_neg (by omega)]; dsimp only; rw [if_neg (by decide), cloB, decide_eq_false (by omega)]
  | f + 1, c :: r, p, n + 1, h, hf, hn => by
    have hl : s.length = p.length + (r.length + 1) := by rw [h]; simp
    have hi : idx s (p.length : Int) = some c := (idx_suf 0 h (by simp)).trans rfl
    rw [m_glob_closed_L1, jn_eq, if_pos (by omega), hi, bndS, cloB_cons]
    by_cases h93 : c = 93
    · dsimp only; rw [if_pos h93, d93f h93, if_neg (by decide), decide_eq_true (by omega)]
    · dsimp only; rw [if_neg h93, d93t h93, if_pos rfl, bndS, jn_eq]
      by_cases h92 : c = 92
      · rw [if_pos ((c92 c).2 h92), if_pos h92]; dsimp only; rw [W64_id (z := (p.length : Int) + 1) (by omega) (by omega), W64_id (by omega) (by omega)]
        cases r with
        | nil =>
          match n, hn with
          | n + 1, _ => rw [m_glob_closed_L1, jn_eq, if_neg (by simp at hl; omega)]; dsimp only; rw [if_neg (by decide), decide_eq_false (by simp at hl; omega)]
        | cons d r =>
          have := closedL f r (p ++ [c, d]) n (by rw [h]; simp) (by simp at hf; omega) (by omega)
          have e : (((p ++ [c, d]).length : Nat) : Int) = (p.length : Int) + 1 + 1 := by simp; omega
          rw [e] at this
          exact this
      · rw [if_neg (fun hh => h92 ((c92 c).1 hh)), if_neg h92]; dsimp only; rw [W64_id (by omega) (by omega)]
        have := closedL f r (p ++ [c]) n (by rw [h]; simp) (by simp at hf; omega) (by omega)
        have e : (((p ++ [c]).length : Nat) : Int) = (p.length : Int) + 1 := by simp
        rw [e] at this
        exact this
theorem closed_eq {p t : Txt} (h : s = p ++ t) : m_glob_closed s (p.length : Int) = some (cloB t) := by
  unfold m_glob_closed
  rw [jn_eq]
  exact closedL s hs s.length t p fuel h (by rw [h]; simp) (by unfold fuel; omega)
end
def memb : Txt → Option (UInt8 × Txt)
  | [] => none
  | c :: r => if c = 92 then (match r with | [] => none | d :: r' => some (d, r')) else some (c, r)
theorem memb_cons (c : UInt8) (r : Txt) : memb (c :: r) = if c = 92 then (match r with | [] => none | d :: r' => some (d, r')) else some (c, r) := rfl
theorem memb_clo {c : UInt8} {r : Txt} (h : cloB (c :: r) = true) (h93 : c ≠ 93) : ∃ a r1, memb (c :: r) = some (a, r1) ∧ cloB r1 = true ∧ r1.length ≤ r.length ∧ (∃ q, c :: r = q ++ r1 ∧ q.length = (if c = 92 then 2 else 1)) := by
  rw [cloB_cons, if_neg h93] at h
  rw [memb_cons]
  by_cases h92 : c = 92
  · rw [if_pos h92] at h ⊢
    cases r with
    | nil => simp at h
    | cons d r => exact ⟨d, r, rfl, h, by simp, [c, d], rfl, by rw [if_pos h92]; rfl⟩
  · rw [if_neg h92] at h ⊢
    exact ⟨c, r, rfl, h, by simp, [c], rfl, by rw [if_neg h92]; rfl⟩
theorem clo_ne {t : Txt} (h : cloB t = true) : ∃ c r, t = c :: r := by
  cases t with
  | nil => simp [cloB] at h
  | cons c r => exact ⟨c, r, rfl⟩
theorem member_eq {s p t : Txt} (hs : s.length ≤ 1000) (h : s = p ++ t) {a : UInt8} {r1 : Txt} (hm : memb t = some (a, r1)) : ∃ k : Nat, m_glob_member s (p.length : Int) = some (a, (k : Int)) ∧ k ≤ 2 ∧ 1 ≤ k ∧ ∃ q, s = q ++ r1 ∧ q.length = p.length + k := by
  cases t with
  | nil => simp [memb] at hm
  | cons c r =>
    have hl : s.length = p.length + (r.length + 1) := by rw [h]; simp
    have hi : idx s (p.length : Int) = some c := (idx_suf 0 h (by simp)).trans rfl
    unfold m_glob_member
    rw [hi, bndS, bndS]
    rw [memb_cons] at hm
    by_cases h92 : c = 92
    · rw [if_pos h92] at hm
      cases r with
      | nil => simp at hm
      | cons d r =>
        simp at hm
        obtain ⟨rfl, rfl⟩ := hm
        rw [if_pos ((c92 c).2 h92), W64_id (by omega) (by omega), show idx s ((p.length : Int) + 1) = some d from (idx_suf 1 h (by simp)).trans rfl, bndS]
        exact ⟨2, rfl, by omega, by omega, p ++ [c, d], by rw [h]; simp, by simp⟩
    · rw [if_neg h92] at hm
      simp at hm
      obtain ⟨rfl, rfl⟩ := hm
      rw [if_neg (fun hh => h92 ((c92 c).1 hh))]
      exact ⟨1, rfl, by omega, by omega, p ++ [c], by rw [h]; simp, by simp⟩
/-- The items of a set, up to its end; none: one of them isn't right. -/
def itemsE : Nat → Txt → T_glob_set → Option (T_glob_set × Txt)
  | 0, _, _ => none
  | _ + 1, [], _ => none
  | f + 1, c :: r, S =>
    if c = 93 then some (S, c :: r)
    else if c = 45 then (if r.head? = some 93 then itemsE f r (addS S 45) else none)
    else match memb (c :: r) with
      | none => none
      | some (a, r1) =>
        if r1.head? = some 45 ∧ r1.tail.head? ≠ some 93 ∧ r1.tail.head? ≠ some 45 then
          (match memb r1.tail with
            | none => none
            | some (b, r3) => if b.toNat < a.toNat then none else itemsE f r3 (spanS (b.toNat + 1 - a.toNat) a.toNat S))
        else itemsE f r1 (spanS (a.toNat + 1 - a.toNat) a.toNat S)
abbrev p0 (S : T_glob_set) : Pc := ⟨0, S, false, 0⟩
theorem head_at {t : Txt} (h : cloB t = true) : ∃ c, t[0]? = some c ∧ t.head? = some c := by
  obtain ⟨c, r, rfl⟩ := clo_ne h
  exact ⟨c, rfl, rfl⟩
theorem classL2 (s : Txt) (hs : s.length ≤ 1000) (j : Int → Pc → Option (Pc × Int × T_glob_fault)) : ∀ (f : Nat) (t p : Txt) (S : T_glob_set) (n : Nat), s = p ++ t → t.length ≤ f → f < n → cloB t = true →
    (∃ a P, itemsE (f + 1) t S = none ∧ m_glob_class_L2 s j n (p.length : Int) (p0 S) = some (P, 0, ⟨a, 3⟩)) ∨ ∃ S' q r, itemsE (f + 1) t S = some (S', r) ∧ s = q ++ r ∧ r.head? = some 93 ∧ p.length ≤ q.length ∧ m_glob_class_L2 s j n (p.length : Int) (p0 S) = j (q.length : Int) (p0 S')
  | 0, t, p, S, n, h, hf, _, hc => by
    obtain ⟨c, r, rfl⟩ := clo_ne hc
    simp at hf
  | f + 1, t, p, S, n + 1, h, hf, hn, hc => by
    obtain ⟨c, r, rfl⟩ := clo_ne hc
    have hl : s.length = p.length + (r.length + 1) := by rw [h]; simp
    have hi : idx s (p.length : Int) = some c := (idx_suf 0 h (by simp)).trans rfl
    have hi1 : idx s (W64 ((p.length : Int) + 1)) = r[0]? := by rw [W64_id (by omega) (by omega)]; exact (idx_suf 1 h (by simp)).trans (by simp)
    by_cases h93 : c = 93
    · refine .inr ⟨S, p, c :: r, by rw [itemsE, if_pos h93], h, by rw [h93]; rfl, Nat.le_refl _, ?_⟩
      rw [m_glob_class_L2, hi, bndS, if_neg (fun hh => hh ((c93 c).2 h93))]
    by_cases h45 : c = 45
    · have hr : cloB r = true := by
        rw [cloB_cons, if_neg h93, if_neg (by rw [h45]; decide)] at hc; exact hc
      obtain ⟨d, hd1, hd2⟩ := head_at hr
      by_cases hd : d = 93
      · have eI : itemsE (f + 1 + 1) (c :: r) S = itemsE (f + 1) r (addS S 45) := by rw [itemsE, if_neg h93, if_pos h45, if_pos (by rw [hd2, hd])]
        have st := add_step (R := Pc × Int × T_glob_fault) S 45 (fun z w q => m_glob_class_L2 s j n (W64 ((p.length : Int) + 1)) { kind := 0, set := { a0 := (if ((z).toNat : Int) = 0 then w ||| (shl64 (1 : UInt64) ((toU64 ((q).toNat : Int)).toNat)) else S.a0), a1 := (if ((z).toNat : Int) = 1 then w ||| (shl64 (1 : UInt64) ((toU64 ((q).toNat : Int)).toNat)) else S.a1), a2 := (if ((z).toNat : Int) = 2 then w ||| (shl64 (1 : UInt64) ((toU64 ((q).toNat : Int)).toNat)) else S.a2), a3 := (if ((z).toNat : Int) = 3 then w ||| (shl64 (1 : UInt64) ((toU64 ((q).toNat : Int)).toNat)) else S.a3) }, plain := false, c := 0 })
        have eL : m_glob_class_L2 s j (n + 1) (p.length : Int) (p0 S) = m_glob_class_L2 s j n (W64 ((p.length : Int) + 1)) (p0 (addS S 45)) := by
          rw [m_glob_class_L2, hi, bndS, if_pos (fun hh => h93 ((c93 c).1 hh)), bndS, if_pos ((c45 c).2 h45), hi1, hd1, bndS, if_neg (fun hh => hh ((c93 d).2 hd)), jn_eq]
          exact st
        have ih := classL2 s hs j f r (p ++ [c]) (addS S 45) n (by rw [h]; simp) (by simp at hf; omega) (by omega) hr
        have e : (((p ++ [c]).length : Nat) : Int) = W64 ((p.length : Int) + 1) := by rw [W64_id (by omega) (by omega)]; simp
        rw [e] at ih
        rw [eI, eL]
        rcases ih with ⟨a, P, h1, h2⟩ | ⟨S', q, r', h1, h2, h3, h4, h5⟩
        · exact .inl ⟨a, P, h1, h2⟩
        · exact .inr ⟨S', q, r', h1, h2, h3, by simp at h4; omega, h5⟩
      · have eI : itemsE (f + 1 + 1) (c :: r) S = none := by rw [itemsE, if_neg h93, if_pos h45, if_neg (by rw [hd2]; intro hh; injection hh with hh; exact hd hh)]
        refine .inl ⟨(p.length : Int), p0 S, eI, ?_⟩
        rw [m_glob_class_L2, hi, bndS, if_pos (fun hh => h93 ((c93 c).1 hh)), bndS, if_pos ((c45 c).2 h45), hi1, hd1, bndS, if_pos (fun hh => hd ((c93 d).1 hh))]
    obtain ⟨a, r1, hm, hc1, hl1, _⟩ := memb_clo hc h93
    obtain ⟨k, hk, hk2, hk1, q1, hq1, hq1l⟩ := member_eq hs h hm
    have hql : s.length = q1.length + r1.length := by rw [hq1]; simp
    have e1 : W64 ((p.length : Int) + (k : Int)) = ((q1.length : Nat) : Int) := by rw [W64_id (by omega) (by omega), hq1l]; simp
    have ha := u8lt a
    obtain ⟨d1, hd1, hd1'⟩ := head_at hc1
    have hx1 : idx s ((q1.length : Nat) : Int) = some d1 := (idx_suf 0 hq1 (by simp)).trans hd1
    have hcl : r.length + 1 = (c :: r).length := rfl
    have fin : ∀ (y85 : Nat) (y86 : UInt8) (q2 r2 : Txt), s = q2 ++ r2 → q2.length = p.length + y85 → 1 ≤ y85 → cloB r2 = true → a.toNat ≤ y86.toNat → (∃ a' P, itemsE (f + 1) r2 (spanS (y86.toNat + 1 - a.toNat) a.toNat S) = none ∧ m_glob_class_L3 y86 (fun y90 => m_glob_class_L2 s j n (W64 ((p.length : Int) + (y85 : Int))) y90) fuel ((a.toNat : Nat) : Int) (p0 S) = some (P, 0, ⟨a', 3⟩)) ∨ ∃ S' q r, itemsE (f + 1) r2 (spanS (y86.toNat + 1 - a.toNat) a.toNat S) = some (S', r) ∧ s = q ++ r ∧ r.head? = some 93 ∧ p.length ≤ q.length ∧ m_glob_class_L3 y86 (fun y90 => m_glob_class_L2 s j n (W64 ((p.length : Int) + (y85 : Int))) y90) fuel ((a.toNat : Nat) : Int) (p0 S) = j (q.length : Int) (p0 S') := by
      intro y85 y86 q2 r2 g1 g2 g3 g4 g5
      have h86 := u8lt y86
      have g1l : s.length = q2.length + r2.length := by rw [g1]; simp
      rw [spanL y86 _ (y86.toNat + 1 - a.toNat) fuel a.toNat (p0 S) (by unfold fuel; omega) (by omega)]
      have e2 : W64 ((p.length : Int) + (y85 : Int)) = ((q2.length : Nat) : Int) := by rw [W64_id (by omega) (by omega), g2]; simp
      rw [e2]
      rcases classL2 s hs j f r2 q2 (spanS (y86.toNat + 1 - a.toNat) a.toNat S) n g1 (by simp only [List.length_cons] at hf; omega) (by omega) g4 with ⟨a', P, h1, h2⟩ | ⟨S', q, r', h1, h2, h3, h4, h5⟩
      · exact .inl ⟨a', P, h1, h2⟩
      · exact .inr ⟨S', q, r', h1, h2, h3, by omega, h5⟩
    have one : (∃ a' P, itemsE (f + 1) r1 (spanS (a.toNat + 1 - a.toNat) a.toNat S) = none ∧ m_glob_class_L3 a (fun y90 => m_glob_class_L2 s j n (W64 ((p.length : Int) + (k : Int))) y90) fuel ((a.toNat : Nat) : Int) (p0 S) = some (P, 0, ⟨a', 3⟩)) ∨ ∃ S' q r, itemsE (f + 1) r1 (spanS (a.toNat + 1 - a.toNat) a.toNat S) = some (S', r) ∧ s = q ++ r ∧ r.head? = some 93 ∧ p.length ≤ q.length ∧ m_glob_class_L3 a (fun y90 => m_glob_class_L2 s j n (W64 ((p.length : Int) + (k : Int))) y90) fuel ((a.toNat : Nat) : Int) (p0 S) = j (q.length : Int) (p0 S') :=
      fin k a q1 r1 hq1 hq1l hk1 hc1 (Nat.le_refl _)
    let K81 : Bool → Option (Pc × Int × T_glob_fault) := (fun y81 => if y81 = true then ((idx s (W64 (((q1.length : Nat) : Int) + 1))).bind fun z115 => (fun y83 => if y83 = true then ((m_glob_member s (W64 (((q1.length : Nat) : Int) + 1))).bind fun p107 => if ((p107.1).toNat : Int) < ((a).toNat : Int) then (some ((p0 S), 0, ({ at_ := (p.length : Int), e := 3 } : T_glob_fault))) else m_glob_class_L3 p107.1 (fun y90 => m_glob_class_L2 s j n (W64 ((p.length : Int) + W64 ((W64 ((k : Int) + 1)) + p107.2))) y90) fuel ((a.toNat : Nat) : Int) (p0 S)) else m_glob_class_L3 a (fun y90 => m_glob_class_L2 s j n (W64 ((p.length : Int) + (k : Int))) y90) fuel ((a.toNat : Nat) : Int) (p0 S)) (decide (((z115).toNat : Int) ≠ 45))) else m_glob_class_L3 a (fun y90 => m_glob_class_L2 s j n (W64 ((p.length : Int) + (k : Int))) y90) fuel ((a.toNat : Nat) : Int) (p0 S))
    have eL0 : ∀ b : Bool, (∀ (K : Bool → Option (Pc × Int × T_glob_fault)), (if ((d1.toNat : Nat) : Int) = 45 then ((idx s (W64 (((q1.length : Nat) : Int) + 1))).bind fun z117 => K (decide (((z117).toNat : Int) ≠ 93))) else K false) = K b) → m_glob_class_L2 s j (n + 1) (p.length : Int) (p0 S) = K81 b := by
      intro b hb
      rw [m_glob_class_L2, hi, bndS, if_pos (fun hh => h93 ((c93 c).1 hh)), bndS, if_neg (fun hh => h45 ((c45 c).1 hh)), hk, bndS]
      dsimp only
      rw [e1, hx1, bndS, jn_eq]
      refine (hb (fun (y81 : Bool) =>
          (jn (fun (y83 : Bool) =>
              (jn (fun (y85 : Int) (y86 : UInt8) =>
                  (jn (fun (y88 : T_glob_piece) =>
                      (m_glob_class_L2 s j n (W64 ((p.length : Int) + y85)) y88)) fun j10 =>
                    jn (fun (y90 : T_glob_piece) =>
                      (j10 y90)) fun j11 =>
                    m_glob_class_L3 y86 j11 fuel (a.toNat : Int) (p0 S))) fun j9 =>
                if y83 = true then
                ((m_glob_member s (W64 (((q1.length : Nat) : Int) + 1))).bind fun p107 =>
                  if ((p107.1).toNat : Int) < ((a).toNat : Int) then
                  (some ((p0 S), 0, ({ at_ := (p.length : Int), e := 3 } : T_glob_fault)))
                  else
                  (j9 (W64 ((W64 ((k : Int) + 1)) + p107.2)) p107.1))
                else
                (j9 (k : Int) a))) fun j8 =>
            if y81 = true then
            ((idx s (W64 (((q1.length : Nat) : Int) + 1))).bind fun z115 =>
              j8 (decide (((z115).toNat : Int) ≠ 45)))
            else
            (j8 false)))).trans ?_
      simp only [jn_eq, K81, Bool.false_eq_true, if_false]
    have eI0 : itemsE (f + 1 + 1) (c :: r) S = if r1.head? = some 45 ∧ r1.tail.head? ≠ some 93 ∧ r1.tail.head? ≠ some 45 then (match memb r1.tail with | none => none | some (b, r3) => if b.toNat < a.toNat then none else itemsE (f + 1) r3 (spanS (b.toNat + 1 - a.toNat) a.toNat S)) else itemsE (f + 1) r1 (spanS (a.toNat + 1 - a.toNat) a.toNat S) := by
      rw [itemsE, if_neg h93, if_neg h45, hm]
    by_cases hd : d1 = 45
    · obtain ⟨c1, r2, rfl⟩ := clo_ne hc1
      simp at hd1'
      subst hd1' hd
      have hr2 : cloB r2 = true := by rw [cloB_cons, if_neg (by decide), if_neg (by decide)] at hc1; exact hc1
      obtain ⟨d2, hd2, hd2'⟩ := head_at hr2
      have hx2 : idx s (W64 (((q1.length : Nat) : Int) + 1)) = some d2 := by
        simp at hql
        rw [W64_id (by omega) (by omega)]; exact (idx_suf 1 hq1 (by simp)).trans hd2
      have hq2' : ([45] ++ r2).head? = some 45 := rfl
      simp only [List.head?_cons, List.tail_cons, hd2', true_and, ne_eq, Option.some.injEq] at eI0
      by_cases h2 : d2 = 93
      · rw [if_neg (fun hh => hh.1 h2)] at eI0
        rw [eI0, eL0 false (fun K => by rw [if_pos ((c45 45).2 rfl), hx2, bndS, d93f h2])]
        exact one
      · have eL1 := eL0 true (fun K => by rw [if_pos ((c45 45).2 rfl), hx2, bndS, d93t h2])
        simp only [K81] at eL1
        rw [if_pos trivial, hx2, bndS] at eL1
        by_cases h3 : d2 = 45
        · rw [if_neg (fun hh => hh.2 h3)] at eI0
          rw [d45f h3, if_neg (by decide)] at eL1
          rw [eI0, eL1]
          exact one
        · rw [if_pos ⟨h2, h3⟩] at eI0
          rw [d45t h3, if_pos (by trivial)] at eL1
          obtain ⟨d2', r2', rfl⟩ := clo_ne hr2
          simp at hd2'
          subst hd2'
          obtain ⟨b, r3, hmb, hcb, hlb, _⟩ := memb_clo hr2 h2
          have hq2 : s = (q1 ++ [45]) ++ (d2' :: r2') := by rw [hq1]; simp
          obtain ⟨k2, hk3, hk4, hk5, q3, hq3, hq3l⟩ := member_eq hs hq2 hmb
          simp at hql
          have e3 : (((q1 ++ [45]).length : Nat) : Int) = W64 (((q1.length : Nat) : Int) + 1) := by rw [W64_id (by omega) (by omega)]; simp
          rw [e3] at hk3
          rw [hk3, bndS] at eL1
          rw [hmb] at eI0
          dsimp only at eL1 eI0
          by_cases hlt : b.toNat < a.toNat
          · rw [if_pos (by omega)] at eL1
            rw [if_pos hlt] at eI0
            exact .inl ⟨_, _, eI0, eL1⟩
          · rw [if_neg (by omega)] at eL1
            rw [if_neg hlt] at eI0
            have e4 : W64 (W64 ((k : Int) + 1) + (k2 : Int)) = ((k + 1 + k2 : Nat) : Int) := by rw [W64_id (z := (k : Int) + 1) (by omega) (by omega), W64_id (by omega) (by omega)]; simp
            rw [e4] at eL1
            rw [eI0, eL1]
            exact fin (k + 1 + k2) b q3 r3 hq3 (by rw [hq3l]; simp; omega) (by omega) hcb (by omega)
    · rw [if_neg (by rw [hd1']; intro hh; have := hh.1; injection this with this; exact hd this)] at eI0
      rw [eI0, eL0 false (fun K => by rw [if_neg (fun hh => hd ((c45 d1).1 hh))])]
      exact one
end Go.Proofs.YtpcpfjpcfcbopaaDoor
