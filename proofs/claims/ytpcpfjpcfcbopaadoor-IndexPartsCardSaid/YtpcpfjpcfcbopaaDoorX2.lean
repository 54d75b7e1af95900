/-
  Chapter 35: an index of keys, as a plain form; plain Lean.
-/
import Derived.Test.YtpcpfjpcfcbopaaDoorX1
set_option linter.unusedVariables false
set_option linter.unusedSimpArgs false
namespace Go.Proofs.YtpcpfjpcfcbopaaDoor
open Go Go.RowKit Go.Wk
def attrs (k : Txt) : List Pr := (serE k).1.Attrs ++ [⟨[], (serE k).1.Name⟩]
theorem serE_err (k : Txt) : (serE k).2 = 0 ∨ (serE k).2 = 3 := by unfold serE; split <;> simp
theorem serE_at (k : Txt) (h : (serE k).2 = 0) : ∃ nm m, (parse (cut1 32 k).1) = (nm, m, 0, 0) ∧ nameB nm = true ∧ m.length ≤ 4 ∧ chk [] m = 0 ∧ (serE k).1.Attrs = m ∧ (serE k).1.Name = nm := by
  unfold serE at h ⊢
  split at h
  · rename_i hc
    obtain ⟨nm, m, h1, h2, h3, h4, _⟩ := parse_ok hc.1.2
    refine ⟨nm, m, h1, h2, h3, h4, ?_, ?_⟩
    · rw [if_pos hc, h1]; rfl
    · rw [if_pos hc, h1]; rfl
  · simp at h
theorem nameB_ne {s : Txt} (h : nameB s = true) : s ≠ [] := by rintro rfl; simp [nameB] at h
abbrev Dis (l : List Pr) : Prop := l.Pairwise fun a b => a.Key ≠ b.Key
theorem attrs_dis {k : Txt} (h : (serE k).2 = 0) : Dis (attrs k) ∧ (attrs k).length ≤ 5 := by
  obtain ⟨nm, m, _, _, h3, h4, h5, h6⟩ := serE_at k h
  have hc := (chk_iff m []).1 h4
  unfold attrs
  rw [h5, h6]
  refine ⟨List.pairwise_append.2 ⟨hc.2.2, List.pairwise_singleton _ _, fun a ha b hb => ?_⟩, by simp; omega⟩
  simp at hb; subst hb
  exact nameB_ne (hc.1 a ha).1
theorem dis_nodup {l : List Pr} (h : Dis l) : l.Nodup := h.imp fun hab he => hab (congrArg T_api_Pair.Key he)
abbrev Rows35 := Ko Pr Int
def addK (l : List Pr) (i : Int) (R : Rows35) : Rows35 := l.foldl (fun R a => putO a (lookO a R ++ [i]) R) R
theorem addK_look (a : Pr) (i : Int) : ∀ (l : List Pr) (R : Rows35), l.Nodup → lookO a (addK l i R) = lookO a R ++ (if a ∈ l then [i] else [])
  | [], R, _ => by simp [addK]
  | b :: l, R, h => by
    obtain ⟨h1, h2⟩ := List.nodup_cons.1 h
    show lookO a (addK l i (putO b (lookO b R ++ [i]) R)) = _
    rw [addK_look a i l _ h2, lookO_put]
    by_cases e : a = b
    · subst e; simp [h1]
    · simp [e]
theorem addK_mem (a : Pr) (i : Int) : ∀ (l : List Pr) (R : Rows35), a ∈ (addK l i R).map (·.1) ↔ a ∈ l ∨ a ∈ R.map (·.1)
  | [], R => by simp [addK]
  | b :: l, R => by
    show a ∈ (addK l i (putO b (lookO b R ++ [i]) R)).map (·.1) ↔ _
    rw [addK_mem a i l, putO_mem, List.mem_cons]
    constructor
    · rintro (h | h | h)
      · exact .inl (.inr h)
      · exact .inl (.inl h)
      · exact .inr h
    · rintro ((h | h) | h)
      · exact .inr (.inl h)
      · exact .inl h
      · exact .inr (.inr h)
theorem addK_len (i : Int) : ∀ (l : List Pr) (R : Rows35), (addK l i R).length ≤ R.length + l.length
  | [], R => by simp [addK]
  | b :: l, R => by
    have h1 := addK_len i l (putO b (lookO b R ++ [i]) R)
    have h2 := putO_len b (lookO b R ++ [i]) R
    show (addK l i (putO b (lookO b R ++ [i]) R)).length ≤ _
    simp only [List.length_cons]; omega
theorem addK_nodup (i : Int) : ∀ (l : List Pr) (R : Rows35), (R.map (·.1)).Nodup → ((addK l i R).map (·.1)).Nodup
  | [], R, h => h
  | b :: l, R, h => addK_nodup i l _ ((putO_keys b (lookO b R ++ [i]) R).2 h)
def rowsI : Nat → List Txt → Rows35 → Rows35
  | _, [], R => R
  | i, k :: q, R => rowsI (i + 1) q (addK (attrs k) i R)
abbrev OkK (k : Txt) : Prop := (serE k).2 = 0
theorem rowsI_look (a : Pr) : ∀ (i : Nat) (q : List Txt) (R : Rows35), (∀ k ∈ q, OkK k) → lookO a (rowsI i q R) = lookO a R ++ rowF (fun k => decide (a ∈ attrs k)) i q
  | i, [], R, _ => by simp [rowsI, rowF]
  | i, k :: q, R, h => by
    rw [rowsI, rowsI_look a (i + 1) q _ fun x hx => h x (by simp [hx]), addK_look a i _ _ (dis_nodup (attrs_dis (h k (by simp))).1), rowF, List.append_assoc]
    simp
theorem rowsI_mem (a : Pr) : ∀ (i : Nat) (q : List Txt) (R : Rows35), a ∈ (rowsI i q R).map (·.1) ↔ (∃ k ∈ q, a ∈ attrs k) ∨ a ∈ R.map (·.1)
  | i, [], R => by simp [rowsI]
  | i, k :: q, R => by
    rw [rowsI, rowsI_mem a (i + 1) q, addK_mem]
    constructor
    · rintro (⟨x, h1, h2⟩ | h | h)
      · exact .inl ⟨x, by simp [h1], h2⟩
      · exact .inl ⟨k, by simp, h⟩
      · exact .inr h
    · rintro (⟨x, h1, h2⟩ | h)
      · rcases List.mem_cons.1 h1 with rfl | h1
        · exact .inr (.inl h2)
        · exact .inl ⟨x, h1, h2⟩
      · exact .inr (.inr h)
theorem rowsI_len : ∀ (i : Nat) (q : List Txt) (R : Rows35), (∀ k ∈ q, OkK k) → (rowsI i q R).length ≤ R.length + 5 * q.length
  | i, [], R, _ => by simp [rowsI]
  | i, k :: q, R, h => by
    have h1 := rowsI_len (i + 1) q (addK (attrs k) i R) fun x hx => h x (by simp [hx])
    have h2 := addK_len i (attrs k) R
    have h3 := (attrs_dis (h k (by simp))).2
    rw [rowsI]; simp only [List.length_cons]; omega
theorem rowsI_nodup : ∀ (i : Nat) (q : List Txt) (R : Rows35), (R.map (·.1)).Nodup → ((rowsI i q R).map (·.1)).Nodup
  | i, [], R, h => h
  | i, k :: q, R, h => rowsI_nodup (i + 1) q _ (addK_nodup i _ _ h)
theorem rowsI_snoc (k : Txt) : ∀ (i : Nat) (q : List Txt) (R : Rows35), rowsI i (q ++ [k]) R = addK (attrs k) ((i + q.length : Nat) : Int) (rowsI i q R)
  | i, [], R => by simp [rowsI]
  | i, x :: q, R => by
    rw [List.cons_append, rowsI, rowsI_snoc k (i + 1) q, rowsI, List.length_cons]
    have e : i + 1 + q.length = i + (q.length + 1) := by omega
    rw [e]
/-- The keys, one by one. -/
def goN : List Txt → List Txt → Rows35 → Option T_index_Index × Int × Int
  | p, [], R => (some ⟨p, R⟩, 0, 0)
  | p, k :: q, R => if (serE k).2 ≠ 0 then (none, p.length, (serE k).2) else if k ∈ p then (none, p.length, 8) else goN (p ++ [k]) q (addK (attrs k) p.length R)
theorem newL2 (i : Int) (l : List Pr) (j : T_index_Index → Option (Option T_index_Index × Int × Int)) (x : T_index_Index) (hl : l.length ≤ 1000) (hb : ∀ a, (lookO a x.rows).length ≤ 1000000) :
    m_index_New_L2 i l j fuel 0 x = j ⟨x.keys, addK l i x.rows⟩ := by
  rw [m_index_New_L2_scan _ _ _ _ (by omega)]
  refine scanL_inv (fun (p : List Pr) (s : T_index_Index) => ∀ a, (lookO a s.rows).length ≤ 1000000 + p.length) (fun (_ q : List Pr) (s : T_index_Index) => j ⟨s.keys, addK q i s.rows⟩) hb (fun s _ => rfl) ?_
  intro p a q s k hp hI hk
  have hpl : p.length + q.length + 1 ≤ 1000 := by rw [← hp] at hl; simp at hl; omega
  have hla := hI a
  rw [bndS, app_some (by simp; omega), bndS, hk _ fun b => ?_]
  · rfl
  · have := hI b
    simp only [lookO_put]
    split <;> simp <;> omega
theorem new_eq (ks : List Txt) (hn : ks.length ≤ 1000) (hk : ∀ k ∈ ks, k.length ≤ 10000) : m_index_New ks = some (goN [] ks []) := by
  unfold m_index_New
  rw [if_neg (by omega), jn_eq, m_index_New_L1_scan _ _ _ _ (by omega)]
  refine (scanL_inv (fun (p : List Txt) (s : Kv Int × T_index_Index) => (∀ k, (lookP k s.1).getD 0 = if k ∈ p then 1 else 0) ∧ s.2.keys = p ∧ s.2.rows = rowsI 0 p [] ∧ ∀ k ∈ p, OkK k) (fun (p q : List Txt) (s : Kv Int × T_index_Index) => some (goN p q s.2.rows)) ⟨fun k => by simp [lookP], rfl, rfl, fun k h => by cases h⟩ ?_ ?_)
  · rintro ⟨s, x⟩ ⟨_, h1, _, _⟩
    cases x
    cases h1
    rfl
  · rintro p k q ⟨s, x⟩ kk hp ⟨h1, h2, h3, h4⟩ hkk
    have hpl : p.length + q.length + 1 ≤ 1000 := by rw [← hp] at hn; simp at hn; omega
    have hkl : k.length ≤ 10000 := hk k (by rw [← hp]; simp)
    dsimp only at h1 h2 h3 ⊢
    simp only [bndS, jn_eq, series_eq k hkl, goN, h1 k]
    by_cases he : (serE k).2 = 0
    · obtain ⟨nm, m, g1, g2, g3, g4, g5, g6⟩ := serE_at k he
      by_cases hm : k ∈ p
      · simp [he, hm]
      · have e1 : ¬ (decide ((if k ∈ p then (1 : Int) else 0) > 0) = true) := by simp [hm]
        simp only [he, if_true, ne_eq, not_true_eq_false, if_false, hm, e1]
        rw [if_neg (by decide), app_some (by rw [h2]; simp; omega), bndS, app_some (by rw [g5]; simp; omega), bndS, newL2 _ _ _ _ (by simp; rw [g5]; omega) (fun a => by
          dsimp only
          rw [h3, rowsI_look a 0 p [] h4]
          have := rowF_len (fun k => decide (a ∈ attrs k)) 0 p
          simp [lookO] at this ⊢; omega)]
        have e2 : W64 (0 + 1) = 1 := by decide
        rw [hkk _ ⟨fun b => ?_, ?_, ?_, ?_⟩]
        · rfl
        · show x.keys ++ [k] = p ++ [k]
          rw [h2]
        · show addK (attrs k) p.length x.rows = _
          rw [h3]
          have := rowsI_snoc k 0 p []
          rw [Nat.zero_add] at this
          exact this.symm
        · intro b hb
          rcases List.mem_append.1 hb with hb | hb
          · exact h4 b hb
          · simp at hb; subst hb; exact he
        · dsimp only
          rw [lookP_put', e2]
          by_cases hb : b = k
          · subst hb; simp
          · simp only [hb, if_false, h1 b, List.mem_append, List.mem_singleton, or_false]
    · simp [he]
theorem goN_some : ∀ (q p : List Txt) (R : Rows35) (x : T_index_Index) (a e : Int), goN p q R = (some x, a, e) → x = ⟨p ++ q, rowsI p.length q R⟩ ∧ (∀ k ∈ q, OkK k) ∧ a = 0 ∧ e = 0 ∧ (∀ k ∈ q, k ∉ p) ∧ q.Nodup
  | [], p, R, x, a, e, h => by
    simp only [goN, Prod.mk.injEq, Option.some.injEq] at h
    obtain ⟨rfl, rfl, rfl⟩ := h
    simp [rowsI]
  | k :: q, p, R, x, a, e, h => by
    rw [goN] at h
    split at h
    · simp at h
    · rename_i he
      split at h
      · simp at h
      · rename_i hm
        obtain ⟨h1, h2, h3, h4, h5, h6⟩ := goN_some q (p ++ [k]) _ x a e h
        refine ⟨by rw [h1]; simp [rowsI], fun b hb => ?_, h3, h4, fun b hb => ?_, ?_⟩
        · rcases List.mem_cons.1 hb with rfl | hb
          · exact Classical.not_not.1 he
          · exact h2 b hb
        · rcases List.mem_cons.1 hb with rfl | hb
          · exact hm
          · exact fun hh => h5 b hb (by simp [hh])
        · exact List.nodup_cons.2 ⟨fun hh => h5 k hh (by simp), h6⟩
end Go.Proofs.YtpcpfjpcfcbopaaDoor
