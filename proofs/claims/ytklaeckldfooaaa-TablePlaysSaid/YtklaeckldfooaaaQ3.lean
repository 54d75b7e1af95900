/-
  Chapter 14: the law TablePlays, as a plain form; plain Lean.
-/
import Derived.Test.YtklaeckldfooaaaQ2
namespace Go.Proofs.Ytklaeckldfooaaa
open Go Go.RowKit Go.Wk
section
variable {most : Int} {l : List Th} {t : Tb} {c : Nat} {a : Kv Sl}
theorem thOf_filter (a : Kv Sl) (k : List UInt8) : (a.filter fun p => decide (p.1 ≠ k)).map thOf = (a.map thOf).filter fun x => decide (x.Key ≠ k) := by
  induction a with
  | nil => rfl
  | cons p r ih =>
    by_cases hk : p.1 = k
    · rw [List.filter_cons_of_neg (by simp [hk]), List.map_cons, List.filter_cons_of_neg (by simp [hk]), ih]
    · rw [List.filter_cons_of_pos (by simp [hk]), List.map_cons, List.map_cons, List.filter_cons_of_pos (by simp [hk]), ih]
theorem InvA.later (h : InvA most l t c a) {c' : Nat} (hc : c ≤ c') : InvA most l t c' a := ⟨h.list, h.perm, h.keys, h.rise, h.pos, ⟨h.clock.1, by have := h.clock.2; omega⟩, h.mst, h.room, h.short⟩
theorem InvA.del (h : InvA most l t c a) (hl : l.length < 1000000) (k : List UInt8) :
    ∃ is l' t', m_table_Table_int_Del t k = some (is, t') ∧ m_limnographref14_Del l k = some l' ∧ (is = true ↔ k ∈ a.map (·.1)) ∧ InvA most l' t' c (a.filter fun p => decide (p.1 ≠ k)) := by
  have hf : (delP k t.m).Perm (a.filter fun p => decide (p.1 ≠ k)) := by rw [delP_filter k _ h.mkeys]; exact h.perm.filter _
  refine ⟨_, _, _, rfl, del_eq l k hl, ?_, ?_⟩
  · rw [h.look]
    cases hk : lookP k a with
    | none =>
      constructor
      · intro h; cases h
      · intro hm; obtain ⟨p, hp, rfl⟩ := List.mem_map.1 hm; exact absurd rfl (lookP_none.1 hk p hp)
    | some x => simp; exact ⟨x, lookP_mem hk⟩
  · have hsub := List.filter_sublist (l := a) (p := fun p => decide (p.1 ≠ k))
    refine ⟨by rw [thOf_filter, h.list], hf, h.keys.sublist (hsub.map _), h.rise.sublist hsub, fun p hp => h.pos p (hsub.subset hp), h.clock, h.mst, ?_, fun p hp => h.short p (hsub.subset hp)⟩
    have := List.length_filter_le (fun x : Th => decide (x.Key ≠ k)) l
    have := h.room
    omega
theorem InvA.put (h : InvA most l t c a) (hl : l.length < 1000) (hc : c < 1000000) (hm0 : -9223372036854775808 ≤ most) (hm1 : most ≤ 9223372036854775807) {k : List UInt8} (hk : k.length ≤ 60) (v : Int) :
    ∃ may l' t', m_table_Table_int_Put t k v = some (may, t') ∧ m_limnographref14_Put l most k v = some (l', may) ∧ (∃ a', InvA most l' t' (c + 1) a') ∧ l'.length ≤ l.length + 1 ∧
      (may = true → l' = (l.filter fun x => decide (x.Key ≠ k)) ++ [⟨k, v⟩]) ∧ ((l.length : Int) < max most 0 → may = true) := by
  have hlen := h.len
  have hroom := h.room
  have hw : W64 (t.most - (t.m.length : Int)) = max most 0 - (l.length : Int) := by rw [h.mst, hlen, W64_id (by omega) (by omega)]
  have hck := h.clock
  have hw2 : W64 (t.clock + 1) = t.clock + 1 := W64_id (by omega) (by omega)
  unfold m_table_Table_int_Put m_limnographref14_Put m_table_Table_int_Room
  rw [jn_eq, h.look, hw2, hw, bndS]
  have hne : ∀ {l0 : List Th}, l0.length ≤ l.length → ((l0 ++ [(⟨k, v⟩ : Th)]).length ≤ l.length + 1) := fun h => by simp; omega
  have hfl := List.length_filter_le (fun x : Th => decide (x.Key ≠ k)) l
  -- what comes of putting it down
  have hput : InvA most ((l.filter fun x => decide (x.Key ≠ k)) ++ [⟨k, v⟩]) ⟨t.most, t.clock + 1, putP k ⟨v, t.clock + 1⟩ t.m⟩ (c + 1) ((a.filter fun p => decide (p.1 ≠ k)) ++ [(k, ⟨v, t.clock + 1⟩)]) ∨ ¬ ((((l.filter fun x => decide (x.Key ≠ k)) ++ [(⟨k, v⟩ : Th)]).length : Int) ≤ max most 0) := by
    by_cases hrm : (((l.filter fun x => decide (x.Key ≠ k)) ++ [(⟨k, v⟩ : Th)]).length : Int) ≤ max most 0
    · left
      have hsub := List.filter_sublist (l := a) (p := fun p => decide (p.1 ≠ k))
      refine ⟨by rw [List.map_append, thOf_filter, h.list]; rfl, ?_, ?_, ?_, ?_, ?_, h.mst, hrm, ?_⟩
      · refine (putP_perm k _ _).trans ?_
        rw [delP_filter k _ h.mkeys]
        exact (h.perm.filter _).append_right _
      · rw [List.map_append, List.nodup_append]
        refine ⟨h.keys.sublist (hsub.map _), by simp, fun x hx y hy hxy => ?_⟩
        simp at hy
        obtain ⟨p, hp, rfl⟩ := List.mem_map.1 hx
        have := (List.mem_filter.1 hp).2
        simp at this
        exact this (hxy.trans hy)
      · rw [List.pairwise_append]
        refine ⟨h.rise.sublist hsub, by simp, fun p hp q hq => ?_⟩
        simp at hq; subst hq
        have := (h.pos p (hsub.subset hp)).2
        dsimp only; omega
      · intro p hp
        dsimp only
        rcases List.mem_append.1 hp with hp | hp
        · have := h.pos p (hsub.subset hp); omega
        · simp at hp; subst hp; dsimp only; omega
      · dsimp only; omega
      · intro p hp
        rcases List.mem_append.1 hp with hp | hp
        · exact h.short p (hsub.subset hp)
        · simp at hp; subst hp; exact hk
    · exact .inr hrm
  rcases split_key l k with hno | ⟨p, x, q, hsp, h1, h2⟩
  · have hlk : lookP k a = none := lookP_none.2 fun p hp => hno (thOf p) (by rw [← h.list]; exact List.mem_map_of_mem hp)
    rw [hlk, find_none (by omega) hno, bndS, if_pos (by rfl)]
    dsimp only
    have hfe : (l.filter fun x => decide (x.Key ≠ k)) = l := List.filter_eq_self.2 fun x hx => by simpa using hno x hx
    by_cases hfull : (l.length : Int) ≥ max most 0
    · rw [if_pos (by simp; omega), if_pos (by omega)]
      exact ⟨false, l, t, rfl, rfl, ⟨a, h.later (by omega)⟩, by omega, by simp, by intro hh; omega⟩
    · rw [if_neg (by simp; omega), if_neg (by omega), del_eq _ _ (by omega), bndS, app_some (by simp only [List.length_append, List.length_cons, List.length_nil]; omega), bndS]
      have hI := hput.resolve_right (by rw [hfe]; simp; omega)
      exact ⟨true, _, _, rfl, rfl, ⟨_, hI⟩, hne hfl, fun _ => rfl, fun _ => rfl⟩
  · have hx : x ∈ l := by rw [hsp]; simp
    have hlk : (lookP k a).isSome = true := by
      rw [← h.list] at hx
      obtain ⟨z, hz, rfl⟩ := List.mem_map.1 hx
      cases hl0 : lookP k a with
      | none => exact absurd h2 (lookP_none.1 hl0 z hz)
      | some y => rfl
    have hfx : ((l.filter fun x => decide (x.Key ≠ k)) ++ [(⟨k, v⟩ : Th)]).length ≤ l.length := by
      have : (l.filter fun x => decide (x.Key ≠ k)).length < l.length := by
        rw [List.length_filter_lt_length_iff_exists]; exact ⟨x, hx, by simp [h2]⟩
      simp only [List.length_append, List.length_cons, List.length_nil]; omega
    rw [hlk]
    have hfnd : m_limnographref14_find l k = some (p.length : Int) := by rw [hsp]; exact find_some (by rw [← hsp]; omega) h1 h2
    rw [hfnd, bndS, if_neg (by simp)]
    dsimp only
    rw [if_neg (by simp), if_neg (by omega), del_eq _ _ (by omega), bndS, app_some (by simp only [List.length_append, List.length_cons, List.length_nil]; omega), bndS]
    have hI := hput.resolve_right (by omega)
    exact ⟨true, _, _, rfl, rfl, ⟨_, hI⟩, hne hfl, fun _ => rfl, fun _ => rfl⟩
end
theorem few_eq (x : List Act) : m_limnographlaw14_few x = some (decide (x.length ≤ 60 ∧ ∀ z ∈ x, z.Key.length ≤ 60)) := by
  unfold m_limnographlaw14_few
  by_cases h : (x.length : Int) > 60
  · rw [if_pos h]; simp; omega
  · rw [if_neg h, jn_eq, m_limnographlaw14_few_L1_scan _ _ (by omega)]
    rw [scanL_all (fun z => decide (z.Key.length ≤ 60)) (some false) (fun i z k _ => by
      rw [bndS]
      by_cases hz : (z.Key.length : Int) > 60
      · rw [if_pos hz, if_neg (by simp; omega)]
      · rw [if_neg hz, if_pos (by simp; omega)])]
    by_cases hall : (x.all fun z => decide (z.Key.length ≤ 60)) = true
    · rw [if_pos hall]
      rw [List.all_eq_true] at hall
      congr 1; symm; simp only [decide_eq_true_eq]
      exact ⟨by omega, fun z hz => by simpa using hall z hz⟩
    · rw [if_neg hall]
      congr 1; symm; simp only [decide_eq_false_iff_not]
      exact fun hh => hall (List.all_eq_true.2 fun z hz => by simpa using hh.2 z hz)
theorem awake_eq : m_limnographlaw14_awake = some true := by decide +kernel
theorem wf_i64 {x : Int} (h : (Lit.int .i64 x).wf = true) : -9223372036854775808 ≤ x ∧ x ≤ 9223372036854775807 := by
  simp [Lit.wf, IntKind.min, IntKind.max, IntKind.signed, IntKind.bits] at h
  omega
theorem new_inv (most : Int) : m_table_New_int most = some ⟨max most 0, 0, []⟩ ∧ InvA most [] ⟨max most 0, 0, []⟩ 0 [] :=
  ⟨rfl, rfl, .refl _, by simp, List.Pairwise.nil, by simp, ⟨by simp, by simp⟩, rfl, by simp; omega, by simp⟩
theorem plays_law (x0 : Int) (x1 : List Act) (k0 : (Lit.int .i64 x0).wf = true) {p : Prop} (_ : p) : m_limnographlaw14_TablePlays x0 x1 = some true := by
  obtain ⟨hm0, hm1⟩ := wf_i64 k0
  unfold m_limnographlaw14_TablePlays
  rw [awake_eq, bndS, if_neg (by simp), few_eq, bndS]
  by_cases hf : x1.length ≤ 60 ∧ ∀ z ∈ x1, z.Key.length ≤ 60
  · obtain ⟨hf1, hf2⟩ := hf
    rw [if_neg (by simp; exact ⟨hf1, hf2⟩), (new_inv x0).1, bndS, jn_eq, m_limnographlaw14_TablePlays_L1_scan _ _ _ _ _ (by omega)]
    refine scanL_inv (fun p s => s.1.length ≤ p.length ∧ Inv x0 s.1 s.2 p.length) (fun _ _ _ => some true) ⟨by simp, [], (new_inv x0).2⟩ (fun s hs => ?_) fun p x q s k hp hs hk => ?_
    · obtain ⟨hsl, a, h⟩ := hs
      have h2 : InvA x0 s.1 ⟨s.2.most, s.2.clock, s.2.m⟩ x1.length a := ⟨h.list, h.perm, h.keys, h.rise, h.pos, h.clock, h.mst, h.room, h.short⟩
      unfold m_table_Table_int_Clone
      rw [bndS, h2.same (by omega), bndS]
    · obtain ⟨hsl, a, h⟩ := hs
      have hpl : p.length < x1.length := by rw [← hp]; simp
      have hxk := hf2 x (by rw [← hp]; simp)
      obtain ⟨v, is, hg1, hg2, hgi⟩ := h.get (by omega) x.Key
      rw [bndS, hg1, bndS, hg2, bndS, if_neg (by simp), jn_eq]
      have fin : ∀ (l' : List Th) (t' : Tb) (a' : Kv Sl), InvA x0 l' t' (p.length + 1) a' → l'.length ≤ p.length + 1 →
          ((m_limnographlaw14_same t' l' x0).bind fun p52 => jn (fun (y55 : Bool) => if y55 = true then some false else k (l', t')) fun j3 => if (!p52) = true then j3 true else (m_table_Table_int_Len t').bind fun p59 => j3 (decide (p59 > max x0 0))) = some true := by
        intro l' t' a' h' hl'
        have hr := h'.room
        have hle := h'.len
        unfold m_table_Table_int_Len
        rw [h'.same (by omega), bndS, jn_eq, if_neg (by simp), bndS]
        dsimp only
        rw [if_neg (by simp; omega), hk (l', t') ⟨by simp; omega, a', by simpa using h'⟩]
      by_cases h0 : x.Kind = 0
      · obtain ⟨may, l', t', hp1, hp2, ⟨a', hI⟩, hll, _⟩ := h.put (by omega) (by omega) hm0 hm1 hxk x.V
        rw [if_pos h0, hp2, bndS, hp1, bndS, if_neg (by simp)]
        exact fin l' t' a' hI (by omega)
      · rw [if_neg h0]
        by_cases h1 : x.Kind = 1
        · obtain ⟨is', l', t', hd1, hd2, hdi, hI⟩ := h.del (by omega) x.Key
          have : is' = is := by rw [Bool.eq_iff_iff, hdi, hgi]
          subst this
          rw [if_pos h1, hd1, bndS, if_neg (by simp), hd2, bndS]
          have hl' : l'.length ≤ s.1.length := by
            rw [del_eq _ _ (by omega)] at hd2; cases hd2; exact List.length_filter_le _ _
          exact fin l' t' _ (hI.later (by omega)) (by omega)
        · rw [if_neg h1]
          have hst := fin s.1 s.2 a (h.later (by omega)) (by omega)
          by_cases h3 : x.Kind = 3
          · rw [if_pos h3]
            obtain ⟨is', l', t', hd1, hd2, hdi, hI⟩ := h.del (by omega) x.Key
            have hl' : l'.length ≤ s.1.length := by
              rw [del_eq _ _ (by omega)] at hd2; cases hd2; exact List.length_filter_le _ _
            obtain ⟨may, l2, t2, hp1, _⟩ := hI.put (by omega) (by omega) hm0 hm1 (k := [33]) (by simp) x.V
            unfold m_table_Table_int_Clone
            rw [bndS, hd1, bndS, hp1, bndS]
            exact hst
          · rw [if_neg h3]; exact hst
  · rw [if_pos (by rw [decide_eq_false hf]; rfl)]
end Go.Proofs.Ytklaeckldfooaaa
