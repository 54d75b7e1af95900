/-
  Chapter 35: what rows that are put together hold; plain Lean.
-/
import Derived.Test.YtpcpfjpcfcbopaaDoorR1
set_option linter.unusedVariables false
set_option linter.unusedSimpArgs false
namespace Go.Proofs.YtpcpfjpcfcbopaaDoor
open Go Go.RowKit Go.Wk
variable {K : Bool → Bool → Bool}
theorem mem_if (k : Bool) (x z : Int) (G : List Int) : z ∈ (if k = true then [x] else []) ++ G ↔ (k = true ∧ z = x) ∨ z ∈ G := by cases k <;> simp
theorem mg_sub (z : Int) : ∀ a b : List Int, z ∈ mgE K a b → z ∈ a ∨ z ∈ b
  | [], [], h => by rw [mgE] at h; cases h
  | x :: a, [], h => by
    rw [mgE, mem_if] at h
    rcases h with ⟨_, rfl⟩ | h
    · simp
    · have := mg_sub z a [] h; simp at this ⊢; exact .inr this
  | [], y :: b, h => by
    rw [mgE, mem_if] at h
    rcases h with ⟨_, rfl⟩ | h
    · simp
    · have := mg_sub z [] b h; simp at this ⊢; exact .inr this
  | x :: a, y :: b, h => by
    rw [mgE] at h
    split at h
    · rw [mem_if] at h
      rcases h with ⟨_, rfl⟩ | h
      · simp
      · rcases mg_sub z a (y :: b) h with h | h
        · exact .inl (List.mem_cons_of_mem _ h)
        · exact .inr h
    · split at h
      · rw [mem_if] at h
        rcases h with ⟨_, rfl⟩ | h
        · simp
        · rcases mg_sub z (x :: a) b h with h | h
          · exact .inl h
          · exact .inr (List.mem_cons_of_mem _ h)
      · rw [mem_if] at h
        rcases h with ⟨_, rfl⟩ | h
        · simp
        · rcases mg_sub z a b h with h | h
          · exact .inl (List.mem_cons_of_mem _ h)
          · exact .inr (List.mem_cons_of_mem _ h)
termination_by a b => a.length + b.length
abbrev Asc (l : List Int) : Prop := l.Pairwise (· < ·)
theorem asc_if {k : Bool} {x : Int} {G : List Int} (h : Asc G) (hx : ∀ z ∈ G, x < z) : Asc ((if k = true then [x] else []) ++ G) := by
  cases k with
  | true => simpa using ⟨hx, h⟩
  | false => simpa using h
theorem mg_asc : ∀ a b : List Int, Asc a → Asc b → Asc (mgE K a b)
  | [], [], _, _ => by rw [mgE]; exact List.Pairwise.nil
  | x :: a, [], ha, hb => by
    rw [mgE]
    have ha' := List.pairwise_cons.1 ha
    exact asc_if (mg_asc a [] ha'.2 hb) fun z hz => by rcases mg_sub z _ _ hz with h | h; exact ha'.1 z h; cases h
  | [], y :: b, ha, hb => by
    rw [mgE]
    have hb' := List.pairwise_cons.1 hb
    exact asc_if (mg_asc [] b ha hb'.2) fun z hz => by rcases mg_sub z _ _ hz with h | h; cases h; exact hb'.1 z h
  | x :: a, y :: b, ha, hb => by
    have ha' := List.pairwise_cons.1 ha
    have hb' := List.pairwise_cons.1 hb
    rw [mgE]
    split
    · rename_i h1
      refine asc_if (mg_asc a (y :: b) ha'.2 hb) fun z hz => ?_
      rcases mg_sub z _ _ hz with h | h
      · exact ha'.1 z h
      · rcases List.mem_cons.1 h with rfl | h
        · exact h1
        · have := hb'.1 z h; omega
    · split
      · rename_i h1 h2
        refine asc_if (mg_asc (x :: a) b ha hb'.2) fun z hz => ?_
        rcases mg_sub z _ _ hz with h | h
        · rcases List.mem_cons.1 h with rfl | h
          · exact h2
          · have := ha'.1 z h; omega
        · exact hb'.1 z h
      · rename_i h1 h2
        refine asc_if (mg_asc a b ha'.2 hb'.2) fun z hz => ?_
        rcases mg_sub z _ _ hz with h | h
        · exact ha'.1 z h
        · have := hb'.1 z h; omega
termination_by a b => a.length + b.length
abbrev inB (z : Int) (l : List Int) : Bool := decide (z ∈ l)
theorem inB_ne {x z : Int} {l : List Int} (h : z ≠ x) : inB z (x :: l) = inB z l := by simp [inB, h]
theorem inB_no {z : Int} {l : List Int} (h : z ∉ l) : inB z l = false := by simp [inB, h]
theorem inB_hd {z : Int} {l : List Int} : inB z (z :: l) = true := by simp [inB]
@[simp] theorem inB_nil {z : Int} : inB z [] = false := rfl
theorem mg_mem (z : Int) : ∀ a b : List Int, Asc a → Asc b → (z ∈ mgE K a b ↔ (z ∈ a ∨ z ∈ b) ∧ K (inB z a) (inB z b) = true)
  | [], [], _, _ => by rw [mgE]; simp
  | x :: a, [], ha, hb => by
    have ha' := List.pairwise_cons.1 ha
    rw [mgE, mem_if, mg_mem z a [] ha'.2 hb]
    by_cases h : z = x
    · subst h
      have hn : z ∉ a := fun hh => by have := ha'.1 z hh; omega
      simp [hn]
    · rw [inB_ne h]; simp [h]
  | [], y :: b, ha, hb => by
    have hb' := List.pairwise_cons.1 hb
    rw [mgE, mem_if, mg_mem z [] b ha hb'.2]
    by_cases h : z = y
    · subst h
      have hn : z ∉ b := fun hh => by have := hb'.1 z hh; omega
      simp [hn]
    · rw [inB_ne h]; simp [h]
  | x :: a, y :: b, ha, hb => by
    have ha' := List.pairwise_cons.1 ha
    have hb' := List.pairwise_cons.1 hb
    rw [mgE]
    split
    · rename_i h1
      rw [mem_if, mg_mem z a (y :: b) ha'.2 hb]
      by_cases h : z = x
      · subst h
        have hn : z ∉ a := fun hh => by have := ha'.1 z hh; omega
        have hm : z ∉ y :: b := fun hh => by
          rcases List.mem_cons.1 hh with rfl | hh
          · omega
          · have := hb'.1 z hh; omega
        rw [inB_no hm]; simp [hn, hm]
      · rw [inB_ne h]; simp [h]
    · split
      · rename_i h1 h2
        rw [mem_if, mg_mem z (x :: a) b ha hb'.2]
        by_cases h : z = y
        · subst h
          have hn : z ∉ b := fun hh => by have := hb'.1 z hh; omega
          have hm : z ∉ x :: a := fun hh => by
            rcases List.mem_cons.1 hh with rfl | hh
            · omega
            · have := ha'.1 z hh; omega
          rw [inB_no hm]; simp [hn, hm]
        · rw [inB_ne h]; simp [h]
      · rename_i h1 h2
        have e : x = y := by omega
        subst e
        rw [mem_if, mg_mem z a b ha'.2 hb'.2]
        by_cases h : z = x
        · subst h
          have hn : z ∉ a := fun hh => by have := ha'.1 z hh; omega
          have hm : z ∉ b := fun hh => by have := hb'.1 z hh; omega
          rw [inB_hd, inB_hd]; simp [hn, hm]
        · rw [inB_ne h, inB_ne h]; simp [h]
termination_by a b => a.length + b.length
theorem len_if (k : Bool) (x : Int) (G : List Int) : ((if k = true then [x] else []) ++ G).length = (if k = true then 1 else 0) + G.length := by cases k <;> simp; omega
theorem mg_len : ∀ a b : List Int, (mgE kAnd a b).length + (mgE kLess a b).length = a.length ∧ (mgE kOr a b).length = (mgE kLess a b).length + b.length
  | [], [] => by simp [mgE]
  | x :: a, [] => by
    have := mg_len a []
    simp only [mgE, len_if, kAnd, kLess, kOr, Bool.and_true, Bool.and_false, Bool.not_true, Bool.not_false, if_true, Bool.false_eq_true, if_false, List.length_append, List.length_cons, List.length_nil] at this ⊢; omega
  | [], y :: b => by
    have := mg_len [] b
    simp only [mgE, len_if, kAnd, kLess, kOr, Bool.and_true, Bool.and_false, Bool.not_true, Bool.not_false, if_true, Bool.false_eq_true, if_false, List.length_append, List.length_cons, List.length_nil] at this ⊢; omega
  | x :: a, y :: b => by
    simp only [mgE]
    split
    · have := mg_len a (y :: b)
      simp only [len_if, kAnd, kLess, kOr, Bool.and_true, Bool.and_false, Bool.not_true, Bool.not_false, if_true, Bool.false_eq_true, if_false, List.length_append, List.length_cons, List.length_nil] at this ⊢; omega
    · split
      · have := mg_len (x :: a) b
        simp only [len_if, kAnd, kLess, kOr, Bool.and_true, Bool.and_false, Bool.not_true, Bool.not_false, if_true, Bool.false_eq_true, if_false, List.length_append, List.length_cons, List.length_nil] at this ⊢; omega
      · have := mg_len a b
        simp only [len_if, kAnd, kLess, kOr, Bool.and_true, Bool.and_false, Bool.not_true, Bool.not_false, if_true, Bool.false_eq_true, if_false, List.length_append, List.length_cons, List.length_nil] at this ⊢; omega
termination_by a b => a.length + b.length
/- ROWS -/
def rowB : Option Int → List Int → Bool
  | _, [] => true
  | o, x :: l => (decide (0 ≤ x) && (o.map fun y => decide (y < x)).getD true) && rowB (some x) l
theorem rowB_iff : ∀ (o : Option Int) (l : List Int), rowB o l = true ↔ (Asc l ∧ (∀ x ∈ l, 0 ≤ x) ∧ ∀ y, o = some y → ∀ x ∈ l, y < x)
  | o, [] => by simp [rowB]
  | o, x :: l => by
    rw [rowB, Bool.and_eq_true, Bool.and_eq_true, rowB_iff (some x) l, show Asc (x :: l) ↔ _ from List.pairwise_cons]
    constructor
    · rintro ⟨⟨h1, h2⟩, h3, h4, h5⟩
      refine ⟨⟨h5 x rfl, h3⟩, fun z hz => ?_, fun y hy z hz => ?_⟩
      · rcases List.mem_cons.1 hz with rfl | hz
        · simpa using h1
        · exact h4 z hz
      · subst hy
        have h2' : y < x := by simpa using h2
        rcases List.mem_cons.1 hz with rfl | hz
        · exact h2'
        · have := h5 x rfl z hz; omega
    · rintro ⟨⟨h1, h2⟩, h3, h4⟩
      refine ⟨⟨by simpa using h3 x (by simp), ?_⟩, h2, fun z hz => h3 z (by simp [hz]), fun y hy z hz => by cases hy; exact h1 z hz⟩
      cases o with
      | none => rfl
      | some y => simpa using h4 y rfl x (by simp)
theorem ref_row {l : List Int} (h : l.length ≤ 1000000) : m_limnographref35_Row l = some (rowB none l) := by
  unfold m_limnographref35_Row
  rw [jn_eq, m_limnographref35_Row_L1_scan _ _ (by omega)]
  refine Eq.trans (scanL_pre (fun p q _ => some (rowB p.getLast? q)) (fun _ => rfl) ?_) rfl
  intro p x q s k hp hk
  simp only [jn_eq, bndS, hk]
  have e1 : (p ++ [x]).getLast? = some x := by simp
  rw [e1, rowB]
  by_cases h0 : x < 0
  · rw [if_pos h0, decide_eq_false (by omega : ¬ 0 ≤ x)]; simp
  · rw [if_neg h0, decide_eq_true (by omega : 0 ≤ x)]
    rcases List.eq_nil_or_concat p with rfl | ⟨p', y, rfl⟩
    · simp
    · simp only [List.concat_eq_append] at hp ⊢
      have e2 : idx l (W64 (((p' ++ [y]).length : Int) - 1)) = some y := by
        have hl : (p' ++ [y]).length ≤ l.length := by rw [← hp]; simp
        simp only [List.length_append, List.length_cons, List.length_nil] at hl ⊢
        rw [W64_id (by omega) (by omega)]
        refine (congrArg (fun l => idx l _) hp.symm).trans ?_
        rw [List.append_assoc]
        exact idx_mid' (by omega)
      rw [if_pos (by simp only [List.length_append, List.length_cons, List.length_nil]; omega), e2, bndS]
      simp only [List.getLast?_append, List.getLast?_singleton, Option.some_or, Option.map_some, Option.getD_some]
      by_cases h3 : x ≤ y
      · rw [decide_eq_true h3, if_pos rfl, decide_eq_false (by omega : ¬ y < x)]; simp
      · rw [decide_eq_false h3, if_neg (by simp), decide_eq_true (by omega : y < x)]; simp
theorem ref_in {l : List Int} (h : l.length ≤ 1000000) (n : Int) : m_limnographref35_In l n = some (inB n l) := by
  unfold m_limnographref35_In
  rw [jn_eq, m_limnographref35_In_L1_scan _ _ _ (by omega)]
  refine Eq.trans (scanL_pre (fun p q _ => some (inB n q)) (fun _ => by simp [inB]) ?_) rfl
  intro p x q s k hp hk
  simp only [bndS, hk]
  by_cases h0 : x = n
  · subst h0; rw [if_pos rfl, inB_hd]
  · rw [if_neg h0, inB_ne (fun hh => h0 hh.symm)]
end Go.Proofs.YtpcpfjpcfcbopaaDoor
