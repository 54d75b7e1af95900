/-
  Chapter 35: what an index answers a question; plain Lean.
-/
import Derived.Test.YtpcpfjpcfcbopaaDoorX2
set_option linter.unusedVariables false
set_option linter.unusedSimpArgs false
namespace Go.Proofs.YtpcpfjpcfcbopaaDoor
open Go Go.RowKit Go.Wk
/-- What is looked at in a series. -/
def look35 (k key : Txt) : Option Txt := ((attrs k).find? fun a => decide (a.Key = key)).map (·.Val)
theorem find_dis : ∀ {l : List Pr} {key v : Txt}, Dis l → ((⟨key, v⟩ : Pr) ∈ l ↔ (l.find? fun a => decide (a.Key = key)).map (·.Val) = some v)
  | [], key, v, _ => by simp
  | a :: l, key, v, h => by
    obtain ⟨h1, h2⟩ := List.pairwise_cons.1 h
    by_cases e : a.Key = key
    · rw [List.find?_cons, decide_eq_true e, List.mem_cons]
      constructor
      · rintro (h3 | h3)
        · rw [← h3]; rfl
        · exact (h1 _ h3 e).elim
      · intro h3
        left
        cases a
        simp at h3 e
        rw [e, h3]
    · rw [List.find?_cons, decide_eq_false e, List.mem_cons, ← find_dis h2]
      constructor
      · rintro (h3 | h3)
        · exact (e (by rw [← h3])).elim
        · exact h3
      · exact .inr
theorem look_iff {k : Txt} (h : OkK k) (key v : Txt) : (⟨key, v⟩ : Pr) ∈ attrs k ↔ look35 k key = some v := find_dis (attrs_dis h).1
theorem attrs_len {k : Txt} (h : OkK k) : ∀ a ∈ attrs k, a.Val.length ≤ 32 := by
  obtain ⟨nm, m, _, h2, _, h4, h5, h6⟩ := serE_at k h
  have hc := (chk_iff m []).1 h4
  intro a ha
  unfold attrs at ha
  rw [h5, h6] at ha
  rcases List.mem_append.1 ha with ha | ha
  · have := (hc.1 a ha).2
    unfold valB at this; simp at this; exact this.1.1
  · simp at ha; subst ha
    unfold nameB at h2; simp at h2; exact h2.1
structure IxOk (x : T_index_Index) (ks : List Txt) : Prop where
  keys : x.keys = ks
  rows : x.rows = rowsI 0 ks []
  ok : ∀ k ∈ ks, OkK k
  len : ks.length ≤ 1000
theorem IxOk.of {ks : List Txt} {x : T_index_Index} {a e : Int} (hn : ks.length ≤ 1000) (h : goN [] ks [] = (some x, a, e)) : IxOk x ks := by
  obtain ⟨h1, h2, _⟩ := goN_some ks [] [] x a e h
  exact ⟨by rw [h1]; rfl, by rw [h1]; rfl, h2, hn⟩
section
variable {x : T_index_Index} {ks : List Txt} (hx : IxOk x ks)
include hx
theorem IxOk.look (key v : Txt) : lookO (⟨key, v⟩ : Pr) x.rows = rowF (fun k => decide (look35 k key = some v)) 0 ks := by
  rw [hx.rows, rowsI_look _ _ _ _ hx.ok]
  have : lookO (⟨key, v⟩ : Pr) ([] : Rows35) = [] := rfl
  rw [this, List.nil_append]
  exact rowF_ext fun k hk => by simp only [look_iff (hx.ok k hk)]
theorem IxOk.all : m_index_Index_all x = some (rowF (fun _ => true) 0 ks) := by
  have hl := hx.len
  unfold m_index_Index_all
  rw [hx.keys]
  have mk : mkL (ks.length : Int) (0 : Int) = some (List.replicate ks.length 0) := by unfold mkL; rw [if_pos (by omega)]; simp
  rw [mk, bndS, jn_eq, m_index_Index_all_L1_scan _ _ _ (by simp; omega)]
  have e : rowF (fun _ : Txt => true) 0 ks = (List.range ks.length).map fun j => ((j : Nat) : Int) := by
    refine asc_ext (rowF_asc _ 0 ks) ?_ fun z => ?_
    · rw [Asc, List.pairwise_map]
      exact List.pairwise_lt_range.imp fun h => by omega
    · rw [rowF_mem, List.mem_map]
      constructor
      · rintro ⟨j, k, h1, _, h3⟩
        exact ⟨j, by rw [List.mem_range]; exact (List.getElem?_eq_some_iff.1 h1).1, by rw [h3]; simp⟩
      · rintro ⟨j, h1, h2⟩
        rw [List.mem_range] at h1
        exact ⟨j, ks[j], List.getElem?_eq_getElem h1, rfl, by rw [← h2]; simp⟩
  rw [e]
  refine (scanL_inv (fun (p : List Int) (s : List Int) => s = ((List.range p.length).map fun j => ((j : Nat) : Int)) ++ List.replicate (ks.length - p.length) 0) (fun _ _ _ => some ((List.range ks.length).map fun j => ((j : Nat) : Int))) (by simp) ?_ ?_)
  · intro s hs
    rw [hs]; simp
  · intro p y q s kk hp hI hk
    have hpl : p.length + q.length + 1 = ks.length := by have := congrArg List.length hp; simp at this; omega
    have e2 : ks.length - p.length = (ks.length - (p.length + 1)) + 1 := by omega
    rw [e2, List.replicate_succ] at hI
    rw [hI, idx_mid' (by simp), bndS]
    refine hk _ ?_
    simp only [List.length_append, List.length_singleton, List.range_succ, List.map_append, List.map_cons, List.map_nil, List.append_assoc]
    unfold setI
    rw [List.set_append_right _ _ (by simp)]
    simp
def vals35 (x : T_index_Index) (key : Txt) : List Txt := ((((x.rows.map fun p => p.1).filter fun p => decide (p.Key = key)).map fun p => p.Val)).mergeSort leK
theorem IxOk.vals (key : Txt) : m_index_Index_Values x key = some (vals35 x key) := by
  unfold m_index_Index_Values
  have h1 := rowsI_len 0 ks [] hx.ok
  have h2 := hx.len
  rw [hx.rows, if_pos (by simp at h1; omega), ← hx.rows]
  rfl
theorem IxOk.vals_mem (key v : Txt) : v ∈ vals35 x key ↔ ∃ k ∈ ks, look35 k key = some v := by
  unfold vals35
  rw [List.mem_mergeSort, List.mem_map]
  constructor
  · rintro ⟨a, h1, rfl⟩
    obtain ⟨h2, h3⟩ := List.mem_filter.1 h1
    have h3 := of_decide_eq_true h3
    rw [hx.rows] at h2
    have := (rowsI_mem a 0 ks []).1 h2
    rcases this with ⟨k, h4, h5⟩ | h
    · refine ⟨k, h4, (look_iff (hx.ok k h4) key a.Val).1 ?_⟩
      rw [← h3]; exact h5
    · simp at h
  · rintro ⟨k, h1, h2⟩
    refine ⟨⟨key, v⟩, List.mem_filter.2 ⟨?_, by simp⟩, rfl⟩
    rw [hx.rows]
    exact (rowsI_mem _ 0 ks []).2 (.inl ⟨k, h1, (look_iff (hx.ok k h1) key v).2 h2⟩)
theorem IxOk.vals_len (key : Txt) : (vals35 x key).length ≤ 10000 := by
  have h1 := rowsI_len 0 ks [] hx.ok
  have h2 := hx.len
  unfold vals35
  rw [List.length_mergeSort, List.length_map]
  refine Nat.le_trans (List.length_filter_le _ _) ?_
  rw [List.length_map, hx.rows]
  simp at h1; omega
theorem IxOk.val_short {key v : Txt} (h : v ∈ vals35 x key) : v.length ≤ 32 := by
  obtain ⟨k, h1, h2⟩ := (hx.vals_mem key v).1 h
  exact attrs_len (hx.ok k h1) _ ((look_iff (hx.ok k h1) key v).2 h2)
/-- Is a question answered by yes? -/
def yes35 (M : Txt → Bool) (m : T_api_Match) (k : Txt) : Bool := M ((look35 k m.Key).getD []) != m.Not
theorem IxOk.ask {g : T_glob_Glob} {M : Txt → Bool} (hg : ∀ v : Txt, v.length ≤ 1000 → m_glob_Glob_Match g v = some (M v)) (m : T_api_Match) : m_index_Index_ask x m g = some (rowF (yes35 M m) 0 ks) := by
  have hl := hx.len
  unfold m_index_Index_ask
  rw [hx.vals, bndS, jn_eq, m_index_Index_ask_L1_scan _ _ _ _ _ _ _ (by have := hx.vals_len m.Key; omega)]
  let pH : List Txt → Txt → Bool := fun p k => p.any fun v => decide (look35 k m.Key = some v)
  let pY : List Txt → Txt → Bool := fun p k => p.any fun v => decide (look35 k m.Key = some v) && M v
  refine scanL_inv (fun (p : List Txt) (s : List Int × List Int) => s = (rowF (pY p) 0 ks, rowF (pH p) 0 ks)) (fun _ _ _ => some (rowF (yes35 M m) 0 ks)) ?_ ?_ ?_
  · show ([], []) = (rowF (fun _ => false) 0 ks, rowF (fun _ => false) 0 ks)
    rw [rowF_none]
  · rintro s rfl
    have rl := fun P : Txt → Bool => rowF_len P 0 ks
    rw [hg [] (by simp), bndS, jn_eq, hx.all]
    simp only [bndS]
    have fin : ∀ B : Bool, B = M [] → (fun y20 => if m.Not = true then (m_index_Less (rowF (fun _ : Txt => true) 0 ks) y20).bind fun p28 => some p28 else some y20) (if B = true then rowF (fun k => pY (vals35 x m.Key) k || (true && !pH (vals35 x m.Key) k)) 0 ks else rowF (pY (vals35 x m.Key)) 0 ks) = some (rowF (yes35 M m) 0 ks) := by
      intro B hB
      have e1 : (if B = true then rowF (fun k => pY (vals35 x m.Key) k || (true && !pH (vals35 x m.Key) k)) 0 ks else rowF (pY (vals35 x m.Key)) 0 ks) = rowF (fun k => M ((look35 k m.Key).getD [])) 0 ks := by
        have hin : ∀ k ∈ ks, ∀ v, look35 k m.Key = some v → v ∈ vals35 x m.Key := fun k hk v hv => (hx.vals_mem _ _).2 ⟨k, hk, hv⟩
        have hH : ∀ k ∈ ks, pH (vals35 x m.Key) k = (look35 k m.Key).isSome := by
          intro k hk
          cases hv : look35 k m.Key with
          | none => simp [pH, hv]
          | some v => simp [pH, hv]; exact hin k hk v hv
        have hY : ∀ k ∈ ks, pY (vals35 x m.Key) k = ((look35 k m.Key).map M).getD false := by
          intro k hk
          cases hv : look35 k m.Key with
          | none => simp [pY, hv]
          | some v =>
            cases hM : M v with
            | true =>
              simp only [pY, hv, Option.map_some, Option.getD_some, hM, List.any_eq_true]
              exact ⟨v, hin k hk v hv, by simp [hM]⟩
            | false =>
              simp only [pY, hv, Option.map_some, Option.getD_some, hM, List.any_eq_false]
              intro v' _ hh
              simp at hh
              obtain ⟨h1, h2⟩ := hh
              rw [← h1, hM] at h2; cases h2
        cases hb : B with
        | true =>
          rw [if_pos rfl]
          refine rowF_ext fun k hk => ?_
          rw [hH k hk, hY k hk]
          cases hv : look35 k m.Key with
          | none => simp [← hB, hb]
          | some v => simp
        | false =>
          rw [if_neg (by decide)]
          refine rowF_ext fun k hk => ?_
          rw [hY k hk]
          cases hv : look35 k m.Key with
          | none => simp [← hB, hb]
          | some v => simp
      rw [e1]
      dsimp only
      cases hN : m.Not with
      | true =>
        rw [if_pos rfl, ixLess_eq (by have := rl (fun _ => true); have := rl (fun k => M ((look35 k m.Key).getD [])); omega), bndS, less_rowF]
        exact congrArg some (rowF_ext fun k _ => by simp [yes35, hN])
      | false =>
        rw [if_neg (by decide)]
        exact congrArg some (rowF_ext fun k _ => by simp [yes35, hN])
    have := fin (M []) rfl
    cases hM : M [] with
    | true =>
      rw [hM] at this
      rw [if_pos rfl, ixLess_eq (a := rowF (fun _ => true) 0 ks) (b := rowF (pH (vals35 x m.Key)) 0 ks) (by have := rl (fun _ => true); have := rl (pH (vals35 x m.Key)); omega), bndS, less_rowF, ixOr_eq (by have := rl (pY (vals35 x m.Key)); have := rl (fun k => true && !pH (vals35 x m.Key) k); omega), bndS, or_rowF]
      exact this
    | false =>
      rw [hM] at this
      rw [if_neg (by decide)]
      exact this
  · rintro p v q s k hp rfl hk
    have rl := fun P : Txt → Bool => rowF_len P 0 ks
    have hv : v ∈ vals35 x m.Key := by rw [← hp]; simp
    rw [jn_eq, bndS, hx.look, ixOr_eq (by have := rl (pH p); have := rl (fun k => decide (look35 k m.Key = some v)); dsimp only; omega), bndS, or_rowF, hg v (by have := hx.val_short hv; omega), bndS]
    have eH : rowF (fun k => pH p k || decide (look35 k m.Key = some v)) 0 ks = rowF (pH (p ++ [v])) 0 ks := rowF_ext fun k _ => by simp [pH]
    cases hM : M v with
    | true =>
      rw [if_pos rfl, ixOr_eq (by have := rl (pY p); have := rl (fun k => decide (look35 k m.Key = some v)); dsimp only; omega), bndS, or_rowF, eH]
      exact hk _ (by rw [rowF_ext (P := fun k => pY p k || decide (look35 k m.Key = some v)) (Q := pY (p ++ [v])) fun k _ => by simp [pY, hM]])
    | false =>
      rw [if_neg (by decide), eH]
      exact hk _ (by rw [rowF_ext (P := pY p) (Q := pY (p ++ [v])) fun k _ => by simp [pY, hM]])
end
end Go.Proofs.YtpcpfjpcfcbopaaDoor
