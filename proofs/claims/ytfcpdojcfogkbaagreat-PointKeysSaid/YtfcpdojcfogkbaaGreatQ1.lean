/-
  What the plain forms of chapter 11 compute, told shorter; plain Lean.
-/
import Derived.Test.YtfcpdojcfogkbaaGreatLA
import Derived.Sort.Walk0
set_option linter.unusedVariables false
set_option linter.unusedSimpArgs false
namespace Go.Proofs.YtfcpdojcfogkbaaGreat
open Go Go.RowKit Go.Wk
abbrev Txt := List UInt8
abbrev Pr := T_api_Pair
def small (c : UInt8) : Bool := decide (97 ≤ c.toNat) && decide (c.toNat ≤ 122)
def nmC (c : UInt8) : Bool := small c || (decide (48 ≤ c.toNat) && decide (c.toNat ≤ 57)) || decide (c.toNat = 95) || decide (c.toNat = 46)
def nameB (s : Txt) : Bool := decide (s.length ≤ 32) && match s with | [] => false | c :: t => small c && t.all nmC
def valC (c : UInt8) : Bool := decide (33 ≤ c.toNat) && decide (c.toNat ≤ 126) && decide (c.toNat ≠ 61) && decide (c.toNat ≠ 59) && decide (c.toNat ≠ 44)
def valB (s : Txt) : Bool := decide (s.length ≤ 32) && decide (1 ≤ s.length) && s.all valC
theorem small_eq (c : UInt8) : m_label_small c = some (small c) := by unfold m_label_small small; rw [← Bool.decide_and]; congr 1; apply decide_eq_decide.2; omega
theorem isName_eq (s : Txt) : m_label_isName s = some (nameB s) := by
  unfold m_label_isName
  simp only [jn_eq]
  split
  · rename_i h; rcases h with rfl | h <;> simp [nameB]; omega
  · rename_i h
    match s, h with
    | c :: t, h =>
      simp only [not_or] at h
      have hb := h.2
      rw [idx0, bndS, small_eq, bndS, len_some (by omega), bndS, m_label_isName_L1_scan _ _ (by omega), scanL_all nmC (some false)]
      · have : (c :: t).length ≤ 32 := by omega
        have hn : small c = true → nmC c = true := fun h => by simp [nmC, h]
        unfold nameB
        cases hc : small c <;> simp_all
        split <;> simp_all
      · intro i x k _
        rw [bndS, small_eq, bndS]
        refine ite_neg ?_ (fun _ => rfl) fun _ => rfl
        simp [nmC]; grind
theorem isValue_eq (s : Txt) : m_label_isValue s = some (valB s) := by
  unfold m_label_isValue
  simp only [jn_eq]
  split
  · rename_i h; rcases h with rfl | h <;> simp [valB]; omega
  · rename_i h
    simp only [not_or] at h
    have hb := h.2
    have := List.length_pos_iff.2 h.1
    rw [len_some (by omega), bndS, m_label_isValue_L1_scan _ _ (by omega), scanL_all valC (some false)]
    · unfold valB; split <;> simp_all <;> omega
    · intro i x k _
      simp only [bndS, jn_eq, valC]
      grind
def chk : List Pr → List Pr → Int
  | _, [] => 0
  | p, a :: l => if (nameB a.Key && valB a.Val) = true then (if p.any (fun b => decide (b.Key = a.Key)) = true then 8 else chk (p ++ [a]) l) else 3
def check (name : Txt) (l : List Pr) : Int := if nameB name = true then (if l.length > 4 then 4 else chk [] l) else 3
theorem contains_eq (l : List Pr) (a : Pr) (h : l.length < 4611686018427387904) : m_slices_ContainsFunc_api_Pair_api_Pair_s2 l a = some (l.any fun b => decide (b.Key = a.Key)) := by
  unfold m_slices_ContainsFunc_api_Pair_api_Pair_s2 m_slices_IndexFunc_api_Pair_api_Pair_s1
  rw [jn_eq, m_slices_IndexFunc_api_Pair_api_Pair_s1_L1_scan _ _ _ h]
  rw [scanL_pre (fun p q _ => some (if q.any (fun b => decide (b.Key = a.Key)) = true then ((p.length + q.findIdx fun b => decide (b.Key = a.Key) : Nat) : Int) else -1)) ?_ ?_]
  · cases h : l.any (fun b => decide (b.Key = a.Key)) <;> simp [bndS]
  · intro s; rfl
  · intro p x q _ k _ hk
    simp only [bndS, m_label_Check_1, hk]
    by_cases hx : x.Key = a.Key
    · simp [hx, List.findIdx_cons]
    · simp [hx, List.findIdx_cons]; congr 1; omega
theorem check_eq (name : Txt) (l : List Pr) : m_label_Check name l = some (check name l) := by
  unfold m_label_Check check
  rw [isName_eq, bndS]
  by_cases hn : nameB name = true
  · rw [hn, if_neg (by simp), if_pos rfl]
    by_cases hl : l.length > 4
    · rw [if_pos (by omega), if_pos hl]
    rw [if_neg (by omega), if_neg hl, jn_eq, m_label_Check_L1_scan _ _ (by omega)]
    refine scanL_pre (fun p q _ => some (chk p q)) (fun _ => rfl) ?_
    intro p x q _ k hp hk
    subst hp
    simp only [bndS, isName_eq, isValue_eq, jn_eq, cut_mid, contains_eq p x (by simp at hl; omega), hk, chk]
    cases nameB x.Key <;> cases valB x.Val <;> simp
    split <;> rfl
  · simp at hn
    rw [hn]; rfl
end Go.Proofs.YtfcpdojcfogkbaaGreat
