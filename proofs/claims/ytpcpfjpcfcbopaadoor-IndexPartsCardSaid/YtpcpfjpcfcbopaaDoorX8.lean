/-
  Chapter 35: which series questions choose; plain Lean.
-/
import Derived.Test.YtpcpfjpcfcbopaaDoorX7
set_option linter.unusedVariables false
set_option linter.unusedSimpArgs false
namespace Go.Proofs.YtpcpfjpcfcbopaaDoor
open Go Go.RowKit Go.Wk
abbrev Mt := T_api_Match
/-- What is wrong with a question; 0: nothing. -/
def errQ (m : Mt) : Int := if (cmpE m.Glob).1 ≠ 0 then (cmpE m.Glob).1 else if m.Key ≠ [] ∧ nameB m.Key = false then 3 else 0
def firstE : Nat → List Mt → Option (Int × Int)
  | _, [] => none
  | i, m :: q => if errQ m ≠ 0 then some ((i : Int), errQ m) else firstE (i + 1) q
theorem firstE_none : ∀ (i : Nat) (q : List Mt), firstE i q = none ↔ ∀ m ∈ q, errQ m = 0
  | i, [] => by simp [firstE]
  | i, m :: q => by
    rw [firstE]
    by_cases h : errQ m = 0
    · rw [if_neg (fun k => k h), firstE_none]
      simp [h]
    · rw [if_pos h]; simp [h]
theorem firstE_err : ∀ (i : Nat) (q : List Mt) (a e : Int), firstE i q = some (a, e) → e ≠ 0
  | i, m :: q, a, e, h => by
    rw [firstE] at h
    by_cases he : errQ m = 0
    · rw [if_neg (fun k => k he)] at h; exact firstE_err _ _ _ _ h
    · rw [if_pos he] at h
      injection h with h
      injection h with h1 h2
      rw [← h2]; exact he
def glb (m : Mt) : T_glob_Glob := ⟨m.Glob, (cmpE m.Glob).2⟩
def yesQ (m : Mt) (k : Txt) : Bool := yes35 (mM (cmpE m.Glob).2) m k
def selE (ks : List Txt) (l : List Mt) : List Int × Int × Int := match firstE 0 l with | some x => ([], x.1, x.2) | none => (rowF (fun k => l.all fun m => yesQ m k) 0 ks, 0, 0)
theorem check_nil (s : Txt) : check s [] = if nameB s = true then 0 else 3 := by
  unfold check
  by_cases h : nameB s = true
  · rw [if_pos h, if_pos h]; rfl
  · rw [if_neg h, if_neg h]
theorem IxOk.select {x : T_index_Index} {ks : List Txt} (hx : IxOk x ks) (l : List Mt) (hl : l.length ≤ 1000) : m_index_Index_Select x l = some (selE ks l) := by
  have hkl := hx.len
  have rl := fun P : Txt → Bool => rowF_len P 0 ks
  unfold m_index_Index_Select
  rw [jn_eq, m_index_Index_Select_L2_scan _ _ _ (by omega)]
  -- the second part
  have two : (fun (y7 : List T_glob_Glob) => ((m_index_Index_all x).bind fun p11 =>
      jn (fun (y14 : (List Int)) =>
        (some (y14, (0 : Int), (0 : Int)))) fun j2 =>
      m_index_Index_Select_L1 x l y7 j2 fuel p11 0)) (l.map glb) = some (rowF (fun k => l.all fun m => yesQ m k) 0 ks, 0, 0) := by
    dsimp only
    rw [hx.all, bndS, jn_eq, m_index_Index_Select_L1_scan _ _ _ _ _ (by omega)]
    refine scanL_inv (fun (p : List Mt) (s : List Int) => s = rowF (fun k => p.all fun m => yesQ m k) 0 ks) (fun _ _ _ => some (rowF (fun k => l.all fun m => yesQ m k) 0 ks, 0, 0)) rfl (fun s hs => by rw [hs]) ?_
    rintro p m q s k hp rfl hk
    have hi : idx (l.map glb) (p.length : Int) = some (glb m) := by
      rw [← hp, List.map_append, List.map_cons]
      exact idx_mid' (by simp)
    rw [bndS, hi, bndS, hx.ask (M := mM (cmpE m.Glob).2) (fun v hv => match_eq (glb m) v (by have := cmpE_len m.Glob; show (cmpE m.Glob).2.length ≤ 1000; omega) hv) m, bndS, ixAnd_eq (by have := rl (fun k => p.all fun m => yesQ m k); have := rl (yes35 (mM (cmpE m.Glob).2) m); omega), bndS, and_rowF]
    refine hk _ (rowF_ext fun k _ => ?_)
    rw [List.all_append]
    simp [yesQ]
  refine (scanL_inv (fun (p : List Mt) (s : List T_glob_Glob) => s = p.map glb) (fun (p q : List Mt) (_ : List T_glob_Glob) => match firstE p.length q with | some x => some (([] : List Int), x.1, x.2) | none => some (rowF (fun k => l.all fun m => yesQ m k) 0 ks, 0, 0)) rfl ?_ ?_).trans ?_
  · rintro s rfl
    exact two
  · rintro p m q s k hp rfl hk
    have hpl : p.length + q.length + 1 = l.length := by have := congrArg List.length hp; simp at this; omega
    obtain ⟨a, ha⟩ := compile_eq m.Glob
    rw [bndS, ha, bndS, jn_eq, firstE]
    by_cases he : (cmpE m.Glob).1 = 0
    · rw [if_pos he]
      have fin : ∀ b : Bool, (b = true ↔ (m.Key ≠ [] ∧ nameB m.Key = false)) → (fun y64 => jn (fun y67 => if y67 ≠ 0 then some (([] : List Int), (p.length : Int), y67) else (some (⟨m.Glob, (cmpE m.Glob).2⟩ : T_glob_Glob)).bind fun z72 => (appL (p.map glb) [z72]).bind fun z74 => k z74) fun j4 => if y64 = true then j4 3 else j4 0) b = (match (if errQ m ≠ 0 then some ((p.length : Int), errQ m) else firstE (p.length + 1) q) with | some x => some (([] : List Int), x.1, x.2) | none => some (rowF (fun k => l.all fun m => yesQ m k) 0 ks, 0, 0)) := by
        intro b hb
        dsimp only
        rw [jn_eq]
        have eE : errQ m = if b = true then 3 else 0 := by
          unfold errQ
          rw [if_neg (fun h => h he)]
          by_cases hh : m.Key ≠ [] ∧ nameB m.Key = false
          · rw [if_pos hh, if_pos (hb.2 hh)]
          · rw [if_neg hh, if_neg (fun h => hh (hb.1 h))]
        cases b with
        | true =>
          rw [if_pos rfl] at eE
          rw [if_pos rfl, eE]
          rfl
        | false =>
          rw [if_neg (by decide)] at eE
          rw [if_neg (by decide), eE]
          dsimp only
          rw [if_neg (by decide), if_neg (by decide), bndS, app_some (by simp; omega), bndS]
          refine (hk _ ?_).trans ?_
          · rw [List.map_append]; rfl
          · simp
      by_cases hk2 : m.Key ≠ []
      · rw [if_pos ⟨rfl, hk2⟩, check_eq, bndS, check_nil]
        refine fin _ ?_
        rw [decide_eq_true_iff]
        cases nameB m.Key <;> simp [hk2]
      · rw [if_neg (fun h => hk2 h.2)]
        refine fin false ?_
        simp at hk2
        simp [hk2]
    · rw [if_neg he]
      dsimp only
      have eE : errQ m = (cmpE m.Glob).1 := by unfold errQ; rw [if_pos he]
      rw [if_neg (fun h => he h.1), jn_eq, if_neg (by decide), eE]
      dsimp only
      rw [if_pos he, if_pos he]
  · unfold selE
    show (match firstE 0 l with | some x => some (([] : List Int), x.1, x.2) | none => some (rowF (fun k => l.all fun m => yesQ m k) 0 ks, 0, 0)) = _
    cases firstE 0 l <;> rfl
/- WHAT IS FEW -/
def fewK (l : List Txt) (n : Int) : Bool := decide ((l.length : Int) ≤ n) && l.all fun k => decide (k.length ≤ 500)
theorem fewK_eq (l : List Txt) (n : Int) (hn : n ≤ 1000) : m_limnographref34_Few l n = some (fewK l n) := by
  unfold m_limnographref34_Few fewK
  by_cases h : (l.length : Int) > n
  · rw [if_pos h, decide_eq_false (by omega)]; rfl
  · rw [if_neg h, decide_eq_true (by omega), jn_eq, m_limnographref34_Few_L1_scan _ _ (by omega)]
    refine (scanL_all (fun k => decide (k.length ≤ 500)) (some false) fun i x k _ => ?_).trans ?_
    · rw [bndS]
      by_cases h5 : x.length ≤ 500
      · rw [if_neg (by omega), decide_eq_true h5, if_pos rfl]
      · rw [if_pos (by omega), decide_eq_false h5, if_neg (by decide)]
    · cases l.all fun k => decide (k.length ≤ 500) <;> rfl
def fewM (l : List Mt) : Bool := decide (l.length ≤ 20) && l.all fun m => decide (m.Glob.length ≤ 70) && decide (m.Key.length ≤ 100)
theorem fewM_eq (l : List Mt) : m_limnographref35_Few l = some (fewM l) := by
  unfold m_limnographref35_Few fewM
  by_cases h : (l.length : Int) > 20
  · rw [if_pos h, decide_eq_false (by omega)]; rfl
  · rw [if_neg h, decide_eq_true (by omega), jn_eq, m_limnographref35_Few_L1_scan _ _ (by omega)]
    refine (scanL_all (fun m : Mt => decide (m.Glob.length ≤ 70) && decide (m.Key.length ≤ 100)) (some false) fun i x k _ => ?_).trans ?_
    · rw [bndS, jn_eq, bndS]
      by_cases h7 : x.Glob.length ≤ 70
      · rw [if_neg (by omega), decide_eq_true h7]
        by_cases h8 : x.Key.length ≤ 100
        · rw [decide_eq_false (by omega), decide_eq_true h8]; rfl
        · rw [decide_eq_true (by omega), decide_eq_false h8]; rfl
      · rw [if_pos (by omega), decide_eq_false h7]; rfl
    · cases l.all fun m => decide (m.Glob.length ≤ 70) && decide (m.Key.length ≤ 100) <;> rfl
theorem same_refl (l : List Int) (h : l.length ≤ 1000000) : m_limnographref35_Same l l = some true := by
  unfold m_limnographref35_Same
  rw [if_neg (by simp), jn_eq, m_limnographref35_Same_L1_scan _ _ _ (by omega)]
  refine (scanL_pre (fun _ _ _ => some true) (fun _ => rfl) ?_)
  intro p x q s k hp hk
  have hi : idx l (p.length : Int) = some x := by rw [← hp]; exact idx_mid p x q
  rw [bndS, hi, bndS, if_neg (fun h => h rfl)]
  exact hk ()
end Go.Proofs.YtpcpfjpcfcbopaaDoor
