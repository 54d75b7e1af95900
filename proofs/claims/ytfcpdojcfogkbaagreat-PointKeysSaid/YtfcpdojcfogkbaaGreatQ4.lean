/-
  What is parsed; plain Lean.
-/
import Derived.Test.YtfcpdojcfogkbaaGreatQ3
set_option linter.unusedVariables false
set_option linter.unusedSimpArgs false
namespace Go.Proofs.YtfcpdojcfogkbaaGreat
open Go Go.RowKit Go.Wk
def cut1 (c : UInt8) : Txt → Txt × Txt × Bool
  | [] => ([], [], false)
  | x :: s => if x = c then ([], s, true) else (x :: (cut1 c s).1, (cut1 c s).2)
theorem cut1_no {c : UInt8} : ∀ {s : Txt}, (cut1 c s).2.2 = false → cut1 c s = (s, [], false)
  | [], _ => rfl
  | x :: s, h => by
    unfold cut1 at h ⊢
    split at h
    · cases h
    · rename_i hx; rw [if_neg hx, cut1_no h]
theorem cut1_yes {c : UInt8} : ∀ {s : Txt}, (cut1 c s).2.2 = true → s = (cut1 c s).1 ++ c :: (cut1 c s).2.1
  | [], h => by cases h
  | x :: s, h => by
    unfold cut1 at h ⊢
    split at h
    · rename_i hx; rw [if_pos hx, hx]; rfl
    · rename_i hx; rw [if_neg hx]; have := cut1_yes h; show x :: s = x :: ((cut1 c s).1 ++ c :: (cut1 c s).2.1); rw [← this]
theorem cut1_len {c : UInt8} : ∀ {s : Txt}, (cut1 c s).1.length + (cut1 c s).2.1.length ≤ s.length
  | [] => by simp [cut1]
  | x :: s => by
    unfold cut1
    split
    · simp
    · have := cut1_len (c := c) (s := s); simp; omega
theorem indexByte_cut (c : UInt8) : ∀ s : Txt, Lib.indexByte s c = if (cut1 c s).2.2 = true then ((cut1 c s).1.length : Int) else -1
  | [] => rfl
  | x :: s => by
    unfold Lib.indexByte cut1
    by_cases hx : x = c
    · simp [hx]
    · rw [indexByte_cut c s]
      simp only [hx, beq_iff_eq, if_false]
      split
      · rw [if_neg (by omega), List.length_cons]; simp
      · simp
theorem strCut_eq (s : Txt) (c : UInt8) (h : s.length < 4611686018427387904) : m_strings_Cut s [c] = some (cut1 c s) := by
  have key : m_internal_stringslite_Index s [c] = some (if (cut1 c s).2.2 = true then ((cut1 c s).1.length : Int) else -1) := by
    unfold m_internal_stringslite_Index
    by_cases hs : [c] = s
    · rw [if_pos (.inr hs), ← hs]; simp [cut1]
    · rw [if_neg (by simp [hs]), if_pos (show (([c] : Txt).length : Int) = 1 from rfl), idx0, bndS, m_internal_stringslite_IndexByte, bndS, indexByte_cut]
  unfold m_strings_Cut m_internal_stringslite_Cut
  rw [key, bndS]
  by_cases hf : (cut1 c s).2.2 = true
  · have h1 := cut1_yes hf
    have hl := congrArg List.length h1
    simp at hl
    have c1 : cutL s 0 ((cut1 c s).1.length : Int) = some (cut1 c s).1 := by
      conv => lhs; arg 1; rw [h1]
      exact cut_mid _ _
    have c2 : cutL s (((cut1 c s).1.length : Int) + 1) (s.length : Nat) = some (cut1 c s).2.1 := by
      have := cut_end ((cut1 c s).1 ++ [c]) (cut1 c s).2.1
      rw [List.append_assoc, List.singleton_append, ← h1] at this
      simpa using this
    rw [if_pos hf, if_pos (by omega), c1, bndS]
    show ((cutL s (W64 (((cut1 c s).1.length : Int) + 1)) (s.length : Nat)).bind _).bind _ = _
    rw [W64_id (by omega) (by omega), c2, bndS, bndS]
    simp [← hf]
  · have h1 := cut1_no (by simpa using hf : (cut1 c s).2.2 = false)
    rw [if_neg hf, if_neg (by omega), bndS, h1]
def pairOf (s : Txt) : Option Pr := if ((cut1 61 s).2.2 && nameB (cut1 61 s).1 && valB (cut1 61 s).2.1) = true then some ⟨(cut1 61 s).1, (cut1 61 s).2.1⟩ else none
theorem pair_eq (s : Txt) (h : s.length < 4611686018427387904) : m_label_pair s = some (match pairOf s with | some a => (a, 0) | none => (⟨[], []⟩, 3)) := by
  unfold m_label_pair pairOf
  rw [strCut_eq s _ h, bndS]
  simp only [jn_eq, isName_eq, isValue_eq, bndS]
  cases (cut1 61 s).2.2 <;> cases nameB (cut1 61 s).1 <;> cases valB (cut1 61 s).2.1 <;> simp
def foll (l : List Pr) (key : Txt) : Int := if l.any (fun b => decide (b.Key = key)) = true then 8 else match l.getLast? with | some b => if Op.bytesLess key b.Key = true then 9 else 0 | none => 0
theorem follows_eq (l : List Pr) (key : Txt) (h0 : l ≠ []) (h : l.length < 4611686018427387904) : m_label_follows l key = some (foll l key) := by
  unfold m_label_follows foll
  rw [jn_eq, m_label_follows_L1_scan _ _ _ h, scanL_all (fun b => !decide (b.Key = key)) (some 8)]
  · obtain ⟨b, hb⟩ : ∃ b, l.getLast? = some b := ⟨_, List.getLast?_eq_some_getLast h0⟩
    have hp := List.length_pos_iff.2 h0
    have hi : idx l (W64 ((l.length : Int) - 1)) = some b := by
      rw [W64_id (by omega) (by omega), show (l.length : Int) - 1 = ((l.length - 1 : Nat) : Int) by omega, idx_nat, ← List.getLast?_eq_getElem?]; exact hb
    rw [hi, bndS, hb]
    by_cases ha : l.any (fun b => decide (b.Key = key)) = true
    · rw [if_pos ha, if_neg]
      simp at ha ⊢; exact ha
    · rw [if_neg ha, if_pos]
      · show (if _ then _ else _) = some (if _ then _ else _)
        split <;> rfl
      · simp at ha ⊢; exact ha
  · intro i x k _
    rw [bndS]
    by_cases hx : x.Key = key <;> simp [hx]
def spl : Txt → Txt × List Txt
  | [] => ([], [])
  | x :: s => if x = 59 then ([], (spl s).1 :: (spl s).2) else (x :: (spl s).1, (spl s).2)
def partsOf (more : Bool) (rest : Txt) : List Txt := if more = true then (spl rest).1 :: (spl rest).2 else []
theorem spl_cut : ∀ s, (cut1 59 s).1 = (spl s).1 ∧ partsOf (cut1 59 s).2.2 (cut1 59 s).2.1 = (spl s).2
  | [] => ⟨rfl, rfl⟩
  | x :: s => by
    unfold cut1 spl
    by_cases hx : x = 59
    · rw [if_pos hx, if_pos hx]; exact ⟨rfl, rfl⟩
    · rw [if_neg hx, if_neg hx]; have := spl_cut s; exact ⟨by simp [this.1], this.2⟩
theorem spl_join : ∀ s, s = (spl s).1 ++ (spl s).2.flatMap (fun p => 59 :: p)
  | [] => rfl
  | x :: s => by
    unfold spl
    by_cases hx : x = 59
    · rw [if_pos hx]; show x :: s = [] ++ (59 :: (spl s).1 ++ (spl s).2.flatMap (fun p => 59 :: p)); rw [hx, List.nil_append, List.cons_append, ← spl_join s]
    · rw [if_neg hx]; show x :: s = x :: ((spl s).1 ++ _); rw [← spl_join s]
abbrev Res := Txt × List Pr × Int × Int
def pgo (name : Txt) : List Pr → Int → List Txt → Res
  | l, _, [] => (name, l, 0, 0)
  | l, at_, p :: ps =>
    if l.length = 4 then ([], [], at_, 4) else
    match pairOf p with
    | none => ([], [], at_, 3)
    | some a => if foll l a.Key = 0 then pgo name (l ++ [a]) (at_ + p.length + 1) ps else ([], [], at_, foll l a.Key)
def parse (s : Txt) : Res := if nameB (spl s).1 = true then pgo (spl s).1 [] ((spl s).1.length + 1) (spl s).2 else ([], [], 0, 3)
theorem parseL (name : Txt) (j : List Pr → Option Res) (hj : ∀ l, j l = some (name, l, 0, 0)) : ∀ (n : Nat) (l : List Pr) (at_ : Int) (rest : Txt) (more : Bool), (if more = true then 1 + rest.length else 0) < n → l.length ≤ 4 → 0 ≤ at_ → at_ + rest.length ≤ 1000000 →
    m_label_Parse_L1 j n l at_ rest more = some (pgo name l at_ (partsOf more rest)) := by
  intro n
  induction n with
  | zero => intro l at_ rest more h; omega
  | succ n ih =>
    intro l at_ rest more h hl h0 h1
    rw [m_label_Parse_L1]
    cases more with
    | false => rw [if_neg (by simp), hj]; rfl
    | true =>
      rw [if_pos rfl] at h ⊢
      obtain ⟨e1, e2⟩ := spl_cut rest
      have hcl := cut1_len (c := 59) (s := rest)
      have hpo : partsOf true rest = (cut1 59 rest).1 :: partsOf (cut1 59 rest).2.2 (cut1 59 rest).2.1 := by rw [e1, e2]; rfl
      rw [strCut_eq rest _ (by omega), bndS, pair_eq _ (by omega), bndS, hpo, pgo]
      simp only [jn_eq]
      have hmore : (if (cut1 59 rest).2.2 = true then 1 + (cut1 59 rest).2.1.length else 0) < n ∧ ((cut1 59 rest).2.2 = true → (cut1 59 rest).1.length + (cut1 59 rest).2.1.length + 1 = rest.length) := by
        by_cases hm : (cut1 59 rest).2.2 = true
        · have hc := congrArg List.length (cut1_yes hm)
          simp at hc
          rw [if_pos hm]; omega
        · rw [if_neg hm]; exact ⟨by omega, fun h => absurd h hm⟩
      generalize (cut1 59 rest).1 = pt at *
      generalize (cut1 59 rest).2.1 = rst at *
      generalize (cut1 59 rest).2.2 = mr at *
      by_cases h4 : l.length = 4
      · rw [if_pos (by omega), if_pos h4, if_neg (by simp), if_pos (by simp)]
      · rw [if_neg (by omega), if_neg h4]
        cases hp : pairOf pt with
        | none => simp
        | some a =>
          have hnext : m_label_Parse_L1 j n (l ++ [a]) (W64 (at_ + W64 ((pt.length : Int) + 1))) rst mr = some (pgo name (l ++ [a]) (at_ + pt.length + 1) (partsOf mr rst)) := by
            rw [W64_id (z := (pt.length : Int) + 1) (by omega) (by omega), W64_id (by omega) (by omega), ← Int.add_assoc]
            cases mr with
            | false =>
              obtain ⟨m, rfl⟩ : ∃ m, n = m + 1 := ⟨n - 1, by omega⟩
              rw [m_label_Parse_L1, if_neg (by simp), hj]; rfl
            | true => exact ih _ _ _ _ hmore.1 (by simp; omega) (by omega) (by have := hmore.2 rfl; omega)
          have hap : appL l [(⟨a.Key, a.Val⟩ : Pr)] = some (l ++ [a]) := app_some (by simp; omega)
          dsimp only
          by_cases hl0 : l = []
          · subst hl0
            rw [if_neg (by simp), if_neg (by simp), hap, bndS, hnext, if_pos (show foll [] a.Key = 0 from rfl)]
          · have := List.length_pos_iff.2 hl0
            rw [if_pos ⟨rfl, by omega⟩, follows_eq l a.Key hl0 (by omega), bndS]
            by_cases hf : foll l a.Key = 0
            · rw [if_neg (by omega), hap, bndS, hnext, if_pos hf]
            · rw [if_pos hf, if_neg hf]
theorem spl_len (s : Txt) : (spl s).1.length ≤ s.length := by have := congrArg List.length (spl_join s); simp at this; omega
theorem parse_eq (s : Txt) (h : s.length ≤ 100000) : m_label_Parse s = some (parse s) := by
  unfold m_label_Parse parse
  obtain ⟨e1, e2⟩ := spl_cut s
  have hcl := cut1_len (c := 59) (s := s)
  rw [strCut_eq s _ (by omega), bndS, isName_eq, bndS, e1]
  have hsl := spl_len s
  by_cases hn : nameB (spl s).1 = true
  · rw [hn, if_neg (by simp), if_pos rfl, jn_eq, ← e2]
    rw [W64_id (by omega) (by omega)]
    exact parseL _ _ (fun l => rfl) _ _ _ _ _ (by unfold fuel; split <;> omega) (by simp) (by omega) (by rw [← e1]; omega)
  · simp at hn
    rw [hn]; rfl
end Go.Proofs.YtfcpdojcfogkbaaGreat
