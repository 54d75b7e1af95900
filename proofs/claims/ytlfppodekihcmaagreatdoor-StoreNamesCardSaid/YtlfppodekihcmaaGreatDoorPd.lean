/-
  The program's disk: what its calls do, on lists; and how it lies in memory. Plain Lean.
-/
import Derived.Test.YtlfppodekihcmaaGreatDoorPc
import Derived.Test.YtlfppodekihcmaaGreatDoorWi
set_option linter.unusedVariables false
set_option linter.unusedSimpArgs false
namespace Go.Wk
open Go Go.RowKit
structure PF where
  data : List UInt8
  sure : Nat
abbrev Fl := List (List UInt8 × PF)
def putF (key : List UInt8) (f : PF) : Fl → Fl
  | [] => [(key, f)]
  | p :: r => if p.1 = key then (key, f) :: r else p :: putF key f r
def delF (key : List UInt8) : Fl → Fl
  | [] => []
  | p :: r => if p.1 = key then r else p :: delF key r
def findF (key : List UInt8) (l : Fl) : Option PF := (l.find? fun p => decide (p.1 = key)).map (·.2)
structure PD where
  files : Fl
  cap : Nat
  down : Bool
  calls : Nat
  fc : Int
  fe : Int
  cc : Int
  ce : Int
def PD.used (s : PD) : Nat := (s.files.map fun p => p.2.data.length).sum
def PD.begin (s : PD) : PD × Int :=
  if s.down = true then (s, 13) else
  if (s.calls : Int) + 1 = s.cc then ({ s with calls := s.calls + 1, down := true }, 13)
  else if (s.calls : Int) + 1 = s.fc then ({ s with calls := s.calls + 1 }, s.fe) else ({ s with calls := s.calls + 1 }, 0)
def okC (c : UInt8) : Prop := (97 ≤ c.toNat ∧ c.toNat ≤ 122) ∨ (48 ≤ c.toNat ∧ c.toNat ≤ 57) ∨ c.toNat = 46 ∨ c.toNat = 45
instance (c : UInt8) : Decidable (okC c) := by unfold okC; infer_instance
def isNm (s : List UInt8) : Bool := !s.isEmpty && decide (s.length ≤ 32) && s.all fun c => decide (okC c)
theorem isNm_bad (l : List UInt8) (i : Nat) (z : UInt8) (hz : l[i]? = some z) (h : ¬ okC z) : isNm l = false := by
  have hm : z ∈ l := List.mem_of_getElem? hz
  cases hb : isNm l with
  | false => rfl
  | true =>
    simp only [isNm, Bool.and_eq_true, List.all_eq_true, decide_eq_true_eq] at hb
    exact absurd (hb.2 z hm) h
theorem isNm_good (l : List UInt8) (h0 : l ≠ []) (h1 : l.length ≤ 32) (h : ∀ c ∈ l, okC c) : isNm l = true := by
  simp only [isNm, Bool.and_eq_true, List.all_eq_true, decide_eq_true_eq]
  exact ⟨⟨by cases l with | nil => exact absurd rfl h0 | cons a r => rfl, h1⟩, h⟩
theorem isNm_len (l : List UInt8) (h : l = [] ∨ 32 < l.length) : isNm l = false := by
  rcases h with rfl | h
  · rfl
  · simp [isNm]; intro _ hh; omega
theorem okC_take {l : List UInt8} {i : Nat} {z : UInt8} (hz : l[i]? = some z) (h : ∀ c ∈ l.take i, okC c) (ho : okC z) : ∀ c ∈ l.take (i + 1), okC c := by
  intro c hc
  rw [List.take_add_one, hz] at hc
  rcases List.mem_append.1 hc with hc | hc
  · exact h c hc
  · simp at hc; rw [hc]; exact ho
def PD.create (s : PD) (name : List UInt8) : PD × Int :=
  if s.begin.2 ≠ 0 then s.begin else if isNm name = false then (s.begin.1, 3) else if (findF name s.files).isSome then (s.begin.1, 8)
  else if s.files.length = 4096 then (s.begin.1, 6) else ({ s.begin.1 with files := putF name ⟨[], 0⟩ s.files }, 0)
def PD.append (s : PD) (name b : List UInt8) : PD × Int :=
  if s.begin.2 ≠ 0 then s.begin else match findF name s.files with
  | none => (s.begin.1, 7)
  | some f => if (b.length : Int) > s.cap - s.begin.1.used then (s.begin.1, 12) else ({ s.begin.1 with files := putF name ⟨f.data ++ b, f.sure⟩ s.files }, 0)
def PD.sync (s : PD) (name : List UInt8) : PD × Int :=
  if s.begin.2 ≠ 0 then s.begin else match findF name s.files with
  | none => (s.begin.1, 7)
  | some f => ({ s.begin.1 with files := putF name ⟨f.data, f.data.length⟩ s.files }, 0)
def PD.rename (s : PD) (a b : List UInt8) : PD × Int :=
  if s.begin.2 ≠ 0 then s.begin else if isNm b = false then (s.begin.1, 3) else match findF a s.files with
  | none => (s.begin.1, 7)
  | some f => ({ s.begin.1 with files := putF b f (delF a s.files) }, 0)
def PD.remove (s : PD) (name : List UInt8) : PD × Int :=
  if s.begin.2 ≠ 0 then s.begin else match findF name s.files with
  | none => (s.begin.1, 7)
  | some _ => ({ s.begin.1 with files := delF name s.files }, 0)

/-- A call that is to come. -/
def armP (calls after e : Int) : Int × Int := if after < 0 ∨ e = 0 ∨ 4611686018427387904 ≤ after then (0, 0) else (calls + 1 + after, e)
def PD.fail (s : PD) (after e : Int) : PD := { s with fc := (armP s.calls after e).1, fe := (armP s.calls after e).2 }
def PD.crash (s : PD) (after : Int) : PD := { s with cc := (armP s.calls after 13).1, ce := (armP s.calls after 13).2 }
def PD.cut (s : PD) (name : List UInt8) (n : Int) : PD × Int :=
  if s.begin.2 ≠ 0 then s.begin else match findF name s.files with
  | none => (s.begin.1, 7)
  | some f => if n < 0 ∨ n > f.data.length then (s.begin.1, 1) else ({ s.begin.1 with files := putF name ⟨f.data.take n.toNat, min f.sure n.toNat⟩ s.files }, 0)
def keepN (f : PF) (k : Option Int) : Nat := f.sure + match k with | none => 0 | some z => (min (max z 0) ((f.data.length : Int) - f.sure)).toNat
def bootF (keep : List Int) : Nat → List (List UInt8) → Fl → Fl
  | _, [], l => l
  | i, name :: r, l => bootF keep (i + 1) r (match findF name l with | none => l | some f => putF name ⟨f.data.take (keepN f keep[i]?), keepN f keep[i]?⟩ l)
def leN : List UInt8 → List UInt8 → Bool := fun x y => decide (x ≤ y)
def PD.names (s : PD) : List (List UInt8) := if s.down = true then [] else (s.files.map (·.1)).mergeSort leN
def PD.up (s : PD) : PD := { s with down := false, fc := 0, fe := 0, cc := 0, ce := 0 }
def PD.boot (s : PD) (keep : List Int) : PD × Int := if s.down = true then ({ s.up with files := bootF keep 0 s.up.names s.files }, 0) else (s, 16)
theorem putF_keys (key : List UInt8) (f : PF) : ∀ (l : Fl), (findF key l).isSome = true → (putF key f l).map (·.1) = l.map (·.1)
  | [], h => by simp [findF] at h
  | p :: r, h => by
    by_cases hk : p.1 = key
    · simp [putF, hk]
    · have : findF key (p :: r) = findF key r := by simp [findF, hk]
      rw [this] at h
      simp only [putF, if_neg hk, List.map_cons, putF_keys key f r h]
theorem putF_mem {key : List UInt8} {f : PF} : ∀ {l : Fl} {p : List UInt8 × PF}, p ∈ putF key f l → p = (key, f) ∨ p ∈ l
  | [], p, h => by simp [putF] at h; exact .inl h
  | q :: r, p, h => by
    by_cases hk : q.1 = key
    · simp only [putF, if_pos hk] at h
      rcases List.mem_cons.1 h with h | h
      · exact .inl h
      · exact .inr (List.mem_cons_of_mem _ h)
    · simp only [putF, if_neg hk] at h
      rcases List.mem_cons.1 h with h | h
      · exact .inr (by rw [h]; exact List.mem_cons_self)
      · exact (putF_mem h).imp id fun h => List.mem_cons_of_mem _ h
theorem findF_mem {key : List UInt8} {f : PF} {l : Fl} (h : findF key l = some f) : (key, f) ∈ l := by
  unfold findF at h
  obtain ⟨p, h1, rfl⟩ := Option.map_eq_some_iff.1 h
  have h2 := List.find?_some h1
  have h3 := List.mem_of_find?_eq_some h1
  have : p.1 = key := by simpa using h2
  subst this; exact h3
theorem findF_none {key : List UInt8} {l : Fl} (h : findF key l = none) : key ∉ l.map (·.1) := by
  unfold findF at h
  rw [Option.map_eq_none_iff, List.find?_eq_none] at h
  intro hm
  obtain ⟨p, hp, rfl⟩ := List.mem_map.1 hm
  have := h p hp
  simp at this
theorem bootF_keys (keep : List Int) : ∀ (ns : List (List UInt8)) (i : Nat) (l : Fl), (bootF keep i ns l).map (·.1) = l.map (·.1)
  | [], _, _ => rfl
  | n :: r, i, l => by
    rw [bootF, bootF_keys keep r]
    split
    · rfl
    · rename_i f hf; exact putF_keys _ _ _ (by rw [hf]; rfl)
theorem keepN_some {f : PF} (h : f.sure ≤ f.data.length) (z : Int) : ((keepN f (some z) : Nat) : Int) = f.sure + min (max z 0) ((f.data.length : Int) - f.sure) := by
  show ((f.sure + (min (max z 0) ((f.data.length : Int) - f.sure)).toNat : Nat) : Int) = _
  omega
theorem keepN_none (f : PF) : keepN f none = f.sure := rfl
theorem keepN_le {f : PF} (h : f.sure ≤ f.data.length) (k : Option Int) : keepN f k ≤ f.data.length := by
  unfold keepN
  cases k with
  | none => simpa using h
  | some z => dsimp only; omega
theorem bootF_sure' (keep : List Int) : ∀ (ns : List (List UInt8)) (i : Nat) (l : Fl), (∀ p ∈ l, p.2.sure ≤ p.2.data.length) → ∀ p ∈ bootF keep i ns l, p.2.sure ≤ p.2.data.length
  | [], _, _, h => h
  | n :: r, i, l, h => by
    rw [bootF]
    refine bootF_sure' keep r _ _ fun p hp => ?_
    split at hp
    · exact h p hp
    · rename_i f hf
      rcases putF_mem hp with rfl | hp
      · have := keepN_le (h _ (findF_mem hf)) keep[i]?
        dsimp only at this ⊢
        rw [List.length_take]; omega
      · exact h p hp
theorem bootF_sure {keep : List Int} {ns : List (List UInt8)} {i : Nat} {l : Fl} {key : List UInt8} {f : PF} (h : ∀ p ∈ l, p.2.sure ≤ p.2.data.length) (hf : findF key (bootF keep i ns l) = some f) : f.sure ≤ f.data.length ∧ ∀ k, keepN f k ≤ f.data.length :=
  have h1 := bootF_sure' keep ns i l h _ (findF_mem hf)
  ⟨h1, keepN_le h1⟩
theorem bootF_find {keep : List Int} {ns : List (List UInt8)} {i : Nat} {l : Fl} {key : List UInt8} (h : key ∈ l.map (·.1)) : findF key (bootF keep i ns l) ≠ none := fun hn => findF_none hn (by rw [bootF_keys]; exact h)
theorem bootF_snoc (keep : List Int) : ∀ (ns : List (List UInt8)) (i : Nat) (l : Fl) (x : List UInt8), bootF keep i (ns ++ [x]) l =
    (match findF x (bootF keep i ns l) with | none => bootF keep i ns l | some f => putF x ⟨f.data.take (keepN f keep[i + ns.length]?), keepN f keep[i + ns.length]?⟩ (bootF keep i ns l))
  | [], i, l, x => rfl
  | n :: r, i, l, x => by
    rw [List.cons_append, bootF, bootF, bootF_snoc keep r]
    have : i + 1 + r.length = i + (n :: r).length := by rw [List.length_cons]; omega
    rw [this]
theorem bootF_take {keep : List Int} {ns : List (List UInt8)} {l : Fl} {j : Nat} {x : List UInt8} (h : ns[j]? = some x) : bootF keep 0 (ns.take (j + 1)) l =
    (match findF x (bootF keep 0 (ns.take j) l) with | none => bootF keep 0 (ns.take j) l | some f => putF x ⟨f.data.take (keepN f keep[j]?), keepN f keep[j]?⟩ (bootF keep 0 (ns.take j) l)) := by
  obtain ⟨hj, _⟩ := List.getElem?_eq_some_iff.1 h
  have hl : (ns.take j).length = j := by rw [List.length_take]; omega
  rw [List.take_add_one, h]
  show bootF keep 0 (ns.take j ++ [x]) l = _
  rw [bootF_snoc, hl, Nat.zero_add]
/- how it lies -/
def obL (A : Option Addr) : List Nat := match A with | none => [] | some a => [a.block]
theorem mem_obL {A : Option Addr} {x : Nat} : x ∈ obL A ↔ ob A x := by
  cases A with
  | none => simp [obL, ob]
  | some a => simp [obL, ob]; exact eq_comm
section
variable (tf tb : TypeId)
def FileAt (w : World) (v : Value) (f : PF) (bs : List Nat) : Prop := ∃ fb A c, v = .pointer (some ⟨fb, 0, none⟩) ∧ Blk w fb tf [.slice A f.data.length c, .int .i64 f.sure] ∧ Own 0 No w tb A c byteR f.data ∧ bs = fb :: obL A
def FilesAt (w : World) : Ms → Fl → List (List Nat) → Prop
  | [], [], [] => True
  | m :: ms, f :: fs, b :: bs => m.1 = f.1 ∧ FileAt tf tb w m.2.1 f.2 b ∧ FilesAt w ms fs bs
  | _, _, _ => False
variable {tf tb}
theorem FileAt.fr {S : Nat → Prop} {w w' : World} {v : Value} {f : PF} {bs : List Nat} (h : FileAt tf tb w v f bs) (hf : Fr S w w') (hn : ∀ x ∈ bs, ¬ S x) : FileAt tf tb w' v f bs := by
  obtain ⟨fb, A, c, h1, h2, h3, rfl⟩ := h
  exact ⟨fb, A, c, h1, h2.fr hf (hn fb (by simp)), h3.fr hf (fun _ hh => hh.elim) (fun x hx => hn x (List.mem_cons_of_mem _ (mem_obL.2 hx))), rfl⟩
theorem FilesAt.fr {S : Nat → Prop} {w w' : World} (hf : Fr S w w') : ∀ {ms : Ms} {fs : Fl} {bss : List (List Nat)}, FilesAt tf tb w ms fs bss → (∀ x ∈ bss.flatten, ¬ S x) → FilesAt tf tb w' ms fs bss
  | [], [], [], _, _ => trivial
  | _ :: _, _ :: _, _ :: _, ⟨h1, h2, h3⟩, hn => ⟨h1, h2.fr hf fun x hx => hn x (by simp [hx]), FilesAt.fr hf h3 fun x hx => hn x (by rw [List.flatten_cons]; exact List.mem_append_right _ hx)⟩
  | _ :: _, [], _, h, _ | _ :: _, _ :: _, [], h, _ | [], _ :: _, _, h, _ | [], [], _ :: _, h, _ => by simp [FilesAt] at h
theorem FilesAt.join {w : World} : ∀ {ms ms' : Ms} {fs fs' : Fl} {bss bss' : List (List Nat)}, FilesAt tf tb w ms fs bss → FilesAt tf tb w ms' fs' bss' → FilesAt tf tb w (ms ++ ms') (fs ++ fs') (bss ++ bss')
  | [], _, [], _, [], _, _, h => h
  | _ :: _, _, _ :: _, _, _ :: _, _, ⟨h1, h2, h3⟩, h => ⟨h1, h2, h3.join h⟩
  | _ :: _, _, [], _, _, _, h, _ | _ :: _, _, _ :: _, _, [], _, h, _ | [], _, _ :: _, _, _, _, h, _ | [], _, [], _, _ :: _, _, h, _ => by simp [FilesAt] at h
theorem FilesAt.names {w : World} : ∀ {ms : Ms} {fs : Fl} {bss : List (List Nat)}, FilesAt tf tb w ms fs bss → ms.map (·.1) = fs.map (·.1)
  | [], [], [], _ => rfl
  | _ :: _, _ :: _, _ :: _, ⟨h1, _, h3⟩ => by simp [h1, h3.names]
  | _ :: _, [], _, h | _ :: _, _ :: _, [], h | [], _ :: _, _, h | [], [], _ :: _, h => by simp [FilesAt] at h
theorem FilesAt.length {w : World} {ms : Ms} {fs : Fl} {bss : List (List Nat)} (h : FilesAt tf tb w ms fs bss) : ms.length = fs.length := by simpa using congrArg List.length h.names
theorem FilesAt.lookNone {w : World} {key : List UInt8} : ∀ {ms : Ms} {fs : Fl} {bss : List (List Nat)}, FilesAt tf tb w ms fs bss → lookM ms key = none → findF key fs = none ∧ (∀ p ∈ ms, p.1 ≠ key)
  | [], [], [], _, _ => ⟨rfl, by simp⟩
  | m :: ms, f :: fs, b :: bs, ⟨h1, h2, h3⟩, h => by
    by_cases hk : m.1 = key
    · simp [lookM, hk] at h
    · have hl : lookM ms key = none := by simpa [lookM, hk] using h
      obtain ⟨h4, h5⟩ := h3.lookNone hl
      refine ⟨by simpa [findF, ← h1, hk] using h4, fun p hp => ?_⟩
      rcases List.mem_cons.1 hp with rfl | hp
      · exact hk
      · exact h5 p hp
  | _ :: _, [], _, h, _ | _ :: _, _ :: _, [], h, _ | [], _ :: _, _, h, _ | [], [], _ :: _, h, _ => by simp [FilesAt] at h
theorem FilesAt.lookSome {w : World} {key : List UInt8} {v : Value} : ∀ {ms : Ms} {fs : Fl} {bss : List (List Nat)}, FilesAt tf tb w ms fs bss → lookM ms key = some v →
    ∃ m1 born m2 f f1 f2 bs b1 b2, ms = m1 ++ (key, v, born) :: m2 ∧ fs = f1 ++ (key, f) :: f2 ∧ bss = b1 ++ bs :: b2 ∧ FilesAt tf tb w m1 f1 b1 ∧ FileAt tf tb w v f bs ∧ FilesAt tf tb w m2 f2 b2 ∧ (∀ p ∈ m1, p.1 ≠ key) ∧ (∀ p ∈ f1, p.1 ≠ key)
  | [], [], [], _, h => by simp [lookM] at h
  | m :: ms, f :: fs, b :: bs, ⟨h1, h2, h3⟩, h => by
    by_cases hk : m.1 = key
    · have hv : m.2.1 = v := by simpa [lookM, hk] using h
      subst hv
      exact ⟨[], m.2.2, ms, f.2, [], fs, b, [], bs, by simp [← hk], by simp [← hk, h1], rfl, trivial, h2, h3, by simp, by simp⟩
    · have hl : lookM ms key = some v := by simpa [lookM, hk] using h
      obtain ⟨m1, born, m2, f', f1, f2, bs', b1, b2, rfl, rfl, rfl, h4, h5, h6, h7, h8⟩ := h3.lookSome hl
      refine ⟨m :: m1, born, m2, f', f :: f1, f2, bs', b :: b1, b2, rfl, rfl, rfl, ⟨h1, h2, h4⟩, h5, h6, fun p hp => ?_, fun p hp => ?_⟩
      · rcases List.mem_cons.1 hp with rfl | hp
        · exact hk
        · exact h7 p hp
      · rcases List.mem_cons.1 hp with rfl | hp
        · rw [← h1]; exact hk
        · exact h8 p hp
  | _ :: _, [], _, h, _ | _ :: _, _ :: _, [], h, _ | [], _ :: _, _, h, _ | [], [], _ :: _, h, _ => by simp [FilesAt] at h
theorem putF_here (key : List UInt8) (f f' : PF) (f2 : Fl) : ∀ (f1 : Fl), (∀ p ∈ f1, p.1 ≠ key) → putF key f' (f1 ++ (key, f) :: f2) = f1 ++ (key, f') :: f2
  | [], _ => by simp [putF]
  | p :: r, h => by simp [putF, h p (by simp), putF_here key f f' f2 r fun q hq => h q (by simp [hq])]
theorem delF_here (key : List UInt8) (f : PF) (f2 : Fl) : ∀ (f1 : Fl), (∀ p ∈ f1, p.1 ≠ key) → delF key (f1 ++ (key, f) :: f2) = f1 ++ f2
  | [], _ => by simp [delF]
  | p :: r, h => by simp [delF, h p (by simp), delF_here key f f2 r fun q hq => h q (by simp [hq])]
theorem findF_here (key : List UInt8) (f : PF) (f2 : Fl) : ∀ (f1 : Fl), (∀ p ∈ f1, p.1 ≠ key) → findF key (f1 ++ (key, f) :: f2) = some f
  | [], _ => by simp [findF]
  | p :: r, h => by
    have := findF_here key f f2 r fun q hq => h q (by simp [hq])
    simpa [findF, h p (by simp)] using this
theorem putF_end (key : List UInt8) (f : PF) : ∀ (l : Fl), (∀ p ∈ l, p.1 ≠ key) → putF key f l = l ++ [(key, f)]
  | [], _ => rfl
  | p :: r, h => by simp [putF, h p (by simp), putF_end key f r fun q hq => h q (by simp [hq])]
theorem putM_here (key : List UInt8) (v v' : Value) (b c : Nat) (f2 : Ms) : ∀ (f1 : Ms), (∀ p ∈ f1, p.1 ≠ key) → putM key v' c (f1 ++ (key, v, b) :: f2) = f1 ++ (key, v', b) :: f2
  | [], _ => by simp [putM]
  | p :: r, h => by simp [putM, h p (by simp), putM_here key v v' b c f2 r fun q hq => h q (by simp [hq])]
theorem delM_here (key : List UInt8) (v : Value) (b : Nat) (f2 : Ms) : ∀ (f1 : Ms), (∀ p ∈ f1, p.1 ≠ key) → delM key (f1 ++ (key, v, b) :: f2) = f1 ++ f2
  | [], _ => by simp [delM]
  | p :: r, h => by simp [delM, h p (by simp), delM_here key v b f2 r fun q hq => h q (by simp [hq])]
theorem putM_end (key : List UInt8) (v : Value) (c : Nat) : ∀ (l : Ms), (∀ p ∈ l, p.1 ≠ key) → putM key v c l = l ++ [(key, v, c)]
  | [], _ => rfl
  | p :: r, h => by simp [putM, h p (by simp), putM_end key v c r fun q hq => h q (by simp [hq])]
end
/-- A disk lies there, all its parts told. -/
structure DkP (td tf tb : TypeId) (w : World) (b mb : Nat) (ms : Ms) (ck : Nat) (bss : List (List Nat)) (F : Nat → Prop) (s : PD) : Prop where
  blk : Blk w b td [.map (some mb), .int .i64 s.cap, .bool s.down, .int .i64 s.calls, .int .i64 s.fc, .int .i64 s.fe, .int .i64 s.cc, .int .i64 s.ce]
  map : Mp w mb ms ck
  files : FilesAt tf tb w ms s.files bss
  nd : (b :: mb :: bss.flatten).Nodup
  born : ∀ p ∈ ms, p.2.2 < ck
  bnd : (ms.map (·.2.2)).Nodup
  keys : (ms.map (·.1)).Nodup
  sub : ∀ x ∈ b :: mb :: bss.flatten, F x
  lt : ∀ x, F x → x < w.heap.size
def DkAt (td tf tb : TypeId) (w : World) (b : Nat) (F : Nat → Prop) (s : PD) : Prop := ∃ mb ms ck bss, DkP td tf tb w b mb ms ck bss F s
section
variable {td tf tb : TypeId} {w w' : World} {b mb : Nat} {ms : Ms} {ck : Nat} {bss : List (List Nat)} {F : Nat → Prop} {s : PD}
theorem DkP.ne (h : DkP td tf tb w b mb ms ck bss F s) : b ≠ mb ∧ b ∉ bss.flatten ∧ mb ∉ bss.flatten ∧ bss.flatten.Nodup := by
  have := h.nd
  simp only [List.nodup_cons, List.mem_cons, not_or] at this
  exact ⟨this.1.1, this.1.2, this.2.1, this.2.2⟩
theorem DkP.fr {S : Nat → Prop} (h : DkP td tf tb w b mb ms ck bss F s) (hf : Fr S w w') (hn : ∀ x, F x → ¬ S x) : DkP td tf tb w' b mb ms ck bss F s :=
  ⟨h.blk.fr hf (hn b (h.sub b (by simp))), h.map.fr hf (hn mb (h.sub mb (by simp))), h.files.fr hf (fun x hx => hn x (h.sub x (List.mem_cons_of_mem _ (List.mem_cons_of_mem _ hx)))), h.nd, h.born, h.bnd, h.keys, h.sub, fun x hx => Nat.lt_of_lt_of_le (h.lt x hx) hf.size⟩
theorem DkP.ext (h : DkP td tf tb w b mb ms ck bss F s) (hf : Ext w w') : DkP td tf tb w' b mb ms ck bss F s := h.fr hf fun _ _ hh => hh
theorem DkAt.fr {S : Nat → Prop} (h : DkAt td tf tb w b F s) (hf : Fr S w w') (hn : ∀ x, F x → ¬ S x) : DkAt td tf tb w' b F s := let ⟨mb, ms, ck, bss, h'⟩ := h; ⟨mb, ms, ck, bss, h'.fr hf hn⟩
theorem DkAt.ext (h : DkAt td tf tb w b F s) (hf : Ext w w') : DkAt td tf tb w' b F s := h.fr hf fun _ _ hh => hh
/-- The disk's own block is written, files as they were. -/
theorem DkP.own {s' : PD} (h : DkP td tf tb w b mb ms ck bss F s) (hf : Fr (fun x => x = b) w w') (hfi : s'.files = s.files)
    (hb : Blk w' b td [.map (some mb), .int .i64 s'.cap, .bool s'.down, .int .i64 s'.calls, .int .i64 s'.fc, .int .i64 s'.fe, .int .i64 s'.cc, .int .i64 s'.ce]) : DkP td tf tb w' b mb ms ck bss F s' :=
  ⟨hb, h.map.fr hf (fun hh => h.ne.1 hh.symm), by rw [hfi]; exact h.files.fr hf (fun x hx hh => h.ne.2.1 (hh ▸ hx)), h.nd, h.born, h.bnd, h.keys, h.sub, fun x hx => Nat.lt_of_lt_of_le (h.lt x hx) hf.size⟩
end
end Go.Wk
namespace Go.Wk
open Go Go.RowKit
section
variable {td tf tb : TypeId} {w w' : World} {b mb : Nat} {ms : Ms} {ck : Nat} {bss : List (List Nat)} {F : Nat → Prop} {s : PD}
theorem PD.begin_files (s : PD) : s.begin.1.files = s.files := by
  unfold PD.begin; split; rfl; split; rfl; split <;> rfl
theorem PD.begin_cap (s : PD) : s.begin.1.cap = s.cap := by
  unfold PD.begin; split; rfl; split; rfl; split <;> rfl
theorem PD.begin_up (s : PD) (h : s.begin.2 = 0) : s.begin.1.down = false := by
  unfold PD.begin at h ⊢
  by_cases h1 : s.down = true
  · rw [if_pos h1] at h; simp at h
  · rw [if_neg h1] at h ⊢
    by_cases h2 : (s.calls : Int) + 1 = s.cc
    · rw [if_pos h2] at h; simp at h
    · rw [if_neg h2] at h ⊢
      split <;> simpa using h1
/-- What is found under a name is a file's address. -/
theorem DkP.ptr (h : DkP td tf tb w b mb ms ck bss F s) (name : List UInt8) : ∃ p, (lookM ms name).getD (.pointer none) = .pointer p ∧ (p.isNone = true → lookM ms name = none ∧ findF name s.files = none) ∧ (p.isNone = false → ∃ fb f, p = some ⟨fb, 0, none⟩ ∧ lookM ms name = some (.pointer (some ⟨fb, 0, none⟩)) ∧ findF name s.files = some f) := by
  cases hl : lookM ms name with
  | none => exact ⟨none, rfl, fun _ => ⟨rfl, (h.files.lookNone hl).1⟩, fun hh => by simp at hh⟩
  | some v =>
    obtain ⟨m1, born, m2, f, f1, f2, bs, b1, b2, hms, hfs, hbs, g1, ⟨fb, A, c, hv, hfB, hO, hbse⟩, g2, k1, k2⟩ := h.files.lookSome hl
    subst hv
    exact ⟨_, rfl, fun hh => by simp at hh, fun _ => ⟨fb, f, rfl, rfl, by rw [hfs]; exact findF_here name f f2 f1 k2⟩⟩
theorem sum_perm {l m : List Nat} (h : l.Perm m) : l.sum = m.sum := h.sum_nat
/-- A new file is put, where none of its name was. -/
theorem DkP.putNew {s' : PD} {name : List UInt8} {v : Value} {f : PF} {bs : List Nat} {ck' : Nat} {S : Nat → Prop} (h : DkP td tf tb w b mb ms ck bss F s) (hl : lookM ms name = none) (hf : Fr S w w') (hS : ∀ x, F x → S x → x = mb)
    (hM : Mp w' mb (putM name v ck ms) ck') (hck : ck' = if (lookM ms name).isSome then ck else ck + 1) (hv : FileAt tf tb w' v f bs) (hbs : bs.Nodup) (hnew : ∀ x ∈ bs, x ≠ b ∧ x ≠ mb ∧ x ∉ bss.flatten ∧ x < w'.heap.size)
    (hs : s' = { s with files := putF name f s.files }) : DkP td tf tb w' b mb (putM name v ck ms) ck' (bss ++ [bs]) (fun x => F x ∨ x ∈ bs) s' := by
  subst hs
  obtain ⟨n1, n2, n3, n4⟩ := h.ne
  have hFb := h.sub b (by simp)
  have hFm := h.sub mb (by simp)
  have hFx : ∀ x ∈ bss.flatten, F x := fun x hx => h.sub x (List.mem_cons_of_mem _ (List.mem_cons_of_mem _ hx))
  obtain ⟨l1, l2⟩ := h.files.lookNone hl
  have l3 : ∀ p ∈ s.files, p.1 ≠ name := fun p hp hh => by
    have hmem : p.1 ∈ s.files.map (·.1) := List.mem_map_of_mem hp
    rw [← h.files.names] at hmem
    obtain ⟨q, hq, hqe⟩ := List.mem_map.1 hmem
    exact l2 q hq (hqe.trans hh)
  have hck' : ck' = ck + 1 := by rw [hck, hl]; rfl
  have hput := putM_end name v ck ms l2
  rw [hput] at hM ⊢
  refine ⟨h.blk.fr hf (fun hh => n1 (hS b hFb hh)), hM, ?_, ?_, ?_, ?_, ?_, ?_, ?_⟩
  · show FilesAt tf tb w' (ms ++ [(name, v, ck)]) (putF name f s.files) (bss ++ [bs])
    rw [putF_end name f s.files l3]
    exact (h.files.fr hf fun x hx hh => n3 (hS x (hFx x hx) hh ▸ hx)).join ⟨rfl, hv, trivial⟩
  · rw [List.flatten_append, List.flatten_singleton]
    simp only [List.nodup_cons, List.mem_cons, List.mem_append, not_or]
    exact ⟨⟨n1, n2, fun hh => (hnew b hh).1 rfl⟩, ⟨n3, fun hh => (hnew mb hh).2.1 rfl⟩, List.nodup_append.2 ⟨n4, hbs, fun x hx y hy hxy => (hnew y hy).2.2.1 (hxy ▸ hx)⟩⟩
  · intro p hp
    rcases List.mem_append.1 hp with hp | hp
    · have := h.born p hp; omega
    · simp at hp; subst hp; show ck < ck'; omega
  · rw [List.map_append]
    refine List.nodup_append.2 ⟨h.bnd, by simp, fun x hx y hy hxy => ?_⟩
    simp at hy; subst hy
    obtain ⟨p, hp, hpe⟩ := List.mem_map.1 hx
    have := h.born p hp
    omega
  · rw [List.map_append]
    refine List.nodup_append.2 ⟨h.keys, by simp, fun x hx y hy hxy => ?_⟩
    simp at hy; subst hy
    obtain ⟨p, hp, hpe⟩ := List.mem_map.1 hx
    exact l2 p hp (hpe.trans hxy)
  · intro x hx
    rw [List.flatten_append, List.flatten_singleton] at hx
    simp only [List.mem_cons, List.mem_append] at hx
    rcases hx with rfl | rfl | hx | hx
    · exact .inl hFb
    · exact .inl hFm
    · exact .inl (hFx x hx)
    · exact .inr hx
  · intro x hx
    rcases hx with hx | hx
    · exact Nat.lt_of_lt_of_le (h.lt x hx) hf.size
    · exact (hnew x hx).2.2.2
/-- A file is put in the place of the one of its name. -/
theorem DkP.putOld {s' : PD} {name : List UInt8} {v u : Value} {f : PF} {bs : List Nat} {ck' : Nat} {S : Nat → Prop} (h : DkP td tf tb w b mb ms ck bss F s) (hl : lookM ms name = some u) (hf : Fr S w w') (hS : ∀ x, F x → S x → x = mb)
    (hM : Mp w' mb (putM name v ck ms) ck') (hck : ck' = if (lookM ms name).isSome then ck else ck + 1) (hv : FileAt tf tb w' v f bs) (hbs : bs.Nodup) (hnew : ∀ x ∈ bs, x ≠ b ∧ x ≠ mb ∧ x ∉ bss.flatten ∧ x < w'.heap.size)
    (hs : s' = { s with files := putF name f s.files }) : ∃ bss', DkP td tf tb w' b mb (putM name v ck ms) ck' bss' (fun x => F x ∨ x ∈ bs) s' := by
  subst hs
  obtain ⟨n1, n2, n3, n4⟩ := h.ne
  have hFb := h.sub b (by simp)
  have hFm := h.sub mb (by simp)
  have hFx : ∀ x ∈ bss.flatten, F x := fun x hx => h.sub x (List.mem_cons_of_mem _ (List.mem_cons_of_mem _ hx))
  obtain ⟨m1, born, m2, f0, f1, f2, bs0, b1, b2, hms, hfs, hbss, g1, gv, g2, k1, k2⟩ := h.files.lookSome hl
  have hfl : bss.flatten = b1.flatten ++ (bs0 ++ b2.flatten) := by rw [hbss]; simp
  have hin : ∀ x, x ∈ b1.flatten ∨ x ∈ bs0 ∨ x ∈ b2.flatten → x ∈ bss.flatten := fun x hx => by rw [hfl]; simp only [List.mem_append]; exact hx
  have hkeep : ∀ x ∈ bss.flatten, ¬ S x := fun x hx hh => n3 (hS x (hFx x hx) hh ▸ hx)
  rw [hfl] at n4
  obtain ⟨na, nb, nc⟩ := List.nodup_append.1 n4
  obtain ⟨nd1, nd2, nd3⟩ := List.nodup_append.1 nb
  have hck' : ck' = ck := by rw [hck, hl]; rfl
  subst hck'
  have hput : putM name v ck' ms = m1 ++ (name, v, born) :: m2 := by rw [hms]; exact putM_here name u v born ck' m2 m1 k1
  have hputF : putF name f s.files = f1 ++ (name, f) :: f2 := by rw [hfs]; exact putF_here name f0 f f2 f1 k2
  have hb1 : (putM name v ck' ms).map (·.2.2) = ms.map (·.2.2) := by rw [hput, hms]; simp
  have hb2 : (putM name v ck' ms).map (·.1) = ms.map (·.1) := by rw [hput, hms]; simp
  have hb3 : ∀ p ∈ putM name v ck' ms, p.2.2 < ck' := by
    intro p hp
    have : p.2.2 ∈ (putM name v ck' ms).map (·.2.2) := List.mem_map_of_mem (f := fun p : List UInt8 × Value × Nat => p.2.2) hp
    rw [hb1] at this
    obtain ⟨q, hq, hqe⟩ := List.mem_map.1 this
    have := h.born q hq
    omega
  refine ⟨b1 ++ bs :: b2, h.blk.fr hf (fun hh => n1 (hS b hFb hh)), hM, ?_, ?_, hb3, by rw [hb1]; exact h.bnd, by rw [hb2]; exact h.keys, ?_, ?_⟩
  · show FilesAt tf tb w' _ (putF name f s.files) _
    rw [hputF, hput]
    exact (g1.fr hf fun x hx => hkeep x (hin x (.inl hx))).join ⟨rfl, hv, g2.fr hf fun x hx => hkeep x (hin x (.inr (.inr hx)))⟩
  · rw [List.flatten_append, List.flatten_cons]
    simp only [List.nodup_cons, List.mem_cons, List.mem_append, not_or]
    refine ⟨⟨n1, fun hh => n2 (hin b (.inl hh)), fun hh => (hnew b hh).1 rfl, fun hh => n2 (hin b (.inr (.inr hh)))⟩, ⟨fun hh => n3 (hin mb (.inl hh)), fun hh => (hnew mb hh).2.1 rfl, fun hh => n3 (hin mb (.inr (.inr hh)))⟩, List.nodup_append.2 ⟨na, List.nodup_append.2 ⟨hbs, nd2, fun x hx y hy hxy => (hnew x hx).2.2.1 (hin x (.inr (.inr (hxy ▸ hy))))⟩, fun x hx y hy hxy => ?_⟩⟩
    rcases List.mem_append.1 hy with hy | hy
    · exact (hnew y hy).2.2.1 (hin y (.inl (hxy ▸ hx)))
    · exact nc x hx y (List.mem_append_right _ hy) hxy
  · intro x hx
    rw [List.flatten_append, List.flatten_cons] at hx
    simp only [List.mem_cons, List.mem_append] at hx
    rcases hx with rfl | rfl | hx | hx | hx
    · exact .inl hFb
    · exact .inl hFm
    · exact .inl (hFx x (hin x (.inl hx)))
    · exact .inr hx
    · exact .inl (hFx x (hin x (.inr (.inr hx))))
  · intro x hx
    rcases hx with hx | hx
    · exact Nat.lt_of_lt_of_le (h.lt x hx) hf.size
    · exact (hnew x hx).2.2.2
theorem DkP.put {s' : PD} {name : List UInt8} {v : Value} {f : PF} {bs : List Nat} {ck' : Nat} {S : Nat → Prop} (h : DkP td tf tb w b mb ms ck bss F s) (hf : Fr S w w') (hS : ∀ x, F x → S x → x = mb)
    (hM : Mp w' mb (putM name v ck ms) ck') (hck : ck' = if (lookM ms name).isSome then ck else ck + 1) (hv : FileAt tf tb w' v f bs) (hbs : bs.Nodup) (hnew : ∀ x ∈ bs, x ≠ b ∧ x ≠ mb ∧ x ∉ bss.flatten ∧ x < w'.heap.size)
    (hs : s' = { s with files := putF name f s.files }) : ∃ bss', DkP td tf tb w' b mb (putM name v ck ms) ck' bss' (fun x => F x ∨ x ∈ bs) s' := by
  cases hl : lookM ms name with
  | none => exact ⟨_, h.putNew hl hf hS hM hck hv hbs hnew hs⟩
  | some u => exact h.putOld hl hf hS hM hck hv hbs hnew hs
/-- A file is taken away. -/
theorem DkP.del {s' : PD} {name : List UInt8} {v : Value} {S : Nat → Prop} (h : DkP td tf tb w b mb ms ck bss F s) (hl : lookM ms name = some v) (hf : Fr S w w') (hS : ∀ x, F x → S x → x = mb)
    (hM : Mp w' mb (delM name ms) ck) (hs : s' = { s with files := delF name s.files }) :
    ∃ f bs bss', findF name s.files = some f ∧ FileAt tf tb w' v f bs ∧ DkP td tf tb w' b mb (delM name ms) ck bss' F s' ∧ bs.Nodup ∧ (∀ x ∈ bs, F x ∧ x ≠ b ∧ x ≠ mb ∧ x ∉ bss'.flatten) ∧ lookM (delM name ms) name = none := by
  subst hs
  obtain ⟨n1, n2, n3, n4⟩ := h.ne
  have hFb := h.sub b (by simp)
  have hFm := h.sub mb (by simp)
  have hFx : ∀ x ∈ bss.flatten, F x := fun x hx => h.sub x (List.mem_cons_of_mem _ (List.mem_cons_of_mem _ hx))
  obtain ⟨m1, born, m2, f, f1, f2, bs, b1, b2, hms, hfs, hbs, g1, gv, g2, k1, k2⟩ := h.files.lookSome hl
  have hfl : bss.flatten = b1.flatten ++ (bs ++ b2.flatten) := by rw [hbs]; simp
  have hin : ∀ x, x ∈ b1.flatten ∨ x ∈ bs ∨ x ∈ b2.flatten → x ∈ bss.flatten := fun x hx => by rw [hfl]; simp only [List.mem_append]; exact hx
  have hdel : delM name ms = m1 ++ m2 := by rw [hms]; exact delM_here name v born m2 m1 k1
  have hdF : delF name s.files = f1 ++ f2 := by rw [hfs]; exact delF_here name f f2 f1 k2
  have hkeep : ∀ x ∈ bss.flatten, ¬ S x := fun x hx hh => n3 (hS x (hFx x hx) hh ▸ hx)
  rw [hfl] at n4
  obtain ⟨na, nb, nc⟩ := List.nodup_append.1 n4
  obtain ⟨nd1, nd2, nd3⟩ := List.nodup_append.1 nb
  have hkeys := h.keys
  rw [hms, List.map_append, List.map_cons] at hkeys
  obtain ⟨kk1, kk2, kk3⟩ := List.nodup_append.1 hkeys
  simp only [List.nodup_cons] at kk2
  refine ⟨f, bs, b1 ++ b2, by rw [hfs]; exact findF_here name f f2 f1 k2, gv.fr hf fun x hx => hkeep x (hin x (.inr (.inl hx))), ?_, nd1, fun x hx => ⟨hFx x (hin x (.inr (.inl hx))), fun hh => n2 (hin b (.inr (.inl (hh ▸ hx)))), fun hh => n3 (hin mb (.inr (.inl (hh ▸ hx)))), fun hh => ?_⟩, ?_⟩
  · rw [hdel] at hM ⊢
    refine ⟨h.blk.fr hf (fun hh => n1 (hS b hFb hh)), hM, ?_, ?_, ?_, ?_, ?_, ?_, fun x hx => Nat.lt_of_lt_of_le (h.lt x hx) hf.size⟩
    · show FilesAt tf tb w' (m1 ++ m2) (delF name s.files) (b1 ++ b2)
      rw [hdF]
      exact (g1.fr hf fun x hx => hkeep x (hin x (.inl hx))).join (g2.fr hf fun x hx => hkeep x (hin x (.inr (.inr hx))))
    · rw [List.flatten_append]
      simp only [List.nodup_cons, List.mem_cons, List.mem_append, not_or]
      exact ⟨⟨n1, fun hh => n2 (hin b (.inl hh)), fun hh => n2 (hin b (.inr (.inr hh)))⟩, ⟨fun hh => n3 (hin mb (.inl hh)), fun hh => n3 (hin mb (.inr (.inr hh)))⟩, List.nodup_append.2 ⟨na, nd2, fun x hx y hy => nc x hx y (List.mem_append_right _ hy)⟩⟩
    · intro p hp
      refine h.born p ?_
      rw [hms]; rcases List.mem_append.1 hp with hp | hp <;> simp [hp]
    · have hb := h.bnd
      rw [hms, List.map_append, List.map_cons] at hb
      obtain ⟨q1, q2, q3⟩ := List.nodup_append.1 hb
      simp only [List.nodup_cons] at q2
      rw [List.map_append]
      exact List.nodup_append.2 ⟨q1, q2.2, fun x hx y hy => q3 x hx y (List.mem_cons_of_mem _ hy)⟩
    · rw [List.map_append]
      exact List.nodup_append.2 ⟨kk1, kk2.2, fun x hx y hy => kk3 x hx y (List.mem_cons_of_mem _ hy)⟩
    · intro x hx
      rw [List.flatten_append] at hx
      simp only [List.mem_cons, List.mem_append] at hx
      rcases hx with rfl | rfl | hx | hx
      · exact hFb
      · exact hFm
      · exact hFx x (hin x (.inl hx))
      · exact hFx x (hin x (.inr (.inr hx)))
  · rw [List.flatten_append] at hh
    rcases List.mem_append.1 hh with hh | hh
    · exact nc x hh x (List.mem_append_left _ hx) rfl
    · exact nd3 x hx x hh rfl
  · rw [hdel]
    unfold lookM
    have : (m1 ++ m2).find? (fun p => decide (p.1 = name)) = none := by
      rw [List.find?_eq_none]
      intro p hp
      rcases List.mem_append.1 hp with hp | hp
      · simpa using k1 p hp
      · have : p.1 ∈ m2.map (·.1) := List.mem_map_of_mem hp
        intro hh
        have hh' : p.1 = name := of_decide_eq_true hh
        exact kk2.1 (hh' ▸ this)
    rw [this]; rfl
/-- A file that is there is turned: its block, and perhaps its bytes' one. -/
theorem DkP.turn {name : List UInt8} {fb : Nat} (h : DkP td tf tb w b mb ms ck bss F s) (hl : lookM ms name = some (.pointer (some ⟨fb, 0, none⟩))) :
    ∃ f A c, findF name s.files = some f ∧ Blk w fb tf [.slice A f.data.length c, .int .i64 f.sure] ∧ Own 0 No w tb A c byteR f.data ∧ fb ≠ b ∧ F fb ∧ fb ≠ mb ∧ (∀ x, ob A x → F x ∧ x ≠ fb ∧ x ≠ b ∧ x ≠ mb) ∧
      ∀ (w' : World) (f' : PF) (A' : Option Addr) (c' : Nat) (s' : PD), Blk w' fb tf [.slice A' f'.data.length c', .int .i64 f'.sure] → Own 0 No w' tb A' c' byteR f'.data → (∀ x, ob A' x → x ≠ fb ∧ (ob A x ∨ w.heap.size ≤ x)) → Fr (fun x => x = fb ∨ ob A x) w w' → s' = { s with files := putF name f' s.files } →
        ∃ bss', DkP td tf tb w' b mb ms ck bss' (fun x => F x ∨ ob A' x) s' := by
  obtain ⟨n1, n2, n3, n4⟩ := h.ne
  have hFb := h.sub b (by simp)
  have hFm := h.sub mb (by simp)
  have hFx : ∀ x ∈ bss.flatten, F x := fun x hx => h.sub x (List.mem_cons_of_mem _ (List.mem_cons_of_mem _ hx))
  obtain ⟨m1, born, m2, f, f1, f2, bs, b1, b2, hms, hfs, hbs, g1, ⟨fb', A, c, hv, hfB, hO, hbse⟩, g2, k1, k2⟩ := h.files.lookSome hl
  simp only [Value.pointer.injEq, Option.some.injEq, Addr.mk.injEq, and_true] at hv
  subst hv
  have hfl : bss.flatten = b1.flatten ++ (bs ++ b2.flatten) := by rw [hbs]; simp
  have hin : ∀ x, x ∈ b1.flatten ∨ x ∈ bs ∨ x ∈ b2.flatten → x ∈ bss.flatten := fun x hx => by rw [hfl]; simp only [List.mem_append]; exact hx
  rw [hfl] at n4
  obtain ⟨na, nb, nc⟩ := List.nodup_append.1 n4
  obtain ⟨nd1, nd2, nd3⟩ := List.nodup_append.1 nb
  have hfbs : fb ∈ bs := by rw [hbse]; simp
  have hobs : ∀ x, ob A x → x ∈ bs := fun x hx => by rw [hbse]; exact List.mem_cons_of_mem _ (mem_obL.2 hx)
  have hobn : ∀ x, ob A x → x ≠ fb := fun x hx hh => by
    rw [hbse, List.nodup_cons] at nd1
    exact nd1.1 (hh ▸ mem_obL.2 hx)
  refine ⟨f, A, c, by rw [hfs]; exact findF_here name f f2 f1 k2, hfB, hO, fun hh => n2 (hin b (.inr (.inl (hh ▸ hfbs)))), hFx fb (hin fb (.inr (.inl hfbs))), fun hh => n3 (hin mb (.inr (.inl (hh ▸ hfbs)))), fun x hx => ⟨hFx x (hin x (.inr (.inl (hobs x hx)))), hobn x hx, fun hh => n2 (hin b (.inr (.inl (hh ▸ hobs x hx)))), fun hh => n3 (hin mb (.inr (.inl (hh ▸ hobs x hx))))⟩, ?_⟩
  intro w' f' A' c' s' hB' hO' hA' hF hs
  subst hs
  have hout : ∀ x, (x = fb ∨ ob A x) → x ∈ bs := fun x hx => by
    rcases hx with rfl | hx
    · exact hfbs
    · exact hobs x hx
  have hold : ∀ x, ob A' x → x ∈ bs ∨ ¬ F x := fun x hx => by
    rcases (hA' x hx).2 with hh | hh
    · exact .inl (hobs x hh)
    · exact .inr fun hf => by have := h.lt x hf; omega
  have hn1 : ∀ x ∈ b1.flatten, x ∉ bs := fun x hx hh => nc x hx x (List.mem_append_left _ hh) rfl
  have hn2 : ∀ x ∈ b2.flatten, x ∉ bs := fun x hx hh => nd3 x hh x hx rfl
  have hputF : putF name f' s.files = f1 ++ (name, f') :: f2 := by rw [hfs]; exact putF_here name f f' f2 f1 k2
  have hnew : ∀ x, x ∈ fb :: obL A' → x ∈ bs ∨ ¬ F x := fun x hx => by
    rcases List.mem_cons.1 hx with rfl | hx
    · exact .inl hfbs
    · exact hold x (mem_obL.1 hx)
  refine ⟨b1 ++ (fb :: obL A') :: b2, h.blk.fr hF (fun hh => n2 (hin b (.inr (.inl (hout b hh))))), h.map.fr hF (fun hh => n3 (hin mb (.inr (.inl (hout mb hh))))), ?_, ?_, h.born, h.bnd, h.keys, ?_, ?_⟩
  · show FilesAt tf tb w' ms (putF name f' s.files) _
    rw [hputF, hms]
    exact (g1.fr hF fun x hx hh => hn1 x hx (hout x hh)).join ⟨rfl, ⟨fb, A', c', rfl, hB', hO', rfl⟩, g2.fr hF fun x hx hh => hn2 x hx (hout x hh)⟩
  · rw [List.flatten_append, List.flatten_cons]
    have hAn : (fb :: obL A').Nodup := by
      rw [List.nodup_cons]
      refine ⟨fun hh => (hA' fb (mem_obL.1 hh)).1 rfl, ?_⟩
      cases A' with
      | none => simp [obL]
      | some a => simp [obL]
    have q : ∀ x, x ∈ bss.flatten → x ∉ bs → x ∉ fb :: obL A' := fun x hx hnb hh => by
      rcases hnew x hh with h3 | h3
      · exact hnb h3
      · exact h3 (hFx x hx)
    rw [List.nodup_cons, List.nodup_cons]
    refine ⟨?_, ?_, ?_⟩
    · intro hh
      simp only [List.mem_cons, List.mem_append] at hh
      rcases hh with hh | hh | hh | hh
      · exact n1 hh
      · exact n2 (hin b (.inl hh))
      · rcases hnew b (by simpa using hh) with h3 | h3
        · exact n2 (hin b (.inr (.inl h3)))
        · exact h3 hFb
      · exact n2 (hin b (.inr (.inr hh)))
    · intro hh
      simp only [List.mem_cons, List.mem_append] at hh
      rcases hh with hh | hh | hh
      · exact n3 (hin mb (.inl hh))
      · rcases hnew mb (by simpa using hh) with h3 | h3
        · exact n3 (hin mb (.inr (.inl h3)))
        · exact h3 hFm
      · exact n3 (hin mb (.inr (.inr hh)))
    · refine List.nodup_append.2 ⟨na, List.nodup_append.2 ⟨hAn, nd2, fun x hx y hy hxy => q y (hin y (.inr (.inr hy))) (hn2 y hy) (hxy ▸ hx)⟩, fun x hx y hy hxy => ?_⟩
      rcases List.mem_append.1 hy with hy | hy
      · exact q x (hin x (.inl hx)) (hn1 x hx) (hxy ▸ hy)
      · exact nc x hx y (List.mem_append_right _ hy) hxy
  · intro x hx
    rw [List.flatten_append, List.flatten_cons] at hx
    simp only [List.mem_cons, List.mem_append] at hx
    rcases hx with rfl | rfl | hx | (rfl | hx) | hx
    · exact .inl hFb
    · exact .inl hFm
    · exact .inl (hFx x (hin x (.inl hx)))
    · exact .inl (hFx _ (hin _ (.inr (.inl hfbs))))
    · exact .inr (mem_obL.1 hx)
    · exact .inl (hFx x (hin x (.inr (.inr hx))))
  · intro x hx
    rcases hx with hx | hx
    · exact Nat.lt_of_lt_of_le (h.lt x hx) hF.size
    · exact (hO'.base x hx).2
end
end Go.Wk
namespace Go.Wk
open Go Go.RowKit
def szF (l : Fl) (key : List UInt8) : Nat := ((findF key l).map (·.data.length)).getD 0
theorem sum_szF : ∀ (pre l : Fl), ((pre ++ l).map (·.1)).Nodup → (l.map fun p => p.2.data.length).sum = ((l.map (·.1)).map fun k => szF (pre ++ l) k).sum
  | _, [], _ => rfl
  | pre, p :: r, h => by
    have h2 := sum_szF (pre ++ [p]) r (by simpa using h)
    have hp : szF (pre ++ p :: r) p.1 = p.2.data.length := by
      have := findF_here p.1 p.2 r pre (fun q hq hh => by
        rw [List.map_append, List.map_cons] at h
        exact (List.nodup_append.1 h).2.2 q.1 (List.mem_map_of_mem hq) p.1 (by simp) hh)
      unfold szF
      rw [show pre ++ p :: r = pre ++ (p.1, p.2) :: r from rfl, this]; rfl
    simp only [List.map_cons, List.sum_cons, hp, h2]
    simp
section
variable {td tf tb : TypeId} {w w' : World} {b mb : Nat} {ms : Ms} {ck : Nat} {bss : List (List Nat)} {F : Nat → Prop} {s : PD}
theorem DkP.used_eq (h : DkP td tf tb w b mb ms ck bss F s) : s.used = (ms.map fun p => szF s.files p.1).sum := by
  have hk := h.keys
  have hn := h.files.names
  rw [hn] at hk
  have := sum_szF [] s.files (by simpa using hk)
  rw [List.nil_append] at this
  unfold PD.used
  rw [this, ← hn, List.map_map]; rfl
theorem lookM_mem : ∀ {ms : Ms} {p : List UInt8 × Value × Nat}, p ∈ ms → (ms.map (·.1)).Nodup → lookM ms p.1 = some p.2.1
  | q :: r, p, hp, hn => by
    simp only [List.map_cons, List.nodup_cons] at hn
    rcases List.mem_cons.1 hp with rfl | hp
    · simp [lookM]
    · have hq : q.1 ≠ p.1 := fun hh => hn.1 (hh ▸ List.mem_map_of_mem hp)
      have := lookM_mem hp hn.2
      simpa [lookM, hq] using this
/-- The file of an entry. -/
theorem DkP.entry (h : DkP td tf tb w b mb ms ck bss F s) {p : List UInt8 × Value × Nat} (hp : p ∈ ms) : ∃ fb f A c, p.2.1 = .pointer (some ⟨fb, 0, none⟩) ∧ findF p.1 s.files = some f ∧ szF s.files p.1 = f.data.length ∧ Blk w fb tf [.slice A f.data.length c, .int .i64 f.sure] ∧ F fb := by
  have hl := lookM_mem hp h.keys
  obtain ⟨q, h1, h2, h3⟩ := h.ptr p.1
  rw [hl] at h1
  have hq : p.2.1 = .pointer q := h1
  cases hqn : q.isNone with
  | true => have := (h2 hqn).1; rw [hl] at this; cases this
  | false =>
    obtain ⟨fb, f, rfl, h4, h5⟩ := h3 hqn
    obtain ⟨f', A, c, h6, h7, h8, h9, h10, _⟩ := h.turn h4
    rw [h5] at h6
    cases h6
    exact ⟨fb, f, A, c, hq, h5, by unfold szF; rw [h5]; rfl, h7, h10⟩
theorem leftM_sub {ms : Ms} {sn : List Nat} {p : List UInt8 × Value × Nat} (h : p ∈ leftM ms sn) : p ∈ ms := (List.mem_filter.1 h).1
theorem leftM_sum (g : List UInt8 × Value × Nat → Nat) {ms : Ms} {sn : List Nat} {p : List UInt8 × Value × Nat} (hnd : (ms.map (·.2.2)).Nodup) (hp : p ∈ leftM ms sn) :
    ((leftM ms sn).map g).sum = g p + ((leftM ms (sn ++ [p.2.2])).map g).sum ∧ (leftM ms sn).length = (leftM ms (sn ++ [p.2.2])).length + 1 := by
  have hpm := leftM_perm ms sn p hnd hp
  exact ⟨(hpm.map g).sum_nat, hpm.length_eq⟩
theorem leftM_nil (ms : Ms) : leftM ms [] = ms := by
  unfold leftM
  exact List.filter_eq_self.2 fun _ _ => rfl
theorem find_le_used {name : List UInt8} {f : PF} (h : findF name s.files = some f) : f.data.length ≤ s.used := by
  unfold findF at h
  cases hh : s.files.find? (fun p => decide (p.1 = name)) with
  | none => rw [hh] at h; cases h
  | some p =>
    rw [hh] at h
    have hp := List.mem_of_find?_eq_some hh
    simp only [Option.map_some, Option.some.injEq] at h
    subst h
    have : p.2.data.length ∈ s.files.map fun p => p.2.data.length := List.mem_map_of_mem (f := fun p : List UInt8 × PF => p.2.data.length) hp
    unfold PD.used
    generalize s.files.map (fun p => p.2.data.length) = l at this
    induction l with
    | nil => cases this
    | cons a r ih =>
      rw [List.sum_cons]
      rcases List.mem_cons.1 this with h | h
      · omega
      · have := ih h; omega
theorem PD.begin_used (s : PD) : s.begin.1.used = s.used := by unfold PD.used; rw [PD.begin_files]
end
end Go.Wk
namespace Go.Wk
open Go Go.RowKit
abbrev AFile := List UInt8 × List UInt8
def strR : Rep (List UInt8) := Rep.flat 1 (fun l => [Str l]) (fun _ => True) (fun _ => rfl) (fun _ => by simp [Value.oneCell']) Nat.one_pos
def afileR : Rep AFile := Rep.two strR (Rep.sl byteR)
def addAll (cap : Nat) : List AFile → Fl → Nat → Option Fl
  | [], l, _ => some l
  | p :: r, l, used => if isNm p.1 = false ∨ (findF p.1 l).isSome = true ∨ used + p.2.length > cap then none else addAll cap r (putF p.1 ⟨p.2, p.2.length⟩ l) (used + p.2.length)
def PD.fresh (l : Fl) (cap : Nat) : PD := ⟨l, cap, false, 0, 0, 0, 0, 0⟩
def newD (files : List AFile) (cap : Int) : Option PD :=
  if cap < 1 ∨ cap > 4194304 ∨ files.length > 4096 then none else (addAll cap.toNat files [] 0).map fun l => PD.fresh l cap.toNat
theorem addAll_none {cap : Nat} {p : AFile} {r : List AFile} {l : Fl} {u : Nat} (h : isNm p.1 = false ∨ (findF p.1 l).isSome = true ∨ u + p.2.length > cap) : addAll cap (p :: r) l u = none := if_pos h
theorem addAll_step {cap : Nat} {p : AFile} {r : List AFile} {l : Fl} {u : Nat} (h : ¬ (isNm p.1 = false ∨ (findF p.1 l).isSome = true ∨ u + p.2.length > cap)) : addAll cap (p :: r) l u = addAll cap r (putF p.1 ⟨p.2, p.2.length⟩ l) (u + p.2.length) := if_neg h
theorem drop_of_get {α : Type} {l : List α} {i : Nat} {z : α} (h : l[i]? = some z) : l.drop i = z :: l.drop (i + 1) := by
  have hi : i < l.length := lt_of_get h
  rw [List.drop_eq_getElem_cons hi]
  rw [List.getElem?_eq_getElem hi] at h
  rw [Option.some.inj h]
theorem nodup_cons_obL {b : Nat} {A : Option Addr} (h : ¬ ob A b) : (b :: obL A).Nodup := by
  rw [List.nodup_cons]
  refine ⟨fun hh => h (mem_obL.1 hh), ?_⟩
  cases A <;> simp [obL]
end Go.Wk
