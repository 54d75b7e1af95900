/-
  What is saved and loaded as a whole on the program's disk, on lists. Plain Lean.
-/
import Derived.Test.YtpeloppldpdonaaPd
namespace Go.Wk
open Go Go.RowKit
def usedF (l : Fl) : Nat := (l.map fun p => p.2.data.length).sum
theorem PD.used_def (s : PD) : s.used = usedF s.files := rfl
theorem szF_cons (p : List UInt8 × PF) (r : Fl) (name : List UInt8) : szF (p :: r) name = if p.1 = name then p.2.data.length else szF r name := by
  unfold szF findF
  by_cases h : p.1 = name
  · simp [h]
  · simp [h]
theorem usedF_cons (p : List UInt8 × PF) (r : Fl) : usedF (p :: r) = p.2.data.length + usedF r := by simp [usedF]
theorem usedF_put (name : List UInt8) (f : PF) : ∀ (l : Fl), usedF (putF name f l) + szF l name = usedF l + f.data.length
  | [] => by simp [putF, usedF, szF, findF]
  | p :: r => by
    have ih := usedF_put name f r
    rw [szF_cons, usedF_cons]
    unfold putF
    by_cases h : p.1 = name
    · rw [if_pos h, if_pos h, usedF_cons]; dsimp only; omega
    · rw [if_neg h, if_neg h, usedF_cons]; omega
theorem usedF_del (name : List UInt8) : ∀ (l : Fl), usedF (delF name l) + szF l name = usedF l
  | [] => by simp [delF, usedF, szF, findF]
  | p :: r => by
    have ih := usedF_del name r
    rw [szF_cons, usedF_cons]
    unfold delF
    by_cases h : p.1 = name
    · rw [if_pos h, if_pos h]; omega
    · rw [if_neg h, if_neg h, usedF_cons]; omega
theorem szF_some {l : Fl} {name : List UInt8} {f : PF} (h : findF name l = some f) : szF l name = f.data.length := by unfold szF; rw [h]; rfl
theorem findF_put (name : List UInt8) (f : PF) : ∀ (l : Fl), findF name (putF name f l) = some f
  | [] => by simp [putF, findF]
  | p :: r => by
    have ih := findF_put name f r
    unfold findF at *
    by_cases h : p.1 = name
    · simp [putF, h]
    · simpa [putF, h] using ih
theorem findF_put_ne (name other : List UInt8) (f : PF) (hne : name ≠ other) : ∀ (l : Fl), findF other (putF name f l) = findF other l
  | [] => by simp [putF, findF, hne]
  | p :: r => by
    have ih := findF_put_ne name other f hne r
    unfold findF at *
    by_cases h : p.1 = name
    · have h2 : p.1 ≠ other := fun hh => hne (h.symm.trans hh)
      simp [putF, h, hne]
    · by_cases h2 : p.1 = other
      · simp [putF, h2, Ne.symm hne]
      · simpa [putF, h, h2] using ih
/-- The disk may go on for so many calls more. -/
def PD.ok (n : Nat) (s : PD) : Prop := s.used ≤ s.cap ∧ s.cap ≤ 4194304 ∧ s.calls + n < 4611686018427387904
theorem PD.ok.mono {n m : Nat} {s : PD} (h : s.ok n) (hm : m ≤ n) : s.ok m := ⟨h.1, h.2.1, by have := h.2.2; omega⟩
theorem PD.begin_calls (s : PD) : s.begin.1.calls ≤ s.calls + 1 := by
  unfold PD.begin
  split
  · exact Nat.le_succ _
  · split
    · exact Nat.le_refl _
    · split <;> exact Nat.le_refl _
theorem PD.ok.begin {n : Nat} {s : PD} (h : s.ok (n + 1)) : s.begin.1.ok n := ⟨by rw [PD.begin_used, PD.begin_cap]; exact h.1, by rw [PD.begin_cap]; exact h.2.1, by have := s.begin_calls; have := h.2.2; omega⟩
theorem PD.ok.files {n : Nat} {s : PD} {l : Fl} (h : s.ok (n + 1)) (hl : usedF l ≤ s.cap) : ({ s.begin.1 with files := l } : PD).ok n := ⟨by show usedF l ≤ s.begin.1.cap; rw [PD.begin_cap]; exact hl, h.begin.2.1, h.begin.2.2⟩
theorem PD.ok.remove {n : Nat} {s : PD} (h : s.ok (n + 1)) (name : List UInt8) : (s.remove name).1.ok n := by
  unfold PD.remove
  split
  · exact h.begin
  · split
    · exact h.begin
    · exact h.files (by have := usedF_del name s.files; have := h.1; rw [PD.used_def] at this; omega)
theorem PD.ok.create {n : Nat} {s : PD} (h : s.ok (n + 1)) (name : List UInt8) : (s.create name).1.ok n := by
  unfold PD.create
  split
  · exact h.begin
  · split
    · exact h.begin
    · split
      · exact h.begin
      · split
        · exact h.begin
        · exact h.files (by have := usedF_put name ⟨[], 0⟩ s.files; have := h.1; rw [PD.used_def] at this; simp at *; omega)
theorem PD.ok.append {n : Nat} {s : PD} (h : s.ok (n + 1)) (name b : List UInt8) : (s.append name b).1.ok n := by
  unfold PD.append
  split
  · exact h.begin
  · split
    · exact h.begin
    · rename_i f hf
      split
      · exact h.begin
      · rename_i hlt
        rw [PD.begin_used] at hlt
        have h1 := usedF_put name ⟨f.data ++ b, f.sure⟩ s.files
        have h2 := szF_some hf
        have h3 := h.1
        rw [PD.used_def] at h3 hlt
        simp only [List.length_append] at h1
        exact h.files (by omega)
theorem PD.ok.sync {n : Nat} {s : PD} (h : s.ok (n + 1)) (name : List UInt8) : (s.sync name).1.ok n := by
  unfold PD.sync
  split
  · exact h.begin
  · split
    · exact h.begin
    · rename_i f hf
      have h1 := usedF_put name ⟨f.data, f.data.length⟩ s.files
      have h2 := szF_some hf
      have h3 := h.1
      rw [PD.used_def] at h3
      dsimp only at h1
      exact h.files (by omega)
theorem PD.ok.rename {n : Nat} {s : PD} (h : s.ok (n + 1)) (a b : List UInt8) : (s.rename a b).1.ok n := by
  unfold PD.rename
  split
  · exact h.begin
  · split
    · exact h.begin
    · split
      · exact h.begin
      · rename_i f hf
        have h1 := usedF_put b f (delF a s.files)
        have h2 := usedF_del a s.files
        have h4 := szF_some hf
        have h3 := h.1
        rw [PD.used_def] at h3
        exact h.files (by omega)
def newB : List UInt8 := [46, 110, 101, 119]
def PD.there (s : PD) (name : List UInt8) : Bool := !s.down && (findF name s.files).isSome
def PD.tidy (s : PD) (name : List UInt8) : PD × Int := if s.there (name ++ newB) = true then s.remove (name ++ newB) else (s, 0)
structure Got where
  b : List UInt8
  is : Bool
  e : Int
def PD.load (s : PD) (name : List UInt8) : PD × Got :=
  if s.down = true then (s, ⟨[], false, 13⟩) else
  if (s.tidy name).2 ≠ 0 then ((s.tidy name).1, ⟨[], false, (s.tidy name).2⟩) else
  match findF name (s.tidy name).1.files with
  | none => ((s.tidy name).1, ⟨[], false, 0⟩)
  | some f => if (firstF f.data).2.2 ≠ 0 ∨ (firstF f.data).2.1 ≠ f.data.length then ((s.tidy name).1, ⟨[], false, 15⟩) else ((s.tidy name).1, ⟨(firstF f.data).1, true, 0⟩)
theorem PD.remove_up (s : PD) (name : List UInt8) (h : (s.remove name).2 = 0) : (s.remove name).1.down = false := by
  unfold PD.remove at h ⊢
  split
  · rename_i h0; rw [if_pos h0] at h; exact absurd h h0
  · rename_i h0
    rw [if_neg h0] at h
    have hz : s.begin.2 = 0 := Decidable.of_not_not h0
    split
    · exact s.begin_up hz
    · exact s.begin_up hz
theorem PD.tidy_up (s : PD) (name : List UInt8) (hd : s.down = false) (h : (s.tidy name).2 = 0) : (s.tidy name).1.down = false := by
  unfold PD.tidy at h ⊢
  split
  · rename_i h0; rw [if_pos h0] at h; exact s.remove_up _ h
  · exact hd
theorem PD.ok.tidy {n : Nat} {s : PD} (h : s.ok (n + 1)) (name : List UInt8) : (s.tidy name).1.ok n := by
  unfold PD.tidy
  split
  · exact h.remove _
  · exact h.mono (by omega)
theorem PD.ok.load {n : Nat} {s : PD} (h : s.ok (n + 1)) (name : List UInt8) : (s.load name).1.ok n := by
  unfold PD.load
  split
  · exact h.mono (by omega)
  · split
    · exact h.tidy name
    · split
      · exact h.tidy name
      · split <;> exact h.tidy name
theorem PD.load_none {s : PD} {name : List UInt8} (hd : s.down = false) (h0 : (s.tidy name).2 = 0) (hf : findF name (s.tidy name).1.files = none) : s.load name = ((s.tidy name).1, ⟨[], false, 0⟩) := by
  unfold PD.load; rw [if_neg (by simp [hd]), if_neg (fun hh => hh h0), hf]
theorem PD.load_bad {s : PD} {name : List UInt8} {f : PF} (hd : s.down = false) (h0 : (s.tidy name).2 = 0) (hf : findF name (s.tidy name).1.files = some f) (hb : (firstF f.data).2.2 ≠ 0 ∨ (firstF f.data).2.1 ≠ f.data.length) : s.load name = ((s.tidy name).1, ⟨[], false, 15⟩) := by
  unfold PD.load; rw [if_neg (by simp [hd]), if_neg (fun hh => hh h0), hf]; exact if_pos hb
theorem PD.load_good {s : PD} {name : List UInt8} {f : PF} (hd : s.down = false) (h0 : (s.tidy name).2 = 0) (hf : findF name (s.tidy name).1.files = some f) (hb : ¬ ((firstF f.data).2.2 ≠ 0 ∨ (firstF f.data).2.1 ≠ f.data.length)) : s.load name = ((s.tidy name).1, ⟨(firstF f.data).1, true, 0⟩) := by
  unfold PD.load; rw [if_neg (by simp [hd]), if_neg (fun hh => hh h0), hf]; exact if_neg hb
/-- Clearing up behind a call that failed. -/
def PD.fault (r : PD × Int) (next : List UInt8) : PD × Int := if r.2 ≠ 13 ∧ r.1.there next = true then ((r.1.remove next).1, r.2) else r
def PD.made (s : PD) (next : List UInt8) : PD × Int :=
  let r0 := if s.there next = true then s.remove next else (s, 0)
  if r0.2 = 0 then r0.1.create next else r0
def PD.saveN (s : PD) (name next p : List UInt8) : PD × Int :=
  if name.length > 28 then (s, 3) else if p.length > 65536 then (s, 4) else
  if (s.made next).2 ≠ 0 then PD.fault (s.made next) next else
  if ((s.made next).1.append next (wrapL p)).2 ≠ 0 then PD.fault ((s.made next).1.append next (wrapL p)) next else
  if (((s.made next).1.append next (wrapL p)).1.sync next).2 ≠ 0 then PD.fault (((s.made next).1.append next (wrapL p)).1.sync next) next else
  if ((((s.made next).1.append next (wrapL p)).1.sync next).1.rename next name).2 = 0 then ((((s.made next).1.append next (wrapL p)).1.sync next).1.rename next name)
  else PD.fault ((((s.made next).1.append next (wrapL p)).1.sync next).1.rename next name) next
def PD.save (s : PD) (name p : List UInt8) : PD × Int := s.saveN name (name ++ newB) p
section
variable {s : PD} {name next p : List UInt8} {m1 m2 m3 m4 : PD × Int}
theorem PD.saveN_0 (h : name.length > 28) : s.saveN name next p = (s, 3) := if_pos h
theorem PD.saveN_00 (h : ¬ name.length > 28) (h2 : p.length > 65536) : s.saveN name next p = (s, 4) := by unfold PD.saveN; rw [if_neg h, if_pos h2]
theorem PD.saveN_1 (h : ¬ name.length > 28) (h2 : ¬ p.length > 65536) (e1 : s.made next = m1) (h3 : m1.2 ≠ 0) : s.saveN name next p = PD.fault m1 next := by
  subst e1; unfold PD.saveN; rw [if_neg h, if_neg h2, if_pos h3]
theorem PD.saveN_2 (h : ¬ name.length > 28) (h2 : ¬ p.length > 65536) (e1 : s.made next = m1) (h3 : ¬ m1.2 ≠ 0) (e2 : m1.1.append next (wrapL p) = m2) (h4 : m2.2 ≠ 0) : s.saveN name next p = PD.fault m2 next := by
  subst e2 e1; unfold PD.saveN; rw [if_neg h, if_neg h2, if_neg h3, if_pos h4]
theorem PD.saveN_3 (h : ¬ name.length > 28) (h2 : ¬ p.length > 65536) (e1 : s.made next = m1) (h3 : ¬ m1.2 ≠ 0) (e2 : m1.1.append next (wrapL p) = m2) (h4 : ¬ m2.2 ≠ 0) (e3 : m2.1.sync next = m3) (h5 : m3.2 ≠ 0) : s.saveN name next p = PD.fault m3 next := by
  subst e3 e2 e1; unfold PD.saveN; rw [if_neg h, if_neg h2, if_neg h3, if_neg h4, if_pos h5]
theorem PD.saveN_4 (h : ¬ name.length > 28) (h2 : ¬ p.length > 65536) (e1 : s.made next = m1) (h3 : ¬ m1.2 ≠ 0) (e2 : m1.1.append next (wrapL p) = m2) (h4 : ¬ m2.2 ≠ 0) (e3 : m2.1.sync next = m3) (h5 : ¬ m3.2 ≠ 0) (e4 : m3.1.rename next name = m4) (h6 : m4.2 = 0) : s.saveN name next p = m4 := by
  subst e4 e3 e2 e1; unfold PD.saveN; rw [if_neg h, if_neg h2, if_neg h3, if_neg h4, if_neg h5, if_pos h6]
theorem PD.saveN_5 (h : ¬ name.length > 28) (h2 : ¬ p.length > 65536) (e1 : s.made next = m1) (h3 : ¬ m1.2 ≠ 0) (e2 : m1.1.append next (wrapL p) = m2) (h4 : ¬ m2.2 ≠ 0) (e3 : m2.1.sync next = m3) (h5 : ¬ m3.2 ≠ 0) (e4 : m3.1.rename next name = m4) (h6 : ¬ m4.2 = 0) : s.saveN name next p = PD.fault m4 next := by
  subst e4 e3 e2 e1; unfold PD.saveN; rw [if_neg h, if_neg h2, if_neg h3, if_neg h4, if_neg h5, if_neg h6]
theorem PD.made_1 (h : s.there next = true) (h2 : (s.remove next).2 = 0) : s.made next = (s.remove next).1.create next := by
  unfold PD.made; rw [if_pos h]; exact if_pos h2
theorem PD.made_2 (h : s.there next = true) (h2 : ¬ (s.remove next).2 = 0) : s.made next = s.remove next := by
  unfold PD.made; rw [if_pos h]; exact if_neg h2
theorem PD.made_3 (h : s.there next = false) : s.made next = s.create next := by
  have h0 : (if s.there next = true then s.remove next else (s, 0)) = (s, 0) := if_neg (by simp [h])
  unfold PD.made; dsimp only; rw [h0]; exact if_pos rfl
end
theorem PD.ok.made {n : Nat} {s : PD} (h : s.ok (n + 2)) (next : List UInt8) : (s.made next).1.ok n := by
  have h0 : (if s.there next = true then s.remove next else (s, 0)).1.ok (n + 1) := by
    split
    · exact PD.ok.remove (n := n + 1) h next
    · exact h.mono (by omega)
  unfold PD.made
  dsimp only
  generalize (if s.there next = true then s.remove next else (s, 0)) = r0 at h0 ⊢
  split
  · exact PD.ok.create h0 next
  · exact h0.mono (by omega)
theorem PD.ok.fault {n : Nat} {r : PD × Int} (h : r.1.ok (n + 1)) (next : List UInt8) : (PD.fault r next).1.ok n := by
  unfold PD.fault
  split
  · exact h.remove next
  · exact h.mono (by omega)
theorem PD.ok.save {n : Nat} {s : PD} (h : s.ok (n + 6)) (name p : List UInt8) : (s.save name p).1.ok n := by
  unfold PD.save PD.saveN
  have h1 := PD.ok.made (n := n + 4) h (name ++ newB)
  have h2 := PD.ok.append (n := n + 3) h1 (name ++ newB) (wrapL p)
  have h3 := PD.ok.sync (n := n + 2) h2 (name ++ newB)
  have h4 := PD.ok.rename (n := n + 1) h3 (name ++ newB) name
  split
  · exact h.mono (by omega)
  · split
    · exact h.mono (by omega)
    · split
      · exact (h1.mono (by omega)).fault _
      · split
        · exact (h2.mono (by omega)).fault _
        · split
          · exact (h3.mono (by omega)).fault _
          · split
            · exact h4.mono (by omega)
            · exact h4.fault _
end Go.Wk
namespace Go.Wk
open Go Go.RowKit
theorem DkAt.lt {td tf tb : TypeId} {w : World} {b : Nat} {F : Nat → Prop} {s : PD} (h : DkAt td tf tb w b F s) : ∀ x, F x → x < w.heap.size := let ⟨_, _, _, _, h'⟩ := h; h'.lt
theorem DkAt.self {td tf tb : TypeId} {w : World} {b : Nat} {F : Nat → Prop} {s : PD} (h : DkAt td tf tb w b F s) : F b := let ⟨_, _, _, _, h'⟩ := h; h'.sub b (by simp)
end Go.Wk
