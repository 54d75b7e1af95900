/-
  What is saved as a whole on the program's disk, whatever fails: plain laws.
-/
import Derived.Test.YtknenggmdnpimaaPg
set_option linter.unusedVariables false
set_option linter.unusedSimpArgs false
namespace Go.Wk
open Go Go.RowKit
def nwN (n : List UInt8) : List UInt8 := n ++ [46, 110, 101, 119]
def PD.has (s : PD) (n : List UInt8) : Bool := !s.down && (findF n s.files).isSome
def failP (s : PD) (nx : List UInt8) (e : Int) : PD × Int := if e ≠ 13 ∧ s.has nx = true then ((s.remove nx).1, e) else (s, e)
def chP (r : PD × Int) (nx : List UInt8) (k : PD → PD × Int) : PD × Int := if r.2 ≠ 0 then failP r.1 nx r.2 else k r.1
def saveP (s : PD) (n b : List UInt8) : PD × Int :=
  chP (if s.has (nwN n) = true then s.remove (nwN n) else (s, 0)) (nwN n) fun s1 => chP (s1.create (nwN n)) (nwN n) fun s2 => chP (s2.append (nwN n) b) (nwN n) fun s3 =>
  chP (s3.sync (nwN n)) (nwN n) fun s4 => chP (s4.rename (nwN n) n) (nwN n) fun s5 => (s5, 0)
/-- A file is there as a whole, and perhaps the next one. -/
structure Wh (k nx W : List UInt8) (s : PD) : Prop where
  find : findF k s.files = some ⟨W, W.length⟩
  keys : ∀ p ∈ s.files, p.1 = k ∨ p.1 = nx
  ne : k ≠ nx
  fe : s.fe ≠ 13
section
variable {k nx W : List UInt8} {s : PD}
theorem begin_fe (s : PD) : s.begin.1.fe = s.fe := by unfold PD.begin; split; rfl; split; rfl; split <;> rfl
theorem Wh.begin (h : Wh k nx W s) : Wh k nx W s.begin.1 ∧ (s.begin.2 = 13 → s.begin.1.down = true) ∧ (s.begin.2 = 0 → s.begin.1.down = false) := by
  refine ⟨⟨by rw [PD.begin_files]; exact h.find, by rw [PD.begin_files]; exact h.keys, h.ne, by rw [begin_fe]; exact h.fe⟩, ?_, PD.begin_up s⟩
  have hf := h.fe
  unfold PD.begin
  by_cases h1 : s.down = true
  · rw [if_pos h1]; exact fun _ => h1
  · rw [if_neg h1]
    by_cases h2 : (s.calls : Int) + 1 = s.cc
    · rw [if_pos h2]; exact fun _ => rfl
    · rw [if_neg h2]
      by_cases h3 : (s.calls : Int) + 1 = s.fc
      · rw [if_pos h3]; exact fun hh => absurd hh hf
      · rw [if_neg h3]; exact fun hh => by simp at hh
theorem Wh.put (h : Wh k nx W s) (f : PF) : Wh k nx W { s with files := putF nx f s.files } :=
  ⟨by show findF k (putF nx f s.files) = _; rw [findF_put_ne _ h.ne]; exact h.find, fun p hp => by rcases putF_mem hp with rfl | hp; exact .inr rfl; exact h.keys p hp, h.ne, h.fe⟩
theorem Wh.del (h : Wh k nx W s) : Wh k nx W { s with files := delF nx s.files } :=
  ⟨by show findF k (delF nx s.files) = _; rw [findF_del_ne h.ne]; exact h.find, fun p hp => h.keys p (delF_mem hp), h.ne, h.fe⟩
theorem begin_put (f : PF) (l : Fl) (s : PD) : ({ s.begin.1 with files := l } : PD) = { s.begin.1 with files := l } := rfl
theorem Wh.putB (h : Wh k nx W s) (f : PF) : Wh k nx W { s.begin.1 with files := putF nx f s.files } := by
  have := h.begin.1.put f
  rw [PD.begin_files] at this
  exact this
theorem Wh.delB (h : Wh k nx W s) : Wh k nx W { s.begin.1 with files := delF nx s.files } := by
  have := h.begin.1.del
  rw [PD.begin_files] at this
  exact this
theorem Wh.create (h : Wh k nx W s) : Wh k nx W (s.create nx).1 ∧ ((s.create nx).2 = 13 → (s.create nx).1.down = true) ∧ ((s.create nx).2 = 0 → (s.create nx).1.down = false ∧ findF nx (s.create nx).1.files = some ⟨[], 0⟩) := by
  obtain ⟨b1, b2, b3⟩ := h.begin
  unfold PD.create
  by_cases h0 : s.begin.2 ≠ 0
  · rw [if_pos h0]; exact ⟨b1, b2, fun hh => absurd hh h0⟩
  · rw [if_neg h0]
    have h0' := b3 (Decidable.not_not.1 h0)
    by_cases h1 : isNm nx = false
    · rw [if_pos h1]; exact ⟨b1, fun hh => by simp at hh, fun hh => by simp at hh⟩
    · rw [if_neg h1]
      by_cases h2 : (findF nx s.files).isSome
      · rw [if_pos h2]; exact ⟨b1, fun hh => by simp at hh, fun hh => by simp at hh⟩
      · rw [if_neg h2]
        by_cases h3 : s.files.length = 4096
        · rw [if_pos h3]; exact ⟨b1, fun hh => by simp at hh, fun hh => by simp at hh⟩
        · rw [if_neg h3]; exact ⟨h.putB _, fun hh => by simp at hh, fun _ => ⟨h0', findF_putE _ _ _⟩⟩
theorem Wh.append (h : Wh k nx W s) (b : List UInt8) {f : PF} (hf : findF nx s.files = some f) : Wh k nx W (s.append nx b).1 ∧ ((s.append nx b).2 = 13 → (s.append nx b).1.down = true) ∧ ((s.append nx b).2 = 0 → (s.append nx b).1.down = false ∧ findF nx (s.append nx b).1.files = some ⟨f.data ++ b, f.sure⟩) := by
  obtain ⟨b1, b2, b3⟩ := h.begin
  unfold PD.append
  by_cases h0 : s.begin.2 ≠ 0
  · rw [if_pos h0]; exact ⟨b1, b2, fun hh => absurd hh h0⟩
  · rw [if_neg h0, hf]
    dsimp only
    have h0' := b3 (Decidable.not_not.1 h0)
    by_cases h1 : (b.length : Int) > s.cap - s.begin.1.used
    · rw [if_pos h1]; exact ⟨b1, fun hh => by simp at hh, fun hh => by simp at hh⟩
    · rw [if_neg h1]; exact ⟨h.putB _, fun hh => by simp at hh, fun _ => ⟨h0', findF_putE _ _ _⟩⟩
theorem Wh.sync (h : Wh k nx W s) {f : PF} (hf : findF nx s.files = some f) : Wh k nx W (s.sync nx).1 ∧ ((s.sync nx).2 = 13 → (s.sync nx).1.down = true) ∧ ((s.sync nx).2 = 0 → (s.sync nx).1.down = false ∧ findF nx (s.sync nx).1.files = some ⟨f.data, f.data.length⟩) := by
  obtain ⟨b1, b2, b3⟩ := h.begin
  unfold PD.sync
  by_cases h0 : s.begin.2 ≠ 0
  · rw [if_pos h0]; exact ⟨b1, b2, fun hh => absurd hh h0⟩
  · rw [if_neg h0, hf]
    exact ⟨h.putB _, fun hh => by simp at hh, fun _ => ⟨b3 (Decidable.not_not.1 h0), findF_putE _ _ _⟩⟩
theorem Wh.remove (h : Wh k nx W s) : Wh k nx W (s.remove nx).1 ∧ ((s.remove nx).2 = 13 → (s.remove nx).1.down = true) ∧ ((s.remove nx).2 = 0 → (s.remove nx).1.down = false ∧ (s.remove nx).1.files = delF nx s.files) := by
  obtain ⟨b1, b2, b3⟩ := h.begin
  unfold PD.remove
  by_cases h0 : s.begin.2 ≠ 0
  · rw [if_pos h0]; exact ⟨b1, b2, fun hh => absurd hh h0⟩
  · rw [if_neg h0]
    cases findF nx s.files with
    | none => exact ⟨b1, fun hh => by simp at hh, fun hh => by simp at hh⟩
    | some f => exact ⟨h.delB, fun hh => by simp at hh, fun _ => ⟨b3 (Decidable.not_not.1 h0), rfl⟩⟩
theorem Wh.rename (h : Wh k nx W s) {f : PF} (hf : findF nx s.files = some f) : ((s.rename nx k).2 ≠ 0 ∧ Wh k nx W (s.rename nx k).1 ∧ ((s.rename nx k).2 = 13 → (s.rename nx k).1.down = true)) ∨ ((s.rename nx k).2 = 0 ∧ findF k (s.rename nx k).1.files = some f ∧ (∀ p ∈ (s.rename nx k).1.files, p.1 = k ∨ p.1 = nx) ∧ (s.rename nx k).1.fe ≠ 13) := by
  obtain ⟨b1, b2, b3⟩ := h.begin
  unfold PD.rename
  by_cases h0 : s.begin.2 ≠ 0
  · rw [if_pos h0]; exact .inl ⟨h0, b1, b2⟩
  · rw [if_neg h0]
    by_cases h1 : isNm k = false
    · rw [if_pos h1]; exact .inl ⟨by simp, b1, fun hh => by simp at hh⟩
    · rw [if_neg h1, hf]
      exact .inr ⟨rfl, findF_putE _ _ _, fun p hp => by rcases putF_mem hp with rfl | hp; exact .inl rfl; exact h.keys p (delF_mem hp), b1.fe⟩
theorem Wh.failP (h : Wh k nx W s) {e : Int} (he : e ≠ 0) (hd : e = 13 → s.down = true) : (failP s nx e).2 ≠ 0 ∧ Wh k nx W (failP s nx e).1 ∧ ((failP s nx e).2 = 13 → (failP s nx e).1.down = true) := by
  unfold Go.Wk.failP
  by_cases h1 : e ≠ 13 ∧ s.has nx = true
  · rw [if_pos h1]; exact ⟨he, h.remove.1, fun hh => absurd hh h1.1⟩
  · rw [if_neg h1]; exact ⟨he, h, hd⟩
theorem Wh.chP (P : PD × Int → Prop) (hP : ∀ r : PD × Int, r.2 ≠ 0 → Wh k nx W r.1 → (r.2 = 13 → r.1.down = true) → P r) {r : PD × Int} {K : PD → PD × Int} (h : Wh k nx W r.1) (hd : r.2 = 13 → r.1.down = true) (hk : r.2 = 0 → P (K r.1)) : P (chP r nx K) := by
  unfold Go.Wk.chP
  by_cases h0 : r.2 ≠ 0
  · rw [if_pos h0]
    obtain ⟨q1, q2, q3⟩ := h.failP h0 hd
    exact hP _ q1 q2 q3
  · rw [if_neg h0]; exact hk (Decidable.not_not.1 h0)
theorem save_whole {n : List UInt8} (h : Wh n (nwN n) W s) (b : List UInt8) :
    ((saveP s n b).2 ≠ 0 ∧ Wh n (nwN n) W (saveP s n b).1 ∧ ((saveP s n b).2 = 13 → (saveP s n b).1.down = true)) ∨ ((saveP s n b).2 = 0 ∧ Wh n (nwN n) b (saveP s n b).1) := by
  have hP : ∀ r : PD × Int, r.2 ≠ 0 → Wh n (nwN n) W r.1 → (r.2 = 13 → r.1.down = true) → (r.2 ≠ 0 ∧ Wh n (nwN n) W r.1 ∧ (r.2 = 13 → r.1.down = true)) ∨ (r.2 = 0 ∧ Wh n (nwN n) b r.1) := fun r a1 a2 a3 => .inl ⟨a1, a2, a3⟩
  have P := fun r : PD × Int => (r.2 ≠ 0 ∧ Wh n (nwN n) W r.1 ∧ (r.2 = 13 → r.1.down = true)) ∨ (r.2 = 0 ∧ Wh n (nwN n) b r.1)
  unfold saveP
  have h0 : Wh n (nwN n) W (if s.has (nwN n) = true then s.remove (nwN n) else (s, 0)).1 ∧ ((if s.has (nwN n) = true then s.remove (nwN n) else (s, 0)).2 = 13 → (if s.has (nwN n) = true then s.remove (nwN n) else (s, 0)).1.down = true) := by
    split
    · exact ⟨h.remove.1, h.remove.2.1⟩
    · exact ⟨h, fun hh => by simp at hh⟩
  refine Wh.chP (fun r : PD × Int => (r.2 ≠ 0 ∧ Wh n (nwN n) W r.1 ∧ (r.2 = 13 → r.1.down = true)) ∨ (r.2 = 0 ∧ Wh n (nwN n) b r.1)) hP h0.1 h0.2 fun _ => ?_
  obtain ⟨c1, c2, c3⟩ := h0.1.create
  refine Wh.chP (fun r : PD × Int => (r.2 ≠ 0 ∧ Wh n (nwN n) W r.1 ∧ (r.2 = 13 → r.1.down = true)) ∨ (r.2 = 0 ∧ Wh n (nwN n) b r.1)) hP c1 c2 fun z1 => ?_
  obtain ⟨d1, d2, d3⟩ := c1.append b (c3 z1).2
  refine Wh.chP (fun r : PD × Int => (r.2 ≠ 0 ∧ Wh n (nwN n) W r.1 ∧ (r.2 = 13 → r.1.down = true)) ∨ (r.2 = 0 ∧ Wh n (nwN n) b r.1)) hP d1 d2 fun z2 => ?_
  obtain ⟨e1, e2, e3⟩ := d1.sync (d3 z2).2
  refine Wh.chP (fun r : PD × Int => (r.2 ≠ 0 ∧ Wh n (nwN n) W r.1 ∧ (r.2 = 13 → r.1.down = true)) ∨ (r.2 = 0 ∧ Wh n (nwN n) b r.1)) hP e1 e2 fun z3 => ?_
  rcases e1.rename (e3 z3).2 with ⟨f1, f2, f3⟩ | ⟨f1, f2, f3, f4⟩
  · exact Wh.chP (fun r : PD × Int => (r.2 ≠ 0 ∧ Wh n (nwN n) W r.1 ∧ (r.2 = 13 → r.1.down = true)) ∨ (r.2 = 0 ∧ Wh n (nwN n) b r.1)) hP f2 f3 fun z4 => absurd z4 f1
  · unfold Go.Wk.chP
    rw [if_neg (by rw [f1]; simp)]
    exact .inr ⟨rfl, f2, f3, h.ne, f4⟩
end
end Go.Wk
