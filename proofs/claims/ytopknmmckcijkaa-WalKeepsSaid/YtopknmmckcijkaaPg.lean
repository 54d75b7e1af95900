/-
  The program's disk: what is found under other names. Plain laws.
-/
import Derived.Test.YtopknmmckcijkaaPd
import Derived.Test.YtopknmmckcijkaaWx
set_option linter.unusedVariables false
set_option linter.unusedSimpArgs false
namespace Go.Wk
open Go Go.RowKit
theorem findF_put_ne {k k' : List UInt8} (f : PF) (h : k ≠ k') : ∀ l : Fl, findF k (putF k' f l) = findF k l
  | [] => by simp [findF, putF, Ne.symm h]
  | p :: r => by
    by_cases hk : p.1 = k'
    · rw [putF, if_pos hk]
      have : p.1 ≠ k := fun hh => h (hh.symm.trans hk)
      simp [findF, List.find?_cons, Ne.symm h, this]
    · rw [putF, if_neg hk]
      have ih := findF_put_ne f h r
      unfold findF at ih ⊢
      rw [List.find?_cons, List.find?_cons]
      by_cases hp : p.1 = k
      · simp [hp]
      · simp only [hp, decide_false]; exact ih
theorem findF_del_ne {k k' : List UInt8} (h : k ≠ k') : ∀ l : Fl, findF k (delF k' l) = findF k l
  | [] => rfl
  | p :: r => by
    by_cases hk : p.1 = k'
    · rw [delF, if_pos hk]
      have : p.1 ≠ k := fun hh => h (hh.symm.trans hk)
      simp [findF, List.find?_cons, this]
    · rw [delF, if_neg hk]
      have ih := findF_del_ne h r
      unfold findF at ih ⊢
      rw [List.find?_cons, List.find?_cons]
      by_cases hp : p.1 = k
      · simp [hp]
      · simp only [hp, decide_false]; exact ih
theorem findF_putE (k : List UInt8) (f : PF) : ∀ l : Fl, findF k (putF k f l) = some f
  | [] => by simp [findF, putF]
  | p :: r => by
    by_cases hk : p.1 = k
    · rw [putF, if_pos hk]; simp [findF]
    · rw [putF, if_neg hk]
      have ih := findF_putE k f r
      unfold findF at ih ⊢
      rw [List.find?_cons]
      simp only [hk, decide_false]; exact ih
def Sf (D : List UInt8) (a : Nat) (f : PF) : Prop := f.data = D.take f.data.length ∧ a ≤ f.sure ∧ f.sure ≤ f.data.length ∧ f.data.length ≤ D.length
theorem bootF_find1 (keep : List Int) (k : List UInt8) (D : List UInt8) (a : Nat) : ∀ (ns : List (List UInt8)) (i : Nat) (l : Fl) (f : PF), findF k l = some f → Sf D a f →
    ∃ f', findF k (bootF keep i ns l) = some f' ∧ Sf D a f' ∧ (k ∈ ns ∨ f.sure = f.data.length → f'.sure = f'.data.length)
  | [], _, l, f, h, hs => ⟨f, h, hs, fun hh => by rcases hh with hh | hh; cases hh; exact hh⟩
  | n :: r, i, l, f, h, hs => by
    rw [bootF]
    by_cases hk : n = k
    · subst hk
      rw [h]
      dsimp only
      obtain ⟨s1, s2, s3, s4⟩ := hs
      have hle := keepN_le (f := f) s3 keep[i]?
      have hge : f.sure ≤ keepN f keep[i]? := by unfold keepN; omega
      have hl : (f.data.take (keepN f keep[i]?)).length = keepN f keep[i]? := by rw [List.length_take]; omega
      obtain ⟨f', q1, q2, q3⟩ := bootF_find1 keep n D a r (i + 1) _ ⟨f.data.take (keepN f keep[i]?), keepN f keep[i]?⟩ (findF_putE n _ l)
        ⟨by dsimp only; rw [hl, s1, List.take_take]; congr 1; omega, by dsimp only; omega, by dsimp only; omega, by dsimp only; omega⟩
      exact ⟨f', q1, q2, fun _ => q3 (.inr (by dsimp only; omega))⟩
    · have hf : findF k (match findF n l with | none => l | some f => putF n ⟨f.data.take (keepN f keep[i]?), keepN f keep[i]?⟩ l) = some f := by
        cases findF n l with
        | none => exact h
        | some g => dsimp only; rw [findF_put_ne _ (Ne.symm hk)]; exact h
      obtain ⟨f', q1, q2, q3⟩ := bootF_find1 keep k D a r (i + 1) _ f hf hs
      exact ⟨f', q1, q2, fun hh => q3 (hh.imp (fun hm => by rcases List.mem_cons.1 hm with hm | hm; exact absurd hm.symm hk; exact hm) id)⟩
theorem findF_key {k : List UInt8} {f : PF} {l : Fl} (h : findF k l = some f) : k ∈ l.map (·.1) := List.mem_map_of_mem (f := (·.1)) (findF_mem h)
theorem delF_mem {k : List UInt8} : ∀ {l : Fl} {p : List UInt8 × PF}, p ∈ delF k l → p ∈ l
  | [], p, h => by simp [delF] at h
  | q :: r, p, h => by
    by_cases hk : q.1 = k
    · rw [delF, if_pos hk] at h; exact List.mem_cons_of_mem _ h
    · rw [delF, if_neg hk] at h
      rcases List.mem_cons.1 h with h | h
      · rw [h]; exact List.mem_cons_self
      · exact List.mem_cons_of_mem _ (delF_mem h)
theorem crash_down (s : PD) (n : List UInt8) : ((s.crash 0).sync n).1.down = true ∧ ((s.crash 0).sync n).1.files = s.files := by
  have hc : (s.crash 0).cc = s.calls + 1 := by
    unfold PD.crash armP
    rw [if_neg (by omega)]; dsimp only; omega
  have hb : (s.crash 0).begin.2 = 13 ∧ (s.crash 0).begin.1.down = true := by
    unfold PD.begin
    by_cases hd : s.down = true
    · rw [if_pos (show (s.crash 0).down = true from hd)]; exact ⟨rfl, hd⟩
    · rw [if_neg (show ¬ (s.crash 0).down = true from hd), if_pos (by rw [hc]; rfl)]; exact ⟨rfl, rfl⟩
  unfold PD.sync
  rw [if_pos (by rw [hb.1]; omega)]
  exact ⟨hb.2, (PD.begin_files _).trans rfl⟩
theorem armP_fe {calls : Nat} {a e : Int} (h : e ≠ 13) : (armP calls a e).2 ≠ 13 := by
  unfold armP; split
  · simp
  · exact h
theorem nodup_one {k : List UInt8} {l : Fl} (hn : (l.map (·.1)).Nodup) (hk : ∀ p ∈ l, p.1 = k) (hf : ∃ f, findF k l = some f) : l.length = 1 := by
  obtain ⟨f, hf⟩ := hf
  match l, hn, hk, hf with
  | [], _, _, hf => simp [findF] at hf
  | [_], _, _, _ => rfl
  | a :: b :: r, hn, hk, _ =>
    exfalso
    have h1 := hk a (by simp)
    have h2 := hk b (by simp)
    simp only [List.map_cons, List.nodup_cons, List.mem_cons] at hn
    exact hn.1 (.inl (h1.trans h2.symm))
theorem delF_ne {k : List UInt8} {l : Fl} (hn : (l.map (·.1)).Nodup) {p : List UInt8 × PF} (hp : p ∈ delF k l) : p.1 ≠ k := by
  match l, hn, hp with
  | [], _, hp => simp [delF] at hp
  | q :: r, hn, hp =>
    simp only [List.map_cons, List.nodup_cons] at hn
    by_cases hk : q.1 = k
    · rw [delF, if_pos hk] at hp
      intro hh
      exact hn.1 (by rw [hk, ← hh]; exact List.mem_map_of_mem (f := (·.1)) hp)
    · rw [delF, if_neg hk] at hp
      rcases List.mem_cons.1 hp with rfl | hp
      · exact hk
      · exact delF_ne hn.2 hp
end Go.Wk
