/-
  Chapter 18: the program's files and the document's are the same; plain Lean.
-/
import Derived.Test.YtknenggmdnpimaaQ1
import Derived.Test.YtknenggmdnpimaaPg
set_option linter.unusedVariables false
set_option linter.unusedSimpArgs false
namespace Go.Proofs.Ytknenggmdnpimaa
open Go Go.RowKit Go.Wk
theorem putF_eq (k : List UInt8) (f : PF) : ∀ l : Fl, putF k f l = putP k f l
  | [] => rfl
  | p :: r => by rw [putF, putP, putF_eq k f r]
theorem delF_eq (k : List UInt8) : ∀ l : Fl, delF k l = delP k l
  | [] => rfl
  | p :: r => by rw [delF, delP, delF_eq k r]
def usF (l : Fl) : Nat := (l.map fun p => p.2.data.length).sum
theorem usF_put_some {k : List UInt8} {f0 : PF} (f : PF) : ∀ {l : Fl}, findF k l = some f0 → usF (putF k f l) + f0.data.length = usF l + f.data.length ∧ (putF k f l).length = l.length
  | [], h => by simp [findF] at h
  | p :: r, h => by
    by_cases hk : p.1 = k
    · simp only [findF, List.find?_cons, hk, decide_true, Option.map_some, Option.some.injEq] at h
      subst h
      rw [putF, if_pos hk]
      simp [usF]; omega
    · have h' : findF k r = some f0 := by
        simp only [findF, List.find?_cons, hk, decide_false] at h; exact h
      have ⟨h1, h2⟩ := usF_put_some f h'
      rw [putF, if_neg hk]
      simp only [usF, List.map_cons, List.sum_cons, List.length_cons] at h1 ⊢
      exact ⟨by omega, by omega⟩
theorem usF_put_none {k : List UInt8} (f : PF) : ∀ {l : Fl}, findF k l = none → usF (putF k f l) = usF l + f.data.length ∧ (putF k f l).length = l.length + 1
  | [], h => by simp [putF, usF]
  | p :: r, h => by
    by_cases hk : p.1 = k
    · simp [findF, List.find?_cons, hk] at h
    · have h' : findF k r = none := by
        simp only [findF, List.find?_cons, hk, decide_false] at h; exact h
      have ⟨h1, h2⟩ := usF_put_none f h'
      rw [putF, if_neg hk]
      simp only [usF, List.map_cons, List.sum_cons, List.length_cons] at h1 ⊢
      exact ⟨by omega, by omega⟩
theorem usF_del {k : List UInt8} {f0 : PF} : ∀ {l : Fl}, findF k l = some f0 → usF (delF k l) + f0.data.length = usF l ∧ (delF k l).length + 1 = l.length
  | [], h => by simp [findF] at h
  | p :: r, h => by
    by_cases hk : p.1 = k
    · simp only [findF, List.find?_cons, hk, decide_true, Option.map_some, Option.some.injEq] at h
      subst h
      rw [delF, if_pos hk]
      simp [usF]; omega
    · have h' : findF k r = some f0 := by
        simp only [findF, List.find?_cons, hk, decide_false] at h; exact h
      have ⟨h1, h2⟩ := usF_del h'
      rw [delF, if_neg hk]
      simp only [usF, List.map_cons, List.sum_cons, List.length_cons] at h1 ⊢
      exact ⟨by omega, by omega⟩
theorem usF_put_le (k : List UInt8) (f : PF) (l : Fl) : usF (putF k f l) ≤ usF l + f.data.length ∧ (putF k f l).length ≤ l.length + 1 := by
  cases h : findF k l with
  | none => have := usF_put_none f h; omega
  | some f0 => have := usF_put_some f h; omega
def fp (x : Fi) : List UInt8 × PF := (x.Name, ⟨x.Data, x.Sure.toNat⟩)
structure Fs (L : List Fi) (l : Fl) : Prop where
  perm : (L.map fp).Perm l
  sure : ∀ x ∈ L, 0 ≤ x.Sure ∧ x.Sure ≤ x.Data.length
  keys : (L.map fun x => x.Name).Nodup
  ris : Rising (fun x : Fi => x.Name) L
  nm : ∀ x ∈ L, isNm x.Name = true
theorem Fs.nil : Fs [] [] := ⟨.refl _, by simp, by simp, List.Pairwise.nil, by simp⟩
section
variable {L : List Fi} {l : Fl} {d : Dd} {k : List UInt8}
theorem Fs.len (h : Fs L l) : L.length = l.length := by have := h.perm.length_eq; simpa using this
theorem map_fp (L : List Fi) : (L.map fp).map (·.1) = L.map fun x => x.Name := by rw [List.map_map]; rfl
theorem Fs.keysP (h : Fs L l) : (L.map fun x => x.Name).Perm (l.map (·.1)) := by
  have := h.perm.map (·.1)
  rwa [map_fp] at this
theorem Fs.keysL (h : Fs L l) : (l.map (·.1)).Nodup := h.keysP.nodup_iff.1 h.keys
theorem Fs.none (h : Fs L l) (hk : ∀ x ∈ L, x.Name ≠ k) : findF k l = none := by
  show lookP k l = _
  rw [lookP_none]
  intro p hp
  obtain ⟨x, hx, rfl⟩ := List.mem_map.1 (h.perm.mem_iff.2 hp)
  exact hk x hx
theorem Fs.some (h : Fs L l) {x : Fi} (hx : x ∈ L) : findF x.Name l = some ⟨x.Data, x.Sure.toNat⟩ :=
  lookP_of_mem h.keysL (h.perm.mem_iff.1 (List.mem_map_of_mem (f := fp) hx))
theorem Fs.used (h : Fs L l) : (L.map fun x => x.Data.length).sum = usF l := by
  have := (h.perm.map fun p => p.2.data.length).sum_nat
  rw [List.map_map] at this
  exact this
theorem Fs.sureL (h : Fs L l) : ∀ p ∈ l, p.2.sure ≤ p.2.data.length := by
  intro p hp
  obtain ⟨x, hx, rfl⟩ := List.mem_map.1 (h.perm.mem_iff.2 hp)
  have := h.sure x hx
  show x.Sure.toNat ≤ x.Data.length
  omega
theorem Fs.nmL (h : Fs L l) : ∀ p ∈ l, isNm p.1 = true := by
  intro p hp
  obtain ⟨x, hx, rfl⟩ := List.mem_map.1 (h.perm.mem_iff.2 hp)
  exact h.nm x hx
theorem filter_fp (L : List Fi) (k : List UInt8) : (L.filter fun x => decide (x.Name ≠ k)).map fp = (L.map fp).filter fun p => decide (p.1 ≠ k) := by
  rw [List.filter_map]; rfl
theorem Fs.put (h : Fs L l) {f : Fi} {L' : List Fi} (hr : Rising (fun x : Fi => x.Name) L') (hp : L'.Perm (f :: L.filter fun x => decide (x.Name ≠ f.Name))) (hs : 0 ≤ f.Sure ∧ f.Sure ≤ f.Data.length) (hn : isNm f.Name = true) :
    Fs L' (putF f.Name ⟨f.Data, f.Sure.toNat⟩ l) := by
  have hm : ∀ x, x ∈ L' → x = f ∨ x ∈ L := fun x hx => by
    rcases List.mem_cons.1 (hp.mem_iff.1 hx) with hh | hh
    · exact .inl hh
    · exact .inr (List.mem_filter.1 hh).1
  refine ⟨?_, ?_, ?_, hr, ?_⟩
  · rw [putF_eq]
    refine (hp.map fp).trans (.trans ?_ (putP_perm _ _ l).symm)
    rw [delP_filter _ _ h.keysL, List.map_cons, filter_fp]
    refine (List.Perm.trans ?_ (List.perm_append_singleton _ _).symm)
    exact (h.perm.filter _).cons _
  · intro x hx
    rcases hm x hx with rfl | hh
    · exact hs
    · exact h.sure x hh
  · refine (hp.map fun x => x.Name).nodup_iff.2 ?_
    rw [List.map_cons, List.nodup_cons]
    refine ⟨fun hh => ?_, h.keys.sublist (List.filter_sublist.map _)⟩
    obtain ⟨x, hx, hxe⟩ := List.mem_map.1 hh
    have := (List.mem_filter.1 hx).2
    simp [hxe] at this
  · intro x hx
    rcases hm x hx with rfl | hh
    · exact hn
    · exact h.nm x hh
theorem Fs.del (h : Fs L l) (k : List UInt8) : Fs (L.filter fun x => decide (x.Name ≠ k)) (delF k l) := by
  refine ⟨?_, fun x hx => h.sure x (List.mem_filter.1 hx).1, h.keys.sublist (List.filter_sublist.map _), h.ris.sublist List.filter_sublist, fun x hx => h.nm x (List.mem_filter.1 hx).1⟩
  rw [delF_eq, delP_filter _ _ h.keysL, filter_fp]
  exact h.perm.filter _
/-- What the document finds. -/
theorem Fs.find (h : Fs d.L l) (hl : d.L.length ≤ 4096) (k : List UInt8) :
    (m_limnographref18_Disk_Find d k = Option.some (-1) ∧ findF k l = Option.none) ∨ ∃ (n : Nat) (x : Fi), d.L[n]? = Option.some x ∧ x ∈ d.L ∧ x.Name = k ∧ m_limnographref18_Disk_Find d k = Option.some (n : Int) ∧ findF k l = Option.some ⟨x.Data, x.Sure.toNat⟩ := by
  rcases splitF (fun x : Fi => decide (x.Name = k)) d.L with hh | ⟨a, x, b, h0, h1, h2⟩
  · have hh' : ∀ x ∈ d.L, x.Name ≠ k := fun x hx => by simpa using hh x hx
    exact .inl ⟨find_none (by omega) hh', h.none hh'⟩
  · have h2' : x.Name = k := by simpa using h2
    have hx : x ∈ d.L := by rw [h0]; simp
    refine .inr ⟨a.length, x, by rw [h0]; simp, hx, h2', find_some h0 (by omega) (fun y hy => by simpa using h1 y hy) h2', ?_⟩
    rw [← h2']
    exact h.some hx
theorem Fs.putD (h : Fs d.L l) (hl : d.L.length ≤ 4096) (f : Fi) (hs : 0 ≤ f.Sure ∧ f.Sure ≤ f.Data.length) (hn : isNm f.Name = true) :
    ∃ L', m_limnographref18_Disk_put d f = Option.some { d with L := L' } ∧ Fs L' (putF f.Name ⟨f.Data, f.Sure.toNat⟩ l) := by
  obtain ⟨L', h1, h2, h3⟩ := put_eq d f (by omega) h.ris
  exact ⟨L', h1, h.put h2 h3 hs hn⟩
end
/-- When a call is to fail. -/
def ArmR (calls : Nat) (cc C : Int) : Prop := (0 ≤ C ∧ C < 4611686018427387904 ∧ cc = calls + 1 + C) ∨ (C = -1 ∧ cc ≤ calls) ∨ (4611686018427387904 ≤ C + calls ∧ C ≤ 9223372036854775807 ∧ cc ≤ calls)
theorem ArmR.step {k : Nat} {cc C : Int} (h : ArmR k cc C) (hk : k ≤ 1000) : (C = 0 ↔ (k : Int) + 1 = cc) ∧ ArmR (k + 1) cc (if C ≥ 0 then W64 (C - 1) else C) := by
  unfold ArmR at h
  constructor
  · omega
  · by_cases h0 : C ≥ 0
    · rw [if_pos h0, W64_id (by omega) (by omega)]
      unfold ArmR; omega
    · rw [if_neg h0]
      unfold ArmR; omega
structure Rel (c : Nat) (s : PD) (d : Dd) : Prop where
  fs : Fs d.L s.files
  len : d.L.length ≤ 4096
  cap : d.Capacity = s.cap
  used : s.used ≤ s.cap
  capL : s.cap ≤ 4194304
  down : d.Down = s.down
  callsE : d.Calls = s.calls
  few : s.calls ≤ c
  crash : ArmR s.calls s.cc d.Crash
  fail : ArmR s.calls s.fc d.Fail
  err : 0 ≤ d.Fail → s.fc = s.calls + 1 + d.Fail → d.Err = s.fe
theorem begin_eq (d : Dd) (h : d.Down = false) : m_limnographref18_Disk_begin d =
    if d.Crash = 0 then some (13, { d with Calls := W64 (d.Calls + 1), Crash := if d.Crash ≥ 0 then W64 (d.Crash - 1) else d.Crash, Fail := if d.Fail ≥ 0 then W64 (d.Fail - 1) else d.Fail, Down := true })
    else if d.Fail = 0 then some (d.Err, { d with Calls := W64 (d.Calls + 1), Crash := if d.Crash ≥ 0 then W64 (d.Crash - 1) else d.Crash, Fail := if d.Fail ≥ 0 then W64 (d.Fail - 1) else d.Fail })
    else some (0, { d with Calls := W64 (d.Calls + 1), Crash := if d.Crash ≥ 0 then W64 (d.Crash - 1) else d.Crash, Fail := if d.Fail ≥ 0 then W64 (d.Fail - 1) else d.Fail }) := by
  unfold m_limnographref18_Disk_begin
  rw [if_neg (by rw [h]; simp)]
  obtain ⟨L, C, D, K, F, X, E⟩ := d
  dsimp only at h ⊢
  simp only [jn_eq]
  by_cases h1 : X ≥ 0
  · simp only [if_pos h1]
    by_cases h2 : F ≥ 0
    · simp only [if_pos h2]
    · simp only [if_neg h2]
  · simp only [if_neg h1]
    by_cases h2 : F ≥ 0
    · simp only [if_pos h2]
    · simp only [if_neg h2]
theorem Rel.begin {c : Nat} {s : PD} {d : Dd} (h : Rel c s d) (hc : c ≤ 999) : ∃ d', m_limnographref18_Disk_begin d = some (s.begin.2, d') ∧ Rel (c + 1) s.begin.1 d' ∧ d'.L = d.L := by
  have hfew := h.few
  cases hd : d.Down with
  | true =>
    have hs : s.down = true := by rw [← h.down, hd]
    have hb : s.begin = (s, 13) := by unfold PD.begin; rw [if_pos hs]
    refine ⟨d, ?_, ?_, rfl⟩
    · unfold m_limnographref18_Disk_begin; rw [if_pos hd, hb]
    · rw [hb]; exact { h with few := by show s.calls ≤ c + 1; omega }
  | false =>
    have hs : ¬ s.down = true := by rw [← h.down, hd]; simp
    obtain ⟨c1, c2⟩ := h.crash.step (by omega)
    obtain ⟨f1, f2⟩ := h.fail.step (by omega)
    have hw : W64 (d.Calls + 1) = ((s.calls + 1 : Nat) : Int) := by rw [h.callsE, W64_id (by omega) (by omega)]; rfl
    have he : 0 ≤ (if d.Fail ≥ 0 then W64 (d.Fail - 1) else d.Fail) → s.fc = ((s.calls + 1 : Nat) : Int) + 1 + (if d.Fail ≥ 0 then W64 (d.Fail - 1) else d.Fail) → d.Err = s.fe := by
      by_cases h0 : d.Fail ≥ 0
      · rw [if_pos h0]
        have hf := h.fail
        unfold ArmR at hf
        rw [W64_id (by omega) (by omega)]
        intro _ h2
        exact h.err h0 (by omega)
      · rw [if_neg h0]; intro hh; omega
    rw [begin_eq d hd]
    by_cases hcr : d.Crash = 0
    · rw [if_pos hcr]
      have hb : s.begin = ({ s with calls := s.calls + 1, down := true }, 13) := by unfold PD.begin; rw [if_neg hs, if_pos (c1.1 hcr)]
      rw [hb]
      exact ⟨_, rfl, ⟨h.fs, h.len, h.cap, h.used, h.capL, rfl, hw, by show s.calls + 1 ≤ c + 1; omega, c2, f2, he⟩, rfl⟩
    · rw [if_neg hcr]
      by_cases hfr : d.Fail = 0
      · rw [if_pos hfr]
        have hb : s.begin = ({ s with calls := s.calls + 1 }, s.fe) := by unfold PD.begin; rw [if_neg hs, if_neg (fun hh => hcr (c1.2 hh)), if_pos (f1.1 hfr)]
        have hE : d.Err = s.fe := h.err (by omega) (by have := f1.1 hfr; omega)
        rw [hb]
        refine ⟨_, congrArg some (Prod.ext hE rfl), ⟨h.fs, h.len, h.cap, h.used, h.capL, h.down, hw, by show s.calls + 1 ≤ c + 1; omega, c2, f2, he⟩, rfl⟩
      · rw [if_neg hfr]
        have hb : s.begin = ({ s with calls := s.calls + 1 }, 0) := by unfold PD.begin; rw [if_neg hs, if_neg (fun hh => hcr (c1.2 hh)), if_neg (fun hh => hfr (f1.2 hh))]
        rw [hb]
        exact ⟨_, rfl, ⟨h.fs, h.len, h.cap, h.used, h.capL, h.down, hw, by show s.calls + 1 ≤ c + 1; omega, c2, f2, he⟩, rfl⟩
theorem Rel.files {c : Nat} {s : PD} {d : Dd} (h : Rel c s d) {L' : List Fi} {l' : Fl} (hf : Fs L' l') (hl : l'.length ≤ 4096) (hu : usF l' ≤ s.cap) : Rel c { s with files := l' } { d with L := L' } :=
  ⟨hf, by have := hf.len; show L'.length ≤ 4096; omega, h.cap, hu, h.capL, h.down, h.callsE, h.few, h.crash, h.fail, h.err⟩
end Go.Proofs.Ytknenggmdnpimaa
