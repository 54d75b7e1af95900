/-
  Chapter 20: saved and loaded on both disks alike; plain Lean.
-/
import Derived.Test.YtknenggmdnpimaaQ5
import Derived.Test.YtknenggmdnpimaaF5
import Derived.Test.YtknenggmdnpimaaSv
set_option linter.unusedVariables false
set_option linter.unusedSimpArgs false
namespace Go.Proofs.Ytknenggmdnpimaa
open Go Go.RowKit Go.Wk
def seqP (r : PD × Int) (k : PD → PD × Int) : PD × Int := if r.2 ≠ 0 then r else k r.1
def triesP (s : PD) (n b : List UInt8) : PD × Int :=
  seqP (if s.has (nwN n) = true then s.remove (nwN n) else (s, 0)) fun s1 => seqP (s1.create (nwN n)) fun s2 => seqP (s2.append (nwN n) b) fun s3 => seqP (s3.sync (nwN n)) fun s4 => s4.rename (nwN n) n
theorem chP_seq (r : PD × Int) (nx : List UInt8) (k k' : PD → PD × Int) (h : r.2 = 0 → k r.1 = if (k' r.1).2 ≠ 0 then failP (k' r.1).1 nx (k' r.1).2 else ((k' r.1).1, 0)) : chP r nx k = if (seqP r k').2 ≠ 0 then failP (seqP r k').1 nx (seqP r k').2 else ((seqP r k').1, 0) := by
  unfold chP seqP
  by_cases h0 : r.2 ≠ 0
  · rw [if_pos h0, if_pos h0, if_pos h0]
  · rw [if_neg h0, if_neg h0]; exact h (Decidable.not_not.1 h0)
theorem saveP_tries (s : PD) (n b : List UInt8) : saveP s n b = if (triesP s n b).2 ≠ 0 then failP (triesP s n b).1 (nwN n) (triesP s n b).2 else ((triesP s n b).1, 0) := by
  unfold saveP triesP
  refine chP_seq _ _ _ _ fun _ => chP_seq _ _ _ _ fun _ => chP_seq _ _ _ _ fun _ => chP_seq _ _ _ _ fun _ => ?_
  unfold chP; rfl
section
variable {c : Nat} {s : PD} {d : Dd}
theorem Rel.mono (h : Rel c s d) {c' : Nat} (hc : c ≤ c') : Rel c' s d := { h with few := Nat.le_trans h.few hc }
theorem there_eq (s : PD) (n : List UInt8) : m_snap_there s n = some (s.has n) := by
  unfold m_snap_there m_disk_Disk_Size PD.has
  rw [bndS]
  cases hd : s.down with
  | true => rfl
  | false => cases findF n s.files <;> rfl
theorem rem_m (h : s.calls < 4611686018427387904) (n) : m_disk_Disk_Remove s n = some ((s.remove n).2, (s.remove n).1) := by unfold m_disk_Disk_Remove; rw [if_pos h]
theorem cre_m (h : s.calls < 4611686018427387904) (n) : m_disk_Disk_Create s n = some ((s.create n).2, (s.create n).1) := by unfold m_disk_Disk_Create; rw [if_pos h]
theorem syn_m (h : s.calls < 4611686018427387904) (n) : m_disk_Disk_Sync s n = some ((s.sync n).2, (s.sync n).1) := by unfold m_disk_Disk_Sync; rw [if_pos h]
theorem ren_m (h : s.calls < 4611686018427387904) (n m) : m_disk_Disk_Rename s n m = some ((s.rename n m).2, (s.rename n m).1) := by unfold m_disk_Disk_Rename; rw [if_pos h]
theorem app_m (h : Rel c s d) (hc : c ≤ 999) (n b) (hb : b.length ≤ 1073741824) : m_disk_Disk_Append s n b = some ((s.append n b).2, (s.append n b).1) := by unfold m_disk_Disk_Append; rw [if_pos ⟨h.calls62 hc, ⟨h.used, h.capL⟩, hb⟩]
theorem fail_m (h : s.calls < 4611686018427387904) (nx : List UInt8) (e : Int) :
    (if e ≠ 13 then (m_snap_there s nx).bind fun p18 => (if p18 = true then (m_disk_Disk_Remove s nx).bind fun p13 => some (e, p13.2) else some (e, s)) else (if false = true then (m_disk_Disk_Remove s nx).bind fun p13 => some (e, p13.2) else some (e, s))) = some ((failP s nx e).2, (failP s nx e).1) := by
  unfold failP
  rw [there_eq, bndS, rem_m h]
  by_cases h1 : e ≠ 13
  · rw [if_pos h1]
    by_cases h2 : s.has nx = true
    · rw [if_pos h2, if_pos ⟨h1, h2⟩]; rfl
    · rw [if_neg h2, if_neg fun hh => h2 hh.2]
  · rw [if_neg h1, if_neg (by simp), if_neg fun hh => h1 hh.1]
/-- All that the tries come to, on both. -/
theorem tries_eq (h : Rel c s d) (hc : c ≤ 900) (n b : List UInt8) (hn : n.length ≤ 100) : ∃ d', m_limnographref20_tries d n b = some ((triesP s n b).2, d') ∧ Rel (c + 5) (triesP s n b).1 d' := by
  unfold m_limnographref20_tries triesP
  rw [cat_some (by simp; omega), bndS]
  simp only [jn_eq]
  have e0 : n ++ [46, 110, 101, 119] = nwN n := rfl
  rw [e0]
  have h0 : ∃ d1, Rel (c + 1) (if s.has (nwN n) = true then s.remove (nwN n) else (s, 0)).1 d1 ∧ (∀ K : Dd → Option (Int × Dd),
      (if (!d.Down) = true then (m_limnographref18_Disk_Find d (nwN n)).bind fun p41 => (if decide (p41 ≥ 0) = true then (m_limnographref18_Disk_Remove d (nwN n)).bind fun p35 => (if p35.1 ≠ 0 then some (p35.1, p35.2) else K p35.2) else K d)
        else (if false = true then (m_limnographref18_Disk_Remove d (nwN n)).bind fun p35 => (if p35.1 ≠ 0 then some (p35.1, p35.2) else K p35.2) else K d)) =
      if (if s.has (nwN n) = true then s.remove (nwN n) else (s, 0)).2 ≠ 0 then some ((if s.has (nwN n) = true then s.remove (nwN n) else (s, 0)).2, d1) else K d1) := by
    obtain ⟨d', q1, q2⟩ := remove_eq h (by omega) (nwN n)
    cases hd : d.Down with
    | true =>
      have hs : s.has (nwN n) = false := by unfold PD.has; rw [← h.down, hd]; rfl
      rw [hs]
      exact ⟨d, h.more, fun K => by rw [if_neg (by simp), if_neg (by simp), if_neg (by simp)]⟩
    | false =>
      have hs : s.has (nwN n) = (findF (nwN n) s.files).isSome := by unfold PD.has; rw [← h.down, hd]; rfl
      rcases h.fs.find h.len (nwN n) with ⟨f1, f2⟩ | ⟨i, x, f1, f2, f3, f4, f5⟩
      · rw [hs, f2]
        exact ⟨d, h.more, fun K => by rw [f1, if_pos (by simp), bndS, decide_eq_false (by omega), if_neg (by simp), if_neg (by simp)]⟩
      · rw [hs, f5]
        exact ⟨d', q2, fun K => by rw [f4, if_pos (by simp), bndS, decide_eq_true (by omega), if_pos rfl, q1, bndS, if_pos (show (some _ : Option PF).isSome = true from rfl)]⟩
  obtain ⟨d1, r1, hK⟩ := h0
  have hg := hK (fun y11 => (m_limnographref18_Disk_Create y11 (nwN n)).bind fun p13 =>
          if p13.1 ≠ 0 then
          (some (p13.1, p13.2))
          else
          ((m_limnographref18_Disk_Append p13.2 (nwN n) b).bind fun p18 =>
            if p18.1 ≠ 0 then
            (some (p18.1, p18.2))
            else
            ((m_limnographref18_Disk_Sync p18.2 (nwN n)).bind fun p25 =>
              if p25.1 ≠ 0 then
              (some (p25.1, p25.2))
              else
              ((m_limnographref18_Disk_Rename p25.2 (nwN n) n).bind fun p30 =>
                some (p30.1, p30.2)))))
  rw [hg]
  clear hg hK
  generalize (if s.has (nwN n) = true then s.remove (nwN n) else (s, 0)) = t1 at r1
  unfold seqP
  by_cases z1 : t1.2 ≠ 0
  · rw [if_pos z1, if_pos z1]; exact ⟨_, rfl, r1.mono (by omega)⟩
  rw [if_neg z1, if_neg z1]
  obtain ⟨d2, q2, r2⟩ := create_eq r1 (by omega) (nwN n)
  rw [q2, bndS]
  dsimp only
  by_cases z2 : (t1.1.create (nwN n)).2 ≠ 0
  · rw [if_pos z2, if_pos z2]; exact ⟨_, rfl, r2.mono (by omega)⟩
  rw [if_neg z2, if_neg z2]
  obtain ⟨d3, q3, r3⟩ := append_eq r2 (by omega) (nwN n) b
  rw [q3, bndS]
  dsimp only
  by_cases z3 : ((t1.1.create (nwN n)).1.append (nwN n) b).2 ≠ 0
  · rw [if_pos z3, if_pos z3]; exact ⟨_, rfl, r3.mono (by omega)⟩
  rw [if_neg z3, if_neg z3]
  obtain ⟨d4, q4, r4⟩ := sync_eq r3 (by omega) (nwN n)
  rw [q4, bndS]
  dsimp only
  by_cases z4 : (((t1.1.create (nwN n)).1.append (nwN n) b).1.sync (nwN n)).2 ≠ 0
  · rw [if_pos z4, if_pos z4]; exact ⟨_, rfl, r4.mono (by omega)⟩
  rw [if_neg z4, if_neg z4]
  obtain ⟨d5, q5, r5⟩ := rename_eq r4 (by omega) (nwN n) n
  rw [q5, bndS]
  exact ⟨_, rfl, r5.mono (by omega)⟩
def svP (s : PD) (n p : List UInt8) : PD × Int := if n.length > 28 then (s, 3) else saveP s n (wrapL p)
theorem rsave_eq (h : Rel c s d) (hc : c ≤ 900) (n p : List UInt8) (hn : n.length ≤ 100) (hp : p.length ≤ 65536) : ∃ d', m_limnographref20_Save d n p = some ((svP s n p).2, d') ∧ Rel (c + 6) (svP s n p).1 d' := by
  unfold m_limnographref20_Save svP
  by_cases h28 : n.length > 28
  · rw [if_pos (by omega), if_pos h28]; exact ⟨_, rfl, h.mono (by omega)⟩
  rw [if_neg (by omega), if_neg h28, wrap_eq p hp, bndS, if_neg (by simp), saveP_tries]
  obtain ⟨d1, q1, r1⟩ := tries_eq h hc n (wrapL p) hn
  rw [q1, bndS]
  simp only [jn_eq]
  generalize triesP s n (wrapL p) = t at r1
  by_cases z : t.2 ≠ 0
  · rw [if_pos z]
    unfold failP
    rw [cat_some (by simp; omega), bndS]
    have e0 : n ++ [46, 110, 101, 119] = nwN n := rfl
    rw [e0]
    by_cases z2 : t.2 ≠ 13
    · rw [if_pos ⟨z, z2⟩, bndS]
      obtain ⟨d', p1, p2⟩ := remove_eq r1 (by omega) (nwN n)
      rcases r1.fs.find r1.len (nwN n) with ⟨f1, f2⟩ | ⟨i, x, f1, f2, f3, f4, f5⟩
      · have hs : ¬ (t.2 ≠ 13 ∧ t.1.has (nwN n) = true) := by unfold PD.has; rw [f2]; simp
        rw [f1, bndS, decide_eq_false (by omega), if_neg (by simp), if_neg hs]
        exact ⟨_, rfl, r1.mono (by omega)⟩
      · rw [f4, bndS, decide_eq_true (by omega), if_pos rfl, p1, bndS]
        cases hd : t.1.down with
        | true =>
          have hs : ¬ (t.2 ≠ 13 ∧ t.1.has (nwN n) = true) := by unfold PD.has; rw [hd]; simp
          have hr : (t.1.remove (nwN n)).1 = t.1 := by
            have hb : t.1.begin = (t.1, 13) := by unfold PD.begin; rw [if_pos hd]
            unfold PD.remove; rw [hb, if_pos (by simp)]
          rw [if_neg hs]
          rw [hr] at p2
          exact ⟨_, rfl, p2.mono (by omega)⟩
        | false =>
          have hs : t.2 ≠ 13 ∧ t.1.has (nwN n) = true := ⟨z2, by unfold PD.has; rw [hd, f5]; rfl⟩
          rw [if_pos hs]
          exact ⟨_, rfl, p2.mono (by omega)⟩
    · rw [if_neg fun hh => z2 hh.2, if_neg (by simp), if_neg fun hh => z2 hh.1]
      exact ⟨_, rfl, r1.mono (by omega)⟩
  · rw [if_neg fun hh => z hh.1, if_neg (by simp), if_neg z, Decidable.not_not.1 z]
    exact ⟨_, rfl, r1.mono (by omega)⟩
def failT (nx : List UInt8) (e : Int) (s : PD) : Option (Int × PD) :=
  if e ≠ 13 then (m_snap_there s nx).bind fun p18 => (if p18 = true then (m_disk_Disk_Remove s nx).bind fun p13 => some (e, p13.2) else some (e, s)) else (if false = true then (m_disk_Disk_Remove s nx).bind fun p13 => some (e, p13.2) else some (e, s))
def j5T (nx n W : List UInt8) (y31 : Int) (y32 : PD) : Option (Int × PD) :=
  if y31 ≠ 0 then failT nx y31 y32 else
  ((m_disk_Disk_Append y32 nx W).bind fun p35 =>
    if p35.1 ≠ 0 then failT nx p35.1 p35.2 else
    ((m_disk_Disk_Sync p35.2 nx).bind fun p44 =>
      if p44.1 ≠ 0 then failT nx p44.1 p44.2 else
      ((m_disk_Disk_Rename p44.2 nx n).bind fun p49 =>
        if p49.1 = 0 then (some (0, p49.2)) else failT nx p49.1 p49.2)))
def j4T (nx n W : List UInt8) (y28 : Int) (y29 : PD) : Option (Int × PD) :=
  if y28 = 0 then ((m_disk_Disk_Create y29 nx).bind fun p55 => j5T nx n W p55.1 p55.2) else j5T nx n W y28 y29
theorem psave_tail {t1 : PD × Int} {d1 : Dd} (r1 : Rel (c + 1) t1.1 d1) (hc : c ≤ 900) (n p : List UInt8) (hb : (wrapL p).length ≤ 1073741824) : j4T (nwN n) n (wrapL p) t1.2 t1.1 =
    some ((chP t1 (nwN n) fun s1 => chP (s1.create (nwN n)) (nwN n) fun s2 => chP (s2.append (nwN n) (wrapL p)) (nwN n) fun s3 => chP (s3.sync (nwN n)) (nwN n) fun s4 => chP (s4.rename (nwN n) n) (nwN n) fun s5 => (s5, 0)).2,
      (chP t1 (nwN n) fun s1 => chP (s1.create (nwN n)) (nwN n) fun s2 => chP (s2.append (nwN n) (wrapL p)) (nwN n) fun s3 => chP (s3.sync (nwN n)) (nwN n) fun s4 => chP (s4.rename (nwN n) n) (nwN n) fun s5 => (s5, 0)).1) := by
  unfold j4T chP
  by_cases z1 : t1.2 ≠ 0
  · rw [if_neg z1, if_pos z1]; unfold j5T; rw [if_pos z1]; exact fail_m (r1.calls62 (by omega)) _ _
  rw [if_pos (Decidable.not_not.1 z1), if_neg z1, cre_m (r1.calls62 (by omega)), bndS]
  obtain ⟨d2, _, r2⟩ := create_eq r1 (by omega) (nwN n)
  unfold j5T
  dsimp only
  by_cases z2 : (t1.1.create (nwN n)).2 ≠ 0
  · rw [if_pos z2, if_pos z2]; exact fail_m (r2.calls62 (by omega)) _ _
  rw [if_neg z2, if_neg z2, app_m r2 (by omega) _ _ hb, bndS]
  obtain ⟨d3, _, r3⟩ := append_eq r2 (by omega) (nwN n) (wrapL p)
  dsimp only
  by_cases z3 : ((t1.1.create (nwN n)).1.append (nwN n) (wrapL p)).2 ≠ 0
  · rw [if_pos z3, if_pos z3]; exact fail_m (r3.calls62 (by omega)) _ _
  rw [if_neg z3, if_neg z3, syn_m (r3.calls62 (by omega)), bndS]
  obtain ⟨d4, _, r4⟩ := sync_eq r3 (by omega) (nwN n)
  dsimp only
  by_cases z4 : (((t1.1.create (nwN n)).1.append (nwN n) (wrapL p)).1.sync (nwN n)).2 ≠ 0
  · rw [if_pos z4, if_pos z4]; exact fail_m (r4.calls62 (by omega)) _ _
  rw [if_neg z4, if_neg z4, ren_m (r4.calls62 (by omega)), bndS]
  obtain ⟨d5, _, r5⟩ := rename_eq r4 (by omega) (nwN n) n
  dsimp only
  by_cases z5 : ((((t1.1.create (nwN n)).1.append (nwN n) (wrapL p)).1.sync (nwN n)).1.rename (nwN n) n).2 ≠ 0
  · rw [if_neg z5, if_pos z5]; exact fail_m (r5.calls62 (by omega)) _ _
  rw [if_pos (Decidable.not_not.1 z5), if_neg z5]
theorem psave_eq (h : Rel c s d) (hc : c ≤ 900) (n p : List UInt8) (hn : n.length ≤ 100) (hp : p.length ≤ 65536) : m_snap_Save s n p = some ((svP s n p).2, (svP s n p).1) := by
  unfold m_snap_Save svP
  rw [jn_eq, cat_some (by simp; omega), bndS]
  have e0 : n ++ [46, 110, 101, 119] = nwN n := rfl
  rw [e0]
  by_cases h28 : n.length > 28
  · rw [if_pos (by omega), if_pos h28]
  rw [if_neg (by omega), if_neg h28, fwrap_eq p hp, bndS, if_neg (by simp), there_eq, bndS, jn_eq]
  unfold saveP
  have hb : (wrapL p).length ≤ 1073741824 := by simp; omega
  by_cases hh : s.has (nwN n) = true
  · obtain ⟨d', _, q2⟩ := remove_eq h (by omega) (nwN n)
    rw [if_pos hh, if_pos hh, rem_m (h.calls62 (by omega)), bndS]
    exact psave_tail q2 hc n p hb
  · rw [if_neg hh, if_neg hh]
    exact psave_tail (t1 := (s, 0)) h.more hc n p hb
/-- What is loaded. -/
def ldP (s : PD) (n : List UInt8) : PD × (List UInt8 × Bool × Int) :=
  if s.down = true then (s, [], false, 13) else
  if s.has (nwN n) = true ∧ (s.remove (nwN n)).2 ≠ 0 then ((s.remove (nwN n)).1, [], false, (s.remove (nwN n)).2) else
  ((if s.has (nwN n) = true then (s.remove (nwN n)).1 else s), match findF n (if s.has (nwN n) = true then (s.remove (nwN n)).1 else s).files with
    | none => ([], false, 0)
    | some f => if (firstF f.data).2.2 ≠ 0 ∨ (firstF f.data).2.1 ≠ f.data.length then ([], false, 15) else ((firstF f.data).1, true, 0))
theorem remove_up (s : PD) (n : List UInt8) (h : (s.remove n).2 = 0) : (s.remove n).1.down = false := by
  have hu := s.begin_up
  unfold PD.remove at h ⊢
  by_cases h0 : s.begin.2 ≠ 0
  · rw [if_pos h0] at h; exact absurd h h0
  · rw [if_neg h0] at h ⊢
    have hu' := hu (Decidable.not_not.1 h0)
    cases hf : findF n s.files with
    | none => rw [hf] at h; simp at h
    | some f => exact hu'
theorem pload_tail (h : Rel c s d) (n : List UInt8) (hd : s.down = false) : ((m_disk_Disk_Read s n).bind fun p12 => if p12.2 = 7 then (some (([] : List UInt8), false, (0 : Int), s)) else ((m_frame_First p12.1).bind fun p18 => if (p18.2.2 ≠ 0) ∨ (p18.2.1 ≠ (p12.1.length : Int)) then (some (([] : List UInt8), false, 15, s)) else (some (p18.1, true, 0, s)))) =
    some (match findF n s.files with | none => ([], false, 0, s) | some f => if (firstF f.data).2.2 ≠ 0 ∨ (firstF f.data).2.1 ≠ f.data.length then ([], false, 15, s) else ((firstF f.data).1, true, 0, s)) := by
  have hr := read_m h n
  rw [if_neg (show ¬ s.down = true by rw [hd]; simp)] at hr
  rw [hr, bndS]
  rcases h.fs.find h.len n with ⟨f1, f2⟩ | ⟨i, x, f1, f2, f3, f4, f5⟩
  · rw [f2]; rfl
  · rw [f5]
    dsimp only
    have hx := h.dataLe f2
    rw [if_neg (by omega), first_eq _ (by omega), bndS]
    unfold fst3
    dsimp only
    by_cases hz : (firstF x.Data).2.2 ≠ 0 ∨ (firstF x.Data).2.1 ≠ x.Data.length
    · rw [if_pos hz, if_pos (by omega)]
    · rw [if_neg hz, if_neg (by omega)]
theorem rload_tail (h : Rel c s d) (n : List UInt8) : ∃ g : T_limnographref20_Got, ((m_limnographref18_Disk_Find d n).bind fun p23 => if p23 < 0 then (some (({ B := ([] : List UInt8), Is := false, E := 0 } : T_limnographref20_Got), d)) else ((idx d.L p23).bind fun z34 => (m_limnographref04_First z34.Data 0).bind fun p38 =>
      if (p38.E ≠ 0) ∨ (p38.N ≠ (z34.Data.length : Int)) then (some (({ B := ([] : List UInt8), Is := false, E := 15 } : T_limnographref20_Got), d)) else (some (({ B := p38.B, Is := true, E := 0 } : T_limnographref20_Got), d)))) = some (g, d) ∧
    (g.B, g.Is, g.E) = (match findF n s.files with | none => ([], false, 0) | some f => if (firstF f.data).2.2 ≠ 0 ∨ (firstF f.data).2.1 ≠ f.data.length then ([], false, 15) else ((firstF f.data).1, true, 0)) := by
  rcases h.fs.find h.len n with ⟨f1, f2⟩ | ⟨i, x, f1, f2, f3, f4, f5⟩
  · rw [f1, f2, bndS, if_pos (by omega)]; exact ⟨_, rfl, rfl⟩
  · rw [f4, f5, bndS, if_neg (by omega), idx_nat, f1, bndS]
    have hx := h.dataLe f2
    rw [refFirst_eq _ (by omega), bndS]
    unfold fst3
    dsimp only
    by_cases hz : (firstF x.Data).2.2 ≠ 0 ∨ (firstF x.Data).2.1 ≠ x.Data.length
    · rw [if_pos hz, if_pos (by omega)]; exact ⟨_, rfl, rfl⟩
    · rw [if_neg hz, if_neg (by omega)]; exact ⟨_, rfl, rfl⟩
theorem pload_eq (h : Rel c s d) (hc : c ≤ 900) (n : List UInt8) (hn : n.length ≤ 100) : m_snap_Load s n = some ((ldP s n).2.1, (ldP s n).2.2.1, (ldP s n).2.2.2, (ldP s n).1) := by
  unfold m_snap_Load ldP m_disk_Disk_Down
  rw [bndS]
  by_cases hd : s.down = true
  · rw [if_pos hd, if_pos hd]
  rw [if_neg hd, if_neg hd, cat_some (by simp; omega), bndS]
  have e0 : n ++ [46, 110, 101, 119] = nwN n := rfl
  rw [e0, there_eq, bndS, jn_eq, bndS, rem_m (h.calls62 (by omega)), bndS]
  by_cases hh : s.has (nwN n) = true
  · rw [if_pos hh]
    obtain ⟨d1, _, r1⟩ := remove_eq h (by omega) (nwN n)
    by_cases hz : (s.remove (nwN n)).2 ≠ 0
    · rw [if_pos hz, if_pos ⟨hh, hz⟩]
    · rw [if_neg hz, if_neg fun x => hz x.2, if_pos hh]
      refine (pload_tail r1 n (remove_up s _ (Decidable.not_not.1 hz))).trans ?_
      cases findF n (s.remove (nwN n)).1.files with
      | none => rfl
      | some f => dsimp only; split <;> rfl
  · rw [if_neg hh, if_neg fun x => hh x.1, if_neg hh]
    refine (pload_tail h n (by simpa using hd)).trans ?_
    cases findF n s.files with
    | none => rfl
    | some f => dsimp only; split <;> rfl
theorem rload_eq (h : Rel c s d) (hc : c ≤ 900) (n : List UInt8) (hn : n.length ≤ 100) : ∃ g d', m_limnographref20_Load d n = some (g, d') ∧ (g.B, g.Is, g.E) = (ldP s n).2 ∧ Rel (c + 1) (ldP s n).1 d' := by
  unfold m_limnographref20_Load ldP
  by_cases hd : s.down = true
  · rw [if_pos hd, if_pos (by rw [h.down]; exact hd)]; exact ⟨_, _, rfl, rfl, h.more⟩
  rw [if_neg hd, if_neg (by rw [h.down]; exact hd), cat_some (by simp; omega), bndS]
  have e0 : n ++ [46, 110, 101, 119] = nwN n := rfl
  rw [e0]
  obtain ⟨d1, q1, r1⟩ := remove_eq h (by omega) (nwN n)
  rcases h.fs.find h.len (nwN n) with ⟨f1, f2⟩ | ⟨i, x, f1, f2, f3, f4, f5⟩
  · have hs : ¬ s.has (nwN n) = true := by unfold PD.has; rw [f2]; simp
    rw [f1, bndS, jn_eq, if_neg (by omega), if_neg fun x => hs x.1, if_neg hs]
    obtain ⟨g, g1, g2⟩ := rload_tail h n
    exact ⟨g, d, g1, g2, h.more⟩
  · have hs : s.has (nwN n) = true := by unfold PD.has; rw [f5]; simpa using hd
    rw [f4, bndS, jn_eq, if_pos (show (i : Int) ≥ 0 by omega), bndS, q1, bndS]
    dsimp only
    by_cases hz : (s.remove (nwN n)).2 ≠ 0
    · rw [if_pos hz, if_pos ⟨hs, hz⟩]; exact ⟨_, _, rfl, rfl, r1⟩
    · rw [if_neg hz, if_neg fun x => hz x.2, if_pos hs]
      obtain ⟨g, g1, g2⟩ := rload_tail r1 n
      exact ⟨g, d1, g1, g2, r1⟩
end
end Go.Proofs.Ytknenggmdnpimaa
