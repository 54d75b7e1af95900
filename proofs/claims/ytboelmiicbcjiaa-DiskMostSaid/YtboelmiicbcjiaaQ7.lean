/-
  Chapter 18: the law DiskSure; plain Lean.
-/
import Derived.Test.YtboelmiicbcjiaaQ6
namespace Go.Proofs.Ytboelmiicbcjiaa
open Go Go.RowKit Go.Wk
theorem findF_putE (k : List UInt8) (f : PF) : ∀ l : Fl, findF k (putF k f l) = some f
  | [] => by simp [findF, putF]
  | p :: r => by
    by_cases hk : p.1 = k
    · rw [putF, if_pos hk]; simp [findF]
    · rw [putF, if_neg hk]
      have ih := findF_putE k f r
      unfold findF at ih ⊢
      rw [List.find?_cons]
      simp only [hk, decide_false]; exact ih
def Sf (D : List UInt8) (a : Nat) (f : PF) : Prop := f.data = D.take f.data.length ∧ a ≤ f.sure ∧ f.sure ≤ f.data.length ∧ f.data.length ≤ D.length
theorem bootF_find1 (keep : List Int) (k : List UInt8) (D : List UInt8) (a : Nat) : ∀ (ns : List (List UInt8)) (i : Nat) (l : Fl) (f : PF), findF k l = some f → Sf D a f →
    ∃ f', findF k (bootF keep i ns l) = some f' ∧ Sf D a f' ∧ (k ∈ ns ∨ f.sure = f.data.length → f'.sure = f'.data.length)
  | [], _, l, f, h, hs => ⟨f, h, hs, fun hh => by rcases hh with hh | hh; cases hh; exact hh⟩
  | n :: r, i, l, f, h, hs => by
    rw [bootF]
    by_cases hk : n = k
    · subst hk
      rw [h]
      dsimp only
      obtain ⟨s1, s2, s3, s4⟩ := hs
      have hle := keepN_le (f := f) s3 keep[i]?
      have hge : f.sure ≤ keepN f keep[i]? := by unfold keepN; omega
      have hl : (f.data.take (keepN f keep[i]?)).length = keepN f keep[i]? := by rw [List.length_take]; omega
      obtain ⟨f', q1, q2, q3⟩ := bootF_find1 keep n D a r (i + 1) _ ⟨f.data.take (keepN f keep[i]?), keepN f keep[i]?⟩ (findF_putE n _ l)
        ⟨by dsimp only; rw [hl, s1, List.take_take]; congr 1; omega, by dsimp only; omega, by dsimp only; omega, by dsimp only; omega⟩
      exact ⟨f', q1, q2, fun _ => q3 (.inr (by dsimp only; omega))⟩
    · have hf : findF k (match findF n l with | none => l | some f => putF n ⟨f.data.take (keepN f keep[i]?), keepN f keep[i]?⟩ l) = some f := by
        cases findF n l with
        | none => exact h
        | some g => dsimp only; rw [findF_put_ne _ (Ne.symm hk)]; exact h
      obtain ⟨f', q1, q2, q3⟩ := bootF_find1 keep k D a r (i + 1) _ f hf hs
      exact ⟨f', q1, q2, fun hh => q3 (hh.imp (fun hm => by rcases List.mem_cons.1 hm with hm | hm; exact absurd hm.symm hk; exact hm) id)⟩
theorem findF_key {k : List UInt8} {f : PF} {l : Fl} (h : findF k l = some f) : k ∈ l.map (·.1) := List.mem_map_of_mem (f := (·.1)) (findF_mem h)
theorem stepE_find {s : PD} {a : Act} {k : List UInt8} (hA : k ≠ a.A) (hB : k ≠ a.B) (h8 : a.Kind ≠ 8) : findF k (stepE s a).1.files = findF k s.files := by
  have hb := congrArg (findF k) s.begin_files
  unfold stepE
  by_cases k0 : a.Kind = 0
  · rw [if_pos k0]; unfold PD.create; repeat' split
    all_goals first | exact hb | exact findF_put_ne _ hA _
  rw [if_neg k0]
  by_cases k1 : a.Kind = 1
  · rw [if_pos k1]; unfold PD.append; repeat' split
    all_goals first | exact hb | exact findF_put_ne _ hA _
  rw [if_neg k1]
  by_cases k2 : a.Kind = 2
  · rw [if_pos k2]; unfold PD.sync; repeat' split
    all_goals first | exact hb | exact findF_put_ne _ hA _
  rw [if_neg k2]
  by_cases k3 : a.Kind = 3
  · rw [if_pos k3]; unfold PD.cut; repeat' split
    all_goals first | exact hb | exact findF_put_ne _ hA _
  rw [if_neg k3]
  by_cases k4 : a.Kind = 4
  · rw [if_pos k4]; unfold PD.rename; repeat' split
    all_goals first | exact hb | exact (findF_put_ne _ hB _).trans (findF_del_ne hA _)
  rw [if_neg k4]
  by_cases k5 : a.Kind = 5
  · rw [if_pos k5]; unfold PD.remove; repeat' split
    all_goals first | exact hb | exact findF_del_ne hA _
  rw [if_neg k5]
  by_cases k6 : a.Kind = 6
  · rw [if_pos k6]; rfl
  rw [if_neg k6]
  by_cases k7 : a.Kind = 7
  · rw [if_pos k7]; rfl
  rw [if_neg k7, if_neg h8]
theorem crash_down (s : PD) (n : List UInt8) : ((s.crash 0).sync n).1.down = true ∧ ((s.crash 0).sync n).1.files = s.files := by
  have hc : (s.crash 0).cc = s.calls + 1 := by
    unfold PD.crash armP
    rw [if_neg (by omega)]; dsimp only; omega
  have hb : (s.crash 0).begin.2 = 13 ∧ (s.crash 0).begin.1.down = true := by
    unfold PD.begin
    by_cases hd : s.down = true
    · rw [if_pos (show (s.crash 0).down = true from hd)]; exact ⟨rfl, hd⟩
    · rw [if_neg (show ¬ (s.crash 0).down = true from hd), if_pos (by rw [hc]; rfl)]; exact ⟨rfl, rfl⟩
  unfold PD.sync
  rw [if_pos (by rw [hb.1]; omega)]
  exact ⟨hb.2, (PD.begin_files _).trans rfl⟩
theorem create0 : (PD.fresh [] 1048576).create [115] = (⟨[([115], ⟨[], 0⟩)], 1048576, false, 1, 0, 0, 0, 0⟩, 0) := by rfl
theorem append0 (x0 : List UInt8) (h : x0.length ≤ 1000) : PD.append ⟨[([115], ⟨[], 0⟩)], 1048576, false, 1, 0, 0, 0, 0⟩ [115] x0 = (⟨[([115], ⟨x0, 0⟩)], 1048576, false, 2, 0, 0, 0, 0⟩, 0) := by
  unfold PD.append
  have hb : PD.begin ⟨[([115], ⟨[], 0⟩)], 1048576, false, 1, 0, 0, 0, 0⟩ = (⟨[([115], ⟨[], 0⟩)], 1048576, false, 2, 0, 0, 0, 0⟩, 0) := rfl
  have hf : findF [115] [(([115] : List UInt8), (⟨[], 0⟩ : PF))] = some ⟨[], 0⟩ := rfl
  rw [hb, if_neg (by simp)]
  dsimp only
  rw [hf]
  dsimp only
  rw [if_neg (by simp [PD.used]; omega)]
  rfl
theorem sync0 (x0 : List UInt8) : PD.sync ⟨[([115], ⟨x0, 0⟩)], 1048576, false, 2, 0, 0, 0, 0⟩ [115] = (⟨[([115], ⟨x0, x0.length⟩)], 1048576, false, 3, 0, 0, 0, 0⟩, 0) := rfl
theorem append1 (x0 x1 : List UInt8) (h : x0.length ≤ 1000) (h1 : x1.length ≤ 1000) : PD.append ⟨[([115], ⟨x0, x0.length⟩)], 1048576, false, 3, 0, 0, 0, 0⟩ [115] x1 = (⟨[([115], ⟨x0 ++ x1, x0.length⟩)], 1048576, false, 4, 0, 0, 0, 0⟩, 0) := by
  unfold PD.append
  have hb : PD.begin ⟨[([115], ⟨x0, x0.length⟩)], 1048576, false, 3, 0, 0, 0, 0⟩ = (⟨[([115], ⟨x0, x0.length⟩)], 1048576, false, 4, 0, 0, 0, 0⟩, 0) := rfl
  have hf : findF [115] [(([115] : List UInt8), (⟨x0, x0.length⟩ : PF))] = some ⟨x0, x0.length⟩ := rfl
  rw [hb, if_neg (by simp)]
  dsimp only
  rw [hf]
  dsimp only
  rw [if_neg (by simp [PD.used]; omega)]
  rfl
theorem sure_law (x0 x1 : List UInt8) (x2 : List Act) (x3 : List Int) {p0 p1 : Prop} (_ : p0) (_ : p1)
    (k2 : x2.length ≤ maxLen ∧ ∀ z ∈ x2, ((Lit.int .i64 z.Kind).wf = true) ∧ (z.A.length ≤ maxLen) ∧ (z.B.length ≤ maxLen) ∧ ((Lit.int .i64 z.N).wf = true) ∧ ((Lit.int .i64 z.Code).wf = true) ∧ (z.Keep.length ≤ maxLen ∧ ∀ y ∈ z.Keep, (Lit.int .i64 y).wf = true))
    (k3 : x3.length ≤ maxLen ∧ ∀ y ∈ x3, (Lit.int .i64 y).wf = true) : m_limnographlaw18_DiskSure x0 x1 x2 x3 = some true := by
  unfold m_limnographlaw18_DiskSure
  rw [awake_eq, bndS, if_neg (by simp), jn_eq]
  by_cases hb : ((x0.length : Int) > 1000) ∨ ((x1.length : Int) > 1000)
  · rw [if_pos hb]; rfl
  rw [if_neg hb]
  obtain ⟨b, hfe, hf⟩ := few_eq x2
  rw [hfe, bndS]
  cases b with
  | false => rfl
  | true =>
    obtain ⟨f1, f2⟩ := hf rfl
    dsimp only
    rw [if_neg (show ¬ ((!true) = true) by simp)]
    have hx0 : x0.length ≤ 1000 := by omega
    have hx1 : x1.length ≤ 1000 := by omega
    have hN : newD (([] : List T_api_File).map fun f : T_api_File => (f.Name, f.Data)) 1048576 = some (PD.fresh [] 1048576) := rfl
    have hk3 : x3.length ≤ 9223372036854775807 := k3.1
    rcases new_eq [] 1048576 (by simp) with ⟨_, h2⟩ | ⟨s, d, h1, h2, h3, h4⟩
    · rw [hN] at h2; cases h2
    · rw [hN] at h2
      cases h2
      obtain ⟨d1, _, r1⟩ := create_eq h3 (by omega) [115]
      rw [create0] at r1
      obtain ⟨d2, _, r2⟩ := append_eq r1 (by omega) [115] x0
      rw [append0 x0 hx0] at r2
      obtain ⟨d3, _, r3⟩ := sync_eq r2 (by omega) [115]
      rw [sync0 x0] at r3
      obtain ⟨d4, _, r4⟩ := append_eq r3 (by omega) [115] x1
      rw [append1 x0 x1 hx0 hx1] at r4
      have e1 : m_disk_Disk_Create (PD.fresh [] 1048576) [115] = some (0, ⟨[([115], ⟨[], 0⟩)], 1048576, false, 1, 0, 0, 0, 0⟩) := by
        unfold m_disk_Disk_Create; rw [create0, if_pos (h3.calls62 (by omega))]
      have e2 : m_disk_Disk_Append ⟨[([115], ⟨[], 0⟩)], 1048576, false, 1, 0, 0, 0, 0⟩ [115] x0 = some (0, ⟨[([115], ⟨x0, 0⟩)], 1048576, false, 2, 0, 0, 0, 0⟩) := by
        unfold m_disk_Disk_Append; rw [append0 x0 hx0, if_pos ⟨r1.calls62 (by omega), ⟨r1.used, r1.capL⟩, by omega⟩]
      have e3 : m_disk_Disk_Sync ⟨[([115], ⟨x0, 0⟩)], 1048576, false, 2, 0, 0, 0, 0⟩ [115] = some (0, ⟨[([115], ⟨x0, x0.length⟩)], 1048576, false, 3, 0, 0, 0, 0⟩) := by
        unfold m_disk_Disk_Sync; rw [sync0, if_pos (r2.calls62 (by omega))]
      have e4 : m_disk_Disk_Append ⟨[([115], ⟨x0, x0.length⟩)], 1048576, false, 3, 0, 0, 0, 0⟩ [115] x1 = some (0, ⟨[([115], ⟨x0 ++ x1, x0.length⟩)], 1048576, false, 4, 0, 0, 0, 0⟩) := by
        unfold m_disk_Disk_Append; rw [append1 x0 x1 hx0 hx1, if_pos ⟨r3.calls62 (by omega), ⟨r3.used, r3.capL⟩, by omega⟩]
      unfold m_disk_New
      rw [if_pos (by simp), hN, bndS]
      simp only [jn_eq, Option.isNone_some]
      rw [if_neg (by simp), bndS, e1, bndS]
      dsimp only
      rw [decide_eq_false (show ¬ ((0 : Int) ≠ 0) by omega), if_neg (by simp), bndS, e2, bndS]
      dsimp only
      rw [decide_eq_false (show ¬ ((0 : Int) ≠ 0) by omega), if_neg (by simp), bndS, e3, bndS]
      dsimp only
      rw [decide_eq_false (show ¬ ((0 : Int) ≠ 0) by omega), if_neg (by simp), bndS, e4, bndS]
      dsimp only
      rw [decide_eq_false (show ¬ ((0 : Int) ≠ 0) by omega), if_neg (by simp), h1, bndS, m_limnographlaw18_DiskSure_L1_scan _ _ _ _ (by omega)]
      refine scanL_post (fun p st => ∃ c s d dd, st = (some s, some d) ∧ c ≤ p.length + 4 ∧ Rel c s dd ∧ (∃ s', Rel c s' d) ∧ findF [115] s.files = some ⟨x0 ++ x1, x0.length⟩) (fun _ _ r => r = some true)
        ⟨4, _, d, d4, rfl, by simp, r4, ⟨_, h3.more.more.more.more⟩, rfl⟩ ?_ ?_
      · rintro st ⟨c, s, d, dd, rfl, g1, g2, ⟨s', g3⟩, g4⟩
        dsimp only
        obtain ⟨A, _, t1⟩ := crash_eq g2 (by omega) 0 (by omega)
        obtain ⟨d5, _, t2⟩ := sync_eq t1 (by omega) [110, 111, 110, 101]
        obtain ⟨w1, w2⟩ := crash_down s [110, 111, 110, 101]
        have e5 : m_disk_Disk_Crash s 0 = some (s.crash 0) := by unfold m_disk_Disk_Crash; rw [if_pos (g2.calls62 (by omega))]
        have e6 : m_disk_Disk_Sync (s.crash 0) [110, 111, 110, 101] = some (((s.crash 0).sync [110, 111, 110, 101]).2, ((s.crash 0).sync [110, 111, 110, 101]).1) := by unfold m_disk_Disk_Sync; rw [if_pos (t1.calls62 (by omega))]
        rw [bndS, e5, bndS, e6, bndS]
        dsimp only
        generalize hz : ((s.crash 0).sync [110, 111, 110, 101]).1 = z at w1 w2 t2
        obtain ⟨d6, _, t3⟩ := boot_eq t2 x3
        have e7 : m_disk_Disk_Boot z x3 = some ((z.boot x3).2, (z.boot x3).1) := by unfold m_disk_Disk_Boot; rw [if_pos ⟨t2.namesOk, t2.fs.sureL, hk3⟩]
        have e8 : m_disk_Disk_Down z = some true := by unfold m_disk_Disk_Down; rw [w1]
        have hbt : z.boot x3 = ({ z.up with files := bootF x3 0 z.up.names z.files }, 0) := by unfold PD.boot; rw [if_pos w1]
        have hmem : ([115] : List UInt8) ∈ z.up.names := by
          unfold PD.names
          rw [if_neg (by simp [PD.up]), List.mem_mergeSort]
          exact findF_key (w2 ▸ g4)
        obtain ⟨f', q1, ⟨q2, q3, q4, q5⟩, q6⟩ := bootF_find1 x3 [115] (x0 ++ x1) x0.length z.up.names 0 z.files ⟨x0 ++ x1, x0.length⟩ (by rw [w2]; exact g4) ⟨List.take_length.symm, Nat.le_refl _, by simp, Nat.le_refl _⟩
        have q6' := q6 (.inl hmem)
        rw [e8, bndS, if_neg (show ¬ ((!true) = true) by simp), e7, bndS, hbt]
        rw [hbt] at t3
        rw [decide_eq_false (show ¬ ((0 : Int) ≠ 0) by omega), if_neg (by simp), read_m t3, bndS]
        unfold m_disk_Disk_Size
        simp only [if_neg (show ¬ (({ z.up with files := bootF x3 0 z.up.names z.files } : PD).down = true) by simp [PD.up]), bndS, q1]
        rw [cat_some (by omega), bndS, if_pos trivial, if_pos trivial, if_pos (by omega), if_pos (by omega), if_pos (by omega), cut_some (by omega) (by omega) (by omega), bndS]
        rw [decide_eq_true (by rw [Int.toNat_natCast]; exact q2)]
      · rintro p a q st k hp ⟨c, s, d, dd, rfl, g1, g2, ⟨s', g3⟩, g4⟩ hk
        have ha : a ∈ x2 := by rw [← hp]; simp
        have hpl : p.length < x2.length := by rw [← hp]; simp
        obtain ⟨l1, l2, l3⟩ := f2 a ha
        simp only [jn_eq, bndS]
        by_cases hh : ((a.A ≠ ([115] : List UInt8)) ∧ (a.B ≠ ([115] : List UInt8))) ∧ (a.Kind ≠ 8)
        · rw [if_pos hh]
          obtain ⟨d', q1, q2⟩ := do_eq (a := a) g2 g3 (by omega) (wf64 (k2.2 a ha).2.2.2.1).2 l2 l3
          obtain ⟨dd', _, q4⟩ := do_eq (a := a) g2 g2 (by omega) (wf64 (k2.2 a ha).2.2.2.1).2 l2 l3
          rw [q1, bndS]
          refine hk _ ⟨c + 1, _, d', dd', rfl, by rw [List.length_append, List.length_singleton]; omega, q4, ⟨_, q2⟩, ?_⟩
          dsimp only
          rw [stepE_find (Ne.symm hh.1.1) (Ne.symm hh.1.2) hh.2]; exact g4
        · rw [if_neg hh]
          exact hk _ ⟨c, s, d, dd, rfl, by rw [List.length_append, List.length_singleton]; omega, g2, ⟨s', g3⟩, g4⟩
end Go.Proofs.Ytboelmiicbcjiaa
