/-
  The walk by places: a map is gone through; sums by bits. Plain laws over any program.
-/
import Derived.Test.YtlfppodekihcmaaGreatDoorWf
set_option linter.unusedVariables false
set_option linter.unusedSimpArgs false
namespace Go.Wk
open Go Go.RowKit

section
variable {P : Program} {f : FuncId} {n : Nat} {R : Ending → World → Prop} {k : List Item} {e : Env} {w : World}
variable {ops : Array Oper} {i : Nat} {rest : List Nat} {d : Nat} {dst : Option Nat} {ty : TypeId} {pos : String} {af : Array Edge} {g : Option (Nat × Bool)}

/-- An iterator that has met these stamps. -/
def Itr (w : World) (bi mb since : Nat) (seen : List Nat) : Prop := w.heap[bi]? = some (.mapIter (some mb) since seen.toArray since)
theorem Itr.lt {bi mb since : Nat} {seen : List Nat} (h : Itr w bi mb since seen) : bi < w.heap.size := by
  rcases Nat.lt_or_ge bi w.heap.size with hlt | hge
  · exact hlt
  · unfold Itr at h; rw [Array.getElem?_eq_none hge] at h; cases h
theorem Itr.fr {S : Nat → Prop} {w' : World} {bi mb since : Nat} {seen : List Nat} (h : Itr w bi mb since seen) (hf : Fr S w w') (hn : ¬ S bi) : Itr w' bi mb since seen := (hf.keep bi h.lt hn).trans h
/-- What is still to come. -/
def leftM (l : Ms) (seen : List Nat) : Ms := l.filter fun p => !seen.contains p.2.2
theorem Rn.rng {t kt et : TypeId} {x : Operand} {b c : Nat} {l : Ms} (ho : ops[i]? = some ⟨some d, .range t x, ty, pos, af, g⟩) (hg : gok e ops g = true) (hn : Nat.blt d n = true) (ht : P.underlying t = some (.map kt et)) (hx : ev e x = some (.map (some b))) (hM : Mp w b l c)
    (h : ∀ bi w', bi = w.heap.size → Itr w' bi b c [] → Ext w w' → Rn P f n R (.inRegion ops rest :: k) ((d, .pointer (some ⟨bi, 0, none⟩)) :: e) w') : Rn P f n R (.inRegion ops (i :: rest) :: k) e w :=
  Rn.opV (w' := w.alloc (.mapIter (some b) c #[] c)) ho hg rfl hn (fun a hf => by
    simp [execOp, ev_eval hf hx, Instr.range, run_underlying ht, run_getObj hM]) (h w.heap.size _ rfl (heap_alloc_new w _) (Ext.alloc w _))

theorem filter_ent (l : Ms) (q : MapEntry → Bool) : (l.map ent).toArray.filter q = ((l.filter fun p => q (ent p)).map ent).toArray := by
  rw [List.filter_toArray, List.filter_map]; rfl

theorem next_run {bi b c : Nat} {l : Ms} {seen : List Nat} (hM : Mp w b l c) (hI : Itr w bi b c seen) (hb : ∀ p ∈ l, p.2.2 < c) (tt : TypeId) :
    (leftM l seen = [] ∧ (Instr.next (.pointer (some ⟨bi, 0, none⟩)) false tt).run P w = .ok (.tuple #[.bool false]) w) ∨
    (∃ p w', p ∈ leftM l seen ∧ (Instr.next (.pointer (some ⟨bi, 0, none⟩)) false tt).run P w = .ok (.tuple #[.bool true, Str p.1, p.2.1]) w' ∧ Itr w' bi b c (seen ++ [p.2.2]) ∧ Fr (fun x => x = bi) w w') := by
  have hgo : ∀ (o : Obj), (∀ cs t fr, o ≠ .cells cs t fr) → ∀ (bb : Nat) (w : World), w.heap[bb]? = some o → (getObj bb).run P w = .ok o w := by
    intro o ho bb w hh
    cases o <;> first | exact absurd rfl (ho _ _ _) | simp [getObj, Sem.run, hh]
  have h1 := hgo _ (fun _ _ _ => by simp) bi w hI
  have h2 := run_getObj (P := P) hM
  have hall : (!seen.toArray.isEmpty && !(l.map ent).toArray.isEmpty && (l.map ent).toArray.all (fun e => decide (c ≤ e.born))) = false := by
    cases l with
    | nil => simp
    | cons p r =>
      have := hb p (by simp)
      simp [ent]
      intro _ hh
      omega
  have hleft : (l.map ent).toArray.filter (fun e => !seen.toArray.contains e.born) = ((leftM l seen).map ent).toArray := by
    rw [filter_ent]; simp [leftM, ent]
  have hlt : ∀ p ∈ leftM l seen, p.2.2 < c := fun p hp => hb p (List.mem_filter.1 hp).1
  have hold : ((leftM l seen).map ent).toArray.filter (fun e => decide (e.born < c)) = ((leftM l seen).map ent).toArray := by
    rw [filter_ent]
    congr 2
    exact List.filter_eq_self.2 fun p hp => decide_eq_true (hlt p hp)
  have hnew : ((leftM l seen).map ent).toArray.filter (fun e => decide (c ≤ e.born)) = #[] := by
    rw [filter_ent]
    have : (leftM l seen).filter (fun p => decide (c ≤ (ent p).born)) = [] := List.filter_eq_nil_iff.2 fun p hp => by
      intro hh
      have h3 : c ≤ p.2.2 := of_decide_eq_true hh
      have := hlt p hp
      omega
    rw [this]; rfl
  have hnew' : ((leftM l seen).map ent).toArray.filter (fun e => decide (e.born ≥ c)) = #[] := hnew
  have hall' : (!seen.toArray.isEmpty && !(l.map ent).toArray.isEmpty && (l.map ent).toArray.all (fun e => decide (e.born ≥ c))) = false := hall
  cases hL : leftM l seen with
  | nil =>
    left
    refine ⟨rfl, ?_⟩
    rw [hL] at hleft hold hnew'
    simp only [Instr.next, Sem.run_bind, h1, Result.andThen_ok, h2, hall', Bool.false_eq_true, if_false, hleft]
    simp [Question.forced, run_choose]
  | cons q r =>
    right
    have hne : ((leftM l seen).map ent).toArray.isEmpty = false := by rw [hL]; rfl
    let m := ((leftM l seen).map ent).toArray.size
    have hm : 0 < m := by simp [m, hL]
    have hcand : ∀ j, j < m → ∃ p, (leftM l seen)[j]? = some p ∧ (#[] ++ (((leftM l seen).map ent).toArray ++ #[]).map some)[j]? = some (some (ent p)) := by
      intro j hj
      have hj' : j < (leftM l seen).length := by simpa [m] using hj
      refine ⟨(leftM l seen)[j], List.getElem?_eq_getElem hj', ?_⟩
      simp [hj']
    have hchoose : ∃ j w1, j < m ∧ (choose (.mapNext m)).run P w = .ok j w1 ∧ Ext w w1 := by
      rw [run_choose]
      by_cases h : (Question.mapNext m).forced = true
      · exact ⟨0, w, hm, by rw [if_pos h], Ext.refl _⟩
      · refine ⟨_, w.drew, ?_, by rw [if_neg h]; rfl, Ext.drew w⟩
        exact Nat.mod_lt _ hm
    obtain ⟨j, w1, hj, hc1, hE⟩ := hchoose
    obtain ⟨p, hp, hcj⟩ := hcand j hj
    have hbi1 : w1.heap[bi]? = some (.mapIter (some b) c seen.toArray c) := (hE.keep bi hI.lt (fun h => h)).trans hI
    have hset : (setObj bi (.mapIter (some b) c (seen.toArray.push (ent p).born) c)).run P w1 = .ok () { w1 with heap := w1.heap.setIfInBounds bi (.mapIter (some b) c (seen.toArray.push (ent p).born) c) } := by simp [setObj, Sem.run, hbi1]
    refine ⟨p, { w1 with heap := w1.heap.setIfInBounds bi (.mapIter (some b) c (seen.toArray.push (ent p).born) c) }, by rw [← hL]; exact List.mem_of_getElem? hp, ?_, ?_, ?_⟩
    · simp only [Instr.next, Sem.run_bind, h1, Result.andThen_ok, h2, hall', Bool.false_eq_true, if_false, hleft, hold, hnew', hne]
      have hsz : (#[] ++ (((leftM l seen).map ent).toArray ++ #[]).map some).size = m := by simp [m]
      simp only [hsz, hc1, Result.andThen_ok, hcj, Sem.run_bind, hset, Sem.run_pure]
      rfl
    · have hlt1 : bi < w1.heap.size := Nat.lt_of_lt_of_le hI.lt hE.size
      unfold Itr
      simp [Array.getElem?_setIfInBounds, hlt1, ent]
    · refine (Ext.fr hE).trans ⟨rfl, rfl, rfl, by simp, fun x hx hn => ?_⟩
      rw [Array.getElem?_setIfInBounds_ne (Ne.symm hn)]
theorem Rn.nxt {x : Operand} {bi b c : Nat} {l : Ms} {seen : List Nat} (ho : ops[i]? = some ⟨some d, .next x false, ty, pos, af, g⟩) (hg : gok e ops g = true) (hn : Nat.blt d n = true) (hx : ev e x = some (.pointer (some ⟨bi, 0, none⟩))) (hM : Mp w b l c) (hI : Itr w bi b c seen) (hb : ∀ p ∈ l, p.2.2 < c)
    (h0 : leftM l seen = [] → Rn P f n R (.inRegion ops rest :: k) ((d, .tuple #[.bool false]) :: e) w)
    (h1 : ∀ p w', p ∈ leftM l seen → Itr w' bi b c (seen ++ [p.2.2]) → Fr (fun x => x = bi) w w' → Rn P f n R (.inRegion ops rest :: k) ((d, .tuple #[.bool true, Str p.1, p.2.1]) :: e) w') : Rn P f n R (.inRegion ops (i :: rest) :: k) e w := by
  rcases next_run (P := P) hM hI hb ty with ⟨hl, hr⟩ | ⟨p, w', hp, hr, hI', hF⟩
  · exact Rn.opV ho hg rfl hn (fun a hf => by simp [execOp, ev_eval hf hx, hr]) (h0 hl)
  · exact Rn.opV ho hg rfl hn (fun a hf => by simp [execOp, ev_eval hf hx, hr]) (h1 p w' hp hI' hF)
/-- The entry of the step that was just taken. -/
theorem V.entry {x : Operand} {bi b c : Nat} {l : Ms} {seen : List Nat} {p : List UInt8 × Value × Nat} (hx : ev e x = some (.pointer (some ⟨bi, 0, none⟩))) (hM : Mp w b l c) (hI : Itr w bi b c (seen ++ [p.2.2])) (hp : p ∈ l) (hnd : (l.map (·.2.2)).Nodup) :
    OpV P n e w ⟨dst, .entry x, ty, pos, af, g⟩ (.tuple #[Str p.1, p.2.1]) w := fun a hf => by
  have h1 : (getObj bi).run P w = .ok (.mapIter (some b) c (seen ++ [p.2.2]).toArray c) w := by unfold Itr at hI; simp only [getObj, Sem.run, hI]
  have h2 := run_getObj (P := P) hM
  have hfind : (l.map ent).toArray.find? (fun e => e.born == p.2.2) = some (ent p) := by
    rw [List.find?_toArray, List.find?_map]
    have : l.find? ((fun e : MapEntry => e.born == p.2.2) ∘ ent) = some p := by
      clear hM h2 h1 hI
      induction l with
      | nil => simp at hp
      | cons q r ih =>
        simp only [List.map_cons, List.nodup_cons] at hnd
        by_cases hq : q.2.2 = p.2.2
        · have : q = p := by
            rcases List.mem_cons.1 hp with rfl | hp
            · rfl
            · exact absurd (hq ▸ List.mem_map_of_mem hp) hnd.1
          subst this
          simp [List.find?_cons, ent]
        · have hp' : p ∈ r := by
            rcases List.mem_cons.1 hp with rfl | hp
            · exact absurd rfl hq
            · exact hp
          rw [List.find?_cons]
          have : ((fun e : MapEntry => e.born == p.2.2) ∘ ent) q = false := by simp [ent, hq]
          rw [this]
          exact ih hp' hnd.2
    rw [this]; rfl
  have hback : (seen ++ [p.2.2]).toArray.back? = some p.2.2 := by simp
  simp only [execOp, ev_eval hf hx, Instr.entry, Sem.run_bind, h1, Result.andThen_ok, hback, h2, bne_self_eq_false, Bool.false_eq_true, if_false, hfind, Sem.run_pure]
  rfl
theorem leftM_perm (l : Ms) (seen : List Nat) (p : List UInt8 × Value × Nat) (hnd : (l.map (·.2.2)).Nodup) (hp : p ∈ leftM l seen) : (leftM l seen).Perm (p :: leftM l (seen ++ [p.2.2])) := by
  have h1 : leftM l (seen ++ [p.2.2]) = (leftM l seen).filter fun q => !(q.2.2 == p.2.2) := by
    unfold leftM
    rw [List.filter_filter]
    congr 1
    funext q
    by_cases h : q.2.2 = p.2.2 <;> simp [h, Bool.and_comm]
  have hnd' : ((leftM l seen).map (·.2.2)).Nodup := by
    have : ((leftM l seen).map (·.2.2)).Sublist (l.map (·.2.2)) := List.Sublist.map _ List.filter_sublist
    exact hnd.sublist this
  rw [h1]
  clear h1
  generalize leftM l seen = m at *
  induction m with
  | nil => simp at hp
  | cons q r ih =>
    simp only [List.map_cons, List.nodup_cons] at hnd'
    rcases List.mem_cons.1 hp with rfl | hp'
    · have : r.filter (fun q => !(q.2.2 == p.2.2)) = r := List.filter_eq_self.2 fun x hx => by
        have : x.2.2 ≠ p.2.2 := fun hh => hnd'.1 (hh ▸ List.mem_map_of_mem hx)
        simp [this]
      simp [List.filter_cons, this]
    · have hq : q.2.2 ≠ p.2.2 := fun hh => hnd'.1 (hh ▸ List.mem_map_of_mem hp')
      rw [List.filter_cons]
      simp only [beq_iff_eq, hq, not_false_eq_true, decide_true, Bool.not_eq_true', if_true]
      have hb : (q.2.2 == p.2.2) = false := by simpa using hq
      simp only [hb, Bool.not_false, if_true]
      exact ((ih hp' hnd'.2).cons q).trans (List.Perm.swap _ _ _)

/- 32 bits, 64 bits, 8 bits -/
theorem b32_xor (t : TypeId) (u v : UInt32) : binOp .xor t (.int .u32 u.toNat) (.int .u32 v.toNat) = pure (.int .u32 (u ^^^ v).toNat) := by
  rw [binOp_xor, intBits_xor]; congr 2
  show IntKind.u32.wrap _ = _
  have h1 : BitVec.ofInt 32 (u.toNat : Int) = u.toBitVec := by apply BitVec.eq_of_toNat_eq; simp
  have h2 : BitVec.ofInt 32 (v.toNat : Int) = v.toBitVec := by apply BitVec.eq_of_toNat_eq; simp
  show IntKind.u32.wrap ((BitVec.ofInt 32 (u.toNat : Int) ^^^ BitVec.ofInt 32 (v.toNat : Int)).toNat : Int) = _
  rw [h1, h2, wu32 (by omega) (by have := (u.toBitVec ^^^ v.toBitVec).isLt; omega)]
  simp
theorem b32_and (t : TypeId) (u v : UInt32) : binOp .and t (.int .u32 u.toNat) (.int .u32 v.toNat) = pure (.int .u32 (u &&& v).toNat) := by
  rw [binOp_and, intBits_and]; congr 2
  have h1 : BitVec.ofInt 32 (u.toNat : Int) = u.toBitVec := by apply BitVec.eq_of_toNat_eq; simp
  have h2 : BitVec.ofInt 32 (v.toNat : Int) = v.toBitVec := by apply BitVec.eq_of_toNat_eq; simp
  show IntKind.u32.wrap ((BitVec.ofInt 32 (u.toNat : Int) &&& BitVec.ofInt 32 (v.toNat : Int)).toNat : Int) = _
  rw [h1, h2, wu32 (by omega) (by have := (u.toBitVec &&& v.toBitVec).isLt; omega)]
  simp
theorem b32_or (t : TypeId) (u v : UInt32) : binOp .or t (.int .u32 u.toNat) (.int .u32 v.toNat) = pure (.int .u32 (u ||| v).toNat) := by
  rw [binOp_or, intBits_or]; congr 2
  have h1 : BitVec.ofInt 32 (u.toNat : Int) = u.toBitVec := by apply BitVec.eq_of_toNat_eq; simp
  have h2 : BitVec.ofInt 32 (v.toNat : Int) = v.toBitVec := by apply BitVec.eq_of_toNat_eq; simp
  show IntKind.u32.wrap ((BitVec.ofInt 32 (u.toNat : Int) ||| BitVec.ofInt 32 (v.toNat : Int)).toNat : Int) = _
  rw [h1, h2, wu32 (by omega) (by have := (u.toBitVec ||| v.toBitVec).isLt; omega)]
  simp
theorem b64_or (t : TypeId) (u v : UInt64) : binOp .or t (.int .u64 u.toNat) (.int .u64 v.toNat) = pure (.int .u64 (u ||| v).toNat) := by
  rw [binOp_or, intBits_or]; congr 2
  have h1 : BitVec.ofInt 64 (u.toNat : Int) = u.toBitVec := by apply BitVec.eq_of_toNat_eq; simp
  have h2 : BitVec.ofInt 64 (v.toNat : Int) = v.toBitVec := by apply BitVec.eq_of_toNat_eq; simp
  show IntKind.u64.wrap ((BitVec.ofInt 64 (u.toNat : Int) ||| BitVec.ofInt 64 (v.toNat : Int)).toNat : Int) = _
  rw [h1, h2, wu64 (by omega) (by have := (u.toBitVec ||| v.toBitVec).isLt; omega)]
  simp
theorem not32 (u : UInt32) : Op.intBits .xor .u32 (if IntKind.u32.signed then -1 else IntKind.u32.max) u.toNat = pure (.int .u32 (~~~u).toNat) := by
  have h0 : (if IntKind.u32.signed then -1 else IntKind.u32.max) = ((4294967295 : UInt32).toNat : Int) := by decide
  rw [h0]
  have := b32_xor 0 4294967295 u
  rw [binOp_xor] at this
  have h2 : (4294967295 : UInt32) ^^^ u = ~~~u := by
    apply UInt32.toBitVec_inj.1
    have h1 : (4294967295 : UInt32).toBitVec = BitVec.allOnes 32 := by decide
    rw [UInt32.toBitVec_xor, UInt32.toBitVec_not, h1, BitVec.allOnes_xor]
  rw [this, h2]
end
end Go.Wk
