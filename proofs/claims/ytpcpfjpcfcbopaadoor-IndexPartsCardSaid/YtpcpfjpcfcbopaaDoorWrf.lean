/-
  Maps with any keys are gone through; a range function's rounds. Plain laws over any program.
-/
import Derived.Test.YtpcpfjpcfcbopaaDoorWme
import Derived.Test.YtpcpfjpcfcbopaaDoorWg
import Derived.RangeFuncNested
import Derived.RangeFuncBound
import Derived.RangeFuncCalls
import Derived.RangeFuncLeaves
set_option linter.unusedVariables false
set_option linter.unusedSimpArgs false
namespace Go.Wk
open Go Go.RowKit
section
variable {κ : Type} [DecidableEq κ] {kv : κ → Value} {P : Program} {f : FuncId} {n : Nat} {R : Ending → World → Prop} {k : List Item} {e : Env} {w : World}
variable {ops : Array Oper} {i : Nat} {rest : List Nat} {d : Nat} {dst : Option Nat} {ty : TypeId} {pos : String} {af : Array Edge} {g : Option (Nat × Bool)}
def leftMK (l : MsK κ) (seen : List Nat) : MsK κ := l.filter fun p => !seen.contains p.2.2
theorem Rn.rngK {ι : Type} {kv' : ι → Value} {t kt et : TypeId} {x : Operand} {b c : Nat} {l : MsK ι} (ho : ops[i]? = some ⟨some d, .range t x, ty, pos, af, g⟩) (hg : gok e ops g = true) (hn : Nat.blt d n = true) (ht : P.underlying t = some (.map kt et)) (hx : ev e x = some (.map (some b))) (hM : MpK kv' w b l c)
    (h : ∀ bi w', bi = w.heap.size → Itr w' bi b c [] → Ext w w' → Rn P f n R (.inRegion ops rest :: k) ((d, .pointer (some ⟨bi, 0, none⟩)) :: e) w') : Rn P f n R (.inRegion ops (i :: rest) :: k) e w :=
  Rn.opV (w' := w.alloc (.mapIter (some b) c #[] c)) ho hg rfl hn (fun a hf => by
    simp [execOp, ev_eval hf hx, Instr.range, run_underlying ht, run_getObjK hM]) (h w.heap.size _ rfl (heap_alloc_new w _) (Ext.alloc w _))

theorem filter_entK {ι : Type} {kv' : ι → Value} (l : MsK ι) (q : MapEntry → Bool) : (l.map (entK kv')).toArray.filter q = ((l.filter fun p => q (entK kv' p)).map (entK kv')).toArray := by
  rw [List.filter_toArray, List.filter_map]; rfl

theorem nextK_run {ι : Type} {kv' : ι → Value} {bi b c : Nat} {l : MsK ι} {seen : List Nat} (hM : MpK kv' w b l c) (hI : Itr w bi b c seen) (hb : ∀ p ∈ l, p.2.2 < c) (tt : TypeId) :
    (leftMK l seen = [] ∧ (Instr.next (.pointer (some ⟨bi, 0, none⟩)) false tt).run P w = .ok (.tuple #[.bool false]) w) ∨
    (∃ p w', p ∈ leftMK l seen ∧ (Instr.next (.pointer (some ⟨bi, 0, none⟩)) false tt).run P w = .ok (.tuple #[.bool true, kv' p.1, p.2.1]) w' ∧ Itr w' bi b c (seen ++ [p.2.2]) ∧ Fr (fun x => x = bi) w w') := by
  have hgo : ∀ (o : Obj), (∀ cs t fr, o ≠ .cells cs t fr) → ∀ (bb : Nat) (w : World), w.heap[bb]? = some o → (getObj bb).run P w = .ok o w := by
    intro o ho bb w hh
    cases o <;> first | exact absurd rfl (ho _ _ _) | simp [getObj, Sem.run, hh]
  have h1 := hgo _ (fun _ _ _ => by simp) bi w hI
  have h2 := run_getObjK (P := P) hM
  have hall : (!seen.toArray.isEmpty && !(l.map (entK kv')).toArray.isEmpty && (l.map (entK kv')).toArray.all (fun e => decide (c ≤ e.born))) = false := by
    cases l with
    | nil => simp
    | cons p r =>
      have := hb p (by simp)
      simp [entK]
      intro _ hh
      omega
  have hleft : (l.map (entK kv')).toArray.filter (fun e => !seen.toArray.contains e.born) = ((leftMK l seen).map (entK kv')).toArray := by
    rw [filter_entK]; simp [leftMK, entK]
  have hlt : ∀ p ∈ leftMK l seen, p.2.2 < c := fun p hp => hb p (List.mem_filter.1 hp).1
  have hold : ((leftMK l seen).map (entK kv')).toArray.filter (fun e => decide (e.born < c)) = ((leftMK l seen).map (entK kv')).toArray := by
    rw [filter_entK]
    congr 2
    exact List.filter_eq_self.2 fun p hp => decide_eq_true (hlt p hp)
  have hnew : ((leftMK l seen).map (entK kv')).toArray.filter (fun e => decide (c ≤ e.born)) = #[] := by
    rw [filter_entK]
    have : (leftMK l seen).filter (fun p => decide (c ≤ (entK kv' p).born)) = [] := List.filter_eq_nil_iff.2 fun p hp => by
      intro hh
      have h3 : c ≤ p.2.2 := of_decide_eq_true hh
      have := hlt p hp
      omega
    rw [this]; rfl
  have hnew' : ((leftMK l seen).map (entK kv')).toArray.filter (fun e => decide (e.born ≥ c)) = #[] := hnew
  have hall' : (!seen.toArray.isEmpty && !(l.map (entK kv')).toArray.isEmpty && (l.map (entK kv')).toArray.all (fun e => decide (e.born ≥ c))) = false := hall
  cases hL : leftMK l seen with
  | nil =>
    left
    refine ⟨rfl, ?_⟩
    rw [hL] at hleft hold hnew'
    simp only [Instr.next, Sem.run_bind, h1, Result.andThen_ok, h2, hall', Bool.false_eq_true, if_false, hleft]
    simp [Question.forced, run_choose]
  | cons q r =>
    right
    have hne : ((leftMK l seen).map (entK kv')).toArray.isEmpty = false := by rw [hL]; rfl
    let m := ((leftMK l seen).map (entK kv')).toArray.size
    have hm : 0 < m := by simp [m, hL]
    have hcand : ∀ j, j < m → ∃ p, (leftMK l seen)[j]? = some p ∧ (#[] ++ (((leftMK l seen).map (entK kv')).toArray ++ #[]).map some)[j]? = some (some (entK kv' p)) := by
      intro j hj
      have hj' : j < (leftMK l seen).length := by simpa [m] using hj
      refine ⟨(leftMK l seen)[j], List.getElem?_eq_getElem hj', ?_⟩
      simp [hj']
    have hchoose : ∃ j w1, j < m ∧ (choose (.mapNext m)).run P w = .ok j w1 ∧ Ext w w1 := by
      rw [run_choose]
      by_cases h : (Question.mapNext m).forced = true
      · exact ⟨0, w, hm, by rw [if_pos h], Ext.refl _⟩
      · refine ⟨_, w.drew, ?_, by rw [if_neg h]; rfl, Ext.drew w⟩
        exact Nat.mod_lt _ hm
    obtain ⟨j, w1, hj, hc1, hE⟩ := hchoose
    obtain ⟨p, hp, hcj⟩ := hcand j hj
    have hbi1 : w1.heap[bi]? = some (.mapIter (some b) c seen.toArray c) := (hE.keep bi hI.lt (fun h => h)).trans hI
    have hset : (setObj bi (.mapIter (some b) c (seen.toArray.push (entK kv' p).born) c)).run P w1 = .ok () { w1 with heap := w1.heap.setIfInBounds bi (.mapIter (some b) c (seen.toArray.push (entK kv' p).born) c) } := by simp [setObj, Sem.run, hbi1]
    refine ⟨p, { w1 with heap := w1.heap.setIfInBounds bi (.mapIter (some b) c (seen.toArray.push (entK kv' p).born) c) }, by rw [← hL]; exact List.mem_of_getElem? hp, ?_, ?_, ?_⟩
    · simp only [Instr.next, Sem.run_bind, h1, Result.andThen_ok, h2, hall', Bool.false_eq_true, if_false, hleft, hold, hnew', hne]
      have hsz : (#[] ++ (((leftMK l seen).map (entK kv')).toArray ++ #[]).map some).size = m := by simp [m]
      simp only [hsz, hc1, Result.andThen_ok, hcj, Sem.run_bind, hset, Sem.run_pure]
      rfl
    · have hlt1 : bi < w1.heap.size := Nat.lt_of_lt_of_le hI.lt hE.size
      unfold Itr
      simp [Array.getElem?_setIfInBounds, hlt1, entK]
    · refine (Ext.fr hE).trans ⟨rfl, rfl, rfl, by simp, fun x hx hn => ?_⟩
      rw [Array.getElem?_setIfInBounds_ne (Ne.symm hn)]
theorem Rn.nxtK {ι : Type} {kv' : ι → Value} {x : Operand} {bi b c : Nat} {l : MsK ι} {seen : List Nat} (ho : ops[i]? = some ⟨some d, .next x false, ty, pos, af, g⟩) (hg : gok e ops g = true) (hn : Nat.blt d n = true) (hx : ev e x = some (.pointer (some ⟨bi, 0, none⟩))) (hM : MpK kv' w b l c) (hI : Itr w bi b c seen) (hb : ∀ p ∈ l, p.2.2 < c)
    (h0 : leftMK l seen = [] → Rn P f n R (.inRegion ops rest :: k) ((d, .tuple #[.bool false]) :: e) w)
    (h1 : ∀ p w', p ∈ leftMK l seen → Itr w' bi b c (seen ++ [p.2.2]) → Fr (fun x => x = bi) w w' → Rn P f n R (.inRegion ops rest :: k) ((d, .tuple #[.bool true, kv' p.1, p.2.1]) :: e) w') : Rn P f n R (.inRegion ops (i :: rest) :: k) e w := by
  rcases nextK_run (P := P) hM hI hb ty with ⟨hl, hr⟩ | ⟨p, w', hp, hr, hI', hF⟩
  · exact Rn.opV ho hg rfl hn (fun a hf => by simp [execOp, ev_eval hf hx, hr]) (h0 hl)
  · exact Rn.opV ho hg rfl hn (fun a hf => by simp [execOp, ev_eval hf hx, hr]) (h1 p w' hp hI' hF)
/-- The entry of the step that was just taken. -/
theorem V.entryK {ι : Type} {kv' : ι → Value} {x : Operand} {bi b c : Nat} {l : MsK ι} {seen : List Nat} {p : ι × Value × Nat} (hx : ev e x = some (.pointer (some ⟨bi, 0, none⟩))) (hM : MpK kv' w b l c) (hI : Itr w bi b c (seen ++ [p.2.2])) (hp : p ∈ l) (hnd : (l.map (·.2.2)).Nodup) :
    OpV P n e w ⟨dst, .entry x, ty, pos, af, g⟩ (.tuple #[kv' p.1, p.2.1]) w := fun a hf => by
  have h1 : (getObj bi).run P w = .ok (.mapIter (some b) c (seen ++ [p.2.2]).toArray c) w := by unfold Itr at hI; simp only [getObj, Sem.run, hI]
  have h2 := run_getObjK (P := P) hM
  have hfind : (l.map (entK kv')).toArray.find? (fun e => e.born == p.2.2) = some (entK kv' p) := by
    rw [List.find?_toArray, List.find?_map]
    have : l.find? ((fun e : MapEntry => e.born == p.2.2) ∘ (entK kv')) = some p := by
      clear hM h2 h1 hI
      induction l with
      | nil => simp at hp
      | cons q r ih =>
        simp only [List.map_cons, List.nodup_cons] at hnd
        by_cases hq : q.2.2 = p.2.2
        · have : q = p := by
            rcases List.mem_cons.1 hp with rfl | hp
            · rfl
            · exact absurd (hq ▸ List.mem_map_of_mem hp) hnd.1
          subst this
          simp [List.find?_cons, entK]
        · have hp' : p ∈ r := by
            rcases List.mem_cons.1 hp with rfl | hp
            · exact absurd rfl hq
            · exact hp
          rw [List.find?_cons]
          have : ((fun e : MapEntry => e.born == p.2.2) ∘ (entK kv')) q = false := by simp [entK, hq]
          rw [this]
          exact ih hp' hnd.2
    rw [this]; rfl
  have hback : (seen ++ [p.2.2]).toArray.back? = some p.2.2 := by simp
  simp only [execOp, ev_eval hf hx, Instr.entry, Sem.run_bind, h1, Result.andThen_ok, hback, h2, bne_self_eq_false, Bool.false_eq_true, if_false, hfind, Sem.run_pure]
  rfl
theorem leftMK_perm {ι : Type} (l : MsK ι) (seen : List Nat) (p : ι × Value × Nat) (hnd : (l.map (·.2.2)).Nodup) (hp : p ∈ leftMK l seen) : (leftMK l seen).Perm (p :: leftMK l (seen ++ [p.2.2])) := by
  have h1 : leftMK l (seen ++ [p.2.2]) = (leftMK l seen).filter fun q => !(q.2.2 == p.2.2) := by
    unfold leftMK
    rw [List.filter_filter]
    congr 1
    funext q
    by_cases h : q.2.2 = p.2.2 <;> simp [h, Bool.and_comm]
  have hnd' : ((leftMK l seen).map (·.2.2)).Nodup := by
    have : ((leftMK l seen).map (·.2.2)).Sublist (l.map (·.2.2)) := List.Sublist.map _ List.filter_sublist
    exact hnd.sublist this
  rw [h1]
  clear h1
  generalize leftMK l seen = m at *
  induction m with
  | nil => simp at hp
  | cons q r ih =>
    simp only [List.map_cons, List.nodup_cons] at hnd'
    rcases List.mem_cons.1 hp with rfl | hp'
    · have : r.filter (fun q => !(q.2.2 == p.2.2)) = r := List.filter_eq_self.2 fun x hx => by
        have : x.2.2 ≠ p.2.2 := fun hh => hnd'.1 (hh ▸ List.mem_map_of_mem hx)
        simp [this]
      simp [List.filter_cons, this]
    · have hq : q.2.2 ≠ p.2.2 := fun hh => hnd'.1 (hh ▸ List.mem_map_of_mem hp')
      rw [List.filter_cons]
      simp only [beq_iff_eq, hq, not_false_eq_true, decide_true, Bool.not_eq_true', if_true]
      have hb : (q.2.2 == p.2.2) = false := by simpa using hq
      simp only [hb, Bool.not_false, if_true]
      exact ((ih hp' hnd'.2).cons q).trans (List.Perm.swap _ _ _)

/- 32 bits, 64 bits, 8 bits -/

theorem Rn.yield {l m : Nat} {y : Operand} {xs : List Operand} {ts : Array TypeId} {vs : List Value} {R' : Ending → World → Prop}
    (ho : ops[i]? = some ⟨some d, .call { callee := .value y, args := xs.toArray, argTypes := ts }, ty, pos, af, g⟩) (hg : gok e ops g = true) (hn : Nat.blt d n = true)
    (hy : ev e y = some (.func (.yield l) #[] #[])) (hx : evs e xs = some vs) (hY : YieldAt Fence.wide m P l vs.toArray w R')
    (h : ∀ x w', R' x w' → ∃ v, x = .returned v ∧ Rn P f n R (.inRegion ops rest :: k) ((d, v) :: e) w') : Rn P f n R (.inRegion ops (i :: rest) :: k) e w := by
  intro b tm cs h1 h2 h3
  obtain ⟨fn, tmps, assign, body, hyl, hRd⟩ := hY
  have hw := wanted_of_gok (o := ⟨some d, .call { callee := .value y, args := xs.toArray, argTypes := ts }, ty, pos, af, g⟩) (ops := ops) (tm := tm) h3 hg
  have hst := stepG_op (P := P) (b := b) (a := ⟨tm, []⟩) (k := k) (cs := cs) (w := w) (rest := rest) ho hw
  have hr : (execOp (Act.eval ⟨tm, []⟩) ⟨some d, .call { callee := .value y, args := xs.toArray, argTypes := ts }, ty, pos, af, g⟩).run P w = .ok (.round l fn tmps assign body) w := by
    simp [execOp, resolve, ev_eval (a := ⟨tm, []⟩) h3 hy, Deferred.ofValue, invoke, evs_map (a := ⟨tm, []⟩) h3 hx, hyl]
  have henter : step P (lone (b.at ⟨tm, []⟩ (.inRegion ops (i :: rest) :: k)) cs w) =
      .next (lone (Frame.round l fn tmps assign body .normal) (b.at ⟨tm, []⟩ (.inRegion ops (i :: rest) :: k) :: cs) w) :=
    step_lone_go (by rw [hst]; simp [stepG.apply, hr, Frame.at])
  obtain ⟨x, w', hR, hcomes⟩ := hRd.2 (b.at ⟨tm, []⟩ (.inRegion ops (i :: rest) :: k)) cs (room_wide _)
  obtain ⟨v, rfl, hk⟩ := h x w' hR
  have hcomes := comesIn_wide.1 hcomes
  have hfin := Frame.finish_at b ⟨tm, []⟩ ops i rest k v
  have hn' : d < n := by simpa [Nat.blt_eq] using hn
  obtain ⟨x2, w2, fr2, hR2, hc2, q⟩ := hk b (tm.setIfInBounds d v) cs h1 h2 (h3.put hn' v)
  refine ⟨x2, w2, fr2, hR2, Comes.of_steps (.head henter ?_) hc2, q⟩
  have hcs : Steps P (lone (Frame.round l fn tmps assign body .normal) (b.at ⟨tm, []⟩ (.inRegion ops (i :: rest) :: k) :: cs) w) (lone ((b.at ⟨tm, []⟩ (.inRegion ops (i :: rest) :: k)).finish v) cs w') := hcomes
  rw [hfin] at hcs
  simpa [ho, Act.put] using hcs
theorem grown_fr {b : Nat} {w w' : World} (h : Fr (fun x => x = b) w w') : w.grownBy w' (some b) := ⟨h.os, h.tape, h.output, h.size, fun k hk hn => h.keep k hk fun e => hn (by rw [e])⟩
theorem grown_ext {w w' : World} (h : Ext w w') : w.grownBy w' none := ⟨h.os, h.tape, h.output, h.size, fun k hk _ => h.keep k hk fun e => e⟩
theorem MpK.walks {ι : Type} {kv' : ι → Value} {b : Nat} {l : MsK ι} {c : Nat} {w w' : World} (h : MpK kv' w b l c) (hk : KeepsWalks w w') : MpK kv' w' b l c := hk.same b _ h rfl
theorem Itr.walks {bi mb since : Nat} {seen : List Nat} {w w' : World} (h : Itr w bi mb since seen) (hk : KeepsWalks w w') : Itr w' bi mb since seen := hk.same bi _ h rfl
end
end Go.Wk
