/-
  Maps whose keys are values of any type that can be told apart (structs of texts): lookup, update, length. Plain laws over any program.
-/
import Derived.Test.YtpcpfjpcfcbopaaDoorWu
set_option linter.unusedVariables false
set_option linter.unusedSimpArgs false
namespace Go.Wk
open Go Go.RowKit
section
variable {κ : Type} [DecidableEq κ]
abbrev MsK (κ : Type) := List (κ × Value × Nat)
def entK (kv : κ → Value) (p : κ × Value × Nat) : MapEntry := { key := kv p.1, val := p.2.1, born := p.2.2 }
def MpK (kv : κ → Value) (w : World) (b : Nat) (l : MsK κ) (clock : Nat) : Prop := w.heap[b]? = some (.map (l.map (entK kv)).toArray clock)
def lookMK (l : MsK κ) (key : κ) : Option Value := (l.find? fun p => decide (p.1 = key)).map (·.2.1)
def putMK (key : κ) (v : Value) (clock : Nat) : MsK κ → MsK κ
  | [] => [(key, v, clock)]
  | p :: r => if p.1 = key then (key, v, p.2.2) :: r else p :: putMK key v clock r
def goMK (key : κ) : MsK κ → Nat → Option (Nat × Value)
  | [], _ => none
  | p :: r, i => if p.1 = key then some (i, p.2.1) else goMK key r (i + 1)
variable {kv : κ → Value} {w w' : World} {P : Program}
theorem MpK.lt {ι : Type} {kv' : ι → Value} {b : Nat} {l : MsK ι} {c : Nat} (h : MpK kv' w b l c) : b < w.heap.size := by
  rcases Nat.lt_or_ge b w.heap.size with hlt | hge
  · exact hlt
  · unfold MpK at h; rw [Array.getElem?_eq_none hge] at h; cases h
theorem MpK.fr {ι : Type} {kv' : ι → Value} {S : Nat → Prop} {b : Nat} {l : MsK ι} {c : Nat} (h : MpK kv' w b l c) (hf : Fr S w w') (hn : ¬ S b) : MpK kv' w' b l c := (hf.keep b h.lt hn).trans h
theorem goMK_look (key : κ) : ∀ (l : MsK κ) (i : Nat), (goMK key l i).map (·.2) = lookMK l key
  | [], _ => rfl
  | p :: r, i => by
    by_cases h : p.1 = key
    · simp [goMK, lookMK, h]
    · simp only [goMK, h, if_false, goMK_look key r, lookMK, List.find?_cons, decide_false]
theorem goMK_idx (key : κ) : ∀ (l : MsK κ) (i j : Nat) (v : Value), goMK key l i = some (j, v) → i ≤ j ∧ ∃ p, l[j - i]? = some p ∧ p.1 = key
  | [], _, _, _, h => by cases h
  | p :: r, i, j, v, h => by
    by_cases hp : p.1 = key
    · simp [goMK, hp] at h; obtain ⟨rfl, _⟩ := h
      exact ⟨Nat.le_refl _, p, by simp, hp⟩
    · simp only [goMK, hp, if_false] at h
      obtain ⟨h1, q, h2, h3⟩ := goMK_idx key r (i + 1) j v h
      refine ⟨by omega, q, ?_, h3⟩
      have : j - i = (j - (i + 1)) + 1 := by omega
      rw [this]; simpa using h2
theorem putMK_some (key : κ) (v : Value) (c : Nat) : ∀ (l : MsK κ) (i j : Nat) (u : Value), goMK key l i = some (j, u) → ((l.map (entK kv)).toArray.modify (j - i) fun e => { e with key := kv key, val := v }) = ((putMK key v c l).map (entK kv)).toArray
  | [], _, _, _, h => by cases h
  | p :: r, i, j, u, h => by
    by_cases hp : p.1 = key
    · simp [goMK, hp] at h; obtain ⟨rfl, _⟩ := h
      apply Array.ext'
      simp [putMK, hp, entK, List.modify]
    · simp only [goMK, hp, if_false] at h
      have hle := (goMK_idx key r (i + 1) j u h).1
      have ih := congrArg Array.toList (putMK_some key v c r (i + 1) j u h)
      apply Array.ext'
      have e1 : j - i = (j - (i + 1)) + 1 := by omega
      rw [e1]
      simp only [Array.toList_modify, List.map_cons, putMK, hp, if_false, List.modify_succ_cons] at ih ⊢
      rw [ih]
theorem putMK_none (key : κ) (v : Value) (c : Nat) : ∀ (l : MsK κ) (i : Nat), goMK key l i = none → ((l.map (entK kv)).toArray.push { key := kv key, val := v, born := c }) = ((putMK key v c l).map (entK kv)).toArray
  | [], _, _ => rfl
  | p :: r, i, h => by
    by_cases hp : p.1 = key
    · simp [goMK, hp] at h
    · simp only [goMK, hp, if_false] at h
      have ih := congrArg Array.toList (putMK_none key v c r (i + 1) h)
      apply Array.ext'
      simp only [Array.toList_push, List.map_cons, putMK, hp, if_false, List.cons_append] at ih ⊢
      rw [ih]
/-- Keys of a type are told apart so. -/
structure KeyOk (P : Program) (kt : TypeId) (kv : κ → Value) : Prop where
  ck : ∀ (b : Bool) (a : κ) (w : World), (Instr.checkKey b 10000 kt (kv a)).run P w = .ok () w
  fk : ∀ (key : κ) (l : MsK κ) (w : World), (Instr.findKey kt (kv key) (l.map (entK kv))).run P w = .ok (goMK key l 0) w
  st : ∀ (a : κ) (w : World), (Instr.keyThatStays (kv a) (kv a)).run P w = .ok (kv a) w
theorem findAsking_goMK {kt : TypeId} (he : ∀ (a b : κ) (w : World), (Op.equal kt (kv a) (kv b)).run P w = .ok (decide (a = b)) w) (key : κ) : ∀ (l : MsK κ) (i : Nat) (w : World), (Instr.findAsking kt (kv key) (l.map (entK kv)) i).run P w = .ok (goMK key l i) w
  | [], i, w => rfl
  | p :: r, i, w => by
    simp only [List.map_cons, Instr.findAsking, Sem.run_bind, entK, he key p.1 w, Result.andThen_ok]
    by_cases h : p.1 = key
    · simp [goMK, h]
    · have h' : ¬ key = p.1 := fun e => h e.symm
      simp only [goMK, h, h', decide_false, if_false]
      exact findAsking_goMK he key r (i + 1) w
theorem findKey_ask {kt : TypeId} {kd : TypeDesc} (hu : P.underlying kt = some kd) (hn : ∀ a b : κ, Instr.sameNow kd (kv a) (kv b) = none) (he : ∀ (a b : κ) (w : World), (Op.equal kt (kv a) (kv b)).run P w = .ok (decide (a = b)) w) (key : κ) (l : MsK κ) (w : World) :
    (Instr.findKey kt (kv key) (l.map (entK kv))).run P w = .ok (goMK key l 0) w := by
  simp only [Instr.findKey, Sem.run_bind, run_underlying hu, Result.andThen_ok]
  cases l with
  | nil => rfl
  | cons p r =>
    have : Instr.findNow kd (kv key) ((p :: r).map (entK kv)) 0 = none := by simp [Instr.findNow, entK, hn]
    rw [this]
    exact findAsking_goMK he key (p :: r) 0 w
end
section
variable {κ : Type} [DecidableEq κ] {kv : κ → Value} {P : Program} {f : FuncId} {n : Nat} {R : Ending → World → Prop} {k : List Item} {e : Env} {w w' : World}
variable {ops : Array Oper} {i : Nat} {rest : List Nat} {d : Nat} {dst : Option Nat} {ty : TypeId} {pos : String} {af : Array Edge} {g : Option (Nat × Bool)}
theorem run_getObjK {ι : Type} {kv' : ι → Value} {b : Nat} {l : MsK ι} {c : Nat} (h : MpK kv' w b l c) : (getObj b).run P w = .ok (.map (l.map (entK kv')).toArray c) w := by
  unfold MpK at h
  simp [getObj, Sem.run, h]
theorem run_setObjK {ι : Type} {kv' : ι → Value} {b : Nat} {l : MsK ι} {c : Nat} (h : MpK kv' w b l c) (o : Obj) : (setObj b o).run P w = .ok () { w with heap := w.heap.setIfInBounds b o } := by
  unfold MpK at h
  simp [setObj, Sem.run, h]
theorem MpK.set {ι : Type} {kv' : ι → Value} {b : Nat} {l : MsK ι} {c : Nat} (h : MpK kv' w b l c) (l' : MsK ι) (c' : Nat) : MpK kv' { w with heap := w.heap.setIfInBounds b (.map (l'.map (entK kv')).toArray c') } b l' c' ∧ Fr (fun x => x = b) w { w with heap := w.heap.setIfInBounds b (.map (l'.map (entK kv')).toArray c') } := by
  have hlt := h.lt
  refine ⟨?_, rfl, rfl, rfl, by simp, fun x hx hn => ?_⟩
  · unfold MpK; simp [Array.getElem?_setIfInBounds, hlt]
  · rw [Array.getElem?_setIfInBounds_ne (Ne.symm hn)]
theorem V.lkpK {t kt et : TypeId} {x y : Operand} {b c : Nat} {l : MsK κ} {key : κ} {z : Value} (hK : KeyOk P kt kv) (ht : P.underlying t = some (.map kt et)) (hz : ∀ w, (zeroValue et).run P w = .ok z w) (hx : ev e x = some (.map (some b))) (hy : ev e y = some (kv key)) (hM : MpK kv w b l c) :
    OpV P n e w ⟨dst, .lookup t x y false, ty, pos, af, g⟩ ((lookMK l key).getD z) w := fun a hf => by
  have hl := goMK_look key l 0
  have hfk := hK.fk key l w
  simp only [execOp, ev_eval hf hx, ev_eval hf hy, Instr.lookup, Sem.run_bind, run_underlying ht, Result.andThen_ok, run_getObjK hM, Sem.run_pure, hK.ck, List.toList_toArray, hfk]
  cases h : goMK key l 0 with
  | none => rw [h] at hl; simp [hz, ← hl]
  | some p => rw [h] at hl; simp [← hl]
theorem V.lenMK {ι : Type} {kv' : ι → Value} {x : Operand} {b c : Nat} {l : MsK ι} {t kt et : TypeId} (ht : P.underlying t = some (.map kt et)) (hx : ev e x = some (.map (some b))) (hM : MpK kv' w b l c) :
    OpV P n e w ⟨dst, .call { callee := .builtin .len, args := #[x], argTypes := #[t] }, ty, pos, af, g⟩ (.int .i64 l.length) w := fun a hf => by
  simp [execOp, resolve, invoke, builtin, ev_eval hf hx, Builtin.len_, run_underlying ht, goInt, run_getObjK hM]
theorem mapUpdateK_run {t kt et : TypeId} {b c : Nat} {l : MsK κ} (hK : KeyOk P kt kv) (key : κ) (v : Value) (ht : P.underlying t = some (.map kt et)) (hM : MpK kv w b l c) :
    ∃ c' w', (Instr.mapUpdate t (.map (some b)) (kv key) v).run P w = .ok () w' ∧ MpK kv w' b (putMK key v c l) c' ∧ Fr (fun x => x = b) w w' ∧ c' = (if (lookMK l key).isSome then c else c + 1) := by
  have hl := goMK_look key l 0
  have hfk := hK.fk key l w
  cases h : goMK key l 0 with
  | none =>
    obtain ⟨h1, h2⟩ := hM.set (putMK key v c l) (c + 1)
    refine ⟨_, _, ?_, h1, h2, by rw [← hl, h]; rfl⟩
    rw [h] at hfk
    simp only [Instr.mapUpdate, Sem.run_bind, run_underlying ht, Result.andThen_ok, run_getObjK hM, hK.ck, List.toList_toArray, hfk]
    rw [putMK_none key v c l 0 h]
    exact run_setObjK hM _
  | some p =>
    obtain ⟨j, u⟩ := p
    obtain ⟨h1, h2⟩ := hM.set (putMK key v c l) c
    refine ⟨_, _, ?_, h1, h2, by rw [← hl, h]; rfl⟩
    obtain ⟨_, q, hq, hqk⟩ := goMK_idx key l 0 j u h
    rw [Nat.sub_zero] at hq
    have hkey : (((l.map (entK kv)).toArray[j]?).map (·.key)).getD (kv key) = kv key := by
      simp [hq, entK, hqk]
    rw [h] at hfk
    simp only [Instr.mapUpdate, Sem.run_bind, run_underlying ht, Result.andThen_ok, run_getObjK hM, hK.ck, List.toList_toArray, hfk, hkey, hK.st]
    have := putMK_some (kv := kv) key v c l 0 j u h
    rw [Nat.sub_zero] at this
    rw [this]
    exact run_setObjK hM _
end
end Go.Wk
