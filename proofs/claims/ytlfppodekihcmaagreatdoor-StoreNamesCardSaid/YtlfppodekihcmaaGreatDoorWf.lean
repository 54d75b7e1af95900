/-
  The walk by places: texts and bytes, maps whose keys are texts, arrays, results in cells. Plain laws over any program.
-/
import Derived.Test.YtlfppodekihcmaaGreatDoorWe
import Derived.Laws.IdiomStrings
set_option linter.unusedVariables false
set_option linter.unusedSimpArgs false
namespace Go.Wk
open Go Go.RowKit

def byteR : Rep UInt8 := Rep.flat 1 (fun c => [.int .u8 c.toNat]) (fun _ => True) (fun _ => rfl) (fun _ => by simp [Value.oneCell']) Nat.one_pos

section
variable {P : Program} {f : FuncId} {n : Nat} {R : Ending → World → Prop} {k : List Item} {e : Env} {w : World}
variable {ops : Array Oper} {i : Nat} {rest : List Nat} {d : Nat} {dst : Option Nat} {ty : TypeId} {pos : String} {af : Array Edge} {g : Option (Nat × Bool)}

/-- The bytes of a text, in new memory. -/
theorem s2b_run {s t el : TypeId} (hs : P.underlying s = some .string) (ht : P.underlying t = some (.slice el)) (he : P.underlying el = some (.int .u8)) (l : List UInt8) (hl : l.length ≤ maxLen) (w : World) :
    ∃ c w', (convert s t (Str l)).run P w = .ok (.slice (some ⟨w.heap.size, 0, none⟩) l.length c) w' ∧ l.length ≤ c ∧ c ≤ maxLen ∧ Ext w w' ∧ w'.heap.size = w.heap.size + 1 ∧ Sl (fun b => b = w.heap.size) w' (some ⟨w.heap.size, 0, none⟩) byteR l := by
  have hq : (⟨l.toArray⟩ : ByteArray).size = l.length := by simp [ByteArray.size]
  have hr := run_bytes_of_string (P := P) w s t el ⟨l.toArray⟩ hs ht he
  rw [hq] at hr
  refine ⟨_, _, hr, grownCap_ge w l.length 0 el, grownCap_le_maxLen w l.length 0 el hl, (Ext.drew w).trans (Ext.alloc _ _), by simp, ?_⟩
  intro hne
  refine ⟨w.heap.size, 0, rfl, rfl, fun kk x hx => ⟨[.int .u8 x.toNat], fun j v hv => ?_, rfl, trivial⟩⟩
  cases j with
  | succ j => simp at hv
  | zero =>
    simp at hv; subst hv
    have hlt := lt_of_get hx
    have hnew := heap_alloc_new w.drew (.cells (bytesRow ⟨l.toArray⟩ (grownCap w l.length 0 el)) el ((bytesRow ⟨l.toArray⟩ (grownCap w l.length 0 el)).size, (bytesRow ⟨l.toArray⟩ (grownCap w l.length 0 el)).size + 1))
    have hc : (bytesRow ⟨l.toArray⟩ (grownCap w l.length 0 el))[kk]? = some (.int .u8 x.toNat) := by
      unfold bytesRow
      rw [Array.getElem?_append_left (by simpa using hlt)]
      simp only [Array.getElem?_map, List.getElem?_toArray, hx, Option.map_some]
    have h1 : byteR.sz = 1 := rfl
    have hsz : w.drew.heap.size = w.heap.size := rfl
    rw [hsz] at hnew
    simp only [World.cell?, hnew, h1, Nat.zero_add, Nat.mul_one, Nat.add_zero, Option.isSome_none, Bool.false_eq_true, if_false, hc]
theorem Rn.s2b {s t el : TypeId} {x : Operand} {l : List UInt8} (ho : ops[i]? = some ⟨some d, .convert s t x, ty, pos, af, g⟩) (hg : gok e ops g = true) (hn : Nat.blt d n = true) (hs : P.underlying s = some .string) (ht : P.underlying t = some (.slice el)) (he : P.underlying el = some (.int .u8)) (hx : ev e x = some (Str l)) (hl : l.length ≤ maxLen)
    (h : ∀ b c w', b = w.heap.size → l.length ≤ c → c ≤ maxLen → Ext w w' → b < w'.heap.size → Sl (fun x => x = b) w' (some ⟨b, 0, none⟩) byteR l → Rn P f n R (.inRegion ops rest :: k) ((d, .slice (some ⟨b, 0, none⟩) l.length c) :: e) w') : Rn P f n R (.inRegion ops (i :: rest) :: k) e w := by
  obtain ⟨c, w', hr, h1, h2, h3, h4, h5⟩ := s2b_run (P := P) hs ht he l hl w
  exact Rn.opV ho hg rfl hn (fun a hf => by simp [execOp, ev_eval hf hx, hr]) (h _ c w' rfl h1 h2 h3 (by omega) h5)
/-- The text that bytes are. -/
theorem b2s_run {D : Nat → Prop} {s t el : TypeId} {A : Option Addr} {l : List UInt8} {c : Nat} (hs : P.underlying s = some (.slice el)) (ht : P.underlying t = some .string) (he : P.underlying el = some (.int .u8)) (hS : Sl D w A byteR l) : (convert s t (.slice A l.length c)).run P w = .ok (Str l) w := by
  cases A with
  | none =>
    have : l = [] := by
      by_cases hne : l = []
      · exact hne
      · obtain ⟨b, o, h, _⟩ := hS hne; cases h
    subst this
    exact run_convert_bytes_nil w s el hs he 0 c t ht
  | some a =>
    refine run_convert_bytes_back w s t el a c l hs he ht fun j hj => ?_
    obtain ⟨b, o, hA, _, hel⟩ := hS (by rintro rfl; simp at hj)
    cases hA
    obtain ⟨vs, h1, rfl, _⟩ := hel j l[j] (List.getElem?_eq_getElem hj)
    have := h1 0 (.int .u8 l[j].toNat) rfl
    have hsz : byteR.sz = 1 := rfl
    rw [hsz, Nat.mul_one, Nat.add_zero] at this
    rw [Addr.add_none, this]
theorem V.b2s {D : Nat → Prop} {s t el : TypeId} {x : Operand} {A : Option Addr} {l : List UInt8} {m c : Nat} (hs : P.underlying s = some (.slice el)) (ht : P.underlying t = some .string) (he : P.underlying el = some (.int .u8)) (hx : ev e x = some (.slice A m c)) (hm : l.length = m) (hS : Sl D w A byteR l) :
    OpV P n e w ⟨dst, .convert s t x, ty, pos, af, g⟩ (Str l) w := fun a hf => by
  subst hm
  simp [execOp, ev_eval hf hx, b2s_run (P := P) (c := c) hs ht he hS]

/- results in cells -/
theorem resC1 {fn : Func} {t : Nat} {tt : TypeId} {b o s : Nat} {vs : List Value} (hr : fn.results = #[.cell t tt]) (hl : lk e t = some (.pointer (some ⟨b, o, none⟩))) (ha : ∀ w, (isAgg tt).run P w = .ok true w) (hs : ∀ w, (sizeOf tt).run P w = .ok s w) (hR : Rd w b o vs) (hvs : vs.length = s) (tm : Array Value) (h : Fits e n tm) : (results fn tm).run P w = .ok (.agg vs.toArray) w := by
  have hc : ∀ j v, vs[j]? = some v → w.cell? ((⟨b, o, none⟩ : Addr).add j) = some v := fun j v hv => by rw [Addr.add_none]; exact hR j v hv
  have := run_loadCells_list (P := P) (w := w) ⟨b, o, none⟩ vs hc
  rw [hvs] at this
  simp [results, hr, h.2 t _ hl, asAddr, loadVar, ha, hs, this]
theorem Rn.retC {fn : Func} {t : Nat} {tt t' : TypeId} {b s : Nat} {vs : List Value} (hf : P.funcs[f]? = some fn) (hr : fn.results = #[.cell t tt]) (hl : lk e t = some (.pointer (some ⟨b, 0, none⟩))) (ha : ∀ w, (isAgg tt).run P w = .ok true w) (hs : ∀ w, (sizeOf tt).run P w = .ok s w) (hB : Blk w b t' vs) (hvs : vs.length = s)
    (h : R (.returned (.agg vs.toArray)) w) : Rn P f n R (.code .ret :: k) e w := Rn.retV hf (fun tm hh => resC1 hr hl ha hs hB.rd hvs tm hh) h
theorem Rn.endC {fn : Func} {t : Nat} {tt t' : TypeId} {b s : Nat} {vs : List Value} (hf : P.funcs[f]? = some fn) (hr : fn.results = #[.cell t tt]) (hl : lk e t = some (.pointer (some ⟨b, 0, none⟩))) (ha : ∀ w, (isAgg tt).run P w = .ok true w) (hs : ∀ w, (sizeOf tt).run P w = .ok s w) (hB : Blk w b t' vs) (hvs : vs.length = s)
    (h : R (.returned (.agg vs.toArray)) w) : Rn P f n R [] e w := Rn.endV hf (fun tm hh => resC1 hr hl ha hs hB.rd hvs tm hh) h

/- arrays -/
theorem V.ixR {t el : TypeId} {x y : Operand} {b o m : Nat} {q : IntKind} {j : Int} {s : Nat} (kk : Nat) (ht : P.underlying t = some (.array m el)) (hs : ∀ w, (sizeOf el).run P w = .ok s w) (hx : ev e x = some (.pointer (some ⟨b, o, none⟩))) (hy : ev e y = some (.int q j)) (hj : j = (kk : Int)) (hm : kk < m) :
    OpV P n e w ⟨dst, .indexAddr t x y, ty, pos, af, g⟩ (.pointer (some ⟨b, o + kk * s, none⟩)) w := fun a hf => by
  subst hj
  have hlt : (0 : Int) ≤ kk ∧ (kk : Int) < (m : Int) := ⟨by omega, by omega⟩
  simp [execOp, ev_eval hf hx, ev_eval hf hy, Instr.indexAt, asIntOf, run_underlying ht, hlt, hs, Addr.add_none, Instr.sureAddr]
  intro hh; omega

/- maps -/
/-- A map whose keys are texts. -/
abbrev Ms := List (List UInt8 × Value × Nat)
def ent (p : List UInt8 × Value × Nat) : MapEntry := { key := Str p.1, val := p.2.1, born := p.2.2 }
def Mp (w : World) (b : Nat) (l : Ms) (clock : Nat) : Prop := w.heap[b]? = some (.map (l.map ent).toArray clock)
theorem Mp.lt {b : Nat} {l : Ms} {c : Nat} (h : Mp w b l c) : b < w.heap.size := by
  rcases Nat.lt_or_ge b w.heap.size with hlt | hge
  · exact hlt
  · unfold Mp at h; rw [Array.getElem?_eq_none hge] at h; cases h
theorem Mp.fr {S : Nat → Prop} {w' : World} {b : Nat} {l : Ms} {c : Nat} (h : Mp w b l c) (hf : Fr S w w') (hn : ¬ S b) : Mp w' b l c := (hf.keep b h.lt hn).trans h
theorem Mp.ext {w' : World} {b : Nat} {l : Ms} {c : Nat} (h : Mp w b l c) (hf : Ext w w') : Mp w' b l c := h.fr hf fun hh => hh
def lookM (l : Ms) (key : List UInt8) : Option Value := (l.find? fun p => decide (p.1 = key)).map (·.2.1)
def putM (key : List UInt8) (v : Value) (clock : Nat) : Ms → Ms
  | [] => [(key, v, clock)]
  | p :: r => if p.1 = key then (key, v, p.2.2) :: r else p :: putM key v clock r
def delM (key : List UInt8) : Ms → Ms
  | [] => []
  | p :: r => if p.1 = key then r else p :: delM key r
def goM (key : List UInt8) : Ms → Nat → Option (Nat × Value)
  | [], _ => none
  | p :: r, i => if p.1 = key then some (i, p.2.1) else goM key r (i + 1)
theorem findNow_goM (key : List UInt8) : ∀ (l : Ms) (i : Nat), Instr.findNow .string (Str key) (l.map ent) i = some (goM key l i)
  | [], i => rfl
  | p :: r, i => by
    have hb : ((⟨key.toArray⟩ : ByteArray) == ⟨p.1.toArray⟩) = decide (p.1 = key) := by
      rw [beq_toListBytes, ByteArray.toList_mk, ByteArray.toList_mk]
      by_cases h : p.1 = key
      · simp [h]
      · simp [h]; exact fun hh => h hh.symm
    simp only [List.map_cons, Instr.findNow, ent, Instr.sameNow, hb]
    by_cases h : p.1 = key
    · simp [goM, h]
    · simp only [h, decide_false, goM, if_false]
      exact findNow_goM key r (i + 1)
theorem goM_look (key : List UInt8) : ∀ (l : Ms) (i : Nat), (goM key l i).map (·.2) = lookM l key
  | [], _ => rfl
  | p :: r, i => by
    by_cases h : p.1 = key
    · simp [goM, lookM, h]
    · simp only [goM, h, if_false, goM_look key r, lookM, List.find?_cons, decide_false]
theorem goM_idx (key : List UInt8) : ∀ (l : Ms) (i j : Nat) (v : Value), goM key l i = some (j, v) → i ≤ j ∧ ∃ p, l[j - i]? = some p ∧ p.1 = key
  | [], _, _, _, h => by cases h
  | p :: r, i, j, v, h => by
    by_cases hp : p.1 = key
    · simp [goM, hp] at h; obtain ⟨rfl, _⟩ := h; exact ⟨Nat.le_refl _, p, by simp, hp⟩
    · simp only [goM, hp, if_false] at h
      obtain ⟨h1, q, h2, h3⟩ := goM_idx key r (i + 1) j v h
      refine ⟨by omega, q, ?_, h3⟩
      have : j - i = (j - (i + 1)) + 1 := by omega
      rw [this]; simpa using h2
theorem putM_some (key : List UInt8) (v : Value) (c : Nat) : ∀ (l : Ms) (i j : Nat) (u : Value), goM key l i = some (j, u) → ((l.map ent).toArray.modify (j - i) fun e => { e with key := Str key, val := v }) = ((putM key v c l).map ent).toArray
  | [], _, _, _, h => by cases h
  | p :: r, i, j, u, h => by
    by_cases hp : p.1 = key
    · simp [goM, hp] at h; obtain ⟨rfl, _⟩ := h
      apply Array.ext'
      simp [putM, hp, ent, List.modify]
    · simp only [goM, hp, if_false] at h
      have hle := (goM_idx key r (i + 1) j u h).1
      have ih := congrArg Array.toList (putM_some key v c r (i + 1) j u h)
      apply Array.ext'
      have e1 : j - i = (j - (i + 1)) + 1 := by omega
      rw [e1]
      simp only [Array.toList_modify, List.map_cons, putM, hp, if_false, List.modify_succ_cons] at ih ⊢
      rw [ih]
theorem putM_none (key : List UInt8) (v : Value) (c : Nat) : ∀ (l : Ms) (i : Nat), goM key l i = none → ((l.map ent).toArray.push { key := Str key, val := v, born := c }) = ((putM key v c l).map ent).toArray
  | [], _, _ => rfl
  | p :: r, i, h => by
    by_cases hp : p.1 = key
    · simp [goM, hp] at h
    · simp only [goM, hp, if_false] at h
      have ih := congrArg Array.toList (putM_none key v c r (i + 1) h)
      apply Array.ext'
      simp only [Array.toList_push, List.map_cons, putM, hp, if_false, List.cons_append] at ih ⊢
      rw [ih]
theorem delM_some (key : List UInt8) : ∀ (l : Ms) (i j : Nat) (u : Value), goM key l i = some (j, u) → ((l.map ent).toArray.eraseIdxIfInBounds (j - i)) = ((delM key l).map ent).toArray
  | [], _, _, _, h => by cases h
  | p :: r, i, j, u, h => by
    have hlt := lt_of_get (goM_idx key (p :: r) i j u h).2.choose_spec.1
    by_cases hp : p.1 = key
    · simp [goM, hp] at h; obtain ⟨rfl, _⟩ := h
      apply Array.ext'
      simp [delM, hp, Array.eraseIdxIfInBounds]
    · simp only [goM, hp, if_false] at h
      have hle := (goM_idx key r (i + 1) j u h).1
      have hlt2 := lt_of_get (goM_idx key r (i + 1) j u h).2.choose_spec.1
      have ih := congrArg Array.toList (delM_some key r (i + 1) j u h)
      apply Array.ext'
      have e1 : j - i = (j - (i + 1)) + 1 := by omega
      rw [e1] at hlt ⊢
      simp only [Array.eraseIdxIfInBounds, List.size_toArray, List.length_map, List.map_cons, List.length_cons] at ih ⊢
      rw [dif_pos (by omega)] at ih
      rw [dif_pos (by omega)]
      simp only [Array.toList_eraseIdx, List.eraseIdx_cons_succ, delM, hp, if_false, List.map_cons] at ih ⊢
      rw [ih]
theorem delM_none (key : List UInt8) : ∀ (l : Ms) (i : Nat), goM key l i = none → delM key l = l
  | [], _, _ => rfl
  | p :: r, i, h => by
    by_cases hp : p.1 = key
    · simp [goM, hp] at h
    · simp only [goM, hp, if_false] at h
      simp [delM, hp, delM_none key r (i + 1) h]

theorem checkKey_str {kt : TypeId} (hk : P.underlying kt = some .string) (b : Bool) (v : Value) (w : World) : (Instr.checkKey b 10000 kt v).run P w = .ok () w := by
  have h : ∀ m : Nat, (Instr.checkKey b (m + 1) kt v).run P w = .ok () w := fun m => by simp [Instr.checkKey, run_underlying hk]
  exact h 9999
theorem run_getObj {b : Nat} {l : Ms} {c : Nat} (h : Mp w b l c) : (getObj b).run P w = .ok (.map (l.map ent).toArray c) w := by
  unfold Mp at h
  simp [getObj, Sem.run, h]
theorem run_setObj {b : Nat} {l : Ms} {c : Nat} (h : Mp w b l c) (o : Obj) : (setObj b o).run P w = .ok () { w with heap := w.heap.setIfInBounds b o } := by
  unfold Mp at h
  simp [setObj, Sem.run, h]
theorem Mp.set {b : Nat} {l : Ms} {c : Nat} (h : Mp w b l c) (l' : Ms) (c' : Nat) : Mp { w with heap := w.heap.setIfInBounds b (.map (l'.map ent).toArray c') } b l' c' ∧ Fr (fun x => x = b) w { w with heap := w.heap.setIfInBounds b (.map (l'.map ent).toArray c') } := by
  have hlt := h.lt
  refine ⟨?_, rfl, rfl, rfl, by simp, fun x hx hn => ?_⟩
  · unfold Mp; simp [Array.getElem?_setIfInBounds, hlt]
  · rw [Array.getElem?_setIfInBounds_ne (Ne.symm hn)]
theorem run_findKey {kt : TypeId} (hk : P.underlying kt = some .string) (key : List UInt8) (l : Ms) (w : World) : (Instr.findKey kt (Str key) (l.map ent).toArray.toList).run P w = .ok (goM key l 0) w := by
  simp only [Instr.findKey, Sem.run_bind, run_underlying hk, Result.andThen_ok, List.toList_toArray, findNow_goM, Sem.run_pure]
/-- 'm[k]', m not nil. -/
theorem V.lkp {t kt et : TypeId} {x y : Operand} {b c : Nat} {l : Ms} {key : List UInt8} {z : Value} (ht : P.underlying t = some (.map kt et)) (hk : P.underlying kt = some .string) (hz : ∀ w, (zeroValue et).run P w = .ok z w) (hx : ev e x = some (.map (some b))) (hy : ev e y = some (Str key)) (hM : Mp w b l c) :
    OpV P n e w ⟨dst, .lookup t x y false, ty, pos, af, g⟩ ((lookM l key).getD z) w := fun a hf => by
  have hl := goM_look key l 0
  simp only [execOp, ev_eval hf hx, ev_eval hf hy, Instr.lookup, Sem.run_bind, run_underlying ht, Result.andThen_ok, run_getObj hM, Sem.run_pure, checkKey_str hk, run_findKey hk]
  cases h : goM key l 0 with
  | none => rw [h] at hl; simp [hz, ← hl]
  | some p => rw [h] at hl; simp [← hl]
theorem V.lkpO {t kt et : TypeId} {x y : Operand} {b c : Nat} {l : Ms} {key : List UInt8} {z : Value} (ht : P.underlying t = some (.map kt et)) (hk : P.underlying kt = some .string) (hz : ∀ w, (zeroValue et).run P w = .ok z w) (hx : ev e x = some (.map (some b))) (hy : ev e y = some (Str key)) (hM : Mp w b l c) :
    OpV P n e w ⟨dst, .lookup t x y true, ty, pos, af, g⟩ (.tuple #[(lookM l key).getD z, .bool (lookM l key).isSome]) w := fun a hf => by
  have hl := goM_look key l 0
  simp only [execOp, ev_eval hf hx, ev_eval hf hy, Instr.lookup, Sem.run_bind, run_underlying ht, Result.andThen_ok, run_getObj hM, Sem.run_pure, checkKey_str hk, run_findKey hk]
  cases h : goM key l 0 with
  | none => rw [h] at hl; simp [hz, ← hl]
  | some p => rw [h] at hl; simp [← hl]
theorem V.lenM {x : Operand} {b c : Nat} {l : Ms} {t kt et : TypeId} (ht : P.underlying t = some (.map kt et)) (hx : ev e x = some (.map (some b))) (hM : Mp w b l c) :
    OpV P n e w ⟨dst, .call { callee := .builtin .len, args := #[x], argTypes := #[t] }, ty, pos, af, g⟩ (.int .i64 l.length) w := fun a hf => by
  simp [execOp, resolve, invoke, builtin, ev_eval hf hx, Builtin.len_, run_underlying ht, goInt, run_getObj hM]
/-- 'm[k] = v'. -/
theorem mapUpdate_run {t kt et : TypeId} {b c : Nat} {l : Ms} (key : List UInt8) (v : Value) (ht : P.underlying t = some (.map kt et)) (hk : P.underlying kt = some .string) (hM : Mp w b l c) :
    ∃ c' w', (Instr.mapUpdate t (.map (some b)) (Str key) v).run P w = .ok () w' ∧ Mp w' b (putM key v c l) c' ∧ Fr (fun x => x = b) w w' ∧ c' = (if (lookM l key).isSome then c else c + 1) := by
  have hl := goM_look key l 0
  cases h : goM key l 0 with
  | none =>
    obtain ⟨h1, h2⟩ := hM.set (putM key v c l) (c + 1)
    refine ⟨_, _, ?_, h1, h2, by rw [← hl, h]; rfl⟩
    simp only [Instr.mapUpdate, Sem.run_bind, run_underlying ht, Result.andThen_ok, run_getObj hM, checkKey_str hk, run_findKey hk, h]
    rw [putM_none key v c l 0 h]
    exact run_setObj hM _
  | some p =>
    obtain ⟨j, u⟩ := p
    obtain ⟨h1, h2⟩ := hM.set (putM key v c l) c
    refine ⟨_, _, ?_, h1, h2, by rw [← hl, h]; rfl⟩
    obtain ⟨_, q, hq, hqk⟩ := goM_idx key l 0 j u h
    rw [Nat.sub_zero] at hq
    have hkey : (((l.map ent).toArray[j]?).map (·.key)).getD (Str key) = Str key := by
      simp [hq, ent, hqk]
    have hstay : (Instr.keyThatStays (Str key) (Str key)).run P w = .ok (Str key) w := by
      have : Instr.sameBits 10000 (Str key) (Str key) = true := by
        have hb : ((⟨key.toArray⟩ : ByteArray) == ⟨key.toArray⟩) = true := by rw [beq_toListBytes]; simp
        simpa [Instr.sameBits, Str] using hb
      simp only [Instr.keyThatStays, this, if_true, Sem.run_pure]
    simp only [Instr.mapUpdate, Sem.run_bind, run_underlying ht, Result.andThen_ok, run_getObj hM, checkKey_str hk, run_findKey hk, h, hkey, hstay]
    have := putM_some key v c l 0 j u h
    rw [Nat.sub_zero] at this
    rw [this]
    exact run_setObj hM _
theorem Rn.mu {t kt et : TypeId} {x y z : Operand} {b c : Nat} {l : Ms} {key : List UInt8} {v : Value} (ho : ops[i]? = some ⟨none, .mapUpdate t x y z, ty, pos, af, g⟩) (hg : gok e ops g = true) (ht : P.underlying t = some (.map kt et)) (hk : P.underlying kt = some .string) (hx : ev e x = some (.map (some b))) (hy : ev e y = some (Str key)) (hz : ev e z = some v) (hM : Mp w b l c)
    (h : ∀ c' w', Mp w' b (putM key v c l) c' → Fr (fun x => x = b) w w' → c' = (if (lookM l key).isSome then c else c + 1) → Rn P f n R (.inRegion ops rest :: k) e w') : Rn P f n R (.inRegion ops (i :: rest) :: k) e w := by
  obtain ⟨c', w', hr, h1, h2, h3⟩ := mapUpdate_run (P := P) key v ht hk hM
  exact Rn.opU ho hg rfl (fun a hf => by simp [execOp, ev_eval hf hx, ev_eval hf hy, ev_eval hf hz, hr]) (h c' w' h1 h2 h3)
/-- 'delete(m, k)'. -/
theorem Rn.del {t kt et : TypeId} {x y : Operand} {b c : Nat} {l : Ms} {key : List UInt8} (ho : ops[i]? = some ⟨dst, .call { callee := .builtin .delete, args := #[x, y], argTypes := #[t, kt] }, ty, pos, af, g⟩) (hdst : dst = none) (hg : gok e ops g = true) (ht : P.underlying t = some (.map kt et)) (hk : P.underlying kt = some .string) (hx : ev e x = some (.map (some b))) (hy : ev e y = some (Str key)) (hM : Mp w b l c)
    (h : ∀ w', Mp w' b (delM key l) c → Fr (fun x => x = b) w w' → Rn P f n R (.inRegion ops rest :: k) e w') : Rn P f n R (.inRegion ops (i :: rest) :: k) e w := by
  obtain ⟨h1, h2⟩ := hM.set (delM key l) c
  refine Rn.opN (v := .tuple #[]) ho hg hdst (fun a hf => ?_) (h _ h1 h2)
  cases hgo : goM key l 0 with
  | none =>
    have := delM_none key l 0 hgo
    simp [execOp, resolve, invoke, builtin, ev_eval hf hx, ev_eval hf hy, Builtin.delete_, run_underlying ht, run_getObj hM, checkKey_str hk]
    have hfk := run_findKey hk key l w
    simp only [List.toList_toArray] at hfk
    rw [hfk, hgo]
    simp [run_setObj hM, this]
  | some p =>
    obtain ⟨j, u⟩ := p
    have := delM_some key l 0 j u hgo
    rw [Nat.sub_zero] at this
    simp [execOp, resolve, invoke, builtin, ev_eval hf hx, ev_eval hf hy, Builtin.delete_, run_underlying ht, run_getObj hM, checkKey_str hk]
    have hfk := run_findKey hk key l w
    simp only [List.toList_toArray] at hfk
    rw [hfk, hgo]
    have this2 : (List.map ent l).eraseIdx j = List.map ent (delM key l) := by simpa using congrArg Array.toList this
    simp [run_setObj hM, this2]
/-- 'make(map[..]..)'. -/
theorem Rn.mkM {t : TypeId} (ho : ops[i]? = some ⟨some d, .makeMap t none, ty, pos, af, g⟩) (hg : gok e ops g = true) (hn : Nat.blt d n = true)
    (h : ∀ b w', b = w.heap.size → Mp w' b [] 0 → Ext w w' → Rn P f n R (.inRegion ops rest :: k) ((d, .map (some b)) :: e) w') : Rn P f n R (.inRegion ops (i :: rest) :: k) e w :=
  Rn.opV (w' := w.alloc (.map #[] 0)) ho hg rfl hn (fun a hf => by simp [execOp, Instr.makeMap]) (h w.heap.size _ rfl (heap_alloc_new w _) (Ext.alloc w _))
end
end Go.Wk
