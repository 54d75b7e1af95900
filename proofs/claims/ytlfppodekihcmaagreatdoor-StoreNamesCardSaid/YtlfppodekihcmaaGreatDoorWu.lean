/-
  The walk by places: a map with texts as keys as one thing among those that lie apart. Plain laws over any program.
-/
import Derived.Test.YtlfppodekihcmaaGreatDoorWt
set_option linter.unusedVariables false
set_option linter.unusedSimpArgs false
namespace Go.Wk
open Go Go.RowKit
section
variable {α : Type}
/-- A value out of its cells: of one cell, or an aggregate. -/
def v1 (vs : List Value) : Value := match vs with | [v] => v | _ => undef
def vA (vs : List Value) : Value := .agg vs.toArray
abbrev Kv (α : Type) := List (List UInt8 × α)
def lookP (key : List UInt8) (l : Kv α) : Option α := (l.find? fun p => decide (p.1 = key)).map (·.2)
def putP (key : List UInt8) (x : α) : Kv α → Kv α
  | [] => [(key, x)]
  | p :: r => if p.1 = key then (key, x) :: r else p :: putP key x r
def delP (key : List UInt8) : Kv α → Kv α
  | [] => []
  | p :: r => if p.1 = key then r else p :: delP key r
/-- How a map's entries lie. -/
def MsRep (tv : List Value → Value) (rep : Rep α) (Z : Nat → Prop) (w : World) : Ms → Kv α → Prop
  | [], [] => True
  | m :: ms, p :: ps => m.1 = p.1 ∧ (∃ vs, m.2.1 = tv vs ∧ rep.rel Z w vs p.2) ∧ MsRep tv rep Z w ms ps
  | _, _ => False
variable {tv : List Value → Value} {rep : Rep α} {Z Z' : Nat → Prop} {w w' : World}
theorem MsRep.imp (h : ∀ vs x, rep.rel Z w vs x → rep.rel Z' w' vs x) : ∀ {ms : Ms} {ps : Kv α}, MsRep tv rep Z w ms ps → MsRep tv rep Z' w' ms ps
  | [], [], _ => trivial
  | _ :: _, _ :: _, ⟨h1, ⟨vs, h2, h3⟩, h4⟩ => ⟨h1, ⟨vs, h2, h _ _ h3⟩, MsRep.imp h h4⟩
  | _ :: _, [], h0 | [], _ :: _, h0 => h0.elim
theorem MsRep.names : ∀ {ms : Ms} {ps : Kv α}, MsRep tv rep Z w ms ps → ms.map (·.1) = ps.map (·.1)
  | [], [], _ => rfl
  | _ :: _, _ :: _, ⟨h1, _, h4⟩ => by simp [h1, h4.names]
  | _ :: _, [], h0 | [], _ :: _, h0 => h0.elim
theorem MsRep.length {ms : Ms} {ps : Kv α} (h : MsRep tv rep Z w ms ps) : ms.length = ps.length := by simpa using congrArg List.length h.names
theorem MsRep.look (key : List UInt8) : ∀ {ms : Ms} {ps : Kv α}, MsRep tv rep Z w ms ps → (lookM ms key = none ∧ lookP key ps = none) ∨ ∃ vs x, lookM ms key = some (tv vs) ∧ lookP key ps = some x ∧ rep.rel Z w vs x
  | [], [], _ => .inl ⟨rfl, rfl⟩
  | m :: ms, p :: ps, ⟨h1, ⟨vs, h2, h3⟩, h4⟩ => by
    by_cases hk : p.1 = key
    · have hk' : m.1 = key := h1.trans hk
      exact .inr ⟨vs, p.2, by simp [lookM, hk', h2], by simp [lookP, hk], h3⟩
    · have hk' : m.1 ≠ key := fun h => hk (h1.symm.trans h)
      have e1 : lookM (m :: ms) key = lookM ms key := by simp [lookM, hk']
      have e2 : lookP key (p :: ps) = lookP key ps := by simp [lookP, hk]
      rw [e1, e2]; exact h4.look key
  | _ :: _, [], h0 | [], _ :: _, h0 => h0.elim
theorem MsRep.put (key : List UInt8) (c : Nat) {vs : List Value} {x : α} (hx : rep.rel Z w vs x) : ∀ {ms : Ms} {ps : Kv α}, MsRep tv rep Z w ms ps → MsRep tv rep Z w (putM key (tv vs) c ms) (putP key x ps)
  | [], [], _ => ⟨rfl, ⟨vs, rfl, hx⟩, trivial⟩
  | m :: ms, p :: ps, ⟨h1, h2, h4⟩ => by
    by_cases hk : p.1 = key
    · have hk' : m.1 = key := h1.trans hk
      simp only [putM, putP, if_pos hk, if_pos hk']
      exact ⟨rfl, ⟨vs, rfl, hx⟩, h4⟩
    · have hk' : m.1 ≠ key := fun h => hk (h1.symm.trans h)
      simp only [putM, putP, if_neg hk, if_neg hk']
      exact ⟨h1, h2, h4.put key c hx⟩
  | _ :: _, [], h0 | [], _ :: _, h0 => h0.elim
theorem MsRep.del (key : List UInt8) : ∀ {ms : Ms} {ps : Kv α}, MsRep tv rep Z w ms ps → MsRep tv rep Z w (delM key ms) (delP key ps)
  | [], [], _ => trivial
  | m :: ms, p :: ps, ⟨h1, h2, h4⟩ => by
    by_cases hk : p.1 = key
    · have hk' : m.1 = key := h1.trans hk
      simp only [delM, delP, if_pos hk, if_pos hk']
      exact h4
    · have hk' : m.1 ≠ key := fun h => hk (h1.symm.trans h)
      simp only [delM, delP, if_neg hk, if_neg hk']
      exact ⟨h1, h2, h4.del key⟩
  | _ :: _, [], h0 | [], _ :: _, h0 => h0.elim
/- the entries' stamps and keys -/
theorem putM_keys (key : List UInt8) (v : Value) (c : Nat) : ∀ (ms : Ms), (∀ k ∈ (putM key v c ms).map (·.1), k = key ∨ k ∈ ms.map (·.1)) ∧ ((ms.map (·.1)).Nodup → ((putM key v c ms).map (·.1)).Nodup)
  | [] => by simp [putM]
  | p :: r => by
    by_cases hk : p.1 = key
    · simp only [putM, if_pos hk, List.map_cons]
      refine ⟨fun k h => ?_, fun h => ?_⟩
      · rcases List.mem_cons.1 h with h | h
        · exact .inl h
        · exact .inr (List.mem_cons_of_mem _ h)
      · rw [List.nodup_cons] at h ⊢; rw [hk] at h; exact h
    · simp only [putM, if_neg hk, List.map_cons]
      obtain ⟨h1, h2⟩ := putM_keys key v c r
      refine ⟨fun k h => ?_, fun h => ?_⟩
      · rcases List.mem_cons.1 h with h | h
        · exact .inr (by rw [h]; exact List.mem_cons_self)
        · exact (h1 k h).imp id fun h => List.mem_cons_of_mem _ h
      · rw [List.nodup_cons] at h ⊢
        exact ⟨fun hm => (h1 _ hm).elim hk h.1, h2 h.2⟩
theorem putM_stamps (key : List UInt8) (v : Value) (c : Nat) : ∀ (ms : Ms), (∀ p ∈ ms, p.2.2 < c) → (ms.map (·.2.2)).Nodup →
    (((lookM ms key).isSome = true → (putM key v c ms).map (·.2.2) = ms.map (·.2.2)) ∧ ((lookM ms key).isSome = false → (putM key v c ms).map (·.2.2) = ms.map (·.2.2) ++ [c]))
  | [], _, _ => by simp [putM, lookM]
  | p :: r, hb, hn => by
    by_cases hk : p.1 = key
    · simp [putM, lookM, hk]
    · have e1 : lookM (p :: r) key = lookM r key := by simp [lookM, hk]
      rw [List.map_cons, List.nodup_cons] at hn
      obtain ⟨h1, h2⟩ := putM_stamps key v c r (fun q hq => hb q (by simp [hq])) hn.2
      simp only [putM, if_neg hk, List.map_cons, e1]
      exact ⟨fun h => by rw [h1 h], fun h => by rw [h2 h]; rfl⟩
theorem delM_sub (key : List UInt8) : ∀ (ms : Ms), (delM key ms).Sublist ms
  | [] => .slnil
  | p :: r => by
    by_cases hk : p.1 = key
    · simp only [delM, if_pos hk]; exact List.sublist_cons_self _ _
    · simp only [delM, if_neg hk]; exact (delM_sub key r).cons_cons _
structure MpA (tv : List Value → Value) (rep : Rep α) (Z : Nat → Prop) (w : World) (b : Nat) (ms : Ms) (c : Nat) (ps : Kv α) : Prop where
  mp : Mp w b ms c
  rp : MsRep tv rep Z w ms ps
  born : ∀ p ∈ ms, p.2.2 < c
  bnd : (ms.map (·.2.2)).Nodup
  keys : (ms.map (·.1)).Nodup
theorem MpA.put {b c : Nat} {ms : Ms} {ps : Kv α} (h : MpA tv rep Z w b ms c ps) (key : List UInt8) {vs : List Value} {x : α} {c' : Nat} (hx : rep.rel Z' w' vs x) (hk : ∀ vs x, rep.rel Z w vs x → rep.rel Z' w' vs x)
    (hM : Mp w' b (putM key (tv vs) c ms) c') (hc : c' = if (lookM ms key).isSome then c else c + 1) : MpA tv rep Z' w' b (putM key (tv vs) c ms) c' (putP key x ps) := by
  obtain ⟨h1, h2⟩ := putM_stamps key (tv vs) c ms h.born h.bnd
  have hm : ∀ p ∈ putM key (tv vs) c ms, p.2.2 ∈ (putM key (tv vs) c ms).map (·.2.2) := fun p hp => List.mem_map_of_mem hp
  have hb : ∀ x ∈ ms.map (·.2.2), x < c := fun x hx => by obtain ⟨p, hp, rfl⟩ := List.mem_map.1 hx; exact h.born p hp
  refine ⟨hM, (h.rp.imp hk).put key c hx, fun p hp => ?_, ?_, (putM_keys key _ c ms).2 h.keys⟩
  · have h3 := hm p hp
    cases hs : (lookM ms key).isSome with
    | true => rw [h1 hs] at h3; rw [hc, hs]; exact hb _ h3
    | false =>
      rw [h2 hs] at h3; rw [hc, hs]
      rcases List.mem_append.1 h3 with h4 | h4
      · have := hb _ h4; simp; omega
      · simp at h4; simp [h4]
  · cases hs : (lookM ms key).isSome with
    | true => rw [h1 hs]; exact h.bnd
    | false =>
      rw [h2 hs, List.nodup_append]
      exact ⟨h.bnd, by simp, fun a ha b' hb' hab => by simp at hb'; have := hb a ha; omega⟩
theorem MpA.del {b c : Nat} {ms : Ms} {ps : Kv α} (h : MpA tv rep Z w b ms c ps) (key : List UInt8) (hk : ∀ vs x, rep.rel Z w vs x → rep.rel Z' w' vs x) (hM : Mp w' b (delM key ms) c) : MpA tv rep Z' w' b (delM key ms) c (delP key ps) :=
  ⟨hM, (h.rp.imp hk).del key, fun p hp => h.born p ((delM_sub key ms).subset hp), h.bnd.sublist ((delM_sub key ms).map _), h.keys.sublist ((delM_sub key ms).map _)⟩
/-- A map of one's own. -/
def mapR (b : Nat) (tv : List Value → Value) (rep : Rep α) (ps : Kv α) : Rs where
  F := fun x => x = b
  H := fun Z w => ∃ ms c, MpA tv rep Z w b ms c ps
  keep := fun {Z Z' w w'} ⟨ms, c, h⟩ hF hZ hZ' => ⟨ms, c, by
    refine ⟨?_, h.rp.imp fun vs x hx => rep.mono (rep.keep (rep.bd hx) fun b hb hlt => hZ b hb.1 hlt) fun b hb => hZ' b hb.1 hb.2, h.born, h.bnd, h.keys⟩
    have h2 := h.mp
    have := hF b rfl h2.lt
    unfold Mp at h2 ⊢; rw [this]; exact h2⟩
  lt := fun ⟨_, _, h⟩ b hb => hb ▸ h.mp.lt
theorem mapR_flat {b : Nat} {ps : Kv α} (hf : rep.Flat) : (mapR b tv rep ps).Flat := fun Z Z' w ⟨ms, c, h⟩ => ⟨ms, c, h.mp, h.rp.imp fun vs x hx => hf Z Z' w w vs x hx, h.born, h.bnd, h.keys⟩
end
section
variable {P : Program} {f : FuncId} {n : Nat} {R : Ending → World → Prop} {k : List Item} {e : Env} {w w' : World}
variable {ops : Array Oper} {i : Nat} {rest : List Nat} {d : Nat} {dst : Option Nat} {ty : TypeId} {pos : String} {af : Array Edge} {g : Option (Nat × Bool)}
variable {Z0 S : Nat → Prop} {w0 : World} {L : List Rs} {α : Type} {tv : List Value → Value} {rep : Rep α} {b : Nat} {ps : Kv α}
/-- What is under a key. -/
def Lkd (w : World) (b : Nat) (key : List UInt8) (z u : Value) (is : Bool) : Prop := ∃ ms c, Mp w b ms c ∧ (lookM ms key).getD z = u ∧ (lookM ms key).isSome = is
theorem Map.lkp {Z : Nat → Prop} (h : (mapR b tv rep ps).H Z w) (key : List UInt8) {zs : List Value} {zm : α} (hz : rep.rel Z w zs zm) :
    ∃ vs, Lkd w b key (tv zs) (tv vs) (lookP key ps).isSome ∧ rep.rel Z w vs ((lookP key ps).getD zm) := by
  obtain ⟨ms, c, h⟩ := h
  rcases h.rp.look key with ⟨h1, h2⟩ | ⟨vs, x, h1, h2, h3⟩
  · exact ⟨zs, ⟨ms, c, h.mp, by rw [h1]; rfl, by rw [h1, h2]; rfl⟩, by rw [h2]; exact hz⟩
  · exact ⟨vs, ⟨ms, c, h.mp, by rw [h1]; rfl, by rw [h1, h2]; rfl⟩, by rw [h2]; exact h3⟩
theorem V.lkpH {t kt et : TypeId} {x y : Operand} {key : List UInt8} {z u : Value} {is : Bool} (hl : Lkd w b key z u is) (ht : P.underlying t = some (.map kt et)) (hk : P.underlying kt = some .string) (hz : ∀ w, (zeroValue et).run P w = .ok z w) (hx : ev e x = some (.map (some b))) (hy : ev e y = some (Str key)) :
    OpV P n e w ⟨dst, .lookup t x y false, ty, pos, af, g⟩ u w := by
  obtain ⟨ms, c, h1, h2, _⟩ := hl
  rw [← h2]; exact V.lkp ht hk hz hx hy h1
theorem V.lkpHO {t kt et : TypeId} {x y : Operand} {key : List UInt8} {z u : Value} {is : Bool} (hl : Lkd w b key z u is) (ht : P.underlying t = some (.map kt et)) (hk : P.underlying kt = some .string) (hz : ∀ w, (zeroValue et).run P w = .ok z w) (hx : ev e x = some (.map (some b))) (hy : ev e y = some (Str key)) :
    OpV P n e w ⟨dst, .lookup t x y true, ty, pos, af, g⟩ (.tuple #[u, .bool is]) w := by
  obtain ⟨ms, c, h1, h2, h3⟩ := hl
  rw [← h2, ← h3]; exact V.lkpO ht hk hz hx hy h1
theorem V.lenMH {x : Operand} {t kt et : TypeId} (ht : P.underlying t = some (.map kt et)) (hx : ev e x = some (.map (some b))) {Z : Nat → Prop} (h : (mapR b tv rep ps).H Z w) :
    OpV P n e w ⟨dst, .call { callee := .builtin .len, args := #[x], argTypes := #[t] }, ty, pos, af, g⟩ (.int .i64 ps.length) w := by
  obtain ⟨ms, c, h⟩ := h
  rw [← h.rp.length]; exact V.lenM ht hx h.mp
theorem Hp.muUp (hm : Hp Z0 S w0 w L) (m : Nat) (hi : L[m]? = some (mapR b tv rep ps)) {key : List UInt8} {vs : List Value} {x : α} (hx : rep.rel (Zo Z0 S w0 L) w vs x) {ms : Ms} {c c' : Nat} (h : MpA tv rep (Zo Z0 S w0 L) w b ms c ps)
    (hM : Mp w' b (putM key (tv vs) c ms) c') (hF : Fr (fun x => x = b) w w') (hc : c' = if (lookM ms key).isSome then c else c + 1) : Hp Z0 S w0 w' (L.set m (mapR b tv rep (putP key x ps))) := by
  have hk : ∀ vs x, rep.rel (Zo Z0 S w0 L) w vs x → rep.rel (fun b => Zo Z0 S w0 L b ∧ b < w.heap.size) w' vs x := fun vs x hx => rep.keep (rep.bd hx) fun y hy hlt => hF.keep y hlt fun hh => hy.1.2 m _ hi hh
  exact hm.upd m _ hi hF (fun y hy => .inl hy) fun Z' h1 _ => ⟨_, _, h.put key (rep.mono (hk _ _ hx) fun y hy => h1 y hy.1 hy.2) (fun vs x hx => rep.mono (hk _ _ hx) fun y hy => h1 y hy.1 hy.2) hM hc⟩
/-- 'm[k] = v'. -/
theorem Rn.muH {t kt et : TypeId} {x y z : Operand} {key : List UInt8} {v : α} {vs : List Value} (hm : Hp Z0 S w0 w L) (m : Nat) (hi : L[m]? = some (mapR b tv rep ps)) (ho : ops[i]? = some ⟨none, .mapUpdate t x y z, ty, pos, af, g⟩) (hg : gok e ops g = true) (ht : P.underlying t = some (.map kt et)) (hk : P.underlying kt = some .string)
    (hx : ev e x = some (.map (some b))) (hy : ev e y = some (Str key)) (hz : ev e z = some (tv vs)) (hv : rep.rel (Zo Z0 S w0 L) w vs v)
    (h : ∀ w', Hp Z0 S w0 w' (L.set m (mapR b tv rep (putP key v ps))) → Rn P f n R (.inRegion ops rest :: k) e w') : Rn P f n R (.inRegion ops (i :: rest) :: k) e w := by
  obtain ⟨ms, c, h0⟩ := hm.get m hi
  exact Rn.mu ho hg ht hk hx hy hz h0.mp fun c' w' h1 h2 h3 => h w' (hm.muUp m hi hv h0 h1 h2 h3)
theorem RH.muH {S' : World → Prop} {fuel : Nat} {listed : Array Bool} {K : Act → World → Prop} {t kt et : TypeId} {x y z : Operand} {key : List UInt8} {v : α} {vs : List Value} (i : Nat) (hr : Region.ready .any ops listed = [i]) (hm : Hp Z0 S w0 w L) (m : Nat) (hi : L[m]? = some (mapR b tv rep ps)) (ho : ops[i]? = some ⟨none, .mapUpdate t x y z, ty, pos, af, g⟩) (hg : gok e ops g = true) (ht : P.underlying t = some (.map kt et)) (hk : P.underlying kt = some .string)
    (hx : ev e x = some (.map (some b))) (hy : ev e y = some (Str key)) (hz : ev e z = some (tv vs)) (hv : rep.rel (Zo Z0 S w0 L) w vs v)
    (h : ∀ w', Hp Z0 S w0 w' (L.set m (mapR b tv rep (putP key v ps))) → S' w' ∧ RG P n K ops S' fuel (listed.setIfInBounds i true) e w') : RG P n K ops S' (fuel + 1) listed e w := by
  obtain ⟨ms, c, h0⟩ := hm.get m hi
  obtain ⟨c', w', hrun, h1, h2, h3⟩ := mapUpdate_run (P := P) key (tv vs) ht hk h0.mp
  obtain ⟨h6, h7⟩ := h w' (hm.muUp m hi hv h0 h1 h2 h3)
  exact RH.oneU i hr ho hg rfl (fun a hf => by simp [execOp, ev_eval hf hx, ev_eval hf hy, ev_eval hf hz, hrun]) h6 h7
/-- 'delete(m, k)'. -/
theorem Rn.delH {t kt et : TypeId} {x y : Operand} {key : List UInt8} (hm : Hp Z0 S w0 w L) (m : Nat) (hi : L[m]? = some (mapR b tv rep ps)) (ho : ops[i]? = some ⟨dst, .call { callee := .builtin .delete, args := #[x, y], argTypes := #[t, kt] }, ty, pos, af, g⟩) (hdst : dst = none) (hg : gok e ops g = true) (ht : P.underlying t = some (.map kt et)) (hk : P.underlying kt = some .string)
    (hx : ev e x = some (.map (some b))) (hy : ev e y = some (Str key))
    (h : ∀ w', Hp Z0 S w0 w' (L.set m (mapR b tv rep (delP key ps))) → Rn P f n R (.inRegion ops rest :: k) e w') : Rn P f n R (.inRegion ops (i :: rest) :: k) e w := by
  obtain ⟨ms, c, h0⟩ := hm.get m hi
  refine Rn.del ho hdst hg ht hk hx hy h0.mp fun w' h1 h2 => h w' ?_
  have hkp : ∀ vs x, rep.rel (Zo Z0 S w0 L) w vs x → rep.rel (fun b => Zo Z0 S w0 L b ∧ b < w.heap.size) w' vs x := fun vs x hx => rep.keep (rep.bd hx) fun y hy hlt => h2.keep y hlt fun hh => hy.1.2 m _ hi hh
  exact hm.upd m _ hi h2 (fun y hy => .inl hy) fun Z' h3 _ => ⟨_, _, h0.del key (fun vs x hx => rep.mono (hkp _ _ hx) fun y hy => h3 y hy.1 hy.2) h1⟩
/-- 'make(map[..]..)'. -/
theorem Rn.mkMH {t : TypeId} (tv : List Value → Value) (rep : Rep α) (hm : Hp Z0 S w0 w L) (ho : ops[i]? = some ⟨some d, .makeMap t none, ty, pos, af, g⟩) (hg : gok e ops g = true) (hn : Nat.blt d n = true)
    (h : ∀ b w', Hp Z0 S w0 w' (L ++ [mapR b tv rep ([] : Kv α)]) → Rn P f n R (.inRegion ops rest :: k) ((d, .map (some b)) :: e) w') : Rn P f n R (.inRegion ops (i :: rest) :: k) e w :=
  Rn.mkM ho hg hn fun b w' hb h1 h2 => h b w' (hm.add _ h2 (fun x hx => by cases hx; omega) fun _ _ => ⟨[], 0, h1, trivial, by simp, by simp, by simp⟩)
/-- 'maps.Clone(m)', m not nil. -/
theorem mapClone_run {gg : FuncId} {t : TypeId} {Z : Nat → Prop} (h : (mapR b tv rep ps).H Z w) :
    ∃ w', (Extern.MapsClone.clone #[.iface t (.map (some b))]).run P w = .ok (.iface t (.map (some w.heap.size))) w' ∧ Ext w w' ∧ ∀ Z', (∀ x, Z x → x < w.heap.size → Z' x) → (mapR w.heap.size tv rep ps).H Z' w' := by
  obtain ⟨ms, c, h⟩ := h
  refine ⟨w.alloc (.map (ms.map ent).toArray c), ?_, Ext.alloc w _, fun Z' hZ => ⟨ms, c, ⟨heap_alloc_new w _, h.rp.imp fun vs x hx => ?_, h.born, h.bnd, h.keys⟩⟩⟩
  · show (Bind.bind (getObj b) _ : Sem Value).run P w = _
    rw [Sem.run_bind, run_getObj h.mp]
    simp
  · exact rep.mono (rep.keep (rep.bd hx) fun y hy hlt => (Ext.alloc w _).keep y hlt fun hh => hh) fun y hy => hZ y hy.1 hy.2
/-- A call of an entry of the model's own that turns the world. -/
theorem V.externW {gg : FuncId} {fn : Func} {en : Array Value → Sem Value} {xs : List Operand} {vs : List Value} {ts : Array TypeId} {v : Value} (hf : P.funcs[gg]? = some fn) (hname : (fn.name == "runtime.NumGoroutine") = false) (hb : fn.body.isNone = true) (hn : Extern.findNext fn = none) (he : Extern.find fn = some en)
    (hx : evs e xs = some vs) (hr : (en vs.toArray).run P w = .ok v w') : OpV P n e w ⟨dst, .call { callee := .value (.func gg), args := xs.toArray, argTypes := ts }, ty, pos, af, g⟩ v w' := fun a hfit => by
  simp [execOp, resolve, Act.eval, Deferred.ofValue, invoke, evs_map hfit hx, run_callFunc_extern hf hname hb hn he, hr]
theorem V.eqlMN {x y : Operand} {p : Option Nat} {t kt et u : TypeId} (ht : P.underlying t = some (.map kt et)) (hx : ev e x = some (.map p)) (hy : ev e y = some (.map none)) :
    OpV P n e w ⟨dst, .binOp .eql t x y u, ty, pos, af, g⟩ (.bool p.isNone) w := fun c hf => by
  simp [execOp, ev_eval hf hx, ev_eval hf hy, eqGuard_at_map, binOp, run_eq_map_nil ht]
theorem V.tasM {x : Operand} {v : Value} {t xT kt et : TypeId} (ht : P.underlying t = some (.map kt et)) (hx : ev e x = some (.iface t v)) :
    OpV P n e w ⟨dst, .typeAssert x xT t false, ty, pos, af, g⟩ v w := fun c hf => by
  simp [execOp, ev_eval hf hx, Instr.typeAssert, run_underlying ht]
end
end Go.Wk
namespace Go.Wk
open Go Go.RowKit
section
variable {α : Type} {tv : List Value → Value} {rep : Rep α} {Z : Nat → Prop} {w : World}
theorem MsRep.entry : ∀ {ms : Ms} {ps : Kv α} {p : List UInt8 × Value × Nat}, MsRep tv rep Z w ms ps → p ∈ ms → ∃ vs x, p.2.1 = tv vs ∧ rep.rel Z w vs x ∧ (p.1, x) ∈ ps
  | m :: ms, q :: ps, p, ⟨h1, ⟨vs, h2, h3⟩, h4⟩, hp => by
    rcases List.mem_cons.1 hp with rfl | hp
    · exact ⟨vs, q.2, h2, h3, by rw [h1]; exact List.mem_cons_self⟩
    · obtain ⟨vs, x, a, b, c⟩ := h4.entry hp; exact ⟨vs, x, a, b, List.mem_cons_of_mem _ c⟩
  | [], _, _, _, hp => by cases hp
  | _ :: _, [], _, h0, _ => h0.elim
/-- The one that was put down longest ago. -/
def oldK (wh : α → Int) (ps : Kv α) : List UInt8 × Int := ps.foldl (fun o p => if o.2 = 0 ∨ wh p.2 < o.2 then (p.1, wh p.2) else o) ([], 0)
theorem oldK_go (wh : α → Int) : ∀ (ps : Kv α) (o : List UInt8 × Int), (∀ p ∈ ps, 0 < wh p.2) → 0 < o.2 →
    (ps.foldl (fun o p => if o.2 = 0 ∨ wh p.2 < o.2 then (p.1, wh p.2) else o) o = o ∨ ∃ p ∈ ps, ps.foldl (fun o p => if o.2 = 0 ∨ wh p.2 < o.2 then (p.1, wh p.2) else o) o = (p.1, wh p.2)) ∧
    (ps.foldl (fun o p => if o.2 = 0 ∨ wh p.2 < o.2 then (p.1, wh p.2) else o) o).2 ≤ o.2 ∧ ∀ p ∈ ps, (ps.foldl (fun o p => if o.2 = 0 ∨ wh p.2 < o.2 then (p.1, wh p.2) else o) o).2 ≤ wh p.2
  | [], o, _, _ => by simp
  | p :: r, o, hp, ho => by
    have h0 := hp p (by simp)
    rw [List.foldl_cons]
    by_cases h : o.2 = 0 ∨ wh p.2 < o.2
    · simp only [if_pos h]
      obtain ⟨h1, h2, h3⟩ := oldK_go wh r (p.1, wh p.2) (fun q hq => hp q (by simp [hq])) h0
      refine ⟨.inr ?_, by dsimp only at h2; omega, fun q hq => ?_⟩
      · rcases h1 with h1 | ⟨q, hq, h1⟩
        · exact ⟨p, by simp, h1⟩
        · exact ⟨q, by simp [hq], h1⟩
      · rcases List.mem_cons.1 hq with rfl | hq
        · exact h2
        · exact h3 q hq
    · simp only [if_neg h]
      obtain ⟨h1, h2, h3⟩ := oldK_go wh r o (fun q hq => hp q (by simp [hq])) ho
      refine ⟨h1.imp id fun ⟨q, hq, h⟩ => ⟨q, by simp [hq], h⟩, h2, fun q hq => ?_⟩
      rcases List.mem_cons.1 hq with rfl | hq
      · omega
      · exact h3 q hq
theorem oldK_spec (wh : α → Int) {ps : Kv α} (hp : ∀ p ∈ ps, 0 < wh p.2) (hne : ps ≠ []) : ∃ p ∈ ps, oldK wh ps = (p.1, wh p.2) ∧ ∀ q ∈ ps, wh p.2 ≤ wh q.2 := by
  cases ps with
  | nil => exact absurd rfl hne
  | cons p r =>
    have h0 := hp p (by simp)
    obtain ⟨h1, h2, h3⟩ := oldK_go wh r (p.1, wh p.2) (fun q hq => hp q (by simp [hq])) h0
    have he : oldK wh (p :: r) = r.foldl (fun o p => if o.2 = 0 ∨ wh p.2 < o.2 then (p.1, wh p.2) else o) (p.1, wh p.2) := by
      unfold oldK; rw [List.foldl_cons, if_pos (.inl rfl)]
    rw [← he] at h1 h2 h3
    rcases h1 with h1 | ⟨q, hq, h1⟩
    · exact ⟨p, by simp, h1, fun q hq => by rcases List.mem_cons.1 hq with rfl | hq; exact Int.le_refl _; have := h3 q hq; rw [h1] at this; exact this⟩
    · exact ⟨q, by simp [hq], h1, fun s hs => by
        rcases List.mem_cons.1 hs with rfl | hs
        · rw [h1] at h2; exact h2
        · have := h3 s hs; rw [h1] at this; exact this⟩
theorem oldK_nil (wh : α → Int) : oldK wh ([] : Kv α) = ([], 0) := rfl
def OldI (wh : α → Int) (ps : Kv α) (ms : Ms) (sn : List Nat) (o : List UInt8) (a : Int) : Prop :=
  (a = 0 ∧ o = [] ∧ ∀ p ∈ ms, p.2.2 ∉ sn) ∨ (0 < a ∧ (∃ x, (o, x) ∈ ps ∧ a = wh x) ∧ ∀ p ∈ ms, p.2.2 ∈ sn → ∀ y, (p.1, y) ∈ ps → a ≤ wh y)
theorem OldI.step {wh : α → Int} {ps : Kv α} {ms : Ms} {sn : List Nat} {o : List UInt8} {a : Int} (h : OldI wh ps ms sn o a) (hp : ∀ p ∈ ps, 0 < wh p.2) (hk : (ps.map (·.1)).Nodup) (hb : (ms.map (·.2.2)).Nodup)
    {p : List UInt8 × Value × Nat} {x : α} (hpm : p ∈ ms) (hx : (p.1, x) ∈ ps) : (a = 0 ∨ wh x < a → OldI wh ps ms (sn ++ [p.2.2]) p.1 (wh x)) ∧ (¬ (a = 0 ∨ wh x < a) → OldI wh ps ms (sn ++ [p.2.2]) o a) := by
  have hun : ∀ y, (p.1, y) ∈ ps → y = x := fun y hy => by
    obtain ⟨i, hi, h1⟩ := List.getElem_of_mem hy
    obtain ⟨j, hj, h2⟩ := List.getElem_of_mem hx
    have : i = j := by
      have e : (ps.map (·.1))[i]? = (ps.map (·.1))[j]? := by simp [hi, hj, h1, h2]
      exact (List.getElem?_inj (by simpa using hi) hk).1 e
    subst this
    rw [h1] at h2; exact (Prod.mk.inj h2).2
  have hps := hp _ hx
  have hsame : ∀ q ∈ ms, q.2.2 = p.2.2 → q = p := fun q hq he => by
    obtain ⟨i, hi, h1⟩ := List.getElem_of_mem hq
    obtain ⟨j, hj, h2⟩ := List.getElem_of_mem hpm
    have : i = j := by
      have e : (ms.map (·.2.2))[i]? = (ms.map (·.2.2))[j]? := by simp [hi, hj, h1, h2, he]
      exact (List.getElem?_inj (by simpa using hi) hb).1 e
    subst this
    rw [← h1, h2]
  refine ⟨fun hc => .inr ⟨hps, ⟨x, hx, rfl⟩, fun q hq hqs y hy => ?_⟩, fun hc => ?_⟩
  · rcases List.mem_append.1 hqs with hqs | hqs
    · rcases h with ⟨_, _, h⟩ | ⟨_, _, h⟩
      · exact absurd hqs (h q hq)
      · have := h q hq hqs y hy; omega
    · have he := hsame q hq (by simpa using hqs)
      subst he
      rw [hun y hy]; omega
  · rcases h with ⟨h0, _, _⟩ | ⟨h0, h1, h2⟩
    · exact absurd (.inl h0) hc
    · refine .inr ⟨h0, h1, fun q hq hqs y hy => ?_⟩
      rcases List.mem_append.1 hqs with hqs | hqs
      · exact h2 q hq hqs y hy
      · have he := hsame q hq (by simpa using hqs)
        subst he
        rw [hun y hy]
        have := not_or.1 hc
        omega
theorem OldI.done {wh : α → Int} {ps : Kv α} {ms : Ms} {sn : List Nat} {o : List UInt8} {a : Int} (h : OldI wh ps ms sn o a) (hp : ∀ p ∈ ps, 0 < wh p.2) (hk : (ps.map (·.2)).Pairwise fun x y => wh x ≠ wh y) (hn : ms.map (·.1) = ps.map (·.1))
    (hl : leftM ms sn = []) : (o, a) = oldK wh ps := by
  have hall : ∀ p ∈ ms, p.2.2 ∈ sn := fun p hp => by
    have := List.filter_eq_nil_iff.1 hl p hp
    simpa using this
  rcases h with ⟨rfl, rfl, h⟩ | ⟨h0, ⟨x, hx, rfl⟩, h⟩
  · have : ms = [] := by
      cases ms with
      | nil => rfl
      | cons p r => exact absurd (hall p (by simp)) (h p (by simp))
    subst this
    have : ps = [] := by simpa using hn.symm
    subst this; rfl
  · obtain ⟨p, hpm, he, hmin⟩ := oldK_spec wh hp (List.ne_nil_of_mem hx)
    rw [he]
    have hkm : p.1 ∈ ms.map (·.1) := by rw [hn]; exact List.mem_map_of_mem hpm
    obtain ⟨q, hq, hq1⟩ := List.mem_map.1 hkm
    have h1 := h q hq (hall q hq) p.2 (by rw [hq1]; exact hpm)
    have h2 := hmin _ hx
    dsimp only at h2
    have heq : wh x = wh p.2 := by omega
    obtain ⟨i, hi, e1⟩ := List.getElem_of_mem hx
    obtain ⟨j, hj, e2⟩ := List.getElem_of_mem hpm
    have hij : i = j := by
      rw [List.pairwise_map] at hk
      rcases Nat.lt_trichotomy i j with hlt | hlt | hlt
      · have := List.pairwise_iff_getElem.1 hk i j hi hj hlt
        rw [e1, e2] at this; exact absurd heq this
      · exact hlt
      · have := List.pairwise_iff_getElem.1 hk j i hj hi hlt
        rw [e1, e2] at this; exact absurd heq.symm this
    subst hij
    rw [e1] at e2
    rw [← e2]
end
end Go.Wk
namespace Go.Wk
open Go Go.RowKit
theorem map_all {α : Type} {tv : List Value → Value} {rep : Rep α} {b : Nat} {ps : Kv α} {Z : Nat → Prop} {w : World} (h : (mapR b tv rep ps).H Z w) : (mapR b tv rep ps).H All w :=
  (mapR b tv rep ps).keep h (fun _ _ _ => rfl) (fun _ _ _ => rfl) fun _ _ _ => trivial
end Go.Wk
namespace Go.Wk
open Go Go.RowKit
section
variable {α : Type}
def leK : List UInt8 → List UInt8 → Bool := fun x y => decide (x ≤ y)
def sortK (ps : Kv α) : List (List UInt8) := (ps.map (·.1)).mergeSort leK
def keysG (ps : Kv α) : Option (List (List UInt8)) := if (∀ k ∈ ps.map (·.1), k.length ≤ 1000000) ∧ ps.length ≤ 1000000 then some (sortK ps) else none
theorem keysGE {ps : Kv α} {ks : List (List UInt8)} (h : keysG ps = some ks) : (∀ k ∈ ps.map (·.1), k.length ≤ 1000000) ∧ ps.length ≤ 1000000 ∧ ks = sortK ps := by
  unfold keysG at h
  split at h
  · rename_i hh; exact ⟨hh.1, hh.2, (Option.some.inj h).symm⟩
  · cases h
end
end Go.Wk
namespace Go.Wk
open Go Go.RowKit
theorem leftM_sub' {ms : Ms} {sn : List Nat} {p : List UInt8 × Value × Nat} (h : p ∈ leftM ms sn) : p ∈ ms := (List.mem_filter.1 h).1
theorem leftM_len {ms : Ms} {sn : List Nat} {p : List UInt8 × Value × Nat} (hnd : (ms.map (·.2.2)).Nodup) (hp : p ∈ leftM ms sn) : (leftM ms (sn ++ [p.2.2])).length < (leftM ms sn).length := by
  have := (leftM_perm ms sn p hnd hp).length_eq
  simp at this; omega
end Go.Wk
namespace Go.Wk
open Go Go.RowKit
theorem Itr.ext {w w' : World} {bi mb since : Nat} {seen : List Nat} (h : Itr w bi mb since seen) (hf : Ext w w') : Itr w' bi mb since seen := h.fr hf fun hh => hh
end Go.Wk
namespace Go.Wk
open Go Go.RowKit
/-- 'x[:q:q]'. -/
theorem V.cut3 {P : Program} {n : Nat} {e : Env} {w : World} {dst : Option Nat} {ty : TypeId} {pos : String} {af : Array Edge} {g : Option (Nat × Bool)} {x y z : Operand} {A : Option Addr} {m c s : Nat} {t el : TypeId} (q : Nat) (ht : P.underlying t = some (.slice el)) (hs : ∀ w, (sizeOf el).run P w = .ok s w) (hx : ev e x = some (.slice A m c))
    (hy : ∃ j, ev e y = some (.int .i64 j) ∧ j = (q : Int)) (hz : ∃ j, ev e z = some (.int .i64 j) ∧ j = (q : Int)) (h2 : q ≤ c) :
    OpV P n e w ⟨dst, .slice t x none (some y) (some z), ty, pos, af, g⟩ (.slice A q q) w := fun b hf => by
  obtain ⟨j, hy, rfl⟩ := hy
  obtain ⟨j', hz, rfl⟩ := hz
  simp only [execOp, Option.map_none, Option.map_some, ev_eval hf hx, ev_eval hf hy, ev_eval hf hz, Instr.sliceAt, run_underlying ht, Instr.slice, Instr.sliceBounds, Sem.run_bind, Sem.run_pure, Result.andThen_ok, Option.isSome_some, if_true]
  rw [sbound _ h2]
  simp only [Result.andThen_ok]
  rw [sbound _ (Nat.le_refl q)]
  simp [hs]
  intro _
  cases A with
  | none => rfl
  | some a => obtain ⟨b, o, i⟩ := a; cases i <;> simp [Addr.add]
theorem Own.cap {α : Type} {rep : Rep α} {B : Nat} {D : Nat → Prop} {w : World} {et : TypeId} {A : Option Addr} {c q : Nat} {xs : List α} (h : Own B D w et A c rep xs) (hq : q ≤ xs.length) : Own B D w et A q rep (xs.take q) := by
  obtain ⟨h1, h2, h3⟩ := h
  refine ⟨by simp; omega, by omega, ?_⟩
  rcases h3 with ⟨rfl, h0⟩ | ⟨g, cs, vss, rfl, a1, a2, a3, a4, a5, a6⟩
  · exact .inl ⟨rfl, by omega⟩
  · refine .inr ⟨g, cs, vss.take q, rfl, a1, a2, Nat.le_trans (Nat.mul_le_mul_right _ (by omega)) a3, by simp; omega, fun k vs x hv hx => ?_, ?_⟩
    · rw [List.getElem?_take] at hv hx
      split at hv
      · rename_i hk; rw [if_pos hk] at hx; exact a5 k vs x hv hx
      · cases hv
    · have hvl : ∀ vs ∈ vss, vs.length = rep.sz := fun vs hvs => by
        obtain ⟨k, hk, rfl⟩ := List.getElem_of_mem hvs
        exact rep.len (a5 k _ xs[k] (List.getElem?_eq_getElem hk) (List.getElem?_eq_getElem (by omega)))
      have e1 : (xs.take q).length = q := by simp; omega
      rw [e1]
      have e2 : cs.take (q * rep.sz) = (cs.take (xs.length * rep.sz)).take (q * rep.sz) := by
        rw [List.take_take, Nat.min_eq_left (Nat.mul_le_mul_right _ hq)]
      rw [e2, a6]
      clear a1 a2 a3 a4 a5 a6 e1 e2 h1 h2
      induction vss generalizing q with
      | nil => simp
      | cons v r ih =>
        cases q with
        | zero => simp
        | succ q =>
          rw [List.flatten_cons, List.take_succ_cons, List.flatten_cons, List.take_append, hvl v (by simp)]
          rw [List.take_of_length_le (by rw [hvl v (by simp)]; exact Nat.le_mul_of_pos_left _ (by omega))]
          congr 1
          have e3 : (q + 1) * rep.sz - rep.sz = q * rep.sz := by rw [Nat.succ_mul]; omega
          rw [e3]
          by_cases hqr : q ≤ xs.length
          · exact ih hqr fun vs hvs => hvl vs (by simp [hvs])
          · exact ih (by omega) fun vs hvs => hvl vs (by simp [hvs])
end Go.Wk
namespace Go.Wk
open Go Go.RowKit
section
variable {P : Program} {f : FuncId} {n : Nat} {R : Ending → World → Prop} {k : List Item} {e : Env} {ops : Array Oper}
variable {Z0 S : Nat → Prop} {w0 w w1 w' : World} {K M L : List Rs}
/-- A region that draws its order, in which just some things are turned: these are lent to it. -/
theorem Rn.drawF {id : Nat} (hm' : P.follows .mixedOrders = true) (hm : Hp Z0 S w0 w (K ++ M))
    (h : ∀ w1, Hp Z0 S w0 w1 (K ++ M) → Hp (Zo Z0 S w0 (K ++ M)) (LS M) w1 w1 M → RH P f n R k ops (fun w' => Fr (LS M) w1 w') ops.size (Array.replicate ops.size false) e w1) : Rn P f n R (.code (.region id ops true) :: k) e w :=
  Rn.draw (fun w' => Fr (LS M) w.drew w') hm' (Fr.refl _ _) (h w.drew (hm.ext (Ext.drew w)) (hm.ext (Ext.drew w)).lend.start)
theorem zo_ls {b : Nat} (h : Zo Z0 S w0 (K ++ M) b) : ¬ LS M b := fun ⟨i, r, hi, hr⟩ => h.2 _ r (get_right hi) hr
/-- What stays of the things that aren't lent. -/
def Aw (Z : Nat → Prop) (w' : World) (K : List Rs) : Prop := ∀ (i : Nat) r, K[i]? = some r → r.H Z w'
theorem Hp.awayK (hm : Hp Z0 S w0 w1 (K ++ M)) (h : Fr (LS M) w1 w') : Aw (Zo Z0 S w0 (K ++ M)) w' K := fun i r hi =>
  r.keep (hm.hs i r (get_left hi)) (fun b hb hlt => h.keep b hlt fun ⟨j, a, hj, ha⟩ => hm.ap i (K.length + j) r a (by have := lt_of_get hi; omega) (get_left hi) (get_right hj) b hb ha) (fun b hb hlt => h.keep b hlt (zo_ls hb)) fun b hb _ => hb
theorem Aw.get {Z : Nat → Prop} (a : Aw Z w' K) (i : Nat) {r : Rs} (hi : K[i]? = some r) : r.H Z w' := a i r hi
theorem Aw.getz {Z : Nat → Prop} (a : Aw Z w' K) (i : Nat) {r : Rs} (hi : K[i]? = some (fzR r)) : r.H Z w' := (a i _ hi).1
theorem Hp.knowO (hmo : Hp Z0 S w0 w1 (K ++ M)) (hm : Hp (Zo Z0 S w0 (K ++ M)) (LS M) w1 w L) (r : Rs) (hF : ∀ x, ¬ r.F x) (h : r.H (Zo Z0 S w0 (K ++ M)) w1) : Hp (Zo Z0 S w0 (K ++ M)) (LS M) w1 w (L ++ [r]) :=
  hm.know r hF (r.keep h (fun b hb => (hF b hb).elim) (fun b hb hlt => hm.fr.keep b hlt (zo_ls hb)) fun b hb hlt => ⟨.inl hb, fun i a hi ha => (hm.nw i a hi b ha).elim (fun hh => zo_ls hb hh) fun hh => by omega⟩)
theorem rdF {b o : Nat} {vs : List Value} (hR : Rd w1 b o vs) (h : Fr (LS M) w1 w') (hD : Zo Z0 S w0 (K ++ M) b) : (rdR b o vs).H (Zo Z0 S w0 (K ++ M)) w' := ⟨fun _ => hD, hR.fr h (zo_ls hD)⟩
end
end Go.Wk
namespace Go.Wk
open Go Go.RowKit
section
variable {P : Program} {n : Nat} {K : Act → World → Prop} {ops : Array Oper} {S : World → Prop} {fuel : Nat} {listed : Array Bool} {e : Env} {w w0 : World} {d : Nat} {o : Oper} {ty : TypeId} {pos : String} {af : Array Edge} {g : Option (Nat × Bool)} {Z0 S' : Nat → Prop} {L : List Rs}
/-- One of those that may come up, come up. -/
def RB (P : Program) (n : Nat) (K : Act → World → Prop) (ops : Array Oper) (S : World → Prop) (fuel : Nat) (listed : Array Bool) (i : Nat) (e : Env) (w : World) : Prop :=
  ∀ a : Act, a.defers = [] → Fits e n a.tmps → S w → wpOp P ops (QK K) i (fun a' w' => S w' ∧ wpAnyH P .any ops (QK K) S fuel (listed.setIfInBounds i true) a' w') a w
theorem RH.both (i j : Nat) (hr : Region.ready .any ops listed = [i, j]) (h1 : RB P n K ops S fuel listed i e w) (h2 : RB P n K ops S fuel listed j e w) : RG P n K ops S (fuel + 1) listed e w := fun a ha hf hS =>
  wpAnyH_all hr (by simp) fun q hq => by
    rcases List.mem_cons.1 hq with rfl | hq
    · exact h1 a ha hf hS
    · obtain rfl : q = j := by simpa using hq
      exact h2 a ha hf hS
theorem RH.tri (i j k : Nat) (hr : Region.ready .any ops listed = [i, j, k]) (h1 : RB P n K ops S fuel listed i e w) (h2 : RB P n K ops S fuel listed j e w) (h3 : RB P n K ops S fuel listed k e w) : RG P n K ops S (fuel + 1) listed e w := fun a ha hf hS =>
  wpAnyH_all hr (by simp) fun q hq => by
    rcases List.mem_cons.1 hq with rfl | hq
    · exact h1 a ha hf hS
    · rcases List.mem_cons.1 hq with rfl | hq
      · exact h2 a ha hf hS
      · obtain rfl : q = k := by simpa using hq
        exact h3 a ha hf hS
theorem RB.here {i : Nat} (h : S w → RB P n K ops S fuel listed i e w) : RB P n K ops S fuel listed i e w := fun a ha hf hS => h hS a ha hf hS
theorem RB.say {t i : Nat} {u : Value} (v : Value) (hl : lk e t = some u) (hv : u = v) (h : RB P n K ops S fuel listed i ((t, v) :: e) w) : RB P n K ops S fuel listed i e w := by
  subst hv
  intro a ha hfit hS
  exact h a ha (hfit.sub (Sub.cons hl (Sub.refl e))) hS
theorem RB.one {v : Value} {w' : World} (i : Nat) (ho : ops[i]? = some o) (hg : gok e ops o.guard = true) (hd : o.dst = some d) (hn : Nat.blt d n = true) (hv : OpV P n e w o v w') (hS' : S w')
    (h : RG P n K ops S fuel (listed.setIfInBounds i true) ((d, v) :: e) w') : RB P n K ops S fuel listed i e w := by
  intro a ha hf hS
  unfold wpOp
  simp only [ho, wanted_of_gok hf hg, if_true]
  refine .inl ?_
  unfold Oper.wp
  rw [hv a hf, Oper.upon_value, hd]
  exact ⟨hS', h _ (by rw [defers_put]; exact ha) (fits_put hf hn v) hS'⟩
theorem RB.opC {g : FuncId} {args : Array Value} {R' : Ending → World → Prop} (i : Nat) (ho : ops[i]? = some o) (hg : gok e ops o.guard = true) (hd : o.dst = some d) (hn : Nat.blt d n = true)
    (hrun : ∀ a : Act, Fits e n a.tmps → (execOp a.eval o).run P w = .ok (.enter g args) w) (hc : Calls P g args w R')
    (h : ∀ x w', R' x w' → ∃ v, x = .returned v ∧ S w' ∧ RG P n K ops S fuel (listed.setIfInBounds i true) ((d, v) :: e) w') : RB P n K ops S fuel listed i e w := by
  intro a ha hf hS
  unfold wpOp
  simp only [ho, wanted_of_gok hf hg, if_true]
  refine .inl ?_
  unfold Oper.wp
  rw [hrun a hf, Oper.upon_enter]
  refine hc.mono fun x w' hR => ?_
  obtain ⟨v, rfl, hS', hk⟩ := h x w' hR
  rw [hd]
  exact ⟨hS', hk _ (by rw [defers_put]; exact ha) (fits_put hf hn v) hS'⟩
theorem RB.cl {gg : FuncId} {xs : List Operand} {ts : Array TypeId} {vs : List Value} {R' : Ending → World → Prop} (ck : CallOk P gg) (i : Nat)
    (ho : ops[i]? = some ⟨some d, .call { callee := .value (.func gg), args := xs.toArray, argTypes := ts }, ty, pos, af, g⟩) (hg : gok e ops g = true) (hn : Nat.blt d n = true)
    (hx : evs e xs = some vs) (hc : Calls P gg vs.toArray w R')
    (h : ∀ x w', R' x w' → ∃ v, x = .returned v ∧ S w' ∧ RG P n K ops S fuel (listed.setIfInBounds i true) ((d, v) :: e) w') : RB P n K ops S fuel listed i e w := by
  obtain ⟨fn, c, h1, h2, h3⟩ := ck
  exact RB.opC (g := gg) (args := vs.toArray) i ho hg rfl hn (fun a hf => by
    simp [execOp, resolve, Act.eval, Deferred.ofValue, invoke, run_callFunc h1 h2 h3, evs_map hf hx]) hc h
theorem RB.clV {gg : FuncId} {y : Operand} {cs : List Value} {xs : List Operand} {ts : Array TypeId} {vs : List Value} {R' : Ending → World → Prop} (ck : CallOk P gg) (i : Nat)
    (ho : ops[i]? = some ⟨some d, .call { callee := .value y, args := xs.toArray, argTypes := ts }, ty, pos, af, g⟩) (hg : gok e ops g = true) (hn : Nat.blt d n = true)
    (hy : ev e y = some (.func (.func gg) #[] cs.toArray)) (hx : evs e xs = some vs) (hc : Calls P gg (vs ++ cs).toArray w R')
    (h : ∀ x w', R' x w' → ∃ v, x = .returned v ∧ S w' ∧ RG P n K ops S fuel (listed.setIfInBounds i true) ((d, v) :: e) w') : RB P n K ops S fuel listed i e w := by
  obtain ⟨fn, c, h1, h2, h3⟩ := ck
  exact RB.opC (g := gg) (args := (vs ++ cs).toArray) i ho hg rfl hn (fun a hf => by
    simp [execOp, resolve, ev_eval hf hy, Deferred.ofValue, invoke, run_callFunc h1 h2 h3, evs_map hf hx]) hc h
theorem RB.s2bH {s t el : TypeId} {x : Operand} {l z : List UInt8} (i : Nat) (hm : Hp Z0 S' w0 w L) (hz : lenS l = some z) (ho : ops[i]? = some ⟨some d, .convert s t x, ty, pos, af, g⟩) (hg : gok e ops g = true) (hn : Nat.blt d n = true) (hs : P.underlying s = some .string) (ht : P.underlying t = some (.slice el)) (he : P.underlying el = some (.int .u8)) (hx : ev e x = some (Str l))
    (h : ∀ A c w', Hp Z0 S' w0 w' (L ++ [slR A c byteR z]) → Ext w w' → S w' ∧ RG P n K ops S fuel (listed.setIfInBounds i true) ((d, .slice A z.length c) :: e) w') : RB P n K ops S fuel listed i e w := by
  obtain ⟨hl, rfl⟩ := lenE hz
  obtain ⟨c, w', hr', h1, h2, h3, h4, h5⟩ := s2b_run (P := P) hs ht he z (by simp only [maxLen]; omega) w
  obtain ⟨h6, h7⟩ := h _ c w' ((hm.ext h3).knowSl h1 h2 (h5.mono fun x hx => by subst hx; exact hm.fresh (by omega))) h3
  exact RB.one i ho hg rfl hn (fun a hf => by simp [execOp, ev_eval hf hx, hr']) h6 h7
end
end Go.Wk
namespace Go.Wk
open Go Go.RowKit
def mkL {α : Type} (n : Int) (z : α) : Option (List α) := if 0 ≤ n ∧ n ≤ 1073741824 then some (List.replicate n.toNat z) else none
theorem mkLE {α : Type} {n : Int} {z : α} {xs : List α} (h : mkL n z = some xs) : ∃ k : Nat, n = k ∧ k ≤ 1073741824 ∧ xs = List.replicate k z := by
  unfold mkL at h
  split at h
  · rename_i hh; exact ⟨n.toNat, by omega, by omega, (Option.some.inj h).symm⟩
  · cases h
theorem made_flat (zs : List Value) (hz : 0 < zs.length) : ∀ n : Nat, (madeCells zs.toArray (n * zs.length)).toList = (List.replicate n zs).flatten
  | 0 => by simp [madeCells]
  | n + 1 => by
    have ih := made_flat zs hz n
    simp only [madeCells, Array.toList_map, Array.toList_range] at ih ⊢
    rw [Nat.succ_mul, List.range_add, List.map_append, ih, List.replicate_succ', List.flatten_append]
    congr 1
    simp only [List.map_map, List.flatten_cons, List.flatten_nil, List.append_nil]
    apply List.ext_getElem
    · simp
    · intro i h1 h2
      have hi : i < zs.length := h2
      simp only [List.getElem_map, List.getElem_range, Function.comp_def, List.size_toArray]
      rw [Nat.mul_comm, Nat.mul_add_mod, Nat.mod_eq_of_lt hi]
      simp [hi]
section
variable {P : Program} {f : FuncId} {n : Nat} {R : Ending → World → Prop} {k : List Item} {e : Env} {w : World}
variable {ops : Array Oper} {i : Nat} {rest : List Nat} {d : Nat} {ty : TypeId} {pos : String} {af : Array Edge} {g : Option (Nat × Bool)}
variable {Z0 S : Nat → Prop} {w0 : World} {L : List Rs} {α : Type} {rep : Rep α}
theorem mk_run {by_ : Nat} {t el : TypeId} {m : Int} {zm : α} {xs : List α} {zs : List Value} (hm : Hp Z0 S w0 w L) (hxs : mkL m zm = some xs) (ht : P.underlying t = some (.slice el)) (hel : ElOk P el rep.sz by_) (hby : Nat.ble by_ 131072 = true)
    (hzc : ((P.info? el).bind (·.zero)).map (·.cells) = some zs.toArray) (hrel : ∀ (Z : Nat → Prop) (w : World), rep.rel Z w zs zm) :
    ∃ b w', (Instr.makeSlice t (.int .i64 m) (.int .i64 m)).run P w = .ok (.slice (some ⟨b, 0, none⟩) xs.length xs.length) w' ∧ Ext w w' ∧ Hp Z0 S w0 w' (L ++ [ownR el (some ⟨b, 0, none⟩) xs.length rep xs]) := by
  obtain ⟨q, rfl, hq, rfl⟩ := mkLE hxs
  obtain ⟨inf, z, hi, hz, hs, hb, hcs, hp⟩ := hel
  rw [hi] at hzc
  simp only [Option.bind_some, hz, Option.map_some, Option.some.injEq] at hzc
  have hzl : zs.length = rep.sz := rep.len (hrel No w)
  have hbq := mul_by hq hby
  have hby2 : (inf.bytes : Int) * (q : Int) ≤ 281474976710656 := by
    have h1 : ((q * by_ : Nat) : Int) ≤ 140737488355328 := by omega
    rw [Int.natCast_mul] at h1
    rw [hb, Int.mul_comm]; omega
  have hr := run_make (P := P) w t el inf z ht hi hz .i64 .i64 q q (by omega) (Int.le_refl _) hby2 (by omega)
  simp only [Int.toNat_natCast] at hr
  have hcell : (madeCells z.cells (q * inf.size)) = ((List.replicate q zs).flatten).toArray := by
    have := made_flat zs (by omega) q
    rw [hzc, hs, ← hzl]
    apply Array.toList_inj.1
    rw [this]
  rw [hcell] at hr
  refine ⟨_, _, by rw [List.length_replicate]; exact hr, Ext.alloc w _, ?_⟩
  have hB : Blk (w.alloc (.cells ((List.replicate q zs).flatten).toArray el)) w.heap.size el (List.replicate q zs).flatten := Blk.new w el _
  refine hm.add _ (Ext.alloc w _) (fun x hx => by cases hx; exact Nat.le_refl _) fun Z _ => ⟨Nat.le_refl _, by rw [List.length_replicate]; unfold maxLen; omega, .inr ⟨w.heap.size, _, List.replicate q zs, rfl, Nat.zero_le _, hB, ?_, by simp, fun k vs x hv hx => ?_, ?_⟩⟩
  · rw [List.length_flatten]; simp [hzl]
  · rw [List.getElem?_replicate] at hv hx
    split at hv
    · rename_i hk; rw [if_pos hk] at hx; cases hv; cases hx; exact hrel _ _
    · cases hv
  · rw [List.length_replicate]
    exact List.take_of_length_le (by rw [List.length_flatten]; simp [hzl])
theorem Rn.mkSlH {by_ : Nat} {t el : TypeId} {x y : Operand} {m : Int} {zm : α} {xs : List α} {zs : List Value} (hm : Hp Z0 S w0 w L) (hxs : mkL m zm = some xs) (ho : ops[i]? = some ⟨some d, .makeSlice t x y, ty, pos, af, g⟩) (hg : gok e ops g = true) (hn : Nat.blt d n = true) (ht : P.underlying t = some (.slice el)) (hel : ElOk P el rep.sz by_) (hby : Nat.ble by_ 131072 = true)
    (hzc : ((P.info? el).bind (·.zero)).map (·.cells) = some zs.toArray) (hx : ev e x = some (.int .i64 m)) (hy : ev e y = some (.int .i64 m)) (hrel : ∀ (Z : Nat → Prop) (w : World), rep.rel Z w zs zm)
    (h : ∀ b w', Hp Z0 S w0 w' (L ++ [ownR el (some ⟨b, 0, none⟩) xs.length rep xs]) → Rn P f n R (.inRegion ops rest :: k) ((d, .slice (some ⟨b, 0, none⟩) xs.length xs.length) :: e) w') : Rn P f n R (.inRegion ops (i :: rest) :: k) e w := by
  obtain ⟨b, w', hr, _, hm'⟩ := mk_run hm hxs ht hel hby hzc hrel
  exact Rn.opV ho hg rfl hn (fun a hf => by simp [execOp, ev_eval hf hx, ev_eval hf hy, hr]) (h b w' hm')
theorem RH.mkSlH {K : Act → World → Prop} {S' : World → Prop} {fuel : Nat} {listed : Array Bool} {by_ : Nat} {t el : TypeId} {x y : Operand} {m : Int} {zm : α} {xs : List α} {zs : List Value} (i : Nat) (hrd : Region.ready .any ops listed = [i]) (hm : Hp Z0 S w0 w L) (hxs : mkL m zm = some xs) (ho : ops[i]? = some ⟨some d, .makeSlice t x y, ty, pos, af, g⟩) (hg : gok e ops g = true) (hn : Nat.blt d n = true) (ht : P.underlying t = some (.slice el)) (hel : ElOk P el rep.sz by_) (hby : Nat.ble by_ 131072 = true)
    (hzc : ((P.info? el).bind (·.zero)).map (·.cells) = some zs.toArray) (hx : ev e x = some (.int .i64 m)) (hy : ev e y = some (.int .i64 m)) (hrel : ∀ (Z : Nat → Prop) (w : World), rep.rel Z w zs zm)
    (h : ∀ b w', Hp Z0 S w0 w' (L ++ [ownR el (some ⟨b, 0, none⟩) xs.length rep xs]) → Ext w w' → S' w' ∧ RG P n K ops S' fuel (listed.setIfInBounds i true) ((d, .slice (some ⟨b, 0, none⟩) xs.length xs.length) :: e) w') : RG P n K ops S' (fuel + 1) listed e w := by
  obtain ⟨b, w', hr, hE, hm'⟩ := mk_run hm hxs ht hel hby hzc hrel
  obtain ⟨h6, h7⟩ := h b w' hm' hE
  exact RH.one i hrd ho hg rfl hn (fun a hf => by simp [execOp, ev_eval hf hx, ev_eval hf hy, hr]) h6 h7
end
end Go.Wk
namespace Go.Wk
open Go Go.RowKit
theorem optR_flat {α : Type} {o : Option α} {R : α → Rs} (h : ∀ z, (R z).Flat) : (optR o R).Flat := fun Z Z' w hh z hz => h z Z Z' w (hh z hz)
/-- '[]byte("abc")': a row of bytes that was written down gets its mark. -/
theorem cvb_run {P : Program} {w : World} {b m c : Nat} {t el el' : TypeId} {cs : List Value} (ht : P.underlying t = some (.slice el)) (he : P.underlying el = some (.int .u8)) (hB : Blk w b el' cs) :
    ∃ w', (convert t t (.slice (some ⟨b, 0, none⟩) m c)).run P w = .ok (.slice (some ⟨b, 0, none⟩) m c) w' ∧ Fr (fun x => x = b) w w' ∧ ∀ b' o, w'.cell? ⟨b', o, none⟩ = w.cell? ⟨b', o, none⟩ := by
  have hsh : w.shape? b = some (el', cs.length) := by unfold Blk at hB; simp [World.shape?, hB]
  refine ⟨w.freeze ⟨b, cs.length, none⟩ 1, ?_, ?_, ?_⟩
  · simp [convert, run_underlying ht, run_underlying he, markStringish, hsh]
  · unfold World.freeze
    rw [if_neg (by decide)]
    refine ⟨rfl, rfl, rfl, by simp, fun x hx hne => ?_⟩
    simp only [Array.getElem?_modify]
    rw [if_neg (fun h => hne h.symm)]
  · intro b' o
    unfold World.freeze
    rw [if_neg (by decide)]
    simp only [World.cell?, Array.getElem?_modify]
    by_cases hb : b = b'
    · subst hb
      unfold Blk at hB
      simp [hB]
    · simp [hb]
section
variable {P : Program} {f : FuncId} {n : Nat} {R : Ending → World → Prop} {k : List Item} {e : Env} {w : World}
variable {ops : Array Oper} {i : Nat} {rest : List Nat} {d : Nat} {ty : TypeId} {pos : String} {af : Array Edge} {g : Option (Nat × Bool)}
variable {Z0 S : Nat → Prop} {w0 : World} {L : List Rs}
theorem cvb_up {t el el' : TypeId} {b c m : Nat} {xs : List UInt8} (hm : Hp Z0 S w0 w L) (q : Nat) (hi : L[q]? = some (ownR el' (some ⟨b, 0, none⟩) c byteR xs)) (ht : P.underlying t = some (.slice el)) (he : P.underlying el = some (.int .u8)) :
    ∃ w', (convert t t (.slice (some ⟨b, 0, none⟩) m c)).run P w = .ok (.slice (some ⟨b, 0, none⟩) m c) w' ∧ Hp Z0 S w0 w' (L.set q (slR (some ⟨b, 0, none⟩) c byteR xs)) := by
  have h0 := hm.get q hi
  obtain ⟨h1, h2, h3⟩ := h0
  rcases h3 with ⟨h, _⟩ | ⟨g, cs, vss, hA, _, hB, h5, h6, h7, h8⟩
  · cases h
  · cases hA
    obtain ⟨w', hr, hF, hc⟩ := cvb_run (P := P) (m := m) (c := c) ht he hB
    refine ⟨w', hr, hm.upd q _ hi (hF.mono fun x hx => by rw [hx]; exact rfl) (fun x hx => hx.elim) fun Z' _ hz => ⟨h1, h2, fun hne => ?_⟩⟩
    obtain ⟨b2, o2, hA2, _, hk⟩ := (Own.sl (hm.get q hi)).all hne
    cases hA2
    refine ⟨b, 0, rfl, hz b (.inl rfl) (fun h => h), fun k x hx => ?_⟩
    obtain ⟨vs, hR, hrel⟩ := hk k x hx
    exact ⟨vs, fun j v hv => by rw [hc]; exact hR j v hv, byte_flat _ _ _ _ _ _ hrel⟩
theorem Rn.cvbH {t el el' : TypeId} {x : Operand} {b c m : Nat} {xs : List UInt8} (hm : Hp Z0 S w0 w L) (q : Nat) (hi : L[q]? = some (ownR el' (some ⟨b, 0, none⟩) c byteR xs)) (ho : ops[i]? = some ⟨some d, .convert t t x, ty, pos, af, g⟩) (hg : gok e ops g = true) (hn : Nat.blt d n = true) (ht : P.underlying t = some (.slice el)) (he : P.underlying el = some (.int .u8)) (hx : ev e x = some (.slice (some ⟨b, 0, none⟩) m c))
    (h : ∀ w', Hp Z0 S w0 w' (L.set q (slR (some ⟨b, 0, none⟩) c byteR xs)) → Rn P f n R (.inRegion ops rest :: k) ((d, .slice (some ⟨b, 0, none⟩) m c) :: e) w') : Rn P f n R (.inRegion ops (i :: rest) :: k) e w := by
  obtain ⟨w', hr, hm'⟩ := cvb_up (P := P) (m := m) hm q hi ht he
  exact Rn.opV ho hg rfl hn (fun a hf => by simp [execOp, ev_eval hf hx, hr]) (h w' hm')
theorem RH.cvbH {K : Act → World → Prop} {S' : World → Prop} {fuel : Nat} {listed : Array Bool} {t el el' : TypeId} {x : Operand} {b c m : Nat} {xs : List UInt8} (i : Nat) (hrd : Region.ready .any ops listed = [i]) (hm : Hp Z0 S w0 w L) (q : Nat) (hi : L[q]? = some (ownR el' (some ⟨b, 0, none⟩) c byteR xs)) (ho : ops[i]? = some ⟨some d, .convert t t x, ty, pos, af, g⟩) (hg : gok e ops g = true) (hn : Nat.blt d n = true) (ht : P.underlying t = some (.slice el)) (he : P.underlying el = some (.int .u8)) (hx : ev e x = some (.slice (some ⟨b, 0, none⟩) m c))
    (h : ∀ w', Hp Z0 S w0 w' (L.set q (slR (some ⟨b, 0, none⟩) c byteR xs)) → S' w' ∧ RG P n K ops S' fuel (listed.setIfInBounds i true) ((d, .slice (some ⟨b, 0, none⟩) m c) :: e) w') : RG P n K ops S' (fuel + 1) listed e w := by
  obtain ⟨w', hr, hm'⟩ := cvb_up (P := P) (m := m) hm q hi ht he
  obtain ⟨h6, h7⟩ := h w' hm'
  exact RH.one i hrd ho hg rfl hn (fun a hf => by simp [execOp, ev_eval hf hx, hr]) h6 h7
end
end Go.Wk
