/-
  The walk by places: a map with texts as keys as one thing among those that lie apart. Plain laws over any program.
-/
import Derived.Test.YtklaeckldfooaaaWt
namespace Go.Wk
open Go Go.RowKit
section
variable {α : Type}
/-- A value out of its cells: of one cell, or an aggregate. -/
def v1 (vs : List Value) : Value := match vs with | [v] => v | _ => undef
def vA (vs : List Value) : Value := .agg vs.toArray
abbrev Kv (α : Type) := List (List UInt8 × α)
def lookP (key : List UInt8) (l : Kv α) : Option α := (l.find? fun p => decide (p.1 = key)).map (·.2)
def putP (key : List UInt8) (x : α) : Kv α → Kv α
  | [] => [(key, x)]
  | p :: r => if p.1 = key then (key, x) :: r else p :: putP key x r
def delP (key : List UInt8) : Kv α → Kv α
  | [] => []
  | p :: r => if p.1 = key then r else p :: delP key r
/-- How a map's entries lie. -/
def MsRep (tv : List Value → Value) (rep : Rep α) (Z : Nat → Prop) (w : World) : Ms → Kv α → Prop
  | [], [] => True
  | m :: ms, p :: ps => m.1 = p.1 ∧ (∃ vs, m.2.1 = tv vs ∧ rep.rel Z w vs p.2) ∧ MsRep tv rep Z w ms ps
  | _, _ => False
variable {tv : List Value → Value} {rep : Rep α} {Z Z' : Nat → Prop} {w w' : World}
theorem MsRep.imp (h : ∀ vs x, rep.rel Z w vs x → rep.rel Z' w' vs x) : ∀ {ms : Ms} {ps : Kv α}, MsRep tv rep Z w ms ps → MsRep tv rep Z' w' ms ps
  | [], [], _ => trivial
  | _ :: _, _ :: _, ⟨h1, ⟨vs, h2, h3⟩, h4⟩ => ⟨h1, ⟨vs, h2, h _ _ h3⟩, MsRep.imp h h4⟩
  | _ :: _, [], h0 | [], _ :: _, h0 => h0.elim
theorem MsRep.names : ∀ {ms : Ms} {ps : Kv α}, MsRep tv rep Z w ms ps → ms.map (·.1) = ps.map (·.1)
  | [], [], _ => rfl
  | _ :: _, _ :: _, ⟨h1, _, h4⟩ => by simp [h1, h4.names]
  | _ :: _, [], h0 | [], _ :: _, h0 => h0.elim
theorem MsRep.length {ms : Ms} {ps : Kv α} (h : MsRep tv rep Z w ms ps) : ms.length = ps.length := by simpa using congrArg List.length h.names
theorem MsRep.look (key : List UInt8) : ∀ {ms : Ms} {ps : Kv α}, MsRep tv rep Z w ms ps → (lookM ms key = none ∧ lookP key ps = none) ∨ ∃ vs x, lookM ms key = some (tv vs) ∧ lookP key ps = some x ∧ rep.rel Z w vs x
  | [], [], _ => .inl ⟨rfl, rfl⟩
  | m :: ms, p :: ps, ⟨h1, ⟨vs, h2, h3⟩, h4⟩ => by
    by_cases hk : p.1 = key
    · have hk' : m.1 = key := h1.trans hk
      exact .inr ⟨vs, p.2, by simp [lookM, hk', h2], by simp [lookP, hk], h3⟩
    · have hk' : m.1 ≠ key := fun h => hk (h1.symm.trans h)
      have e1 : lookM (m :: ms) key = lookM ms key := by simp [lookM, hk']
      have e2 : lookP key (p :: ps) = lookP key ps := by simp [lookP, hk]
      rw [e1, e2]; exact h4.look key
  | _ :: _, [], h0 | [], _ :: _, h0 => h0.elim
theorem MsRep.put (key : List UInt8) (c : Nat) {vs : List Value} {x : α} (hx : rep.rel Z w vs x) : ∀ {ms : Ms} {ps : Kv α}, MsRep tv rep Z w ms ps → MsRep tv rep Z w (putM key (tv vs) c ms) (putP key x ps)
  | [], [], _ => ⟨rfl, ⟨vs, rfl, hx⟩, trivial⟩
  | m :: ms, p :: ps, ⟨h1, h2, h4⟩ => by
    by_cases hk : p.1 = key
    · have hk' : m.1 = key := h1.trans hk
      simp only [putM, putP, if_pos hk, if_pos hk']
      exact ⟨rfl, ⟨vs, rfl, hx⟩, h4⟩
    · have hk' : m.1 ≠ key := fun h => hk (h1.symm.trans h)
      simp only [putM, putP, if_neg hk, if_neg hk']
      exact ⟨h1, h2, h4.put key c hx⟩
  | _ :: _, [], h0 | [], _ :: _, h0 => h0.elim
theorem MsRep.del (key : List UInt8) : ∀ {ms : Ms} {ps : Kv α}, MsRep tv rep Z w ms ps → MsRep tv rep Z w (delM key ms) (delP key ps)
  | [], [], _ => trivial
  | m :: ms, p :: ps, ⟨h1, h2, h4⟩ => by
    by_cases hk : p.1 = key
    · have hk' : m.1 = key := h1.trans hk
      simp only [delM, delP, if_pos hk, if_pos hk']
      exact h4
    · have hk' : m.1 ≠ key := fun h => hk (h1.symm.trans h)
      simp only [delM, delP, if_neg hk, if_neg hk']
      exact ⟨h1, h2, h4.del key⟩
  | _ :: _, [], h0 | [], _ :: _, h0 => h0.elim
/- the entries' stamps and keys -/
theorem putM_keys (key : List UInt8) (v : Value) (c : Nat) : ∀ (ms : Ms), (∀ k ∈ (putM key v c ms).map (·.1), k = key ∨ k ∈ ms.map (·.1)) ∧ ((ms.map (·.1)).Nodup → ((putM key v c ms).map (·.1)).Nodup)
  | [] => by simp [putM]
  | p :: r => by
    by_cases hk : p.1 = key
    · simp only [putM, if_pos hk, List.map_cons]
      refine ⟨fun k h => ?_, fun h => ?_⟩
      · rcases List.mem_cons.1 h with h | h
        · exact .inl h
        · exact .inr (List.mem_cons_of_mem _ h)
      · rw [List.nodup_cons] at h ⊢; rw [hk] at h; exact h
    · simp only [putM, if_neg hk, List.map_cons]
      obtain ⟨h1, h2⟩ := putM_keys key v c r
      refine ⟨fun k h => ?_, fun h => ?_⟩
      · rcases List.mem_cons.1 h with h | h
        · exact .inr (by rw [h]; exact List.mem_cons_self)
        · exact (h1 k h).imp id fun h => List.mem_cons_of_mem _ h
      · rw [List.nodup_cons] at h ⊢
        exact ⟨fun hm => (h1 _ hm).elim hk h.1, h2 h.2⟩
theorem putM_stamps (key : List UInt8) (v : Value) (c : Nat) : ∀ (ms : Ms), (∀ p ∈ ms, p.2.2 < c) → (ms.map (·.2.2)).Nodup →
    (((lookM ms key).isSome = true → (putM key v c ms).map (·.2.2) = ms.map (·.2.2)) ∧ ((lookM ms key).isSome = false → (putM key v c ms).map (·.2.2) = ms.map (·.2.2) ++ [c]))
  | [], _, _ => by simp [putM, lookM]
  | p :: r, hb, hn => by
    by_cases hk : p.1 = key
    · simp [putM, lookM, hk]
    · have e1 : lookM (p :: r) key = lookM r key := by simp [lookM, hk]
      rw [List.map_cons, List.nodup_cons] at hn
      obtain ⟨h1, h2⟩ := putM_stamps key v c r (fun q hq => hb q (by simp [hq])) hn.2
      simp only [putM, if_neg hk, List.map_cons, e1]
      exact ⟨fun h => by rw [h1 h], fun h => by rw [h2 h]; rfl⟩
theorem delM_sub (key : List UInt8) : ∀ (ms : Ms), (delM key ms).Sublist ms
  | [] => .slnil
  | p :: r => by
    by_cases hk : p.1 = key
    · simp only [delM, if_pos hk]; exact List.sublist_cons_self _ _
    · simp only [delM, if_neg hk]; exact (delM_sub key r).cons_cons _
structure MpA (tv : List Value → Value) (rep : Rep α) (Z : Nat → Prop) (w : World) (b : Nat) (ms : Ms) (c : Nat) (ps : Kv α) : Prop where
  mp : Mp w b ms c
  rp : MsRep tv rep Z w ms ps
  born : ∀ p ∈ ms, p.2.2 < c
  bnd : (ms.map (·.2.2)).Nodup
  keys : (ms.map (·.1)).Nodup
theorem MpA.put {b c : Nat} {ms : Ms} {ps : Kv α} (h : MpA tv rep Z w b ms c ps) (key : List UInt8) {vs : List Value} {x : α} {c' : Nat} (hx : rep.rel Z' w' vs x) (hk : ∀ vs x, rep.rel Z w vs x → rep.rel Z' w' vs x)
    (hM : Mp w' b (putM key (tv vs) c ms) c') (hc : c' = if (lookM ms key).isSome then c else c + 1) : MpA tv rep Z' w' b (putM key (tv vs) c ms) c' (putP key x ps) := by
  obtain ⟨h1, h2⟩ := putM_stamps key (tv vs) c ms h.born h.bnd
  have hm : ∀ p ∈ putM key (tv vs) c ms, p.2.2 ∈ (putM key (tv vs) c ms).map (·.2.2) := fun p hp => List.mem_map_of_mem hp
  have hb : ∀ x ∈ ms.map (·.2.2), x < c := fun x hx => by obtain ⟨p, hp, rfl⟩ := List.mem_map.1 hx; exact h.born p hp
  refine ⟨hM, (h.rp.imp hk).put key c hx, fun p hp => ?_, ?_, (putM_keys key _ c ms).2 h.keys⟩
  · have h3 := hm p hp
    cases hs : (lookM ms key).isSome with
    | true => rw [h1 hs] at h3; rw [hc, hs]; exact hb _ h3
    | false =>
      rw [h2 hs] at h3; rw [hc, hs]
      rcases List.mem_append.1 h3 with h4 | h4
      · have := hb _ h4; simp; omega
      · simp at h4; simp [h4]
  · cases hs : (lookM ms key).isSome with
    | true => rw [h1 hs]; exact h.bnd
    | false =>
      rw [h2 hs, List.nodup_append]
      exact ⟨h.bnd, by simp, fun a ha b' hb' hab => by simp at hb'; have := hb a ha; omega⟩
theorem MpA.del {b c : Nat} {ms : Ms} {ps : Kv α} (h : MpA tv rep Z w b ms c ps) (key : List UInt8) (hk : ∀ vs x, rep.rel Z w vs x → rep.rel Z' w' vs x) (hM : Mp w' b (delM key ms) c) : MpA tv rep Z' w' b (delM key ms) c (delP key ps) :=
  ⟨hM, (h.rp.imp hk).del key, fun p hp => h.born p ((delM_sub key ms).subset hp), h.bnd.sublist ((delM_sub key ms).map _), h.keys.sublist ((delM_sub key ms).map _)⟩
/-- A map of one's own. -/
def mapR (b : Nat) (tv : List Value → Value) (rep : Rep α) (ps : Kv α) : Rs where
  F := fun x => x = b
  H := fun Z w => ∃ ms c, MpA tv rep Z w b ms c ps
  keep := fun {Z Z' w w'} ⟨ms, c, h⟩ hF hZ hZ' => ⟨ms, c, by
    refine ⟨?_, h.rp.imp fun vs x hx => rep.mono (rep.keep (rep.bd hx) fun b hb hlt => hZ b hb.1 hlt) fun b hb => hZ' b hb.1 hb.2, h.born, h.bnd, h.keys⟩
    have h2 := h.mp
    have := hF b rfl h2.lt
    unfold Mp at h2 ⊢; rw [this]; exact h2⟩
  lt := fun ⟨_, _, h⟩ b hb => hb ▸ h.mp.lt
theorem mapR_flat {b : Nat} {ps : Kv α} (hf : rep.Flat) : (mapR b tv rep ps).Flat := fun Z Z' w ⟨ms, c, h⟩ => ⟨ms, c, h.mp, h.rp.imp fun vs x hx => hf Z Z' w w vs x hx, h.born, h.bnd, h.keys⟩
end
section
variable {P : Program} {f : FuncId} {n : Nat} {R : Ending → World → Prop} {k : List Item} {e : Env} {w w' : World}
variable {ops : Array Oper} {i : Nat} {rest : List Nat} {d : Nat} {dst : Option Nat} {ty : TypeId} {pos : String} {af : Array Edge} {g : Option (Nat × Bool)}
variable {Z0 S : Nat → Prop} {w0 : World} {L : List Rs} {α : Type} {tv : List Value → Value} {rep : Rep α} {b : Nat} {ps : Kv α}
/-- What is under a key. -/
def Lkd (w : World) (b : Nat) (key : List UInt8) (z u : Value) (is : Bool) : Prop := ∃ ms c, Mp w b ms c ∧ (lookM ms key).getD z = u ∧ (lookM ms key).isSome = is
theorem Map.lkp {Z : Nat → Prop} (h : (mapR b tv rep ps).H Z w) (key : List UInt8) {zs : List Value} {zm : α} (hz : rep.rel Z w zs zm) :
    ∃ vs, Lkd w b key (tv zs) (tv vs) (lookP key ps).isSome ∧ rep.rel Z w vs ((lookP key ps).getD zm) := by
  obtain ⟨ms, c, h⟩ := h
  rcases h.rp.look key with ⟨h1, h2⟩ | ⟨vs, x, h1, h2, h3⟩
  · exact ⟨zs, ⟨ms, c, h.mp, by rw [h1]; rfl, by rw [h1, h2]; rfl⟩, by rw [h2]; exact hz⟩
  · exact ⟨vs, ⟨ms, c, h.mp, by rw [h1]; rfl, by rw [h1, h2]; rfl⟩, by rw [h2]; exact h3⟩
theorem V.lkpH {t kt et : TypeId} {x y : Operand} {key : List UInt8} {z u : Value} {is : Bool} (hl : Lkd w b key z u is) (ht : P.underlying t = some (.map kt et)) (hk : P.underlying kt = some .string) (hz : ∀ w, (zeroValue et).run P w = .ok z w) (hx : ev e x = some (.map (some b))) (hy : ev e y = some (Str key)) :
    OpV P n e w ⟨dst, .lookup t x y false, ty, pos, af, g⟩ u w := by
  obtain ⟨ms, c, h1, h2, _⟩ := hl
  rw [← h2]; exact V.lkp ht hk hz hx hy h1
theorem V.lkpHO {t kt et : TypeId} {x y : Operand} {key : List UInt8} {z u : Value} {is : Bool} (hl : Lkd w b key z u is) (ht : P.underlying t = some (.map kt et)) (hk : P.underlying kt = some .string) (hz : ∀ w, (zeroValue et).run P w = .ok z w) (hx : ev e x = some (.map (some b))) (hy : ev e y = some (Str key)) :
    OpV P n e w ⟨dst, .lookup t x y true, ty, pos, af, g⟩ (.tuple #[u, .bool is]) w := by
  obtain ⟨ms, c, h1, h2, h3⟩ := hl
  rw [← h2, ← h3]; exact V.lkpO ht hk hz hx hy h1
theorem V.lenMH {x : Operand} {t kt et : TypeId} (ht : P.underlying t = some (.map kt et)) (hx : ev e x = some (.map (some b))) {Z : Nat → Prop} (h : (mapR b tv rep ps).H Z w) :
    OpV P n e w ⟨dst, .call { callee := .builtin .len, args := #[x], argTypes := #[t] }, ty, pos, af, g⟩ (.int .i64 ps.length) w := by
  obtain ⟨ms, c, h⟩ := h
  rw [← h.rp.length]; exact V.lenM ht hx h.mp
theorem Hp.muUp (hm : Hp Z0 S w0 w L) (m : Nat) (hi : L[m]? = some (mapR b tv rep ps)) {key : List UInt8} {vs : List Value} {x : α} (hx : rep.rel (Zo Z0 S w0 L) w vs x) {ms : Ms} {c c' : Nat} (h : MpA tv rep (Zo Z0 S w0 L) w b ms c ps)
    (hM : Mp w' b (putM key (tv vs) c ms) c') (hF : Fr (fun x => x = b) w w') (hc : c' = if (lookM ms key).isSome then c else c + 1) : Hp Z0 S w0 w' (L.set m (mapR b tv rep (putP key x ps))) := by
  have hk : ∀ vs x, rep.rel (Zo Z0 S w0 L) w vs x → rep.rel (fun b => Zo Z0 S w0 L b ∧ b < w.heap.size) w' vs x := fun vs x hx => rep.keep (rep.bd hx) fun y hy hlt => hF.keep y hlt fun hh => hy.1.2 m _ hi hh
  exact hm.upd m _ hi hF (fun y hy => .inl hy) fun Z' h1 _ => ⟨_, _, h.put key (rep.mono (hk _ _ hx) fun y hy => h1 y hy.1 hy.2) (fun vs x hx => rep.mono (hk _ _ hx) fun y hy => h1 y hy.1 hy.2) hM hc⟩
/-- 'm[k] = v'. -/
theorem Rn.muH {t kt et : TypeId} {x y z : Operand} {key : List UInt8} {v : α} {vs : List Value} (hm : Hp Z0 S w0 w L) (m : Nat) (hi : L[m]? = some (mapR b tv rep ps)) (ho : ops[i]? = some ⟨none, .mapUpdate t x y z, ty, pos, af, g⟩) (hg : gok e ops g = true) (ht : P.underlying t = some (.map kt et)) (hk : P.underlying kt = some .string)
    (hx : ev e x = some (.map (some b))) (hy : ev e y = some (Str key)) (hz : ev e z = some (tv vs)) (hv : rep.rel (Zo Z0 S w0 L) w vs v)
    (h : ∀ w', Hp Z0 S w0 w' (L.set m (mapR b tv rep (putP key v ps))) → Rn P f n R (.inRegion ops rest :: k) e w') : Rn P f n R (.inRegion ops (i :: rest) :: k) e w := by
  obtain ⟨ms, c, h0⟩ := hm.get m hi
  exact Rn.mu ho hg ht hk hx hy hz h0.mp fun c' w' h1 h2 h3 => h w' (hm.muUp m hi hv h0 h1 h2 h3)
theorem RH.muH {S' : World → Prop} {fuel : Nat} {listed : Array Bool} {K : Act → World → Prop} {t kt et : TypeId} {x y z : Operand} {key : List UInt8} {v : α} {vs : List Value} (i : Nat) (hr : Region.ready .any ops listed = [i]) (hm : Hp Z0 S w0 w L) (m : Nat) (hi : L[m]? = some (mapR b tv rep ps)) (ho : ops[i]? = some ⟨none, .mapUpdate t x y z, ty, pos, af, g⟩) (hg : gok e ops g = true) (ht : P.underlying t = some (.map kt et)) (hk : P.underlying kt = some .string)
    (hx : ev e x = some (.map (some b))) (hy : ev e y = some (Str key)) (hz : ev e z = some (tv vs)) (hv : rep.rel (Zo Z0 S w0 L) w vs v)
    (h : ∀ w', Hp Z0 S w0 w' (L.set m (mapR b tv rep (putP key v ps))) → S' w' ∧ RG P n K ops S' fuel (listed.setIfInBounds i true) e w') : RG P n K ops S' (fuel + 1) listed e w := by
  obtain ⟨ms, c, h0⟩ := hm.get m hi
  obtain ⟨c', w', hrun, h1, h2, h3⟩ := mapUpdate_run (P := P) key (tv vs) ht hk h0.mp
  obtain ⟨h6, h7⟩ := h w' (hm.muUp m hi hv h0 h1 h2 h3)
  exact RH.oneU i hr ho hg rfl (fun a hf => by simp [execOp, ev_eval hf hx, ev_eval hf hy, ev_eval hf hz, hrun]) h6 h7
/-- 'delete(m, k)'. -/
theorem Rn.delH {t kt et : TypeId} {x y : Operand} {key : List UInt8} (hm : Hp Z0 S w0 w L) (m : Nat) (hi : L[m]? = some (mapR b tv rep ps)) (ho : ops[i]? = some ⟨dst, .call { callee := .builtin .delete, args := #[x, y], argTypes := #[t, kt] }, ty, pos, af, g⟩) (hdst : dst = none) (hg : gok e ops g = true) (ht : P.underlying t = some (.map kt et)) (hk : P.underlying kt = some .string)
    (hx : ev e x = some (.map (some b))) (hy : ev e y = some (Str key))
    (h : ∀ w', Hp Z0 S w0 w' (L.set m (mapR b tv rep (delP key ps))) → Rn P f n R (.inRegion ops rest :: k) e w') : Rn P f n R (.inRegion ops (i :: rest) :: k) e w := by
  obtain ⟨ms, c, h0⟩ := hm.get m hi
  refine Rn.del ho hdst hg ht hk hx hy h0.mp fun w' h1 h2 => h w' ?_
  have hkp : ∀ vs x, rep.rel (Zo Z0 S w0 L) w vs x → rep.rel (fun b => Zo Z0 S w0 L b ∧ b < w.heap.size) w' vs x := fun vs x hx => rep.keep (rep.bd hx) fun y hy hlt => h2.keep y hlt fun hh => hy.1.2 m _ hi hh
  exact hm.upd m _ hi h2 (fun y hy => .inl hy) fun Z' h3 _ => ⟨_, _, h0.del key (fun vs x hx => rep.mono (hkp _ _ hx) fun y hy => h3 y hy.1 hy.2) h1⟩
/-- 'make(map[..]..)'. -/
theorem Rn.mkMH {t : TypeId} (tv : List Value → Value) (rep : Rep α) (hm : Hp Z0 S w0 w L) (ho : ops[i]? = some ⟨some d, .makeMap t none, ty, pos, af, g⟩) (hg : gok e ops g = true) (hn : Nat.blt d n = true)
    (h : ∀ b w', Hp Z0 S w0 w' (L ++ [mapR b tv rep ([] : Kv α)]) → Rn P f n R (.inRegion ops rest :: k) ((d, .map (some b)) :: e) w') : Rn P f n R (.inRegion ops (i :: rest) :: k) e w :=
  Rn.mkM ho hg hn fun b w' hb h1 h2 => h b w' (hm.add _ h2 (fun x hx => by cases hx; omega) fun _ _ => ⟨[], 0, h1, trivial, by simp, by simp, by simp⟩)
/-- 'maps.Clone(m)', m not nil. -/
theorem mapClone_run {gg : FuncId} {t : TypeId} {Z : Nat → Prop} (h : (mapR b tv rep ps).H Z w) :
    ∃ w', (Extern.MapsClone.clone #[.iface t (.map (some b))]).run P w = .ok (.iface t (.map (some w.heap.size))) w' ∧ Ext w w' ∧ ∀ Z', (∀ x, Z x → x < w.heap.size → Z' x) → (mapR w.heap.size tv rep ps).H Z' w' := by
  obtain ⟨ms, c, h⟩ := h
  refine ⟨w.alloc (.map (ms.map ent).toArray c), ?_, Ext.alloc w _, fun Z' hZ => ⟨ms, c, ⟨heap_alloc_new w _, h.rp.imp fun vs x hx => ?_, h.born, h.bnd, h.keys⟩⟩⟩
  · show (Bind.bind (getObj b) _ : Sem Value).run P w = _
    rw [Sem.run_bind, run_getObj h.mp]
    simp
  · exact rep.mono (rep.keep (rep.bd hx) fun y hy hlt => (Ext.alloc w _).keep y hlt fun hh => hh) fun y hy => hZ y hy.1 hy.2
/-- A call of an entry of the model's own that turns the world. -/
theorem V.externW {gg : FuncId} {fn : Func} {en : Array Value → Sem Value} {xs : List Operand} {vs : List Value} {ts : Array TypeId} {v : Value} (hf : P.funcs[gg]? = some fn) (hname : (fn.name == "runtime.NumGoroutine") = false) (hb : fn.body.isNone = true) (hn : Extern.findNext fn = none) (he : Extern.find fn = some en)
    (hx : evs e xs = some vs) (hr : (en vs.toArray).run P w = .ok v w') : OpV P n e w ⟨dst, .call { callee := .value (.func gg), args := xs.toArray, argTypes := ts }, ty, pos, af, g⟩ v w' := fun a hfit => by
  simp [execOp, resolve, Act.eval, Deferred.ofValue, invoke, evs_map hfit hx, run_callFunc_extern hf hname hb hn he, hr]
theorem V.eqlMN {x y : Operand} {p : Option Nat} {t kt et u : TypeId} (ht : P.underlying t = some (.map kt et)) (hx : ev e x = some (.map p)) (hy : ev e y = some (.map none)) :
    OpV P n e w ⟨dst, .binOp .eql t x y u, ty, pos, af, g⟩ (.bool p.isNone) w := fun c hf => by
  simp [execOp, ev_eval hf hx, ev_eval hf hy, eqGuard_at_map, binOp, run_eq_map_nil ht]
theorem V.tasM {x : Operand} {v : Value} {t xT kt et : TypeId} (ht : P.underlying t = some (.map kt et)) (hx : ev e x = some (.iface t v)) :
    OpV P n e w ⟨dst, .typeAssert x xT t false, ty, pos, af, g⟩ v w := fun c hf => by
  simp [execOp, ev_eval hf hx, Instr.typeAssert, run_underlying ht]
end
end Go.Wk
namespace Go.Wk
open Go Go.RowKit
section
variable {α : Type} {tv : List Value → Value} {rep : Rep α} {Z : Nat → Prop} {w : World}
theorem MsRep.entry : ∀ {ms : Ms} {ps : Kv α} {p : List UInt8 × Value × Nat}, MsRep tv rep Z w ms ps → p ∈ ms → ∃ vs x, p.2.1 = tv vs ∧ rep.rel Z w vs x ∧ (p.1, x) ∈ ps
  | m :: ms, q :: ps, p, ⟨h1, ⟨vs, h2, h3⟩, h4⟩, hp => by
    rcases List.mem_cons.1 hp with rfl | hp
    · exact ⟨vs, q.2, h2, h3, by rw [h1]; exact List.mem_cons_self⟩
    · obtain ⟨vs, x, a, b, c⟩ := h4.entry hp; exact ⟨vs, x, a, b, List.mem_cons_of_mem _ c⟩
  | [], _, _, _, hp => by cases hp
  | _ :: _, [], _, h0, _ => h0.elim
/-- The one that was put down longest ago. -/
def oldK (wh : α → Int) (ps : Kv α) : List UInt8 × Int := ps.foldl (fun o p => if o.2 = 0 ∨ wh p.2 < o.2 then (p.1, wh p.2) else o) ([], 0)
theorem oldK_go (wh : α → Int) : ∀ (ps : Kv α) (o : List UInt8 × Int), (∀ p ∈ ps, 0 < wh p.2) → 0 < o.2 →
    (ps.foldl (fun o p => if o.2 = 0 ∨ wh p.2 < o.2 then (p.1, wh p.2) else o) o = o ∨ ∃ p ∈ ps, ps.foldl (fun o p => if o.2 = 0 ∨ wh p.2 < o.2 then (p.1, wh p.2) else o) o = (p.1, wh p.2)) ∧
    (ps.foldl (fun o p => if o.2 = 0 ∨ wh p.2 < o.2 then (p.1, wh p.2) else o) o).2 ≤ o.2 ∧ ∀ p ∈ ps, (ps.foldl (fun o p => if o.2 = 0 ∨ wh p.2 < o.2 then (p.1, wh p.2) else o) o).2 ≤ wh p.2
  | [], o, _, _ => by simp
  | p :: r, o, hp, ho => by
    have h0 := hp p (by simp)
    rw [List.foldl_cons]
    by_cases h : o.2 = 0 ∨ wh p.2 < o.2
    · simp only [if_pos h]
      obtain ⟨h1, h2, h3⟩ := oldK_go wh r (p.1, wh p.2) (fun q hq => hp q (by simp [hq])) h0
      refine ⟨.inr ?_, by dsimp only at h2; omega, fun q hq => ?_⟩
      · rcases h1 with h1 | ⟨q, hq, h1⟩
        · exact ⟨p, by simp, h1⟩
        · exact ⟨q, by simp [hq], h1⟩
      · rcases List.mem_cons.1 hq with rfl | hq
        · exact h2
        · exact h3 q hq
    · simp only [if_neg h]
      obtain ⟨h1, h2, h3⟩ := oldK_go wh r o (fun q hq => hp q (by simp [hq])) ho
      refine ⟨h1.imp id fun ⟨q, hq, h⟩ => ⟨q, by simp [hq], h⟩, h2, fun q hq => ?_⟩
      rcases List.mem_cons.1 hq with rfl | hq
      · omega
      · exact h3 q hq
theorem oldK_spec (wh : α → Int) {ps : Kv α} (hp : ∀ p ∈ ps, 0 < wh p.2) (hne : ps ≠ []) : ∃ p ∈ ps, oldK wh ps = (p.1, wh p.2) ∧ ∀ q ∈ ps, wh p.2 ≤ wh q.2 := by
  cases ps with
  | nil => exact absurd rfl hne
  | cons p r =>
    have h0 := hp p (by simp)
    obtain ⟨h1, h2, h3⟩ := oldK_go wh r (p.1, wh p.2) (fun q hq => hp q (by simp [hq])) h0
    have he : oldK wh (p :: r) = r.foldl (fun o p => if o.2 = 0 ∨ wh p.2 < o.2 then (p.1, wh p.2) else o) (p.1, wh p.2) := by
      unfold oldK; rw [List.foldl_cons, if_pos (.inl rfl)]
    rw [← he] at h1 h2 h3
    rcases h1 with h1 | ⟨q, hq, h1⟩
    · exact ⟨p, by simp, h1, fun q hq => by rcases List.mem_cons.1 hq with rfl | hq; exact Int.le_refl _; have := h3 q hq; rw [h1] at this; exact this⟩
    · exact ⟨q, by simp [hq], h1, fun s hs => by
        rcases List.mem_cons.1 hs with rfl | hs
        · rw [h1] at h2; exact h2
        · have := h3 s hs; rw [h1] at this; exact this⟩
theorem oldK_nil (wh : α → Int) : oldK wh ([] : Kv α) = ([], 0) := rfl
def OldI (wh : α → Int) (ps : Kv α) (ms : Ms) (sn : List Nat) (o : List UInt8) (a : Int) : Prop :=
  (a = 0 ∧ o = [] ∧ ∀ p ∈ ms, p.2.2 ∉ sn) ∨ (0 < a ∧ (∃ x, (o, x) ∈ ps ∧ a = wh x) ∧ ∀ p ∈ ms, p.2.2 ∈ sn → ∀ y, (p.1, y) ∈ ps → a ≤ wh y)
theorem OldI.step {wh : α → Int} {ps : Kv α} {ms : Ms} {sn : List Nat} {o : List UInt8} {a : Int} (h : OldI wh ps ms sn o a) (hp : ∀ p ∈ ps, 0 < wh p.2) (hk : (ps.map (·.1)).Nodup) (hb : (ms.map (·.2.2)).Nodup)
    {p : List UInt8 × Value × Nat} {x : α} (hpm : p ∈ ms) (hx : (p.1, x) ∈ ps) : (a = 0 ∨ wh x < a → OldI wh ps ms (sn ++ [p.2.2]) p.1 (wh x)) ∧ (¬ (a = 0 ∨ wh x < a) → OldI wh ps ms (sn ++ [p.2.2]) o a) := by
  have hun : ∀ y, (p.1, y) ∈ ps → y = x := fun y hy => by
    obtain ⟨i, hi, h1⟩ := List.getElem_of_mem hy
    obtain ⟨j, hj, h2⟩ := List.getElem_of_mem hx
    have : i = j := by
      have e : (ps.map (·.1))[i]? = (ps.map (·.1))[j]? := by simp [hi, hj, h1, h2]
      exact (List.getElem?_inj (by simpa using hi) hk).1 e
    subst this
    rw [h1] at h2; exact (Prod.mk.inj h2).2
  have hps := hp _ hx
  have hsame : ∀ q ∈ ms, q.2.2 = p.2.2 → q = p := fun q hq he => by
    obtain ⟨i, hi, h1⟩ := List.getElem_of_mem hq
    obtain ⟨j, hj, h2⟩ := List.getElem_of_mem hpm
    have : i = j := by
      have e : (ms.map (·.2.2))[i]? = (ms.map (·.2.2))[j]? := by simp [hi, hj, h1, h2, he]
      exact (List.getElem?_inj (by simpa using hi) hb).1 e
    subst this
    rw [← h1, h2]
  refine ⟨fun hc => .inr ⟨hps, ⟨x, hx, rfl⟩, fun q hq hqs y hy => ?_⟩, fun hc => ?_⟩
  · rcases List.mem_append.1 hqs with hqs | hqs
    · rcases h with ⟨_, _, h⟩ | ⟨_, _, h⟩
      · exact absurd hqs (h q hq)
      · have := h q hq hqs y hy; omega
    · have he := hsame q hq (by simpa using hqs)
      subst he
      rw [hun y hy]; omega
  · rcases h with ⟨h0, _, _⟩ | ⟨h0, h1, h2⟩
    · exact absurd (.inl h0) hc
    · refine .inr ⟨h0, h1, fun q hq hqs y hy => ?_⟩
      rcases List.mem_append.1 hqs with hqs | hqs
      · exact h2 q hq hqs y hy
      · have he := hsame q hq (by simpa using hqs)
        subst he
        rw [hun y hy]
        have := not_or.1 hc
        omega
theorem OldI.done {wh : α → Int} {ps : Kv α} {ms : Ms} {sn : List Nat} {o : List UInt8} {a : Int} (h : OldI wh ps ms sn o a) (hp : ∀ p ∈ ps, 0 < wh p.2) (hk : (ps.map (·.2)).Pairwise fun x y => wh x ≠ wh y) (hn : ms.map (·.1) = ps.map (·.1))
    (hl : leftM ms sn = []) : (o, a) = oldK wh ps := by
  have hall : ∀ p ∈ ms, p.2.2 ∈ sn := fun p hp => by
    have := List.filter_eq_nil_iff.1 hl p hp
    simpa using this
  rcases h with ⟨rfl, rfl, h⟩ | ⟨h0, ⟨x, hx, rfl⟩, h⟩
  · have : ms = [] := by
      cases ms with
      | nil => rfl
      | cons p r => exact absurd (hall p (by simp)) (h p (by simp))
    subst this
    have : ps = [] := by simpa using hn.symm
    subst this; rfl
  · obtain ⟨p, hpm, he, hmin⟩ := oldK_spec wh hp (List.ne_nil_of_mem hx)
    rw [he]
    have hkm : p.1 ∈ ms.map (·.1) := by rw [hn]; exact List.mem_map_of_mem hpm
    obtain ⟨q, hq, hq1⟩ := List.mem_map.1 hkm
    have h1 := h q hq (hall q hq) p.2 (by rw [hq1]; exact hpm)
    have h2 := hmin _ hx
    dsimp only at h2
    have heq : wh x = wh p.2 := by omega
    obtain ⟨i, hi, e1⟩ := List.getElem_of_mem hx
    obtain ⟨j, hj, e2⟩ := List.getElem_of_mem hpm
    have hij : i = j := by
      rw [List.pairwise_map] at hk
      rcases Nat.lt_trichotomy i j with hlt | hlt | hlt
      · have := List.pairwise_iff_getElem.1 hk i j hi hj hlt
        rw [e1, e2] at this; exact absurd heq this
      · exact hlt
      · have := List.pairwise_iff_getElem.1 hk j i hj hi hlt
        rw [e1, e2] at this; exact absurd heq.symm this
    subst hij
    rw [e1] at e2
    rw [← e2]
end
end Go.Wk
namespace Go.Wk
open Go Go.RowKit
theorem map_all {α : Type} {tv : List Value → Value} {rep : Rep α} {b : Nat} {ps : Kv α} {Z : Nat → Prop} {w : World} (h : (mapR b tv rep ps).H Z w) : (mapR b tv rep ps).H All w :=
  (mapR b tv rep ps).keep h (fun _ _ _ => rfl) (fun _ _ _ => rfl) fun _ _ _ => trivial
end Go.Wk
namespace Go.Wk
open Go Go.RowKit
section
variable {α : Type}
def leK : List UInt8 → List UInt8 → Bool := fun x y => decide (x ≤ y)
def sortK (ps : Kv α) : List (List UInt8) := (ps.map (·.1)).mergeSort leK
def keysG (ps : Kv α) : Option (List (List UInt8)) := if (∀ k ∈ ps.map (·.1), k.length ≤ 1000000) ∧ ps.length ≤ 1000000 then some (sortK ps) else none
theorem keysGE {ps : Kv α} {ks : List (List UInt8)} (h : keysG ps = some ks) : (∀ k ∈ ps.map (·.1), k.length ≤ 1000000) ∧ ps.length ≤ 1000000 ∧ ks = sortK ps := by
  unfold keysG at h
  split at h
  · rename_i hh; exact ⟨hh.1, hh.2, (Option.some.inj h).symm⟩
  · cases h
end
end Go.Wk
namespace Go.Wk
open Go Go.RowKit
theorem leftM_sub' {ms : Ms} {sn : List Nat} {p : List UInt8 × Value × Nat} (h : p ∈ leftM ms sn) : p ∈ ms := (List.mem_filter.1 h).1
theorem leftM_len {ms : Ms} {sn : List Nat} {p : List UInt8 × Value × Nat} (hnd : (ms.map (·.2.2)).Nodup) (hp : p ∈ leftM ms sn) : (leftM ms (sn ++ [p.2.2])).length < (leftM ms sn).length := by
  have := (leftM_perm ms sn p hnd hp).length_eq
  simp at this; omega
end Go.Wk
namespace Go.Wk
open Go Go.RowKit
theorem Itr.ext {w w' : World} {bi mb since : Nat} {seen : List Nat} (h : Itr w bi mb since seen) (hf : Ext w w') : Itr w' bi mb since seen := h.fr hf fun hh => hh
end Go.Wk
