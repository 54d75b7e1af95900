/-
  Maps whose values are slices of one's own: one is taken out, grows, and is put back. Plain laws over any program.
-/
import Derived.Test.YtpcpfjpcfcbopaaDoorWkm
set_option linter.unusedVariables false
set_option linter.unusedSimpArgs false
namespace Go.Wk
open Go Go.RowKit
section
variable {Z0 S : Nat → Prop} {w0 w w' : World} {L L' : List Rs}
theorem zo_perm (h : L.Perm L') {b : Nat} (hb : Zo Z0 S w0 L b) : Zo Z0 S w0 L' b := ⟨hb.1, fun i r hi => by
  obtain ⟨j, hj⟩ := List.mem_iff_getElem?.1 (h.mem_iff.2 (List.mem_of_getElem? hi))
  exact hb.2 j r hj⟩
/-- The things in any order. -/
theorem Hp.perm (hm : Hp Z0 S w0 w L) (h : L.Perm L') : Hp Z0 S w0 w L' := by
  have hmem : ∀ {i : Nat} {r : Rs}, L'[i]? = some r → ∃ j, L[j]? = some r := fun hi => List.mem_iff_getElem?.1 (h.mem_iff.2 (List.mem_of_getElem? hi))
  refine ⟨hm.fr, fun i r hi => ?_, ?_, fun i r hi => ?_⟩
  · obtain ⟨j, hj⟩ := hmem hi
    exact r.keep (hm.hs j r hj) (fun _ _ _ => rfl) (fun _ _ _ => rfl) fun b hb _ => zo_perm h hb
  · have hp : L.Pairwise fun a b => ∀ x, a.F x → ¬ b.F x := by
      rw [List.pairwise_iff_getElem]
      intro i j hi hj hij
      exact hm.ap i j _ _ (by omega) (List.getElem?_eq_getElem hi) (List.getElem?_eq_getElem hj)
    have hp' := (h.pairwise_iff (fun {a b} hab x hb ha => hab x ha hb)).1 hp
    rw [List.pairwise_iff_getElem] at hp'
    intro i j a b hij hi hj x ha hb
    obtain ⟨hi', ea⟩ := List.getElem?_eq_some_iff.1 hi
    obtain ⟨hj', eb⟩ := List.getElem?_eq_some_iff.1 hj
    rcases Nat.lt_or_gt_of_ne hij with hlt | hgt
    · exact hp' i j hi' hj' hlt x (by rw [ea]; exact ha) (by rw [eb]; exact hb)
    · exact hp' j i hj' hi' hgt x (by rw [eb]; exact hb) (by rw [ea]; exact ha)
  · obtain ⟨j, hj⟩ := hmem hi
    exact hm.nw j r hj
end
section
variable {κ α : Type} [DecidableEq κ]
/-- A map's block. -/
def mbR (kv : κ → Value) (b : Nat) (ms : MsK κ) (c : Nat) : Rs where
  F := fun x => x = b
  H := fun _ w => MpK kv w b ms c
  keep := fun {_ _ w _} h hF _ _ => by have := hF b rfl h.lt; unfold MpK at h ⊢; rw [this]; exact h
  lt := fun h b hb => hb ▸ h.lt
structure Eo (κ α : Type) where
  key : κ
  A : Option Addr
  c : Nat
  xs : List α
def EsRep : MsK κ → List (Eo κ α) → Prop
  | [], [] => True
  | m :: ms, e :: es => (m.1 = e.key ∧ m.2.1 = .slice e.A e.xs.length e.c) ∧ EsRep ms es
  | _, _ => False
abbrev Ko (κ α : Type) := List (κ × List α)
def lookO (key : κ) (ps : Ko κ α) : List α := ((ps.find? fun p => decide (p.1 = key)).map (·.2)).getD []
def putO (key : κ) (xs : List α) : Ko κ α → Ko κ α
  | [] => [(key, xs)]
  | p :: r => if p.1 = key then (key, xs) :: r else p :: putO key xs r
abbrev plE (es : List (Eo κ α)) : Ko κ α := es.map fun e => (e.key, e.xs)
abbrev owE (el : TypeId) (rep : Rep α) (es : List (Eo κ α)) : List Rs := es.map fun e => ownR el e.A e.c rep e.xs
structure MoA (ms : MsK κ) (c : Nat) (es : List (Eo κ α)) (ps : Ko κ α) : Prop where
  rp : EsRep ms es
  pl : plE es = ps
  nd : (ps.map (·.1)).Nodup
  born : ∀ p ∈ ms, p.2.2 < c
  bnd : (ms.map (·.2.2)).Nodup
def mapO (F : Nat → Prop) (kv : κ → Value) (el : TypeId) (rep : Rep α) (b : Nat) (ps : Ko κ α) : Rs :=
  objR F fun M => ∃ ms c es, M = mbR kv b ms c :: owE el rep es ∧ MoA ms c es ps
/-- The map while a key's slice is out. -/
def holeO (F : Nat → Prop) (kv : κ → Value) (el : TypeId) (rep : Rep α) (b : Nat) (ps : Ko κ α) (key : κ) : Rs :=
  objR F fun M => ∃ ms c es1 eo es2, M = mbR kv b ms c :: owE el rep (es1 ++ es2) ∧ MoA ms c (es1 ++ (Option.toList eo ++ es2)) ps ∧ (∀ e, eo = some e → e.key = key) ∧ (eo = none → key ∉ ps.map (·.1) ∧ es2 = [])
theorem EsRep.keys {ι : Type} : ∀ {ms : MsK ι} {es : List (Eo ι α)}, EsRep ms es → ms.map (·.1) = es.map (·.key)
  | [], [], _ => rfl
  | _ :: _, _ :: _, ⟨h1, h2⟩ => by simp [h1.1, h2.keys]
  | _ :: _, [], h0 | [], _ :: _, h0 => h0.elim
theorem EsRep.look (key : κ) : ∀ {ms : MsK κ} {es : List (Eo κ α)}, EsRep ms es → (lookMK ms key = none ∧ key ∉ es.map (·.key)) ∨ ∃ es1 e es2, es = es1 ++ e :: es2 ∧ e.key = key ∧ key ∉ es1.map (·.key) ∧ lookMK ms key = some (.slice e.A e.xs.length e.c)
  | [], [], _ => .inl ⟨rfl, by simp⟩
  | m :: ms, e :: es, ⟨h1, h2⟩ => by
    by_cases hk : e.key = key
    · exact .inr ⟨[], e, es, rfl, hk, by simp, by simp [lookMK, h1.1, h1.2, hk]⟩
    · have e1 : lookMK (m :: ms) key = lookMK ms key := by simp [lookMK, h1.1, hk]
      rcases h2.look key with ⟨h3, h4⟩ | ⟨es1, x, es2, h3, h4, h5, h6⟩
      · exact .inl ⟨e1.trans h3, by simp [Ne.symm hk]; simpa using h4⟩
      · exact .inr ⟨e :: es1, x, es2, by rw [h3]; rfl, h4, by simp [Ne.symm hk]; simpa using h5, e1.trans h6⟩
  | _ :: _, [], h0 | [], _ :: _, h0 => h0.elim
theorem look_pl (key : κ) : ∀ (es1 : List (Eo κ α)) (e : Eo κ α) (es2 : List (Eo κ α)), e.key = key → key ∉ es1.map (·.key) → lookO key (plE (es1 ++ e :: es2)) = e.xs
  | [], e, es2, h, _ => by simp [lookO, h]
  | a :: es1, e, es2, h, hn => by
    have ha : ¬ a.key = key := fun hh => hn (by simp [hh])
    have := look_pl key es1 e es2 h (fun hh => hn (by simp at hh ⊢; exact .inr hh))
    unfold lookO at this ⊢
    simpa [ha] using this
theorem look_no (key : κ) : ∀ (es : List (Eo κ α)), key ∉ es.map (·.key) → lookO key (plE es) = []
  | [], _ => rfl
  | a :: es, hn => by
    have ha : ¬ a.key = key := fun hh => hn (by simp [hh])
    have := look_no key es (fun hh => hn (by simp at hh ⊢; exact .inr hh))
    unfold lookO at this ⊢
    simpa [ha] using this
end
section
variable {κ α : Type} [DecidableEq κ] {Z0 S : Nat → Prop} {w0 w : World} {K L : List Rs} {kv : κ → Value} {el : TypeId} {rep : Rep α} {b : Nat} {ps : Ko κ α} {F : Nat → Prop}
theorem plE_keys {ι : Type} (es : List (Eo ι α)) : (plE es).map (·.1) = es.map (·.key) := by simp
/-- A key's slice is taken out of the map: what is looked up is it. -/
theorem Hp.moTake (hm : Hp Z0 S w0 w (K ++ [mapO F kv el rep b ps])) (key : κ) : ∃ A c ms cl F', MpK kv w b ms cl ∧ (lookMK ms key).getD (.slice none 0 0) = .slice A (lookO key ps).length c ∧
    Hp Z0 S w0 w (K ++ [ownR el A c rep (lookO key ps), holeO F' kv el rep b ps key]) := by
  obtain ⟨M, ⟨ms, c, es, rfl, ha⟩, hm'⟩ := hm.unf K.length (by simp; rfl)
  have e0 : (K ++ [mapO F kv el rep b ps]).eraseIdx K.length = K := by simp [List.eraseIdx_append_of_length_le]
  rw [e0] at hm'
  have hM : MpK kv w b ms c := hm'.hs K.length (mbR kv b ms c) (by simp)
  rcases ha.rp.look key with ⟨h1, h2⟩ | ⟨es1, e, es2, rfl, hk, hn, hl⟩
  · have hlo : lookO key ps = [] := by rw [← ha.pl]; exact look_no key es h2
    have h3 : Hp Z0 S w0 w ((K ++ [ownR el none 0 rep []]) ++ (mbR kv b ms c :: owE el rep (es ++ []))) := by
      refine (hm'.addNil el rep).perm ?_
      rw [List.append_nil, List.append_assoc, List.append_assoc]
      exact (List.perm_append_left_iff K).2 List.perm_append_comm
    obtain ⟨F', h4⟩ := h3.fold (fun M => ∃ ms c es1 eo es2, M = mbR kv b ms c :: owE el rep (es1 ++ es2) ∧ MoA ms c (es1 ++ (Option.toList eo ++ es2)) ps ∧ (∀ e, eo = some e → e.key = key) ∧ (eo = none → key ∉ ps.map (·.1) ∧ es2 = []))
      ⟨ms, c, es, none, [], rfl, by simpa using ha, by simp, fun _ => ⟨by rw [← ha.pl, plE_keys]; exact h2, rfl⟩⟩
    refine ⟨none, 0, ms, c, F', hM, by rw [h1, hlo]; rfl, ?_⟩
    rw [hlo]
    rwa [List.append_assoc] at h4
  · have hlo : lookO key ps = e.xs := by rw [← ha.pl]; exact look_pl key es1 e es2 hk hn
    have h3 : Hp Z0 S w0 w ((K ++ [ownR el e.A e.c rep e.xs]) ++ (mbR kv b ms c :: owE el rep (es1 ++ es2))) := by
      refine hm'.perm ?_
      rw [List.append_assoc]
      refine (List.perm_append_left_iff K).2 ?_
      simp only [List.map_append, List.map_cons, List.cons_append, List.nil_append]
      refine List.Perm.trans ((List.perm_cons _).2 List.perm_middle) ?_
      exact List.Perm.swap _ _ _
    obtain ⟨F', h4⟩ := h3.fold (fun M => ∃ ms c es1 eo es2, M = mbR kv b ms c :: owE el rep (es1 ++ es2) ∧ MoA ms c (es1 ++ (Option.toList eo ++ es2)) ps ∧ (∀ e, eo = some e → e.key = key) ∧ (eo = none → key ∉ ps.map (·.1) ∧ es2 = []))
      ⟨ms, c, es1, some e, es2, rfl, by simpa using ha, fun x hx => by injection hx with hx; rw [← hx]; exact hk, fun h => by cases h⟩
    refine ⟨e.A, e.c, ms, c, F', hM, by rw [hl, hlo]; rfl, ?_⟩
    rw [hlo]
    rwa [List.append_assoc] at h4
theorem put_rep {key : κ} {cl : Nat} {e' : Eo κ α} : ∀ {es1 : List (Eo κ α)} {e : Eo κ α} {es2 : List (Eo κ α)} {ms : MsK κ}, EsRep ms (es1 ++ e :: es2) → e.key = key → e'.key = key → key ∉ es1.map (·.key) →
    EsRep (putMK key (.slice e'.A e'.xs.length e'.c) cl ms) (es1 ++ e' :: es2) ∧ (putMK key (.slice e'.A e'.xs.length e'.c) cl ms).map (·.2.2) = ms.map (·.2.2)
  | [], e, es2, m :: ms, ⟨h1, h2⟩, hk, hk', _ => by
    have hm : m.1 = key := h1.1.trans hk
    simp only [putMK, if_pos hm, List.nil_append, List.map_cons]
    exact ⟨⟨⟨hk'.symm, rfl⟩, h2⟩, trivial⟩
  | a :: es1, e, es2, m :: ms, ⟨h1, h2⟩, hk, hk', hn => by
    have hm : ¬ m.1 = key := fun hh => hn (by simp [← h1.1, hh])
    obtain ⟨r1, r2⟩ := put_rep (cl := cl) (e' := e') h2 hk hk' (fun hh => hn (by simp at hh ⊢; exact .inr hh))
    simp only [putMK, if_neg hm, List.cons_append, List.map_cons, r2]
    exact ⟨⟨h1, r1⟩, trivial⟩
  | [], _, _, [], h0, _, _, _ | _ :: _, _, _, [], h0, _, _, _ => h0.elim
theorem put_new {key : κ} {cl : Nat} {e' : Eo κ α} : ∀ {es : List (Eo κ α)} {ms : MsK κ}, EsRep ms es → e'.key = key → key ∉ es.map (·.key) →
    EsRep (putMK key (.slice e'.A e'.xs.length e'.c) cl ms) (es ++ [e']) ∧ (putMK key (.slice e'.A e'.xs.length e'.c) cl ms).map (·.2.2) = ms.map (·.2.2) ++ [cl]
  | [], [], _, hk', _ => ⟨⟨⟨hk'.symm, rfl⟩, trivial⟩, rfl⟩
  | a :: es, m :: ms, ⟨h1, h2⟩, hk', hn => by
    have hm : ¬ m.1 = key := fun hh => hn (by simp [← h1.1, hh])
    obtain ⟨r1, r2⟩ := put_new (cl := cl) (e' := e') h2 hk' (fun hh => hn (by simp at hh ⊢; exact .inr hh))
    simp only [putMK, if_neg hm, List.cons_append, List.map_cons, r2]
    exact ⟨⟨h1, r1⟩, trivial⟩
  | [], _ :: _, h0, _, _ | _ :: _, [], h0, _, _ => h0.elim
theorem pl_put {key : κ} {e' : Eo κ α} : ∀ {es1 : List (Eo κ α)} {e : Eo κ α} {es2 : List (Eo κ α)}, e.key = key → e'.key = key → key ∉ es1.map (·.key) → plE (es1 ++ e' :: es2) = putO key e'.xs (plE (es1 ++ e :: es2))
  | [], e, es2, hk, hk', _ => by simp [putO, hk, hk']
  | a :: es1, e, es2, hk, hk', hn => by
    have ha : ¬ a.key = key := fun hh => hn (by simp [hh])
    have := pl_put (e' := e') (es2 := es2) hk hk' (fun hh => hn (by simp at hh ⊢; exact .inr hh))
    simp only [List.cons_append, List.map_cons, putO, if_neg ha]
    rw [← this]
theorem pl_new {key : κ} {e' : Eo κ α} : ∀ {es : List (Eo κ α)}, e'.key = key → key ∉ es.map (·.key) → plE (es ++ [e']) = putO key e'.xs (plE es)
  | [], hk', _ => by simp [putO, hk']
  | a :: es, hk', hn => by
    have ha : ¬ a.key = key := fun hh => hn (by simp [hh])
    have := pl_new (e' := e') hk' (fun hh => hn (by simp at hh ⊢; exact .inr hh))
    simp only [List.cons_append, List.map_cons, putO, if_neg ha]
    rw [← this]
theorem putO_keys (key : κ) (xs : List α) : ∀ (ps : Ko κ α), (∀ q ∈ (putO key xs ps).map (·.1), q = key ∨ q ∈ ps.map (·.1)) ∧ ((ps.map (·.1)).Nodup → ((putO key xs ps).map (·.1)).Nodup)
  | [] => by simp [putO]
  | p :: r => by
    by_cases hk : p.1 = key
    · simp only [putO, if_pos hk, List.map_cons]
      refine ⟨fun q h => ?_, fun h => ?_⟩
      · rcases List.mem_cons.1 h with h | h
        · exact .inl h
        · exact .inr (List.mem_cons_of_mem _ h)
      · rw [List.nodup_cons] at h ⊢; rw [hk] at h; exact h
    · simp only [putO, if_neg hk, List.map_cons]
      obtain ⟨h1, h2⟩ := putO_keys key xs r
      refine ⟨fun q h => ?_, fun h => ?_⟩
      · rcases List.mem_cons.1 h with h | h
        · exact .inr (by rw [h]; exact List.mem_cons_self)
        · exact (h1 q h).imp id fun h => List.mem_cons_of_mem _ h
      · rw [List.nodup_cons] at h ⊢
        exact ⟨fun hm => (h1 _ hm).elim hk h.1, h2 h.2⟩
theorem stamps_put {ι : Type} {ms ms' : MsK ι} {c c' : Nat} (hb : ∀ p ∈ ms, p.2.2 < c) (hn : (ms.map (·.2.2)).Nodup) (h : (ms'.map (·.2.2) = ms.map (·.2.2) ∧ c' = c) ∨ (ms'.map (·.2.2) = ms.map (·.2.2) ++ [c] ∧ c' = c + 1)) : (∀ p ∈ ms', p.2.2 < c') ∧ (ms'.map (·.2.2)).Nodup := by
  have hbs : ∀ x ∈ ms.map (·.2.2), x < c := fun x hx => by obtain ⟨p, hp, rfl⟩ := List.mem_map.1 hx; exact hb p hp
  have hm : ∀ p ∈ ms', p.2.2 ∈ ms'.map (·.2.2) := fun p hp => List.mem_map_of_mem hp
  rcases h with ⟨h1, rfl⟩ | ⟨h1, rfl⟩
  · exact ⟨fun p hp => hbs _ (h1 ▸ hm p hp), h1 ▸ hn⟩
  · refine ⟨fun p hp => ?_, ?_⟩
    · have := hm p hp
      rw [h1] at this
      rcases List.mem_append.1 this with h2 | h2
      · have := hbs _ h2; omega
      · simp at h2; omega
    · rw [h1, List.nodup_append]
      exact ⟨hn, by simp, fun a ha b' hb' hab => by simp at hb'; have := hbs a ha; omega⟩
end
section
variable {κ α : Type} [DecidableEq κ] {Z0 S : Nat → Prop} {w0 w : World} {K L : List Rs} {kv : κ → Value} {el : TypeId} {rep : Rep α} {b : Nat} {ps : Ko κ α} {F : Nat → Prop}
variable {P : Program} {f : FuncId} {n : Nat} {R : Ending → World → Prop} {k : List Item} {e : Env} {ops : Array Oper} {i : Nat} {rest : List Nat} {ty : TypeId} {pos : String} {af : Array Edge} {g : Option (Nat × Bool)}
/-- 'm[k] = v': a slice of one's own is put under the key whose slice is out. -/
theorem Rn.moPut {t kt et : TypeId} {x y z : Operand} {A : Option Addr} {c' : Nat} {xs : List α} {key : κ} (hm : Hp Z0 S w0 w (K ++ [ownR el A c' rep xs, holeO F kv el rep b ps key])) (hK : KeyOk P kt kv)
    (ho : ops[i]? = some ⟨none, .mapUpdate t x y z, ty, pos, af, g⟩) (hg : gok e ops g = true) (ht : P.underlying t = some (.map kt et)) (hx : ev e x = some (.map (some b))) (hy : ev e y = some (kv key)) (hz : ev e z = some (.slice A xs.length c'))
    (h : ∀ F' w', Hp Z0 S w0 w' (K ++ [mapO F' kv el rep b (putO key xs ps)]) → Rn P f n R (.inRegion ops rest :: k) e w') : Rn P f n R (.inRegion ops (i :: rest) :: k) e w := by
  obtain ⟨M, ⟨ms, c, es1, eo, es2, rfl, ha, he1, he2⟩, hm'⟩ := hm.unf (K.length + 1) (by simp; rfl)
  have e0 : (K ++ [ownR el A c' rep xs, holeO F kv el rep b ps key]).eraseIdx (K.length + 1) = K ++ [ownR el A c' rep xs] := by
    rw [List.eraseIdx_append_of_length_le (by omega)]; simp
  rw [e0] at hm'
  have hi : ((K ++ [ownR el A c' rep xs]) ++ (mbR kv b ms c :: owE el rep (es1 ++ es2)))[K.length + 1]? = some (mbR kv b ms c) := by simp
  have hM : MpK kv w b ms c := hm'.hs _ _ hi
  obtain ⟨c2, w', hr, hM', hF, hc⟩ := mapUpdateK_run (P := P) hK key (.slice A xs.length c') ht hM
  have hm2 := hm'.upd (K.length + 1) (mbR kv b (putMK key (.slice A xs.length c') c ms) c2) hi hF (fun x hx => .inl hx) (fun _ _ _ => hM')
  have e1 : ((K ++ [ownR el A c' rep xs]) ++ (mbR kv b ms c :: owE el rep (es1 ++ es2))).set (K.length + 1) (mbR kv b (putMK key (.slice A xs.length c') c ms) c2) = (K ++ [ownR el A c' rep xs]) ++ (mbR kv b (putMK key (.slice A xs.length c') c ms) c2 :: owE el rep (es1 ++ es2)) := by
    rw [List.set_append_right _ _ (by simp)]; simp
  rw [e1] at hm2
  have fin : ∀ es' : List (Eo κ α), MoA (putMK key (.slice A xs.length c') c ms) c2 es' (putO key xs ps) → ((K ++ [ownR el A c' rep xs]) ++ (mbR kv b (putMK key (.slice A xs.length c') c ms) c2 :: owE el rep (es1 ++ es2))).Perm (K ++ (mbR kv b (putMK key (.slice A xs.length c') c ms) c2 :: owE el rep es')) →
      Rn P f n R (.inRegion ops (i :: rest) :: k) e w := by
    intro es' hA hp
    obtain ⟨F', h4⟩ := (hm2.perm hp).fold (fun M => ∃ ms c es, M = mbR kv b ms c :: owE el rep es ∧ MoA ms c es (putO key xs ps)) ⟨_, _, es', rfl, hA⟩
    exact Rn.opU ho hg rfl (fun a hf => by simp [execOp, ev_eval hf hx, ev_eval hf hy, ev_eval hf hz, hr]) (h F' w' h4)
  have hnd := (putO_keys key xs ps).2 ha.nd
  cases eo with
  | none =>
    obtain ⟨hno, rfl⟩ := he2 rfl
    simp only [Option.toList_none, List.nil_append, List.append_nil] at ha
    have hno' : key ∉ es1.map (·.key) := by rw [← ha.pl, plE_keys] at hno; exact hno
    have hlk : (lookMK ms key).isSome = false := by
      rcases ha.rp.look key with ⟨h1, _⟩ | ⟨a1, a, a2, rfl, hk, _, _⟩
      · rw [h1]; rfl
      · exact (hno' (by simp [hk])).elim
    obtain ⟨r1, r2⟩ := put_new (cl := c) (e' := ⟨key, A, c', xs⟩) ha.rp rfl hno'
    rw [hlk] at hc
    obtain ⟨s1, s2⟩ := stamps_put (c' := c2) ha.born ha.bnd (.inr ⟨r2, by rw [hc]; rfl⟩)
    refine fin (es1 ++ [⟨key, A, c', xs⟩]) ⟨r1, by rw [← ha.pl]; exact pl_new (e' := ⟨key, A, c', xs⟩) rfl hno', hnd, s1, s2⟩ ?_
    rw [List.append_assoc]
    refine (List.perm_append_left_iff K).2 ?_
    simp only [List.append_nil, List.map_append, List.map_cons, List.map_nil, List.cons_append, List.nil_append]
    refine List.Perm.trans (List.Perm.swap _ _ _) ((List.perm_cons _).2 ?_)
    exact List.perm_append_singleton _ _ |>.symm
  | some a =>
    have hak := he1 a rfl
    simp only [Option.toList_some, List.cons_append, List.nil_append] at ha
    have hnd1 : key ∉ es1.map (·.key) := by
      have := ha.nd
      rw [← ha.pl, plE_keys, List.map_append, List.map_cons, List.nodup_append] at this
      intro hh
      exact this.2.2 key hh a.key (by simp) hak.symm
    have hlk : (lookMK ms key).isSome = true := by
      rcases ha.rp.look key with ⟨_, h2⟩ | ⟨a1, a', a2, _, _, _, h6⟩
      · exact (h2 (by simp [hak])).elim
      · rw [h6]; rfl
    obtain ⟨r1, r2⟩ := put_rep (cl := c) (e' := ⟨key, A, c', xs⟩) ha.rp hak rfl hnd1
    rw [hlk] at hc
    obtain ⟨s1, s2⟩ := stamps_put (c' := c2) ha.born ha.bnd (.inl ⟨r2, by rw [hc]; rfl⟩)
    refine fin (es1 ++ ⟨key, A, c', xs⟩ :: es2) ⟨r1, by rw [← ha.pl]; exact pl_put (e' := ⟨key, A, c', xs⟩) hak rfl hnd1, hnd, s1, s2⟩ ?_
    rw [List.append_assoc]
    refine (List.perm_append_left_iff K).2 ?_
    simp only [List.map_append, List.map_cons, List.cons_append, List.nil_append]
    refine List.Perm.trans (List.Perm.swap _ _ _) ((List.perm_cons _).2 ?_)
    exact List.perm_middle.symm
/-- What is under a key is read. -/
theorem Hp.moRead (hm : Hp Z0 S w0 w L) (i : Nat) (hi : L[i]? = some (mapO F kv el rep b ps)) (key : κ) : ∃ A c ms cl, MpK kv w b ms cl ∧ (lookMK ms key).getD (.slice none 0 0) = .slice A (lookO key ps).length c ∧ (slR A c rep (lookO key ps)).H All w := by
  obtain ⟨M, ⟨ms, c, es, rfl, ha⟩, _, hH, _⟩ := hm.hs i _ hi
  have hM : MpK kv w b ms c := hH 0 (mbR kv b ms c) rfl
  rcases ha.rp.look key with ⟨h1, h2⟩ | ⟨es1, e, es2, rfl, hk, hn, hl⟩
  · have hlo : lookO key ps = [] := by rw [← ha.pl]; exact look_no key es h2
    exact ⟨none, 0, ms, c, hM, by rw [h1, hlo]; rfl, by rw [hlo]; exact own_slR (et := el) (Z := All) (Own.nil _ _ _ _ _)⟩
  · have hlo : lookO key ps = e.xs := by rw [← ha.pl]; exact look_pl key es1 e es2 hk hn
    have ho := hH (es1.length + 1) (ownR el e.A e.c rep e.xs) (by simp)
    exact ⟨e.A, e.c, ms, c, hM, by rw [hl, hlo]; rfl, by rw [hlo]; exact own_slR ho⟩
/-- 'make(map[..]..)'. -/
theorem Rn.mkMO {ι : Type} {t : TypeId} {d : Nat} (kv' : ι → Value) (el : TypeId) (rep : Rep α) (hm : Hp Z0 S w0 w L) (ho : ops[i]? = some ⟨some d, .makeMap t none, ty, pos, af, g⟩) (hg : gok e ops g = true) (hn : Nat.blt d n = true)
    (h : ∀ F b w', Hp Z0 S w0 w' (L ++ [mapO F kv' el rep b []]) → Rn P f n R (.inRegion ops rest :: k) ((d, .map (some b)) :: e) w') : Rn P f n R (.inRegion ops (i :: rest) :: k) e w := by
  refine Rn.mkM ho hg hn fun b w' hb hM hE => ?_
  have h1 : Hp Z0 S w0 w' (L ++ [mbR kv' b [] 0]) := hm.add _ hE (fun x hx => by
    have hx' : x = b := hx
    omega) fun _ _ => hM
  obtain ⟨F', h2⟩ := Hp.fold (fun M => ∃ ms c es, M = mbR kv' b ms c :: owE el rep es ∧ MoA ms c es ([] : Ko ι α)) h1 ⟨[], 0, [], rfl, trivial, rfl, by simp, by simp, by simp⟩
  exact h F' b w' h2
end
end Go.Wk
