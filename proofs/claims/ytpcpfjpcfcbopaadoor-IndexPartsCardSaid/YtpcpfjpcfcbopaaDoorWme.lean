/-
  A drawn region whose tail hangs on one operation, and 'm[k] = append(m[k], v)' over maps of own slices. Plain laws over any program.
-/
import Derived.Test.YtpcpfjpcfcbopaaDoorWmo
import Derived.Test.YtpcpfjpcfcbopaaDoorWr
set_option linter.unusedVariables false
set_option linter.unusedSimpArgs false
namespace Go.Wk
open Go Go.RowKit
theorem bytes_same (l : List UInt8) : ((⟨l.toArray⟩ : ByteArray) == ⟨l.toArray⟩) = true := by rw [beq_toListBytes]; simp
section
variable {P : Program} {f : FuncId} {n : Nat} {R : Ending → World → Prop} {k : List Item} {e : Env} {w : World} {ops : Array Oper} {n0 : Nat}
/-- Each of the tail waits for one of the tail. -/
def treeB (ops : Array Oper) (n0 : Nat) : Bool := (List.range ops.size).all fun t => decide (t ≤ n0) || (List.range t).any fun j => decide (n0 ≤ j) && Region.waitsFor .any ops t j
theorem Far.tailWaits2 {l l' : Array Bool} (hs : Region.sinkB .any ops n0 = true) (hc : treeB ops n0 = true) (hn : n0 < ops.size) (F : Far ops n0 l l') :
    ∀ (d i : Nat), n0 - i = d → i < n0 → l.getD i true = false → ∀ t, n0 ≤ t → t ∉ Region.ready .any ops l := by
  have inv := F.inv
  intro d
  induction d using Nat.strongRecOn with
  | _ d ih =>
    intro i hd hi hun t ht hr
    obtain ⟨_, ot, hot, hall⟩ := mem_ready.1 hr
    have htlt : t < ops.size := (Array.getElem?_eq_some_iff.1 hot).1
    by_cases htn : t = n0
    · subst htn
      have h1 := List.all_eq_true.1 hs i (List.mem_range.2 hi)
      obtain ⟨j, hj, hj2⟩ := List.any_eq_true.1 h1
      simp only [Bool.and_eq_true, decide_eq_true_eq] at hj2
      obtain ⟨oj, hoj, e, he, hb, hon⟩ := Region.waitsFor_spec hj2.2
      have hjle : j ≤ t := by have := List.mem_range.1 hj; omega
      by_cases hjt : j = t
      · subst hjt
        have : oj = ot := Option.some.inj (hoj.symm.trans hot)
        subst this
        have h2 := hall e he hb
        rw [hon, getD_both hun] at h2
        cases h2
      · cases hl : l.getD j false with
        | true =>
          have h2 := inv.closed j oj hoj hl e he hb
          rw [hon, getD_both hun] at h2
          cases h2
        | false =>
          have hjs : j < l.size := by rw [inv.size]; omega
          exact ih (t - j) (by omega) j rfl (by omega) (getD_in hjs hl) t (Nat.le_refl _) hr
    · have h1 := List.all_eq_true.1 hc t (List.mem_range.2 htlt)
      simp only [Bool.or_eq_true, decide_eq_true_eq] at h1
      rcases h1 with h1 | h1
      · omega
      · obtain ⟨j, hj, hj2⟩ := List.any_eq_true.1 h1
        simp only [Bool.and_eq_true, decide_eq_true_eq] at hj2
        have hjt : j < t := List.mem_range.1 hj
        obtain ⟨o', ho', e, he, hb, hon⟩ := Region.waitsFor_spec hj2.2
        have : o' = ot := Option.some.inj (ho'.symm.trans hot)
        subst this
        have h2 := hall e he hb
        rw [hon, getD_both (inv.tail j hj2.1 (by omega))] at h2
        cases h2
theorem headJ_go {Q : Exit → Act → World → Prop} {K : Act → World → Prop} {S : World → Prop} (hn : n0 < ops.size) (hs : Region.sinkB .any ops n0 = true) (hc : treeB ops n0 = true)
    (hd : (List.range n0).all (fun i => match ops[i]? with | some o => o.after.all fun ed => !Region.binds .any ed || Nat.blt ed.on i | none => false) = true)
    (hg : (List.range n0).all (fun i => match ops[i]? with | some o => (match o.guard with | some (j, _) => Nat.blt j n0 | none => true) | none => false) = true)
    (hK : ∀ a w, K a w → wpAny P .any ops Q (ops.size - n0) (hd0 ops n0) a w) :
    ∀ (fu : Nat) (l l' : Array Bool) (a : Act) (w : World), Far ops n0 l l' → wpAnyH P .any (hdOps ops n0) (QK K) S fu l' a w → wpAny P .any ops Q (fu + (ops.size - n0)) l a w := by
  intro fu
  induction fu with
  | zero =>
    intro l l' a w F h
    rw [Nat.zero_add, F.all hn hd h.1]
    exact hK a w h.2.2
  | succ fu ih =>
    intro l l' a w F h
    by_cases hr : Region.ready .any (hdOps ops n0) l' = []
    · rw [F.all hn hd hr]
      exact wpAny_add _ _ _ _ _ (hK a w (h.1 hr).2)
    · obtain ⟨i0, hi0⟩ : ∃ i0, i0 ∈ Region.ready .any (hdOps ops n0) l' := List.exists_mem_of_ne_nil _ hr
      have hi0n : i0 < n0 := by
        obtain ⟨_, o, ho, _⟩ := mem_ready.1 hi0
        obtain ⟨hlt, _⟩ := Array.getElem?_eq_some_iff.1 ho
        rw [hdOps_size hn] at hlt; exact hlt
      have hr0 := (F.ready hn hd hi0n).2 hi0
      have hun := (mem_ready.1 hr0).1
      rw [show fu + 1 + (ops.size - n0) = (fu + (ops.size - n0)) + 1 by omega]
      refine ⟨fun h0 => (by rw [h0] at hr0; cases hr0), fun i hi => ?_⟩
      have hin : i < n0 := by
        rcases Nat.lt_or_ge i n0 with h1 | h1
        · exact h1
        · exact absurd hi (F.tailWaits2 hs hc hn _ i0 rfl hi0n hun i h1)
      have hi' := (F.ready hn hd hin).1 hi
      refine wpOp_head (hdOps_get hn hin) (fun o ho => ?_) (fun a' w' h3 => ih _ _ a' w' (F.set hin hi) h3.2) (h.2 i hi')
      have hgi := List.all_eq_true.1 hg i (List.mem_range.2 hin)
      rw [ho] at hgi
      dsimp only at hgi
      unfold Region.wanted
      cases hgd : o.guard with
      | none => rfl
      | some q =>
        obtain ⟨j, b⟩ := q
        rw [hgd] at hgi
        have hj : j < n0 := by simpa [Nat.blt_eq] using hgi
        have hy : yielded (hdOps ops n0) a.tmps j = yielded ops a.tmps j := by unfold yielded; rw [hdOps_get hn hj]
        simp only [hy]
def headJB (ops : Array Oper) (n0 : Nat) : Bool := Nat.blt n0 ops.size && Region.sinkB .any ops n0 && treeB ops n0 &&
  ((List.range n0).all fun i => match ops[i]? with | some o => o.after.all fun ed => !Region.binds .any ed || Nat.blt ed.on i | none => false) &&
  ((List.range n0).all fun i => match ops[i]? with | some o => (match o.guard with | some (j, _) => Nat.blt j n0 | none => true) | none => false)
/-- As 'Rn.drawK', where the tail hangs on its first operation. -/
theorem Rn.drawJ {id : Nat} {Z0 S' : Nat → Prop} {w0 : World} {L : List Rs} (n0 : Nat) (hm' : P.follows .mixedOrders = true) (hm : Hp Z0 S' w0 w L) (hB : headJB ops n0 = true)
    (h : ∀ w1, Hp Z0 S' w0 w1 L → RG P n (KT P f R k ops n0) (hdOps ops n0) (fun w' => Ext w1 w') n0 (Array.replicate n0 false) e w1) : Rn P f n R (.code (.region id ops true) :: k) e w := by
  intro b tm cs h1 h2 h3
  simp only [headJB, Bool.and_eq_true] at hB
  obtain ⟨⟨⟨⟨hn, hs⟩, hc⟩, hd⟩, hg⟩ := hB
  have hn : n0 < ops.size := by simpa [Nat.blt_eq] using hn
  have h4 := h w.drew (hm.ext (Ext.drew w)) ⟨tm, []⟩ rfl h3 (Ext.refl _)
  have F : Far ops n0 (Array.replicate ops.size false) (Array.replicate n0 false) := by
    refine ⟨by simp, by simp, fun i hi => ?_, fun t _ ht => ?_, fun j oj _ hl => (by rw [getD_replicate_false] at hl; cases hl)⟩
    · have : i < ops.size := by omega
      simp [hi, this]
    · simp [ht]
  have H := headJ_go (Q := QQ P f R k) hn hs hc hd hg (fun a w hK => hK) n0 _ _ _ _ F h4
  rw [show n0 + (ops.size - n0) = ops.size by omega] at H
  have h5 := wp_region_any (id := id) hm' H
  obtain ⟨x, a', w', ⟨rfl, hR⟩, harr⟩ := h5 b k cs
  obtain ⟨x, w2, fr, hR2, hc, q⟩ := hR b cs h1 h2
  exact ⟨x, w2, fr, hR2, Comes.of_steps harr hc, q⟩
end
section
variable {κ : Type} [DecidableEq κ] {kv : κ → Value} {w w' : World} {P : Program}
theorem modify_self' {α : Type} (l : List α) (i : Nat) (f : α → α) (a : α) (h : l[i]? = some a) (hf : f a = a) : l.modify i f = l := by
  apply List.ext_getElem?
  intro j
  rw [List.getElem?_modify]
  by_cases h' : i = j
  · subst h'; simp [h, hf]
  · simp [h']
def setMK (i : Nat) (v : Value) (l : MsK κ) : MsK κ := l.modify i fun m => (m.1, v, m.2.2)
theorem setMK_arr {ι : Type} {kv' : ι → Value} (i : Nat) (v : Value) (l : MsK ι) : ((l.map (entK kv')).toArray.modify i fun e => { e with val := v }) = ((setMK i v l).map (entK kv')).toArray := by
  apply Array.ext'
  simp only [Array.toList_modify, setMK]
  apply List.ext_getElem?
  intro j
  simp only [List.getElem?_modify, List.getElem?_map]
  by_cases h' : i = j
  · subst h'; cases l[i]? <;> simp [entK]
  · simp [h']
theorem setMK_st {ι : Type} (i : Nat) (v : Value) (l : MsK ι) : (setMK i v l).map (·.2.2) = l.map (·.2.2) := by
  apply List.ext_getElem?
  intro j
  simp only [setMK, List.getElem?_map, List.getElem?_modify]
  by_cases h' : i = j
  · subst h'; cases l[i]? <;> simp
  · simp [h']
theorem find_stamp {ι : Type} {kv' : ι → Value} {l : MsK ι} (hn : (l.map (·.2.2)).Nodup) {i st : Nat} (h : (l[i]?).map (·.2.2) = some st) : (l.map (entK kv')).toArray.findIdx? (fun e => (e.born : Int) == (st : Int)) = some i := by
  obtain ⟨m, hm, hs⟩ := Option.map_eq_some_iff.1 h
  obtain ⟨hi, rfl⟩ := List.getElem?_eq_some_iff.1 hm
  rw [List.findIdx?_toArray, List.findIdx?_eq_some_iff_getElem]
  refine ⟨by simpa using hi, by simp [entK, hs], fun j hj => ?_⟩
  have hj' : j < l.length := by omega
  simp only [List.getElem_map, entK, beq_iff_eq, Int.ofNat_inj]
  intro hh
  have := (List.pairwise_iff_getElem.1 hn) j i (by simpa using hj') (by simpa using hi) hj
  simp [hs, hh] at this
theorem run_goInt (st : Nat) : (asInt (goInt st)).run P w = .ok (st : Int) w := by simp [goInt, asInt, asIntOf]
theorem entryStoreK_run {ι : Type} {kv' : ι → Value} {t : TypeId} {b c i st : Nat} {l : MsK ι} (v : Value) (hM : MpK kv' w b l c) (hn : (l.map (·.2.2)).Nodup) (hi : (l[i]?).map (·.2.2) = some st) :
    ∃ w', (Instr.entryStore t (.map (some b)) (.int .i64 st) v).run P w = .ok () w' ∧ MpK kv' w' b (setMK i v l) c ∧ Fr (fun x => x = b) w w' := by
  obtain ⟨h1, h2⟩ := hM.set (setMK i v l) c
  refine ⟨_, ?_, h1, h2⟩
  have h3 := run_goInt (P := P) (w := w) st
  simp only [goInt] at h3
  simp only [Instr.entryStore, Sem.run_bind, Result.andThen_ok, run_getObjK hM, h3, find_stamp hn hi]
  rw [setMK_arr]
  exact run_setObjK hM _
theorem putMK_app (key : κ) (v : Value) (c : Nat) : ∀ (l : MsK κ) (i : Nat), goMK key l i = none → putMK key v c l = l ++ [(key, v, c)]
  | [], _, _ => rfl
  | p :: r, i, h => by
    by_cases hp : p.1 = key
    · simp [goMK, hp] at h
    · simp only [goMK, hp, if_false] at h
      simp only [putMK, hp, if_false, putMK_app key v c r (i + 1) h, List.cons_append]
theorem mapEntryK_some {t kt et : TypeId} {b c j : Nat} {l : MsK κ} {m : κ × Value × Nat} {v : Value} (hK : KeyOk P kt kv) (key : κ) (ht : P.underlying t = some (.map kt et)) (hM : MpK kv w b l c)
    (hg : goMK key l 0 = some (j, v)) (hm : l[j]? = some m) (hk : m.1 = key) :
    ∃ w', (Instr.mapEntry t (.map (some b)) (kv key)).run P w = .ok (.tuple #[v, .int .i64 m.2.2]) w' ∧ MpK kv w' b l c ∧ Fr (fun x => x = b) w w' := by
  obtain ⟨h1, h2⟩ := hM.set l c
  refine ⟨_, ?_, h1, h2⟩
  have hfk := hK.fk key l w
  rw [hg] at hfk
  have hj : (l.map (entK kv)).toArray[j]? = some (entK kv m) := by simp [hm]
  have hkey : (((l.map (entK kv)).toArray[j]?).map (·.key)).getD (kv key) = kv key := by simp [hm, entK, hk]
  have hb : (((l.map (entK kv)).toArray[j]?).map fun x => (x.born : Int)).getD 0 = (m.2.2 : Int) := by simp [hm, entK]
  have hmod : ((l.map (entK kv)).toArray.modify j fun e => { e with key := kv key }) = (l.map (entK kv)).toArray := by
    apply Array.ext'
    simp only [Array.toList_modify]
    exact modify_self' _ _ _ (entK kv m) (by simp [hm]) (by simp [entK, hk])
  simp only [Instr.mapEntry, Sem.run_bind, run_underlying ht, Result.andThen_ok, run_getObjK hM, hK.ck, List.toList_toArray, hfk, hkey, hK.st, hmod, hb, run_setObjK hM, Sem.run_pure, goInt]
theorem mapEntryK_none {t kt et : TypeId} {b c : Nat} {l : MsK κ} {z : Value} (hK : KeyOk P kt kv) (key : κ) (ht : P.underlying t = some (.map kt et)) (hz : ∀ w, (zeroValue et).run P w = .ok z w) (hM : MpK kv w b l c)
    (hg : goMK key l 0 = none) :
    ∃ w', (Instr.mapEntry t (.map (some b)) (kv key)).run P w = .ok (.tuple #[z, .int .i64 c]) w' ∧ MpK kv w' b (putMK key z c l) (c + 1) ∧ Fr (fun x => x = b) w w' := by
  obtain ⟨h1, h2⟩ := hM.set (putMK key z c l) (c + 1)
  refine ⟨_, ?_, h1, h2⟩
  have hfk := hK.fk key l w
  rw [hg] at hfk
  simp only [Instr.mapEntry, Sem.run_bind, run_underlying ht, Result.andThen_ok, run_getObjK hM, hK.ck, List.toList_toArray, hfk, hz, run_setObjK hM, Sem.run_pure, goInt]
  rw [← putMK_none key z c l 0 hg]
end
section
variable {κ α : Type} [DecidableEq κ]
theorem EsRep.go (key : κ) : ∀ {ms : MsK κ} {es : List (Eo κ α)} (i : Nat), EsRep ms es → (goMK key ms i = none ∧ key ∉ es.map (·.key)) ∨ ∃ es1 e es2 m, es = es1 ++ e :: es2 ∧ e.key = key ∧ key ∉ es1.map (·.key) ∧ ms[es1.length]? = some m ∧ m.1 = key ∧ goMK key ms i = some (i + es1.length, .slice e.A e.xs.length e.c)
  | [], [], _, _ => .inl ⟨rfl, by simp⟩
  | m :: ms, e :: es, i, ⟨h1, h2⟩ => by
    by_cases hk : e.key = key
    · exact .inr ⟨[], e, es, m, rfl, hk, by simp, rfl, h1.1.trans hk, by simp [goMK, h1.1, h1.2, hk]⟩
    · have hm : ¬ m.1 = key := fun hh => hk (h1.1.symm.trans hh)
      rcases h2.go key (i + 1) with ⟨h3, h4⟩ | ⟨es1, x, es2, m', h3, h4, h5, h6, h7, h8⟩
      · exact .inl ⟨by simp only [goMK, if_neg hm, h3], by simp [Ne.symm hk]; simpa using h4⟩
      · refine .inr ⟨e :: es1, x, es2, m', by rw [h3]; rfl, h4, by simp [Ne.symm hk]; simpa using h5, by simpa using h6, h7, ?_⟩
        simp only [goMK, if_neg hm, h8, List.length_cons]
        congr 2; omega
  | _ :: _, [], _, h0 | [], _ :: _, _, h0 => h0.elim
/-- The map while the slice of a key, whose entry has this stamp, is out. -/
def holeE (F : Nat → Prop) (kv : κ → Value) (el : TypeId) (rep : Rep α) (b : Nat) (ps : Ko κ α) (key : κ) (st : Nat) : Rs :=
  objR F fun M => ∃ ms c es1 e es2, M = mbR kv b ms c :: owE el rep (es1 ++ es2) ∧ MoA ms c (es1 ++ e :: es2) (putO key e.xs ps) ∧ e.key = key ∧ (ms[es1.length]?).map (·.2.2) = some st
theorem EsRep.set {ι : Type} {e e' : Eo ι α} (hk : e'.key = e.key) : ∀ {es1 : List (Eo ι α)} {es2 : List (Eo ι α)} {ms : MsK ι}, EsRep ms (es1 ++ e :: es2) → EsRep (setMK es1.length (.slice e'.A e'.xs.length e'.c) ms) (es1 ++ e' :: es2)
  | [], es2, m :: ms, ⟨h1, h2⟩ => ⟨⟨h1.1.trans hk.symm, rfl⟩, h2⟩
  | a :: es1, es2, m :: ms, ⟨h1, h2⟩ => ⟨h1, EsRep.set (e := e) hk h2⟩
  | [], _, [], h0 | _ :: _, _, [], h0 => h0.elim
theorem putO_putO (key : κ) (xs ys : List α) : ∀ (ps : Ko κ α), putO key xs (putO key ys ps) = putO key xs ps
  | [] => by simp [putO]
  | p :: r => by
    by_cases hk : p.1 = key
    · simp [putO, hk]
    · simp [putO, hk, putO_putO key xs ys r]
theorem putO_look (key : κ) : ∀ (ps : Ko κ α), key ∈ ps.map (·.1) → putO key (lookO key ps) ps = ps
  | [], h => by simp at h
  | p :: r, h => by
    by_cases hk : p.1 = key
    · obtain ⟨a, b⟩ := p
      have hk : a = key := hk
      subst hk
      simp [putO, lookO]
    · have := putO_look key r (by simpa [Ne.symm hk] using h)
      unfold lookO at this ⊢
      simp only [putO, hk, if_false, List.find?_cons, decide_false]
      rw [this]
end
section
variable {κ α : Type} [DecidableEq κ] {Z0 S : Nat → Prop} {w0 w : World} {K L : List Rs} {kv : κ → Value} {el : TypeId} {rep : Rep α} {b : Nat} {ps : Ko κ α} {F : Nat → Prop}
variable {P : Program} {f : FuncId} {n : Nat} {e : Env} {ops : Array Oper} {d : Nat} {ty : TypeId} {pos : String} {af : Array Edge} {g : Option (Nat × Bool)} {S' : World → Prop} {fuel : Nat} {listed : Array Bool} {K' : Act → World → Prop}
theorem Hp.meTake (hm : Hp Z0 S w0 w (K ++ [mapO F kv el rep b ps])) {t kt et : TypeId} (hK : KeyOk P kt kv) (key : κ) (ht : P.underlying t = some (.map kt et)) (hz : ∀ w, (zeroValue et).run P w = .ok (.slice none 0 0) w) :
    ∃ A c st F' w', (Instr.mapEntry t (.map (some b)) (kv key)).run P w = .ok (.tuple #[.slice A (lookO key ps).length c, .int .i64 (st : Nat)]) w' ∧
      Hp Z0 S w0 w' (K ++ [ownR el A c rep (lookO key ps), holeE F' kv el rep b ps key st]) := by
  obtain ⟨M, ⟨ms, c, es, rfl, ha⟩, hm'⟩ := hm.unf K.length (by simp; rfl)
  have e0 : (K ++ [mapO F kv el rep b ps]).eraseIdx K.length = K := by simp [List.eraseIdx_append_of_length_le]
  rw [e0] at hm'
  have hi : (K ++ (mbR kv b ms c :: owE el rep es))[K.length]? = some (mbR kv b ms c) := by simp
  have hM : MpK kv w b ms c := hm'.hs K.length (mbR kv b ms c) hi
  rcases ha.rp.go key 0 with ⟨h1, h2⟩ | ⟨es1, x, es2, m, rfl, hk, hn, hl, hmk, hg⟩
  · have hlo : lookO key ps = [] := by rw [← ha.pl]; exact look_no key es h2
    obtain ⟨w', hr, hM', hF⟩ := mapEntryK_none (P := P) hK key ht hz hM h1
    have hm2 := hm'.upd K.length (mbR kv b (putMK key (.slice none 0 0) c ms) (c + 1)) hi hF (fun x hx => .inl hx) (fun _ _ _ => hM')
    have e1 : (K ++ (mbR kv b ms c :: owE el rep es)).set K.length (mbR kv b (putMK key (.slice none 0 0) c ms) (c + 1)) = K ++ (mbR kv b (putMK key (.slice none 0 0) c ms) (c + 1) :: owE el rep es) := by
      rw [List.set_append_right _ _ (by simp)]; simp
    rw [e1] at hm2
    have h3 : Hp Z0 S w0 w' ((K ++ [ownR el none 0 rep []]) ++ (mbR kv b (putMK key (.slice none 0 0) c ms) (c + 1) :: owE el rep (es ++ []))) := by
      refine (hm2.addNil el rep).perm ?_
      rw [List.append_nil, List.append_assoc, List.append_assoc]
      exact (List.perm_append_left_iff K).2 List.perm_append_comm
    obtain ⟨r1, r2⟩ := put_new (cl := c) (e' := (⟨key, none, 0, []⟩ : Eo κ α)) ha.rp rfl h2
    obtain ⟨s1, s2⟩ := stamps_put (c' := c + 1) ha.born ha.bnd (.inr ⟨r2, rfl⟩)
    obtain ⟨F', h4⟩ := h3.fold (fun M => ∃ ms c2 es1 e es2, M = mbR kv b ms c2 :: owE el rep (es1 ++ es2) ∧ MoA ms c2 (es1 ++ e :: es2) (putO key e.xs ps) ∧ e.key = key ∧ (ms[es1.length]?).map (·.2.2) = some c)
      ⟨_, c + 1, es, ⟨key, none, 0, []⟩, [], rfl, ⟨r1, by rw [← ha.pl]; exact pl_new (e' := ⟨key, none, 0, []⟩) rfl h2, (putO_keys key _ ps).2 ha.nd, s1, s2⟩, rfl, by
        have r3 : (putMK key (.slice none 0 0) c ms).map (·.2.2) = ms.map (·.2.2) ++ [c] := r2
        rw [← List.getElem?_map, r3]
        have : es.length = (ms.map (·.2.2)).length := by have := congrArg List.length ha.rp.keys; simpa using this.symm
        rw [this]; simp⟩
    refine ⟨none, 0, c, F', w', by rw [hlo]; exact hr, ?_⟩
    rw [hlo]
    rwa [List.append_assoc] at h4
  · have hlo : lookO key ps = x.xs := by rw [← ha.pl]; exact look_pl key es1 x es2 hk hn
    rw [Nat.zero_add] at hg
    obtain ⟨w', hr, hM', hF⟩ := mapEntryK_some (P := P) hK key ht hM hg hl hmk
    have hm2 := hm'.upd K.length (mbR kv b ms c) hi hF (fun x hx => .inl hx) (fun _ _ _ => hM')
    have e1 : (K ++ (mbR kv b ms c :: owE el rep (es1 ++ x :: es2))).set K.length (mbR kv b ms c) = K ++ (mbR kv b ms c :: owE el rep (es1 ++ x :: es2)) := by
      rw [List.set_append_right _ _ (by simp)]; simp
    rw [e1] at hm2
    have h3 : Hp Z0 S w0 w' ((K ++ [ownR el x.A x.c rep x.xs]) ++ (mbR kv b ms c :: owE el rep (es1 ++ es2))) := by
      refine hm2.perm ?_
      rw [List.append_assoc]
      refine (List.perm_append_left_iff K).2 ?_
      simp only [List.map_append, List.map_cons, List.cons_append, List.nil_append]
      refine List.Perm.trans ((List.perm_cons _).2 List.perm_middle) ?_
      exact List.Perm.swap _ _ _
    have hps : putO key x.xs ps = ps := by
      rw [← hlo]
      refine putO_look key ps ?_
      rw [← ha.pl, plE_keys]; simp [hk]
    obtain ⟨F', h4⟩ := h3.fold (fun M => ∃ ms c es1 e es2, M = mbR kv b ms c :: owE el rep (es1 ++ es2) ∧ MoA ms c (es1 ++ e :: es2) (putO key e.xs ps) ∧ e.key = key ∧ (ms[es1.length]?).map (·.2.2) = some m.2.2)
      ⟨ms, c, es1, x, es2, rfl, by rw [hps]; exact ha, hk, by rw [hl]; rfl⟩
    refine ⟨x.A, x.c, m.2.2, F', w', by rw [hlo]; exact hr, ?_⟩
    rw [hlo]
    rwa [List.append_assoc] at h4
/-- A key's entry, made where there is none: its slice is taken out. -/
theorem RH.meTake {t kt et : TypeId} {x y : Operand} (i : Nat) (hr : Region.ready .any ops listed = [i]) (hm : Hp Z0 S w0 w (K ++ [mapO F kv el rep b ps])) (hK : KeyOk P kt kv) (key : κ)
    (ho : ops[i]? = some ⟨some d, .mapEntry t x y, ty, pos, af, g⟩) (hg : gok e ops g = true) (hn : Nat.blt d n = true) (ht : P.underlying t = some (.map kt et)) (hz : ∀ w, (zeroValue et).run P w = .ok (.slice none 0 0) w) (hx : ev e x = some (.map (some b))) (hy : ev e y = some (kv key))
    (h : ∀ A c st F' w', Hp Z0 S w0 w' (K ++ [ownR el A c rep (lookO key ps), holeE F' kv el rep b ps key st]) → S' w' ∧ RG P n K' ops S' fuel (listed.setIfInBounds i true) ((d, .tuple #[.slice A (lookO key ps).length c, .int .i64 (st : Nat)]) :: e) w') :
    RG P n K' ops S' (fuel + 1) listed e w := by
  obtain ⟨A, c, st, F', w', hrun, hm2⟩ := hm.meTake (P := P) hK key ht hz
  obtain ⟨h6, h7⟩ := h A c st F' w' hm2
  exact RH.one i hr ho hg rfl hn (fun a hf => by simp [execOp, ev_eval hf hx, ev_eval hf hy, hrun]) h6 h7
theorem Hp.mePut {A : Option Addr} {c' st : Nat} {xs : List α} {key : κ} (t : TypeId) (hm : Hp Z0 S w0 w (K ++ [ownR el A c' rep xs, holeE F kv el rep b ps key st])) :
    ∃ F' w', (Instr.entryStore t (.map (some b)) (.int .i64 (st : Nat)) (.slice A xs.length c')).run P w = .ok () w' ∧ Hp Z0 S w0 w' (K ++ [mapO F' kv el rep b (putO key xs ps)]) := by
  obtain ⟨M, ⟨ms, c, es1, x, es2, rfl, ha, hk, hst⟩, hm'⟩ := hm.unf (K.length + 1) (by simp; rfl)
  have e0 : (K ++ [ownR el A c' rep xs, holeE F kv el rep b ps key st]).eraseIdx (K.length + 1) = K ++ [ownR el A c' rep xs] := by
    rw [List.eraseIdx_append_of_length_le (by omega)]; simp
  rw [e0] at hm'
  have hi : ((K ++ [ownR el A c' rep xs]) ++ (mbR kv b ms c :: owE el rep (es1 ++ es2)))[K.length + 1]? = some (mbR kv b ms c) := by simp
  have hM : MpK kv w b ms c := hm'.hs _ _ hi
  obtain ⟨w', hr, hM', hF⟩ := entryStoreK_run (P := P) (t := t) (.slice A xs.length c') hM ha.bnd hst
  have hm2 := hm'.upd (K.length + 1) (mbR kv b (setMK es1.length (.slice A xs.length c') ms) c) hi hF (fun x hx => .inl hx) (fun _ _ _ => hM')
  have e1 : ((K ++ [ownR el A c' rep xs]) ++ (mbR kv b ms c :: owE el rep (es1 ++ es2))).set (K.length + 1) (mbR kv b (setMK es1.length (.slice A xs.length c') ms) c) = (K ++ [ownR el A c' rep xs]) ++ (mbR kv b (setMK es1.length (.slice A xs.length c') ms) c :: owE el rep (es1 ++ es2)) := by
    rw [List.set_append_right _ _ (by simp)]; simp
  rw [e1] at hm2
  have hnd1 : key ∉ es1.map (·.key) := by
    have := ha.nd
    rw [← ha.pl, plE_keys, List.map_append, List.map_cons, List.nodup_append] at this
    intro hh
    exact this.2.2 key hh x.key (by simp) hk.symm
  have hp : ((K ++ [ownR el A c' rep xs]) ++ (mbR kv b (setMK es1.length (.slice A xs.length c') ms) c :: owE el rep (es1 ++ es2))).Perm (K ++ (mbR kv b (setMK es1.length (.slice A xs.length c') ms) c :: owE el rep (es1 ++ (⟨key, A, c', xs⟩ : Eo κ α) :: es2))) := by
    rw [List.append_assoc]
    refine (List.perm_append_left_iff K).2 ?_
    simp only [List.map_append, List.map_cons, List.cons_append, List.nil_append]
    refine List.Perm.trans (List.Perm.swap _ _ _) ((List.perm_cons _).2 ?_)
    exact List.perm_middle.symm
  have hpl : plE (es1 ++ (⟨key, A, c', xs⟩ : Eo κ α) :: es2) = putO key xs ps := by
    rw [pl_put (e' := ⟨key, A, c', xs⟩) hk rfl hnd1, ha.pl, putO_putO]
  have hnd : ((putO key xs ps).map (·.1)).Nodup := by
    have := (putO_keys key xs (putO key x.xs ps)).2 ha.nd
    rwa [putO_putO] at this
  obtain ⟨F', h4⟩ := (hm2.perm hp).fold (fun M => ∃ ms c es, M = mbR kv b ms c :: owE el rep es ∧ MoA ms c es (putO key xs ps))
    ⟨_, c, _, rfl, ⟨EsRep.set (e := x) (e' := ⟨key, A, c', xs⟩) hk.symm ha.rp, hpl, hnd, fun p hp => by
      have : p.2.2 ∈ ms.map (·.2.2) := by rw [← setMK_st es1.length (.slice A xs.length c') ms]; exact List.mem_map_of_mem hp
      obtain ⟨q, hq, hqe⟩ := List.mem_map.1 this
      have := ha.born q hq
      omega, by rw [setMK_st]; exact ha.bnd⟩⟩
  exact ⟨F', w', hr, h4⟩
/-- .. and is put back, grown. -/
theorem RH.mePut {t : TypeId} {x y z : Operand} {A : Option Addr} {c' st : Nat} {xs : List α} {key : κ} (i : Nat) (hr : Region.ready .any ops listed = [i]) (hm : Hp Z0 S w0 w (K ++ [ownR el A c' rep xs, holeE F kv el rep b ps key st]))
    (ho : ops[i]? = some ⟨none, .entryStore t x y z, ty, pos, af, g⟩) (hg : gok e ops g = true) (hx : ev e x = some (.map (some b))) (hy : ev e y = some (.int .i64 (st : Nat))) (hz : ev e z = some (.slice A xs.length c'))
    (h : ∀ F' w', Hp Z0 S w0 w' (K ++ [mapO F' kv el rep b (putO key xs ps)]) → S' w' ∧ RG P n K' ops S' fuel (listed.setIfInBounds i true) e w') : RG P n K' ops S' (fuel + 1) listed e w := by
  obtain ⟨F', w', hrun, hm2⟩ := hm.mePut (P := P) t
  obtain ⟨h6, h7⟩ := h F' w' hm2
  exact RH.oneU i hr ho hg rfl (fun a hf => by simp [execOp, ev_eval hf hx, ev_eval hf hy, ev_eval hf hz, hrun]) h6 h7
/-- What is under a key is read, of a map that stays. -/
theorem Hp.moReadZ (hm : Hp Z0 S w0 w L) (i : Nat) (hi : L[i]? = some (fzR (mapO F kv el rep b ps))) (key : κ) : ∃ A c ms cl, MpK kv w b ms cl ∧ (lookMK ms key).getD (.slice none 0 0) = .slice A (lookO key ps).length c ∧ Hp Z0 S w0 w (L ++ [slR A c rep (lookO key ps)]) := by
  obtain ⟨⟨M, ⟨ms, c, es, rfl, ha⟩, hF, hH, hA⟩, hZ⟩ := hm.hs i _ hi
  have hM : MpK kv w b ms c := hH 0 (mbR kv b ms c) rfl
  rcases ha.rp.look key with ⟨h1, h2⟩ | ⟨es1, x, es2, rfl, hk, hn, hl⟩
  · have hlo : lookO key ps = [] := by rw [← ha.pl]; exact look_no key es h2
    refine ⟨none, 0, ms, c, hM, by rw [h1, hlo]; rfl, ?_⟩
    rw [hlo]
    exact hm.know _ (fun _ h => h) ⟨Nat.zero_le _, Nat.zero_le _, Sl.nil _ _ _ _⟩
  · have hlo : lookO key ps = x.xs := by rw [← ha.pl]; exact look_pl key es1 x es2 hk hn
    have hidx : (mbR kv b ms c :: owE el rep (es1 ++ x :: es2))[es1.length + 1]? = some (ownR el x.A x.c rep x.xs) := by simp
    have ho := hH (es1.length + 1) (ownR el x.A x.c rep x.xs) hidx
    refine ⟨x.A, x.c, ms, c, hM, by rw [hl, hlo]; rfl, ?_⟩
    rw [hlo]
    exact hm.know _ (fun _ h => h) ⟨ho.1, ho.2.1, (Own.sl ho).mono fun y hy => hy.elim id fun hy => hZ y ((hF y).2 ⟨_, _, hidx, hy⟩)⟩
end
end Go.Wk
