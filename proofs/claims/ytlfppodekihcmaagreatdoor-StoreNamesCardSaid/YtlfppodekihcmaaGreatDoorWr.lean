/-
  The walk by places: a region that draws its order, whose head only reads and whose tail is in order. Plain laws over any program, on the base's own.
-/
import Derived.Test.YtlfppodekihcmaaGreatDoorWq
import Derived.StillTail
set_option linter.unusedVariables false
set_option linter.unusedSimpArgs false
namespace Go.Wk
open Go Go.RowKit
/-- The first so many have come up. -/
def hd0 (ops : Array Oper) (n0 : Nat) : Array Bool := (List.range n0).foldl (fun l i => l.setIfInBounds i true) (Array.replicate ops.size false)
def headOk (ops : Array Oper) (n0 : Nat) : Nat → Nat → Array Bool → Bool
  | 0, _, listed => (Region.ready .any ops listed).all fun j => Nat.ble n0 j
  | f + 1, k, listed => (Region.ready .any ops listed).contains k && Region.free .any ops listed k && headOk ops n0 f (k + 1) (listed.setIfInBounds k true)
def headB (ops : Array Oper) (n0 : Nat) : Bool := Region.noSelect ops && Nat.blt n0 ops.size && Region.sinkB .any ops n0 && Region.chainB .any ops n0 && headOk ops n0 n0 0 (Array.replicate ops.size false)
section
variable {P : Program} {f : FuncId} {n : Nat} {R : Ending → World → Prop} {k : List Item} {e : Env} {w w1 : World} {ops : Array Oper} {n0 : Nat}
def RT (P : Program) (f : FuncId) (n : Nat) (R : Ending → World → Prop) (k : List Item) (ops : Array Oper) (n0 : Nat) (w1 : World) (q : Nat) (e : Env) : Prop :=
  ∀ a : Act, a.defers = [] → Fits e n a.tmps → wpStill P ops w1 (fun a' => wpAny P .any ops (QQ P f R k) (ops.size - n0) (hd0 ops n0) a' w1) ((ops.toList.take n0).drop q) a
theorem headL_lex {Lq : Act → Prop} (hsel : Region.noSelect ops = true) (hs : Region.sinkB .any ops n0 = true) (hc : Region.chainB .any ops n0 = true) (hn : n0 < ops.size) :
    ∀ (l : List Oper) (k : Nat) (listed L0 : Array Bool) (a : Act), (∀ j, j < l.length → l[j]? = ops[k + j]?) → k + l.length = n0 → HeadInv .any ops n0 listed →
    headOk ops n0 l.length k listed = true → (List.range' k l.length).foldl (fun l i => l.setIfInBounds i true) listed = L0 → wpStill P ops w1 Lq l a →
    wpAnyL P .any ops w1 n0 (fun listed' a' => listed' = L0 ∧ (∀ j ∈ Region.ready .any ops listed', n0 ≤ j) ∧ Lq a') l.length listed a
  | [], k, listed, L0, a, _, hk, _, hB, hL, h => by
    refine ⟨hL, ?_, h⟩
    intro j hj
    have := List.all_eq_true.1 hB j hj
    simpa [Nat.ble_eq] using this
  | o :: l, k, listed, L0, a, hl, hk, inv, hB, hL, h => by
    have h0 : ops[k]? = some o := by simpa using (hl 0 (by simp)).symm
    simp only [List.length_cons, headOk, Bool.and_eq_true] at hB
    obtain ⟨⟨hr, hf⟩, hB'⟩ := hB
    have hkn : k < n0 := by simp only [List.length_cons] at hk; omega
    have hr' : k ∈ Region.ready .any ops listed := by simpa using hr
    have hst : stOp P ops w1 k (wpStill P ops w1 Lq l) a := by unfold stOp; simp only [h0]; exact h
    obtain ⟨v, hy, hK⟩ := yieldsAt_of_stOp h0 hst
    exact wpAnyL_first h0 (Region.noSelect_spec hsel) hs hc hn hkn (fun listed' a' hL => hL.2.1) l.length listed a inv (Region.free_spec h0 hf) hr' hy
      (headL_lex hsel hs hc hn l (k + 1) _ L0 _ (fun j hj => by have := hl (j + 1) (by simp; omega); simpa [Nat.add_assoc, Nat.add_comm 1 j] using this) (by simp only [List.length_cons] at hk; omega) (inv.set hr' hkn) hB' (by rw [← hL, List.length_cons, List.range'_succ]; rfl) hK)
theorem Rn.drawT {id : Nat} {Z0 S' : Nat → Prop} {w0 : World} {L : List Rs} (n0 : Nat) (hm' : P.follows .mixedOrders = true) (hm : Hp Z0 S' w0 w L) (hB : headB ops n0 = true)
    (h : ∀ w1, Hp Z0 S' w0 w1 L → RT P f n R k ops n0 w1 0 e) : Rn P f n R (.code (.region id ops true) :: k) e w := by
  intro b tm cs h1 h2 h3
  simp only [headB, Bool.and_eq_true] at hB
  obtain ⟨⟨⟨⟨hsel, hn⟩, hs⟩, hc⟩, hlex⟩ := hB
  have hn : n0 < ops.size := by simpa [Nat.blt_eq] using hn
  have h4 := h w.drew (hm.ext (Ext.drew w)) ⟨tm, []⟩ rfl h3
  rw [List.drop_zero] at h4
  have htl : (ops.toList.take n0).length = n0 := by simp; omega
  have inv0 : HeadInv .any ops n0 (Array.replicate ops.size false) :=
    ⟨by simp, fun j oj _ hl => (by rw [getD_replicate_false] at hl; cases hl), fun t _ ht => getD_in (by simpa using ht) (getD_replicate_false _ _)⟩
  have H := headL_lex hsel hs hc hn (ops.toList.take n0) 0 (Array.replicate ops.size false) (hd0 ops n0) ⟨tm, []⟩ (fun j hj => by
    have hj' : j < n0 := by rw [htl] at hj; exact hj
    simp [hj']) (by simpa using htl) inv0 (by rw [htl]; exact hlex) (by rw [htl, ← List.range_eq_range']; rfl) h4
  have H2 := wpAny_of_head (Q' := QQ P f R k) (g := ops.size - n0) (fun listed a' hL => by rw [hL.1]; exact hL.2.2) _ _ _ H
  rw [htl, show n0 + (ops.size - n0) = ops.size by omega] at H2
  have h5 := wp_region_any (id := id) hm' H2
  obtain ⟨x, a', w', ⟨rfl, hR⟩, harr⟩ := h5 b k cs
  obtain ⟨x, w2, fr, hR2, hc, q⟩ := hR b cs h1 h2
  exact ⟨x, w2, fr, hR2, Comes.of_steps harr hc, q⟩
theorem still_at {q : Nat} {o : Oper} (hq : Nat.blt q n0 = true) (ho : ops[q]? = some o) : (ops.toList.take n0).drop q = o :: (ops.toList.take n0).drop (q + 1) := by
  have hq : q < n0 := by simpa [Nat.blt_eq] using hq
  have hlt : q < ops.size := by obtain ⟨h, _⟩ := Array.getElem?_eq_some_iff.1 ho; exact h
  have hl : q < (ops.toList.take n0).length := by simp; omega
  rw [List.drop_eq_getElem_cons hl]
  congr 1
  have : (ops.toList.take n0)[q] = ops[q] := by simp
  rw [this]
  exact (Array.getElem?_eq_some_iff.1 ho).2
theorem RT.v {o : Oper} {v : Value} {d : Nat} (q : Nat) (hq : Nat.blt q n0 = true) (ho : ops[q]? = some o) (hg : gok e ops o.guard = true) (hd : o.dst = some d) (hn : Nat.blt d n = true) (hv : OpV P n e w1 o v w1)
    (h : RT P f n R k ops n0 w1 (q + 1) ((d, v) :: e)) : RT P f n R k ops n0 w1 q e := by
  intro a ha hf
  rw [still_at hq ho]
  refine wpStill_step fun K hK => ?_
  rw [if_pos (wanted_of_gok hf hg)]
  unfold Oper.still
  rw [hv a hf, Oper.stillUpon_value, hd]
  exact hK _ (h _ (by rw [defers_put]; exact ha) (fits_put hf hn v))
theorem RT.no {o : Oper} {d : Nat} (q : Nat) (hq : Nat.blt q n0 = true) (ho : ops[q]? = some o) (hg : gno e ops o.guard = true) (hd : o.dst = some d) (hn : Nat.blt d n = true)
    (h : RT P f n R k ops n0 w1 (q + 1) ((d, undef) :: e)) : RT P f n R k ops n0 w1 q e := by
  intro a ha hf
  rw [still_at hq ho]
  refine wpStill_step fun K hK => ?_
  rw [if_neg (by rw [wanted_of_gno hf hg]; simp), hd]
  exact hK _ (h _ (by rw [defers_put]; exact ha) (fits_put hf hn undef))
theorem RT.tail (h : RH P f n R k ops (fun _ => True) (ops.size - n0) (hd0 ops n0) e w1) : RT P f n R k ops n0 w1 n0 e := by
  intro a ha hf
  rw [List.drop_eq_nil_of_le (by simp; omega)]
  exact wpStill_nil (wpAny_of_held _ _ _ _ (h a ha hf trivial))
/-- A slot told otherwise. -/
theorem RT.say {t : Nat} {u : Value} {q : Nat} (v : Value) (hl : lk e t = some u) (hv : u = v) (h : RT P f n R k ops n0 w1 q ((t, v) :: e)) : RT P f n R k ops n0 w1 q e := by
  subst hv
  intro a ha hf
  exact h a ha (hf.sub (Sub.cons hl (Sub.refl e)))
theorem RT.part {t : Nat} {b : Bool} {q : Nat} (hl : lk e t = some (.bool b)) (ht : b = true → RT P f n R k ops n0 w1 q ((t, .bool true) :: e)) (hf : b = false → RT P f n R k ops n0 w1 q ((t, .bool false) :: e)) : RT P f n R k ops n0 w1 q e := by
  cases b
  · exact RT.say _ hl rfl (hf rfl)
  · exact RT.say _ hl rfl (ht rfl)
theorem RT.partD {t : Nat} {p : Prop} [Decidable p] {q : Nat} (hl : lk e t = some (.bool (decide p))) (ht : p → RT P f n R k ops n0 w1 q ((t, .bool true) :: e)) (hf : ¬ p → RT P f n R k ops n0 w1 q ((t, .bool false) :: e)) : RT P f n R k ops n0 w1 q e :=
  RT.part hl (fun h => ht (of_decide_eq_true h)) (fun h => hf (of_decide_eq_false h))
/- a head that reads and makes new memory, and a tail in order -/
def hdOps (ops : Array Oper) (n0 : Nat) : Array Oper := (ops.toList.take n0).toArray
theorem hdOps_get {i : Nat} (hn : n0 < ops.size) (h : i < n0) : (hdOps ops n0)[i]? = ops[i]? := by simp [hdOps, h]
theorem hdOps_size (hn : n0 < ops.size) : (hdOps ops n0).size = n0 := by simp [hdOps]; omega
/-- How far a head has come, in the head's own count and in the region's. -/
structure Far (ops : Array Oper) (n0 : Nat) (l l' : Array Bool) : Prop where
  s1 : l.size = ops.size
  s2 : l'.size = n0
  same : ∀ i, i < n0 → l[i]? = l'[i]?
  tail : ∀ t, n0 ≤ t → t < ops.size → l[t]? = some false
  closed : ∀ j oj, ops[j]? = some oj → l.getD j false = true → ∀ ed ∈ oj.after, Region.binds .any ed = true → l.getD ed.on false = true
theorem Far.ready {l l' : Array Bool} (hn : n0 < ops.size) (hd : (List.range n0).all (fun i => match ops[i]? with | some o => o.after.all fun ed => !Region.binds .any ed || Nat.blt ed.on i | none => false) = true) (F : Far ops n0 l l') {i : Nat} (hi : i < n0) :
    i ∈ Region.ready .any ops l ↔ i ∈ Region.ready .any (hdOps ops n0) l' := by
  have hdi := List.all_eq_true.1 hd i (List.mem_range.2 hi)
  have hg : ∀ (x : Nat) (b : Bool), x < n0 → l.getD x b = l'.getD x b := fun x b hx => by
    have := F.same x hx
    rw [Array.getD_eq_getD_getElem?, Array.getD_eq_getD_getElem?, this]
  constructor
  · intro h
    obtain ⟨h1, o, ho, h2⟩ := mem_ready.1 h
    refine mem_ready.2 ⟨by rw [← hg i _ hi]; exact h1, o, by rw [hdOps_get hn hi]; exact ho, fun ed hed hb => ?_⟩
    rw [ho] at hdi
    have := Array.all_eq_true_iff_forall_mem.1 hdi ed hed
    rw [hb] at this
    have hlt : ed.on < i := by simpa [Nat.blt_eq] using this
    rw [← hg _ _ (by omega)]; exact h2 ed hed hb
  · intro h
    obtain ⟨h1, o, ho, h2⟩ := mem_ready.1 h
    rw [hdOps_get hn hi] at ho
    refine mem_ready.2 ⟨by rw [hg i _ hi]; exact h1, o, ho, fun ed hed hb => ?_⟩
    rw [ho] at hdi
    have := Array.all_eq_true_iff_forall_mem.1 hdi ed hed
    rw [hb] at this
    have hlt : ed.on < i := by simpa [Nat.blt_eq] using this
    rw [hg _ _ (by omega)]; exact h2 ed hed hb
theorem Far.set {l l' : Array Bool} (F : Far ops n0 l l') {i : Nat} (hi : i < n0) (hr : i ∈ Region.ready .any ops l) : Far ops n0 (l.setIfInBounds i true) (l'.setIfInBounds i true) := by
  obtain ⟨_, oi, hoi, hall⟩ := mem_ready.1 hr
  refine ⟨by simp [F.s1], by simp [F.s2], fun j hj => ?_, fun t h1 h2 => ?_, fun j oj hj hl ed he hb => ?_⟩
  · have h := F.same j hj
    by_cases hij : i = j
    · subst hij
      have h1 := F.s1; have h2 := F.s2
      by_cases hlt : i < l.size
      · rw [Array.getElem?_setIfInBounds_self_of_lt hlt, Array.getElem?_setIfInBounds_self_of_lt (by omega)]
      · obtain ⟨hlt2, _⟩ := Array.getElem?_eq_some_iff.1 hoi; omega
    · rw [Array.getElem?_setIfInBounds_ne hij, Array.getElem?_setIfInBounds_ne hij]; exact h
  · rw [Array.getElem?_setIfInBounds_ne (by omega)]; exact F.tail t h1 h2
  · by_cases hij : i = j
    · subst hij
      have : oj = oi := Option.some.inj (hj.symm.trans hoi)
      subst this
      exact getD_set_true (hall ed he hb)
    · rw [getD_set_ne false hij] at hl
      exact getD_set_true (F.closed j oj hj hl ed he hb)
theorem Far.inv {l l' : Array Bool} (F : Far ops n0 l l') : HeadInv .any ops n0 l :=
  ⟨F.s1, F.closed, fun t h1 h2 => by rw [Array.getD_eq_getD_getElem?, F.tail t h1 h2]; rfl⟩
theorem Far.tailWaits {l l' : Array Bool} (hs : Region.sinkB .any ops n0 = true) (hc : Region.chainB .any ops n0 = true) (hn : n0 < ops.size) (F : Far ops n0 l l') {i : Nat} (hi : i < n0) (hun : l.getD i true = false) {j : Nat} (hj : n0 ≤ j) : j ∉ Region.ready .any ops l :=
  tail_waits hs hc hn F.inv _ i rfl hi hun j hj
theorem Far.all {l l' : Array Bool} (hn : n0 < ops.size) (hd : (List.range n0).all (fun i => match ops[i]? with | some o => o.after.all fun ed => !Region.binds .any ed || Nat.blt ed.on i | none => false) = true) (F : Far ops n0 l l') (h : Region.ready .any (hdOps ops n0) l' = []) : l = hd0 ops n0 := by
  have hl : ∀ i, i < n0 → l.getD i true = true := by
    intro i
    induction i using Nat.strongRecOn with
    | _ i ih =>
      intro hi
      cases hv : l.getD i true with
      | true => rfl
      | false =>
        exfalso
        have hdi := List.all_eq_true.1 hd i (List.mem_range.2 hi)
        have hlt : i < ops.size := by omega
        have ho : ops[i]? = some ops[i] := Array.getElem?_eq_getElem hlt
        rw [ho] at hdi
        have : i ∈ Region.ready .any ops l := mem_ready.2 ⟨hv, _, ho, fun ed hed hb => by
          have h1 := Array.all_eq_true_iff_forall_mem.1 hdi ed hed
          rw [hb] at h1
          have hlt2 : ed.on < i := by simpa [Nat.blt_eq] using h1
          have h2 := ih ed.on hlt2 (by omega)
          rw [Array.getD_eq_getD_getElem?] at h2 ⊢
          have h3 : ed.on < l.size := by have := F.s1; omega
          rw [Array.getElem?_eq_getElem h3] at h2 ⊢
          exact h2⟩
        rw [F.ready hn hd hi, h] at this
        cases this
  have hh : ∀ (m : Nat) (l0 : Array Bool), ((List.range m).foldl (fun l i => l.setIfInBounds i true) l0).size = l0.size := by
    intro m
    induction m with
    | zero => intro l0; rfl
    | succ m ih => intro l0; rw [List.range_succ, List.foldl_append]; simp [ih]
  have hg : ∀ (m : Nat) (l0 : Array Bool) (j : Nat), j < l0.size → ((List.range m).foldl (fun l i => l.setIfInBounds i true) l0)[j]? = if j < m then some true else l0[j]? := by
    intro m
    induction m with
    | zero => intro l0 j _; simp
    | succ m ih =>
      intro l0 j hj
      rw [List.range_succ, List.foldl_append]
      show (((List.range m).foldl (fun l i => l.setIfInBounds i true) l0).setIfInBounds m true)[j]? = _
      by_cases hmj : m = j
      · subst hmj
        rw [Array.getElem?_setIfInBounds_self_of_lt (by rw [hh]; exact hj), if_pos (by omega)]
      · rw [Array.getElem?_setIfInBounds_ne hmj, ih l0 j hj]
        by_cases h1 : j < m
        · rw [if_pos h1, if_pos (by omega)]
        · rw [if_neg h1, if_neg (by omega)]
  apply Array.ext_getElem?
  intro j
  unfold hd0
  by_cases hj : j < ops.size
  · rw [hg n0 _ j (by simpa using hj)]
    by_cases h1 : j < n0
    · rw [if_pos h1]
      have h2 := hl j h1
      have h3 : j < l.size := by have := F.s1; omega
      rw [Array.getD_eq_getD_getElem?, Array.getElem?_eq_getElem h3] at h2
      rw [Array.getElem?_eq_getElem h3]
      exact congrArg some h2
    · rw [if_neg h1, F.tail j (by omega) hj]; simp [hj]
  · rw [Array.getElem?_eq_none (by have := F.s1; omega), Array.getElem?_eq_none (by rw [hh]; simp; omega)]
theorem wpAny_more {Q : Exit → Act → World → Prop} : ∀ (g : Nat) (l : Array Bool) (a : Act) (w : World), wpAny P .any ops Q g l a w → wpAny P .any ops Q (g + 1) l a w
  | 0, l, a, w, h => ⟨fun _ => h.2, by rw [h.1]; simp⟩
  | g + 1, l, a, w, h => ⟨h.1, fun i hi => wpOp_mono (fun a' w' h' => wpAny_more g _ a' w' h') (h.2 i hi)⟩
theorem wpAny_add {Q : Exit → Act → World → Prop} : ∀ (m g : Nat) (l : Array Bool) (a : Act) (w : World), wpAny P .any ops Q g l a w → wpAny P .any ops Q (m + g) l a w
  | 0, g, l, a, w, h => by rw [Nat.zero_add]; exact h
  | m + 1, g, l, a, w, h => by rw [show m + 1 + g = (m + g) + 1 by omega]; exact wpAny_more _ _ _ _ (wpAny_add m g l a w h)
theorem wpOp_head {ops' : Array Oper} {Q : Exit → Act → World → Prop} {K : Act → World → Prop} {X Y : Act → World → Prop} {i : Nat} {a : Act} {w : World} (hi : ops'[i]? = ops[i]?) (hw : ∀ o, ops[i]? = some o → Region.wanted o (yielded ops' a.tmps) = Region.wanted o (yielded ops a.tmps))
    (hk : ∀ a w, X a w → Y a w) (h : wpOp P ops' (QK K) i X a w) : wpOp P ops Q i Y a w := by
  unfold wpOp at h ⊢
  rw [hi] at h
  split
  · rename_i hn; simp only [hn] at h; exact hk _ _ h
  · rename_i o ho
    simp only [ho] at h
    rw [hw o ho] at h
    split
    · rename_i hwd
      simp only [hwd, if_true] at h
      rcases h with h | ⟨_, a, w, h, _⟩
      · refine .inl ?_
        unfold Oper.wp at *
        generalize (execOp a.eval o).run P w = r at *
        cases r with
        | ok n w' =>
          cases n <;> simp only [Oper.upon] at h ⊢
          case value u => exact hk _ _ h
          case skip => exact hk _ _ h
          case defer d => exact hk _ _ h
          case enter f args =>
            refine Calls.mono h fun e w'' he => ?_
            cases e with
            | returned u => exact hk _ _ he
            | panicked c => cases he.1
            | outgrown => obtain ⟨_, _, h, _⟩ := he; cases h
          case row row args => exact Rows.mono h fun u w'' he => hk _ _ he
        | halt x w' =>
          cases x <;> simp only [Oper.upon] at h ⊢
          case panic u => cases h.1
      · cases h
    · rename_i hwd
      simp only [hwd] at h
      exact hk _ _ h
theorem headK_go {Q : Exit → Act → World → Prop} {K : Act → World → Prop} {S : World → Prop} (hn : n0 < ops.size) (hs : Region.sinkB .any ops n0 = true) (hc : Region.chainB .any ops n0 = true)
    (hd : (List.range n0).all (fun i => match ops[i]? with | some o => o.after.all fun ed => !Region.binds .any ed || Nat.blt ed.on i | none => false) = true)
    (hg : (List.range n0).all (fun i => match ops[i]? with | some o => (match o.guard with | some (j, _) => Nat.blt j n0 | none => true) | none => false) = true)
    (hK : ∀ a w, K a w → wpAny P .any ops Q (ops.size - n0) (hd0 ops n0) a w) :
    ∀ (fu : Nat) (l l' : Array Bool) (a : Act) (w : World), Far ops n0 l l' → wpAnyH P .any (hdOps ops n0) (QK K) S fu l' a w → wpAny P .any ops Q (fu + (ops.size - n0)) l a w := by
  intro fu
  induction fu with
  | zero =>
    intro l l' a w F h
    rw [Nat.zero_add, F.all hn hd h.1]
    exact hK a w h.2.2
  | succ fu ih =>
    intro l l' a w F h
    by_cases hr : Region.ready .any (hdOps ops n0) l' = []
    · rw [F.all hn hd hr]
      exact wpAny_add _ _ _ _ _ (hK a w (h.1 hr).2)
    · obtain ⟨i0, hi0⟩ : ∃ i0, i0 ∈ Region.ready .any (hdOps ops n0) l' := List.exists_mem_of_ne_nil _ hr
      have hi0n : i0 < n0 := by
        obtain ⟨_, o, ho, _⟩ := mem_ready.1 hi0
        obtain ⟨hlt, _⟩ := Array.getElem?_eq_some_iff.1 ho
        rw [hdOps_size hn] at hlt; exact hlt
      have hr0 := (F.ready hn hd hi0n).2 hi0
      have hun := (mem_ready.1 hr0).1
      rw [show fu + 1 + (ops.size - n0) = (fu + (ops.size - n0)) + 1 by omega]
      refine ⟨fun h0 => (by rw [h0] at hr0; cases hr0), fun i hi => ?_⟩
      have hin : i < n0 := by
        rcases Nat.lt_or_ge i n0 with h1 | h1
        · exact h1
        · exact absurd hi (F.tailWaits hs hc hn hi0n hun h1)
      have hi' := (F.ready hn hd hin).1 hi
      refine wpOp_head (hdOps_get hn hin) (fun o ho => ?_) (fun a' w' h3 => ih _ _ a' w' (F.set hin hi) h3.2) (h.2 i hi')
      have hgi := List.all_eq_true.1 hg i (List.mem_range.2 hin)
      rw [ho] at hgi
      dsimp only at hgi
      unfold Region.wanted
      cases hgd : o.guard with
      | none => rfl
      | some q =>
        obtain ⟨j, b⟩ := q
        rw [hgd] at hgi
        have hj : j < n0 := by simpa [Nat.blt_eq] using hgi
        have hy : yielded (hdOps ops n0) a.tmps j = yielded ops a.tmps j := by unfold yielded; rw [hdOps_get hn hj]
        simp only [hy]
def headKB (ops : Array Oper) (n0 : Nat) : Bool := Nat.blt n0 ops.size && Region.sinkB .any ops n0 && Region.chainB .any ops n0 &&
  ((List.range n0).all fun i => match ops[i]? with | some o => o.after.all fun ed => !Region.binds .any ed || Nat.blt ed.on i | none => false) &&
  ((List.range n0).all fun i => match ops[i]? with | some o => (match o.guard with | some (j, _) => Nat.blt j n0 | none => true) | none => false)
/-- The end of the head: the tail in order. -/
def KT (P : Program) (f : FuncId) (R : Ending → World → Prop) (k : List Item) (ops : Array Oper) (n0 : Nat) : Act → World → Prop := fun a w => wpAny P .any ops (QQ P f R k) (ops.size - n0) (hd0 ops n0) a w
theorem Rn.drawK {id : Nat} {Z0 S' : Nat → Prop} {w0 : World} {L : List Rs} (n0 : Nat) (hm' : P.follows .mixedOrders = true) (hm : Hp Z0 S' w0 w L) (hB : headKB ops n0 = true)
    (h : ∀ w1, Hp Z0 S' w0 w1 L → RG P n (KT P f R k ops n0) (hdOps ops n0) (fun w' => Ext w1 w') n0 (Array.replicate n0 false) e w1) : Rn P f n R (.code (.region id ops true) :: k) e w := by
  intro b tm cs h1 h2 h3
  simp only [headKB, Bool.and_eq_true] at hB
  obtain ⟨⟨⟨⟨hn, hs⟩, hc⟩, hd⟩, hg⟩ := hB
  have hn : n0 < ops.size := by simpa [Nat.blt_eq] using hn
  have h4 := h w.drew (hm.ext (Ext.drew w)) ⟨tm, []⟩ rfl h3 (Ext.refl _)
  have F : Far ops n0 (Array.replicate ops.size false) (Array.replicate n0 false) := by
    refine ⟨by simp, by simp, fun i hi => ?_, fun t _ ht => ?_, fun j oj _ hl => (by rw [getD_replicate_false] at hl; cases hl)⟩
    · have : i < ops.size := by omega
      simp [hi, this]
    · simp [ht]
  have H := headK_go (Q := QQ P f R k) hn hs hc hd hg (fun a w hK => hK) n0 _ _ _ _ F h4
  rw [show n0 + (ops.size - n0) = ops.size by omega] at H
  have h5 := wp_region_any (id := id) hm' H
  obtain ⟨x, a', w', ⟨rfl, hR⟩, harr⟩ := h5 b k cs
  obtain ⟨x, w2, fr, hR2, hc, q⟩ := hR b cs h1 h2
  exact ⟨x, w2, fr, hR2, Comes.of_steps harr hc, q⟩
theorem RG.tailK {S : World → Prop} {fuel : Nat} {listed : Array Bool} (hr : Region.ready .any (hdOps ops n0) listed = []) (h : RH P f n R k ops (fun _ => True) (ops.size - n0) (hd0 ops n0) e w) : RG P n (KT P f R k ops n0) (hdOps ops n0) S fuel listed e w := by
  intro a ha hf hS
  exact wpAnyH_done hr ⟨rfl, wpAny_of_held _ _ _ _ (h a ha hf trivial)⟩ fuel
end
end Go.Wk
