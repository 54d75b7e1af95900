/-
  The walk by places: the sorted keys of a map, over the shelf's contract. Plain laws over any program.
-/
import Derived.Test.YtlfppodekihcmaaGreatDoorWu
import Derived.Sort.KeysCollected
import Derived.Maps.Own
import Derived.Shelf.SlIter.Nil
set_option linter.unusedVariables false
set_option linter.unusedSimpArgs false
namespace Go.Wk
open Go Go.RowKit
open Go.Proofs (encStr)
section
variable {α : Type}
variable {P : Program} {tv : List Value → Value} {rep : Rep α} {Z : Nat → Prop} {w w1 : World} {b c : Nat} {ms : Ms} {ps : Kv α} {kt : TypeId}
theorem key_str (hk : P.underlying kt = some .string) (k : List UInt8) (h : k.length ≤ 1000000) : keyOf P kt (Str k) = some (.string k) := by
  have : k.length ≤ maxLen := by unfold maxLen; omega
  have h2 : (⟨k.toArray⟩ : ByteArray).size ≤ maxLen := by simpa [ByteArray.size] using this
  simp [keyOf, hk, mapKey, h2]
theorem own_map (hk : P.underlying kt = some .string) {ks : List (List UInt8)} (hmp : Mp w b ms c) (hborn : ∀ p ∈ ms, p.2.2 < c) (hbnd : (ms.map (·.2.2)).Nodup) (hkeys : (ms.map (·.1)).Nodup) (hnm : ms.map (·.1) = ks) (hl : ∀ k ∈ ks, k.length ≤ 1000000) (hn : ks.length ≤ 1000000) :
    ∃ D0 : DataW Unit, w.ownsMap P kt (fun _ => some (.nil, [])) b ks.length D0 ∧ Go.Maps.size D0 ≤ 1000000 ∧ (strKeys D0).Perm ks := by
  have hlen : ms.length = ks.length := by rw [← hnm, List.length_map]
  have hrd : ∀ p ∈ ms, Go.WideElems.rd P kt (fun _ => some ((.nil : DataW Unit), [])) (ent p) = some (.string p.1, .nil) := fun p hp => by
    have hk2 : p.1 ∈ ks := by rw [← hnm]; exact List.mem_map_of_mem hp
    have := key_str hk p.1 (hl _ hk2)
    simp [Go.WideElems.rd, ent, this]
  refine ⟨_, ⟨(ms.map ent).toArray, c, hmp, ⟨by simp [maxLen]; omega, ?_, ?_⟩, by simp; omega, rfl⟩, ?_, ?_⟩
  · rw [Go.MapKept.stamped_iff]
    refine ⟨fun x hx => ?_, ?_, ?_⟩
    · simp at hx; obtain ⟨a, b', c', hp, rfl⟩ := hx; exact hborn _ hp
    · simpa [Function.comp_def, ent] using hbnd
    · simp only [List.toList_toArray, List.pairwise_map]
      have := hkeys
      rw [List.Nodup, List.pairwise_map] at this
      exact this.imp fun hne hh => hne (by simpa [ent, Str] using hh)
  · intro x hx
    simp at hx; obtain ⟨a, b', c', hp, rfl⟩ := hx
    exact ⟨_, hrd _ hp⟩
  · simp only [Go.Maps.size]
    have := (Go.WideShapes.sorted_perm (((ms.map ent).toArray.toList).map (Go.WideElems.rg P kt (fun _ => some ((.nil : DataW Unit), []))))).length_eq
    simp at this ⊢
    omega
  · simp only [strKeys]
    refine ((Go.WideShapes.sorted_perm _).map _).trans ?_
    simp only [List.toList_toArray, List.map_map, Function.comp_def]
    have : (ms.map fun p => strOf (Go.WideElems.rg P kt (fun _ => some ((.nil : DataW Unit), [])) (ent p)).1) = ms.map (·.1) := List.map_congr_left fun p hp => by rw [Go.WideElems.rg_of (hrd p hp)]; rfl
    rw [this, hnm]
theorem flat_str : ∀ ss : List (List UInt8), ss.map encStr = (ss.map fun s => [Str s]).flatten
  | [] => rfl
  | s :: r => by rw [List.map_cons, List.map_cons, List.flatten_cons, ← flat_str r]; rfl
theorem own_row {base e n : Nat} {v : Value} {ss : List (List UInt8)} (hn : n = ss.length) (h : w.ownsRow base e 1 v n (ss.map encStr)) : ∃ A c, v = .slice A ss.length c ∧ Own base No w e A c textR ss := by
  subst hn
  obtain ⟨_, h⟩ := h
  rcases h with ⟨rfl, h0⟩ | ⟨g, cap, cur, rfl, hb, hg, h1, h2, h3, h4⟩
  · obtain rfl := List.length_eq_zero_iff.1 h0
    exact ⟨none, 0, rfl, Own.nil _ _ _ _ _⟩
  · refine ⟨_, cap, rfl, h1, h2, .inr ⟨g, cur.toList, ss.map fun s => [Str s], rfl, hb, by unfold Blk; simpa using hg, ?_, by simp, fun k vs x hv hx => ?_, ?_⟩⟩
    · show cap * 1 ≤ _; rw [Array.length_toList]; omega
    · rw [List.getElem?_map, hx] at hv; cases hv; exact ⟨rfl, trivial⟩
    · show cur.toList.take (ss.length * 1) = _
      rw [h4]
      exact flat_str ss
theorem sorted_keysO {cS g M : Nat} (hk : P.underlying kt = some .string)
    (hS : ∀ (b nn : Nat) (D0 : DataW Unit) (R : Value → Option (DataW Unit × List MemPlace)) (w : World), w.ownsMap P kt R b nn D0 → Go.Maps.size D0 ≤ maxLen → Go.Maps.size D0 * 16 ≤ 140737488355328 →
      CallsIn Fence.wide 5 P cS #[.func (.func g) #[] #[.pointer (some ⟨w.heap.size, 0, none⟩)]] (w.alloc (.cells #[.map (some b)] M)) fun e w' => ∃ (v : Value) (ss : List (List UInt8)), e = .returned v ∧ ss.Perm (strKeys D0) ∧
        w'.ownsRow (w.alloc (.cells #[.map (some b)] M)).heap.size kt 1 v ss.length ((ss.mergeSort (fun x y => decide (x ≤ y))).map encStr) ∧ (v = .slice none 0 0 ↔ ss = []) ∧ Below (w.alloc (.cells #[.map (some b)] M)).heap.size (w.alloc (.cells #[.map (some b)] M)) w')
    (hw : w1 = w.alloc (.cells #[.map (some b)] M)) {ks : List (List UInt8)} (hmp : Mp w b ms c) (hborn : ∀ p ∈ ms, p.2.2 < c) (hbnd : (ms.map (·.2.2)).Nodup) (hkeys : (ms.map (·.1)).Nodup) (hnm : ms.map (·.1) = ks) (hl : ∀ k ∈ ks, k.length ≤ 1000000) (hn : ks.length ≤ 1000000) :
    Calls P cS #[.func (.func g) #[] #[.pointer (some ⟨w.heap.size, 0, none⟩)]] w1 fun x w' => ∃ A c, x = .returned (.slice A (ks.mergeSort leK).length c) ∧ Own w1.heap.size No w' kt A c textR (ks.mergeSort leK) ∧ Ext w1 w' := by
  obtain ⟨D0, h1, h2, h3⟩ := own_map hk hmp hborn hbnd hkeys hnm hl hn
  subst hw
  refine (callsIn_wide.1 (hS b _ D0 _ w h1 (by unfold maxLen; omega) (by omega))).mono ?_
  rintro x w' ⟨v, ss, rfl, hp, hrow, _, hB⟩
  have hss : ss.mergeSort (fun x y => decide (x ≤ y)) = ks.mergeSort leK := mergeSort_of_perm (hp.trans h3)
  rw [hss] at hrow
  have hlen : ss.length = (ks.mergeSort leK).length := by rw [← hss, List.length_mergeSort]
  obtain ⟨A, c', rfl, ho⟩ := own_row hlen hrow
  exact ⟨A, c', rfl, ho, Ext.of_below hB⟩
theorem sorted_keys {cS g M : Nat} (hk : P.underlying kt = some .string)
    (hS : ∀ (b nn : Nat) (D0 : DataW Unit) (R : Value → Option (DataW Unit × List MemPlace)) (w : World), w.ownsMap P kt R b nn D0 → Go.Maps.size D0 ≤ maxLen → Go.Maps.size D0 * 16 ≤ 140737488355328 →
      CallsIn Fence.wide 5 P cS #[.func (.func g) #[] #[.pointer (some ⟨w.heap.size, 0, none⟩)]] (w.alloc (.cells #[.map (some b)] M)) fun e w' => ∃ (v : Value) (ss : List (List UInt8)), e = .returned v ∧ ss.Perm (strKeys D0) ∧
        w'.ownsRow (w.alloc (.cells #[.map (some b)] M)).heap.size kt 1 v ss.length ((ss.mergeSort (fun x y => decide (x ≤ y))).map encStr) ∧ (v = .slice none 0 0 ↔ ss = []) ∧ Below (w.alloc (.cells #[.map (some b)] M)).heap.size (w.alloc (.cells #[.map (some b)] M)) w')
    (hw : w1 = w.alloc (.cells #[.map (some b)] M)) (h : (mapR b tv rep ps).H Z w) {ks : List (List UInt8)} (hg : keysG ps = some ks) :
    Calls P cS #[.func (.func g) #[] #[.pointer (some ⟨w.heap.size, 0, none⟩)]] w1 fun x w' => ∃ A c, x = .returned (.slice A ks.length c) ∧ Hp All No w1 w' [ownR kt A c textR ks] := by
  obtain ⟨hl, hn, rfl⟩ := keysGE hg
  obtain ⟨ms, c, h⟩ := h
  refine (sorted_keysO hk hS hw h.mp h.born h.bnd h.keys h.rp.names hl (by simpa using hn)).mono ?_
  rintro x w' ⟨A, c', rfl, ho, hE⟩
  refine ⟨A, c', rfl, ?_⟩
  have h0 := (Hp.nil All No w1).add (ownR kt A c' textR (sortK ps)) hE (fun x hx => (ho.base x hx).1) fun Z' _ => by
    have h' : Own _ Z' w' kt A c' textR (sortK ps) := Own.flat text_flat ho
    exact ⟨h'.1, h'.2.1, h'.2.2.imp id fun ⟨g, cs, vss, h1, _, h2⟩ => ⟨g, cs, vss, h1, Nat.zero_le _, h2⟩⟩
  exact h0
end
end Go.Wk
