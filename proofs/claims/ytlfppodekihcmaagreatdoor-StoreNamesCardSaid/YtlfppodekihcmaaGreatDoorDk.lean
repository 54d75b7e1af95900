/-
  The program's disk as one thing among those that lie apart. Plain laws over any program.
-/
import Derived.Test.YtlfppodekihcmaaGreatDoorPd
import Derived.Test.YtlfppodekihcmaaGreatDoorWt
set_option linter.unusedVariables false
set_option linter.unusedSimpArgs false
namespace Go.Wk
open Go Go.RowKit
section
variable {td tf tb : TypeId} {w w' : World} {b mb : Nat} {ms : Ms} {ck : Nat} {bss : List (List Nat)} {F : Nat → Prop} {s : PD}
theorem FileAt.keep {v : Value} {f : PF} {bs : List Nat} (h : FileAt tf tb w v f bs) (hk : ∀ x ∈ bs, x < w.heap.size → w'.heap[x]? = w.heap[x]?) : FileAt tf tb w' v f bs := by
  obtain ⟨fb, A, c, h1, h2, h3, rfl⟩ := h
  refine ⟨fb, A, c, h1, ?_, (ownR tb A c byteR f.data).keep (Z := No) (Z' := No) h3 (fun x hx hlt => hk x (List.mem_cons_of_mem _ (mem_obL.2 hx)) hlt) (fun _ h => h.elim) (fun _ h => h.elim), rfl⟩
  have := hk fb (by simp) h2.lt
  unfold Blk at h2 ⊢; rw [this]; exact h2
theorem FilesAt.keep : ∀ {ms : Ms} {fs : Fl} {bss : List (List Nat)}, FilesAt tf tb w ms fs bss → (∀ x ∈ bss.flatten, x < w.heap.size → w'.heap[x]? = w.heap[x]?) → FilesAt tf tb w' ms fs bss
  | [], [], [], _, _ => trivial
  | _ :: _, _ :: _, _ :: _, ⟨h1, h2, h3⟩, hn => ⟨h1, h2.keep fun x hx => hn x (by simp [hx]), FilesAt.keep h3 fun x hx => hn x (by rw [List.flatten_cons]; exact List.mem_append_right _ hx)⟩
  | _ :: _, [], _, h, _ | _ :: _, _ :: _, [], h, _ | [], _ :: _, _, h, _ | [], [], _ :: _, h, _ => by simp [FilesAt] at h
theorem DkAt.keep (h : DkAt td tf tb w b F s) (hk : ∀ x, F x → x < w.heap.size → w'.heap[x]? = w.heap[x]?) : DkAt td tf tb w' b F s := by
  obtain ⟨mb, ms, ck, bss, h⟩ := h
  have hb := h.sub b (by simp)
  have hmb := h.sub mb (by simp)
  refine ⟨mb, ms, ck, bss, ?_, ?_, h.files.keep fun x hx => hk x (h.sub x (List.mem_cons_of_mem _ (List.mem_cons_of_mem _ hx))), h.nd, h.born, h.bnd, h.keys, h.sub, fun x hx => ?_⟩
  · have h2 := h.blk
    have := hk b hb h2.lt
    unfold Blk at h2 ⊢; rw [this]; exact h2
  · have h2 := h.map
    have := hk mb hmb h2.lt
    unfold Mp at h2 ⊢; rw [this]; exact h2
  · have h1 := h.lt x hx
    have h2 := hk x hx h1
    rw [Array.getElem?_eq_getElem h1] at h2
    exact (Array.getElem?_eq_some_iff.1 h2).1
/-- The disk; F: all of its blocks. -/
def diskO (td tf tb : TypeId) (F : Nat → Prop) (b : Nat) (s : PD) : Rs where
  F := F
  H := fun _ w => DkAt td tf tb w b F s
  keep := fun h hF _ _ => h.keep hF
  lt := fun ⟨_, _, _, _, h⟩ x hx => h.lt x hx
theorem diskO_flat (td tf tb : TypeId) (F : Nat → Prop) (b : Nat) (s : PD) : (diskO td tf tb F b s).Flat := fun _ _ _ h => h
end
section
variable {Z0 : Nat → Prop} {w w' : World} {r r' : Rs} {L : List Rs}
/-- A call that turns the first thing that was lent, and none of the others has blocks. -/
theorem Lent.turn1 (hL : Lent Z0 w (r :: L)) (hx : Fr r.F w w') (hF : ∀ x, r'.F x → r.F x ∨ w.heap.size ≤ x) (hH : ∀ Z, r'.H Z w') : Hp Z0 (LS (r :: L)) w w' [r'] := by
  have h0 := hL.start.pick [0] rfl (by decide)
  have h1 : Hp Z0 (LS (r :: L)) w w [r] := h0
  have h2 := h1.upd 0 r' rfl hx hF fun Z _ _ => hH Z
  exact h2
theorem Lent.sub1 (hL : Lent Z0 w (r :: L)) {a : Rs} (i : Nat) (hi : L[i]? = some a) : a.H (Zo Z0 (LS (r :: L)) w (r :: L)) w := hL.1 (i + 1) a (by simpa using hi)
end
section
variable {α β : Type} {rep : Rep α} {Z0 S : Nat → Prop} {w0 w w' : World} {L : List Rs}
theorem Hp.addOwn {et : TypeId} {A : Option Addr} {c : Nat} {xs : List α} (hm : Hp Z0 S w0 w L) (hE : Ext w w') (h : Own w.heap.size No w' et A c rep xs) (hf : rep.Flat) : Hp Z0 S w0 w' (L ++ [ownR et A c rep xs]) :=
  hm.add _ hE (fun x hx => (h.base x hx).1) fun Z _ => by
    have h' : Own w.heap.size Z w' et A c rep xs := Own.flat hf h
    exact ⟨h'.1, h'.2.1, h'.2.2.imp id fun ⟨g, cs, vss, h1, _, h2⟩ => ⟨g, cs, vss, h1, Nat.zero_le _, h2⟩⟩
theorem sl_map {D : Nat → Prop} {A : Option Addr} {rep : Rep α} {g : β → α} {xs : List β} (h : Sl D w A (Rep.map g rep) xs) : Sl D w A rep (xs.map g) := fun hne => by
  have hne' : xs ≠ [] := fun h => hne (by rw [h]; rfl)
  obtain ⟨b, o, h1, h2, h3⟩ := h hne'
  refine ⟨b, o, h1, h2, fun k x hx => ?_⟩
  rw [List.getElem?_map] at hx
  cases hk : xs[k]? with
  | none => rw [hk] at hx; cases hx
  | some y => rw [hk] at hx; cases hx; exact h3 k y hk
end
end Go.Wk
