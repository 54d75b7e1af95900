/-
  The walk by places: memory. What a slice, a struct, a variable of the call's own holds, and what stays of it. Plain laws over any program.
-/
import Derived.Test.YtlfppodekihcmaaGreatDoorWb
set_option linter.unusedVariables false
set_option linter.unusedSimpArgs false
namespace Go.Wk
open Go Go.RowKit

/-- All blocks but those of S are as they were. -/
structure Fr (S : Nat → Prop) (w w' : World) : Prop where
  os : w'.os = w.os
  tape : w'.tape = w.tape
  output : w'.output = w.output
  size : w.heap.size ≤ w'.heap.size
  keep : ∀ b, b < w.heap.size → ¬ S b → w'.heap[b]? = w.heap[b]?
/-- Nothing that was there has turned. -/
abbrev Ext (w w' : World) : Prop := Fr (fun _ => False) w w'
theorem Fr.refl (S : Nat → Prop) (w : World) : Fr S w w := ⟨rfl, rfl, rfl, Nat.le_refl _, fun _ _ _ => rfl⟩
theorem Fr.mono {S T : Nat → Prop} {w w' : World} (h : Fr S w w') (hs : ∀ b, S b → T b) : Fr T w w' := ⟨h.os, h.tape, h.output, h.size, fun b hb hn => h.keep b hb (fun hh => hn (hs b hh))⟩
theorem Fr.trans {S : Nat → Prop} {a b c : World} (h : Fr S a b) (g : Fr S b c) : Fr S a c :=
  ⟨g.os.trans h.os, g.tape.trans h.tape, g.output.trans h.output, Nat.le_trans h.size g.size, fun i hi hn => (g.keep i (Nat.lt_of_lt_of_le hi h.size) hn).trans (h.keep i hi hn)⟩
/-- What turned later lies among S, or wasn't there at first. -/
theorem Fr.trans' {S T : Nat → Prop} {a b c : World} (h : Fr S a b) (g : Fr T b c) (ht : ∀ x, T x → S x ∨ a.heap.size ≤ x) : Fr S a c :=
  ⟨g.os.trans h.os, g.tape.trans h.tape, g.output.trans h.output, Nat.le_trans h.size g.size, fun i hi hn => (g.keep i (Nat.lt_of_lt_of_le hi h.size) (fun hh => by
    rcases ht i hh with h1 | h1
    · exact hn h1
    · omega)).trans (h.keep i hi hn)⟩
theorem Ext.fr {S : Nat → Prop} {w w' : World} (h : Ext w w') : Fr S w w' := h.mono fun _ hh => hh.elim
theorem Ext.refl (w : World) : Ext w w := Fr.refl _ w
theorem Ext.alloc (w : World) (o : Obj) : Ext w (w.alloc o) := ⟨rfl, rfl, rfl, by simp, fun b hb _ => Below.heap_alloc w o b hb⟩
theorem Ext.drew (w : World) : Ext w w.drew := ⟨rfl, rfl, rfl, Nat.le_refl _, fun _ _ _ => rfl⟩
theorem Ext.below {w w' : World} (h : Ext w w') : Below w.heap.size w w' := ⟨h.os, h.tape, h.output, h.size, fun b hb => h.keep b hb (fun hh => hh)⟩
theorem Ext.of_below {w w' : World} (h : Below w.heap.size w w') : Ext w w' := ⟨h.os, h.tape, h.output, h.size, fun b hb _ => h.block b hb⟩
theorem Fr.of_grown {w w' : World} {r : Option Nat} (h : w.grownBy w' r) : Fr (fun b => r = some b) w w' := ⟨h.os, h.tape, h.output, h.size, fun b hb hn => h.block b hb (fun hh => hn hh.symm)⟩
theorem Fr.setCell (w : World) (a : Addr) (v : Value) : Fr (fun b => b = a.block) w (w.setCell a v) := ⟨rfl, rfl, rfl, by simp, fun b _ hn => Below.heap_setCell w a v b hn⟩

/-- A block of the call's own, known whole. -/
def Blk (w : World) (b : Nat) (t : TypeId) (cs : List Value) : Prop := w.heap[b]? = some (.cells cs.toArray t (0, 0))
theorem Blk.lt {w : World} {b : Nat} {t : TypeId} {cs : List Value} (h : Blk w b t cs) : b < w.heap.size := by
  rcases Nat.lt_or_ge b w.heap.size with hlt | hge
  · exact hlt
  · unfold Blk at h; rw [Array.getElem?_eq_none hge] at h; cases h
theorem Blk.fr {S : Nat → Prop} {w w' : World} {b : Nat} {t : TypeId} {cs : List Value} (h : Blk w b t cs) (hf : Fr S w w') (hn : ¬ S b) : Blk w' b t cs := (hf.keep b h.lt hn).trans h
theorem Blk.ext {w w' : World} {b : Nat} {t : TypeId} {cs : List Value} (h : Blk w b t cs) (hf : Ext w w') : Blk w' b t cs := h.fr hf (fun hh => hh)
theorem Blk.cell {w : World} {b : Nat} {t : TypeId} {cs : List Value} (h : Blk w b t cs) (o : Nat) : w.cell? ⟨b, o, none⟩ = cs[o]? := by
  unfold Blk at h
  simp [World.cell?, h]
theorem Blk.frozen {w : World} {b : Nat} {t : TypeId} {cs : List Value} (h : Blk w b t cs) (o : Nat) : w.frozen? ⟨b, o, none⟩ = false := by
  unfold Blk at h
  simp [World.frozen?, h]
theorem Blk.new (w : World) (t : TypeId) (cs : List Value) : Blk (w.alloc (.cells cs.toArray t)) w.heap.size t cs := heap_alloc_new w _
theorem Blk.ne {w : World} {b b' : Nat} {t t' : TypeId} {cs cs' : List Value} (h : Blk w b t cs) (h' : Blk w b' t' cs') (hne : t ≠ t') : b ≠ b' := by
  rintro rfl
  unfold Blk at h h'
  rw [h] at h'
  injection h' with h'
  injection h' with _ ht
  exact hne ht

/-- Cells in a row hold these. -/
def Rd (w : World) (b o : Nat) (vs : List Value) : Prop := ∀ j v, vs[j]? = some v → w.cell? ⟨b, o + j, none⟩ = some v
theorem Rd.keep {w w' : World} {b o : Nat} {vs : List Value} (h : Rd w b o vs) (hk : b < w.heap.size → w'.heap[b]? = w.heap[b]?) : Rd w' b o vs := by
  intro j v hv
  have hc := h j v hv
  have hlt := World.block_lt_of_cell? w _ hc
  rw [World.cell?_of_block (w := w) (hk hlt)]
  exact hc
theorem Rd.fr {S : Nat → Prop} {w w' : World} {b o : Nat} {vs : List Value} (h : Rd w b o vs) (hf : Fr S w w') (hn : ¬ S b) : Rd w' b o vs := h.keep fun hb => hf.keep b hb hn
theorem Rd.ext {w w' : World} {b o : Nat} {vs : List Value} (h : Rd w b o vs) (hf : Ext w w') : Rd w' b o vs := h.fr hf fun hh => hh
theorem Blk.rd {w : World} {b : Nat} {t : TypeId} {cs : List Value} (h : Blk w b t cs) : Rd w b 0 cs := fun j v hv => by rw [Nat.zero_add, h.cell]; exact hv

/-- How data of a type lie in cells. -/
structure Rep (α : Type) where
  sz : Nat
  rel : (Nat → Prop) → World → List Value → α → Prop
  len : ∀ {D w vs x}, rel D w vs x → vs.length = sz
  one : ∀ {D w vs x}, rel D w vs x → ∀ u ∈ vs, u.oneCell' = true
  keep : ∀ {D w w' vs x}, rel D w vs x → (∀ b, D b → b < w.heap.size → w'.heap[b]? = w.heap[b]?) → rel D w' vs x
  mono : ∀ {D D' w vs x}, rel D w vs x → (∀ b, D b → D' b) → rel D' w vs x
  pos : 0 < sz
  bd : ∀ {D w vs x}, rel D w vs x → rel (fun b => D b ∧ b < w.heap.size) w vs x
section
variable {α : Type} {rep : Rep α} {D D' : Nat → Prop} {w w' : World}
theorem Rep.fr {S : Nat → Prop} {vs : List Value} {x : α} (h : rep.rel D w vs x) (hf : Fr S w w') (hn : ∀ b, D b → ¬ S b) : rep.rel D w' vs x := rep.keep h fun b hb hlt => hf.keep b hlt (hn b hb)
theorem Rep.ext {vs : List Value} {x : α} (h : rep.rel D w vs x) (hf : Ext w w') : rep.rel D w' vs x := Rep.fr h hf fun _ _ hh => hh

/-- Data without memory. -/
def Rep.flat (sz : Nat) (enc : α → List Value) (ok : α → Prop) (hl : ∀ x, (enc x).length = sz) (h1 : ∀ x, ∀ u ∈ enc x, u.oneCell' = true) (hp : 0 < sz) : Rep α where
  sz := sz
  rel := fun _ _ vs x => vs = enc x ∧ ok x
  len := fun ⟨h, _⟩ => by rw [h]; exact hl _
  one := fun ⟨h, _⟩ => by rw [h]; exact h1 _
  keep := fun h _ => h
  mono := fun h _ => h
  pos := hp
  bd := fun h => h

/-- A slice's elements. -/
def Sl (D : Nat → Prop) (w : World) (A : Option Addr) (rep : Rep α) (xs : List α) : Prop :=
  xs ≠ [] → ∃ b o, A = some ⟨b, o, none⟩ ∧ D b ∧ ∀ k x, xs[k]? = some x → ∃ vs, Rd w b (o + k * rep.sz) vs ∧ rep.rel D w vs x
theorem Sl.nil (D : Nat → Prop) (w : World) (A : Option Addr) (rep : Rep α) : Sl D w A rep [] := fun h => (h rfl).elim
theorem Sl.keep {A : Option Addr} {xs : List α} (h : Sl D w A rep xs) (hk : ∀ b, D b → b < w.heap.size → w'.heap[b]? = w.heap[b]?) : Sl D w' A rep xs := fun hne => by
  obtain ⟨b, o, hA, hD, he⟩ := h hne
  exact ⟨b, o, hA, hD, fun k x hx => let ⟨vs, h1, h2⟩ := he k x hx; ⟨vs, h1.keep (hk b hD), rep.keep h2 hk⟩⟩
theorem Sl.mono {A : Option Addr} {xs : List α} (h : Sl D w A rep xs) (hd : ∀ b, D b → D' b) : Sl D' w A rep xs := fun hne => by
  obtain ⟨b, o, hA, hD, he⟩ := h hne
  exact ⟨b, o, hA, hd b hD, fun k x hx => let ⟨vs, h1, h2⟩ := he k x hx; ⟨vs, h1, rep.mono h2 hd⟩⟩
/-- Where a slice lies, there is memory. -/
theorem Sl.bd {A : Option Addr} {xs : List α} (h : Sl D w A rep xs) : Sl (fun b => D b ∧ b < w.heap.size) w A rep xs := fun hne => by
  obtain ⟨b, o, hA, hD, he⟩ := h hne
  refine ⟨b, o, hA, ⟨hD, ?_⟩, fun k x hx => let ⟨vs, h1, h2⟩ := he k x hx; ⟨vs, h1, rep.bd h2⟩⟩
  cases xs with
  | nil => exact (hne rfl).elim
  | cons x r =>
    obtain ⟨vs, h1, h2⟩ := he 0 x rfl
    cases vs with
    | nil => exact absurd (rep.len h2) (by have := rep.pos; simp only [List.length_nil]; omega)
    | cons v t => exact World.block_lt_of_cell? w _ (h1 0 v rfl)
theorem Sl.fr {S : Nat → Prop} {A : Option Addr} {xs : List α} (h : Sl D w A rep xs) (hf : Fr S w w') (hn : ∀ b, D b → ¬ S b) : Sl D w' A rep xs := h.keep fun b hb hlt => hf.keep b hlt (hn b hb)
theorem Sl.ext {A : Option Addr} {xs : List α} (h : Sl D w A rep xs) (hf : Ext w w') : Sl D w' A rep xs := h.fr hf fun _ _ hh => hh
theorem Sl.get {A : Option Addr} {xs : List α} (h : Sl D w A rep xs) {k : Nat} {x : α} (hx : xs[k]? = some x) : ∃ b o vs, A = some ⟨b, o, none⟩ ∧ D b ∧ Rd w b (o + k * rep.sz) vs ∧ rep.rel D w vs x := by
  obtain ⟨b, o, hA, hD, he⟩ := h (by rintro rfl; simp at hx)
  obtain ⟨vs, h1, h2⟩ := he k x hx
  exact ⟨b, o, vs, hA, hD, h1, h2⟩
theorem Addr.add_none (b o m : Nat) : (⟨b, o, none⟩ : Addr).add m = ⟨b, o + m, none⟩ := Addr.add_lit b o m
/-- A cut of a slice. -/
theorem Sl.cut {A : Option Addr} {xs : List α} (h : Sl D w A rep xs) (p q : Nat) {c : Nat} (hq : q ≤ xs.length) (hc : q ≤ c) : Sl D w (if c = p then A else A.map (·.add (p * rep.sz))) rep ((xs.take q).drop p) := fun hne => by
  obtain ⟨b, o, rfl, hD, he⟩ := h (by rintro rfl; simp at hne)
  have hpq : p < q := by
    rcases Nat.lt_or_ge p q with hh | hh
    · exact hh
    · exact (hne (by rw [List.drop_eq_nil_iff, List.length_take]; omega)).elim
  rw [if_neg (by omega)]
  refine ⟨b, o + p * rep.sz, by simp [Addr.add_none], hD, fun k x hx => ?_⟩
  have hx' : xs[p + k]? = some x := by
    rw [List.getElem?_drop, List.getElem?_take] at hx
    split at hx
    · exact hx
    · cases hx
  obtain ⟨vs, h1, h2⟩ := he _ x hx'
  refine ⟨vs, ?_, h2⟩
  have : o + p * rep.sz + k * rep.sz = o + (p + k) * rep.sz := by rw [Nat.add_mul]; omega
  rw [this]; exact h1

/-- A slice in a cell. -/
def Rep.sl (rep : Rep α) : Rep (List α) where
  sz := 1
  rel := fun D w vs xs => ∃ A c, vs = [.slice A xs.length c] ∧ xs.length ≤ c ∧ c ≤ maxLen ∧ Sl D w A rep xs
  len := fun ⟨_, _, h, _⟩ => by rw [h]; rfl
  one := fun ⟨_, _, h, _⟩ => by rw [h]; simp [Value.oneCell']
  keep := fun ⟨A, c, h1, h2, h3, h4⟩ hk => ⟨A, c, h1, h2, h3, h4.keep hk⟩
  mono := fun ⟨A, c, h1, h2, h3, h4⟩ hd => ⟨A, c, h1, h2, h3, h4.mono hd⟩
  pos := Nat.one_pos
  bd := fun ⟨A, c, h1, h2, h3, h4⟩ => ⟨A, c, h1, h2, h3, h4.bd⟩
/-- One behind the other. -/
def Rep.two {β : Type} (r : Rep α) (s : Rep β) : Rep (α × β) where
  sz := r.sz + s.sz
  rel := fun D w vs x => ∃ us ts, vs = us ++ ts ∧ r.rel D w us x.1 ∧ s.rel D w ts x.2
  len := fun ⟨us, ts, h, h1, h2⟩ => by rw [h, List.length_append, r.len h1, s.len h2]
  one := fun ⟨us, ts, h, h1, h2⟩ => by rw [h]; intro u hu; rcases List.mem_append.1 hu with hh | hh; exact r.one h1 u hh; exact s.one h2 u hh
  keep := fun ⟨us, ts, h, h1, h2⟩ hk => ⟨us, ts, h, r.keep h1 hk, s.keep h2 hk⟩
  mono := fun ⟨us, ts, h, h1, h2⟩ hd => ⟨us, ts, h, r.mono h1 hd, s.mono h2 hd⟩
  pos := Nat.add_pos_left r.pos _
  bd := fun ⟨us, ts, h, h1, h2⟩ => ⟨us, ts, h, r.bd h1, s.bd h2⟩
def Rep.map {β : Type} (g : β → α) (r : Rep α) : Rep β where
  sz := r.sz
  rel := fun D w vs x => r.rel D w vs (g x)
  len := r.len
  one := r.one
  keep := r.keep
  mono := r.mono
  pos := r.pos
  bd := r.bd

/-- A slice of the call's own, that may grow: its cells lie at the head of a block from B on, in which there is room for its capacity. -/
def Own (B : Nat) (D : Nat → Prop) (w : World) (et : TypeId) (A : Option Addr) (c : Nat) (rep : Rep α) (xs : List α) : Prop :=
  xs.length ≤ c ∧ c ≤ maxLen ∧ ((A = none ∧ c = 0) ∨
    ∃ (g : Nat) (cs : List Value) (vss : List (List Value)), A = some ⟨g, 0, none⟩ ∧ B ≤ g ∧ Blk w g et cs ∧ c * rep.sz ≤ cs.length ∧ vss.length = xs.length ∧
      (∀ (k : Nat) (vs : List Value) (x : α), vss[k]? = some vs → xs[k]? = some x → rep.rel D w vs x) ∧ cs.take (xs.length * rep.sz) = vss.flatten)
theorem Own.nil (B : Nat) (D : Nat → Prop) (w : World) (et : TypeId) (rep : Rep α) : Own B D w et none 0 rep [] := ⟨Nat.le_refl _, Nat.zero_le _, .inl ⟨rfl, rfl⟩⟩
def ob (A : Option Addr) : Nat → Prop := fun b => A.map (·.block) = some b
theorem ob_some (g o : Nat) : ob (some ⟨g, o, none⟩) g := rfl
section
variable {B : Nat} {et : TypeId} {A : Option Addr} {c : Nat} {xs : List α}
theorem Own.le (h : Own B D w et A c rep xs) : xs.length ≤ c ∧ c ≤ maxLen := ⟨h.1, h.2.1⟩
theorem Own.base (h : Own B D w et A c rep xs) : ∀ b, ob A b → B ≤ b ∧ b < w.heap.size := by
  intro b hb
  rcases h.2.2 with ⟨rfl, _⟩ | ⟨g, cs, vss, rfl, h1, h2, _⟩
  · cases hb
  · cases hb; exact ⟨h1, h2.lt⟩
theorem Own.fr {S : Nat → Prop} (h : Own B D w et A c rep xs) (hf : Fr S w w') (hn : ∀ b, D b → ¬ S b) (ho : ∀ b, ob A b → ¬ S b) : Own B D w' et A c rep xs := by
  refine ⟨h.1, h.2.1, ?_⟩
  rcases h.2.2 with h0 | ⟨g, cs, vss, rfl, h1, h2, h3, h4, h5, h6⟩
  · exact .inl h0
  · exact .inr ⟨g, cs, vss, rfl, h1, h2.fr hf (ho g rfl), h3, h4, fun k vs x hv hx => Rep.fr (h5 k vs x hv hx) hf hn, h6⟩
theorem Own.ext (h : Own B D w et A c rep xs) (hf : Ext w w') : Own B D w' et A c rep xs := h.fr hf (fun _ _ hh => hh) (fun _ _ hh => hh)
theorem Own.mono (h : Own B D w et A c rep xs) (hd : ∀ b, D b → D' b) : Own B D' w et A c rep xs := by
  refine ⟨h.1, h.2.1, ?_⟩
  rcases h.2.2 with h0 | ⟨g, cs, vss, rfl, h1, h2, h3, h4, h5, h6⟩
  · exact .inl h0
  · exact .inr ⟨g, cs, vss, rfl, h1, h2, h3, h4, fun k vs x hv hx => rep.mono (h5 k vs x hv hx) hd, h6⟩
theorem Own.lower {B' : Nat} (h : Own B D w et A c rep xs) (hb : B' ≤ B) : Own B' D w et A c rep xs := by
  refine ⟨h.1, h.2.1, ?_⟩
  rcases h.2.2 with h0 | ⟨g, cs, vss, rfl, h1, r⟩
  · exact .inl h0
  · exact .inr ⟨g, cs, vss, rfl, by omega, r⟩
theorem flatten_get (m : Nat) : ∀ (vss : List (List Value)) (hl : ∀ vs ∈ vss, vs.length = m) (k : Nat) (vs : List Value) (_ : vss[k]? = some vs) (j : Nat) (v : Value) (_ : vs[j]? = some v), vss.flatten[k * m + j]? = some v
  | [], _, k, vs, h, _, _, _ => by simp at h
  | us :: r, hl, 0, vs, h, j, v, hv => by
    simp at h; subst h
    rw [List.flatten_cons, Nat.zero_mul, Nat.zero_add]
    have : j < us.length := by
      rcases Nat.lt_or_ge j us.length with hh | hh
      · exact hh
      · rw [List.getElem?_eq_none hh] at hv; cases hv
    rw [List.getElem?_append_left this]; exact hv
  | us :: r, hl, k + 1, vs, h, j, v, hv => by
    have hu := hl us (by simp)
    rw [List.flatten_cons, List.getElem?_append_right (by rw [hu, Nat.add_mul]; omega), hu]
    have : (k + 1) * m + j - m = k * m + j := by rw [Nat.add_mul]; omega
    rw [this]
    exact flatten_get m r (fun vs hvs => hl vs (by simp [hvs])) k vs (by simpa using h) j v hv
theorem lt_of_get {β : Type} {l : List β} {k : Nat} {x : β} (h : l[k]? = some x) : k < l.length := by
  rcases Nat.lt_or_ge k l.length with hh | hh
  · exact hh
  · rw [List.getElem?_eq_none hh] at h; cases h
theorem lens_of {vss : List (List Value)} (h2 : vss.length = xs.length) (h3 : ∀ (k : Nat) (vs : List Value) (x : α), vss[k]? = some vs → xs[k]? = some x → rep.rel D w vs x) : ∀ vs ∈ vss, vs.length = rep.sz := by
  intro vs hvs
  obtain ⟨k, hk⟩ := List.mem_iff_getElem?.1 hvs
  have hk' : k < xs.length := by rw [← h2]; exact lt_of_get hk
  exact rep.len (h3 k vs xs[k] hk (List.getElem?_eq_getElem hk'))
theorem ones_of {vss : List (List Value)} (h2 : vss.length = xs.length) (h3 : ∀ (k : Nat) (vs : List Value) (x : α), vss[k]? = some vs → xs[k]? = some x → rep.rel D w vs x) : ∀ u ∈ vss.flatten, u.oneCell' = true := by
  intro u hu
  obtain ⟨vs, hvs, hu⟩ := List.mem_flatten.1 hu
  obtain ⟨k, hk⟩ := List.mem_iff_getElem?.1 hvs
  have hk' : k < xs.length := by rw [← h2]; exact lt_of_get hk
  exact rep.one (h3 k vs xs[k] hk (List.getElem?_eq_getElem hk')) u hu
theorem length_flat (m : Nat) : ∀ l : List (List Value), (∀ us ∈ l, us.length = m) → l.flatten.length = l.length * m
  | [], _ => by simp
  | u :: r, h => by rw [List.flatten_cons, List.length_append, length_flat m r (fun us hus => h us (by simp [hus])), h u (by simp), List.length_cons, Nat.add_mul]; omega
theorem Own.sl (h : Own B D w et A c rep xs) : Sl (fun b => D b ∨ ob A b) w A rep xs := fun hne => by
  rcases h.2.2 with ⟨rfl, hc⟩ | ⟨g, cs, vss, rfl, h1, h2, h3, h4, h5, h6⟩
  · exact (hne (List.eq_nil_of_length_eq_zero (by have := h.1; omega))).elim
  · refine ⟨g, 0, rfl, .inr rfl, fun k x hx => ?_⟩
    have hk : k < vss.length := by rw [h4]; exact lt_of_get hx
    have hlen := lens_of h4 h5
    refine ⟨vss[k], fun j v hv => ?_, rep.mono (h5 k _ x (List.getElem?_eq_getElem hk) hx) fun _ hd => .inl hd⟩
    have hfl := flatten_get rep.sz vss hlen k _ (List.getElem?_eq_getElem hk) j v hv
    rw [← h6, List.getElem?_take] at hfl
    split at hfl
    · rw [Nat.zero_add, h2.cell]; exact hfl
    · cases hfl
end
end

/- THE OPERATIONS -/
section
variable {P : Program} {f : FuncId} {n : Nat} {R : Ending → World → Prop} {k : List Item} {e : Env} {w : World}
variable {ops : Array Oper} {i : Nat} {rest : List Nat} {d : Nat} {dst : Option Nat} {ty : TypeId} {pos : String} {af : Array Edge} {g : Option (Nat × Bool)}

/-- A new variable. -/
theorem V.alloc {t : TypeId} {z : Value} {cs : List Value} (hz : ∀ w, (zeroValue t).run P w = .ok z w) (hc : z.cells = cs.toArray) :
    OpV P n e w ⟨dst, .alloc t, ty, pos, af, g⟩ (.pointer (some ⟨w.heap.size, 0, none⟩)) (w.alloc (.cells cs.toArray t)) := fun a hf => by simp [execOp, Instr.alloc, hz, newVar, newRow, hc]
theorem Rn.alloc {t : TypeId} {z : Value} {cs : List Value} (ho : ops[i]? = some ⟨some d, .alloc t, ty, pos, af, g⟩) (hg : gok e ops g = true) (hn : Nat.blt d n = true) (hz : ∀ w, (zeroValue t).run P w = .ok z w) (hc : z.cells = cs.toArray)
    (h : ∀ b w', b = w.heap.size → Blk w' b t cs → Ext w w' → Rn P f n R (.inRegion ops rest :: k) ((d, .pointer (some ⟨b, 0, none⟩)) :: e) w') : Rn P f n R (.inRegion ops (i :: rest) :: k) e w :=
  Rn.opV ho hg rfl hn (V.alloc hz hc) (h w.heap.size (w.alloc (.cells cs.toArray t)) rfl (Blk.new w t cs) (Ext.alloc w _))
/-- A new variable that holds a value. -/
theorem V.box {t : TypeId} {x : Operand} {v : Value} {cs : List Value} (hx : ev e x = some v) (hc : v.cells = cs.toArray) :
    OpV P n e w ⟨dst, .box t x, ty, pos, af, g⟩ (.pointer (some ⟨w.heap.size, 0, none⟩)) (w.alloc (.cells cs.toArray t)) := fun a hf => by simp [execOp, ev_eval hf hx, Instr.box, newVar, newRow, hc]
theorem Rn.box {t : TypeId} {x : Operand} {v : Value} {cs : List Value} (ho : ops[i]? = some ⟨some d, .box t x, ty, pos, af, g⟩) (hg : gok e ops g = true) (hn : Nat.blt d n = true) (hx : ev e x = some v) (hc : v.cells = cs.toArray)
    (h : ∀ b w', b = w.heap.size → Blk w' b t cs → Ext w w' → Rn P f n R (.inRegion ops rest :: k) ((d, .pointer (some ⟨b, 0, none⟩)) :: e) w') : Rn P f n R (.inRegion ops (i :: rest) :: k) e w :=
  Rn.opV ho hg rfl hn (V.box hx hc) (h w.heap.size (w.alloc (.cells cs.toArray t)) rfl (Blk.new w t cs) (Ext.alloc w _))
/-- The address of a field. -/
theorem V.fa {s : TypeId} {x : Operand} {fs : Array Field} {fd : Field} {m b o sz : Nat} (hs : P.underlying s = some (.struct fs)) (hfd : fs[m]? = some fd)
    (hsz : ∀ w, (sizeOf fd.type).run P w = .ok sz w) (h0 : Nat.beq sz 0 = false) (hx : ev e x = some (.pointer (some ⟨b, o, none⟩))) :
    OpV P n e w ⟨dst, .fieldAddr s x m, ty, pos, af, g⟩ (.pointer (some ⟨b, o + fd.offset, none⟩)) w :=
  fun a hf => by
    have hsz0 : sz ≠ 0 := fun hh => by subst hh; cases h0
    simp [execOp, ev_eval hf hx, Instr.fieldAt, run_underlying hs, hfd, Instr.sureAddr, fieldPlace, hsz, hsz0, Addr.add_none]
/-- A cell is read. -/
theorem V.ld {t : TypeId} {x : Operand} {b o : Nat} {v : Value} (ha : ∀ w, (isAgg t).run P w = .ok false w) (hx : ev e x = some (.pointer (some ⟨b, o, none⟩)))
    (hc : w.cell? ⟨b, o, none⟩ = some v) :
    OpV P n e w ⟨dst, .load t x, ty, pos, af, g⟩ (v) w :=
  fun a hf => by simp [execOp, ev_eval hf hx, Instr.loadAt, Instr.sureAddr, loadVar, ha, hc]
theorem V.ldB {t : TypeId} {x : Operand} {b o : Nat} {t' : TypeId} {cs : List Value} {v : Value} (ha : ∀ w, (isAgg t).run P w = .ok false w) (hx : ev e x = some (.pointer (some ⟨b, o, none⟩)))
    (hB : Blk w b t' cs) (hv : cs[o]? = some v) : OpV P n e w ⟨dst, .load t x, ty, pos, af, g⟩ v w := V.ld ha hx ((hB.cell o).trans hv)
theorem V.ldR {t : TypeId} {x : Operand} {b o j : Nat} {vs : List Value} {v : Value} (ha : ∀ w, (isAgg t).run P w = .ok false w) (hx : ev e x = some (.pointer (some ⟨b, o + j, none⟩)))
    (hR : Rd w b o vs) (hv : vs[j]? = some v) : OpV P n e w ⟨dst, .load t x, ty, pos, af, g⟩ v w := V.ld ha hx (hR j v hv)
theorem V.ldR0 {t : TypeId} {x : Operand} {b o : Nat} {vs : List Value} {v : Value} (ha : ∀ w, (isAgg t).run P w = .ok false w) (hx : ev e x = some (.pointer (some ⟨b, o, none⟩)))
    (hR : Rd w b o vs) (hv : vs[0]? = some v) : OpV P n e w ⟨dst, .load t x, ty, pos, af, g⟩ v w := V.ld ha hx (hR 0 v hv)
/-- A struct or an array is read. -/
theorem V.ldA {t : TypeId} {x : Operand} {b o s : Nat} {vs : List Value} (ha : ∀ w, (isAgg t).run P w = .ok true w) (hs : ∀ w, (sizeOf t).run P w = .ok s w) (hx : ev e x = some (.pointer (some ⟨b, o, none⟩)))
    (hR : Rd w b o vs) (hl : vs.length = s) :
    OpV P n e w ⟨dst, .load t x, ty, pos, af, g⟩ (.agg vs.toArray) w :=
  fun a hf => by
    have hc : ∀ j v, vs[j]? = some v → w.cell? ((⟨b, o, none⟩ : Addr).add j) = some v := fun j v hv => by rw [Addr.add_none]; exact hR j v hv
    have := run_loadCells_list (P := P) (w := w) ⟨b, o, none⟩ vs hc
    rw [hl] at this
    simp [execOp, ev_eval hf hx, Instr.loadAt, Instr.sureAddr, loadVar, ha, hs, this]
theorem V.ldBA {t : TypeId} {x : Operand} {b o s : Nat} {t' : TypeId} {cs : List Value} (vs : List Value) (ha : ∀ w, (isAgg t).run P w = .ok true w) (hs : ∀ w, (sizeOf t).run P w = .ok s w) (hx : ev e x = some (.pointer (some ⟨b, o, none⟩)))
    (hB : Blk w b t' cs) (hv : (cs.drop o).take s = vs) (hl : vs.length = s) : OpV P n e w ⟨dst, .load t x, ty, pos, af, g⟩ (.agg vs.toArray) w :=
  V.ldA ha hs hx (fun j v hj => by
    rw [hB.cell]
    rw [← hv, List.getElem?_take] at hj
    split at hj
    · rw [List.getElem?_drop] at hj; exact hj
    · cases hj) hl

def setL (cs : List Value) (o : Nat) : List Value → List Value
  | [] => cs
  | v :: r => setL (cs.set o v) (o + 1) r
theorem length_setL : ∀ (vs cs : List Value) (o : Nat), (setL cs o vs).length = cs.length
  | [], _, _ => rfl
  | v :: r, cs, o => by simp [setL, length_setL r]
theorem storeCells_blk (P : Program) (t : TypeId) (b : Nat) : ∀ (vs : List Value) (cs : List Value) (o j : Nat) (w : World), Blk w b t cs → (∀ u ∈ vs, u.oneCell' = true) → o + j + vs.length ≤ cs.length →
    ∃ w', (storeCells ⟨b, o, none⟩ vs j).run P w = .ok () w' ∧ Blk w' b t (setL cs (o + j) vs) ∧ Fr (fun x => x = b) w w'
  | [], cs, o, j, w, hB, _, _ => ⟨w, rfl, hB, Fr.refl _ _⟩
  | v :: r, cs, o, j, w, hB, h1, hl => by
    simp only [List.length_cons] at hl
    have hlt : o + j < cs.length := by omega
    have hc : w.cell? ⟨b, o + j, none⟩ = some cs[o + j] := by rw [hB.cell]; exact List.getElem?_eq_getElem hlt
    have hB' : Blk (w.setCell ⟨b, o + j, none⟩ v) b t (cs.set (o + j) v) := by
      unfold Blk at hB ⊢
      simp [World.setCell, Array.getElem?_modify, hB]
    obtain ⟨w', hr, hb, hf⟩ := storeCells_blk P t b r (cs.set (o + j) v) o (j + 1) _ hB' (fun u hu => h1 u (by simp [hu])) (by simp; omega)
    refine ⟨w', ?_, hb, (Fr.setCell w ⟨b, o + j, none⟩ v).trans hf⟩
    rw [storeCells]
    simp only [Sem.run_bind, Addr.add_none, run_store P w ⟨b, o + j, none⟩ v .plain (h1 v (by simp)), hc, hB.frozen, Bool.false_eq_true, if_false, Result.andThen_ok]
    exact hr
/-- A variable of the call's own is written. -/
theorem Rn.st {t : TypeId} {x y : Operand} {b o s : Nat} {t' : TypeId} {cs vs : List Value} {v : Value} (ho : ops[i]? = some ⟨none, .store t x y, ty, pos, af, g⟩) (hg : gok e ops g = true) (hs : ∀ w, (sizeOf t).run P w = .ok s w) (hx : ev e x = some (.pointer (some ⟨b, o, none⟩))) (hy : ev e y = some v) (hv : v.cells = vs.toArray)
    (hl : vs.length = s) (h1 : ∀ u ∈ vs, u.oneCell' = true) (hB : Blk w b t' cs) (hfit : o + vs.length ≤ cs.length)
    (h : ∀ w', Blk w' b t' (setL cs o vs) → Fr (fun x => x = b) w w' → Rn P f n R (.inRegion ops rest :: k) e w') : Rn P f n R (.inRegion ops (i :: rest) :: k) e w := by
  obtain ⟨w', hr, hb, hf⟩ := storeCells_blk P t' b vs cs o 0 w hB h1 (by omega)
  refine Rn.opU (w' := w') ho hg rfl (fun a hf => ?_) (h w' hb hf)
  have hsz : v.cells.size = s := by rw [hv]; simpa using hl
  simp [execOp, ev_eval hf hx, ev_eval hf hy, Instr.storeAt, Instr.sureAddr, storeVar, hs, hv, hl, hr]
/-- The address of an element. -/
theorem V.ixA {t el : TypeId} {x y : Operand} {b o m c : Nat} {q : IntKind} {j : Int} {s : Nat} (kk : Nat) (ht : P.underlying t = some (.slice el)) (hs : ∀ w, (sizeOf el).run P w = .ok s w) (hx : ev e x = some (.slice (some ⟨b, o, none⟩) m c)) (hy : ev e y = some (.int q j)) (hj : j = (kk : Int)) (hm : kk < m) :
    OpV P n e w ⟨dst, .indexAddr t x y, ty, pos, af, g⟩ (.pointer (some ⟨b, o + kk * s, none⟩)) w := fun a hf => by
  subst hj
  have hlt : (0 : Int) ≤ kk ∧ (kk : Int) < (m : Int) := ⟨by omega, by omega⟩
  simp [execOp, ev_eval hf hx, ev_eval hf hy, Instr.indexAt, asIntOf, run_underlying ht, hlt, hs, Addr.add_none]
  intro hh; omega
theorem Rn.ix {α : Type} {rep : Rep α} {D : Nat → Prop} {t el : TypeId} {x y : Operand} {A : Option Addr} {m c : Nat} {q : IntKind} {j : Int} {xs : List α} {s : Nat} (kk : Nat) (z : α) (ho : ops[i]? = some ⟨some d, .indexAddr t x y, ty, pos, af, g⟩) (hg : gok e ops g = true) (hn : Nat.blt d n = true)
    (ht : P.underlying t = some (.slice el)) (hs : ∀ w, (sizeOf el).run P w = .ok s w) (hx : ev e x = some (.slice A m c)) (hy : ev e y = some (.int q j)) (hS : Sl D w A rep xs) (hsz : rep.sz = s) (hz : xs[kk]? = some z) (hj : j = (kk : Int)) (hm : kk < m)
    (h : ∀ b o vs, Rd w b o vs → rep.rel D w vs z → D b → Rn P f n R (.inRegion ops rest :: k) ((d, .pointer (some ⟨b, o, none⟩)) :: e) w) : Rn P f n R (.inRegion ops (i :: rest) :: k) e w := by
  obtain ⟨b, o, vs, rfl, hD, hR, hrel⟩ := hS.get hz
  exact Rn.opV ho hg rfl hn (V.ixA kk ht hs hx hy hj hm) (h b (o + kk * s) vs (hsz ▸ hR) hrel hD)
/-- A struct's field, by value. -/
theorem V.fld {t : TypeId} {x : Operand} {fs : Array Field} {fd : Field} {m : Nat} {cs : Array Value} {v : Value} (hs : P.underlying t = some (.struct fs)) (hfd : fs[m]? = some fd)
    (ha : ∀ w, (isAgg fd.type).run P w = .ok false w) (hx : ev e x = some (.agg cs)) (hv : cs[fd.offset]? = some v) :
    OpV P n e w ⟨dst, .field t x m, ty, pos, af, g⟩ (v) w :=
  fun a hf => by simp [execOp, ev_eval hf hx, Instr.field, run_underlying hs, hfd, asAgg, Go.part, ha, hv]
/-- A struct is put together; the reckoning is the program's own. -/
theorem V.bld {t : TypeId} {ps : Array (Nat × Operand)} {us : List Value} {v : Value} (hx : evs e (ps.toList.map (·.2)) = some us)
    (hr : ∀ w, (Instr.build t ((ps.toList.map (·.1)).zip us).toArray).run P w = .ok v w) :
    OpV P n e w ⟨dst, .build t ps, ty, pos, af, g⟩ (v) w :=
  fun a hf => by
    have h1 := evs_map hf hx
    have h2 : ps.map (fun x => (x.1, a.eval x.2)) = ((ps.toList.map (·.1)).zip us).toArray := by
      rw [← h1]
      apply Array.ext'
      rw [Array.toList_map, List.map_map]
      generalize ps.toList = l
      induction l with
      | nil => rfl
      | cons p r ih => simp [ih]
    simp [execOp, h2, hr w]
/-- A slice is put together. -/
theorem V.bsl {t el : TypeId} {ps : Array (Nat × Operand)} {m : Nat} {us : List Value} {cs : List Value} (hx : evs e (ps.toList.map (·.2)) = some us)
    (hr : ∀ w, (Instr.buildSlice t m ((ps.toList.map (·.1)).zip us).toArray).run P w = .ok (.slice (some ⟨w.heap.size, 0, none⟩) m m) (w.alloc (.cells cs.toArray el))) :
    OpV P n e w ⟨dst, .buildSlice t m ps, ty, pos, af, g⟩ (.slice (some ⟨w.heap.size, 0, none⟩) m m) (w.alloc (.cells cs.toArray el)) := fun a hf => by
  have h1 := evs_map hf hx
  have h2 : ps.map (fun x => (x.1, a.eval x.2)) = ((ps.toList.map (·.1)).zip us).toArray := by
    rw [← h1]
    apply Array.ext'
    rw [Array.toList_map, List.map_map]
    generalize ps.toList = l
    induction l with
    | nil => rfl
    | cons p r ih => simp [ih]
  simp [execOp, h2, hr w]
theorem Rn.bsl {t el : TypeId} {ps : Array (Nat × Operand)} {m : Nat} {us : List Value} {cs : List Value} (ho : ops[i]? = some ⟨some d, .buildSlice t m ps, ty, pos, af, g⟩) (hg : gok e ops g = true) (hn : Nat.blt d n = true) (hx : evs e (ps.toList.map (·.2)) = some us)
    (hr : ∀ w, (Instr.buildSlice t m ((ps.toList.map (·.1)).zip us).toArray).run P w = .ok (.slice (some ⟨w.heap.size, 0, none⟩) m m) (w.alloc (.cells cs.toArray el)))
    (h : ∀ b w', b = w.heap.size → Blk w' b el cs → Ext w w' → Rn P f n R (.inRegion ops rest :: k) ((d, .slice (some ⟨b, 0, none⟩) m m) :: e) w') : Rn P f n R (.inRegion ops (i :: rest) :: k) e w :=
  Rn.opV ho hg rfl hn (V.bsl hx hr) (h w.heap.size _ rfl (Blk.new w el cs) (Ext.alloc w _))
/-- A cut of a slice. -/
theorem V.cutV {x : Operand} {lo hi : Option Operand} {A : Option Addr} {m c s : Nat} {t el : TypeId} (p q : Nat) (ht : P.underlying t = some (.slice el)) (hs : ∀ w, (sizeOf el).run P w = .ok s w) (hx : ev e x = some (.slice A m c))
    (hlo : match lo with | some y => ∃ j, ev e y = some (.int .i64 j) ∧ j = (p : Int) | none => p = 0) (hhi : match hi with | some y => ∃ j, ev e y = some (.int .i64 j) ∧ j = (q : Int) | none => q = m) (h1 : p ≤ q) (h2 : q ≤ c) :
    OpV P n e w ⟨dst, .slice t x lo hi none, ty, pos, af, g⟩ (.slice (if c = p then A else A.map (·.add (p * s))) (q - p) (c - p)) w :=
  fun b hf => by
    cases lo with
    | none =>
      cases hi with
      | none =>
        simp only at hlo hhi
        subst hlo hhi
        simp [execOp, ev_eval hf hx, Instr.sliceAt, run_underlying ht, Instr.slice, Instr.sliceBounds, hs]
      | some y =>
        simp only at hlo hhi
        obtain ⟨j, hy, rfl⟩ := hhi
        subst hlo
        simp only [execOp, Option.map_none, Option.map_some, ev_eval hf hx, ev_eval hf hy, Instr.sliceAt, run_underlying ht, Instr.slice, Instr.sliceBounds, Sem.run_bind, Sem.run_pure, Result.andThen_ok, if_true]
        rw [sbound _ h2]
        simp [hs]
    | some z =>
      cases hi with
      | none =>
        simp only at hlo hhi
        obtain ⟨j, hz, rfl⟩ := hlo
        subst hhi
        simp only [execOp, Option.map_none, Option.map_some, ev_eval hf hx, ev_eval hf hz, Instr.sliceAt, run_underlying ht, Instr.slice, Instr.sliceBounds, Sem.run_bind, Sem.run_pure, Result.andThen_ok, Option.isSome_none, Bool.false_eq_true, if_false, if_true]
        rw [sbound _ h1]
        simp [hs]
      | some y =>
        simp only at hlo hhi
        obtain ⟨j, hz, rfl⟩ := hlo
        obtain ⟨j', hy, rfl⟩ := hhi
        simp only [execOp, Option.map_none, Option.map_some, ev_eval hf hx, ev_eval hf hy, ev_eval hf hz, Instr.sliceAt, run_underlying ht, Instr.slice, Instr.sliceBounds, Sem.run_bind, Sem.run_pure, Result.andThen_ok, Option.isSome_none, Bool.false_eq_true, if_false, if_true]
        rw [sbound _ h2]
        simp only [Result.andThen_ok]
        rw [sbound _ h1]
        simp [hs]

/-- A new variable, and what is put into it at once. -/
theorem Rn.als {t : TypeId} {z : Value} {zs : List Value} {x : Operand} {v : Value} {cs : List Value} {s i2 : Nat} {ty2 : TypeId} {pos2 : String} {af2 : Array Edge} (ho : ops[i]? = some ⟨some d, .alloc t, ty, pos, af, none⟩) (ho2 : ops[i2]? = some ⟨none, .store t (.tmp d) x, ty2, pos2, af2, none⟩) (hn : Nat.blt d n = true)
    (hz : ∀ w, (zeroValue t).run P w = .ok z w) (hzc : z.cells = zs.toArray) (hs : ∀ w, (sizeOf t).run P w = .ok s w) (hzl : zs.length = s) (hx : ev ((d, undef) :: e) x = some v) (hc : v.cells = cs.toArray) (hl : cs.length = s) (h1 : ∀ u ∈ cs, u.oneCell' = true)
    (h : ∀ b w', b = w.heap.size → Blk w' b t cs → Ext w w' → Rn P f n R (.inRegion ops rest :: k) ((d, .pointer (some ⟨b, 0, none⟩)) :: e) w') : Rn P f n R (.inRegion ops (i :: i2 :: rest) :: k) e w := by
  refine Rn.alloc ho rfl hn hz hzc fun b w1 hb hB hE => ?_
  have hx' : ∀ p : Value, ev ((d, p) :: e) x = some v ∨ x = .tmp d := by
    intro p
    cases x with
    | tmp t =>
      by_cases hdt : d = t
      · subst hdt; exact .inr rfl
      · left; simp only [ev] at hx ⊢; rw [lk_other _ _ hdt] at hx ⊢; exact hx
    | const c => exact .inl hx
    | global c => exact .inl hx
    | func c => exact .inl hx
  rcases hx' (.pointer (some ⟨b, 0, none⟩)) with hx' | rfl
  · refine Rn.st ho2 rfl hs (lk_same _ _ _) hx' hc hl h1 hB (by omega) fun w2 hB2 hF => ?_
    have hset : setL zs 0 cs = cs := by
      have : ∀ (vs zs pre : List Value), zs.length = vs.length → setL (pre ++ zs) pre.length vs = pre ++ vs := by
        intro vs
        induction vs with
        | nil => intro zs pre hl; have : zs = [] := List.eq_nil_of_length_eq_zero hl; simp [setL, this]
        | cons v r ih =>
          intro zs pre hl
          cases zs with
          | nil => cases hl
          | cons z zr =>
            simp only [setL]
            have h2 : (pre ++ z :: zr).set pre.length v = (pre ++ [v]) ++ zr := by simp
            rw [h2]
            have := ih zr (pre ++ [v]) (by simpa using hl)
            simp only [List.length_append, List.length_cons, List.length_nil, Nat.zero_add] at this
            rw [this]; simp
      have := this cs zs [] (by omega)
      simpa using this
    rw [hset] at hB2
    exact h b w2 hb hB2 (hE.trans' hF fun x hx => .inr (by omega))
  · simp only [ev, lk_same] at hx
    cases hx
    simp only [undef, Value.cells] at hc
    have : cs = [.tuple #[]] := by simpa using congrArg Array.toList hc.symm
    subst this
    have := h1 (.tuple #[]) (by simp)
    simp [Value.oneCell'] at this
end
end Go.Wk
