/-
  The walk by places: memory as a list of things that lie apart, and a function's plain form, told step by step. Plain laws over any program.
-/
import Derived.Test.YtlfppodekihcmaaGreatDoorWi
set_option linter.unusedVariables false
set_option linter.unusedSimpArgs false
namespace Go.Wk
open Go Go.RowKit

/- THE PLAIN FORMS' WORDS -/
def fuel : Nat := 4611686018427387904
def jn {α β : Type} (F : α) (B : α → β) : β := B F
abbrev W64 (z : Int) : Int := IntKind.i64.wrap z
def idx {α : Type} (l : List α) (i : Int) : Option α := if 0 ≤ i then l[i.toNat]? else none
def cutL {α : Type} (l : List α) (a b : Int) : Option (List α) := if 0 ≤ a ∧ a ≤ b ∧ b ≤ l.length then some ((l.take b.toNat).drop a.toNat) else none
def appL {α : Type} (l m : List α) : Option (List α) := if l.length + m.length ≤ 1073741824 then some (l ++ m) else none
def catS (a b : List UInt8) : Option (List UInt8) := if a.length + b.length ≤ 9223372036854775807 then some (a ++ b) else none
def lenS (a : List UInt8) : Option (List UInt8) := if a.length ≤ 1073741824 then some a else none
section
variable {α β : Type} {r : β}
theorem iteT {c : Prop} [Decidable c] {a b : Option β} (h : c) (hM : (if c then a else b) = some r) : a = some r := by rw [if_pos h] at hM; exact hM
theorem iteF {c : Prop} [Decidable c] {a b : Option β} (h : ¬ c) (hM : (if c then a else b) = some r) : b = some r := by rw [if_neg h] at hM; exact hM
theorem bindE {o : Option α} {f : α → Option β} (h : o.bind f = some r) : ∃ a, o = some a ∧ f a = some r := Option.bind_eq_some_iff.1 h
theorem jnE {F : α} {B : α → Option β} (h : jn F B = some r) : ∃ j, j = F ∧ B j = some r := ⟨F, rfl, h⟩
theorem someE {a : β} (h : some a = some r) : r = a := (Option.some.inj h).symm
theorem idxE {l : List α} {i : Int} {x : α} (h : idx l i = some x) : ∃ k : Nat, i = k ∧ l[k]? = some x ∧ k < l.length := by
  unfold idx at h
  split at h
  · exact ⟨i.toNat, by omega, h, lt_of_get h⟩
  · cases h
theorem cutE {l m : List α} {a b : Int} (h : cutL l a b = some m) : ∃ p q : Nat, a = p ∧ b = q ∧ p ≤ q ∧ q ≤ l.length ∧ m = (l.take q).drop p := by
  unfold cutL at h
  split at h
  · rename_i hh; exact ⟨a.toNat, b.toNat, by omega, by omega, by omega, by omega, (Option.some.inj h).symm⟩
  · cases h
theorem appE {l m n : List α} (h : appL l m = some n) : l.length + m.length ≤ 1073741824 ∧ n = l ++ m := by
  unfold appL at h
  split at h
  · rename_i hh; exact ⟨hh, (Option.some.inj h).symm⟩
  · cases h
theorem catE {a b c : List UInt8} (h : catS a b = some c) : a.length + b.length ≤ 9223372036854775807 ∧ c = a ++ b := by
  unfold catS at h
  split at h
  · rename_i hh; exact ⟨hh, (Option.some.inj h).symm⟩
  · cases h
theorem lenE {a b : List UInt8} (h : lenS a = some b) : a.length ≤ 1073741824 ∧ b = a := by
  unfold lenS at h
  split at h
  · rename_i hh; exact ⟨hh, (Option.some.inj h).symm⟩
  · cases h
end

section
variable {p q : Prop} [Decidable p] [Decidable q]
theorem andT (h : p) : Value.bool (decide q) = .bool (decide (p ∧ q)) := by simp [h]
theorem andF (h : ¬ p) : Value.bool false = .bool (decide (p ∧ q)) := by simp [h]
theorem orT (h : p) : Value.bool true = .bool (decide (p ∨ q)) := by simp [h]
theorem orF (h : ¬ p) : Value.bool (decide q) = .bool (decide (p ∨ q)) := by simp [h]
theorem nandF (h : ¬ p) : Value.bool (decide q) = .bool (decide (¬ p ∧ q)) := by simp [h]
theorem nandT (h : p) : Value.bool false = .bool (decide (¬ p ∧ q)) := by simp [h]
theorem norT (h : p) : Value.bool (decide q) = .bool (decide (¬ p ∨ q)) := by simp [h]
theorem norF (h : ¬ p) : Value.bool true = .bool (decide (¬ p ∨ q)) := by simp [h]
end
/- THE WAY -/
section
variable {P : Program} {f : FuncId} {n : Nat} {R : Ending → World → Prop} {k : List Item} {e : Env} {w : World}
/-- What comes behind the item ahead is told once. -/
theorem Rn.joinG {G R' : Type} {it : Item} {r : R'} (E : G → Env) (I : G → World → Prop) (K : G → Option R')
    (rest : ∀ g w', I g w' → K g = some r → Rn P f n R k (E g) w')
    (h : (∀ g w' e', Sub (E g) e' → I g w' → K g = some r → Rn P f n R k e' w') → Rn P f n R (it :: k) e w) : Rn P f n R (it :: k) e w :=
  h fun g w' _ hs hI hK => (rest g w' hI hK).weaken hs
/-- The same in the midst of a region. -/
theorem Rn.joinR {G R' : Type} {ops : Array Oper} {ix : List Nat} {r : R'} (rest' : List Nat) (E : G → Env) (I : G → World → Prop) (K : G → Option R')
    (rest : ∀ g w', I g w' → K g = some r → Rn P f n R (.inRegion ops rest' :: k) (E g) w')
    (h : (∀ g w' e', Sub (E g) e' → I g w' → K g = some r → Rn P f n R (.inRegion ops rest' :: k) e' w') → Rn P f n R (.inRegion ops ix :: k) e w) : Rn P f n R (.inRegion ops ix :: k) e w :=
  h fun g w' _ hs hI hK => (rest g w' hI hK).weaken hs
/-- A piece of a region of which only the slots are kept. -/
theorem Rn.cutR {ops : Array Oper} {ix : List Nat} (rest' : List Nat) (E' : Env)
    (h : (∀ e', Sub E' e' → Rn P f n R (.inRegion ops rest' :: k) e' w) → Rn P f n R (.inRegion ops ix :: k) e w)
    (rest : Rn P f n R (.inRegion ops rest' :: k) E' w) : Rn P f n R (.inRegion ops ix :: k) e w := h fun _ hs => rest.weaken hs
/-- A loop whose plain form goes down with the fuel. -/
theorem Rn.loopF {G R' : Type} {c : Code} {r : R'} (E : G → Env) (I : G → World → Prop) (M : Nat → G → Option R') (N : Nat) (g : G) (hE : Sub (E g) e) (hI : I g w) (hM : M N g = some r) (h0 : ∀ g, M 0 g = none)
    (body : ∀ m g w, I g w → M (m + 1) g = some r → (∀ g' w' e', Sub (E g') e' → I g' w' → M m g' = some r → Rn P f n R (.inLoop c :: k) e' w') → Rn P f n R (.code c :: .inLoop c :: k) (E g) w) :
    Rn P f n R (.code (.loop c) :: k) e w := by
  have key : ∀ m g w, I g w → M m g = some r → Rn P f n R (.code c :: .inLoop c :: k) (E g) w := by
    intro m
    induction m with
    | zero => intro g w _ h; rw [h0] at h; cases h
    | succ m ih =>
      intro g w hI hM
      exact body m g w hI hM fun g' w' e' hs hI' hM' => Rn.inLoop ((ih g' w' hI' hM').weaken hs)
  exact Rn.loop ((key N g w hI hM).weaken hE)
end

/- MEMORY -/
/-- A thing in memory: blocks of its own, and what it says of the world; Z: blocks that stay as they are. -/
structure Rs where
  F : Nat → Prop
  H : (Nat → Prop) → World → Prop
  keep : ∀ {Z Z' : Nat → Prop} {w w' : World}, H Z w → (∀ b, F b → b < w.heap.size → w'.heap[b]? = w.heap[b]?) → (∀ b, Z b → b < w.heap.size → w'.heap[b]? = w.heap[b]?) → (∀ b, Z b → b < w.heap.size → Z' b) → H Z' w'
  lt : ∀ {Z w}, H Z w → ∀ b, F b → b < w.heap.size
section
variable {α : Type}
/-- A slice that stays. -/
def slR (A : Option Addr) (c : Nat) (rep : Rep α) (xs : List α) : Rs where
  F := No
  H := fun Z w => xs.length ≤ c ∧ c ≤ maxLen ∧ Sl Z w A rep xs
  keep := fun ⟨h1, h2, h3⟩ _ hZ hZ' => ⟨h1, h2, (h3.bd.keep (fun b hb hlt => hZ b hb.1 hlt)).mono fun b hb => hZ' b hb.1 hb.2⟩
  lt := fun _ _ h => h.elim
/-- Cells that stay. -/
def rdR (b o : Nat) (vs : List Value) : Rs where
  F := No
  H := fun Z w => (vs ≠ [] → Z b) ∧ Rd w b o vs
  keep := fun {Z Z' w w'} ⟨h1, h2⟩ _ hZ hZ' => by
    by_cases hv : vs = []
    · subst hv; exact ⟨fun h => (h rfl).elim, fun j v h => by simp at h⟩
    · have hlt : b < w.heap.size := by
        cases vs with
        | nil => exact (hv rfl).elim
        | cons v t => exact World.block_lt_of_cell? w _ (h2 0 v rfl)
      exact ⟨fun _ => hZ' b (h1 hv) hlt, h2.keep fun hb => hZ b (h1 hv) hb⟩
  lt := fun _ _ h => h.elim
/-- A block of its own. -/
def boxR (b : Nat) (t : TypeId) (cs : List Value) : Rs where
  F := fun x => x = b
  H := fun _ w => Blk w b t cs
  keep := fun {_ _ w _} h hF _ _ => by have := hF b rfl h.lt; unfold Blk at h ⊢; rw [this]; exact h
  lt := fun h b hb => hb ▸ h.lt
/-- A slice of its own, that may grow. -/
def ownR (et : TypeId) (A : Option Addr) (c : Nat) (rep : Rep α) (xs : List α) : Rs where
  F := fun x => ob A x
  H := fun Z w => Own 0 Z w et A c rep xs
  keep := fun {Z Z' w w'} h hF hZ hZ' => by
    refine ⟨h.1, h.2.1, ?_⟩
    rcases h.2.2 with h0 | ⟨g, cs, vss, rfl, h1, h2, h3, h4, h5, h6⟩
    · exact .inl h0
    · refine .inr ⟨g, cs, vss, rfl, h1, ?_, h3, h4, fun k vs x hv hx => rep.mono (rep.keep (rep.bd (h5 k vs x hv hx)) fun b hb hlt => hZ b hb.1 hlt) fun b hb => hZ' b hb.1 hb.2, h6⟩
      have := hF g rfl h2.lt
      unfold Blk at h2 ⊢; rw [this]; exact h2
  lt := fun h b hb => (h.base b hb).2
/-- What hangs on no other memory. -/
def Rs.Flat (r : Rs) : Prop := ∀ Z Z' w, r.H Z w → r.H Z' w
theorem ownR_flat {rep : Rep α} (h : rep.Flat) (et : TypeId) (A : Option Addr) (c : Nat) (xs : List α) : (ownR et A c rep xs).Flat := fun _ _ _ hh => Own.flat h hh
theorem slR_all {A : Option Addr} {c : Nat} {rep : Rep α} {xs : List α} {Z : Nat → Prop} {w : World} (h : (slR A c rep xs).H Z w) : (slR A c rep xs).H All w := ⟨h.1, h.2.1, h.2.2.all⟩
theorem own_slR {et : TypeId} {A : Option Addr} {c : Nat} {rep : Rep α} {xs : List α} {Z : Nat → Prop} {w : World} (h : (ownR et A c rep xs).H Z w) : (slR A c rep xs).H All w := ⟨h.1, h.2.1, Own.sl h |>.all⟩
end
/-- The blocks that stay as they are. -/
def Zo (Z0 S : Nat → Prop) (w0 : World) (L : List Rs) : Nat → Prop := fun b => (Z0 b ∨ S b ∨ w0.heap.size ≤ b) ∧ ∀ (i : Nat) r, L[i]? = some r → ¬ r.F b
structure Hp (Z0 S : Nat → Prop) (w0 w : World) (L : List Rs) : Prop where
  fr : Fr S w0 w
  hs : ∀ (i : Nat) r, L[i]? = some r → r.H (Zo Z0 S w0 L) w
  ap : ∀ (i j : Nat) a b, i ≠ j → L[i]? = some a → L[j]? = some b → ∀ x, a.F x → ¬ b.F x
  nw : ∀ (i : Nat) r, L[i]? = some r → ∀ x, r.F x → S x ∨ w0.heap.size ≤ x
section
variable {Z0 S : Nat → Prop} {w0 w w' : World} {L : List Rs}
theorem Hp.nil (Z0 S : Nat → Prop) (w : World) : Hp Z0 S w w [] := ⟨Fr.refl _ _, fun i r h => by simp at h, fun i j a b _ h => by simp at h, fun i r h => by simp at h⟩
theorem Hp.get (hm : Hp Z0 S w0 w L) (i : Nat) {r : Rs} (h : L[i]? = some r) : r.H (Zo Z0 S w0 L) w := hm.hs i r h
theorem Hp.lt (hm : Hp Z0 S w0 w L) {i : Nat} {r : Rs} (h : L[i]? = some r) : ∀ x, r.F x → x < w.heap.size := r.lt (hm.hs i r h)
theorem Hp.size (hm : Hp Z0 S w0 w L) : w0.heap.size ≤ w.heap.size := hm.fr.size
/-- A thing is turned. -/
theorem Hp.upd (hm : Hp Z0 S w0 w L) (i : Nat) {r : Rs} (r' : Rs) (hi : L[i]? = some r) (hf : Fr r.F w w') (hF : ∀ x, r'.F x → r.F x ∨ w.heap.size ≤ x)
    (hH : ∀ Z' : Nat → Prop, (∀ b, Zo Z0 S w0 L b → b < w.heap.size → Z' b) → (∀ b, (r.F b ∨ w.heap.size ≤ b) → ¬ r'.F b → Z' b) → r'.H Z' w') : Hp Z0 S w0 w' (L.set i r') := by
  have hil := lt_of_get hi
  have cases_ : ∀ {j : Nat} {a : Rs}, (L.set i r')[j]? = some a → (j = i ∧ a = r') ∨ (j ≠ i ∧ L[j]? = some a) := by
    intro j a h
    rw [List.getElem?_set] at h
    split at h
    · rename_i hij; subst hij; exact .inl ⟨rfl, by first | exact (Option.some.inj h).symm | (rw [if_pos hil] at h; exact (Option.some.inj h).symm)⟩
    · rename_i hij; exact .inr ⟨Ne.symm hij, h⟩
  have hset : (L.set i r')[i]? = some r' := by rw [List.getElem?_set_self hil]
  have hother : ∀ {j : Nat} {a : Rs}, j ≠ i → L[j]? = some a → (L.set i r')[j]? = some a := fun hj h => by rw [List.getElem?_set_ne (Ne.symm hj)]; exact h
  have hz1 : ∀ b, Zo Z0 S w0 L b → b < w.heap.size → Zo Z0 S w0 (L.set i r') b := fun b ⟨hb, hn⟩ hlt => ⟨hb, fun j a hj ha => by
    rcases cases_ hj with ⟨rfl, rfl⟩ | ⟨_, hj'⟩
    · rcases hF b ha with h1 | h1
      · exact hn _ r hi h1
      · omega
    · exact hn j a hj' ha⟩
  have hz2 : ∀ b, (r.F b ∨ w.heap.size ≤ b) → ¬ r'.F b → Zo Z0 S w0 (L.set i r') b := fun b hb hn => by
    have hsz := hm.size
    refine ⟨?_, fun j a hj ha => ?_⟩
    · rcases hb with hb | hb
      · exact .inr (hm.nw i r hi b hb)
      · exact .inr (.inr (by omega))
    · rcases cases_ hj with ⟨rfl, rfl⟩ | ⟨hji, hj'⟩
      · exact hn ha
      · rcases hb with hb | hb
        · exact hm.ap i j r a (Ne.symm hji) hi hj' b hb ha
        · have := hm.lt hj' b ha; omega
  refine ⟨hm.fr.trans' hf fun x hx => hm.nw i r hi x hx, ?_, ?_, ?_⟩
  · intro j a hj
    rcases cases_ hj with ⟨rfl, rfl⟩ | ⟨hji, hj'⟩
    · exact hH _ hz1 hz2
    · exact a.keep (hm.hs j a hj') (fun b hb hlt => hf.keep b hlt (hm.ap j i a r hji hj' hi b hb)) (fun b hb hlt => hf.keep b hlt (hb.2 i r hi)) hz1
  · intro j l a b hjl hj hl x hx hb
    rcases cases_ hj with ⟨rfl, rfl⟩ | ⟨hji, hj'⟩
    · rcases cases_ hl with ⟨rfl, rfl⟩ | ⟨hli, hl'⟩
      · exact hjl rfl
      · rcases hF x hx with h1 | h1
        · exact hm.ap _ l r b (Ne.symm hli) hi hl' x h1 hb
        · have := hm.lt hl' x hb; omega
    · rcases cases_ hl with ⟨rfl, rfl⟩ | ⟨hli, hl'⟩
      · rcases hF x hb with h1 | h1
        · exact hm.ap j _ a r hji hj' hi x hx h1
        · have := hm.lt hj' x hx; omega
      · exact hm.ap j l a b hjl hj' hl' x hx hb
  · intro j a hj x hx
    have hsz := hm.size
    rcases cases_ hj with ⟨rfl, rfl⟩ | ⟨hji, hj'⟩
    · rcases hF x hx with h1 | h1
      · exact hm.nw _ r hi x h1
      · exact .inr (by omega)
    · exact hm.nw j a hj' x hx
/-- New memory, nothing old turned. -/
theorem Hp.ext (hm : Hp Z0 S w0 w L) (hE : Ext w w') : Hp Z0 S w0 w' L :=
  ⟨hm.fr.trans' hE fun _ h => h.elim, fun i r hi => r.keep (hm.hs i r hi) (fun b _ hlt => hE.keep b hlt (fun h => h)) (fun b _ hlt => hE.keep b hlt (fun h => h)) (fun b hb _ => hb), hm.ap, hm.nw⟩
/-- Another call's things come behind. -/
theorem Hp.call {Z1 : Nat → Prop} {L' : List Rs} (hm : Hp Z0 S w0 w L) (h' : Hp Z1 No w w' L') (hZ : ∀ b, Z1 b → b < w.heap.size → (∀ (i : Nat) r, L'[i]? = some r → r.Flat) ∨ Zo Z0 S w0 L b) : Hp Z0 S w0 w' (L ++ L') := by
  have hE : Ext w w' := h'.fr
  have hm' := hm.ext hE
  have hsz := hm.size
  have cases_ : ∀ {j : Nat} {a : Rs}, (L ++ L')[j]? = some a → (L[j]? = some a) ∨ (L.length ≤ j ∧ L'[j - L.length]? = some a) := by
    intro j a h
    rw [List.getElem?_append] at h
    split at h
    · exact .inl h
    · exact .inr ⟨by omega, h⟩
  have hnew : ∀ {j : Nat} {a : Rs}, L'[j]? = some a → ∀ x, a.F x → w.heap.size ≤ x := fun hj x hx => (h'.nw _ _ hj x hx).elim (fun h => h.elim) id
  have hz1 : ∀ b, Zo Z0 S w0 L b → b < w.heap.size → Zo Z0 S w0 (L ++ L') b := fun b ⟨h1, h2⟩ hlt => ⟨h1, fun j a hj ha => by
    rcases cases_ hj with hj | ⟨_, hj⟩
    · exact h2 j a hj ha
    · have := hnew hj b ha; omega⟩
  refine ⟨hm'.fr, ?_, ?_, ?_⟩
  · intro j a hj
    rcases cases_ hj with hj | ⟨_, hj⟩
    · exact a.keep (hm.hs j a hj) (fun b _ hlt => hE.keep b hlt (fun h => h)) (fun b _ hlt => hE.keep b hlt (fun h => h)) hz1
    · by_cases hfl : ∀ (i : Nat) r, L'[i]? = some r → r.Flat
      · exact hfl _ a hj _ _ _ (h'.hs _ a hj)
      · refine a.keep (h'.hs _ a hj) (fun _ _ _ => rfl) (fun _ _ _ => rfl) fun b hb hlt => ?_
        by_cases hlt2 : b < w.heap.size
        · rcases hb.1 with h1 | h1 | h1
          · exact hz1 b ((hZ b h1 hlt2).resolve_left hfl) hlt2
          · exact h1.elim
          · omega
        · refine ⟨.inr (.inr (by omega)), fun i c hi hc => ?_⟩
          rcases cases_ hi with hi | ⟨_, hi⟩
          · have := hm.lt hi b hc; omega
          · exact hb.2 _ c hi hc
  · intro i j a b hij hi hj x hx hb
    rcases cases_ hi with hi' | ⟨hi1, hi'⟩
    · rcases cases_ hj with hj' | ⟨hj1, hj'⟩
      · exact hm.ap i j a b hij hi' hj' x hx hb
      · have := hm.lt hi' x hx; have := hnew hj' x hb; omega
    · rcases cases_ hj with hj' | ⟨hj1, hj'⟩
      · have := hm.lt hj' x hb; have := hnew hi' x hx; omega
      · exact h'.ap _ _ a b (by omega) hi' hj' x hx hb
  · intro j a hj x hx
    rcases cases_ hj with hj | ⟨_, hj⟩
    · exact hm.nw j a hj x hx
    · exact .inr (by have := hnew hj x hx; omega)
/-- With what stays handed on as it is. -/
theorem Hp.callZ {L' : List Rs} (hm : Hp Z0 S w0 w L) (h' : Hp (Zo Z0 S w0 L) No w w' L') : Hp Z0 S w0 w' (L ++ L') := hm.call h' fun _ hb _ => .inr hb
theorem Hp.callF {Z1 : Nat → Prop} {L' : List Rs} (hfl : ∀ (i : Nat) r, L'[i]? = some r → r.Flat) (hm : Hp Z0 S w0 w L) (h' : Hp Z1 No w w' L') : Hp Z0 S w0 w' (L ++ L') := hm.call h' fun _ _ _ => .inl hfl
theorem Hp.call0 {Z1 : Nat → Prop} (hm : Hp Z0 S w0 w L) (h' : Hp Z1 No w w' []) : Hp Z0 S w0 w' L := hm.ext h'.fr
theorem flat1 {a : Rs} (h : a.Flat) : ∀ (i : Nat) r, [a][i]? = some r → r.Flat
  | 0, _, hh => by cases hh; exact h
  | i + 1, _, hh => by simp at hh
theorem flat2 {a b : Rs} (h : a.Flat) (g : b.Flat) : ∀ (i : Nat) r, [a, b][i]? = some r → r.Flat
  | 0, _, hh => by cases hh; exact h
  | 1, _, hh => by cases hh; exact g
  | i + 2, _, hh => by simp at hh
/-- New memory with a thing of its own in it. -/
theorem Hp.add (hm : Hp Z0 S w0 w L) (r : Rs) (hE : Ext w w') (hF : ∀ x, r.F x → w.heap.size ≤ x) (hH : ∀ Z : Nat → Prop, (∀ b, Zo Z0 S w0 L b → b < w.heap.size → Z b) → r.H Z w') : Hp Z0 S w0 w' (L ++ [r]) := by
  have hsz := hm.size
  have h' : Hp (Zo Z0 S w0 L) No w w' [r] := by
    refine ⟨hE, ?_, ?_, ?_⟩
    · intro i a hi
      cases i with
      | zero =>
        cases hi
        refine hH _ fun b hb hlt => ⟨.inl hb, fun j c hj hc => ?_⟩
        cases j with
        | zero => cases hj; have := hF b hc; omega
        | succ j => simp at hj
      | succ i => simp at hi
    · intro i j a b hij hi hj
      cases i with
      | zero => cases j with
        | zero => exact absurd rfl hij
        | succ j => simp at hj
      | succ i => simp at hi
    · intro i a hi x hx
      cases i with
      | zero => cases hi; exact .inr (hF x hx)
      | succ i => simp at hi
  exact hm.callZ h'
theorem Hp.addBox (hm : Hp Z0 S w0 w L) {b : Nat} {t : TypeId} {cs : List Value} (hb : b = w.heap.size) (hE : Ext w w') (h : Blk w' b t cs) : Hp Z0 S w0 w' (L ++ [boxR b t cs]) :=
  hm.add _ hE (fun x hx => by cases hx; omega) fun _ _ => h
/-- What is known besides. -/
theorem Hp.know (hm : Hp Z0 S w0 w L) (r : Rs) (hF : ∀ x, ¬ r.F x) (hH : r.H (Zo Z0 S w0 L) w) : Hp Z0 S w0 w (L ++ [r]) :=
  hm.add r (Ext.refl w) (fun x hx => (hF x hx).elim) fun Z hZ => r.keep hH (fun _ _ _ => rfl) (fun _ _ _ => rfl) hZ
theorem Hp.knowSl {α : Type} {A : Option Addr} {c : Nat} {rep : Rep α} {xs : List α} (hm : Hp Z0 S w0 w L) (h1 : xs.length ≤ c) (h2 : c ≤ maxLen) (h : Sl (Zo Z0 S w0 L) w A rep xs) : Hp Z0 S w0 w (L ++ [slR A c rep xs]) := hm.know _ (fun _ h => h) ⟨h1, h2, h⟩
theorem Hp.knowRd {b o : Nat} {vs : List Value} (hm : Hp Z0 S w0 w L) (h1 : Zo Z0 S w0 L b) (h : Rd w b o vs) : Hp Z0 S w0 w (L ++ [rdR b o vs]) := hm.know _ (fun _ h => h) ⟨fun _ => h1, h⟩
/-- At a call's begin. -/
theorem zo0 {b : Nat} {L : List Rs} (hL : ∀ (i : Nat) r, L[i]? = some r → ∀ x, ¬ r.F x) (h : Z0 b) : Zo Z0 S w0 L b := ⟨.inl h, fun i r hi => hL i r hi b⟩
def Calm (L : List Rs) : Prop := ∀ (i : Nat) r, L[i]? = some r → ∀ x, ¬ r.F x
theorem Calm.nil : Calm [] := fun i r h => by simp at h
theorem Calm.snoc {r : Rs} (h : Calm L) (hr : ∀ x, ¬ r.F x) : Calm (L ++ [r]) := fun i a hi => by
  rw [List.getElem?_append] at hi
  split at hi
  · exact h i a hi
  · have : i - L.length = 0 := by
      rcases Nat.eq_zero_or_pos (i - L.length) with hh | hh
      · exact hh
      · rw [List.getElem?_eq_none (by simp; omega)] at hi; cases hi
    rw [this] at hi; cases hi; exact hr
theorem Hp.in0 {r : Rs} (hc : Calm L) (hm : Hp Z0 S w0 w L) (hH : r.H Z0 w) : r.H (Zo Z0 S w0 L) w := r.keep hH (fun _ _ _ => rfl) (fun _ _ _ => rfl) fun _ hb _ => zo0 hc hb
/-- The things in another order, or fewer. -/
def pickL (L : List Rs) : List Nat → List Rs
  | [] => []
  | i :: r => match L[i]? with
    | some x => x :: pickL L r
    | none => pickL L r
theorem pickL_get : ∀ (is : List Nat) (k : Nat), is.all (fun i => Nat.blt i L.length) = true → (pickL L is)[k]? = is[k]?.bind fun i => L[i]?
  | [], k, _ => by simp [pickL]
  | i :: r, k, h => by
    simp only [List.all_cons, Bool.and_eq_true] at h
    have hlt : i < L.length := by simpa [Nat.blt_eq] using h.1
    have hx : L[i]? = some L[i] := List.getElem?_eq_getElem hlt
    cases k with
    | zero => simp [pickL, hx]
    | succ k =>
      have := pickL_get r k h.2
      simp only [pickL, hx, List.getElem?_cons_succ, this]
theorem Hp.pick (hm : Hp Z0 S w0 w L) (is : List Nat) (h : is.all (fun i => Nat.blt i L.length) = true) (hnd : is.Nodup) : Hp Z0 S w0 w (pickL L is) := by
  have hz : ∀ {k : Nat} {r : Rs}, (pickL L is)[k]? = some r → ∃ i, is[k]? = some i ∧ L[i]? = some r := fun hk => by
    rw [pickL_get is _ h] at hk
    exact bindE hk
  refine ⟨hm.fr, ?_, ?_, ?_⟩
  · intro k r hk
    obtain ⟨i, _, hi⟩ := hz hk
    exact r.keep (hm.hs i r hi) (fun _ _ _ => rfl) (fun _ _ _ => rfl) fun b hb _ => ⟨hb.1, fun j a hj ha => let ⟨i', _, hi'⟩ := hz hj; hb.2 i' a hi' ha⟩
  · intro j k a b hjk hj hk
    obtain ⟨i, h1, hi⟩ := hz hj
    obtain ⟨i', h2, hi'⟩ := hz hk
    refine hm.ap i i' a b (fun hii => hjk ?_) hi hi'
    subst hii
    have hjl := lt_of_get h1
    exact (List.getElem?_inj hjl hnd).1 (h1.trans h2.symm)
  · intro k r hk
    obtain ⟨i, _, hi⟩ := hz hk
    exact hm.nw i r hi
/-- A slice of one's own stays from here on. -/
theorem Hp.freeze {α : Type} {et : TypeId} {A : Option Addr} {c : Nat} {rep : Rep α} {xs : List α} (hm : Hp Z0 S w0 w L) (i : Nat) (hi : L[i]? = some (ownR et A c rep xs)) : Hp Z0 S w0 w (L.set i (slR A c rep xs)) := by
  have h0 := hm.get i hi
  refine hm.upd i _ hi (Fr.refl _ _) (fun x hx => hx.elim) fun Z' h1 h2 => ⟨h0.1, h0.2.1, ?_⟩
  have h3 := (Own.sl h0).bd
  refine h3.mono fun b hb => ?_
  rcases hb.1 with h4 | h4
  · exact h1 b h4 hb.2
  · exact h2 b (.inl h4) fun h => h
end
end Go.Wk
