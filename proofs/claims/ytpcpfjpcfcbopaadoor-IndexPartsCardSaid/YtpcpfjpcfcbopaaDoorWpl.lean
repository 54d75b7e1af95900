/-
  Slices of one's own whose elements are pointers to objects of one's own. Plain laws over any program.
-/
import Derived.Test.YtpcpfjpcfcbopaaDoorWmo
import Derived.Test.YtpcpfjpcfcbopaaDoorWw
set_option linter.unusedVariables false
set_option linter.unusedSimpArgs false
namespace Go.Wk
open Go Go.RowKit
def ptrR : Rep Nat := Rep.flat 1 (fun b => [pt b 0]) (fun _ => True) (fun _ => rfl) (fun _ => by simp [Value.oneCell']) Nat.one_pos
structure Pe (α : Type) where
  F : Nat → Prop
  b : Nat
  x : α
section
variable {α : Type}
abbrev peO (R : (Nat → Prop) → Nat → α → Rs) (es : List (Pe α)) : List Rs := es.map fun e => R e.F e.b e.x
abbrev plP (el : TypeId) (A : Option Addr) (c : Nat) (R : (Nat → Prop) → Nat → α → Rs) (xs : List α) : List Rs → Prop := fun M => ∃ es : List (Pe α), M = ownR el A c ptrR (es.map (·.b)) :: peO R es ∧ es.map (·.x) = xs
def plR (F : Nat → Prop) (el : TypeId) (A : Option Addr) (c : Nat) (R : (Nat → Prop) → Nat → α → Rs) (xs : List α) : Rs := objR F (plP el A c R xs)
end
section
variable {α : Type} {Z0 S : Nat → Prop} {w0 w : World} {K L : List Rs} {el : TypeId} {R : (Nat → Prop) → Nat → α → Rs} {F : Nat → Prop} {A : Option Addr} {c : Nat} {xs : List α}
theorem Hp.plNil (hm : Hp Z0 S w0 w L) (el : TypeId) (R : (Nat → Prop) → Nat → α → Rs) : ∃ F, Hp Z0 S w0 w (L ++ [plR F el none 0 R []]) :=
  (hm.addNil el ptrR).fold (plP el none 0 R []) ⟨[], rfl, rfl⟩
/-- A thing stays from here on. -/
theorem Hp.frz {r : Rs} (hm : Hp Z0 S w0 w L) (i : Nat) (hi : L[i]? = some r) : Hp Z0 S w0 w (L.set i (fzR r)) :=
  hm.upd i (fzR r) hi (Fr.refl _ _) (fun _ hx => hx.elim) fun _ h1 h2 => ⟨r.keep (hm.hs i r hi) (fun _ _ _ => rfl) (fun _ _ _ => rfl) h1, fun b hb => h2 b (.inl hb) fun h => h⟩
/-- An element of a slice that stays is read: it points to an object that stays. -/
theorem Hp.plAt (hm : Hp Z0 S w0 w L) (i : Nat) (hi : L[i]? = some (fzR (plR F el A c R xs))) {j : Nat} {z : α} (hz : xs[j]? = some z) :
    ∃ b o F1 b1, A = some ⟨b, o, none⟩ ∧ Hp Z0 S w0 w (L ++ [fzR (R F1 b1 z), rdR b (o + j * 1) [pt b1 0]]) := by
  obtain ⟨⟨M, ⟨es, rfl, rfl⟩, hF, hH, hA⟩, hZ⟩ := hm.hs i _ hi
  rw [List.getElem?_map] at hz
  obtain ⟨e, he, rfl⟩ := Option.map_eq_some_iff.1 hz
  have h0 := hH 0 _ rfl
  have hs := (Own.sl h0).get (k := j) (x := e.b) (by rw [List.getElem?_map, he]; rfl)
  obtain ⟨b, o, vs, h1, h2, h3, h4⟩ := hs
  have h1' := hH (j + 1) (R e.F e.b e.x) (by simp [peO, he])
  have h5 : Zo Z0 S w0 L b := by
    rcases h2 with h2 | h2
    · exact h2
    · exact hZ b ((hF b).2 ⟨0, _, rfl, h2⟩)
  refine ⟨b, o, e.F, e.b, h1, Hp.knowL _ _ hm (knC (fun _ h => h) ⟨h1', fun b hb => hZ b ((hF b).2 ⟨j + 1, R e.F e.b e.x, by simp [peO, he], hb⟩)⟩ (knC (fun _ h => h) ⟨fun _ => h5, ?_⟩ kn0))⟩
  have := h4.1; subst this; exact h3
variable {P : Program} {f : FuncId} {n : Nat} {Q : Ending → World → Prop} {k : List Item} {e : Env} {ops : Array Oper} {i d : Nat} {rest : List Nat} {ty : TypeId} {pos : String} {af : Array Edge}
/-- 'out = append(out, p)', p a pointer to an object of one's own. -/
theorem Rn.pushP {by_ : Nat} {t : TypeId} {x y : Operand} {ys : List α} {i2 d2 : Nat} {ty2 : TypeId} {pos2 : String} {af2 : Array Edge} {z : α} {F1 : Nat → Prop} {b1 : Nat}
    (hm : Hp Z0 S w0 w (K ++ [R F1 b1 z, plR F el A c R xs])) (hys : appL xs [z] = some ys)
    (ho : ops[i]? = some ⟨some d, .buildSlice t 1 #[(0, x)], ty, pos, af, none⟩) (ho2 : ops[i2]? = some ⟨some d2, .call { callee := .builtin .append, args := #[y, .tmp d], argTypes := #[t, t] }, ty2, pos2, af2, none⟩)
    (hn : Nat.blt d n = true) (hn2 : Nat.blt d2 n = true)
    (ht : P.underlying t = some (.slice el)) (hel : ElOk P el 1 by_) (hby : Nat.ble by_ 131072 = true) (hx : ev e x = some (pt b1 0)) (hy : ∀ u, ev ((d, u) :: e) y = some (.slice A xs.length c))
    (h : ∀ F2 A2 c2 w' u, Hp Z0 S w0 w' (K ++ [plR F2 el A2 c2 R ys]) → Rn P f n Q (.inRegion ops rest :: k) ((d2, .slice A2 ys.length c2) :: (d, u) :: e) w') : Rn P f n Q (.inRegion ops (i :: i2 :: rest) :: k) e w := by
  obtain ⟨M, ⟨es, rfl, rfl⟩, hm'⟩ := hm.unf (K.length + 1) (by simp; rfl)
  have e0 : (K ++ [R F1 b1 z, plR F el A c R (es.map (·.x))]).eraseIdx (K.length + 1) = K ++ [R F1 b1 z] := by
    rw [List.eraseIdx_append_of_length_le (by omega)]; simp
  rw [e0] at hm'
  obtain ⟨hle, rfl⟩ := appE hys
  have hys' : appL (es.map (·.b)) [b1] = some (es.map (·.b) ++ [b1]) := by
    unfold appL
    rw [if_pos (by simpa using hle)]
  refine Rn.pushH (rep := ptrR) (z := b1) (vs := [pt b1 0]) hm' (K.length + 1) (by simp; rfl) hys' ho ho2 hn hn2 ht hel hby rfl hx rfl (fun u => by rw [hy u]; simp) ⟨rfl, trivial⟩ ?_
  intro A2 c2 w' u hm2
  have e1 : (K ++ [R F1 b1 z] ++ ownR el A c ptrR (es.map (·.b)) :: peO R es).set (K.length + 1) (ownR el A2 c2 ptrR (es.map (·.b) ++ [b1])) = K ++ [R F1 b1 z] ++ ownR el A2 c2 ptrR (es.map (·.b) ++ [b1]) :: peO R es := by
    rw [List.set_append_right _ _ (by simp)]; simp
  rw [e1] at hm2
  have hp : (K ++ [R F1 b1 z] ++ ownR el A2 c2 ptrR (es.map (·.b) ++ [b1]) :: peO R es).Perm (K ++ (ownR el A2 c2 ptrR (((es ++ [⟨F1, b1, z⟩]) : List (Pe α)).map (·.b)) :: peO R (es ++ [⟨F1, b1, z⟩]))) := by
    rw [List.append_assoc]
    refine (List.perm_append_left_iff K).2 ?_
    simp only [peO, List.map_append, List.map_cons, List.map_nil, List.cons_append, List.nil_append]
    refine List.Perm.trans (List.Perm.swap _ _ _) ((List.perm_cons _).2 ?_)
    exact (List.perm_append_comm (l₁ := [R F1 b1 z]))
  obtain ⟨F2, hm3⟩ := (hm2.perm hp).fold (plP el A2 c2 R (es.map (·.x) ++ [z])) ⟨es ++ [⟨F1, b1, z⟩], rfl, by simp⟩
  have := h F2 A2 c2 w' u hm3
  have e2 : (es.map (·.b) ++ [b1]).length = (es.map (·.x) ++ [z]).length := by simp
  rw [e2]
  exact this
end
end Go.Wk
