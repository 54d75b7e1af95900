/-
  Things made of things: an object with all that it owns, told as one thing; and one that may be missing. Plain laws over any program.
-/
import Derived.Test.YtlfppodekihcmaaGreatDoorWn
set_option linter.unusedVariables false
set_option linter.unusedSimpArgs false
namespace Go.Wk
open Go Go.RowKit
/-- Things that lie apart. -/
def Apart (L : List Rs) : Prop := ∀ (i j : Nat) a b, i ≠ j → L[i]? = some a → L[j]? = some b → ∀ x, a.F x → ¬ b.F x
/-- A thing made of others: of which, P tells; F: all blocks of theirs. -/
def objR (F : Nat → Prop) (P : List Rs → Prop) : Rs where
  F := F
  H := fun Z w => ∃ L, P L ∧ (∀ x, F x ↔ LS L x) ∧ (∀ (i : Nat) r, L[i]? = some r → r.H Z w) ∧ Apart L
  keep := fun ⟨L, h1, h2, h3, h4⟩ hF hZ hZ' => ⟨L, h1, h2, fun i r hi => r.keep (h3 i r hi) (fun b hb hlt => hF b ((h2 b).2 ⟨i, r, hi, hb⟩) hlt) hZ hZ', h4⟩
  lt := fun ⟨L, _, h2, h3, _⟩ b hb => by obtain ⟨i, r, hi, hr⟩ := (h2 b).1 hb; exact r.lt (h3 i r hi) b hr
section
variable {Z0 S : Nat → Prop} {w0 w : World} {L K M : List Rs} {P : List Rs → Prop} {F : Nat → Prop}
theorem erase_get {L : List Rs} {i : Nat} {j : Nat} {r : Rs} (h : (L.eraseIdx i)[j]? = some r) : ∃ j', j' ≠ i ∧ L[j']? = some r ∧ (j' = if j < i then j else j + 1) := by
  rw [List.getElem?_eraseIdx] at h
  split at h
  · rename_i hj; exact ⟨j, by omega, h, by rw [if_pos hj]⟩
  · rename_i hj; exact ⟨j + 1, by omega, h, by rw [if_neg hj]⟩
/-- An object is taken apart. -/
theorem Hp.unf (hm : Hp Z0 S w0 w L) (i : Nat) (hi : L[i]? = some (objR F P)) : ∃ M, P M ∧ Hp Z0 S w0 w (L.eraseIdx i ++ M) := by
  obtain ⟨M, hP, hF, hH, hA⟩ := hm.hs i _ hi
  have hz : ∀ b, Zo Z0 S w0 L b → Zo Z0 S w0 (L.eraseIdx i ++ M) b := fun b ⟨h1, h2⟩ => ⟨h1, fun j r hj hr => by
    rcases get_app hj with hj | ⟨_, hj⟩
    · obtain ⟨j', _, hj', _⟩ := erase_get hj; exact h2 j' r hj' hr
    · exact h2 i _ hi ((hF b).2 ⟨_, r, hj, hr⟩)⟩
  refine ⟨M, hP, hm.fr, ?_, ?_, ?_⟩
  · intro j r hj
    rcases get_app hj with hj | ⟨_, hj⟩
    · obtain ⟨j', _, hj', _⟩ := erase_get hj
      exact r.keep (hm.hs j' r hj') (fun _ _ _ => rfl) (fun _ _ _ => rfl) fun b hb _ => hz b hb
    · exact r.keep (hH _ r hj) (fun _ _ _ => rfl) (fun _ _ _ => rfl) fun b hb _ => hz b hb
  · intro j l a b hjl hj hl x hx hb
    rcases get_app hj with hj' | ⟨hj1, hj'⟩
    · obtain ⟨j2, hj2, hj3, ej⟩ := erase_get hj'
      rcases get_app hl with hl' | ⟨_, hl'⟩
      · obtain ⟨l2, hl2, hl3, el⟩ := erase_get hl'
        refine hm.ap j2 l2 a b ?_ hj3 hl3 x hx hb
        rw [ej, el]
        split <;> split <;> omega
      · exact hm.ap j2 i a _ hj2 hj3 hi x hx ((hF x).2 ⟨_, b, hl', hb⟩)
    · rcases get_app hl with hl' | ⟨hl1, hl'⟩
      · obtain ⟨l2, hl2, hl3, _⟩ := erase_get hl'
        exact hm.ap l2 i b _ hl2 hl3 hi x hb ((hF x).2 ⟨_, a, hj', hx⟩)
      · exact hA _ _ a b (by omega) hj' hl' x hx hb
  · intro j r hj x hx
    rcases get_app hj with hj | ⟨_, hj⟩
    · obtain ⟨j', _, hj', _⟩ := erase_get hj; exact hm.nw j' r hj' x hx
    · exact hm.nw i _ hi x ((hF x).2 ⟨_, r, hj, hx⟩)
/-- An object is put together. -/
theorem Hp.fold (P : List Rs → Prop) (hm : Hp Z0 S w0 w (K ++ M)) (hP : P M) : ∃ F, Hp Z0 S w0 w (K ++ [objR F P]) := by
  refine ⟨LS M, hm.fr, ?_, ?_, ?_⟩
  · have hz : ∀ b, Zo Z0 S w0 (K ++ M) b → Zo Z0 S w0 (K ++ [objR (LS M) P]) b := fun b ⟨h1, h2⟩ => ⟨h1, fun j r hj hr => by
      rcases get_app hj with hj | ⟨_, hj⟩
      · exact h2 j r (get_left hj) hr
      · generalize j - K.length = q at hj
        cases q with
        | zero => cases hj; obtain ⟨l, a, hl, ha⟩ := hr; exact h2 _ a (get_right hl) ha
        | succ q => simp at hj⟩
    intro j r hj
    rcases get_app hj with hj | ⟨_, hj⟩
    · exact r.keep (hm.hs j r (get_left hj)) (fun _ _ _ => rfl) (fun _ _ _ => rfl) fun b hb _ => hz b hb
    · generalize j - K.length = q at hj
      cases q with
      | zero =>
        cases hj
        exact ⟨M, hP, fun x => Iff.rfl, fun l a hl => a.keep (hm.hs _ a (get_right hl)) (fun _ _ _ => rfl) (fun _ _ _ => rfl) fun b hb _ => hz b hb, fun l q a b hlq hl hq => hm.ap _ _ a b (by omega) (get_right hl) (get_right hq)⟩
      | succ q => simp at hj
  · intro j l a b hjl hj hl x hx hb
    rcases get_app hj with hj' | ⟨hj1, hj'⟩
    · rcases get_app hl with hl' | ⟨hl1, hl'⟩
      · exact hm.ap j l a b hjl (get_left hj') (get_left hl') x hx hb
      · generalize l - K.length = q at hl'
        cases q with
        | zero => cases hl'; obtain ⟨q, c, hq, hc⟩ := hb; exact hm.ap j (K.length + q) a c (by have := lt_of_get hj'; omega) (get_left hj') (get_right hq) x hx hc
        | succ q => simp at hl'
    · rcases get_app hl with hl' | ⟨hl1, hl'⟩
      · generalize j - K.length = q at hj'
        cases q with
        | zero => cases hj'; obtain ⟨q, c, hq, hc⟩ := hx; exact hm.ap (K.length + q) l c b (by have := lt_of_get hl'; omega) (get_right hq) (get_left hl') x hc hb
        | succ q => simp at hj'
      · have e1 : j - K.length = 0 := by
          rcases Nat.eq_zero_or_pos (j - K.length) with h | h
          · exact h
          · rw [List.getElem?_eq_none (by simp; omega)] at hj'; cases hj'
        have e2 : l - K.length = 0 := by
          rcases Nat.eq_zero_or_pos (l - K.length) with h | h
          · exact h
          · rw [List.getElem?_eq_none (by simp; omega)] at hl'; cases hl'
        omega
  · intro j r hj x hx
    rcases get_app hj with hj | ⟨_, hj⟩
    · exact hm.nw j r (get_left hj) x hx
    · generalize j - K.length = q at hj
      cases q with
      | zero => cases hj; obtain ⟨l, a, hl, ha⟩ := hx; exact hm.nw _ a (get_right hl) x ha
      | succ q => simp at hj
/-- A thing is told otherwise. -/
theorem Hp.repl (hm : Hp Z0 S w0 w L) (i : Nat) {r : Rs} (r' : Rs) (hi : L[i]? = some r) (hF : ∀ x, r'.F x ↔ r.F x) (hH : ∀ Z, r.H Z w → r'.H Z w) : Hp Z0 S w0 w (L.set i r') :=
  hm.upd i r' hi (Fr.refl _ _) (fun x hx => .inl ((hF x).1 hx)) fun Z' h1 _ => r'.keep (hH _ (hm.hs i r hi)) (fun _ _ _ => rfl) (fun _ _ _ => rfl) h1
/-- A thing that may be missing. -/
def optR {α : Type} (o : Option α) (R : α → Rs) : Rs where
  F := fun x => ∃ z, o = some z ∧ (R z).F x
  H := fun Z w => ∀ z, o = some z → (R z).H Z w
  keep := fun h hF hZ hZ' z hz => (R z).keep (h z hz) (fun b hb hlt => hF b ⟨z, hz, hb⟩ hlt) hZ hZ'
  lt := fun h b ⟨z, hz, hb⟩ => (R z).lt (h z hz) b hb
def optP {α : Type} (b : Nat) (o : Option α) : Option Addr := match o with | some _ => some ⟨b, 0, none⟩ | none => none
theorem Hp.optSome {α : Type} {o : Option α} {R : α → Rs} {z : α} (hm : Hp Z0 S w0 w L) (i : Nat) (hi : L[i]? = some (optR o R)) (h : o = some z) : Hp Z0 S w0 w (L.set i (R z)) :=
  hm.repl i (R z) hi (fun x => ⟨fun hx => ⟨z, h, hx⟩, fun ⟨z', h', hx⟩ => by rw [h] at h'; cases h'; exact hx⟩) fun Z hh => hh z h
theorem Hp.toSome {α : Type} {R : α → Rs} {z : α} (hm : Hp Z0 S w0 w L) (i : Nat) (hi : L[i]? = some (R z)) : Hp Z0 S w0 w (L.set i (optR (some z) R)) :=
  hm.repl i (optR (some z) R) hi (fun x => ⟨fun ⟨z', h', hx⟩ => by cases h'; exact hx, fun hx => ⟨z, rfl, hx⟩⟩) fun Z hh z' h' => by cases h'; exact hh
theorem Hp.addNone {α : Type} (R : α → Rs) (hm : Hp Z0 S w0 w L) : Hp Z0 S w0 w (L ++ [optR (none : Option α) R]) :=
  hm.know _ (fun x ⟨z, h, _⟩ => by cases h) fun z h => by cases h
theorem Hp.toOpt {α : Type} {R : α → Rs} {o : Option α} {z : α} (hm : Hp Z0 S w0 w L) (i : Nat) (hi : L[i]? = some (R z)) (h : o = some z) : Hp Z0 S w0 w (L.set i (optR o R)) := by subst h; exact hm.toSome i hi
/- READ ONLY: a thing whose blocks all stay -/
def fzR (r : Rs) : Rs where
  F := No
  H := fun Z w => r.H Z w ∧ ∀ b, r.F b → Z b
  keep := fun ⟨h1, h2⟩ _ hZ hZ' => ⟨r.keep h1 (fun b hb hlt => hZ b (h2 b hb) hlt) hZ hZ', fun b hb => hZ' b (h2 b hb) (r.lt h1 b hb)⟩
  lt := fun _ _ h => h.elim
theorem fz_all {r : Rs} {Z : Nat → Prop} (h : r.H Z w) : (fzR r).H All w := ⟨r.keep h (fun _ _ _ => rfl) (fun _ _ _ => rfl) (fun _ _ _ => trivial), fun _ _ => trivial⟩
theorem fz_fz {r : Rs} {Z : Nat → Prop} (h : (fzR r).H Z w) : (fzR r).H All w := fz_all h.1
theorem Hp.knowL : ∀ (M : List Rs) (L : List Rs), Hp Z0 S w0 w L → (∀ r ∈ M, (∀ x, ¬ r.F x) ∧ r.H (Zo Z0 S w0 L) w) → Hp Z0 S w0 w (L ++ M)
  | [], L, hm, _ => by rw [List.append_nil]; exact hm
  | r :: M, L, hm, h => by
    obtain ⟨h1, h2⟩ := h r (by simp)
    have hm' := hm.know r h1 h2
    have := Hp.knowL M (L ++ [r]) hm' fun r' hr' => ⟨(h r' (by simp [hr'])).1, r'.keep (h r' (by simp [hr'])).2 (fun _ _ _ => rfl) (fun _ _ _ => rfl) fun b ⟨hb, hn⟩ _ => ⟨hb, fun j a hj ha => by
      rcases get_app hj with hj | ⟨_, hj⟩
      · exact hn j a hj ha
      · generalize j - L.length = q at hj
        cases q with
        | zero => cases hj; exact h1 b ha
        | succ q => simp at hj⟩⟩
    rw [List.append_assoc] at this
    exact this
theorem kn0 {Q : Rs → Prop} : ∀ r ∈ ([] : List Rs), Q r := fun _ h => by cases h
theorem knC {Z : Nat → Prop} {a : Rs} {M : List Rs} (h1 : ∀ x, ¬ a.F x) (h2 : a.H Z w) (h : ∀ r ∈ M, (∀ x, ¬ r.F x) ∧ r.H Z w) : ∀ r ∈ a :: M, (∀ x, ¬ r.F x) ∧ r.H Z w := fun r hr => by
  rcases List.mem_cons.1 hr with rfl | hr
  · exact ⟨h1, h2⟩
  · exact h r hr
/-- What was known ahead of a thing that has no blocks. -/
theorem Hp.know1 {a : Rs} {M : List Rs} (hm : Hp Z0 S w0 w (L ++ [a])) (ha : ∀ x, ¬ a.F x) (h : ∀ r ∈ M, (∀ x, ¬ r.F x) ∧ r.H (Zo Z0 S w0 L) w) : Hp Z0 S w0 w (L ++ [a] ++ M) :=
  Hp.knowL M (L ++ [a]) hm fun r hr => ⟨(h r hr).1, r.keep (h r hr).2 (fun _ _ _ => rfl) (fun _ _ _ => rfl) fun b ⟨hb, hn⟩ _ => ⟨hb, fun j c hj hc => by
    rcases get_app hj with hj | ⟨_, hj⟩
    · exact hn j c hj hc
    · generalize j - L.length = q at hj
      cases q with
      | zero => cases hj; exact ha b hc
      | succ q => simp at hj⟩⟩
theorem Hp.getz {r : Rs} (hm : Hp Z0 S w0 w L) (i : Nat) (hi : L[i]? = some (fzR r)) : r.H (Zo Z0 S w0 L) w := (hm.hs i _ hi).1
theorem Hp.unfz (hm : Hp Z0 S w0 w L) (i : Nat) (hi : L[i]? = some (fzR (objR F P))) : ∃ M, P M ∧ Hp Z0 S w0 w (L ++ M.map fzR) := by
  obtain ⟨⟨M, hP, hF, hH, hA⟩, hZ⟩ := hm.hs i _ hi
  refine ⟨M, hP, Hp.knowL _ _ hm fun r hr => ?_⟩
  obtain ⟨a, ha, rfl⟩ := List.mem_map.1 hr
  obtain ⟨j, hj, rfl⟩ := List.getElem_of_mem ha
  exact ⟨fun _ h => h, hH j _ (List.getElem?_eq_getElem hj), fun b hb => hZ b ((hF b).2 ⟨j, _, List.getElem?_eq_getElem hj, hb⟩)⟩
theorem Hp.fzSl {α : Type} {et : TypeId} {A : Option Addr} {c : Nat} {rep : Rep α} {xs : List α} (hm : Hp Z0 S w0 w L) (i : Nat) (hi : L[i]? = some (fzR (ownR et A c rep xs))) : Hp Z0 S w0 w (L ++ [slR A c rep xs]) := by
  obtain ⟨h1, h2⟩ := hm.hs i _ hi
  exact hm.know _ (fun _ h => h) ⟨h1.1, h1.2.1, (Own.sl h1).mono fun b hb => hb.elim id (h2 b)⟩
theorem Hp.fzS {α : Type} {A : Option Addr} {c : Nat} {rep : Rep α} {xs : List α} (hm : Hp Z0 S w0 w L) (i : Nat) (hi : L[i]? = some (fzR (slR A c rep xs))) : Hp Z0 S w0 w (L ++ [slR A c rep xs]) :=
  hm.know _ (fun _ h => h) (hm.hs i _ hi).1
theorem Hp.fzSome {α : Type} {o : Option α} {R : α → Rs} {z : α} (hm : Hp Z0 S w0 w L) (i : Nat) (hi : L[i]? = some (fzR (optR o R))) (h : o = some z) : Hp Z0 S w0 w (L ++ [fzR (R z)]) := by
  obtain ⟨h1, h2⟩ := hm.hs i _ hi
  exact hm.know _ (fun _ h => h) ⟨h1 z h, fun b hb => h2 b ⟨z, h, hb⟩⟩
/-- What is known of a struct's cells. -/
def relR {α : Type} (rep : Rep α) (cs : List Value) (x : α) : Rs where
  F := No
  H := fun Z w => rep.rel Z w cs x
  keep := fun h _ hZ hZ' => rep.mono (rep.keep (rep.bd h) fun b hb hlt => hZ b hb.1 hlt) fun b hb => hZ' b hb.1 hb.2
  lt := fun _ _ h => h.elim
end
section
variable {P : Program} {n : Nat} {e : Env} {w : World} {dst : Option Nat} {ty : TypeId} {pos : String} {af : Array Edge} {g : Option (Nat × Bool)}
theorem optP_none {α : Type} (b : Nat) (o : Option α) : (optP b o).isNone = o.isNone := by cases o <;> rfl
theorem V.eqlO {α : Type} {x y : Operand} {b : Nat} {o : Option α} {t el u : TypeId} (ht : P.underlying t = some (.pointer el)) (hx : ev e x = some (.pointer (optP b o))) (hy : ev e y = some (.pointer none)) :
    OpV P n e w ⟨dst, .binOp .eql t x y u, ty, pos, af, g⟩ (.bool o.isNone) w := by
  have := V.eqlP (P := P) (n := n) (w := w) (dst := dst) (ty := ty) (pos := pos) (af := af) (g := g) (u := u) ht hx hy
  rw [optP_none] at this; exact this
theorem V.neqO {α : Type} {x y : Operand} {b : Nat} {o : Option α} {t el u : TypeId} (ht : P.underlying t = some (.pointer el)) (hx : ev e x = some (.pointer (optP b o))) (hy : ev e y = some (.pointer none)) :
    OpV P n e w ⟨dst, .binOp .neq t x y u, ty, pos, af, g⟩ (.bool (!o.isNone)) w := by
  have := V.neqP (P := P) (n := n) (w := w) (dst := dst) (ty := ty) (pos := pos) (af := af) (g := g) (u := u) ht hx hy
  have h2 : (optP b o).isSome = !o.isNone := by cases o <;> rfl
  rw [h2] at this; exact this
end
end Go.Wk
