/-
  The join: from a walk that ends in 'true' and leaves all blocks that were there, to what a row asks of the call. Plain laws over any program.
-/
import Derived.Test.YtlfppodekihcmaaGreatDoorWi
import Derived.Test.YtlfppodekihcmaaGreatDoorRows
import Derived.WalkKit
import Derived.ProofKit
import Derived.OpenShut
import Derived.JoinedCond
import Derived.Carry
import Derived.Below
import Derived.ChangeSame
import Derived.Deep.Slices
import Derived.Deep.Fields
set_option linter.unusedVariables false
set_option linter.unusedSimpArgs false
namespace Go.Wk
open Go Go.RowKit Go.WideShapes Go.ChangeShapes
section
variable {H : Type} {enc : TypeId × Value → H} {P : Program}
theorem trodAll_stays {W W' : World} {sp : Nat → Bool} (hl : laidOutB P = true) : ∀ {ts : List TypeId} {vs : List Value} {ds : List (DataW H)} {ps : List MemPlace}, (∀ t ∈ ts, P.readableRec t = true ∧ t < P.types.size) →
    DataW.TrodAll enc P W 0 (fun _ => true) true ts vs ds ps → (∀ x ∈ ps, W.sameAt W' x) → (∀ x ∈ ps, sp x.block = true) → DataW.TrodAll enc P W' 0 sp true ts vs ds ps
  | [], vs, ds, ps, _, h, _, _ => by obtain ⟨rfl, rfl, rfl⟩ := trodAll_nil h; exact trodAll_mk0
  | t :: ts, vs, ds, ps, hr, h, hs, hp => by
    obtain ⟨v, vs', d, ds', p, q, rfl, rfl, rfl, h0, h1⟩ := trodAll_cons h
    exact trodAll_cons_mk (WideElems.Trod_stays hl (hr t (by simp)).1 (hr t (by simp)).2 h0 (fun x hx => hs x (by simp [hx])) (fun x hx => hp x (by simp [hx])))
      (trodAll_stays hl (fun t' ht => hr t' (by simp [ht])) h1 (fun x hx => hs x (by simp [hx])) (fun x hx => hp x (by simp [hx])))
/-- The row's last step, where all that was there has stayed. -/
theorem post_of_ext {f : Func} {s : ChangeSpec} {W W' : World} {args : Array Value} {ds gs : List (DataW H)} {before : List MemPlace} {tb : TypeId} (hl : laidOutB P = true) (hr : ∀ t ∈ f.params.toList, P.readableRec t = true ∧ t < P.types.size)
    (hW : DataW.Whole enc P f.params.toList s.vars false W args.toList ds gs before) (hv : s.vars = []) (hres : f.resultTypes = #[tb]) (htb : P.underlying tb = some .bool)
    (h1 : (s.fn H (ds ++ gs)).results = [.lit (.bool true)]) (h2 : (s.fn H (ds ++ gs)).args = ds) (h3 : (s.fn H (ds ++ gs)).vars = []) (hE : Ext W W') :
    s.post enc P f false true false false W args (.bool true) W' := by
  have hb := hE.below
  have hW0 := hW
  obtain ⟨p, q, hA, hV, hpq, hz, hn⟩ := hW
  rw [hv] at hV
  obtain ⟨rfl, rfl⟩ := trodVars_none hV
  have hlt : ∀ x ∈ before, x.block < W.heap.size := fun x hx => hW0.lt x hx
  have hpb : ∀ x ∈ p, x ∈ before := fun x hx => by rw [hpq]; simpa using hx
  have hold : ∀ x ∈ before, (fun b => decide (b < W.heap.size)) x.block = true := fun x hx => by simpa using hlt x hx
  have hargs : ∀ sp : Nat → Bool, (∀ x ∈ before, sp x.block = true) → DataW.TrodAll enc P W' 0 sp true f.params.toList args.toList (s.fn H (ds ++ [])).args p := fun sp hsp => by
    rw [h2]; exact trodAll_stays hl hr hA (fun x hx => hb.same (hlt x (hpb x hx))) (fun x hx => hsp x (hpb x hx))
  have hvars : ∀ sp : Nat → Bool, DataW.TrodVars enc P W' sp s.vars (s.fn H (ds ++ [])).vars [] := fun sp => by rw [hv, h3]; rfl
  have hresT : ∀ (b : Nat) (sp : Nat → Bool) (hd : Bool), DataW.TrodAll enc P W' b sp hd f.resultTypes.toList ((Value.bool true).resultList f.resultTypes.size) (s.fn H (ds ++ [])).results [] := fun b sp hd => by
    rw [h1, hres]
    exact trodAll_cons_mk (shut_bool htb _) trodAll_mk0
  refine ⟨ds, [], before, [], p, [], hW0, hresT _ _ _, hargs _ hold, hvars _, World.keptBut_mono (fun x hx => ⟨hx, ?_⟩) (hb.frame (· ∈ before)), fun _ => ?_⟩
  · rw [hpq, List.mem_append] at hx; exact Or.inr hx
  · refine ⟨ok_one hres rfl (okWide_bool_mk htb _), _, _, ([] ++ p) ++ [], ⟨[] ++ p, [], trodAll_append (hargs _ (fun _ _ => rfl)) (hresT _ _ _), hvars _, rfl, ?_, ?_⟩, ?_⟩
    · intro b off hp
      have hin : MemPlace.cell b off ∈ before := by rw [hpq]; simpa using hp
      rw [hb.frozen (hlt _ hin)]
      exact hz b off hin
    · intro ha; cases ha
    · intro x hx _
      rw [hpq]; simpa using hx
end
end Go.Wk
namespace Go.Wk
open Go Go.RowKit Go.WideShapes Go.ChangeShapes
section
variable {H : Type} {enc : TypeId × Value → H} {P : Program} {w : World} {sp : Nat → Bool} {hd : Bool}
/-- What is read as of this type lies there as the representation says. -/
def Reads {α : Type} (enc : TypeId × Value → H) (P : Program) (w : World) (sp : Nat → Bool) (hd : Bool) (e : TypeId) (rep : Rep α) : Prop := ∀ n cs x, DataW.trod enc P w 0 sp hd n e cs = some x → ∃ z, rep.rel All w cs z
theorem list_of {α : Type} {p : Nat → α → Prop} : ∀ (n : Nat), (∀ i, i < n → ∃ z, p i z) → ∃ xs : List α, xs.length = n ∧ ∀ k x, xs[k]? = some x → p k x
  | 0, _ => ⟨[], rfl, fun k x h => by simp at h⟩
  | n + 1, h => by
    obtain ⟨xs, h1, h2⟩ := list_of n fun i hi => h i (by omega)
    obtain ⟨z, hz⟩ := h n (by omega)
    refine ⟨xs ++ [z], by simp [h1], fun k x hx => ?_⟩
    by_cases hk : k < xs.length
    · rw [List.getElem?_append_left hk] at hx; exact h2 k x hx
    · rw [List.getElem?_append_right (by omega)] at hx
      have hk0 : k - xs.length = 0 := by
        rcases Nat.eq_zero_or_pos (k - xs.length) with hh | hh
        · exact hh
        · rw [List.getElem?_eq_none (by simp; omega)] at hx; cases hx
      rw [hk0] at hx
      simp at hx
      subst hx
      have : k = n := by omega
      subst this; exact hz
theorem reads_sl {α : Type} {rep : Rep α} {t e : TypeId} (ht : P.underlying t = some (.slice e)) (hsz : P.cellsOf e = rep.sz) (hr : Reads enc P w sp hd e rep) : Reads enc P w sp hd t (Rep.sl rep) := by
  intro n cs x h
  rcases Go.Deep.open_slice ht h with ⟨rfl, _⟩ | ⟨a, len, cap, m, n', D, Pl, rfl, _, hl, hm, hmm, _, hi⟩
  · exact ⟨[], none, 0, rfl, Nat.le_refl _, Nat.zero_le _, Sl.nil _ _ _ _⟩
  · have hlm : len ≤ m := by rw [hmm]; split <;> omega
    obtain ⟨xs, h1, h2⟩ := list_of (p := fun i z => ∃ cs', w.cells? 0 (a.add (i * rep.sz)) rep.sz = some cs' ∧ rep.rel All w cs' z) len (fun i hlt => by
      obtain ⟨cs', hc, htr⟩ := hi i (by omega)
      rw [hsz] at hc
      obtain ⟨z, hz⟩ := hr _ _ _ htr
      exact ⟨z, cs', hc, hz⟩)
    subst h1
    refine ⟨xs, some a, cap, rfl, hl, hm, fun hne => ?_⟩
    have hnone : a.spot = none := by
      cases xs with
      | nil => exact (hne rfl).elim
      | cons z r =>
        obtain ⟨cs', hc, hz⟩ := h2 0 z rfl
        obtain ⟨_, hlen, hcell⟩ := World.cells?_some hc
        have h0 := hcell 0 rep.pos
        have hpos := rep.pos
        obtain ⟨b, o, s⟩ := a
        cases s with
        | none => rfl
        | some s =>
          have hx : cs'[0]? = some cs'[0] := List.getElem?_eq_getElem (by omega)
          rw [hx] at h0
          simp only [World.cell?, Addr.add, Nat.zero_mul, if_true] at h0
          split at h0 <;> simp at h0
    obtain ⟨b, o, s⟩ := a
    cases hnone
    refine ⟨b, o, rfl, trivial, fun k x hx => ?_⟩
    obtain ⟨cs', hc, hz⟩ := h2 k x hx
    obtain ⟨_, hlen, hcell⟩ := World.cells?_some hc
    refine ⟨cs', fun j v hv => ?_, hz⟩
    have hj : j < rep.sz := by rw [← hlen]; exact lt_of_get hv
    have := hcell j hj
    rw [Addr.add_none, Addr.add_none] at this
    rw [this]; exact hv
end
end Go.Wk
