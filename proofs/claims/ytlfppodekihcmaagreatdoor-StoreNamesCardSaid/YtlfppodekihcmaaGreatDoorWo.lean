/-
  The join for plain forms: what is read as of a type lies there as its representation says. Plain laws over any program.
-/
import Derived.Test.YtlfppodekihcmaaGreatDoorWj
import Derived.Test.YtlfppodekihcmaaGreatDoorWn
set_option linter.unusedVariables false
set_option linter.unusedSimpArgs false
namespace Go.Wk
open Go Go.RowKit Go.WideShapes Go.ChangeShapes
section
variable {H : Type} {enc : TypeId × Value → H} {P : Program} {w : World} {sp : Nat → Bool} {hd : Bool}
/-- The same, with what is known of all that is read. -/
def ReadsP {α : Type} (enc : TypeId × Value → H) (P : Program) (w : World) (sp : Nat → Bool) (hd : Bool) (e : TypeId) (rep : Rep α) (Q : α → Prop) : Prop := ∀ n cs x, DataW.trod enc P w 0 sp hd n e cs = some x → ∃ z, rep.rel All w cs z ∧ Q z
theorem reads_int {q : IntKind} {t : TypeId} (ht : P.underlying t = some (.int q)) : ReadsP enc P w sp hd t (intR q) (fun z => (Lit.int q z).wf = true) := by
  intro n cs x h
  obtain ⟨z, rfl, _, hw⟩ := DataW.trod_int ht h
  exact ⟨z, ⟨rfl, trivial⟩, hw⟩
theorem reads_byte {t : TypeId} (ht : P.underlying t = some (.int .u8)) : ReadsP enc P w sp hd t byteR (fun _ => True) := by
  intro n cs x h
  obtain ⟨z, rfl, _, hw⟩ := DataW.trod_int ht h
  obtain ⟨h0, h1⟩ := bounds_u8 hw
  refine ⟨UInt8.ofNat z.toNat, ⟨?_, trivial⟩, trivial⟩
  show [Value.int .u8 z] = [Value.int .u8 _]
  congr 2
  rw [UInt8.toNat_ofNat']; omega
theorem reads_w32 {t : TypeId} (ht : P.underlying t = some (.int .u32)) : ReadsP enc P w sp hd t w32R (fun _ => True) := by
  intro n cs x h
  obtain ⟨z, rfl, _, hw⟩ := DataW.trod_int ht h
  obtain ⟨h0, h1⟩ := bounds_u32 hw
  refine ⟨UInt32.ofNat z.toNat, ⟨?_, trivial⟩, trivial⟩
  show [Value.int .u32 z] = [Value.int .u32 _]
  congr 2
  rw [UInt32.toNat_ofNat']; omega
theorem reads_w64 {t : TypeId} (ht : P.underlying t = some (.int .u64)) : ReadsP enc P w sp hd t w64R (fun _ => True) := by
  intro n cs x h
  obtain ⟨z, rfl, _, hw⟩ := DataW.trod_int ht h
  obtain ⟨h0, h1⟩ := bounds_u64 hw
  refine ⟨UInt64.ofNat z.toNat, ⟨?_, trivial⟩, trivial⟩
  show [Value.int .u64 z] = [Value.int .u64 _]
  congr 2
  rw [UInt64.toNat_ofNat']; omega
theorem reads_bool {t : TypeId} (ht : P.underlying t = some .bool) : ReadsP enc P w sp hd t boolR (fun _ => True) := by
  intro n cs x h
  obtain ⟨z, rfl, _⟩ := DataW.trod_bool ht h
  exact ⟨z, ⟨rfl, trivial⟩, trivial⟩
theorem reads_text {t : TypeId} (ht : P.underlying t = some .string) : ReadsP enc P w sp hd t textR (fun z => z.length ≤ maxLen) := by
  intro n cs x h
  obtain ⟨s, rfl, _, hw⟩ := DataW.trod_string ht h
  refine ⟨s.data.toList, ⟨?_, trivial⟩, by simpa using hw⟩
  show [Value.string s] = [Str s.data.toList]
  simp [Str]
theorem reads_slP {α : Type} {rep : Rep α} {Q : α → Prop} {t e : TypeId} (ht : P.underlying t = some (.slice e)) (hsz : P.cellsOf e = rep.sz) (hr : ReadsP enc P w sp hd e rep Q) : ReadsP enc P w sp hd t (Rep.sl rep) (fun l => l.length ≤ maxLen ∧ ∀ z ∈ l, Q z) := by
  intro n cs x h
  rcases Go.Deep.open_slice ht h with ⟨rfl, _⟩ | ⟨a, len, cap, m, n', D, Pl, rfl, _, hl, hm, hmm, _, hi⟩
  · exact ⟨[], ⟨none, 0, rfl, Nat.le_refl _, Nat.zero_le _, Sl.nil _ _ _ _⟩, Nat.zero_le _, fun _ h => (by cases h)⟩
  · have hlm : len ≤ m := by rw [hmm]; split <;> omega
    obtain ⟨xs, h1, h2⟩ := list_of (p := fun i z => ∃ cs', w.cells? 0 (a.add (i * rep.sz)) rep.sz = some cs' ∧ rep.rel All w cs' z ∧ Q z) len (fun i hlt => by
      obtain ⟨cs', hc, htr⟩ := hi i (by omega)
      rw [hsz] at hc
      obtain ⟨z, hz⟩ := hr _ _ _ htr
      exact ⟨z, cs', hc, hz⟩)
    subst h1
    have hQ : xs.length ≤ maxLen ∧ ∀ z ∈ xs, Q z := ⟨Nat.le_trans hl hm, fun z hz => by
      obtain ⟨k, hk, rfl⟩ := List.getElem_of_mem hz
      obtain ⟨_, _, _, hq⟩ := h2 k _ (List.getElem?_eq_getElem hk)
      exact hq⟩
    refine ⟨xs, ⟨some a, cap, rfl, hl, hm, fun hne => ?_⟩, hQ⟩
    have hnone : a.spot = none := by
      cases xs with
      | nil => exact (hne rfl).elim
      | cons z r =>
        obtain ⟨cs', hc, hz, _⟩ := h2 0 z rfl
        obtain ⟨_, hlen, hcell⟩ := World.cells?_some hc
        have h0 := hcell 0 rep.pos
        have hpos := rep.pos
        obtain ⟨b, o, s⟩ := a
        cases s with
        | none => rfl
        | some s =>
          have hx : cs'[0]? = some cs'[0] := List.getElem?_eq_getElem (by omega)
          rw [hx] at h0
          simp only [World.cell?, Addr.add, Nat.zero_mul, if_true] at h0
          split at h0 <;> simp at h0
    obtain ⟨b, o, s⟩ := a
    cases hnone
    refine ⟨b, o, rfl, trivial, fun k x hx => ?_⟩
    obtain ⟨cs', hc, hz, _⟩ := h2 k x hx
    obtain ⟨_, hlen, hcell⟩ := World.cells?_some hc
    refine ⟨cs', fun j v hv => ?_, hz⟩
    have hj : j < rep.sz := by rw [← hlen]; exact lt_of_get hv
    have := hcell j hj
    rw [Addr.add_none, Addr.add_none] at this
    rw [this]; exact hv
/- structs: field by field -/
theorem two_at {α β : Type} {r : Rep α} {r' : Rep β} {D : Nat → Prop} {cs : List Value} {x : α} {y : β} (o s : Nat) (h : r.rel D w ((cs.drop o).take s) x) (h' : r'.rel D w (cs.drop (o + s)) y) : (Rep.two r r').rel D w (cs.drop o) (x, y) :=
  ⟨(cs.drop o).take s, cs.drop (o + s), by rw [← List.drop_drop, List.take_append_drop], h, h'⟩
theorem last_at {α : Type} {r : Rep α} {D : Nat → Prop} {cs : List Value} {x : α} (o s : Nat) (hl : cs.length = o + s) (h : r.rel D w ((cs.drop o).take s) x) : r.rel D w (cs.drop o) x := by
  rw [List.take_of_length_le (by simp; omega)] at h; exact h
theorem some_at {α : Type} {xs : List α} {n : Nat} (i : Nat) (hl : xs.length = n) (h : i < n) : ∃ y, xs[i]? = some y := ⟨xs[i]'(by omega), List.getElem?_eq_getElem (by omega)⟩
/- arguments -/
theorem arg_text {t : TypeId} {v : Value} {r : Reach} {b0 : Nat} {d : DataW H} {p : List MemPlace} (ht : P.underlying t = some .string) (hval : Value.okWide P w r b0 t v) (h : DataW.Trod enc P w 0 sp hd t v d p) : ∃ l : List UInt8, v = Str l ∧ l.length ≤ maxLen := by
  obtain ⟨s, rfl⟩ := okWide_string ht hval
  obtain ⟨f, hf⟩ := h
  obtain ⟨z, ⟨hz, _⟩, hq⟩ := reads_text ht _ _ _ hf
  exact ⟨z, by simpa [Value.cells] using hz, hq⟩
theorem arg_bool {t : TypeId} {v : Value} {r : Reach} {b0 : Nat} (ht : P.underlying t = some .bool) (hval : Value.okWide P w r b0 t v) : ∃ b : Bool, v = .bool b := okWide_bool ht hval
theorem arg_int {q : IntKind} {t : TypeId} {v : Value} {r : Reach} {b0 : Nat} {d : DataW H} {p : List MemPlace} (ht : P.underlying t = some (.int q)) (hval : Value.okWide P w r b0 t v) (h : DataW.Trod enc P w 0 sp hd t v d p) : ∃ z : Int, v = .int q z ∧ (Lit.int q z).wf = true := by
  obtain ⟨z, h1, _, _, h2⟩ := open_int ht hval h
  exact ⟨z, h1, h2⟩
theorem arg_w8 {t : TypeId} {v : Value} {r : Reach} {b0 : Nat} {d : DataW H} {p : List MemPlace} (ht : P.underlying t = some (.int .u8)) (hval : Value.okWide P w r b0 t v) (h : DataW.Trod enc P w 0 sp hd t v d p) : ∃ z : UInt8, v = .int .u8 z.toNat := by
  obtain ⟨z, rfl, hw⟩ := arg_int ht hval h
  obtain ⟨h0, h1⟩ := bounds_u8 hw
  exact ⟨UInt8.ofNat z.toNat, by congr 1; rw [UInt8.toNat_ofNat']; omega⟩
theorem arg_w32 {t : TypeId} {v : Value} {r : Reach} {b0 : Nat} {d : DataW H} {p : List MemPlace} (ht : P.underlying t = some (.int .u32)) (hval : Value.okWide P w r b0 t v) (h : DataW.Trod enc P w 0 sp hd t v d p) : ∃ z : UInt32, v = .int .u32 z.toNat := by
  obtain ⟨z, rfl, hw⟩ := arg_int ht hval h
  obtain ⟨h0, h1⟩ := bounds_u32 hw
  exact ⟨UInt32.ofNat z.toNat, by congr 1; rw [UInt32.toNat_ofNat']; omega⟩
theorem arg_w64 {t : TypeId} {v : Value} {r : Reach} {b0 : Nat} {d : DataW H} {p : List MemPlace} (ht : P.underlying t = some (.int .u64)) (hval : Value.okWide P w r b0 t v) (h : DataW.Trod enc P w 0 sp hd t v d p) : ∃ z : UInt64, v = .int .u64 z.toNat := by
  obtain ⟨z, rfl, hw⟩ := arg_int ht hval h
  obtain ⟨h0, h1⟩ := bounds_u64 hw
  exact ⟨UInt64.ofNat z.toNat, by congr 1; rw [UInt64.toNat_ofNat']; omega⟩
theorem arg_slice {α : Type} {rep : Rep α} {Q : α → Prop} {t e : TypeId} {v : Value} {r : Reach} {b0 : Nat} {d : DataW H} {p : List MemPlace} (ht : P.underlying t = some (.slice e)) (hsz : P.cellsOf e = rep.sz) (hr : ReadsP enc P w sp hd e rep Q) (hval : Value.okWide P w r b0 t v) (h : DataW.Trod enc P w 0 sp hd t v d p) :
    ∃ (l : List α) (A : Option Addr) (c : Nat), v = .slice A l.length c ∧ (slR A c rep l).H All w ∧ l.length ≤ maxLen ∧ ∀ z ∈ l, Q z := by
  obtain ⟨ad, len, cap, rfl⟩ := okWide_slice ht hval
  obtain ⟨f, hf⟩ := h
  obtain ⟨l, ⟨A, c, hcs, hlc, hcm, hS⟩, hq⟩ := reads_slP ht hsz hr _ _ _ hf
  exact ⟨l, A, c, by simpa [Value.cells] using hcs, ⟨hlc, hcm, hS⟩, hq⟩
theorem arg_agg {α : Type} {rep : Rep α} {Q : α → Prop} {t : TypeId} {fs : Array Field} {v : Value} {r : Reach} {b0 : Nat} {d : DataW H} {p : List MemPlace} (ht : P.underlying t = some (.struct fs)) (hr : ReadsP enc P w sp hd t rep Q) (hval : Value.okWide P w r b0 t v) (h : DataW.Trod enc P w 0 sp hd t v d p) :
    ∃ (z : α) (cs : List Value), v = .agg cs.toArray ∧ rep.rel All w cs z ∧ Q z := by
  obtain ⟨a, rfl, _⟩ := okWide_struct ht hval
  obtain ⟨f, hf⟩ := h
  obtain ⟨z, hz, hq⟩ := hr _ _ _ hf
  exact ⟨z, a.toList, by simp, by simpa [Value.cells] using hz, hq⟩
end
end Go.Wk
