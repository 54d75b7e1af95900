/-
  What is to be sent, and how far it was acknowledged, on lists. Plain Lean.
-/
import Derived.Test.YtpeloppldpdonaaPe
namespace Go.Wk
open Go Go.RowKit
abbrev Span := Int × Int
def spanR : Rep Span := Rep.flat 2 (fun x => [.int .i64 x.1, .int .i64 x.2]) (fun _ => True) (fun _ => rfl) (fun _ => by simp [Value.oneCell']) (by decide)
theorem span_flat : spanR.Flat := Rep.flat_flat _ _ _ _ _ _
def restOf (l : List Span) (ack : Int) : Int := (l.filter (fun x => decide (ack < x.2))).length
theorem restOf_succ (l : List Span) (ack : Int) (k : Nat) (z : Span) (hz : l[k]? = some z) : restOf (l.take (k+1)) ack = restOf (l.take k) ack + if ack < z.2 then 1 else 0 := by
  unfold restOf
  rw [List.take_add_one, hz]
  simp only [Option.toList_some, List.filter_append, List.length_append]
  by_cases h : ack < z.2 <;> simp [h]
theorem restOf_le (l : List Span) (ack : Int) (k : Nat) : 0 ≤ restOf (l.take k) ack ∧ restOf (l.take k) ack ≤ l.length := by
  unfold restOf
  have := List.length_filter_le (fun x : Span => decide (ack < x.2)) (l.take k)
  have := List.length_take_le k l
  rw [List.length_take] at *
  omega
def dueStep (ack win : Int) (out : List Span) (z : Span) : List Span := if ack < z.2 ∧ (out.length : Int) < win then out ++ [z] else out
def dueOf (l : List Span) (ack win : Int) : List Span := l.foldl (dueStep ack win) []
theorem dueOf_succ (l : List Span) (ack win : Int) (k : Nat) (z : Span) (hz : l[k]? = some z) : dueOf (l.take (k+1)) ack win = dueStep ack win (dueOf (l.take k) ack win) z := by
  unfold dueOf
  rw [List.take_add_one, hz]
  simp only [Option.toList_some, List.foldl_append, List.foldl_cons, List.foldl_nil]
theorem dueOf_len (l : List Span) (ack win : Int) : ∀ k, (dueOf (l.take k) ack win).length ≤ k
  | 0 => by simp [dueOf]
  | k + 1 => by
    have ih := dueOf_len l ack win k
    cases hz : l[k]? with
    | none =>
      have : l.take (k + 1) = l.take k := by rw [List.take_add_one, hz]; simp
      rw [this]; omega
    | some z =>
      rw [dueOf_succ l ack win k z hz]
      unfold dueStep
      split
      · rw [List.length_append]; simp; omega
      · omega
def ackB : List UInt8 := [97, 99, 107]
/-- The sender of a disk: how far it was acknowledged. -/
def PD.openS (s : PD) : PD × Option Nat × Int :=
  if (s.load ackB).2.e ≠ 0 then ((s.load ackB).1, none, (s.load ackB).2.e) else
  if (s.load ackB).2.is = false then ((s.load ackB).1, some 0, 0) else
  if (s.load ackB).2.b.length ≠ 8 ∨ numL (s.load ackB).2.b > 4503599627370497 then ((s.load ackB).1, none, 15) else ((s.load ackB).1, some (numL (s.load ackB).2.b), 0)
theorem fix_done (b : List UInt8) : (((⟨b, 0, 0⟩ : RS).fix.2.done ≠ 0 ∨ (⟨b, 0, 0⟩ : RS).fix.1 > 4503599627370497) ↔ (b.length ≠ 8 ∨ numL b > 4503599627370497)) ∧ (b.length = 8 → (⟨b, 0, 0⟩ : RS).fix.1 = numL b) := by
  have hr : (⟨b, 0, 0⟩ : RS).raw 8 = if (8 : Int) > b.length then ([], ⟨b, 0, 2⟩) else (b.take 8, ⟨b, 8, 0⟩) := by
    unfold RS.raw
    rw [if_neg (by simp), if_neg (by decide)]
    by_cases h : (8 : Int) > b.length
    · rw [if_pos (by simpa using h), if_pos h]; rfl
    · rw [if_neg (by simpa using h), if_neg h]; rfl
  unfold RS.fix
  rw [hr]
  by_cases h : (8 : Int) > b.length
  · rw [if_pos h]
    refine ⟨⟨fun _ => .inl (by omega), fun _ => .inl (by show (⟨b, 0, 2⟩ : RS).done ≠ 0; unfold RS.done; simp)⟩, fun hh => by omega⟩
  · rw [if_neg h]
    by_cases h8 : b.length = 8
    · have ht : b.take 8 = b := List.take_of_length_le (by omega)
      have hd : (⟨b, 8, 0⟩ : RS).done = 0 := by unfold RS.done; rw [if_neg (by simp; omega)]
      dsimp only
      rw [ht, hd]
      exact ⟨⟨fun hh => hh.elim (fun h => absurd rfl h) .inr, fun hh => hh.elim (fun h => absurd h8 h) .inr⟩, fun _ => rfl⟩
    · have hd : (⟨b, 8, 0⟩ : RS).done = 3 := by unfold RS.done; rw [if_pos ⟨rfl, by show b.length > 8; omega⟩]
      dsimp only
      rw [hd]
      exact ⟨⟨fun _ => .inl h8, fun _ => .inl (by decide)⟩, fun hh => absurd hh h8⟩
theorem firstF_len (l : List UInt8) : (firstF l).1.length ≤ l.length := by
  unfold firstF
  split
  · exact Nat.zero_le _
  · split
    · exact Nat.zero_le _
    · split
      · dsimp only
        split
        · exact Nat.zero_le _
        · split
          · exact Nat.zero_le _
          · split
            · exact Nat.zero_le _
            · simp only [List.length_take, List.length_cons]; omega
      · exact Nat.zero_le _
theorem PD.load_len {n : Nat} {s : PD} (h : s.ok (n + 1)) (name : List UInt8) : (s.load name).2.b.length ≤ 4194304 := by
  unfold PD.load
  split
  · exact Nat.zero_le _
  · split
    · exact Nat.zero_le _
    · split
      · exact Nat.zero_le _
      · rename_i f hf
        split
        · exact Nat.zero_le _
        · have h1 := find_le_used hf
          have h2 := PD.ok.tidy h name
          have h3 := firstF_len f.data
          have := h2.1
          have := h2.2.1
          dsimp only
          omega
theorem PD.ok.openS {n : Nat} {s : PD} (h : s.ok (n + 1)) : s.openS.1.ok n := by
  unfold PD.openS
  split
  · exact h.load _
  · split
    · exact h.load _
    · split <;> exact h.load _
/-- An acknowledgement is taken. -/
def PD.takeS (s : PD) (a : Nat) (have_ next : Int) : PD × Nat × Bool × Int :=
  if have_ ≤ a ∨ have_ > next then (s, a, false, 0) else
  if (s.save ackB (fix8 (UInt64.ofNat have_.toNat))).2 ≠ 0 then ((s.save ackB (fix8 (UInt64.ofNat have_.toNat))).1, a, false, (s.save ackB (fix8 (UInt64.ofNat have_.toNat))).2)
  else ((s.save ackB (fix8 (UInt64.ofNat have_.toNat))).1, have_.toNat, true, 0)
theorem PD.ok.takeS {n : Nat} {s : PD} (h : s.ok (n + 6)) (a : Nat) (have_ next : Int) : (s.takeS a have_ next).1.ok n := by
  unfold PD.takeS
  split
  · exact h.mono (by omega)
  · split <;> exact h.save _ _
end Go.Wk
namespace Go.Wk
open Go Go.RowKit
theorem PD.append_ok {s : PD} {name b : List UInt8} {f : PF} (h0 : s.begin.2 = 0) (hf : findF name s.files = some f) (hb : ¬ (b.length : Int) > s.cap - s.begin.1.used) : s.append name b = ({ s.begin.1 with files := putF name ⟨f.data ++ b, f.sure⟩ s.files }, 0) := by
  unfold PD.append; rw [if_neg (fun hh => hh h0), hf]; exact if_neg hb
abbrev PD.d0 : PD := PD.fresh [] 1000
theorem newD_0 : newD [] 1000 = some PD.d0 := rfl
theorem ok_0 (n : Nat) (h : n ≤ 1000) : PD.d0.ok n := ⟨by decide, by decide, by show 0 + n < 4611686018427387904; omega⟩
theorem openS_0 : PD.d0.openS = (PD.d0, some 0, 0) := rfl
theorem save_0 (p : List UInt8) (hp : p.length = 8) : (PD.d0.save ackB p).2 = 0 := by
  have hl : (wrapL p).length = 17 := by rw [wrapL_length, hp]
  let next := ackB ++ newB
  have h1 : PD.d0.made next = ({ PD.d0 with calls := 1, files := [(next, ⟨[], 0⟩)] }, 0) := rfl
  have h2 : ({ PD.d0 with calls := 1, files := [(next, ⟨[], 0⟩)] } : PD).append next (wrapL p) = ({ PD.d0 with calls := 2, files := [(next, ⟨wrapL p, 0⟩)] }, 0) := by
    have hf : findF next [(next, (⟨[], 0⟩ : PF))] = some ⟨[], 0⟩ := rfl
    have hb : ({ PD.d0 with calls := 1, files := [(next, ⟨[], 0⟩)] } : PD).begin = ({ PD.d0 with calls := 2, files := [(next, ⟨[], 0⟩)] }, 0) := rfl
    exact PD.append_ok (by rw [hb]) hf (by rw [hb, hl]; decide)
  have h3 : ({ PD.d0 with calls := 2, files := [(next, ⟨wrapL p, 0⟩)] } : PD).sync next = ({ PD.d0 with calls := 3, files := [(next, ⟨wrapL p, (wrapL p).length⟩)] }, 0) := rfl
  have h4 : ({ PD.d0 with calls := 3, files := [(next, ⟨wrapL p, (wrapL p).length⟩)] } : PD).rename next ackB = ({ PD.d0 with calls := 4, files := [(ackB, ⟨wrapL p, (wrapL p).length⟩)] }, 0) := rfl
  have := PD.saveN_4 (s := PD.d0) (name := ackB) (next := next) (p := p) (by decide) (by omega) h1 (by simp) h2 (by simp) h3 (by simp) h4 rfl
  unfold PD.save
  rw [this]
theorem takeS_0 (h n : Int) (h1 : 0 < h) (h2 : h ≤ n) : PD.d0.takeS 0 h n = ((PD.d0.save ackB (fix8 (UInt64.ofNat h.toNat))).1, h.toNat, true, 0) := by
  unfold PD.takeS
  rw [if_neg (by simp; omega), if_neg (by rw [save_0 _ rfl]; simp)]
theorem takeS_no (s : PD) (a : Nat) (h n : Int) (h1 : h ≤ a ∨ h > n) : s.takeS a h n = (s, a, false, 0) := if_pos h1
end Go.Wk
namespace Go.Wk
open Go Go.RowKit
theorem span2 {w : World} {b : Nat} {et : TypeId} {a0 a1 c0 c1 : Int} (h : Blk w b et [.int .i64 a0, .int .i64 a1, .int .i64 c0, .int .i64 c1]) : Sl All w (some ⟨b, 0, none⟩) spanR [(a0, a1), (c0, c1)] := fun _ => ⟨b, 0, rfl, trivial, fun k x hx => by
  match k, hx with
  | 0, hx =>
    simp at hx; subst hx
    refine ⟨_, fun j v hv => ?_, rfl, trivial⟩
    rw [h.cell]
    match j, hv with
    | 0, hv => exact hv
    | 1, hv => exact hv
    | j + 2, hv => simp at hv
  | 1, hx =>
    simp at hx; subst hx
    refine ⟨_, fun j v hv => ?_, rfl, trivial⟩
    rw [h.cell]
    match j, hv with
    | 0, hv => exact hv
    | 1, hv => exact hv
    | j + 2, hv => simp at hv
  | k + 2, hx => simp at hx⟩
end Go.Wk
