/-
  The walk by places: structs and slices that are put together, elements that are put behind. Plain laws over any program.
-/
import Derived.Test.YtlfppodekihcmaaGreatDoorWd
set_option linter.unusedVariables false
set_option linter.unusedSimpArgs false
namespace Go.Wk
open Go Go.RowKit

def No : Nat → Prop := fun _ => False
def Lt (B : Nat) : Nat → Prop := fun b => b < B
def All : Nat → Prop := fun _ => True

/-- 'fill', over lists. -/
def fillL (offs : List (Nat × Nat)) (cells : List Value) : List (Nat × Value) → Option (List Value)
  | [] => some cells
  | p :: rest => match offs[p.1]? with
    | none => none
    | some q => bif Nat.beq p.2.cells.toList.length q.2 && Nat.ble (q.1 + p.2.cells.toList.length) cells.length then fillL offs (setL cells q.1 p.2.cells.toList) rest else none

theorem foldl_setL (off : Nat) : ∀ (vs : List Value) (k : Nat) (cs : List Value), (vs.zipIdx k).foldl (fun (a : Array Value) (p : Value × Nat) => a.setIfInBounds (off + p.2) p.1) cs.toArray = (setL cs (off + k) vs).toArray
  | [], _, _ => rfl
  | v :: r, k, cs => by
    simp only [List.zipIdx_cons, List.foldl_cons, setL]
    have : cs.toArray.setIfInBounds (off + k) v = (cs.set (off + k) v).toArray := by simp
    rw [this, foldl_setL off r (k + 1)]
    rfl
theorem fill_eq (offs : List (Nat × Nat)) : ∀ (ps : List (Nat × Value)) (cells cs : List Value), fillL offs cells ps = some cs → Instr.fill (offs.toArray[·]?) cells.toArray ps = some cs.toArray
  | [], cells, cs, h => by simp only [fillL, Option.some.injEq] at h; subst h; rfl
  | p :: rest, cells, cs, h => by
    obtain ⟨i, v⟩ := p
    simp only [fillL] at h
    split at h
    · cases h
    · rename_i q hq
      obtain ⟨off, sz⟩ := q
      simp only [Bool.cond_eq_ite, Bool.and_eq_true] at h
      split at h
      · rename_i hc
        have h1 : v.cells.toList.length = sz := Nat.eq_of_beq_eq_true hc.1
        have h2 : off + v.cells.toList.length ≤ cells.length := Nat.le_of_ble_eq_true hc.2
        have hq' : offs.toArray[i]? = some (off, sz) := by simpa using hq
        simp only [Instr.fill, hq']
        rw [Array.length_toList] at h1 h2
        rw [if_neg (by simp [h1]; omega)]
        have e1 : v.cells.zipIdx.foldl (fun cs (c, j) => cs.setIfInBounds (off + j) c) cells.toArray = (setL cells off v.cells.toList).toArray := by
          have := foldl_setL off v.cells.toList 0 cells
          rw [Nat.add_zero] at this
          rw [← this, ← Array.foldl_toList, Array.toList_zipIdx]
        rw [e1]
        exact fill_eq offs rest _ _ h
      · cases h

/-- What the tables say of a struct. -/
def StOk (P : Program) (t : TypeId) (zs : List Value) (offs : List (Nat × Nat)) : Prop :=
  (∀ w, (zeroValue t).run P w = .ok (.agg zs.toArray) w) ∧ ∃ fs, P.underlying t = some (.struct fs) ∧ ∀ w, (fs.mapM fun f => (do pure (f.offset, ← sizeOf f.type) : Sem (Nat × Nat))).run P w = .ok offs.toArray w

section
variable {P : Program} {f : FuncId} {n : Nat} {R : Ending → World → Prop} {k : List Item} {e : Env} {w : World}
variable {ops : Array Oper} {i : Nat} {rest : List Nat} {d : Nat} {dst : Option Nat} {ty : TypeId} {pos : String} {af : Array Edge} {g : Option (Nat × Bool)}

theorem V.bldS {t : TypeId} {ps : Array (Nat × Operand)} {us : List Value} {zs cs : List Value} {offs : List (Nat × Nat)} (hst : StOk P t zs offs) (hx : evs e (ps.toList.map (·.2)) = some us) (hf : fillL offs zs ((ps.toList.map (·.1)).zip us) = some cs) :
    OpV P n e w ⟨dst, .build t ps, ty, pos, af, g⟩ (.agg cs.toArray) w := by
  obtain ⟨hz, fs, hu, hm⟩ := hst
  refine V.bld hx fun w => ?_
  have hfill := fill_eq offs _ _ _ hf
  simp only [Instr.build, Sem.run_bind, hz, Result.andThen_ok, run_underlying hu, hm, Value.cells]
  rw [hfill]
  simp

theorem fill_full (s : Nat) : ∀ (us : List Value) (k : Nat) (pre post : List Value), (∀ u ∈ us, u.cells.size = s) → pre.length = k * s → post.length = us.length * s →
    Instr.fill (fun i => some (i * s, s)) (pre ++ post).toArray ((List.range' k us.length).zip us) = some (pre ++ us.flatMap (fun u => u.cells.toList)).toArray
  | [], k, pre, post, _, _, hp => by
    have : post = [] := List.eq_nil_of_length_eq_zero (by simpa using hp)
    simp [Instr.fill, this]
  | u :: r, k, pre, post, hu, hk, hp => by
    have hus := hu u (by simp)
    simp only [List.length_cons, List.range'_succ, List.zip_cons_cons, Instr.fill]
    rw [if_neg (by
      simp only [List.size_toArray, List.length_append, hus, hk, hp, List.length_cons, Nat.add_mul]
      simp)]
    have e1 : u.cells.zipIdx.foldl (fun cs (c, j) => cs.setIfInBounds (k * s + j) c) (pre ++ post).toArray = (setL (pre ++ post) (k * s) u.cells.toList).toArray := by
      have := foldl_setL (k * s) u.cells.toList 0 (pre ++ post)
      rw [Nat.add_zero] at this
      rw [← this, ← Array.foldl_toList, Array.toList_zipIdx]
    rw [e1]
    have e2 : ∀ (vs pre post : List Value), vs.length ≤ post.length → setL (pre ++ post) pre.length vs = pre ++ vs ++ post.drop vs.length := by
      intro vs
      induction vs with
      | nil => intro pre post _; simp [setL]
      | cons v r ih =>
        intro pre post hl
        cases post with
        | nil => simp at hl
        | cons p q =>
          simp only [setL]
          have h2 : (pre ++ p :: q).set pre.length v = (pre ++ [v]) ++ q := by simp
          rw [h2]
          have := ih (pre ++ [v]) q (by simpa using hl)
          simp only [List.length_append, List.length_cons, List.length_nil, Nat.zero_add] at this
          rw [this]; simp
    have hl : u.cells.toList.length = s := by simpa using hus
    rw [← hk, e2 _ _ _ (by rw [hl, hp, List.length_cons, Nat.add_mul]; omega)]
    have := fill_full s r (k + 1) (pre ++ u.cells.toList) (post.drop u.cells.toList.length) (fun x hx => hu x (by simp [hx])) (by rw [List.length_append, hk, hl, Nat.add_mul]; omega)
      (by rw [List.length_drop, hp, hl, List.length_cons, Nat.add_mul]; omega)
    rw [this]
    simp

theorem run_buildSlice {t el : TypeId} {m s by_ : Nat} {us : List Value} (ht : P.underlying t = some (.slice el)) (hel : ElOk P el s by_) (hl : us.length = m) (hu : ∀ u ∈ us, u.cells.size = s) (hbig : m * s ≤ 16777216) (w : World) :
    (Instr.buildSlice t m ((List.range m).zip us).toArray).run P w = .ok (.slice (some ⟨w.heap.size, 0, none⟩) m m) (w.alloc (.cells (us.flatMap (fun u => u.cells.toList)).toArray el)) := by
  obtain ⟨inf, z, hi, hz, hsz, _, hzs, hpos⟩ := hel
  have hzv : (zeroValue el).run P w = .ok z w := by simp [zeroValue, typeInfo, hi, hz]
  have hfill : ∀ c0 : Array Value, c0.size = m * s → Instr.fill (fun i => some (i * s, s)) c0 ((List.range m).zip us) = some (us.flatMap (fun u => u.cells.toList)).toArray := by
    intro c0 hc
    have := fill_full s us 0 [] c0.toList hu (by simp) (by simpa [hl] using hc)
    simp only [List.nil_append, Array.toArray_toList, List.range_eq_range', hl] at this
    rw [List.range_eq_range']
    exact this
  have hbig' : ¬ (m * s > 16777216) := by omega
  simp only [Instr.buildSlice, Sem.run_bind, run_underlying ht, Result.andThen_ok, sizeOf, typeInfo, hi, run_program, Sem.run_pure, hsz]
  by_cases h0 : m * s = 0
  · have := hfill #[] (by simpa using h0.symm)
    have hr0 : Array.range 0 = #[] := rfl
    simp only [Sem.run_ite, h0, Nat.not_lt_zero, gt_iff_lt, if_true, Sem.run_pure, Result.andThen_ok, hr0, Array.map_empty, this, newRow, newObj, Sem.run_bind]
    rfl
  · have := hfill ((Array.range (m * s)).map (z.cells[· % z.cells.size]!)) (by simp)
    simp only [Sem.run_ite, hbig', h0, if_false, Sem.run_bind, hzv, Sem.run_pure, Result.andThen_ok, this, newRow, newObj]
    rfl

/-- A slice is put together of its elements. -/
theorem Rn.bslS {t el : TypeId} {s by_ : Nat} {ps : List (Nat × Operand)} {m : Nat} {us cs : List Value} (ho : ops[i]? = some ⟨some d, .buildSlice t m ps.toArray, ty, pos, af, g⟩) (hg : gok e ops g = true) (hn : Nat.blt d n = true)
    (ht : P.underlying t = some (.slice el)) (hel : ElOk P el s by_) (hps : ps.map (·.1) = List.range m) (hx : evs e (ps.map (·.2)) = some us) (hl : us.length = m) (hcs : us.flatMap (fun u => u.cells.toList) = cs) (hu : ∀ u ∈ us, u.cells.size = s) (hbig : m * s ≤ 16777216)
    (h : ∀ b w', b = w.heap.size → Blk w' b el cs → Ext w w' → Rn P f n R (.inRegion ops rest :: k) ((d, .slice (some ⟨b, 0, none⟩) m m) :: e) w') : Rn P f n R (.inRegion ops (i :: rest) :: k) e w := by
  refine Rn.bsl (us := us) ho hg hn (by simpa using hx) (fun w => ?_) h
  rw [List.toList_toArray, hps, ← hcs]
  exact run_buildSlice ht hel hl hu hbig w

/-- 'out = append(out, x)': the slice of one, and the append. -/
theorem Rn.push {α : Type} {rep : Rep α} {B by_ : Nat} {D : Nat → Prop} {t el : TypeId} {x y : Operand} {A : Option Addr} {c : Nat} {xs : List α} {i2 d2 : Nat} {v : Value} {vs : List Value} {ty2 : TypeId} {pos2 : String} {af2 : Array Edge} (z : α)
    (ho : ops[i]? = some ⟨some d, .buildSlice t 1 #[(0, x)], ty, pos, af, none⟩) (ho2 : ops[i2]? = some ⟨some d2, .call { callee := .builtin .append, args := #[y, .tmp d], argTypes := #[t, t] }, ty2, pos2, af2, none⟩)
    (hn : Nat.blt d n = true) (hn2 : Nat.blt d2 n = true)
    (ht : P.underlying t = some (.slice el)) (hel : ElOk P el rep.sz by_) (hx : ev e x = some v) (hv : v.cells = vs.toArray) (hy : ∀ u, ev ((d, u) :: e) y = some (.slice A xs.length c))
    (hO : Own B D w el A c rep xs) (hrel : rep.rel D w vs z) (hB : B ≤ w.heap.size) (hlen : xs.length + 1 ≤ 4294967296) (hby : (xs.length + 1) * by_ ≤ 140737488355328) (hsz : rep.sz ≤ 16777216)
    (hD : ∀ b, D b → ¬ ob A b)
    (h : ∀ A2 c2 w' u, Own B D w' el A2 c2 rep (xs ++ [z]) → Fr (fun b => ob A b) w w' → (∀ b, ob A2 b → ob A b ∨ w.heap.size ≤ b) → Rn P f n R (.inRegion ops rest :: k) ((d2, .slice A2 (xs.length + 1) c2) :: (d, u) :: e) w') : Rn P f n R (.inRegion ops (i :: i2 :: rest) :: k) e w := by
  have hlv := rep.len hrel
  refine Rn.bslS (s := rep.sz) (ps := [(0, x)]) (us := [v]) (cs := vs) (by simpa using ho) rfl hn ht hel rfl (by simp [evs, hx]) rfl (by simp [hv]) (by simp [hv, hlv]) (by simpa using hsz) fun b w1 hb hBl hE => ?_
  have hO1 := hO.ext hE
  have hS : Src D w1 (some ⟨b, 0, none⟩) rep [z] := fun _ => ⟨b, 0, [vs], rfl, rfl, fun k us x hu hx => by
    cases k with
    | zero => simp at hu hx; subst hu hx; exact Rep.ext hrel hE
    | succ k => simp at hx, fun j u hj => by simp at hj; rw [Nat.zero_add, hBl.cell]; exact hj⟩
  obtain ⟨A2, c2, w2, hr, hF, hob, hown⟩ := app_run (P := P) (B := B) (c' := 1) (m := 1) ht hel hO1 hS rfl (Nat.le_trans hB hE.size) hlen hby ty2
  have hown2 := (hown hD hD).mono (D' := D) (fun b hb => hb.elim id id)
  refine Rn.opV (w' := w2) ho2 rfl rfl hn2 (fun a hf => ?_) (h A2 c2 w2 _ hown2 ?_ ?_)
  · have hy' := hy (.slice (some ⟨b, 0, none⟩) 1 1)
    have hd' : ev ((d, Value.slice (some ⟨b, 0, none⟩) 1 1) :: e) (.tmp d) = some (.slice (some ⟨b, 0, none⟩) 1 1) := lk_same _ _ _
    simp [execOp, resolve, invoke, builtin, ev_eval hf hy', ev_eval hf hd', hr]
  · exact (Ext.fr hE).trans hF
  · intro x hx
    rcases hob x hx with h1 | h1
    · exact .inl h1
    · exact .inr (by have := hE.size; omega)
end
end Go.Wk
