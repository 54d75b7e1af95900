/-
  A text put behind bytes. Plain laws over any program.
-/
import Derived.Test.YtlfppodekihcmaaGreatDoorWy
import Derived.Deep.AppendSrc
set_option linter.unusedVariables false
set_option linter.unusedSimpArgs false
namespace Go.Wk
open Go Go.RowKit
theorem byteCells_eq (ys : List UInt8) : byteCells ⟨ys.toArray⟩ = ys.map fun b => Value.int .u8 b.toNat := by simp [byteCells]
section
variable {P : Program} {w : World}
theorem run_append_room_s (t tx ty e : TypeId) (i : TypeInfo) (ht : P.underlying t = some (.slice e)) (htx : P.underlying tx = some .string) (hi : P.info? e = some i) (h1s : i.size = 1)
    (g sLen sCap : Nat) (cur : Array Value) (hg : w.heap[g]? = some (.cells cur e (0, 0))) (ys : List UInt8)
    (hroom : sLen + ys.length ≤ sCap) (hfit : sLen + ys.length ≤ cur.size) :
    (Builtin.append_ #[t, tx] ty #[.slice (some ⟨g, 0, none⟩) sLen sCap, Str ys]).run P w =
      .ok (.slice (some ⟨g, 0, none⟩) (sLen + ys.length) sCap) (w.setRow g (cur.toList.take sLen ++ (ys.map fun b => Value.int .u8 b.toNat) ++ cur.toList.drop (sLen + ys.length)).toArray) := by
  have hs := firstCells_string (P := P) ⟨ys.toArray⟩ w
  rw [byteCells_eq] at hs
  have hsz : (⟨ys.toArray⟩ : ByteArray).size = ys.length := by simp [ByteArray.size]
  rw [hsz] at hs
  have hst := run_storeCells_at P g (sLen * 1) e (ys.map fun b => Value.int .u8 b.toNat) 0 cur w hg (by simpa using hfit) (fun u hu => by
    obtain ⟨_, _, rfl⟩ := List.mem_map.1 hu; rfl)
  simp only [Nat.add_zero, Nat.mul_one] at hst
  simp [Builtin.append_, run_underlying ht, run_underlying htx, sizeOf, typeInfo, hi, h1s, Builtin.lenOf, hsz, hroom, hs, Addr.add_lit, hst]
end
end Go.Wk
namespace Go.Wk
open Go Go.RowKit
theorem flat_one {α β : Type} (v : α → β) : ∀ ys : List α, (ys.map fun b => [v b]).flatten = ys.map v
  | [] => rfl
  | a :: r => by rw [List.map_cons, List.flatten_cons, flat_one v r]; rfl
theorem app_runS {P : Program} {w : World} {B by_ : Nat} {D : Nat → Prop} {t tx el : TypeId} {A : Option Addr} {c : Nat} {xs ys : List UInt8}
    (ht : P.underlying t = some (.slice el)) (htx : P.underlying tx = some .string) (hel : ElOk P el byteR.sz by_)
    (hO : Own B D w el A c byteR xs) (hB : B ≤ w.heap.size) (hlen : xs.length + ys.length ≤ 4294967296) (hby : (xs.length + ys.length) * by_ ≤ 140737488355328) (ty : TypeId) :
    ∃ A2 c2 w', (Builtin.append_ #[t, tx] ty #[.slice A xs.length c, Str ys]).run P w = .ok (.slice A2 (xs.length + ys.length) c2) w' ∧ Fr (fun b => ob A b) w w' ∧ (∀ b, ob A2 b → ob A b ∨ b = w.heap.size) ∧
      ((∀ b, D b → ¬ ob A b) → Own B D w' el A2 c2 byteR (xs ++ ys)) := by
  obtain ⟨inf, z, hi, hz, hsz, hbt, hzs, hpos⟩ := hel
  have h1 : byteR.sz = 1 := rfl
  have hsz1 : inf.size = 1 := by rw [hsz, h1]
  have hl2 : (xs ++ ys).length = xs.length + ys.length := List.length_append
  let uss : List (List Value) := ys.map fun b => [Value.int .u8 b.toNat]
  have hul : uss.length = ys.length := by simp [uss]
  have hur : ∀ (w' : World) (k : Nat) (vs : List Value) (x : UInt8), uss[k]? = some vs → ys[k]? = some x → byteR.rel D w' vs x := by
    intro w' k vs x hv hx
    simp only [uss, List.getElem?_map, hx, Option.map_some, Option.some.injEq] at hv
    subst hv
    exact ⟨rfl, trivial⟩
  have hufl : uss.flatten = ys.map fun b => Value.int .u8 b.toNat := flat_one _ ys
  have huflen : uss.flatten.length = ys.length := by rw [hufl, List.length_map]
  have hsrc : Go.Src P inf.size tx (Str ys) ys.length uss.flatten w := by
    have := Src.ofString (P := P) (w := w) htx ⟨ys.toArray⟩
    rw [byteCells_eq] at this
    have hs2 : (⟨ys.toArray⟩ : ByteArray).size = ys.length := by simp [ByteArray.size]
    rw [hs2] at this
    rw [hsz1, hufl]
    exact this
  have made : ∀ (old : Nat) (vss : List (List Value)), old < xs.length + ys.length → vss.length = xs.length → (∀ (k : Nat) (vs : List Value) (x : UInt8), vss[k]? = some vs → xs[k]? = some x → byteR.rel D w vs x) →
      let w2 := w.drew.alloc (.cells ((vss.flatten ++ uss.flatten).toArray ++ Builtin.zeroCells z.cells (grownCap w (xs.length + ys.length) old el - (xs.length + ys.length))) el)
      Ext w w2 ∧ Own B D w2 el (some ⟨w.heap.size, 0, none⟩) (grownCap w (xs.length + ys.length) old el) byteR (xs ++ ys) := by
    intro old vss ho hvl hvr
    have hge := grownCap_ge w (xs.length + ys.length) old el
    have hcm : grownCap w (xs.length + ys.length) old el ≤ maxLen := grownCap_le_maxLen w (xs.length + ys.length) old el (by simp only [maxLen]; omega)
    have hE : Ext w (w.drew.alloc (.cells ((vss.flatten ++ uss.flatten).toArray ++ Builtin.zeroCells z.cells (grownCap w (xs.length + ys.length) old el - (xs.length + ys.length))) el)) := (Ext.drew w).trans (Ext.alloc _ _)
    have hvfl : vss.flatten.length = xs.length := by rw [length_flat byteR.sz vss (lens_of hvl hvr), hvl, h1, Nat.mul_one]
    refine ⟨hE, by rw [hl2]; exact hge, hcm, .inr ⟨w.heap.size, vss.flatten ++ uss.flatten ++ (Builtin.zeroCells z.cells (grownCap w (xs.length + ys.length) old el - (xs.length + ys.length))).toList, vss ++ uss, rfl, hB, ?_, ?_, by simp [hvl, hul], ?_, ?_⟩⟩
    · have := heap_alloc_new w.drew (.cells ((vss.flatten ++ uss.flatten).toArray ++ Builtin.zeroCells z.cells (grownCap w (xs.length + ys.length) old el - (xs.length + ys.length))) el)
      unfold Blk
      have e1 : (vss.flatten ++ uss.flatten).toArray ++ Builtin.zeroCells z.cells (grownCap w (xs.length + ys.length) old el - (xs.length + ys.length)) = (vss.flatten ++ uss.flatten ++ (Builtin.zeroCells z.cells (grownCap w (xs.length + ys.length) old el - (xs.length + ys.length))).toList).toArray := by
        apply Array.ext'; simp
      rw [← e1]
      exact this
    · simp only [List.length_append, Array.length_toList, size_zeroCells, hzs, hvfl, huflen, h1]
      omega
    · intro k vs x hv hx
      rcases Nat.lt_or_ge k xs.length with hk | hk
      · rw [List.getElem?_append_left (by omega)] at hv
        rw [List.getElem?_append_left hk] at hx
        exact Rep.ext (hvr k vs x hv hx) hE
      · rw [List.getElem?_append_right (by omega)] at hv
        rw [List.getElem?_append_right hk] at hx
        rw [hvl] at hv
        exact hur _ _ vs x hv hx
    · rw [hl2, List.flatten_append, h1, Nat.mul_one, ← hvfl, ← huflen, ← List.length_append, List.take_left]
  rcases hO.2.2 with ⟨rfl, hc0⟩ | ⟨gb, cs, vss, rfl, hg1, hg2, hg3, hg4, hg5, hg6⟩
  · have hx : xs = [] := List.eq_nil_of_length_eq_zero (by have := hO.1; omega)
    subst hx hc0
    by_cases hne : ys = []
    · subst hne
      refine ⟨none, 0, w, ?_, Fr.refl _ _, fun b hb => .inl hb, fun _ => hO⟩
      simp [Builtin.append_, run_underlying ht, run_underlying htx, sizeOf, typeInfo, hi, hsz1, Builtin.lenOf, Builtin.firstCells]
      exact (if_pos (show (⟨([] : List UInt8).toArray⟩ : ByteArray) = ByteArray.empty from rfl)).trans rfl
    · have hm0 : 0 < ys.length := List.length_pos_iff.2 hne
      have hr := run_append_grow_src (P := P) w t tx ty el inf z ht hi hz none 0 0 [] (by simp [Builtin.firstCells]) (Str ys) ys.length uss.flatten hsrc (by omega) (by omega) (by rw [hbt, Nat.zero_add, nextslicecap_zero hm0]; have := hby; simp only [List.length_nil, Nat.zero_add] at this; omega)
      obtain ⟨hE, hown⟩ := made 0 [] (by simp; omega) rfl (fun k vs x hv => by simp at hv)
      simp only [List.length_nil, Nat.zero_add, List.flatten_nil, List.nil_append] at hE hown hr ⊢
      exact ⟨_, _, _, hr, Ext.fr hE, fun x hx => .inr (by cases hx; rfl), fun _ => hown⟩
  · rw [h1, Nat.mul_one] at hg3 hg6
    have hvfl : vss.flatten.length = xs.length := by rw [length_flat byteR.sz vss (lens_of hg4 hg5), hg4, h1, Nat.mul_one]
    by_cases hroom : xs.length + ys.length ≤ c
    · have hr := run_append_room_s (P := P) t tx ty el inf ht htx hi hsz1 gb xs.length c cs.toArray hg2 ys hroom (by simpa using Nat.le_trans hroom hg3)
      have hF : Fr (fun x => ob (some ⟨gb, 0, none⟩) x) w (w.setRow gb (cs.toArray.toList.take xs.length ++ (ys.map fun b => Value.int .u8 b.toNat) ++ cs.toArray.toList.drop (xs.length + ys.length)).toArray) :=
        ⟨rfl, rfl, rfl, by simp, fun x hx hn => setRow_other w gb x _ (fun e => hn (by rw [e]; rfl))⟩
      refine ⟨_, _, _, hr, hF, fun x hx => .inl hx, fun hD => ⟨by rw [hl2]; exact hroom, hO.2.1, .inr ⟨gb, _, vss ++ uss, rfl, hg1, setRow_heap w gb _ _ el _ hg2, ?_, by simp [hg4, hul], ?_, ?_⟩⟩⟩
      · simp only [List.toList_toArray, List.length_append, List.length_take, List.length_drop, List.length_map, h1]; omega
      · intro k vs x hv hx
        rcases Nat.lt_or_ge k xs.length with hk | hk
        · rw [List.getElem?_append_left (by omega)] at hv
          rw [List.getElem?_append_left hk] at hx
          exact Rep.fr (hg5 k vs x hv hx) hF hD
        · rw [List.getElem?_append_right (by omega)] at hv
          rw [List.getElem?_append_right hk] at hx
          rw [hg4] at hv
          exact hur _ _ vs x hv hx
      · simp only [List.toList_toArray]
        rw [hl2, List.flatten_append, hg6, h1, Nat.mul_one, ← hufl, ← hvfl, ← huflen, ← List.length_append, List.take_left]
    · have holds : (Builtin.firstCells inf.size xs.length (.slice (some ⟨gb, 0, none⟩) xs.length c)).run P w.drew = .ok vss.flatten.toArray w.drew := by
        refine run_firstCells_some (P := P) w.drew inf.size xs.length ⟨gb, 0, none⟩ xs.length c vss.flatten (by rw [hsz1, hvfl, Nat.mul_one]) fun j u hj => ?_
        rw [← hg6, List.getElem?_take] at hj
        split at hj
        · have hdr : w.drew.cell? ⟨gb, j, none⟩ = w.cell? ⟨gb, j, none⟩ := rfl
          rw [Addr.add_none, Nat.zero_add, hdr, hg2.cell]; exact hj
        · cases hj
      have hr := run_append_grow_src (P := P) w t tx ty el inf z ht hi hz (some ⟨gb, 0, none⟩) xs.length c vss.flatten holds (Str ys) ys.length uss.flatten hsrc (by omega) (by omega) (growslice_fits (by omega) (by rw [hbt]; exact hby))
      obtain ⟨hE, hown⟩ := made c vss (by omega) hg4 hg5
      exact ⟨_, _, _, hr, Ext.fr hE, fun x hx => .inr (by cases hx; rfl), fun _ => hown⟩
end Go.Wk
namespace Go.Wk
open Go Go.RowKit
section
variable {P : Program} {f : FuncId} {n : Nat} {R : Ending → World → Prop} {k : List Item} {e : Env} {w w0 : World}
variable {ops : Array Oper} {i : Nat} {rest : List Nat} {d : Nat} {ty : TypeId} {pos : String} {af : Array Edge} {g : Option (Nat × Bool)}
variable {Z0 S : Nat → Prop} {L : List Rs}
/-- 'out = append(out, text...)'. -/
theorem Rn.appSH {by_ : Nat} {t tx el : TypeId} {x y : Operand} {A : Option Addr} {c : Nat} {xs ys zs : List UInt8}
    (hm : Hp Z0 S w0 w L) (m : Nat) (hi : L[m]? = some (ownR el A c byteR xs)) (hzs : appL xs ys = some zs)
    (ho : ops[i]? = some ⟨some d, .call { callee := .builtin .append, args := #[x, y], argTypes := #[t, tx] }, ty, pos, af, g⟩) (hg : gok e ops g = true) (hn : Nat.blt d n = true)
    (ht : P.underlying t = some (.slice el)) (htx : P.underlying tx = some .string) (hel : ElOk P el byteR.sz by_) (hby : Nat.ble by_ 131072 = true) (hx : ev e x = some (.slice A xs.length c)) (hy : ev e y = some (Str ys))
    (h : ∀ A2 c2 w', Hp Z0 S w0 w' (L.set m (ownR el A2 c2 byteR zs)) → Rn P f n R (.inRegion ops rest :: k) ((d, .slice A2 zs.length c2) :: e) w') : Rn P f n R (.inRegion ops (i :: rest) :: k) e w := by
  obtain ⟨hle, rfl⟩ := appE hzs
  have h0 := hm.get m hi
  have hO : Own 0 (fun b => Zo Z0 S w0 L b ∧ b < w.heap.size) w el A c byteR xs := Own.bd h0
  obtain ⟨A2, c2, w', hr, hF, hob, hown⟩ := app_runS (P := P) ht htx hel hO (Nat.zero_le _) (by omega) (mul_by hle hby) ty
  have hO2 := hown (fun b hb hob => hb.1.2 m _ hi hob)
  refine Rn.opV (v := .slice A2 (xs.length + ys.length) c2) (w' := w') ho hg rfl hn (fun a hf => by simp [execOp, resolve, invoke, builtin, ev_eval hf hx, ev_eval hf hy, hr]) ?_
  have := h A2 c2 w' (hm.upd m _ hi hF (fun x hx => (hob x hx).imp id fun hh => by omega) fun Z' h1 _ => hO2.mono fun b hb => h1 b hb.1 hb.2)
  rw [List.length_append] at this
  exact this
end
end Go.Wk
