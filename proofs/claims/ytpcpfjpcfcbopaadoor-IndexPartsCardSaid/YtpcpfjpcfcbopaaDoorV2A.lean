/-
  The values of a key in an index, over the iterator's and the sort's contracts.
-/
import Derived.Test.YtpcpfjpcfcbopaaDoorV1A
import Derived.Shelf.SortM.Plain
import Derived.Shelf.SortM.SortNone
set_option maxRecDepth 20000
set_option linter.unusedVariables false
set_option linter.unusedSimpArgs false
namespace Go.Proofs.YtpcpfjpcfcbopaaDoor
open Go Go.RowKit Go.Wk
open Go.Shelf Go.Sort Go.Maps
open Go.Proofs (encStr)
attribute [local go_sem] Oper.semAt_some
def Tryd.sortS_ren : Go.Shelf.Ren := ⟨fun | 6 => 58 | 8 => 72 | 9 => 71 | 19 => 88 | 20 => 60 | 21 => 79 | 22 => 80 | 23 => 81 | 24 => 82 | 25 => 83 | 26 => 84 | 27 => 85 | 28 => 86 | 29 => 87 | 36 => 91 | 31 => 92 | 32 => 93 | 37 => 94 | 38 => 95 | 39 => 96 | 41 => 97 | n => n, fun | 27 => 28 | 29 => 9 | 3 => 3 | 32 => 99 | 26 => 28 | 0 => 0 | 44 => 146 | 46 => 53 | 4 => 4 | 36 => 138 | 35 => 137 | 41 => 143 | 5 => 5 | 9 => 9 | 53 => 149 | 57 => 153 | 63 => 155 | 64 => 156 | n => n, fun | n => n⟩
theorem Tryd.sortS : Go.Proofs.SlLaysM.n6 Tryd.prog Tryd.sortS_ren := {
  mixed := by kernel_rfl
  f6 := ⟨Tryd.f58.name, by decide, Tryd.func58.trans (congrArg some (by kernel_rfl))⟩
  f8 := Tryd.func72.trans (congrArg some (by kernel_rfl))
  f9 := ⟨Tryd.f71.name, by decide, Tryd.func71.trans (congrArg some (by kernel_rfl))⟩
  f19 := Tryd.func88.trans (congrArg some (by kernel_rfl))
  f20 := Tryd.func60.trans (congrArg some (by kernel_rfl))
  f21 := ⟨Tryd.f79.name, by decide, Tryd.func79.trans (congrArg some (by kernel_rfl))⟩
  f22 := ⟨Tryd.f80.name, by decide, Tryd.func80.trans (congrArg some (by kernel_rfl))⟩
  f23 := ⟨Tryd.f81.name, by decide, Tryd.func81.trans (congrArg some (by kernel_rfl))⟩
  f24 := ⟨Tryd.f82.name, by decide, Tryd.func82.trans (congrArg some (by kernel_rfl))⟩
  f25 := ⟨Tryd.f83.name, by decide, Tryd.func83.trans (congrArg some (by kernel_rfl))⟩
  f26 := ⟨Tryd.f84.name, by decide, Tryd.func84.trans (congrArg some (by kernel_rfl))⟩
  f27 := ⟨Tryd.f85.name, by decide, Tryd.func85.trans (congrArg some (by kernel_rfl))⟩
  f28 := ⟨Tryd.f86.name, by decide, Tryd.func86.trans (congrArg some (by kernel_rfl))⟩
  f29 := ⟨Tryd.f87.name, by decide, Tryd.func87.trans (congrArg some (by kernel_rfl))⟩
  f31 := Tryd.func92.trans (congrArg some (by kernel_rfl))
  f32 := Tryd.func93.trans (congrArg some (by kernel_rfl))
  f36 := ⟨Tryd.f91.name, by decide, Tryd.func91.trans (congrArg some (by kernel_rfl))⟩
  f37 := ⟨Tryd.f94.name, by decide, Tryd.func94.trans (congrArg some (by kernel_rfl))⟩
  f38 := ⟨Tryd.f95.name, by decide, Tryd.func95.trans (congrArg some (by kernel_rfl))⟩
  f39 := ⟨Tryd.f96.name, by decide, Tryd.func96.trans (congrArg some (by kernel_rfl))⟩
  f41 := ⟨Tryd.f97.name, by decide, Tryd.func97.trans (congrArg some (by kernel_rfl))⟩
  t0 := Tryd.underlying0
  a0 := Tryd.isAgg0
  z0 := Tryd.sizeOf0
  v0 := Tryd.zeroValue0
  t3 := Tryd.underlying3
  a3 := Tryd.isAgg3
  z3 := Tryd.sizeOf3
  v3 := Tryd.zeroValue3
  t4 := Tryd.underlying4
  a4 := Tryd.isAgg4
  z4 := Tryd.sizeOf4
  v4 := Tryd.zeroValue4
  t5 := Tryd.underlying5
  a5 := Tryd.isAgg5
  z5 := Tryd.sizeOf5
  v5 := Tryd.zeroValue5
  t9 := Tryd.underlying9
  a9 := Tryd.isAgg9
  z9 := Tryd.sizeOf9
  v9 := Tryd.zeroValue9
  t26 := Tryd.underlying28
  a26 := Tryd.isAgg28
  z26 := Tryd.sizeOf28
  v26 := Tryd.zeroValue28
  t27 := Tryd.underlying28
  a27 := Tryd.isAgg28
  z27 := Tryd.sizeOf28
  v27 := Tryd.zeroValue28
  t29 := Tryd.underlying9
  a29 := Tryd.isAgg9
  z29 := Tryd.sizeOf9
  v29 := Tryd.zeroValue9
  t32 := Tryd.underlying99
  a32 := Tryd.isAgg99
  z32 := Tryd.sizeOf99
  v32 := Tryd.zeroValue99
  t35 := Tryd.underlying137
  a35 := Tryd.isAgg137
  z35 := Tryd.sizeOf137
  v35 := Tryd.zeroValue137
  t36 := Tryd.underlying138
  a36 := Tryd.isAgg138
  z36 := Tryd.sizeOf138
  v36 := Tryd.zeroValue138
  t41 := Tryd.underlying143
  a41 := Tryd.isAgg143
  z41 := Tryd.sizeOf143
  v41 := Tryd.zeroValue143
  t44 := Tryd.underlying146
  a44 := Tryd.isAgg146
  z44 := Tryd.sizeOf146
  v44 := Tryd.zeroValue146
  t46 := Tryd.underlying53
  a46 := Tryd.isAgg53
  z46 := Tryd.sizeOf53
  v46 := Tryd.zeroValue53
  t53 := Tryd.underlying149
  a53 := Tryd.isAgg149
  z53 := Tryd.sizeOf149
  v53 := Tryd.zeroValue149
  t57 := Tryd.underlying153
  a57 := Tryd.isAgg153
  z57 := Tryd.sizeOf153
  v57 := Tryd.zeroValue153
  t63 := Tryd.underlying155
  a63 := Tryd.isAgg155
  z63 := Tryd.sizeOf155
  v63 := Tryd.zeroValue155
  t64 := Tryd.underlying156
  a64 := Tryd.isAgg156
  z64 := Tryd.sizeOf156
  v64 := Tryd.zeroValue156 }
theorem infoV : (Tryd.prog.info? 9).map (fun i => (i.zero, i.size, i.bytes)) = some (some (Str []), 1, 16) := by kernel_rfl
/-- The values of the pairs with this key. -/
def fil (key : List UInt8) (l : List T_api_Pair) : List (List UInt8) := (l.filter fun p => decide (p.Key = key)).map (·.Val)
theorem fil_hit {key : List UInt8} (pre : List T_api_Pair) {x : T_api_Pair} (h : x.Key = key) : fil key (pre ++ [x]) = fil key pre ++ [x.Val] := by simp [fil, h]
theorem fil_miss {key : List UInt8} (pre : List T_api_Pair) {x : T_api_Pair} (h : ¬ x.Key = key) : fil key (pre ++ [x]) = fil key pre := by simp [fil, h]
theorem fil_le (key : List UInt8) (l : List T_api_Pair) : (fil key l).length ≤ l.length := by unfold fil; rw [List.length_map]; exact List.length_filter_le _ _
set_option maxRecDepth 100000 in
set_option maxHeartbeats 4000000 in
theorem values_G {b mb ck : Nat} {c0 : Value} {ms : MsK T_api_Pair} (key : List UInt8) (w : World) (hB : Blk w b 50 [c0, .map (some mb)]) (hM : MpK kv64 w mb ms ck) (hborn : ∀ p ∈ ms, p.2.2 < ck) (hnd : (ms.map (·.2.2)).Nodup) (hlen : ms.length ≤ 1000000) :
    CallsIn Fence.wide 6 Tryd.prog 38 #[.pointer (some ⟨b, 0, none⟩), Str key] w fun e W' => ∃ (v : Value) (xs : List T_api_Pair), e = .returned v ∧ xs.Perm (ms.map (·.1)) ∧ W'.ownsRow (w.heap.size + 1) 9 1 v (fil key xs).length (((fil key xs).mergeSort (fun x y => decide (x ≤ y))).map encStr) ∧ Below w.heap.size w W' := by
  have hlb := hB.lt
  have hlm := hM.lt
  have hro : Fence.wide.round = none := rfl
  obtain ⟨i0, hi, hz0, hz1, hz2⟩ := info_parts infoV
  have hcm : w.cell? ⟨b, 1, none⟩ = some (.map (some mb)) := by unfold Blk at hB; simp [World.cell?, hB]
  refine callsIn_of_wp_marks Tryd.func38 rfl trivial ?_ hro
  simp only [Tryd.ntmps38, List.size_toArray, List.length_cons, List.length_nil, Nat.reduceAdd, Nat.reduceSub, Array.replicate_succ, Array.replicate_zero, List.push_toArray, List.append_toArray, List.nil_append, List.cons_append]
  gi_wp2_with (refine ⟨trivial, ?_⟩; gi_at_call 57; refine (mkeys_K Fence.wide _ trivial hro _ _).mono ?_; rintro e w' ⟨rfl, rfl⟩)
  have bK := ((Boxed.new w 9 (Str key)).alloc (.cells #[.slice none 0 0] 28)).alloc (.cells #[.map (some mb)] 48)
  have bO := (Boxed.new (w.alloc (.cells #[Str key] 9)) 28 (.slice none 0 0)).alloc (.cells #[.map (some mb)] 48)
  have bM := Boxed.new ((w.alloc (.cells #[Str key] 9)).alloc (.cells #[.slice none 0 0] 28)) 48 (.map (some mb))
  simp only [World.size_alloc] at bO bM
  have hB0 : Below w.heap.size w (((w.alloc (.cells #[Str key] 9)).alloc (.cells #[.slice none 0 0] 28)).alloc (.cells #[.map (some mb)] 48)) := (((Below.refl _ w).alloc (Nat.le_refl _) _).alloc (by simp) _).alloc (by simp; omega) _
  have hsz : (((w.alloc (.cells #[Str key] 9)).alloc (.cells #[.slice none 0 0] 28)).alloc (.cells #[.map (some mb)] 48)).heap.size = w.heap.size + 3 := by simp
  obtain ⟨W0, hW0⟩ : ∃ W0, ((w.alloc (.cells #[Str key] 9)).alloc (.cells #[.slice none 0 0] 28)).alloc (.cells #[.map (some mb)] 48) = W0 := ⟨_, rfl⟩
  rw [hW0] at bK bO bM hB0 hsz ⊢
  clear hW0
  refine wpIn_rangeFunc_ownH hro (by omega) (gf := 70) (lb := #[.pointer (some ⟨w.heap.size + 1 + 1, 0, none⟩)]) rfl trivial (enters_of Tryd.func70 (by kernel_rfl) rfl)
    (mkeys_I ms.length W0 bM ((hB0.block mb hlm).trans hM) hborn hnd rfl _) walksK_t (fun W l o o' _ h _ hw => KeepsWalks.putObj o' h hw) (Below.refl _ _) (fun _ => rfl)
    (fun pre W => (∃ v, Boxed W (w.heap.size + 1) 28 v ∧ W.ownsRow (w.heap.size + 1) 9 1 v (fil key pre).length ((fil key pre).map encStr) ∧ (v = .slice none 0 0 ↔ fil key pre = [])) ∧ Below (w.heap.size + 1) W0 W)
    (fun _ _ _ => False)
    (OwnFrom.and (Own.from (holdsRow_own (w.heap.size + 1) (w.heap.size + 1) 28 9 1 (fun pre => (fil key pre).length) (fun pre => (fil key pre).map encStr) (fun pre v => v = .slice none 0 0 ↔ fil key pre = [])) _) (ownFrom_below (by omega) (by omega)))
    (fun _ _ _ _ _ hs _ _ => hs)
    ⟨⟨_, bO, World.ownsRow_nil _ _ _ _, by simp [fil]⟩, Below.refl _ _⟩
    (fun x a' W => ∃ Bx, w.heap.size + 1 < Bx ∧ Blk W Bx 64 [Str x.Key, Str x.Val] ∧ a' = { tmps := #[.pointer (some ⟨b, 0, none⟩), Str key, undef, .pointer (some ⟨w.heap.size, 0, none⟩), .slice none 0 0, .pointer (some ⟨w.heap.size + 1, 0, none⟩), .pointer (some ⟨Bx, 0, none⟩), .pointer (some ⟨b, 0, none⟩), .pointer (some ⟨b, 0, none⟩), .pointer (some ⟨b, 1, none⟩), .map (some mb), .func (.func 70) #[] #[.pointer (some ⟨w.heap.size + 1 + 1, 0, none⟩)], kv64 x, undef, undef, undef, undef, undef, undef, undef, undef, undef, undef, undef, undef], defers := [] })
    (fun x a' _ X Y row hs hg hr => by
      obtain ⟨Bx, h1, h2, h3⟩ := hs
      refine ⟨Bx, h1, ?_, h3⟩
      have h2' : X.heap[Bx]? = _ := h2
      exact (hg.block Bx (Array.getElem?_eq_some_iff.1 h2').1 (fun e => by obtain ⟨_, o, ho, hc⟩ := hr Bx e.symm; rw [h2'] at ho; cases ho; cases hc)).trans h2')
    ?assign ?body ?done ?stop
  case assign =>
    rintro l pre x W K ⟨⟨v, bS1, hrow, hnil⟩, hB1⟩ hK
    have hsW := hB1.size
    have hkv : kv64 x = .agg #[Str x.Key, Str x.Val] := rfl
    simp only [hkv] at hK ⊢
    gi_wp2
    exact hK _ _ ((KeepsOthers.alloc _ _).from _) (KeepsWalks.alloc _ _) ⟨⟨v, bS1.alloc _, hrow.alloc _, hnil⟩, hB1.alloc (by omega) _⟩ ⟨W.heap.size, bS1.lt, Blk.new W 64 _, rfl⟩
  case body =>
    rintro l pre x a' W hl ⟨r, hr⟩ ⟨⟨v, hv, hrow, hnil⟩, hB1⟩ ⟨Bx, hBx, bX, rfl⟩ hlt
    have hsW := hB1.size
    have bB1 : Boxed W w.heap.size 9 (Str key) := (hB1.block _ (by omega)).trans bK
    have hc := hv.cell
    have hcK := bB1.cell
    have hcX : W.cell? ⟨Bx, 0, none⟩ = some (Str x.Key) := by unfold Blk at bX; simp [World.cell?, bX]
    have hcV : W.cell? ⟨Bx, 1, none⟩ = some (Str x.Val) := by unfold Blk at bX; simp [World.cell?, bX]
    have hpl := fil_le key pre
    gi_wp2_with (gi_at_builtin; refine wpListIn_append_own _ rfl _ _ 28 rfl (w.heap.size + 1) 9 i0 (Str []) 1 16 Tryd.underlying28 hi hz0 hz1 hz2 rfl (by decide) _ _ _ rfl (hrow.alloc _) ⟨W.heap.size, 0, none⟩ 1 1 [Str x.Val] rfl rfl (cell_one_new _ _ _) (by simp [Value.oneCell']) (by unfold maxLen; omega) (by omega) (by have := hB1.size; simp; omega) ?_; intro v' w1 hown' hgrow _; obtain ⟨g', cap', rfl⟩ := ownsRow_succ hown'; obtain ⟨hv1, hv2, hr2, hk2, hb2⟩ := hv.appended (by decide) hrow (by omega) (by omega) hown' hgrow; have hc1 := hv1.cell; have hf1 := hv1.frozen)
    · have hx : x.Key = key := by simpa using ‹(x.Key == key) = true›
      exact ⟨hk2.from _, hk2.walks, ⟨_, hv2, by rw [fil_hit pre hx]; simpa using hr2, by rw [fil_hit pre hx]; simp⟩, hB1.trans hb2⟩
    · have hx : ¬ x.Key = key := by simpa using ‹(x.Key == key) = false›
      exact ⟨KeepsFrom.refl _ _, KeepsWalks.refl _, ⟨v, hv, by rw [fil_miss pre hx]; exact hrow, by rw [fil_miss pre hx]; exact hnil⟩, hB1⟩
  case done =>
    rintro D ys W hD hp ⟨⟨v, hv, hrow, hnil⟩, hB⟩ hK
    have hsW := hB.size
    have hc := hv.cell
    have hfl := fil_le key ys
    have hyl : ys.length ≤ 1000000 := by rw [hp.length_eq, List.length_map]; exact hlen
    have hDl := (Array.getElem?_eq_some_iff.1 hK).1
    rcases hrow.2 with ⟨rfl, hz⟩ | ⟨gb, cap, cur, rfl, hbase, hgb, r1, r2, r3, r4⟩
    · have hss : fil key ys = [] := List.eq_nil_of_length_eq_zero hz
      have hs0 : Calls Tryd.prog 58 #[.slice none 0 0] W fun e w' => e = .returned (.tuple #[]) ∧ w' = W := Go.Proofs.AnyM.slices_Sort_string_none Tryd.sortS none 0 W
      have hfin : ∃ xs : List T_api_Pair, xs.Perm (ms.map (·.1)) ∧ fil key xs = [] := ⟨ys, hp, hss⟩
      clear hnil hz hrow hfl hyl hp hss
      gi_wp2_with (refine ⟨trivial, ?_⟩; gi_at_call 58; refine (callsIn_wide.2 hs0).mono ?_; rintro e w' ⟨rfl, rfl⟩)
      refine ⟨by simp, .inl ⟨_, _, rfl, run_takeDeferred hK, ?_⟩⟩
      obtain ⟨xs, hx1, hx2⟩ := hfin
      exact ⟨_, results_tmp rfl _ _ _, _, xs, rfl, hx1, by rw [hx2, List.mergeSort_nil]; exact World.ownsRow_nil _ _ _ _, (hB0.trans (hB.mono (by omega))).trans (belowK_b (n₀ := w.heap.size) (w := w) (Nat.le_refl _) _ D _ _ (by omega) hK rfl rfl)⟩
    · have hH : Holds encStr W gb 0 (fil key ys).toArray := holds_of_block hgb (by simpa using r4)
      have hgl : gb < W.heap.size := (Array.getElem?_eq_some_iff.1 hgb).1
      have cS : Calls Tryd.prog 58 #[.slice (some ⟨gb, 0, none⟩) (fil key ys).length cap] W fun e w' => e = .returned (.tuple #[]) ∧ ∃ n os, w' = grow (putRow encStr (Sort.ahead W n) gb 0 ((fil key ys).mergeSort fun x y => decide (x ≤ y)).toArray) os := Go.Proofs.AnyM.slices_Sort_string Tryd.sortS gb 0 cap (fil key ys) W hH hgl (by omega)
      have hne : some (w.heap.size + 1) ≠ some gb := hv.not_row (by decide) hrow
      have hDg : some D ≠ some gb := fun e => by cases e; rw [hgb] at hK; cases hK
      have hfin : ∃ xs : List T_api_Pair, xs.Perm (ms.map (·.1)) ∧ xs = ys := ⟨ys, hp, rfl⟩
      clear hnil hrow hp
      gi_wp2_with (refine ⟨trivial, ?_⟩; gi_at_call 58; refine (callsIn_wide.2 cS).mono ?_; rintro e w' ⟨rfl, nn, os, rfl⟩; have hv2 := hv.kept (grownBy_sorted (n := nn) (os := os) ((fil key ys).mergeSort fun x y => decide (x ≤ y)).toArray) hne; have hc2 := hv2.cell)
      have hg := grownBy_sorted (w := W) (g := gb) (n := nn) (os := os) ((fil key ys).mergeSort fun x y => decide (x ≤ y)).toArray
      have hK2 := (hg.block D hDl hDg).trans hK
      refine ⟨by simp, .inl ⟨_, _, rfl, run_takeDeferred hK2, ?_⟩⟩
      obtain ⟨xs, hx1, rfl⟩ := hfin
      exact ⟨_, results_tmp rfl _ _ _, _, xs, rfl, hx1, ownsRow_putObj (ownsRow_sorted (by simp) hbase hgb r1 r2 r3) _ hK2 rfl,
        ((hB0.trans (hB.mono (by omega))).grown hg (Nat.le_trans hB0.size hsW) (fun j hj => by cases hj; omega)).trans (belowK_b (n₀ := w.heap.size) (w := w) (Nat.le_refl _) _ D _ _ (by omega) hK2 rfl rfl)⟩
  case stop =>
    rintro D c pre W _ _ h _
    exact h.elim
end Go.Proofs.YtpcpfjpcfcbopaaDoor
