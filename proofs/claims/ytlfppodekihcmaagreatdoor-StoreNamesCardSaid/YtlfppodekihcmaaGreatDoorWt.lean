/-
  The walk by places: slices of slices, appends and new slices in regions that draw their order. Plain laws over any program.
-/
import Derived.Test.YtlfppodekihcmaaGreatDoorWs
set_option linter.unusedVariables false
set_option linter.unusedSimpArgs false
namespace Go.Wk
open Go Go.RowKit
variable {K : Act → World → Prop}
section
variable {P : Program} {f : FuncId} {n : Nat} {R : Ending → World → Prop} {k : List Item} {e : Env} {w w1 : World} {ops : Array Oper} {n0 : Nat} {Z0 S' : Nat → Prop} {w0 : World} {L : List Rs} {α : Type} {rep : Rep α}
variable {d : Nat} {ty : TypeId} {pos : String} {af : Array Edge} {g : Option (Nat × Bool)} {fuel : Nat} {listed : Array Bool} {S : World → Prop}
theorem cutOp {t el : TypeId} {x : Operand} {lo hi : Option Operand} {A : Option Addr} {c m : Nat} {p q : Int} {xs zs : List α} {s : Nat} {dst : Option Nat} (hm : Hp Z0 S' w0 w L) (m' : Nat) (hi' : L[m']? = some (slR A c rep xs)) (hz : cutL xs p q = some zs)
    (ht : P.underlying t = some (.slice el)) (hs : ∀ w, (sizeOf el).run P w = .ok s w) (hsz : rep.sz = s) (hx : ev e x = some (.slice A m c)) (hmm : xs.length = m) (hlo : lo? e lo p) (hhi : hi? e hi q m) :
    ∃ A' c', Hp Z0 S' w0 w (L ++ [slR A' c' rep zs]) ∧ ∀ w', OpV P n e w' ⟨dst, .slice t x lo hi none, ty, pos, af, g⟩ (.slice A' zs.length c') w' := by
  obtain ⟨p', q', rfl, rfl, h1, h2, rfl⟩ := cutE hz
  obtain ⟨g1, g2, g3⟩ := hm.get m' hi'
  subst hmm
  have hcut := g3.cut (c := c) p' q' (by omega) (by omega)
  have hl : ((xs.take q').drop p').length = q' - p' := by rw [List.length_drop, List.length_take]; omega
  refine ⟨_, c - p', hm.knowSl (by omega) (by omega) hcut, fun w' => ?_⟩
  rw [hl]
  subst hsz
  refine V.cutV p' q' ht hs hx ?_ ?_ h1 (by omega)
  · cases lo with
    | none => have hh : (p' : Int) = 0 := hlo; exact Int.ofNat.inj hh
    | some y => exact ⟨_, hlo, rfl⟩
  · cases hi with
    | none => have hh : (q' : Int) = _ := hhi; exact Int.ofNat.inj hh
    | some y => exact ⟨_, hhi, rfl⟩
theorem RT.cutH {t el : TypeId} {x : Operand} {lo hi : Option Operand} {A : Option Addr} {c m : Nat} {p q : Int} {xs zs : List α} {s : Nat} (i : Nat) (hq : Nat.blt i n0 = true) (hm : Hp Z0 S' w0 w1 L) (m' : Nat) (hi' : L[m']? = some (slR A c rep xs)) (hz : cutL xs p q = some zs) (ho : ops[i]? = some ⟨some d, .slice t x lo hi none, ty, pos, af, g⟩) (hg : gok e ops g = true) (hn : Nat.blt d n = true)
    (ht : P.underlying t = some (.slice el)) (hs : ∀ w, (sizeOf el).run P w = .ok s w) (hsz : rep.sz = s) (hx : ev e x = some (.slice A m c)) (hmm : xs.length = m) (hlo : lo? e lo p) (hhi : hi? e hi q m)
    (h : ∀ A' c', Hp Z0 S' w0 w1 (L ++ [slR A' c' rep zs]) → RT P f n R k ops n0 w1 (i + 1) ((d, .slice A' zs.length c') :: e)) : RT P f n R k ops n0 w1 i e := by
  obtain ⟨A', c', h1, h2⟩ := cutOp (n := n) (dst := some d) (ty := ty) (pos := pos) (af := af) (g := g) hm m' hi' hz ht hs hsz hx hmm hlo hhi
  exact RT.v i hq ho hg rfl hn (h2 w1) (h A' c' h1)
theorem RH.cutH {t el : TypeId} {x : Operand} {lo hi : Option Operand} {A : Option Addr} {c m : Nat} {p q : Int} {xs zs : List α} {s : Nat} (i : Nat) (hk : okTake ops listed i = true) (hm : Hp Z0 S' w0 w L) (m' : Nat) (hi' : L[m']? = some (slR A c rep xs)) (hz : cutL xs p q = some zs) (ho : ops[i]? = some ⟨some d, .slice t x lo hi none, ty, pos, af, g⟩) (hg : gok e ops g = true) (hn : Nat.blt d n = true)
    (ht : P.underlying t = some (.slice el)) (hs : ∀ w, (sizeOf el).run P w = .ok s w) (hsz : rep.sz = s) (hx : ev e x = some (.slice A m c)) (hmm : xs.length = m) (hlo : lo? e lo p) (hhi : hi? e hi q m)
    (h : ∀ A' c', Hp Z0 S' w0 w (L ++ [slR A' c' rep zs]) → RG P n K ops S fuel (listed.setIfInBounds i true) ((d, .slice A' zs.length c') :: e) w) : RG P n K ops S (fuel + 1) listed e w := by
  obtain ⟨A', c', h1, h2⟩ := cutOp (n := n) (dst := some d) (ty := ty) (pos := pos) (af := af) (g := g) hm m' hi' hz ht hs hsz hx hmm hlo hhi
  exact RH.take i hk ho hg rfl hn (fun w' _ => h2 w') (h A' c' h1)
theorem RH.s2bH {s t el : TypeId} {x : Operand} {l z : List UInt8} (i : Nat) (hr : Region.ready .any ops listed = [i]) (hm : Hp Z0 S' w0 w L) (hz : lenS l = some z) (ho : ops[i]? = some ⟨some d, .convert s t x, ty, pos, af, g⟩) (hg : gok e ops g = true) (hn : Nat.blt d n = true) (hs : P.underlying s = some .string) (ht : P.underlying t = some (.slice el)) (he : P.underlying el = some (.int .u8)) (hx : ev e x = some (Str l))
    (h : ∀ A c w', Hp Z0 S' w0 w' (L ++ [slR A c byteR z]) → Ext w w' → S w' ∧ RG P n K ops S fuel (listed.setIfInBounds i true) ((d, .slice A z.length c) :: e) w') : RG P n K ops S (fuel + 1) listed e w := by
  obtain ⟨hl, rfl⟩ := lenE hz
  obtain ⟨c, w', hr', h1, h2, h3, h4, h5⟩ := s2b_run (P := P) hs ht he z (by simp only [maxLen]; omega) w
  obtain ⟨h6, h7⟩ := h _ c w' ((hm.ext h3).knowSl h1 h2 (h5.mono fun x hx => by subst hx; exact hm.fresh (by omega))) h3
  exact RH.one i hr ho hg rfl hn (fun a hf => by simp [execOp, ev_eval hf hx, hr']) h6 h7
theorem RH.appH {by_ : Nat} {t el : TypeId} {x y : Operand} {A A' : Option Addr} {c c' l' : Nat} {xs ys zs : List α} (i : Nat) (hr : Region.ready .any ops listed = [i])
    (hm : Hp Z0 S' w0 w L) (m : Nat) (hi : L[m]? = some (ownR el A c rep xs)) (hzs : appL xs ys = some zs)
    (ho : ops[i]? = some ⟨some d, .call { callee := .builtin .append, args := #[x, y], argTypes := #[t, t] }, ty, pos, af, g⟩) (hg : gok e ops g = true) (hn : Nat.blt d n = true)
    (ht : P.underlying t = some (.slice el)) (hel : ElOk P el rep.sz by_) (hby : Nat.ble by_ 131072 = true) (hx : ev e x = some (.slice A xs.length c)) (hy : ev e y = some (.slice A' l' c')) (hl : ys.length = l')
    (hS : Src (Zo Z0 S' w0 L) w A' rep ys)
    (h : ∀ A2 c2 w', Hp Z0 S' w0 w' (L.set m (ownR el A2 c2 rep zs)) → S w' ∧ RG P n K ops S fuel (listed.setIfInBounds i true) ((d, .slice A2 zs.length c2) :: e) w') : RG P n K ops S (fuel + 1) listed e w := by
  obtain ⟨hle, rfl⟩ := appE hzs
  subst hl
  have h0 := hm.get m hi
  have hO : Own 0 (fun b => Zo Z0 S' w0 L b ∧ b < w.heap.size) w el A c rep xs := Own.bd h0
  obtain ⟨A2, c2, w', hr', hF, hob, hown⟩ := app_run (P := P) (c' := c') ht hel hO hS.bd rfl (Nat.zero_le _) (by omega) (mul_by hle hby) ty
  have hO2 := hown (fun b hb hob => hb.1.2 m _ hi hob) (fun b hb hob => hb.1.2 m _ hi hob)
  obtain ⟨h6, h7⟩ := h A2 c2 w' (hm.upd m _ hi hF (fun x hx => (hob x hx).imp id fun hh => by omega) fun Z' h1 _ => hO2.mono fun b hb => by rcases hb with hb | hb <;> exact h1 b hb.1 hb.2)
  rw [List.length_append] at h7
  exact RH.one i hr (v := .slice A2 (xs.length + ys.length) c2) (w' := w') ho hg rfl hn (fun a hf => by simp [execOp, resolve, invoke, builtin, ev_eval hf hx, ev_eval hf hy, hr']) h6 h7
theorem RH.bslS {t el : TypeId} {s by_ : Nat} {ps : List (Nat × Operand)} {m : Nat} {us cs : List Value} (i : Nat) (hr : Region.ready .any ops listed = [i]) (ho : ops[i]? = some ⟨some d, .buildSlice t m ps.toArray, ty, pos, af, g⟩) (hg : gok e ops g = true) (hn : Nat.blt d n = true)
    (ht : P.underlying t = some (.slice el)) (hel : ElOk P el s by_) (hps : ps.map (·.1) = List.range m) (hx : evs e (ps.map (·.2)) = some us) (hl : us.length = m) (hcs : us.flatMap (fun u => u.cells.toList) = cs) (hu : ∀ u ∈ us, u.cells.size = s) (hbig : m * s ≤ 16777216)
    (h : ∀ b w', b = w.heap.size → Blk w' b el cs → Ext w w' → S w' ∧ RG P n K ops S fuel (listed.setIfInBounds i true) ((d, .slice (some ⟨b, 0, none⟩) m m) :: e) w') : RG P n K ops S (fuel + 1) listed e w := by
  obtain ⟨h6, h7⟩ := h w.heap.size (w.alloc (.cells cs.toArray el)) rfl (Blk.new w el cs) (Ext.alloc w _)
  refine RH.one i hr ho hg rfl hn (V.bsl (by simpa using hx) (fun w => ?_)) h6 h7
  rw [List.toList_toArray, hps, ← hcs]
  exact run_buildSlice ht hel hl hu hbig w
end
end Go.Wk
namespace Go.Wk
open Go Go.RowKit
/-- Where a label's code begins. -/
def normL : Code → List Item → List Item
  | .seq a b, k => normL a (.code b :: k)
  | .skip, k => k
  | c, k => .code c :: k
def labelAt (l : Nat) (k : List Item) : Option (List Item) := match gotoIn l k with
  | some (.code c :: k1) => some (normL c k1)
  | _ => none
/-- What comes behind a label is told once. -/
theorem Rn.joinL {P : Program} {f : FuncId} {n : Nat} {R : Ending → World → Prop} {k k' : List Item} {e : Env} {w : World} {G R' : Type} {r : R'} (l : Nat) (hk : labelAt l k = some k') (E : G → Env) (I : G → World → Prop) (K : G → Option R')
    (rest : ∀ g w', I g w' → K g = some r → Rn P f n R k' (E g) w')
    (h : (∀ g w' e', Sub (E g) e' → I g w' → K g = some r → Rn P f n R k' e' w') → Rn P f n R k e w) : Rn P f n R k e w :=
  h fun g w' _ hs hI hK => (rest g w' hI hK).weaken hs
/-- A label to which the code behind it goes back. -/
theorem Rn.loopL {P : Program} {f : FuncId} {n : Nat} {R : Ending → World → Prop} {k k' : List Item} {e : Env} {w : World} {G R' : Type} {r : R'} (l : Nat) (hk : labelAt l k = some k') (E : G → Env) (I : G → World → Prop) (M : Nat → G → Option R') (N : Nat) (h0 : ∀ g, M 0 g = none)
    (body : ∀ m g w, I g w → M (m + 1) g = some r → (∀ g' w' e', Sub (E g') e' → I g' w' → M m g' = some r → Rn P f n R k' e' w') → Rn P f n R k' (E g) w)
    (h : (∀ g w' e', Sub (E g) e' → I g w' → M N g = some r → Rn P f n R k' e' w') → Rn P f n R k e w) : Rn P f n R k e w := by
  have key : ∀ m g w, I g w → M m g = some r → Rn P f n R k' (E g) w := by
    intro m
    induction m with
    | zero => intro g w _ h; rw [h0] at h; cases h
    | succ m ih =>
      intro g w hI hM
      exact body m g w hI hM fun g' w' e' hs hI' hM' => (ih g' w' hI' hM').weaken hs
  exact h fun g w' _ hs hI hM => (key N g w' hI hM).weaken hs
end Go.Wk
namespace Go.Wk
open Go Go.RowKit
section
variable {α : Type} {rep : Rep α} {Z0 S : Nat → Prop} {w0 w w' : World} {L : List Rs}
/-- A new slice whose things hang on memory that stays. -/
theorem Hp.addLitZ {et : TypeId} {b : Nat} {cs : List Value} {xs : List α} {vss : List (List Value)} (hm : Hp Z0 S w0 w L) (hb : b = w.heap.size) (hE : Ext w w') (hB : Blk w' b et cs) (hfl : vss.flatten = cs) (hl : vss.length = xs.length) (hm' : Nat.ble xs.length maxLen = true)
    (hrel : ∀ (k : Nat) (vs : List Value) (x : α), vss[k]? = some vs → xs[k]? = some x → rep.rel (Zo Z0 S w0 L) w vs x) : Hp Z0 S w0 w' (L ++ [ownR et (some ⟨b, 0, none⟩) xs.length rep xs]) :=
  hm.add _ hE (fun x hx => by have hxb : b = x := (by simpa [ownR, ob] using hx); omega) fun Z hZ => by
    have hlen : ∀ vs ∈ vss, vs.length = rep.sz := lens_of hl hrel
    have hf := length_flat rep.sz vss hlen
    refine ⟨Nat.le_refl _, Nat.le_of_ble_eq_true hm', .inr ⟨b, cs, vss, rfl, Nat.zero_le _, hB, ?_, hl, fun k vs x h1 h2 => rep.mono (rep.keep (rep.bd (hrel k vs x h1 h2)) fun b hb _ => hE.keep b hb.2 (fun h => h)) fun b hb => hZ b hb.1 hb.2, ?_⟩⟩
    · rw [← hfl, hf, hl]; exact Nat.le_refl _
    · rw [← hfl, ← hl, ← hf, List.take_length]
theorem relz0 {Z : Nat → Prop} : ∀ (k : Nat) (vs : List Value) (x : α), ([] : List (List Value))[k]? = some vs → ([] : List α)[k]? = some x → rep.rel Z w vs x := fun k _ _ h => by simp at h
theorem relz_cons {Z : Nat → Prop} {v : List Value} {x : α} {vss : List (List Value)} {xs : List α} (h : rep.rel Z w v x) (hr : ∀ (k : Nat) (vs : List Value) (x : α), vss[k]? = some vs → xs[k]? = some x → rep.rel Z w vs x) :
    ∀ (k : Nat) (vs : List Value) (y : α), (v :: vss)[k]? = some vs → (x :: xs)[k]? = some y → rep.rel Z w vs y
  | 0, vs, y, h1, h2 => by cases h1; cases h2; exact h
  | k + 1, vs, y, h1, h2 => hr k vs y h1 h2
end
end Go.Wk
