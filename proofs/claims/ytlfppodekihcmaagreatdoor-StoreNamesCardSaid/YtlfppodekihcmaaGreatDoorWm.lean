/-
  The walk by places: things lent to a call, elements that are written, more of the regions whose order is drawn. Plain laws over any program.
-/
import Derived.Test.YtlfppodekihcmaaGreatDoorWl
set_option linter.unusedVariables false
set_option linter.unusedSimpArgs false
namespace Go.Wk
open Go Go.RowKit
variable {K : Act → World → Prop}

/- THINGS LENT -/
def LS (L : List Rs) : Nat → Prop := fun b => ∃ (i : Nat) (r : Rs), L[i]? = some r ∧ r.F b
/-- Things that are lent to a call. -/
def Lent (Z0 : Nat → Prop) (w : World) (L : List Rs) : Prop := (∀ (i : Nat) r, L[i]? = some r → r.H (Zo Z0 (LS L) w L) w) ∧ ∀ (i j : Nat) a b, i ≠ j → L[i]? = some a → L[j]? = some b → ∀ x, a.F x → ¬ b.F x
section
variable {Z0 Z1 S : Nat → Prop} {w0 w w' : World} {L K M L' : List Rs}
theorem Lent.start (h : Lent Z0 w L) : Hp Z0 (LS L) w w L := ⟨Fr.refl _ _, h.1, h.2, fun i r hi x hx => .inl ⟨i, r, hi, hx⟩⟩
theorem get_app {j : Nat} {a : Rs} (h : (K ++ L')[j]? = some a) : K[j]? = some a ∨ (K.length ≤ j ∧ L'[j - K.length]? = some a) := by
  rw [List.getElem?_append] at h
  split at h
  · exact .inl h
  · exact .inr ⟨by omega, h⟩
theorem get_left {j : Nat} {a : Rs} (h : K[j]? = some a) : (K ++ M)[j]? = some a := by rw [List.getElem?_append_left (lt_of_get h)]; exact h
theorem get_right {j : Nat} {a : Rs} (h : M[j]? = some a) : (K ++ M)[K.length + j]? = some a := by
  rw [List.getElem?_append_right (by omega)]
  have : K.length + j - K.length = j := by omega
  rw [this]; exact h
/-- What is lent to a call: of the things M, all blocks that stay handed on too. -/
theorem Hp.lend (hm : Hp Z0 S w0 w (K ++ M)) : Lent (Zo Z0 S w0 (K ++ M)) w M := by
  refine ⟨fun i r hi => r.keep (hm.hs _ r (get_right hi)) (fun _ _ _ => rfl) (fun _ _ _ => rfl) fun b hb _ => ⟨.inl hb, fun j a hj => hb.2 _ a (get_right hj)⟩, fun i j a b hij hi hj => hm.ap _ _ a b (by omega) (get_right hi) (get_right hj)⟩
/-- The same where the things hang on no other memory. -/
theorem Lent.flat (h : Lent Z0 w M) (hf : ∀ (i : Nat) r, M[i]? = some r → r.Flat) : Lent Z1 w M := ⟨fun i r hi => hf i r hi _ _ _ (h.1 i r hi), h.2⟩
theorem Hp.callA (hm : Hp Z0 S w0 w (K ++ M)) (h' : Hp Z1 (LS M) w w' L') (hZ : (∀ (i : Nat) r, L'[i]? = some r → r.Flat) ∨ ∀ b, Z1 b → Zo Z0 S w0 (K ++ M) b) : Hp Z0 S w0 w' (K ++ L') := by
  have hF := h'.fr
  have hsz := hm.size
  have hM : ∀ x, LS M x → S x ∨ w0.heap.size ≤ x := fun x ⟨i, r, hi, hx⟩ => hm.nw _ r (get_right hi) x hx
  have hMlt : ∀ x, LS M x → x < w.heap.size := fun x ⟨i, r, hi, hx⟩ => hm.lt (get_right hi) x hx
  have hKM : ∀ {j : Nat} {a : Rs}, K[j]? = some a → ∀ x, a.F x → ¬ LS M x := fun {j a} hj x hx ⟨i, r, hi, hr⟩ => hm.ap j (K.length + i) a r (by have := lt_of_get hj; omega) (get_left hj) (get_right hi) x hx hr
  have hnew : ∀ {j : Nat} {a : Rs}, L'[j]? = some a → ∀ x, a.F x → LS M x ∨ w.heap.size ≤ x := fun hj x hx => h'.nw _ _ hj x hx
  have hz1 : ∀ b, Zo Z0 S w0 (K ++ M) b → b < w.heap.size → Zo Z0 S w0 (K ++ L') b := fun b ⟨h1, h2⟩ hlt => ⟨h1, fun j a hj ha => by
    rcases get_app hj with hj | ⟨_, hj⟩
    · exact h2 j a (get_left hj) ha
    · rcases hnew hj b ha with ⟨i, r, hi, hr⟩ | h3
      · exact h2 _ r (get_right hi) hr
      · omega⟩
  have hzM : ∀ b, Zo Z0 S w0 (K ++ M) b → ¬ LS M b := fun b hb ⟨i, r, hi, hr⟩ => hb.2 _ r (get_right hi) hr
  refine ⟨hm.fr.trans' hF hM, ?_, ?_, ?_⟩
  · intro j a hj
    rcases get_app hj with hj | ⟨_, hj⟩
    · exact a.keep (hm.hs j a (get_left hj)) (fun b hb hlt => hF.keep b hlt (hKM hj b hb)) (fun b hb hlt => hF.keep b hlt (hzM b hb)) hz1
    · rcases hZ with hfl | hZ
      · exact hfl _ a hj _ _ _ (h'.hs _ a hj)
      · refine a.keep (h'.hs _ a hj) (fun _ _ _ => rfl) (fun _ _ _ => rfl) fun b hb hlt => ?_
        by_cases hlt2 : b < w.heap.size
        · rcases hb.1 with h1 | h1 | h1
          · exact hz1 b (hZ b h1) hlt2
          · refine ⟨hM b h1 |>.elim (fun h => .inr (.inl h)) fun h => .inr (.inr h), fun i c hi hc => ?_⟩
            rcases get_app hi with hi | ⟨_, hi⟩
            · exact hKM hi b hc h1
            · exact hb.2 _ c hi hc
          · omega
        · refine ⟨.inr (.inr (by omega)), fun i c hi hc => ?_⟩
          rcases get_app hi with hi | ⟨_, hi⟩
          · have := hm.lt (get_left hi) b hc; omega
          · exact hb.2 _ c hi hc
  · intro i j a b hij hi hj x hx hb
    rcases get_app hi with hi' | ⟨hi1, hi'⟩
    · rcases get_app hj with hj' | ⟨hj1, hj'⟩
      · exact hm.ap i j a b hij (get_left hi') (get_left hj') x hx hb
      · rcases hnew hj' x hb with h3 | h3
        · exact hKM hi' x hx h3
        · have := hm.lt (get_left hi') x hx; omega
    · rcases get_app hj with hj' | ⟨hj1, hj'⟩
      · rcases hnew hi' x hx with h3 | h3
        · exact hKM hj' x hb h3
        · have := hm.lt (get_left hj') x hb; omega
      · exact h'.ap _ _ a b (by omega) hi' hj' x hx hb
  · intro j a hj x hx
    rcases get_app hj with hj | ⟨_, hj⟩
    · exact hm.nw j a (get_left hj) x hx
    · rcases hnew hj x hx with h3 | h3
      · exact hM x h3
      · exact .inr (by omega)
theorem Hp.callAZ (hm : Hp Z0 S w0 w (K ++ M)) (h' : Hp (Zo Z0 S w0 (K ++ M)) (LS M) w w' L') : Hp Z0 S w0 w' (K ++ L') := hm.callA h' (.inr fun _ hb => hb)
theorem Hp.callAF (hfl : ∀ (i : Nat) r, L'[i]? = some r → r.Flat) (hm : Hp Z0 S w0 w (K ++ M)) (h' : Hp Z1 (LS M) w w' L') : Hp Z0 S w0 w' (K ++ L') := hm.callA h' (.inl hfl)
theorem fl0 : ∀ (i : Nat) (r : Rs), ([] : List Rs)[i]? = some r → r.Flat := fun i r h => by simp at h
theorem flC {a : Rs} {L : List Rs} (h : a.Flat) (hL : ∀ (i : Nat) r, L[i]? = some r → r.Flat) : ∀ (i : Nat) r, (a :: L)[i]? = some r → r.Flat
  | 0, _, hh => by cases hh; exact h
  | i + 1, r, hh => hL i r hh
theorem boxR_flat (b : Nat) (t : TypeId) (cs : List Value) : (boxR b t cs).Flat := fun _ _ _ h => h
/-- A block of one's own, read only. -/
theorem box_rdR {b : Nat} {t : TypeId} {cs : List Value} {Z : Nat → Prop} (h : (boxR b t cs).H Z w) : (rdR b 0 cs).H All w := ⟨fun _ => trivial, Blk.rd h⟩
theorem rdR_all {b o : Nat} {cs : List Value} {Z : Nat → Prop} (h : (rdR b o cs).H Z w) : (rdR b o cs).H All w := ⟨fun _ => trivial, h.2⟩
theorem rdR_sub {b o : Nat} {cs : List Value} {Z : Nat → Prop} (h : (rdR b o cs).H Z w) (p m : Nat) : (rdR b (o + p) ((cs.drop p).take m)).H Z w := ⟨fun hne => h.1 (by rintro rfl; simp at hne), Rd.sub h.2 p m⟩
end

/- ELEMENTS THAT ARE WRITTEN -/
theorem setL_append (pre : List Value) : ∀ (vs mid post : List Value), mid.length = vs.length → setL (pre ++ mid ++ post) pre.length vs = pre ++ vs ++ post
  | [], mid, post, h => by have : mid = [] := List.eq_nil_of_length_eq_zero h; simp [setL, this]
  | v :: r, mid, post, h => by
    cases mid with
    | nil => cases h
    | cons m mr =>
      simp only [setL]
      have h2 : (pre ++ m :: mr ++ post).set pre.length v = (pre ++ [v]) ++ mr ++ post := by simp
      rw [h2]
      have := setL_append (pre ++ [v]) r mr post (by simpa using h)
      simp only [List.length_append, List.length_cons, List.length_nil, Nat.zero_add] at this
      rw [this]; simp
theorem flatten_set (m : Nat) : ∀ (vss : List (List Value)) (hl : ∀ vs ∈ vss, vs.length = m) (k : Nat) (vs us : List Value) (_ : vss[k]? = some us) (_ : vs.length = m), ∃ pre post, vss.flatten = pre ++ us ++ post ∧ (vss.set k vs).flatten = pre ++ vs ++ post ∧ pre.length = k * m
  | [], _, k, vs, us, h, _ => by simp at h
  | x :: r, hl, 0, vs, us, h, _ => by simp at h; subst h; exact ⟨[], r.flatten, by simp, by simp, by simp⟩
  | x :: r, hl, k + 1, vs, us, h, hv => by
    obtain ⟨pre, post, h1, h2, h3⟩ := flatten_set m r (fun y hy => hl y (by simp [hy])) k vs us (by simpa using h) hv
    exact ⟨x ++ pre, post, by simp [h1], by simp [h2], by rw [List.length_append, h3, hl x (by simp), Nat.add_mul]; omega⟩
def setZ {α : Type} (l : List α) (i : Int) (x : α) : Option (List α) := if 0 ≤ i ∧ i < l.length then some (l.set i.toNat x) else none
theorem setE {α : Type} {l m : List α} {i : Int} {x : α} (h : setZ l i x = some m) : ∃ k : Nat, i = k ∧ k < l.length ∧ m = l.set k x := by
  unfold setZ at h
  split at h
  · rename_i hh; exact ⟨i.toNat, by omega, by omega, (Option.some.inj h).symm⟩
  · cases h
section
variable {P : Program} {α : Type} {rep : Rep α} {Z0 S : Nat → Prop} {w0 w : World} {L : List Rs}
theorem own_set_run {t el : TypeId} {A : Option Addr} {c kk s : Nat} {xs : List α} {z : α} {v : Value} {vs : List Value} {D : Nat → Prop} (hO : Own 0 D w el A c rep xs) (hk : kk < xs.length) (hs : ∀ w, (sizeOf t).run P w = .ok s w) (hv : v.cells = vs.toArray) (hsz : rep.sz = s) (hrel : rep.rel D w vs z) (hD : ∀ b, D b → ¬ ob A b) :
    ∃ g w', A = some ⟨g, 0, none⟩ ∧ (storeVar t ⟨g, kk * s, none⟩ v).run P w = .ok () w' ∧ Own 0 D w' el A c rep (xs.set kk z) ∧ Fr (fun b => ob A b) w w' := by
  rcases hO.2.2 with ⟨rfl, hc⟩ | ⟨g, cs, vss, rfl, h1, h2, h3, h4, h5, h6⟩
  · have := hO.1; omega
  · have hlen := lens_of h4 h5
    have hkv : kk < vss.length := by omega
    have hvl := rep.len hrel
    obtain ⟨pre, post, q1, q2, q3⟩ := flatten_set rep.sz vss hlen kk vs vss[kk] (List.getElem?_eq_getElem hkv) hvl
    have hul : vss[kk].length = rep.sz := hlen _ (List.getElem_mem hkv)
    have hcs : cs = pre ++ vss[kk] ++ (post ++ cs.drop (xs.length * rep.sz)) := by
      have := List.take_append_drop (xs.length * rep.sz) cs
      rw [h6, q1] at this
      rw [← List.append_assoc]; exact this.symm
    have hcl : kk * s + 0 + vs.length ≤ cs.length := by
      rw [hcs]; simp only [List.length_append, q3, hul, hsz, hvl] at *; omega
    obtain ⟨w', hr, hB, hF⟩ := storeCells_blk P el g vs cs (kk * s) 0 w h2 (rep.one hrel) hcl
    have hset : setL cs (kk * s + 0) vs = pre ++ vs ++ (post ++ cs.drop (xs.length * rep.sz)) := by
      have hp : kk * s + 0 = pre.length := by rw [q3, hsz]; omega
      rw [hp]
      rw [hcs]
      have := setL_append pre vs vss[kk] (post ++ cs.drop (xs.length * rep.sz)) (by rw [hul, hvl])
      conv => lhs; rw [← hcs]
      rw [← hcs] at this ⊢
      exact this
    have hF' : Fr (fun b => ob (some ⟨g, 0, none⟩) b) w w' := hF.mono fun b hb => by rw [hb]; rfl
    refine ⟨g, w', rfl, ?_, ⟨by rw [List.length_set]; exact hO.1, hO.2.1, .inr ⟨g, setL cs (kk * s + 0) vs, vss.set kk vs, rfl, h1, hB, by rw [length_setL]; exact h3, by simp [h4], ?_, ?_⟩⟩, hF'⟩
    · have hsize : v.cells.size = s := by rw [hv]; simp [hvl, hsz]
      simp [storeVar, hs, hv, hvl, hsz, hr]
    · intro k us x hu hx
      rw [List.getElem?_set] at hu hx
      split at hu
      · rename_i hkk
        rw [if_pos hkk] at hx
        have e1 : us = vs := by
          first
          | exact (Option.some.inj hu).symm
          | (rw [if_pos (by omega)] at hu; exact (Option.some.inj hu).symm)
        have e2 : x = z := by
          rw [if_pos (by omega)] at hx; exact (Option.some.inj hx).symm
        subst e1 e2
        exact Rep.fr hrel hF' hD
      · rename_i hkk
        rw [if_neg hkk] at hx
        exact Rep.fr (h5 k us x hu hx) hF' hD
    · rw [List.length_set, hset, q2, ← List.append_assoc]
      have : (pre ++ vs ++ post).length = xs.length * rep.sz := by
        have hh := length_flat rep.sz vss hlen
        rw [q1, h4] at hh
        simp only [List.length_append, hul, hvl] at hh ⊢; omega
      rw [← this, List.take_left]
variable {f : FuncId} {n : Nat} {R : Ending → World → Prop} {k : List Item} {e : Env}
variable {ops : Array Oper} {i : Nat} {rest : List Nat} {d : Nat} {dst : Option Nat} {ty : TypeId} {pos : String} {af : Array Edge} {g : Option (Nat × Bool)}
/-- The address of an element of a slice of one's own. -/
theorem own_at {t el : TypeId} {x y : Operand} {A : Option Addr} {c m kk : Nat} {q : IntKind} {j : Int} {xs : List α} {s : Nat} {et : TypeId} {D : Nat → Prop} (hO : Own 0 D w et A c rep xs) (hk : kk < xs.length) : ∃ gb, A = some ⟨gb, 0, none⟩ := by
  rcases hO.2.2 with ⟨rfl, hc⟩ | ⟨gb, cs, vss, rfl, _⟩
  · have := hO.1; omega
  · exact ⟨gb, rfl⟩
theorem Hp.ownAt {A : Option Addr} {c kk : Nat} {xs : List α} {et : TypeId} {z : α} (hm : Hp Z0 S w0 w L) (m' : Nat) (hi : L[m']? = some (ownR et A c rep xs)) (hz : xs[kk]? = some z) : ∃ gb vs, A = some ⟨gb, 0, none⟩ ∧ Rd w gb (kk * rep.sz) vs ∧ rep.rel (Zo Z0 S w0 L) w vs z := by
  have hO := hm.get m' hi
  have hS := Own.src hO (by rintro rfl; simp at hz)
  obtain ⟨b, o, vss, hA, hl, hrel, hc⟩ := hS
  have hk : kk < vss.length := by rw [hl]; exact lt_of_get hz
  rcases hO.2.2 with ⟨rfl, hc⟩ | ⟨gb, cs', vss', rfl, _⟩
  · have := hO.1; have := lt_of_get hz; omega
  · injection hA with hA
    injection hA with hA hA2
    subst hA hA2
    refine ⟨_, vss[kk], rfl, ?_, hrel kk _ z (List.getElem?_eq_getElem hk) hz⟩
    intro jj v hv
    have := flatten_get rep.sz vss (lens_of hl hrel) kk _ (List.getElem?_eq_getElem hk) jj v hv
    have := hc _ v this
    rw [Nat.zero_add] at this
    exact this
/-- An element is written. -/
theorem stE_run {t el : TypeId} {x y : Operand} {gb kk s c : Nat} {xs : List α} {z : α} {v : Value} {vs : List Value} (hm : Hp Z0 S w0 w L) (m' : Nat) (hi : L[m']? = some (ownR el (some ⟨gb, 0, none⟩) c rep xs)) (hk : kk < xs.length)
    (hs : ∀ w, (sizeOf t).run P w = .ok s w) (hsz : rep.sz = s) (hx : ev e x = some (.pointer (some ⟨gb, kk * s, none⟩))) (hy : ev e y = some v) (hv : v.cells = vs.toArray) (hrel : rep.rel (Zo Z0 S w0 L) w vs z) :
    ∃ w', (∀ a : Act, Fits e n a.tmps → (execOp a.eval ⟨none, .store t x y, ty, pos, af, g⟩).run P w = .ok .skip w') ∧ Hp Z0 S w0 w' (L.set m' (ownR el (some ⟨gb, 0, none⟩) c rep (xs.set kk z))) := by
  have h0 := hm.get m' hi
  have hO : Own 0 (fun b => Zo Z0 S w0 L b ∧ b < w.heap.size) w el (some ⟨gb, 0, none⟩) c rep xs := Own.bd h0
  obtain ⟨g', w', hA, hr, hO2, hF⟩ := own_set_run (P := P) (t := t) hO hk hs hv hsz (rep.bd hrel) (fun b hb hob => hb.1.2 m' _ hi hob)
  cases hA
  exact ⟨w', fun a hf => by simp [execOp, ev_eval hf hx, ev_eval hf hy, Instr.storeAt, Instr.sureAddr, hr], hm.upd m' _ hi hF (fun x hx => .inl hx) fun Z' h1 _ => hO2.mono fun b hb => h1 b hb.1 hb.2⟩
theorem Rn.stE {t el : TypeId} {x y : Operand} {gb kk s c : Nat} {xs : List α} {z : α} {v : Value} {vs : List Value} (hm : Hp Z0 S w0 w L) (m' : Nat) (hi : L[m']? = some (ownR el (some ⟨gb, 0, none⟩) c rep xs)) (hk : kk < xs.length) (ho : ops[i]? = some ⟨none, .store t x y, ty, pos, af, g⟩) (hg : gok e ops g = true)
    (hs : ∀ w, (sizeOf t).run P w = .ok s w) (hsz : rep.sz = s) (hx : ev e x = some (.pointer (some ⟨gb, kk * s, none⟩))) (hy : ev e y = some v) (hv : v.cells = vs.toArray) (hrel : rep.rel (Zo Z0 S w0 L) w vs z)
    (h : ∀ w', Hp Z0 S w0 w' (L.set m' (ownR el (some ⟨gb, 0, none⟩) c rep (xs.set kk z))) → Rn P f n R (.inRegion ops rest :: k) e w') : Rn P f n R (.inRegion ops (i :: rest) :: k) e w := by
  obtain ⟨w', hr, hm'⟩ := stE_run (P := P) (n := n) (ty := ty) (pos := pos) (af := af) (g := g) hm m' hi hk hs hsz hx hy hv hrel
  exact Rn.opU ho hg rfl hr (h w' hm')
end

/- REGIONS THAT DRAW -/
section
variable {P : Program} {f : FuncId} {n : Nat} {R : Ending → World → Prop} {k : List Item} {e : Env} {w : World}
variable {ops : Array Oper} {S : World → Prop} {fuel : Nat} {listed : Array Bool} {d : Nat} {o : Oper} {ty : TypeId} {pos : String} {af : Array Edge} {g : Option (Nat × Bool)}
theorem Rn.drawX {id : Nat} {ops : Array Oper} {Z0 S' : Nat → Prop} {w0 : World} {L : List Rs} (hm' : P.follows .mixedOrders = true) (hm : Hp Z0 S' w0 w L)
    (h : ∀ w1, Hp Z0 S' w0 w1 L → RH P f n R k ops (fun _ => True) ops.size (Array.replicate ops.size false) e w1) : Rn P f n R (.code (.region id ops true) :: k) e w :=
  Rn.draw (fun _ => True) hm' trivial (h w.drew (hm.ext (Ext.drew w)))
/-- Two that may come up, both read. -/
theorem RH.two {di dj : Nat} {oi oj : Oper} {vi vj : Value} (i j : Nat) (hr : Region.ready .any ops listed = [i, j]) (hoi : ops[i]? = some oi) (hgi : gok e ops oi.guard = true) (hdi : oi.dst = some di) (hni : Nat.blt di n = true) (hvi : OpV P n e w oi vi w)
    (hoj : ops[j]? = some oj) (hgj : gok e ops oj.guard = true) (hdj : oj.dst = some dj) (hnj : Nat.blt dj n = true) (hvj : OpV P n e w oj vj w)
    (hi : RG P n K ops S fuel (listed.setIfInBounds i true) ((di, vi) :: e) w) (hj : RG P n K ops S fuel (listed.setIfInBounds j true) ((dj, vj) :: e) w) : RG P n K ops S (fuel + 1) listed e w := by
  intro a ha hf hS
  refine wpAnyH_all hr (by simp) fun q hq => ?_
  rcases List.mem_cons.1 hq with rfl | hq
  · unfold wpOp
    simp only [hoi, wanted_of_gok hf hgi, if_true]
    refine .inl ?_
    unfold Oper.wp
    rw [hvi a hf, Oper.upon_value, hdi]
    exact ⟨hS, hi _ (by rw [defers_put]; exact ha) (fits_put hf hni vi) hS⟩
  · obtain rfl : q = j := by simpa using hq
    unfold wpOp
    simp only [hoj, wanted_of_gok hf hgj, if_true]
    refine .inl ?_
    unfold Oper.wp
    rw [hvj a hf, Oper.upon_value, hdj]
    exact ⟨hS, hj _ (by rw [defers_put]; exact ha) (fits_put hf hnj vj) hS⟩
theorem RH.here (h : S w → RG P n K ops S fuel listed e w) : RG P n K ops S fuel listed e w := fun a ha hf hS => h hS a ha hf hS
theorem RH.alloc {t : TypeId} {z : Value} {cs : List Value} (i : Nat) (hr : Region.ready .any ops listed = [i]) (ho : ops[i]? = some ⟨some d, .alloc t, ty, pos, af, g⟩) (hg : gok e ops g = true) (hn : Nat.blt d n = true) (hz : ∀ w, (zeroValue t).run P w = .ok z w) (hc : z.cells = cs.toArray)
    (h : ∀ b w', b = w.heap.size → Blk w' b t cs → Ext w w' → S w' ∧ RG P n K ops S fuel (listed.setIfInBounds i true) ((d, .pointer (some ⟨b, 0, none⟩)) :: e) w') : RG P n K ops S (fuel + 1) listed e w := by
  obtain ⟨h6, h7⟩ := h w.heap.size (w.alloc (.cells cs.toArray t)) rfl (Blk.new w t cs) (Ext.alloc w _)
  exact RH.one i hr ho hg rfl hn (V.alloc hz hc) h6 h7
theorem RH.st {t : TypeId} {x y : Operand} {b o s : Nat} {t' : TypeId} {cs vs : List Value} {v : Value} (i : Nat) (hr : Region.ready .any ops listed = [i]) (ho : ops[i]? = some ⟨none, .store t x y, ty, pos, af, g⟩) (hg : gok e ops g = true) (hs : ∀ w, (sizeOf t).run P w = .ok s w) (hx : ev e x = some (.pointer (some ⟨b, o, none⟩))) (hy : ev e y = some v) (hv : v.cells = vs.toArray)
    (hl : vs.length = s) (h1 : ∀ u ∈ vs, u.oneCell' = true) (hB : Blk w b t' cs) (hfit : o + vs.length ≤ cs.length)
    (h : ∀ w', Blk w' b t' (setL cs o vs) → Fr (fun x => x = b) w w' → S w' ∧ RG P n K ops S fuel (listed.setIfInBounds i true) e w') : RG P n K ops S (fuel + 1) listed e w := by
  obtain ⟨w', hr', hb, hf⟩ := storeCells_blk P t' b vs cs o 0 w hB h1 (by omega)
  obtain ⟨h6, h7⟩ := h w' hb hf
  refine RH.oneU i hr ho hg rfl (fun a hf => ?_) h6 h7
  simp [execOp, ev_eval hf hx, ev_eval hf hy, Instr.storeAt, Instr.sureAddr, storeVar, hs, hv, hl, hr']
theorem RH.stE {α : Type} {rep : Rep α} {Z0 S' : Nat → Prop} {w0 : World} {L : List Rs} {t el : TypeId} {x y : Operand} {gb kk s c : Nat} {xs : List α} {z : α} {v : Value} {vs : List Value} (i : Nat) (hr : Region.ready .any ops listed = [i]) (hm : Hp Z0 S' w0 w L) (m' : Nat) (hi : L[m']? = some (ownR el (some ⟨gb, 0, none⟩) c rep xs)) (hk : kk < xs.length) (ho : ops[i]? = some ⟨none, .store t x y, ty, pos, af, g⟩) (hg : gok e ops g = true)
    (hs : ∀ w, (sizeOf t).run P w = .ok s w) (hsz : rep.sz = s) (hx : ev e x = some (.pointer (some ⟨gb, kk * s, none⟩))) (hy : ev e y = some v) (hv : v.cells = vs.toArray) (hrel : rep.rel (Zo Z0 S' w0 L) w vs z)
    (h : ∀ w', Hp Z0 S' w0 w' (L.set m' (ownR el (some ⟨gb, 0, none⟩) c rep (xs.set kk z))) → S w' ∧ RG P n K ops S fuel (listed.setIfInBounds i true) e w') : RG P n K ops S (fuel + 1) listed e w := by
  obtain ⟨w', hr', hm'⟩ := stE_run (P := P) (n := n) (ty := ty) (pos := pos) (af := af) (g := g) hm m' hi hk hs hsz hx hy hv hrel
  obtain ⟨h6, h7⟩ := h w' hm'
  exact RH.oneU i hr ho hg rfl hr' h6 h7
theorem RH.clV {gg : FuncId} {y : Operand} {cs : List Value} {xs : List Operand} {ts : Array TypeId} {vs : List Value} {R' : Ending → World → Prop} (ck : CallOk P gg) (i : Nat) (hr : Region.ready .any ops listed = [i])
    (ho : ops[i]? = some ⟨some d, .call { callee := .value y, args := xs.toArray, argTypes := ts }, ty, pos, af, g⟩) (hg : gok e ops g = true) (hn : Nat.blt d n = true)
    (hy : ev e y = some (.func (.func gg) #[] cs.toArray)) (hx : evs e xs = some vs) (hc : Calls P gg (vs ++ cs).toArray w R')
    (h : ∀ x w', R' x w' → ∃ v, x = .returned v ∧ S w' ∧ RG P n K ops S fuel (listed.setIfInBounds i true) ((d, v) :: e) w') : RG P n K ops S (fuel + 1) listed e w := by
  obtain ⟨fn, c, h1, h2, h3⟩ := ck
  exact RH.opC (g := gg) (args := (vs ++ cs).toArray) i hr ho hg rfl hn (fun a hf => by
    simp [execOp, resolve, ev_eval hf hy, Deferred.ofValue, invoke, run_callFunc h1 h2 h3, evs_map hf hx]) hc h
theorem RH.clN {gg : FuncId} {xs : List Operand} {ts : Array TypeId} {vs : List Value} {R' : Ending → World → Prop} (ck : CallOk P gg) (i : Nat) (hr : Region.ready .any ops listed = [i])
    (ho : ops[i]? = some ⟨some d, .call { callee := .value (.func gg), args := xs.toArray, argTypes := ts }, ty, pos, af, g⟩) (hg : gok e ops g = true) (hn : Nat.blt d n = true)
    (hx : evs e xs = some vs) (hc : Calls P gg vs.toArray w R')
    (h : ∀ x w', R' x w' → ∃ v, x = .returned v ∧ S w' ∧ RG P n K ops S fuel (listed.setIfInBounds i true) ((d, v) :: e) w') : RG P n K ops S (fuel + 1) listed e w := RH.cl ck i hr ho hg hn hx hc h
end
theorem Hp.extOf {Z0 S : Nat → Prop} {w0 w w' : World} {L : List Rs} (hm : Hp Z0 S w0 w L) (h : Ext w w') : Hp Z0 S w0 w' L := hm.ext h
end Go.Wk
namespace Go.Wk
open Go Go.RowKit
variable {K : Act → World → Prop}
section
variable {P : Program} {n : Nat} {e : Env} {w : World} {dst : Option Nat} {ty : TypeId} {pos : String} {af : Array Edge} {g : Option (Nat × Bool)}
theorem V.ixE {t el : TypeId} {x y : Operand} {b m c : Nat} {q : IntKind} {j : Int} {s : Nat} (kk : Nat) (ht : P.underlying t = some (.slice el)) (hs : ∀ w, (sizeOf el).run P w = .ok s w) (hx : ev e x = some (.slice (some ⟨b, 0, none⟩) m c)) (hy : ev e y = some (.int q j)) (hj : j = (kk : Int)) (hm : kk < m) :
    OpV P n e w ⟨dst, .indexAddr t x y, ty, pos, af, g⟩ (.pointer (some ⟨b, kk * s, none⟩)) w := by
  have := V.ixA (P := P) (n := n) (w := w) (dst := dst) (ty := ty) (pos := pos) (af := af) (g := g) kk ht hs hx hy hj hm
  rw [Nat.zero_add] at this; exact this
theorem Hp.stBox {Z0 S : Nat → Prop} {w0 w w' : World} {L : List Rs} {b : Nat} {t : TypeId} {cs cs' : List Value} (hm : Hp Z0 S w0 w L) (i : Nat) (hi : L[i]? = some (boxR b t cs)) (hf : Fr (fun x => x = b) w w') (h : Blk w' b t cs') : Hp Z0 S w0 w' (L.set i (boxR b t cs')) := hm.st i hi hf h
theorem ext_st {w1 w w' : World} {b : Nat} (h : Ext w1 w) (hf : Fr (fun x => x = b) w w') (hb : w1.heap.size ≤ b) : Ext w1 w' := h.trans' hf fun x hx => .inr (by subst hx; exact hb)
end
end Go.Wk
namespace Go.Wk
open Go Go.RowKit
variable {K : Act → World → Prop}
theorem Hp.dup {Z0 S : Nat → Prop} {w0 w : World} {L : List Rs} (hm : Hp Z0 S w0 w L) (i : Nat) {r : Rs} (hi : L[i]? = some r) (hF : ∀ x, ¬ r.F x) : Hp Z0 S w0 w (L ++ [r]) := hm.know r hF (hm.get i hi)
end Go.Wk
namespace Go.Wk
open Go Go.RowKit
variable {K : Act → World → Prop}
def setI {α : Type} (l : List α) (i : Int) (x : α) : List α := l.set i.toNat x
@[simp] theorem length_setI {α : Type} (l : List α) (i : Int) (x : α) : (setI l i x).length = l.length := by simp [setI]
section
variable {α : Type} {rep : Rep α} {Z0 S : Nat → Prop} {w0 w : World} {L : List Rs}
theorem Hp.ownAtL {gb c kk : Nat} {xs : List α} {et : TypeId} {z : α} (hm : Hp Z0 S w0 w L) (m' : Nat) (hi : L[m']? = some (ownR et (some ⟨gb, 0, none⟩) c rep xs)) (hz : xs[kk]? = some z) : ∃ vs, Rd w gb (kk * rep.sz) vs ∧ rep.rel (Zo Z0 S w0 L) w vs z := by
  obtain ⟨g, vs, hA, h1, h2⟩ := hm.ownAt m' hi hz
  injection hA with hA
  injection hA with hA _
  subst hA
  exact ⟨vs, h1, h2⟩
variable {P : Program} {f : FuncId} {n : Nat} {R : Ending → World → Prop} {k : List Item} {e : Env}
variable {ops : Array Oper} {i : Nat} {rest : List Nat} {d : Nat} {dst : Option Nat} {ty : TypeId} {pos : String} {af : Array Edge} {g : Option (Nat × Bool)}
theorem Rn.stI {t el : TypeId} {x y : Operand} {gb kk s c : Nat} {j : Int} {xs : List α} {z : α} {v : Value} {vs : List Value} (hm : Hp Z0 S w0 w L) (m' : Nat) (hi : L[m']? = some (ownR el (some ⟨gb, 0, none⟩) c rep xs)) (hj : j = (kk : Int)) (hk : kk < xs.length) (ho : ops[i]? = some ⟨none, .store t x y, ty, pos, af, g⟩) (hg : gok e ops g = true)
    (hs : ∀ w, (sizeOf t).run P w = .ok s w) (hsz : rep.sz = s) (hx : ev e x = some (.pointer (some ⟨gb, kk * s, none⟩))) (hy : ev e y = some v) (hv : v.cells = vs.toArray) (hrel : rep.rel (Zo Z0 S w0 L) w vs z)
    (h : ∀ w', Hp Z0 S w0 w' (L.set m' (ownR el (some ⟨gb, 0, none⟩) c rep (setI xs j z))) → Rn P f n R (.inRegion ops rest :: k) e w') : Rn P f n R (.inRegion ops (i :: rest) :: k) e w := by
  subst hj
  exact Rn.stE hm m' hi hk ho hg hs hsz hx hy hv hrel h
theorem RH.stI {S' : World → Prop} {fuel : Nat} {listed : Array Bool} {t el : TypeId} {x y : Operand} {gb kk s c : Nat} {j : Int} {xs : List α} {z : α} {v : Value} {vs : List Value} (i : Nat) (hr : Region.ready .any ops listed = [i]) (hm : Hp Z0 S w0 w L) (m' : Nat) (hi : L[m']? = some (ownR el (some ⟨gb, 0, none⟩) c rep xs)) (hj : j = (kk : Int)) (hk : kk < xs.length) (ho : ops[i]? = some ⟨none, .store t x y, ty, pos, af, g⟩) (hg : gok e ops g = true)
    (hs : ∀ w, (sizeOf t).run P w = .ok s w) (hsz : rep.sz = s) (hx : ev e x = some (.pointer (some ⟨gb, kk * s, none⟩))) (hy : ev e y = some v) (hv : v.cells = vs.toArray) (hrel : rep.rel (Zo Z0 S w0 L) w vs z)
    (h : ∀ w', Hp Z0 S w0 w' (L.set m' (ownR el (some ⟨gb, 0, none⟩) c rep (setI xs j z))) → S' w' ∧ RG P n K ops S' fuel (listed.setIfInBounds i true) e w') : RG P n K ops S' (fuel + 1) listed e w := by
  subst hj
  exact RH.stE i hr hm m' hi hk ho hg hs hsz hx hy hv hrel h
end
end Go.Wk
