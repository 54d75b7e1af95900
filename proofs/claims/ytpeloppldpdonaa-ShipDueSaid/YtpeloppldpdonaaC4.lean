/-
  Walks of functions of the program, group C4: what each call answers, and what stays of the memory.
-/
import Derived.Test.YtpeloppldpdonaaC3
namespace Go.Proofs.Ytpeloppldpdonaa
open Go Go.RowKit Go.Wk
theorem ck57 : CallOk Try.prog 57 := ⟨_, _, Try.func57, rfl, by kernel_rfl⟩
set_option maxRecDepth 20000 in
theorem used_spec {b mb : Nat} {ms : Ms} {ck : Nat} {bss : List (List Nat)} {F : Nat → Prop} {s : PD} (u : Nat) (w : World) (hu : u = if s.down = true then 0 else s.used) (hok : s.used ≤ s.cap ∧ s.cap ≤ 4194304) (h : DkP 54 59 5 w b mb ms ck bss F s) :
    Calls Try.prog 57 #[.pointer (some ⟨b, 0, none⟩)] w fun x w' => x = .returned (.int .i64 u) ∧ Ext w w' := by
  have hB := h.blk
  have hM := h.map
  have hlb := h.lt b (h.sub b (by simp))
  have hlm := h.lt mb (h.sub mb (by simp))
  refine Rn.enter Try.func57 rfl rfl (Nat.le_of_ble_eq_true rfl) ?_
  refine Rn.seq (Rn.reg (Rn.v rfl rfl rfl rfl (V.as rfl) (Rn.regEnd (Rn.seq (Rn.seq (Rn.reg (Rn.v rfl rfl rfl rfl (V.mv rfl) (Rn.v rfl rfl rfl rfl (V.nil rfl) (Rn.v rfl rfl rfl rfl (V.fa Try.underlying54 rfl Try.sizeOf4 rfl rfl) (Rn.v rfl rfl rfl rfl (V.ldB Try.isAgg4 rfl hB rfl) (Rn.regEnd ?_)))))))))))
  refine Rn.condS rfl (fun q1 => ?_) (fun q1 => ?_)
  refine Rn.seq (Rn.reg (Rn.v rfl rfl rfl rfl (V.as rfl) (Rn.regEnd ?_)))
  refine Rn.ret1 Try.func57 rfl rfl ?_
  exact ⟨by rw [hu, if_pos q1]; rfl, Ext.refl _⟩
  refine Rn.skip (Rn.seq (Rn.reg (Rn.v rfl rfl rfl rfl (V.as rfl) (Rn.regEnd (Rn.seq (Rn.seq (Rn.reg (Rn.v rfl rfl rfl rfl (V.mv rfl) (Rn.v rfl rfl rfl rfl (V.nil rfl) (Rn.v rfl rfl rfl rfl (V.fa Try.underlying54 rfl Try.sizeOf50 rfl rfl) (Rn.v rfl rfl rfl rfl (V.ldB Try.isAgg50 rfl hB rfl) (Rn.rng rfl rfl rfl Try.underlying50 rfl hM ?_))))))))))))
  intro b1 w1 hb1 i1 x1
  have hs1 := x1.size
  refine Rn.regEnd (Rn.block ?_)
  refine Rn.loopI (G := (Nat × List Nat)) (fun g => [(3, .int .i64 (g.1)), (14, .pointer (some ⟨b1, 0, none⟩)), (0, .pointer (some ⟨b, 0, none⟩))]) (fun g w' => Itr w' b1 mb ck (g.2) ∧ (g.1) + ((leftM ms (g.2)).map fun p => szF s.files p.1).sum = s.used ∧ Ext w w') (fun g => (leftM ms (g.2)).length) (0, []) ?_ ?_ ?_
  · exact Sub.cons (lki _ rfl (by first | omega | rfl | (dsimp only; omega))) (Sub.cons rfl (Sub.cons rfl (Sub.nil _)))
  · exact ⟨i1, by rw [leftM_nil, ← h.used_eq]; omega, x1⟩
  rintro ⟨a, sn⟩ w2 ⟨i2, hsum, x2⟩ hn2
  show Rn _ _ _ _ _ [(3, .int .i64 a), (14, .pointer (some ⟨b1, 0, none⟩)), (0, .pointer (some ⟨b, 0, none⟩))] _
  have hs2 := x2.size
  refine Rn.seq (Rn.reg ?_)
  refine Rn.nxt rfl rfl rfl rfl (hM.ext x2) i2 h.born (fun hle => ?_) (fun p3 w3 hp3 i3 x3 => ?_)
  refine Rn.v rfl rfl rfl rfl (V.ext rfl rfl) (Rn.regEnd (Rn.seq (Rn.condF rfl (Rn.exit rfl (Rn.seq (Rn.reg (Rn.v rfl rfl rfl rfl (V.mv rfl) (Rn.v rfl rfl rfl rfl (V.as rfl) (Rn.regEnd ?_)))))))))
  refine Rn.ret1 Try.func57 rfl rfl ?_
  rw [hle] at hsum
  exact ⟨by rw [hu, if_neg (by simp [q1]), ← hsum]; simp, x2⟩
  have e3 : Ext w w3 := (x2).trans' x3 (fun x hx => .inr (by subst hx; omega))
  have hs3 := x3.size
  dsimp only at hp3 i3 hsum
  obtain ⟨fb, f, A, c, hpv, hff, hsz, hfB, hFf⟩ := h.entry (leftM_sub hp3)
  have hlf := h.lt fb hFf
  obtain ⟨hls, hll⟩ := leftM_sum (fun p => szF s.files p.1) h.bnd hp3
  rw [hsz] at hls
  refine Rn.v rfl rfl rfl rfl (V.ext rfl rfl) (Rn.regEnd (Rn.seq (Rn.condT rfl (Rn.skip (Rn.block (Rn.seq (Rn.reg (Rn.v rfl rfl rfl rfl (V.entry rfl (hM.ext e3) i3 (leftM_sub hp3) h.bnd) (Rn.v rfl rfl rfl rfl (V.to (V.ext rfl rfl) hpv) (Rn.v rfl rfl rfl rfl (V.as rfl) (Rn.regEnd (Rn.reg (Rn.v rfl rfl rfl rfl (V.mv rfl) (Rn.v rfl rfl rfl rfl (V.mv rfl) (Rn.v rfl rfl rfl rfl (V.nil rfl) (Rn.v rfl rfl rfl rfl (V.fa Try.underlying59 rfl Try.sizeOf22 rfl rfl) (Rn.v rfl rfl rfl rfl (V.ldB Try.isAgg22 rfl (hfB.ext e3) rfl) (Rn.v rfl rfl rfl rfl (V.lenV Try.underlying22 rfl) (Rn.v rfl rfl rfl rfl (V.addI rfl rfl (w64 (by omega) (by omega))) (Rn.v rfl rfl rfl rfl (V.as rfl) (Rn.regEnd (Rn.inBlock ?_))))))))))))))))))))))
  exact hn2 (a + f.data.length, sn ++ [p3.2.2]) _ _ (Sub.cons (lki _ rfl (by first | omega | rfl | (dsimp only; omega))) (Sub.cons rfl (Sub.cons rfl (Sub.nil _)))) (⟨i3, by dsimp only; omega, e3⟩) (by dsimp only; omega)

set_option maxRecDepth 20000 in
theorem sync_spec {b : Nat} {F : Nat → Prop} {s : PD} (name : List UInt8) (w : World) (hc : s.calls < 4611686018427387904) (h : DkAt 54 59 5 w b F s) :
    Calls Try.prog 45 #[.pointer (some ⟨b, 0, none⟩), Str name] w fun x w' => x = .returned (.int .i64 (s.sync name).2) ∧ ∃ F', DkAt 54 59 5 w' b F' (s.sync name).1 ∧ Fr F w w' ∧ (∀ x, F' x → F x ∨ w.heap.size ≤ x) := by
  obtain ⟨mb, ms, ck, bss, h⟩ := h
  have hFb := h.sub b (by simp)
  have hFm := h.sub mb (by simp)
  refine Rn.enter Try.func45 rfl rfl (Nat.le_of_ble_eq_true rfl) ?_
  refine Rn.seq (Rn.reg (Rn.v rfl rfl rfl rfl (V.as rfl) (Rn.regEnd (Rn.seq (Rn.reg (Rn.v rfl rfl rfl rfl (V.mv rfl) (Rn.v rfl rfl rfl rfl (V.mv rfl) (Rn.cl ck48 rfl rfl rfl rfl (open_spec _ _ hc h) ?_))))))))
  rintro _ w1 ⟨d1, x1, (⟨hb1, rfl⟩ | ⟨hb1, hl1, hf1, rfl⟩ | ⟨fb1, f1, hb1, hl1, hf1, rfl⟩)⟩
  have e1 : Fr F w w1 := ((Fr.refl _ _)).trans' x1 (fun x hx => by first | (subst hx; exact .inl hFb) | (subst hx; exact .inl hFm))
  refine ⟨_, rfl, ?_⟩
  refine Rn.v rfl rfl rfl rfl (V.mv rfl) (Rn.v rfl rfl rfl rfl (V.ext rfl rfl) (Rn.v rfl rfl rfl rfl (V.ext rfl rfl) (Rn.v rfl rfl rfl rfl (V.as rfl) (Rn.v rfl rfl rfl rfl (V.as rfl) (Rn.regEnd (Rn.seq (Rn.seq (Rn.reg (Rn.v rfl rfl rfl rfl (V.mv rfl) (Rn.v rfl rfl rfl rfl (V.eql rfl rfl) (Rn.regEnd ?_)))))))))))
  refine Rn.condD rfl (fun q1 => ?_) (fun q1 => ?_)
  exact absurd q1 hb1
  refine Rn.skip (Rn.seq (Rn.reg (Rn.v rfl rfl rfl rfl (V.mv rfl) (Rn.v rfl rfl rfl rfl (V.as rfl) (Rn.regEnd ?_)))))
  refine Rn.ret1 Try.func45 rfl rfl ?_
  have hr : s.sync name = s.begin := if_pos hb1
  exact ⟨by rw [hr]; first | done | rfl, F, by rw [hr]; exact ⟨mb, ms, ck, bss, d1⟩, e1, fun x hx => .inl hx⟩
  have e1 : Fr F w w1 := ((Fr.refl _ _)).trans' x1 (fun x hx => by first | (subst hx; exact .inl hFb) | (subst hx; exact .inl hFm))
  refine ⟨_, rfl, ?_⟩
  refine Rn.v rfl rfl rfl rfl (V.mv rfl) (Rn.v rfl rfl rfl rfl (V.ext rfl rfl) (Rn.v rfl rfl rfl rfl (V.ext rfl rfl) (Rn.v rfl rfl rfl rfl (V.as rfl) (Rn.v rfl rfl rfl rfl (V.as rfl) (Rn.regEnd (Rn.seq (Rn.seq (Rn.reg (Rn.v rfl rfl rfl rfl (V.mv rfl) (Rn.v rfl rfl rfl rfl (V.eql rfl rfl) (Rn.regEnd ?_)))))))))))
  refine Rn.condD rfl (fun q1 => ?_) (fun q1 => ?_)
  exact absurd q1 (by decide)
  refine Rn.skip (Rn.seq (Rn.reg (Rn.v rfl rfl rfl rfl (V.mv rfl) (Rn.v rfl rfl rfl rfl (V.as rfl) (Rn.regEnd ?_)))))
  refine Rn.ret1 Try.func45 rfl rfl ?_
  have hr : s.sync name = (s.begin.1, 7) := by unfold PD.sync; rw [if_neg (fun hh => hh hb1), hf1]
  exact ⟨by rw [hr]; first | done | rfl, F, by rw [hr]; exact ⟨mb, ms, ck, bss, d1⟩, e1, fun x hx => .inl hx⟩
  have e1 : Fr F w w1 := ((Fr.refl _ _)).trans' x1 (fun x hx => by first | (subst hx; exact .inl hFb) | (subst hx; exact .inl hFm))
  obtain ⟨g1, A1, c1, hff1, hfB1, hO1, hfb1, hFf1, hfm1, hoA1, ht1⟩ := d1.turn hl1
  rw [PD.begin_files, hf1] at hff1
  cases hff1
  refine ⟨_, rfl, ?_⟩
  have hr : s.sync name = ({ s.begin.1 with files := putF name ⟨f1.data, f1.data.length⟩ s.files }, 0) := by unfold PD.sync; rw [if_neg (fun hh => hh hb1), hf1]
  refine Rn.v rfl rfl rfl rfl (V.mv rfl) (Rn.v rfl rfl rfl rfl (V.ext rfl rfl) (Rn.v rfl rfl rfl rfl (V.ext rfl rfl) (Rn.v rfl rfl rfl rfl (V.as rfl) (Rn.v rfl rfl rfl rfl (V.as rfl) (Rn.regEnd (Rn.seq (Rn.seq (Rn.reg (Rn.v rfl rfl rfl rfl (V.mv rfl) (Rn.v rfl rfl rfl rfl (V.eql rfl rfl) (Rn.regEnd ?_)))))))))))
  refine Rn.condD rfl (fun q1 => ?_) (fun q1 => ?_)
  refine Rn.reg (Rn.v rfl rfl rfl rfl (V.mv rfl) (Rn.v rfl rfl rfl rfl (V.mv rfl) (Rn.v rfl rfl rfl rfl (V.nil rfl) (Rn.v rfl rfl rfl rfl (V.fa Try.underlying59 rfl Try.sizeOf22 rfl rfl) (Rn.v rfl rfl rfl rfl (V.ldB Try.isAgg22 rfl hfB1 rfl) (Rn.v rfl rfl rfl rfl (V.lenV Try.underlying22 rfl) (Rn.v rfl rfl rfl rfl (V.nil rfl) (Rn.v rfl rfl rfl rfl (V.fa Try.underlying59 rfl Try.sizeOf3 rfl rfl) (Rn.st rfl rfl Try.sizeOf3 rfl rfl rfl rfl (by first | exact ones rfl | (simp [Value.oneCell']; done)) hfB1 (by first | exact Nat.le_of_ble_eq_true rfl | (simp; done)) ?_)))))))))
  intro w2 m2 x2
  have e2 : Fr F w w2 := (e1).trans' x2 (fun x hx => by subst hx; exact .inl hFf1)
  refine Rn.regEnd (Rn.seq (Rn.reg (Rn.v rfl rfl rfl rfl (V.mv rfl) (Rn.v rfl rfl rfl rfl (V.as rfl) (Rn.regEnd ?_)))))
  refine Rn.ret1 Try.func45 rfl rfl ?_
  obtain ⟨bss', hd⟩ := ht1 w2 ⟨f1.data, f1.data.length⟩ A1 c1 _ m2 (hO1.fr x2 (fun _ hh => hh.elim) (fun x hx hh => (hoA1 x hx).2.1 hh)) (fun x hx => ⟨(hoA1 x hx).2.1, .inl hx⟩) (x2.mono fun x hx => .inl hx) rfl
  rw [PD.begin_files] at hd
  exact ⟨by rw [hr]; first | done | rfl, fun x => F x ∨ ob A1 x, by rw [hr]; exact ⟨_, _, _, _, hd⟩, e2, fun x hx => .inl (by rcases hx with hh | hh; exact hh; exact (hoA1 x hh).1)⟩
  exact absurd rfl q1

set_option maxRecDepth 20000 in
theorem append_spec {b : Nat} {F : Nat → Prop} {s : PD} {D : Nat → Prop} (name l : List UInt8) (A : Option Addr) (c m : Nat) (w : World) (hc : s.calls < 4611686018427387904) (hok : s.used ≤ s.cap ∧ s.cap ≤ 4194304) (hl : l.length ≤ 4294967296) (hm : l.length = m) (hS : Sl D w A byteR l) (hD : ∀ x, D x → ¬ F x) (h : DkAt 54 59 5 w b F s) :
    Calls Try.prog 44 #[.pointer (some ⟨b, 0, none⟩), Str name, .slice A m c] w fun x w' => x = .returned (.int .i64 (s.append name l).2) ∧ ∃ F', DkAt 54 59 5 w' b F' (s.append name l).1 ∧ Fr F w w' ∧ (∀ x, F' x → F x ∨ w.heap.size ≤ x) := by
  subst hm
  obtain ⟨mb, ms, ck, bss, h⟩ := h
  have hFb := h.sub b (by simp)
  have hFm := h.sub mb (by simp)
  refine Rn.enter Try.func44 rfl rfl (Nat.le_of_ble_eq_true rfl) ?_
  refine Rn.seq (Rn.reg (Rn.v rfl rfl rfl rfl (V.as rfl) (Rn.regEnd (Rn.seq (Rn.reg (Rn.v rfl rfl rfl rfl (V.mv rfl) (Rn.v rfl rfl rfl rfl (V.mv rfl) (Rn.cl ck48 rfl rfl rfl rfl (open_spec _ _ hc h) ?_))))))))
  rintro _ w1 ⟨d1, x1, (⟨hb1, rfl⟩ | ⟨hb1, hl1, hf1, rfl⟩ | ⟨fb1, f1, hb1, hl1, hf1, rfl⟩)⟩
  have e1 : Fr F w w1 := ((Fr.refl _ _)).trans' x1 (fun x hx => by first | (subst hx; exact .inl hFb) | (subst hx; exact .inl hFm))
  refine ⟨_, rfl, ?_⟩
  refine Rn.v rfl rfl rfl rfl (V.mv rfl) (Rn.v rfl rfl rfl rfl (V.ext rfl rfl) (Rn.v rfl rfl rfl rfl (V.ext rfl rfl) (Rn.v rfl rfl rfl rfl (V.as rfl) (Rn.v rfl rfl rfl rfl (V.as rfl) (Rn.regEnd (Rn.seq (Rn.seq (Rn.reg (Rn.v rfl rfl rfl rfl (V.mv rfl) (Rn.v rfl rfl rfl rfl (V.neq rfl rfl) (Rn.regEnd ?_)))))))))))
  refine Rn.condD rfl (fun q1 => ?_) (fun q1 => ?_)
  refine Rn.seq (Rn.reg (Rn.v rfl rfl rfl rfl (V.mv rfl) (Rn.v rfl rfl rfl rfl (V.as rfl) (Rn.regEnd ?_))))
  refine Rn.ret1 Try.func44 rfl rfl ?_
  have hr : s.append name l = s.begin := if_pos hb1
  exact ⟨by rw [hr]; first | done | rfl, F, by rw [hr]; exact ⟨mb, ms, ck, bss, d1⟩, e1, fun x hx => .inl hx⟩
  exact absurd hb1 q1
  have e1 : Fr F w w1 := ((Fr.refl _ _)).trans' x1 (fun x hx => by first | (subst hx; exact .inl hFb) | (subst hx; exact .inl hFm))
  refine ⟨_, rfl, ?_⟩
  refine Rn.v rfl rfl rfl rfl (V.mv rfl) (Rn.v rfl rfl rfl rfl (V.ext rfl rfl) (Rn.v rfl rfl rfl rfl (V.ext rfl rfl) (Rn.v rfl rfl rfl rfl (V.as rfl) (Rn.v rfl rfl rfl rfl (V.as rfl) (Rn.regEnd (Rn.seq (Rn.seq (Rn.reg (Rn.v rfl rfl rfl rfl (V.mv rfl) (Rn.v rfl rfl rfl rfl (V.neq rfl rfl) (Rn.regEnd ?_)))))))))))
  refine Rn.condD rfl (fun q1 => ?_) (fun q1 => ?_)
  refine Rn.seq (Rn.reg (Rn.v rfl rfl rfl rfl (V.mv rfl) (Rn.v rfl rfl rfl rfl (V.as rfl) (Rn.regEnd ?_))))
  refine Rn.ret1 Try.func44 rfl rfl ?_
  have hr : s.append name l = (s.begin.1, 7) := by unfold PD.append; rw [if_neg (fun hh => hh hb1), hf1]
  exact ⟨by rw [hr]; first | done | rfl, F, by rw [hr]; exact ⟨mb, ms, ck, bss, d1⟩, e1, fun x hx => .inl hx⟩
  exact absurd (by decide) q1
  have e1 : Fr F w w1 := ((Fr.refl _ _)).trans' x1 (fun x hx => by first | (subst hx; exact .inl hFb) | (subst hx; exact .inl hFm))
  obtain ⟨g1, A1, c1, hff1, hfB1, hO1, hfb1, hFf1, hfm1, hoA1, ht1⟩ := d1.turn hl1
  rw [PD.begin_files, hf1] at hff1
  cases hff1
  refine ⟨_, rfl, ?_⟩
  refine Rn.v rfl rfl rfl rfl (V.mv rfl) (Rn.v rfl rfl rfl rfl (V.ext rfl rfl) (Rn.v rfl rfl rfl rfl (V.ext rfl rfl) (Rn.v rfl rfl rfl rfl (V.as rfl) (Rn.v rfl rfl rfl rfl (V.as rfl) (Rn.regEnd (Rn.seq (Rn.seq (Rn.reg (Rn.v rfl rfl rfl rfl (V.mv rfl) (Rn.v rfl rfl rfl rfl (V.neq rfl rfl) (Rn.regEnd ?_)))))))))))
  refine Rn.condD rfl (fun q1 => ?_) (fun q1 => ?_)
  exact absurd rfl q1
  have hfl := find_le_used hf1
  have hlt1 := hfB1.lt
  have hcp : s.begin.1.cap = s.cap := s.begin_cap
  have hup := s.begin_up hb1
  have hus := s.begin_used
  have hB1 := d1.blk
  have hM1 := d1.map
  refine Rn.skip (Rn.seq (Rn.seq ?_))
  refine Rn.drawE rfl ?_
  intro w2 x2
  have hs2 := x2.size
  refine RH.take 0 (by kernel_rfl) rfl rfl rfl rfl (fun w' hDr => V.mv rfl) ?_
  refine RH.take 1 (by kernel_rfl) rfl rfl rfl rfl (fun w' hDr => V.lenV Try.underlying22 rfl) ?_
  refine RH.take 2 (by kernel_rfl) rfl rfl rfl rfl (fun w' hDr => V.mv rfl) ?_
  refine RH.take 3 (by kernel_rfl) rfl rfl rfl rfl (fun w' hDr => V.nil rfl) ?_
  refine RH.take 4 (by kernel_rfl) rfl rfl rfl rfl (fun w' hDr => V.fa Try.underlying54 rfl Try.sizeOf3 rfl rfl) ?_
  refine RH.take 5 (by kernel_rfl) rfl rfl rfl rfl (fun w' hDr => V.ldB Try.isAgg3 rfl ((hB1.ext x2).ext hDr) rfl) ?_
  refine RH.take 6 (by kernel_rfl) rfl rfl rfl rfl (fun w' hDr => V.mv rfl) ?_
  refine RH.cl ck57 7 (by kernel_rfl) rfl rfl rfl rfl (used_spec s.used _ (by rw [if_neg (by simp [hup]), hus]) (by omega) (d1.ext x2)) ?_
  rintro _ w3 ⟨rfl, x3⟩
  have hs3 := x3.size
  refine ⟨_, rfl, x3, ?_⟩
  refine RH.take 8 (by kernel_rfl) rfl rfl rfl rfl (fun w' hDr => V.subI rfl rfl (w64 (by omega) (by omega))) ?_
  refine RH.take 9 (by kernel_rfl) rfl rfl rfl rfl (fun w' hDr => V.gtr rfl rfl) ?_
  refine RH.done (by kernel_rfl) (fun xd3 => ?_)
  refine Rn.condD rfl (fun q2 => ?_) (fun q2 => ?_)
  refine Rn.seq (Rn.reg (Rn.v rfl rfl rfl rfl (V.as rfl) (Rn.regEnd ?_)))
  refine Rn.ret1 Try.func44 rfl rfl ?_
  have hr : s.append name l = (s.begin.1, 12) := by unfold PD.append; rw [if_neg (fun hh => hh hb1), hf1]; exact if_pos (by omega)
  exact ⟨by rw [hr]; first | done | rfl, F, by rw [hr]; exact ⟨mb, ms, ck, bss, ((d1.ext x2).ext x3)⟩, ((e1.trans (Ext.fr x2)).trans (Ext.fr x3)), fun x hx => .inl hx⟩
  have hr : s.append name l = ({ s.begin.1 with files := putF name ⟨f1.data ++ l, f1.sure⟩ s.files }, 0) := by unfold PD.append; rw [if_neg (fun hh => hh hb1), hf1]; exact if_neg (by omega)
  refine Rn.skip (Rn.seq (Rn.reg (Rn.v rfl rfl rfl rfl (V.mv rfl) (Rn.v rfl rfl rfl rfl (V.mv rfl) (Rn.v rfl rfl rfl rfl (V.nil rfl) (Rn.v rfl rfl rfl rfl (V.fa Try.underlying59 rfl Try.sizeOf22 rfl rfl) (Rn.v rfl rfl rfl rfl (V.ldB Try.isAgg22 rfl ((hfB1.ext x2).ext x3) rfl) (Rn.v rfl rfl rfl rfl (V.mv rfl) (Rn.appF byte_flat rfl rfl rfl Try.underlying22 el5 rfl rfl rfl ((hO1.ext x2).ext x3) (hS.fr ((e1.trans (Ext.fr x2)).trans (Ext.fr x3)) hD) rfl (by first | exact (((e1.trans (Ext.fr x2)).trans (Ext.fr x3))).size | exact Nat.zero_le _) (by first | omega | (simp; done) | (simp; omega)) (by first | omega | (simp; done) | (simp; omega)) ?_)))))))))
  intro A4 c4 w4 o4 x4 q4
  have e4 : Fr F w w4 := (((e1.trans (Ext.fr x2)).trans (Ext.fr x3))).trans' x4 (fun x hx => by first | exact .inl (hoA1 _ hx).1 | (subst hx; exact .inl hFf1))
  have hs4 := x4.size
  refine Rn.v rfl rfl rfl rfl (V.nil rfl) (Rn.v rfl rfl rfl rfl (V.fa Try.underlying59 rfl Try.sizeOf22 rfl rfl) (Rn.st rfl rfl Try.sizeOf22 rfl rfl rfl rfl (by first | exact ones rfl | (simp [Value.oneCell']; done)) (((hfB1.ext x2).ext x3).fr x4 (fun hh => (hoA1 _ hh).2.1 rfl)) (by first | exact Nat.le_of_ble_eq_true rfl | (simp; done)) ?_))
  intro w5 m5 x5
  have e5 : Fr F w w5 := (e4).trans' x5 (fun x hx => by first | exact .inl (hoA1 _ hx).1 | (subst hx; exact .inl hFf1))
  have hs5 := x5.size
  refine Rn.regEnd (Rn.seq (Rn.reg (Rn.v rfl rfl rfl rfl (V.as rfl) (Rn.regEnd ?_))))
  refine Rn.ret1 Try.func44 rfl rfl ?_
  have hlen : f1.data.length + l.length = (f1.data ++ l).length := by simp
  rw [hlen] at m5
  have hqk := q4
  obtain ⟨bss', hd⟩ := ht1 w5 ⟨f1.data ++ l, f1.sure⟩ A4 c4 _ m5 (o4.fr x5 (fun _ hh => hh.elim) (fun x hx hh => by rcases hqk x hx with h3 | h3; exact (hoA1 x h3).2.1 hh; omega)) (fun x hx => ⟨fun hh => (by rcases hqk x hx with h3 | h3; exact (hoA1 x h3).2.1 hh; omega), by rcases hqk x hx with h3 | h3; exact .inl h3; exact .inr (by omega)⟩) (((((Fr.refl (fun x => x = fb1 ∨ ob A1 x) _).trans (Ext.fr x2)).trans (Ext.fr x3)).trans (x4.mono (fun y hy => by first | exact .inl hy | exact .inr hy | exact hy))).trans (x5.mono (fun y hy => by first | exact .inl hy | exact .inr hy | exact hy))) rfl
  rw [PD.begin_files] at hd
  exact ⟨by rw [hr]; first | done | rfl, fun x => F x ∨ ob A4 x, by rw [hr]; exact ⟨_, _, _, _, hd⟩, e5, fun x hx => by rcases hx with hh | hh; exact .inl hh; rcases hqk x hh with h3 | h3; exact .inl (hoA1 x h3).1; exact .inr (by have := (e1).size; omega)⟩

end Go.Proofs.Ytpeloppldpdonaa
