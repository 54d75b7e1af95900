/-
  Walks of functions of the program, group A8: what each call answers, and what stays of the memory.
-/
import Derived.Test.YtpeloppldpdonaaA7
namespace Go.Proofs.Ytpeloppldpdonaa
open Go Go.RowKit Go.Wk
theorem ck54 : CallOk Try.prog 54 := ⟨_, _, Try.func54, rfl, by kernel_rfl⟩
theorem st99 : StOk Try.prog 99 [.slice none 0 0, .int .i64 0, .int .i64 0] [(0, 1), (1, 1), (2, 1)] := ⟨Try.zeroValue99, _, Try.underlying99, fun w => by kernel_rfl⟩
set_option maxRecDepth 20000 in
theorem first4_spec {D : Nat → Prop} (A : Option Addr) (c m k : Nat) (l : List UInt8) (w : World) (hl : l.length ≤ 4294967296) (hm : l.length = m) (hmc : m ≤ c) (hk : k ≤ l.length) (hS : Sl D w A byteR l) :
    Calls Try.prog 41 #[.slice A m c, .int .i64 k] w fun x w' => ∃ A' c', x = .returned (.agg #[.slice A' (firstF (l.drop k)).1.length c', .int .i64 (firstF (l.drop k)).2.1, .int .i64 (firstF (l.drop k)).2.2]) ∧ Sl D w' A' byteR (firstF (l.drop k)).1 ∧ (firstF (l.drop k)).1.length ≤ c' ∧ Ext w w' := by
  subst hm
  replace hS := hS.bd
  refine Rn.enter Try.func41 rfl rfl (Nat.le_of_ble_eq_true rfl) ?_
  have hdl : (l.drop k).length = l.length - k := List.length_drop
  refine Rn.seq (Rn.reg (Rn.alloc rfl rfl rfl Try.zeroValue99 rfl ?_))
  intro b1 w1 hb1 m1 x1
  refine Rn.regEnd (Rn.seq (Rn.reg (Rn.v rfl rfl rfl rfl (V.mv rfl) (Rn.v rfl rfl rfl rfl (V.lenV Try.underlying22 rfl) (Rn.v rfl rfl rfl rfl (V.mv rfl) (Rn.v rfl rfl rfl rfl (V.subI rfl rfl (w64 (by omega) (by omega))) (Rn.v rfl rfl rfl rfl (V.as rfl) (Rn.regEnd (Rn.seq (Rn.seq (Rn.reg (Rn.v rfl rfl rfl rfl (V.mv rfl) (Rn.v rfl rfl rfl rfl (V.lss rfl rfl) (Rn.regEnd ?_))))))))))))))
  refine Rn.condD rfl (fun h0 => ?_) (fun h0 => ?_)
  have hd : l.drop k = [] := List.eq_nil_of_length_eq_zero (by omega)
  refine Rn.seq (Rn.reg (Rn.v rfl rfl rfl rfl (V.bldS st99 rfl rfl) (Rn.st rfl rfl Try.sizeOf99 rfl rfl rfl rfl (by first | exact ones rfl | (simp [Value.oneCell']; done)) m1 (by first | exact Nat.le_of_ble_eq_true rfl | (simp; done)) ?_)))
  intro w2 m2 x2
  have e2 : Ext w w2 := (x1).trans' x2 (fun x hx => .inr (by subst hx; omega))
  refine Rn.regEnd ?_
  refine Rn.retC Try.func41 rfl rfl Try.isAgg99 Try.sizeOf99 m2 rfl ?_
  exact ⟨none, 0, by rw [hd]; rfl, by rw [hd]; exact Sl.nil _ _ _ _, by rw [hd]; simp [firstF], e2⟩
  obtain ⟨y0, t, hd⟩ : ∃ y0 t, l.drop k = y0 :: t := by cases hh : l.drop k with | nil => exact absurd (by rw [hh] at hdl; simp at hdl; omega) h0 | cons x t => exact ⟨x, t, rfl⟩
  have hg : ∀ i, l[k + i]? = (y0 :: t)[i]? := fun i => by rw [← hd, List.getElem?_drop]
  rw [hd] at hdl; rw [hd]
  have hg0 : l[k]? = some y0 := hg 0
  simp only [List.length_cons] at hdl
  refine Rn.skip (Rn.seq (Rn.seq (Rn.reg (Rn.v rfl rfl rfl rfl (V.mv rfl) (Rn.v rfl rfl rfl rfl (V.mv rfl) (Rn.ix k y0 rfl rfl rfl Try.underlying22 Try.sizeOf5 rfl rfl (hS.ext x1) rfl hg0 rfl (by omega) ?_))))))
  rintro b3 o3 vs3 r3 ⟨rfl, _⟩ hD3
  refine Rn.v rfl rfl rfl rfl (V.ldR0 Try.isAgg5 rfl r3 rfl) (Rn.v rfl rfl rfl rfl (V.neq rfl rfl) (Rn.regEnd ?_))
  refine Rn.condD rfl (fun h1 => ?_) (fun h1 => ?_)
  have q1 := firstF_ne y0 t (fun hh => h1 (by rw [hh]; rfl))
  refine Rn.seq (Rn.reg (Rn.v rfl rfl rfl rfl (V.bldS st99 rfl rfl) (Rn.st rfl rfl Try.sizeOf99 rfl rfl rfl rfl (by first | exact ones rfl | (simp [Value.oneCell']; done)) m1 (by first | exact Nat.le_of_ble_eq_true rfl | (simp; done)) ?_)))
  intro w4 m4 x4
  have e4 : Ext w w4 := (x1).trans' x4 (fun x hx => .inr (by subst hx; omega))
  refine Rn.regEnd ?_
  refine Rn.retC Try.func41 rfl rfl Try.isAgg99 Try.sizeOf99 m4 rfl ?_
  exact ⟨none, 0, by rw [q1]; rfl, by rw [q1]; exact Sl.nil _ _ _ _, by rw [q1]; simp, e4⟩
  obtain rfl : y0 = 165 := UInt8.toNat_inj.1 (by have : ((165 : UInt8).toNat : Int) = 165 := rfl; omega)
  refine Rn.skip (Rn.seq (Rn.seq (Rn.reg (Rn.v rfl rfl rfl rfl (V.mv rfl) (Rn.v rfl rfl rfl rfl (V.lss rfl rfl) (Rn.regEnd ?_))))))
  refine Rn.condD rfl (fun h2 => ?_) (fun h2 => ?_)
  have q1 := firstF_short t (by omega)
  refine Rn.seq (Rn.reg (Rn.v rfl rfl rfl rfl (V.bldS st99 rfl rfl) (Rn.st rfl rfl Try.sizeOf99 rfl rfl rfl rfl (by first | exact ones rfl | (simp [Value.oneCell']; done)) m1 (by first | exact Nat.le_of_ble_eq_true rfl | (simp; done)) ?_)))
  intro w5 m5 x5
  have e5 : Ext w w5 := (x1).trans' x5 (fun x hx => .inr (by subst hx; omega))
  refine Rn.regEnd ?_
  refine Rn.retC Try.func41 rfl rfl Try.isAgg99 Try.sizeOf99 m5 rfl ?_
  exact ⟨none, 0, by rw [q1]; rfl, by rw [q1]; exact Sl.nil _ _ _ _, by rw [q1]; simp, e5⟩
  obtain ⟨y1, y2, y3, y4, y5, y6, y7, y8, r, rfl⟩ := long8 t (by omega)
  simp only [List.length_cons] at hdl
  obtain ⟨bb, hbb⟩ : ∃ bb : Nat → UInt8, bb = fun i => (l[k + i]?).getD 0 := ⟨_, rfl⟩
  have hbi : ∀ i, i ≤ 4 → l[k + i]? = some (bb i) := fun i hi => by have hx := List.getElem?_eq_getElem (l := l) (i := k + i) (by omega); subst hbb; simp only [hx, Option.getD_some]
  have hn4 : hiN bb 4 = num4 y1 y2 y3 y4 := by rw [hiN_4]; subst hbb; simp only [hg]; rfl
  refine Rn.skip (Rn.seq (Rn.reg (Rn.v rfl rfl rfl rfl (V.as rfl) (Rn.regEnd (Rn.seq (Rn.seq (Rn.reg (Rn.v rfl rfl rfl rfl (V.as rfl) (Rn.regEnd (Rn.block ?_))))))))))
  refine Rn.loopI (G := Nat) (fun g => [(4, .pointer (some ⟨b1, 0, none⟩)), (5, .int .i64 ((l.length : Int) - k)), (6, .int .i64 (hiN bb g)), (7, .int .i64 (4 - g)), (0, .slice A l.length c), (1, .int .i64 k)]) (fun g w' => g ≤ 4 ∧ w1 = w') (fun g => 4 - g) 0 ?_ ?_ ?_
  · exact Sub.cons rfl (Sub.cons (lki _ rfl (by first | omega | rfl | (dsimp only; omega))) (Sub.cons rfl (Sub.cons (lki _ rfl (by first | omega | rfl | (dsimp only; omega))) (Sub.cons rfl (Sub.cons (lki _ rfl (by first | omega | rfl | (dsimp only; omega))) (Sub.nil _))))))
  · exact ⟨by omega, rfl⟩
  rintro j _ ⟨hj, rfl⟩ hn6
  refine Rn.seq (Rn.seq (Rn.reg (Rn.v rfl rfl rfl rfl (V.mv rfl) (Rn.v rfl rfl rfl rfl (V.gtr rfl rfl) (Rn.regEnd ?_)))))
  refine Rn.condD rfl (fun hj4 => ?_) (fun hj4 => ?_)
  have hlt := hiN_le bb j (by omega)
  have hbu := (bb (4 - j)).toNat_lt
  refine Rn.skip (Rn.seq (Rn.block (Rn.reg (Rn.v rfl rfl rfl rfl (V.mv rfl) (Rn.v rfl rfl rfl rfl (V.mulI rfl rfl (w64 (by omega) (by omega))) (Rn.v rfl rfl rfl rfl (V.mv rfl) (Rn.v rfl rfl rfl rfl (V.mv rfl) (Rn.v rfl rfl rfl rfl (V.mv rfl) (Rn.v rfl rfl rfl rfl (V.addI rfl rfl (w64 (by omega) (by omega))) (Rn.ix (k + (4 - j)) (bb (4 - j)) rfl rfl rfl Try.underlying22 Try.sizeOf5 rfl rfl (hS.ext x1) rfl (hbi _ (by omega)) (by omega) (by omega) ?_))))))))))
  rintro b7 o7 vs7 r7 ⟨rfl, _⟩ hD7
  refine Rn.v rfl rfl rfl rfl (V.ldR0 Try.isAgg5 rfl r7 rfl) (Rn.v rfl rfl rfl rfl (V.cvI Try.underlying5 Try.underlying3 rfl (wc8 _)) (Rn.v rfl rfl rfl rfl (V.addI rfl rfl (w64 (by omega) (by omega))) (Rn.v rfl rfl rfl rfl (V.as rfl) (Rn.regEnd (Rn.inBlock (Rn.reg (Rn.v rfl rfl rfl rfl (V.mv rfl) (Rn.v rfl rfl rfl rfl (V.subI rfl rfl (w64 (by omega) (by omega))) (Rn.v rfl rfl rfl rfl (V.as rfl) (Rn.regEnd ?_))))))))))
  exact hn6 (j+1) _ _ (Sub.cons rfl (Sub.cons (lki _ rfl (by first | omega | rfl | (dsimp only; omega))) (Sub.cons (lki _ rfl (by simp only [hiN]; push_cast; rfl)) (Sub.cons (lki _ rfl (by first | omega | rfl | (dsimp only; omega))) (Sub.cons rfl (Sub.cons (lki _ rfl (by first | omega | rfl | (dsimp only; omega))) (Sub.nil _))))))) (⟨by omega, rfl⟩) (by omega)
  obtain rfl : j = 4 := by omega
  rw [hn4]
  have hn5 := num4_lt y1 y2 y3 y4
  refine Rn.exit rfl (Rn.seq (Rn.seq (Rn.reg (Rn.v rfl rfl rfl rfl (V.mv rfl) (Rn.v rfl rfl rfl rfl (V.gtr rfl rfl) (Rn.regEnd ?_))))))
  refine Rn.condD rfl (fun h3 => ?_) (fun h3 => ?_)
  have q1 := firstF_large y1 y2 y3 y4 y5 y6 y7 y8 r (by omega)
  refine Rn.seq (Rn.reg (Rn.v rfl rfl rfl rfl (V.bldS st99 rfl rfl) (Rn.st rfl rfl Try.sizeOf99 rfl rfl rfl rfl (by first | exact ones rfl | (simp [Value.oneCell']; done)) m1 (by first | exact Nat.le_of_ble_eq_true rfl | (simp; done)) ?_)))
  intro w8 m8 x8
  have e8 : Ext w w8 := (x1).trans' x8 (fun x hx => .inr (by subst hx; omega))
  refine Rn.regEnd ?_
  refine Rn.retC Try.func41 rfl rfl Try.isAgg99 Try.sizeOf99 m8 rfl ?_
  exact ⟨none, 0, by rw [q1]; rfl, by rw [q1]; exact Sl.nil _ _ _ _, by rw [q1]; simp, e8⟩
  refine Rn.skip (Rn.seq (Rn.seq (Rn.reg (Rn.v rfl rfl rfl rfl (V.mv rfl) (Rn.v rfl rfl rfl rfl (V.mv rfl) (Rn.v rfl rfl rfl rfl (V.addI rfl rfl (w64 (by omega) (by omega))) (Rn.v rfl rfl rfl rfl (V.lss rfl rfl) (Rn.regEnd ?_))))))))
  refine Rn.condD rfl (fun h4 => ?_) (fun h4 => ?_)
  have q1 := firstF_less y1 y2 y3 y4 y5 y6 y7 y8 r (by omega) (by omega)
  refine Rn.seq (Rn.reg (Rn.v rfl rfl rfl rfl (V.bldS st99 rfl rfl) (Rn.st rfl rfl Try.sizeOf99 rfl rfl rfl rfl (by first | exact ones rfl | (simp [Value.oneCell']; done)) m1 (by first | exact Nat.le_of_ble_eq_true rfl | (simp; done)) ?_)))
  intro w9 m9 x9
  have e9 : Ext w w9 := (x1).trans' x9 (fun x hx => .inr (by subst hx; omega))
  refine Rn.regEnd ?_
  refine Rn.retC Try.func41 rfl rfl Try.isAgg99 Try.sizeOf99 m9 rfl ?_
  exact ⟨none, 0, by rw [q1]; rfl, by rw [q1]; exact Sl.nil _ _ _ _, by rw [q1]; simp, e9⟩
  refine Rn.skip (Rn.seq (Rn.reg (Rn.v rfl rfl rfl rfl (V.mv rfl) (Rn.v rfl rfl rfl rfl (V.mv rfl) (Rn.v rfl rfl rfl rfl (V.addI rfl rfl (w64 (by omega) (by omega))) (Rn.v rfl rfl rfl rfl (V.mv rfl) (Rn.v rfl rfl rfl rfl (V.addI rfl rfl (w64 (by omega) (by omega))) (Rn.v rfl rfl rfl rfl (V.mv rfl) (Rn.v rfl rfl rfl rfl (V.addI rfl rfl (w64 (by omega) (by omega))) (Rn.cutSl (k + 9) (k + 9 + num4 y1 y2 y3 y4) rfl rfl rfl Try.underlying22 Try.sizeOf5 rfl (hS.ext x1) rfl hmc rfl ⟨_, rfl, by omega⟩ ⟨_, rfl, by omega⟩ (by omega) (by omega) ?_))))))))))
  intro A10 s10 k10
  refine Rn.v rfl rfl rfl rfl (V.as rfl) (Rn.regEnd (Rn.seq (Rn.reg (Rn.v rfl rfl rfl rfl (V.mv rfl) (Rn.cl ck54 rfl rfl rfl rfl (wrap4_spec _ _ _ _ _ (by rw [List.length_drop, List.length_take]; omega) rfl s10) ?_)))))
  rintro y11 w11 ⟨A11, c11, q11, h11, x11⟩
  have hpl : (List.drop (k + 9) (List.take (k + 9 + num4 y1 y2 y3 y4) l)).length = num4 y1 y2 y3 y4 := by rw [List.length_drop, List.length_take]; omega
  rw [if_neg (by omega)] at q11
  subst q11
  obtain ⟨s11, _, _⟩ := h11 (by omega)
  refine ⟨_, rfl, ?_⟩
  refine Rn.v rfl rfl rfl rfl (V.mv rfl) (Rn.v rfl rfl rfl rfl (V.ext rfl rfl) (Rn.v rfl rfl rfl rfl (V.ext rfl rfl) (Rn.v rfl rfl rfl rfl (V.as rfl) (Rn.v rfl rfl rfl rfl (V.as rfl) (Rn.regEnd (Rn.seq (Rn.seq ?_)))))))
  refine Rn.drawE rfl ?_
  intro w12 x12
  refine RH.take 0 (by kernel_rfl) rfl rfl rfl rfl (fun w' hDr => V.mv rfl) ?_
  refine RH.take 1 (by kernel_rfl) rfl rfl rfl rfl (fun w' hDr => V.b2s Try.underlying22 Try.underlying9 Try.underlying5 rfl rfl ((s11.ext x12).ext hDr)) ?_
  refine RH.take 2 (by kernel_rfl) rfl rfl rfl rfl (fun w' hDr => V.mv rfl) ?_
  refine RH.take 3 (by kernel_rfl) rfl rfl rfl rfl (fun w' hDr => V.mv rfl) ?_
  refine RH.take 4 (by kernel_rfl) rfl rfl rfl rfl (fun w' hDr => V.mv rfl) ?_
  refine RH.take 5 (by kernel_rfl) rfl rfl rfl rfl (fun w' hDr => V.addI rfl rfl (w64 (by omega) (by omega))) ?_
  refine RH.take 6 (by kernel_rfl) rfl rfl rfl rfl (fun w' hDr => V.mv rfl) ?_
  refine RH.take 7 (by kernel_rfl) rfl rfl rfl rfl (fun w' hDr => V.addI rfl rfl (w64 (by omega) (by omega))) ?_
  have s13 := ((hS.ext (x1.trans (x11.trans x12)))).cut (c := c) k (k + 9 + num4 y1 y2 y3 y4) (by omega) (by omega)
  refine RH.take 8 (by kernel_rfl) rfl rfl rfl rfl (fun w' hDr => V.cutV k (k + 9 + num4 y1 y2 y3 y4) Try.underlying22 Try.sizeOf5 rfl ⟨_, rfl, by omega⟩ ⟨_, rfl, by omega⟩ (by omega) (by omega)) ?_
  refine RH.sayL (t := 70) (List.drop k (List.take (k + 9 + num4 y1 y2 y3 y4) l)).length rfl (by rw [List.length_drop, List.length_take]; omega) ?_
  refine RH.take 9 (by kernel_rfl) rfl rfl rfl rfl (fun w' hDr => V.b2s Try.underlying22 Try.underlying9 Try.underlying5 rfl rfl (s13.ext hDr)) ?_
  refine RH.take 10 (by kernel_rfl) rfl rfl rfl rfl (fun w' hDr => V.neqS rfl rfl) ?_
  refine RH.done (by kernel_rfl) (fun xd13 => ?_)
  have hpay : (l.take (k + 9 + num4 y1 y2 y3 y4)).drop (k + 9) = r.take (num4 y1 y2 y3 y4) := by rw [← List.drop_drop, List.drop_take, hd]; simp [Nat.add_sub_cancel_left, Nat.add_assoc]; rw [Nat.add_comm 9]; rfl
  have hall : (l.take (k + 9 + num4 y1 y2 y3 y4)).drop k = (165 :: y1 :: y2 :: y3 :: y4 :: y5 :: y6 :: y7 :: y8 :: r).take (9 + num4 y1 y2 y3 y4) := by rw [List.drop_take, hd, Nat.add_assoc, Nat.add_sub_cancel_left]
  have hiff := wrapL_eq_iff y1 y2 y3 y4 y5 y6 y7 y8 r (by omega)
  refine Rn.condD rfl (fun h5 => ?_) (fun h5 => ?_)
  rw [hpay, hall] at h5
  have q1 := firstF_sum y1 y2 y3 y4 y5 y6 y7 y8 r (by omega) (by omega) (fun hh => h5 (hiff.2 hh))
  refine Rn.seq (Rn.reg (Rn.v rfl rfl rfl rfl (V.bldS st99 rfl rfl) (Rn.st rfl rfl Try.sizeOf99 rfl rfl rfl rfl (by first | exact ones rfl | (simp [Value.oneCell']; done)) ((m1.ext x11).ext x12) (by first | exact Nat.le_of_ble_eq_true rfl | (simp; done)) ?_)))
  intro w14 m14 x14
  have e14 : Ext w w14 := ((x1.trans (x11.trans x12))).trans' x14 (fun x hx => .inr (by subst hx; omega))
  refine Rn.regEnd ?_
  refine Rn.retC Try.func41 rfl rfl Try.isAgg99 Try.sizeOf99 m14 rfl ?_
  exact ⟨none, 0, by rw [q1]; rfl, by rw [q1]; exact Sl.nil _ _ _ _, by rw [q1]; simp, e14⟩
  rw [hpay, hall] at h5
  have q1 := firstF_ok y1 y2 y3 y4 y5 y6 y7 y8 r (by omega) (by omega) (hiff.1 (Decidable.of_not_not h5))
  refine Rn.skip (Rn.seq (Rn.reg (Rn.v rfl rfl rfl rfl (V.mv rfl) (Rn.v rfl rfl rfl rfl (V.mv rfl) (Rn.v rfl rfl rfl rfl (V.addI rfl rfl (w64 (by omega) (by omega))) (Rn.v rfl rfl rfl rfl (V.bldS st99 rfl rfl) (Rn.st rfl rfl Try.sizeOf99 rfl rfl rfl rfl (by first | exact ones rfl | (simp [Value.oneCell']; done)) ((m1.ext x11).ext x12) (by first | exact Nat.le_of_ble_eq_true rfl | (simp; done)) ?_)))))))
  intro w15 m15 x15
  have e15 : Ext w w15 := ((x1.trans (x11.trans x12))).trans' x15 (fun x hx => .inr (by subst hx; omega))
  refine Rn.regEnd ?_
  refine Rn.retC Try.func41 rfl rfl Try.isAgg99 Try.sizeOf99 m15 rfl ?_
  exact ⟨A10, c - (k + 9), by rw [q1, ← hpay, hpl]; rfl, by rw [q1, ← hpay]; exact Sl.mono (((s10.ext x11).ext x12).fr x15 (by first | omega | (intro b hb hh; have := hb.2; omega))) (fun b hb => hb.1), by rw [q1, ← hpay]; exact k10, e15⟩

end Go.Proofs.Ytpeloppldpdonaa
