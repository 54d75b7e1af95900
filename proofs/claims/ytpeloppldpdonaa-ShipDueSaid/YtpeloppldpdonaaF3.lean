/-
  Walks of functions of the program, group F3: what each call answers, and what stays of the memory.
-/
import Derived.Test.YtpeloppldpdonaaF2
namespace Go.Proofs.Ytpeloppldpdonaa
open Go Go.RowKit Go.Wk
theorem ck5 : CallOk Try.prog 5 := ⟨_, _, Try.func5, rfl, by kernel_rfl⟩
theorem ck12 : CallOk Try.prog 12 := ⟨_, _, Try.func12, rfl, by kernel_rfl⟩
theorem ck13 : CallOk Try.prog 13 := ⟨_, _, Try.func13, rfl, by kernel_rfl⟩
theorem ck14 : CallOk Try.prog 14 := ⟨_, _, Try.func14, rfl, by kernel_rfl⟩
set_option maxRecDepth 20000 in
theorem shipDue_spec {D : Nat → Prop} (A : Option Addr) (c m : Nat) (l : List Span) (ack win : Int) (w : World) (ha : -9223372036854775808 ≤ ack ∧ ack ≤ 9223372036854775807) (hm : l.length = m) (hS : Sl D w A spanR l) :
    Calls Try.prog 4 #[.slice A m c, .int .i64 ack, .int .i64 win] w fun x w' => x = .returned (.bool true) ∧ Ext w w' := by
  subst hm
  refine Rn.enter Try.func4 rfl rfl (Nat.le_of_ble_eq_true rfl) ?_
  refine Rn.seq (Rn.reg (Rn.v rfl rfl rfl rfl (V.as rfl) (Rn.regEnd (Rn.seq (Rn.seq (Rn.reg (Rn.cl ck5 rfl rfl rfl rfl (awake_spec _) ?_)))))))
  rintro _ w1 ⟨rfl, x1⟩
  have hs1 := x1.size
  refine ⟨_, rfl, ?_⟩
  refine Rn.v rfl rfl rfl rfl (V.notB rfl) (Rn.regEnd ?_)
  refine Rn.condS rfl (fun a1 => ?_) (fun a1 => ?_)
  cases a1
  refine Rn.skip (Rn.seq (Rn.seq (Rn.reg (Rn.v rfl rfl rfl rfl (V.mv rfl) (Rn.v rfl rfl rfl rfl (V.lenV Try.underlying40 rfl) (Rn.v rfl rfl rfl rfl (V.gtr rfl rfl) (Rn.regEnd ?_)))))))
  refine Rn.condD rfl (fun a2 => ?_) (fun a2 => ?_)
  refine Rn.seq (Rn.reg (Rn.v rfl rfl rfl rfl (V.as rfl) (Rn.regEnd ?_)))
  refine Rn.ret1 Try.func4 rfl rfl ?_
  exact ⟨rfl, x1⟩
  refine Rn.skip (Rn.seq (Rn.reg (Rn.cl ck6 rfl rfl rfl rfl (dnew_spec (D := No) none 0 0 [] 1000 _ (by decide) rfl (Sl.nil _ _ _ _)) ?_)))
  rintro _ w2 ⟨(⟨rfl, hnd2⟩ | ⟨s2, b2, F2, hnd2, rfl, d2, hF2⟩), x2⟩
  have hs2 := x2.size
  refine ⟨_, rfl, ?_⟩
  refine Rn.v rfl rfl rfl rfl (V.as rfl) (Rn.regEnd (Rn.seq (Rn.reg (Rn.v rfl rfl rfl rfl (V.mv rfl) ?_))))
  rw [newD_0] at hnd2; cases hnd2
  have hs2 := x2.size
  rw [newD_0] at hnd2
  cases hnd2
  refine ⟨_, rfl, ?_⟩
  have hlt1 := d2.lt
  have hF1 : ∀ x, F2 x → w.heap.size ≤ x := fun x hx => by have := hF2 x hx; omega
  refine Rn.v rfl rfl rfl rfl (V.as rfl) (Rn.regEnd (Rn.seq (Rn.reg (Rn.v rfl rfl rfl rfl (V.mv rfl) (Rn.cl ck8 rfl rfl rfl rfl (open_ship_spec _ (ok_0 1 (by omega)) d2) ?_)))))
  rintro _ w3 ⟨F3, (⟨ho3, rfl⟩ | ⟨a3, q3, ho3, he3, ha3, rfl, mQ3, hq3, hnq3⟩), d3, x3, hF3⟩
  have e3 : Ext w w3 := ((x1.trans x2)).trans' x3 (fun x hx => .inr (by exact hF1 _ hx))
  have hs3 := x3.size
  refine ⟨_, rfl, ?_⟩
  refine Rn.v rfl rfl rfl rfl (V.mv rfl) (Rn.v rfl rfl rfl rfl (V.ext rfl rfl) (Rn.v rfl rfl rfl rfl (V.ext rfl rfl) (Rn.v rfl rfl rfl rfl (V.as rfl) (Rn.v rfl rfl rfl rfl (V.as rfl) (Rn.regEnd (Rn.seq (Rn.seq (Rn.reg (Rn.v rfl rfl rfl rfl (V.mv rfl) (Rn.v rfl rfl rfl rfl (V.eqlP Try.underlying31 rfl rfl) (Rn.regEnd ?_)))))))))))
  rw [openS_0] at ho3; cases ho3
  have e3 : Ext w w3 := ((x1.trans x2)).trans' x3 (fun x hx => .inr (by exact hF1 _ hx))
  have hs3 := x3.size
  rw [openS_0] at ho3 d3
  cases ho3
  refine ⟨_, rfl, ?_⟩
  have gF2 : ∀ x, F3 x → w.heap.size ≤ x := fun x hx => by rcases hF3 x hx with hh | hh; exact hF1 x hh; omega
  have hlt2 := d3.lt
  dsimp only at d3 mQ3
  obtain ⟨av, hav0⟩ : ∃ av, (PD.d0.takeS 0 ack 4503599627370496).2.1 = av := ⟨_, rfl⟩
  have hav1 : 0 < ack → ack ≤ 4503599627370496 → (av : Int) = ack := fun h1 h2 => by rw [← hav0, takeS_0 ack _ h1 h2]; show ((ack.toNat : Nat) : Int) = ack; omega
  have hav2 : ¬ (0 < ack ∧ ack ≤ 4503599627370496) → (av : Int) = 0 := fun hh => by rw [← hav0, takeS_no _ _ _ _ (by omega)]; rfl
  refine Rn.v rfl rfl rfl rfl (V.mv rfl) (Rn.v rfl rfl rfl rfl (V.ext rfl rfl) (Rn.v rfl rfl rfl rfl (V.ext rfl rfl) (Rn.v rfl rfl rfl rfl (V.as rfl) (Rn.v rfl rfl rfl rfl (V.as rfl) (Rn.regEnd (Rn.seq (Rn.seq (Rn.reg (Rn.v rfl rfl rfl rfl (V.mv rfl) (Rn.v rfl rfl rfl rfl (V.eqlP Try.underlying31 rfl rfl) (Rn.regEnd ?_)))))))))))
  refine Rn.condS rfl (fun a3 => ?_) (fun a3 => ?_)
  cases a3
  refine Rn.skip (Rn.seq (Rn.reg (Rn.v rfl rfl rfl rfl (V.mv rfl) (Rn.v rfl rfl rfl rfl (V.mv rfl) (Rn.cl ck11 rfl rfl rfl rfl (take_spec q3 0 ack 4503599627370496 _ ha (ok_0 6 (by omega)) mQ3 hnq3 d3) ?_)))))
  rintro _ w4 ⟨F4, rfl, d4, mQ4, hnq4, x4, hF4⟩
  have e4 : Ext w w4 := (e3).trans' x4 (fun x hx => .inr (by rcases hx with hh | hh; exact gF2 x hh; (subst hh; omega)))
  have hs4 := x4.size
  rw [hav0] at mQ4
  refine ⟨_, rfl, ?_⟩
  refine Rn.regEnd (Rn.seq (Rn.reg (Rn.v rfl rfl rfl rfl (V.as rfl) (Rn.regEnd (Rn.seq (Rn.seq (Rn.reg (Rn.v rfl rfl rfl rfl (V.mv rfl) (Rn.v rfl rfl rfl rfl (V.gtr rfl rfl) (Rn.v rfl rfl rfl rfl (V.mv rfl) ?_))))))))))
  refine Rn.partD (t := 31) rfl (fun c1 => ?_) (fun c1 => ?_)
  refine Rn.v rfl rfl rfl rfl (V.mv rfl) (Rn.v rfl rfl rfl rfl (V.leq rfl rfl) (Rn.v rfl rfl rfl rfl (V.pkT rfl rfl) (Rn.regEnd ?_)))
  refine Rn.condD rfl (fun c2 => ?_) (fun c2 => ?_)
  have hav : (av : Int) = ack := hav1 c1 c2
  rw [hav] at mQ4
  have hdl : (dueOf l ack win).length ≤ l.length := by have := dueOf_len l ack win l.length; rwa [List.take_length] at this
  refine Rn.reg (Rn.v rfl rfl rfl rfl (V.mv rfl) (Rn.v rfl rfl rfl rfl (V.as rfl) (Rn.regEnd (Rn.seq (Rn.reg (Rn.v rfl rfl rfl rfl (V.as rfl) (Rn.regEnd (Rn.seq (Rn.seq (Rn.reg (Rn.v rfl rfl rfl rfl (V.as rfl) (Rn.regEnd (Rn.block ?_)))))))))))))
  refine Rn.loopI (G := Nat) (fun g => [(8, .pointer (some ⟨q3, 0, none⟩)), (10, .int .i64 ack), (11, .int .i64 (restOf (l.take g) ack)), (12, .int .i64 g), (0, .slice A l.length c), (1, .int .i64 ack), (2, .int .i64 win)]) (fun g w' => g ≤ l.length ∧ w4 = w') (fun g => l.length - g) 0 ?_ ?_ ?_
  · exact Sub.cons rfl (Sub.cons (lki _ rfl (by first | omega | rfl | (dsimp only; omega))) (Sub.cons (lki _ rfl (by simp [restOf])) (Sub.cons (lki _ rfl (by first | omega | rfl | (dsimp only; omega))) (Sub.cons rfl (Sub.cons (lki _ rfl (by first | omega | rfl | (dsimp only; omega))) (Sub.cons (lki _ rfl (by first | omega | rfl | (dsimp only; omega))) (Sub.nil _)))))))
  · exact ⟨by omega, rfl⟩
  rintro i _ ⟨hi, rfl⟩ hn5
  have hcnt := restOf_le l ack i
  refine Rn.seq (Rn.seq (Rn.reg (Rn.v rfl rfl rfl rfl (V.mv rfl) (Rn.v rfl rfl rfl rfl (V.mv rfl) (Rn.v rfl rfl rfl rfl (V.lenV Try.underlying40 rfl) (Rn.v rfl rfl rfl rfl (V.lss rfl rfl) (Rn.regEnd ?_)))))))
  refine Rn.condD rfl (fun hlt => ?_) (fun hlt => ?_)
  obtain ⟨z, hz⟩ : ∃ z, l[i]? = some z := ⟨_, List.getElem?_eq_getElem (by omega)⟩
  refine Rn.skip (Rn.seq (Rn.block (Rn.seq (Rn.reg (Rn.v rfl rfl rfl rfl (V.mv rfl) (Rn.v rfl rfl rfl rfl (V.mv rfl) (Rn.ix i z rfl rfl rfl Try.underlying40 Try.sizeOf44 rfl rfl (hS.ext e4) rfl hz rfl (by omega) ?_)))))))
  rintro b6 o6 vs6 r6 ⟨rfl, _⟩ hD6
  refine Rn.v rfl rfl rfl rfl (V.fa Try.underlying44 rfl Try.sizeOf3 rfl rfl) (Rn.v rfl rfl rfl rfl (V.ldR Try.isAgg3 rfl r6 rfl) (Rn.v rfl rfl rfl rfl (V.mv rfl) (Rn.v rfl rfl rfl rfl (V.gtr rfl rfl) (Rn.regEnd ?_))))
  refine Rn.condD rfl (fun hgt => ?_) (fun hgt => ?_)
  refine Rn.reg (Rn.v rfl rfl rfl rfl (V.mv rfl) (Rn.v rfl rfl rfl rfl (V.addI rfl rfl (w64 (by omega) (by omega))) (Rn.v rfl rfl rfl rfl (V.as rfl) (Rn.regEnd (Rn.inBlock (Rn.reg (Rn.v rfl rfl rfl rfl (V.mv rfl) (Rn.v rfl rfl rfl rfl (V.addI rfl rfl (w64 (by omega) (by omega))) (Rn.v rfl rfl rfl rfl (V.as rfl) (Rn.regEnd ?_))))))))))
  exact hn5 (i+1) _ _ (Sub.cons rfl (Sub.cons (lki _ rfl (by first | omega | rfl | (dsimp only; omega))) (Sub.cons (lki _ rfl (by rw [restOf_succ l ack i z hz, if_pos hgt])) (Sub.cons (lki _ rfl (by first | omega | rfl | (dsimp only; omega))) (Sub.cons rfl (Sub.cons (lki _ rfl (by first | omega | rfl | (dsimp only; omega))) (Sub.cons (lki _ rfl (by first | omega | rfl | (dsimp only; omega))) (Sub.nil _)))))))) (⟨by omega, rfl⟩) (by omega)
  refine Rn.skip (Rn.inBlock (Rn.reg (Rn.v rfl rfl rfl rfl (V.mv rfl) (Rn.v rfl rfl rfl rfl (V.addI rfl rfl (w64 (by omega) (by omega))) (Rn.v rfl rfl rfl rfl (V.as rfl) (Rn.regEnd ?_))))))
  exact hn5 (i+1) _ _ (Sub.cons rfl (Sub.cons (lki _ rfl (by first | omega | rfl | (dsimp only; omega))) (Sub.cons (lki _ rfl (by rw [restOf_succ l ack i z hz, if_neg hgt]; omega)) (Sub.cons (lki _ rfl (by first | omega | rfl | (dsimp only; omega))) (Sub.cons rfl (Sub.cons (lki _ rfl (by first | omega | rfl | (dsimp only; omega))) (Sub.cons (lki _ rfl (by first | omega | rfl | (dsimp only; omega))) (Sub.nil _)))))))) (⟨by omega, rfl⟩) (by omega)
  rw [List.take_of_length_le (by omega)]
  refine Rn.exit rfl (Rn.seq (Rn.reg (Rn.v rfl rfl rfl rfl (V.mv rfl) (Rn.cl ck10 rfl rfl rfl rfl (ack_spec q3 _ mQ4) ?_))))
  rintro _ _ ⟨rfl, rfl⟩
  refine ⟨_, rfl, ?_⟩
  refine Rn.v rfl rfl rfl rfl (V.mv rfl) (Rn.v rfl rfl rfl rfl (V.eql rfl rfl) (Rn.v rfl rfl rfl rfl (V.mv rfl) ?_))
  refine Rn.partD (t := 55) rfl (fun b1 => ?_) (fun b1 => ?_)
  refine Rn.v rfl rfl rfl rfl (V.mv rfl) (Rn.v rfl rfl rfl rfl (V.mv rfl) (Rn.v rfl rfl rfl rfl (V.mv rfl) (Rn.cl ck13 rfl rfl rfl rfl (due_spec ack _ _ _ _ _ l _ (by omega) rfl mQ4 (hS.ext e4)) ?_)))
  rintro _ w8 ⟨A8, c8, rfl, o8, x8⟩
  have hs8 := x8.size
  refine ⟨_, rfl, ?_⟩
  refine Rn.v rfl rfl rfl rfl (V.mv rfl) (Rn.v rfl rfl rfl rfl (V.mv rfl) (Rn.v rfl rfl rfl rfl (V.mv rfl) (Rn.cl ck14 rfl rfl rfl rfl (dueR_spec ack _ _ _ _ l _ (by omega) rfl (hS.ext (e4.trans x8))) ?_)))
  rintro _ w9 ⟨A9, c9, rfl, o9, x9⟩
  have hs9 := x9.size
  refine ⟨_, rfl, ?_⟩
  refine Rn.cl ck12 rfl rfl rfl rfl (same_spec _ _ _ (dueOf l ack win) _ _ _ _ (by omega) rfl rfl (o8.ext x9).sl o9.sl) ?_
  rintro _ w10 ⟨rfl, x10⟩
  have hs10 := x10.size
  refine ⟨_, rfl, ?_⟩
  refine Rn.v rfl rfl rfl rfl (V.pkT rfl rfl) (Rn.v rfl rfl rfl rfl (V.mv rfl) ?_)
  refine Rn.part (t := 66) rfl (fun b2 => ?_) (fun b2 => ?_)
  refine Rn.v rfl rfl rfl rfl (V.mv rfl) (Rn.v rfl rfl rfl rfl (V.mv rfl) (Rn.cl ck15 rfl rfl rfl rfl (left_spec2 _ _ _ l _ _ (by omega) rfl (hS.ext (e4.trans (x8.trans (x9.trans x10))))) ?_))
  rintro _ w11 ⟨rfl, x11⟩
  have hs11 := x11.size
  refine ⟨_, rfl, ?_⟩
  refine Rn.v rfl rfl rfl rfl (V.mv rfl) (Rn.v rfl rfl rfl rfl (V.eql rfl rfl) (Rn.v rfl rfl rfl rfl (V.pkT rfl rfl) (Rn.v rfl rfl rfl rfl (V.as rfl) (Rn.regEnd ?_))))
  refine Rn.ret1 Try.func4 rfl rfl ?_
  exact ⟨by simp, (e4.trans (x8.trans (x9.trans (x10.trans x11))))⟩
  cases b2
  exact absurd rfl b1
  have hav : (av : Int) = 0 := hav2 (by omega)
  rw [hav] at mQ4
  have hdl : (dueOf l 0 win).length ≤ l.length := by have := dueOf_len l 0 win l.length; rwa [List.take_length] at this
  refine Rn.skip (Rn.seq (Rn.reg (Rn.v rfl rfl rfl rfl (V.as rfl) (Rn.regEnd (Rn.seq (Rn.seq (Rn.reg (Rn.v rfl rfl rfl rfl (V.as rfl) (Rn.regEnd (Rn.block ?_))))))))))
  refine Rn.loopI (G := Nat) (fun g => [(8, .pointer (some ⟨q3, 0, none⟩)), (10, .int .i64 0), (11, .int .i64 (restOf (l.take g) ack)), (12, .int .i64 g), (0, .slice A l.length c), (1, .int .i64 ack), (2, .int .i64 win)]) (fun g w' => g ≤ l.length ∧ w4 = w') (fun g => l.length - g) 0 ?_ ?_ ?_
  · exact Sub.cons rfl (Sub.cons (lki _ rfl (by first | omega | rfl | (dsimp only; omega))) (Sub.cons (lki _ rfl (by simp [restOf])) (Sub.cons (lki _ rfl (by first | omega | rfl | (dsimp only; omega))) (Sub.cons rfl (Sub.cons (lki _ rfl (by first | omega | rfl | (dsimp only; omega))) (Sub.cons (lki _ rfl (by first | omega | rfl | (dsimp only; omega))) (Sub.nil _)))))))
  · exact ⟨by omega, rfl⟩
  rintro i _ ⟨hi, rfl⟩ hn12
  have hcnt := restOf_le l ack i
  refine Rn.seq (Rn.seq (Rn.reg (Rn.v rfl rfl rfl rfl (V.mv rfl) (Rn.v rfl rfl rfl rfl (V.mv rfl) (Rn.v rfl rfl rfl rfl (V.lenV Try.underlying40 rfl) (Rn.v rfl rfl rfl rfl (V.lss rfl rfl) (Rn.regEnd ?_)))))))
  refine Rn.condD rfl (fun hlt => ?_) (fun hlt => ?_)
  obtain ⟨z, hz⟩ : ∃ z, l[i]? = some z := ⟨_, List.getElem?_eq_getElem (by omega)⟩
  refine Rn.skip (Rn.seq (Rn.block (Rn.seq (Rn.reg (Rn.v rfl rfl rfl rfl (V.mv rfl) (Rn.v rfl rfl rfl rfl (V.mv rfl) (Rn.ix i z rfl rfl rfl Try.underlying40 Try.sizeOf44 rfl rfl (hS.ext e4) rfl hz rfl (by omega) ?_)))))))
  rintro b13 o13 vs13 r13 ⟨rfl, _⟩ hD13
  refine Rn.v rfl rfl rfl rfl (V.fa Try.underlying44 rfl Try.sizeOf3 rfl rfl) (Rn.v rfl rfl rfl rfl (V.ldR Try.isAgg3 rfl r13 rfl) (Rn.v rfl rfl rfl rfl (V.mv rfl) (Rn.v rfl rfl rfl rfl (V.gtr rfl rfl) (Rn.regEnd ?_))))
  refine Rn.condD rfl (fun hgt => ?_) (fun hgt => ?_)
  refine Rn.reg (Rn.v rfl rfl rfl rfl (V.mv rfl) (Rn.v rfl rfl rfl rfl (V.addI rfl rfl (w64 (by omega) (by omega))) (Rn.v rfl rfl rfl rfl (V.as rfl) (Rn.regEnd (Rn.inBlock (Rn.reg (Rn.v rfl rfl rfl rfl (V.mv rfl) (Rn.v rfl rfl rfl rfl (V.addI rfl rfl (w64 (by omega) (by omega))) (Rn.v rfl rfl rfl rfl (V.as rfl) (Rn.regEnd ?_))))))))))
  exact hn12 (i+1) _ _ (Sub.cons rfl (Sub.cons (lki _ rfl (by first | omega | rfl | (dsimp only; omega))) (Sub.cons (lki _ rfl (by rw [restOf_succ l ack i z hz, if_pos hgt])) (Sub.cons (lki _ rfl (by first | omega | rfl | (dsimp only; omega))) (Sub.cons rfl (Sub.cons (lki _ rfl (by first | omega | rfl | (dsimp only; omega))) (Sub.cons (lki _ rfl (by first | omega | rfl | (dsimp only; omega))) (Sub.nil _)))))))) (⟨by omega, rfl⟩) (by omega)
  refine Rn.skip (Rn.inBlock (Rn.reg (Rn.v rfl rfl rfl rfl (V.mv rfl) (Rn.v rfl rfl rfl rfl (V.addI rfl rfl (w64 (by omega) (by omega))) (Rn.v rfl rfl rfl rfl (V.as rfl) (Rn.regEnd ?_))))))
  exact hn12 (i+1) _ _ (Sub.cons rfl (Sub.cons (lki _ rfl (by first | omega | rfl | (dsimp only; omega))) (Sub.cons (lki _ rfl (by rw [restOf_succ l ack i z hz, if_neg hgt]; omega)) (Sub.cons (lki _ rfl (by first | omega | rfl | (dsimp only; omega))) (Sub.cons rfl (Sub.cons (lki _ rfl (by first | omega | rfl | (dsimp only; omega))) (Sub.cons (lki _ rfl (by first | omega | rfl | (dsimp only; omega))) (Sub.nil _)))))))) (⟨by omega, rfl⟩) (by omega)
  rw [List.take_of_length_le (by omega)]
  refine Rn.exit rfl (Rn.seq (Rn.reg (Rn.v rfl rfl rfl rfl (V.mv rfl) (Rn.cl ck10 rfl rfl rfl rfl (ack_spec q3 _ mQ4) ?_))))
  rintro _ _ ⟨rfl, rfl⟩
  refine ⟨_, rfl, ?_⟩
  refine Rn.v rfl rfl rfl rfl (V.mv rfl) (Rn.v rfl rfl rfl rfl (V.eql rfl rfl) (Rn.v rfl rfl rfl rfl (V.mv rfl) ?_))
  refine Rn.partD (t := 55) rfl (fun b1 => ?_) (fun b1 => ?_)
  refine Rn.v rfl rfl rfl rfl (V.mv rfl) (Rn.v rfl rfl rfl rfl (V.mv rfl) (Rn.v rfl rfl rfl rfl (V.mv rfl) (Rn.cl ck13 rfl rfl rfl rfl (due_spec 0 _ _ _ _ _ l _ (by omega) rfl mQ4 (hS.ext e4)) ?_)))
  rintro _ w15 ⟨A15, c15, rfl, o15, x15⟩
  have hs15 := x15.size
  refine ⟨_, rfl, ?_⟩
  refine Rn.v rfl rfl rfl rfl (V.mv rfl) (Rn.v rfl rfl rfl rfl (V.mv rfl) (Rn.v rfl rfl rfl rfl (V.mv rfl) (Rn.cl ck14 rfl rfl rfl rfl (dueR_spec 0 _ _ _ _ l _ (by omega) rfl (hS.ext (e4.trans x15))) ?_)))
  rintro _ w16 ⟨A16, c16, rfl, o16, x16⟩
  have hs16 := x16.size
  refine ⟨_, rfl, ?_⟩
  refine Rn.cl ck12 rfl rfl rfl rfl (same_spec _ _ _ (dueOf l 0 win) _ _ _ _ (by omega) rfl rfl (o15.ext x16).sl o16.sl) ?_
  rintro _ w17 ⟨rfl, x17⟩
  have hs17 := x17.size
  refine ⟨_, rfl, ?_⟩
  refine Rn.v rfl rfl rfl rfl (V.pkT rfl rfl) (Rn.v rfl rfl rfl rfl (V.mv rfl) ?_)
  refine Rn.part (t := 66) rfl (fun b2 => ?_) (fun b2 => ?_)
  refine Rn.v rfl rfl rfl rfl (V.mv rfl) (Rn.v rfl rfl rfl rfl (V.mv rfl) (Rn.cl ck15 rfl rfl rfl rfl (left_spec2 _ _ _ l _ _ (by omega) rfl (hS.ext (e4.trans (x15.trans (x16.trans x17))))) ?_))
  rintro _ w18 ⟨rfl, x18⟩
  have hs18 := x18.size
  refine ⟨_, rfl, ?_⟩
  refine Rn.v rfl rfl rfl rfl (V.mv rfl) (Rn.v rfl rfl rfl rfl (V.eql rfl rfl) (Rn.v rfl rfl rfl rfl (V.pkT rfl rfl) (Rn.v rfl rfl rfl rfl (V.as rfl) (Rn.regEnd ?_))))
  refine Rn.ret1 Try.func4 rfl rfl ?_
  exact ⟨by simp, (e4.trans (x15.trans (x16.trans (x17.trans x18))))⟩
  cases b2
  exact absurd rfl b1
  refine Rn.no rfl rfl rfl rfl (Rn.no rfl rfl rfl rfl (Rn.v rfl rfl rfl rfl (V.pkF rfl rfl) (Rn.regEnd (Rn.condF rfl (Rn.skip (Rn.seq (Rn.reg (Rn.v rfl rfl rfl rfl (V.as rfl) (Rn.regEnd (Rn.seq (Rn.seq (Rn.reg (Rn.v rfl rfl rfl rfl (V.as rfl) (Rn.regEnd (Rn.block ?_)))))))))))))))
  have hav : (av : Int) = 0 := hav2 (by omega)
  rw [hav] at mQ4
  have hdl : (dueOf l 0 win).length ≤ l.length := by have := dueOf_len l 0 win l.length; rwa [List.take_length] at this
  refine Rn.loopI (G := Nat) (fun g => [(8, .pointer (some ⟨q3, 0, none⟩)), (10, .int .i64 0), (11, .int .i64 (restOf (l.take g) ack)), (12, .int .i64 g), (0, .slice A l.length c), (1, .int .i64 ack), (2, .int .i64 win)]) (fun g w' => g ≤ l.length ∧ w4 = w') (fun g => l.length - g) 0 ?_ ?_ ?_
  · exact Sub.cons rfl (Sub.cons (lki _ rfl (by first | omega | rfl | (dsimp only; omega))) (Sub.cons (lki _ rfl (by simp [restOf])) (Sub.cons (lki _ rfl (by first | omega | rfl | (dsimp only; omega))) (Sub.cons rfl (Sub.cons (lki _ rfl (by first | omega | rfl | (dsimp only; omega))) (Sub.cons (lki _ rfl (by first | omega | rfl | (dsimp only; omega))) (Sub.nil _)))))))
  · exact ⟨by omega, rfl⟩
  rintro i _ ⟨hi, rfl⟩ hn19
  have hcnt := restOf_le l ack i
  refine Rn.seq (Rn.seq (Rn.reg (Rn.v rfl rfl rfl rfl (V.mv rfl) (Rn.v rfl rfl rfl rfl (V.mv rfl) (Rn.v rfl rfl rfl rfl (V.lenV Try.underlying40 rfl) (Rn.v rfl rfl rfl rfl (V.lss rfl rfl) (Rn.regEnd ?_)))))))
  refine Rn.condD rfl (fun hlt => ?_) (fun hlt => ?_)
  obtain ⟨z, hz⟩ : ∃ z, l[i]? = some z := ⟨_, List.getElem?_eq_getElem (by omega)⟩
  refine Rn.skip (Rn.seq (Rn.block (Rn.seq (Rn.reg (Rn.v rfl rfl rfl rfl (V.mv rfl) (Rn.v rfl rfl rfl rfl (V.mv rfl) (Rn.ix i z rfl rfl rfl Try.underlying40 Try.sizeOf44 rfl rfl (hS.ext e4) rfl hz rfl (by omega) ?_)))))))
  rintro b20 o20 vs20 r20 ⟨rfl, _⟩ hD20
  refine Rn.v rfl rfl rfl rfl (V.fa Try.underlying44 rfl Try.sizeOf3 rfl rfl) (Rn.v rfl rfl rfl rfl (V.ldR Try.isAgg3 rfl r20 rfl) (Rn.v rfl rfl rfl rfl (V.mv rfl) (Rn.v rfl rfl rfl rfl (V.gtr rfl rfl) (Rn.regEnd ?_))))
  refine Rn.condD rfl (fun hgt => ?_) (fun hgt => ?_)
  refine Rn.reg (Rn.v rfl rfl rfl rfl (V.mv rfl) (Rn.v rfl rfl rfl rfl (V.addI rfl rfl (w64 (by omega) (by omega))) (Rn.v rfl rfl rfl rfl (V.as rfl) (Rn.regEnd (Rn.inBlock (Rn.reg (Rn.v rfl rfl rfl rfl (V.mv rfl) (Rn.v rfl rfl rfl rfl (V.addI rfl rfl (w64 (by omega) (by omega))) (Rn.v rfl rfl rfl rfl (V.as rfl) (Rn.regEnd ?_))))))))))
  exact hn19 (i+1) _ _ (Sub.cons rfl (Sub.cons (lki _ rfl (by first | omega | rfl | (dsimp only; omega))) (Sub.cons (lki _ rfl (by rw [restOf_succ l ack i z hz, if_pos hgt])) (Sub.cons (lki _ rfl (by first | omega | rfl | (dsimp only; omega))) (Sub.cons rfl (Sub.cons (lki _ rfl (by first | omega | rfl | (dsimp only; omega))) (Sub.cons (lki _ rfl (by first | omega | rfl | (dsimp only; omega))) (Sub.nil _)))))))) (⟨by omega, rfl⟩) (by omega)
  refine Rn.skip (Rn.inBlock (Rn.reg (Rn.v rfl rfl rfl rfl (V.mv rfl) (Rn.v rfl rfl rfl rfl (V.addI rfl rfl (w64 (by omega) (by omega))) (Rn.v rfl rfl rfl rfl (V.as rfl) (Rn.regEnd ?_))))))
  exact hn19 (i+1) _ _ (Sub.cons rfl (Sub.cons (lki _ rfl (by first | omega | rfl | (dsimp only; omega))) (Sub.cons (lki _ rfl (by rw [restOf_succ l ack i z hz, if_neg hgt]; omega)) (Sub.cons (lki _ rfl (by first | omega | rfl | (dsimp only; omega))) (Sub.cons rfl (Sub.cons (lki _ rfl (by first | omega | rfl | (dsimp only; omega))) (Sub.cons (lki _ rfl (by first | omega | rfl | (dsimp only; omega))) (Sub.nil _)))))))) (⟨by omega, rfl⟩) (by omega)
  rw [List.take_of_length_le (by omega)]
  refine Rn.exit rfl (Rn.seq (Rn.reg (Rn.v rfl rfl rfl rfl (V.mv rfl) (Rn.cl ck10 rfl rfl rfl rfl (ack_spec q3 _ mQ4) ?_))))
  rintro _ _ ⟨rfl, rfl⟩
  refine ⟨_, rfl, ?_⟩
  refine Rn.v rfl rfl rfl rfl (V.mv rfl) (Rn.v rfl rfl rfl rfl (V.eql rfl rfl) (Rn.v rfl rfl rfl rfl (V.mv rfl) ?_))
  refine Rn.partD (t := 55) rfl (fun b1 => ?_) (fun b1 => ?_)
  refine Rn.v rfl rfl rfl rfl (V.mv rfl) (Rn.v rfl rfl rfl rfl (V.mv rfl) (Rn.v rfl rfl rfl rfl (V.mv rfl) (Rn.cl ck13 rfl rfl rfl rfl (due_spec 0 _ _ _ _ _ l _ (by omega) rfl mQ4 (hS.ext e4)) ?_)))
  rintro _ w22 ⟨A22, c22, rfl, o22, x22⟩
  have hs22 := x22.size
  refine ⟨_, rfl, ?_⟩
  refine Rn.v rfl rfl rfl rfl (V.mv rfl) (Rn.v rfl rfl rfl rfl (V.mv rfl) (Rn.v rfl rfl rfl rfl (V.mv rfl) (Rn.cl ck14 rfl rfl rfl rfl (dueR_spec 0 _ _ _ _ l _ (by omega) rfl (hS.ext (e4.trans x22))) ?_)))
  rintro _ w23 ⟨A23, c23, rfl, o23, x23⟩
  have hs23 := x23.size
  refine ⟨_, rfl, ?_⟩
  refine Rn.cl ck12 rfl rfl rfl rfl (same_spec _ _ _ (dueOf l 0 win) _ _ _ _ (by omega) rfl rfl (o22.ext x23).sl o23.sl) ?_
  rintro _ w24 ⟨rfl, x24⟩
  have hs24 := x24.size
  refine ⟨_, rfl, ?_⟩
  refine Rn.v rfl rfl rfl rfl (V.pkT rfl rfl) (Rn.v rfl rfl rfl rfl (V.mv rfl) ?_)
  refine Rn.part (t := 66) rfl (fun b2 => ?_) (fun b2 => ?_)
  refine Rn.v rfl rfl rfl rfl (V.mv rfl) (Rn.v rfl rfl rfl rfl (V.mv rfl) (Rn.cl ck15 rfl rfl rfl rfl (left_spec2 _ _ _ l _ _ (by omega) rfl (hS.ext (e4.trans (x22.trans (x23.trans x24))))) ?_))
  rintro _ w25 ⟨rfl, x25⟩
  have hs25 := x25.size
  refine ⟨_, rfl, ?_⟩
  refine Rn.v rfl rfl rfl rfl (V.mv rfl) (Rn.v rfl rfl rfl rfl (V.eql rfl rfl) (Rn.v rfl rfl rfl rfl (V.pkT rfl rfl) (Rn.v rfl rfl rfl rfl (V.as rfl) (Rn.regEnd ?_))))
  refine Rn.ret1 Try.func4 rfl rfl ?_
  exact ⟨by simp, (e4.trans (x22.trans (x23.trans (x24.trans x25))))⟩
  cases b2
  exact absurd rfl b1

end Go.Proofs.Ytpeloppldpdonaa
