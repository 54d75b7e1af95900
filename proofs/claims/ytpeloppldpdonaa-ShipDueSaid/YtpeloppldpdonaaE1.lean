/-
  Walks of functions of the program, group E1: what each call answers, and what stays of the memory.
-/
import Derived.Test.YtpeloppldpdonaaD2
namespace Go.Proofs.Ytpeloppldpdonaa
open Go Go.RowKit Go.Wk
theorem ck22 : CallOk Try.prog 22 := ⟨_, _, Try.func22, rfl, by kernel_rfl⟩
theorem ck23 : CallOk Try.prog 23 := ⟨_, _, Try.func23, rfl, by kernel_rfl⟩
theorem ck24 : CallOk Try.prog 24 := ⟨_, _, Try.func24, rfl, by kernel_rfl⟩
theorem ck25 : CallOk Try.prog 25 := ⟨_, _, Try.func25, rfl, by kernel_rfl⟩
theorem ck28 : CallOk Try.prog 28 := ⟨_, _, Try.func28, rfl, by kernel_rfl⟩
theorem ck29 : CallOk Try.prog 29 := ⟨_, _, Try.func29, rfl, by kernel_rfl⟩
theorem ck30 : CallOk Try.prog 30 := ⟨_, _, Try.func30, rfl, by kernel_rfl⟩
theorem ck31 : CallOk Try.prog 31 := ⟨_, _, Try.func31, rfl, by kernel_rfl⟩
theorem st70 : StOk Try.prog 70 [.pointer none, .int .i64 0] [(0, 1), (1, 1)] := ⟨Try.zeroValue70, _, Try.underlying70, fun w => by kernel_rfl⟩
theorem el44 : ElOk Try.prog 44 2 16 := elOk_of (by kernel_rfl) (by decide)
set_option maxRecDepth 20000 in
theorem left_spec2 {D : Nat → Prop} (A : Option Addr) (c m : Nat) (l : List Span) (ack : Int) (w : World) (hl : l.length ≤ 4294967296) (hm : l.length = m) (hS : Sl D w A spanR l) :
    Calls Try.prog 15 #[.slice A m c, .int .i64 ack] w fun x w' => x = .returned (.int .i64 (restOf l ack)) ∧ Ext w w' := by
  subst hm
  refine Rn.enter Try.func15 rfl rfl (Nat.le_of_ble_eq_true rfl) ?_
  refine Rn.seq (Rn.reg (Rn.v rfl rfl rfl rfl (V.as rfl) (Rn.regEnd (Rn.seq (Rn.reg (Rn.v rfl rfl rfl rfl (V.as rfl) (Rn.regEnd (Rn.seq (Rn.seq (Rn.reg (Rn.v rfl rfl rfl rfl (V.mv rfl) (Rn.v rfl rfl rfl rfl (V.lenV Try.underlying40 rfl) (Rn.v rfl rfl rfl rfl (V.mv rfl) (Rn.regEnd (Rn.block ?_)))))))))))))))
  refine Rn.loopI (G := Nat) (fun g => [(8, .slice A l.length c), (9, .int .i64 l.length), (10, .int .i64 g), (5, .int .i64 (restOf (l.take g) ack)), (0, .slice A l.length c), (1, .int .i64 ack)]) (fun g w' => g ≤ l.length ∧ Ext w w') (fun g => l.length - g) 0 ?_ ?_ ?_
  · exact Sub.cons rfl (Sub.cons (lki _ rfl (by first | omega | rfl | (dsimp only; omega))) (Sub.cons (lki _ rfl (by first | omega | rfl | (dsimp only; omega))) (Sub.cons (lki _ rfl (by simp [restOf])) (Sub.cons rfl (Sub.cons (lki _ rfl (by first | omega | rfl | (dsimp only; omega))) (Sub.nil _))))))
  · exact ⟨Nat.zero_le _, Ext.refl _⟩
  rintro k w1 ⟨hk, x1⟩ hn1
  have hcnt := restOf_le l ack k
  refine Rn.seq (Rn.reg (Rn.v rfl rfl rfl rfl (V.lss rfl rfl) (Rn.regEnd (Rn.seq ?_))))
  refine Rn.condD rfl (fun hlt => ?_) (fun hlt => ?_)
  obtain ⟨z, hz⟩ : ∃ z, l[k]? = some z := ⟨_, List.getElem?_eq_getElem (by omega)⟩
  refine Rn.skip (Rn.seq (Rn.block (Rn.seq (Rn.reg (Rn.ix k z rfl rfl rfl Try.underlying40 Try.sizeOf44 rfl rfl (hS.ext x1) rfl hz rfl (by omega) ?_)))))
  rintro b2 o2 vs2 r2 ⟨rfl, _⟩ hD2
  refine Rn.v rfl rfl rfl rfl (V.ldA Try.isAgg44 Try.sizeOf44 rfl r2 rfl) (Rn.als rfl rfl rfl Try.zeroValue44 rfl Try.sizeOf44 rfl rfl rfl rfl (by first | exact ones rfl | (simp [Value.oneCell']; done)) ?_)
  intro b3 w3 hb3 m3 x3
  refine Rn.regEnd (Rn.seq (Rn.reg (Rn.v rfl rfl rfl rfl (V.fa Try.underlying44 rfl Try.sizeOf3 rfl rfl) (Rn.v rfl rfl rfl rfl (V.ldB Try.isAgg3 rfl m3 rfl) (Rn.v rfl rfl rfl rfl (V.mv rfl) (Rn.v rfl rfl rfl rfl (V.gtr rfl rfl) (Rn.regEnd ?_)))))))
  refine Rn.condD rfl (fun hgt => ?_) (fun hgt => ?_)
  refine Rn.reg (Rn.v rfl rfl rfl rfl (V.mv rfl) (Rn.v rfl rfl rfl rfl (V.addI rfl rfl (w64 (by omega) (by omega))) (Rn.v rfl rfl rfl rfl (V.as rfl) (Rn.regEnd (Rn.inBlock (Rn.reg (Rn.v rfl rfl rfl rfl (V.addI rfl rfl (w64 (by omega) (by omega))) (Rn.v rfl rfl rfl rfl (V.mv rfl) (Rn.regEnd ?_)))))))))
  exact hn1 (k+1) _ _ (Sub.cons rfl (Sub.cons (lki _ rfl (by first | omega | rfl | (dsimp only; omega))) (Sub.cons (lki _ rfl (by first | omega | rfl | (dsimp only; omega))) (Sub.cons (lki _ rfl (by rw [restOf_succ l ack k z hz, if_pos hgt])) (Sub.cons rfl (Sub.cons (lki _ rfl (by first | omega | rfl | (dsimp only; omega))) (Sub.nil _))))))) (⟨by omega, (x1.trans x3)⟩) (by omega)
  refine Rn.skip (Rn.inBlock (Rn.reg (Rn.v rfl rfl rfl rfl (V.addI rfl rfl (w64 (by omega) (by omega))) (Rn.v rfl rfl rfl rfl (V.mv rfl) (Rn.regEnd ?_)))))
  exact hn1 (k+1) _ _ (Sub.cons rfl (Sub.cons (lki _ rfl (by first | omega | rfl | (dsimp only; omega))) (Sub.cons (lki _ rfl (by first | omega | rfl | (dsimp only; omega))) (Sub.cons (lki _ rfl (by rw [restOf_succ l ack k z hz, if_neg hgt]; omega)) (Sub.cons rfl (Sub.cons (lki _ rfl (by first | omega | rfl | (dsimp only; omega))) (Sub.nil _))))))) (⟨by omega, (x1.trans x3)⟩) (by omega)
  refine Rn.exit rfl (Rn.seq (Rn.reg (Rn.v rfl rfl rfl rfl (V.mv rfl) (Rn.v rfl rfl rfl rfl (V.as rfl) (Rn.regEnd ?_)))))
  refine Rn.ret1 Try.func15 rfl rfl ?_
  exact ⟨by rw [List.take_of_length_le (by omega)], x1⟩

set_option maxRecDepth 20000 in
theorem ack_spec {dp : Value} {ack : Int} (q : Nat) (w : World) (hQ : Blk w q 70 [dp, .int .i64 ack]) :
    Calls Try.prog 10 #[.pointer (some ⟨q, 0, none⟩)] w fun x w' => x = .returned (.int .i64 ack) ∧ w = w' := by
  refine Rn.enter Try.func10 rfl rfl (Nat.le_of_ble_eq_true rfl) ?_
  refine Rn.seq (Rn.reg (Rn.v rfl rfl rfl rfl (V.as rfl) (Rn.regEnd (Rn.seq (Rn.reg (Rn.v rfl rfl rfl rfl (V.mv rfl) (Rn.v rfl rfl rfl rfl (V.nil rfl) (Rn.v rfl rfl rfl rfl (V.fa Try.underlying70 rfl Try.sizeOf3 rfl rfl) (Rn.v rfl rfl rfl rfl (V.ldB Try.isAgg3 rfl hQ rfl) (Rn.v rfl rfl rfl rfl (V.as rfl) (Rn.regEnd ?_)))))))))))
  refine Rn.ret1 Try.func10 rfl rfl ?_
  exact ⟨rfl, rfl⟩

set_option maxRecDepth 20000 in
theorem due_spec {D : Nat → Prop} {dp : Value} (ack win : Int) (q : Nat) (A : Option Addr) (c m : Nat) (l : List Span) (w : World) (hl : l.length ≤ 1000000) (hm : l.length = m) (hQ : Blk w q 70 [dp, .int .i64 ack]) (hS : Sl D w A spanR l) :
    Calls Try.prog 13 #[.pointer (some ⟨q, 0, none⟩), .slice A m c, .int .i64 win] w fun x w' => ∃ A' c', x = .returned (.slice A' (dueOf l ack win).length c') ∧ Own w.heap.size No w' 44 A' c' spanR (dueOf l ack win) ∧ Ext w w' := by
  subst hm
  refine Rn.enter Try.func13 rfl rfl (Nat.le_of_ble_eq_true rfl) ?_
  refine Rn.seq (Rn.reg (Rn.v rfl rfl rfl rfl (V.as rfl) (Rn.regEnd (Rn.seq (Rn.reg (Rn.v rfl rfl rfl rfl (V.as rfl) (Rn.regEnd (Rn.seq (Rn.seq (Rn.reg (Rn.v rfl rfl rfl rfl (V.mv rfl) (Rn.v rfl rfl rfl rfl (V.lenV Try.underlying40 rfl) (Rn.v rfl rfl rfl rfl (V.mv rfl) (Rn.regEnd (Rn.block ?_)))))))))))))))
  refine Rn.loopI (G := (Nat × Option Addr × Nat)) (fun g => [(7, .slice (g.2.1) (dueOf (l.take (g.1)) ack win).length (g.2.2)), (10, .slice A l.length c), (11, .int .i64 l.length), (12, .int .i64 (g.1)), (0, .pointer (some ⟨q, 0, none⟩)), (1, .slice A l.length c), (2, .int .i64 win)]) (fun g w' => (g.1) ≤ l.length ∧ Own w.heap.size No w' 44 (g.2.1) (g.2.2) spanR (dueOf (l.take (g.1)) ack win) ∧ Ext w w') (fun g => l.length - (g.1)) (0, none, 0) ?_ ?_ ?_
  · exact Sub.cons rfl (Sub.cons rfl (Sub.cons (lki _ rfl (by first | omega | rfl | (dsimp only; omega))) (Sub.cons (lki _ rfl (by first | omega | rfl | (dsimp only; omega))) (Sub.cons rfl (Sub.cons rfl (Sub.cons (lki _ rfl (by first | omega | rfl | (dsimp only; omega))) (Sub.nil _)))))))
  · exact ⟨by simp, Own.nil _ _ _ _ _, Ext.refl _⟩
  rintro ⟨k, B, e⟩ w1 ⟨hk, o1, x1⟩ hn1
  show Rn _ _ _ _ _ [(7, .slice B (dueOf (l.take k) ack win).length e), (10, .slice A l.length c), (11, .int .i64 l.length), (12, .int .i64 k), (0, .pointer (some ⟨q, 0, none⟩)), (1, .slice A l.length c), (2, .int .i64 win)] _
  have hs1 := x1.size
  dsimp only at hk o1
  have hdl := dueOf_len l ack win k
  refine Rn.seq (Rn.reg (Rn.v rfl rfl rfl rfl (V.lss rfl rfl) (Rn.regEnd (Rn.seq ?_))))
  refine Rn.condD rfl (fun hlt => ?_) (fun hlt => ?_)
  obtain ⟨z, hz⟩ : ∃ z, l[k]? = some z := ⟨_, List.getElem?_eq_getElem (by omega)⟩
  have hds := dueOf_succ l ack win k z hz
  refine Rn.skip (Rn.seq (Rn.block (Rn.seq (Rn.reg (Rn.ix k z rfl rfl rfl Try.underlying40 Try.sizeOf44 rfl rfl (hS.ext x1) rfl hz rfl (by omega) ?_)))))
  rintro b2 o2 vs2 r2 ⟨rfl, _⟩ hD2
  refine Rn.v rfl rfl rfl rfl (V.ldA Try.isAgg44 Try.sizeOf44 rfl r2 rfl) (Rn.als rfl rfl rfl Try.zeroValue44 rfl Try.sizeOf44 rfl rfl rfl rfl (by first | exact ones rfl | (simp [Value.oneCell']; done)) ?_)
  intro b3 w3 hb3 m3 x3
  have hz3 : w.heap.size ≤ b3 := by have := (x1).size; omega
  have hl3 : b3 < w3.heap.size := m3.lt
  have hs3 := x3.size
  refine Rn.regEnd (Rn.seq ?_)
  refine Rn.drawE rfl ?_
  intro w4 x4
  have hs4 := x4.size
  refine RH.take 0 (by kernel_rfl) rfl rfl rfl rfl (fun w' hDr => V.fa Try.underlying44 rfl Try.sizeOf3 rfl rfl) ?_
  refine RH.take 1 (by kernel_rfl) rfl rfl rfl rfl (fun w' hDr => V.ldB Try.isAgg3 rfl ((m3.ext x4).ext hDr) rfl) ?_
  refine RH.take 2 (by kernel_rfl) rfl rfl rfl rfl (fun w' hDr => V.mv rfl) ?_
  refine RH.take 3 (by kernel_rfl) rfl rfl rfl rfl (fun w' hDr => V.nil rfl) ?_
  refine RH.take 4 (by kernel_rfl) rfl rfl rfl rfl (fun w' hDr => V.fa Try.underlying70 rfl Try.sizeOf3 rfl rfl) ?_
  refine RH.take 5 (by kernel_rfl) rfl rfl rfl rfl (fun w' hDr => V.ldB Try.isAgg3 rfl ((hQ.ext (x1.trans (x3.trans x4))).ext hDr) rfl) ?_
  refine RH.take 6 (by kernel_rfl) rfl rfl rfl rfl (fun w' hDr => V.gtr rfl rfl) ?_
  refine RH.take 7 (by kernel_rfl) rfl rfl rfl rfl (fun w' hDr => V.mv rfl) ?_
  refine RH.partD (t := 23) rfl (fun hp23 => ?_) (fun hp23 => ?_)
  refine RH.take 8 (by kernel_rfl) rfl rfl rfl rfl (fun w' hDr => V.mv rfl) ?_
  refine RH.take 9 (by kernel_rfl) rfl rfl rfl rfl (fun w' hDr => V.lenV Try.underlying40 rfl) ?_
  refine RH.take 10 (by kernel_rfl) rfl rfl rfl rfl (fun w' hDr => V.mv rfl) ?_
  refine RH.take 11 (by kernel_rfl) rfl rfl rfl rfl (fun w' hDr => V.lss rfl rfl) ?_
  refine RH.take 12 (by kernel_rfl) rfl rfl rfl rfl (fun w' hDr => V.pkT rfl rfl) ?_
  refine RH.done (by kernel_rfl) (fun xd4 => ?_)
  refine Rn.condD rfl (fun hc => ?_) (fun hc => ?_)
  refine Rn.reg (Rn.v rfl rfl rfl rfl (V.mv rfl) (Rn.v rfl rfl rfl rfl (V.ldBA _ Try.isAgg44 Try.sizeOf44 rfl (m3.ext x4) rfl rfl) (Rn.push z rfl rfl rfl rfl Try.underlying40 el44 rfl rfl (fun _ => rfl) ((o1.ext x3).ext x4) ⟨rfl, trivial⟩ (by first | exact ((x1.trans (x3.trans x4))).size | exact Nat.zero_le _) (by omega) (by omega) (by decide) (fun _ h => h.elim) ?_)))
  intro A5 c5 w5 u5 o5 x5 q5
  have e5 : Ext w w5 := ((x1.trans (x3.trans x4))).trans' x5 (fun x hx => .inr (by exact (((o1.ext x3).ext x4).base x hx).1))
  have hs5 := x5.size
  refine Rn.v rfl rfl rfl rfl (V.as rfl) (Rn.regEnd (Rn.inBlock (Rn.reg (Rn.v rfl rfl rfl rfl (V.addI rfl rfl (w64 (by omega) (by omega))) (Rn.v rfl rfl rfl rfl (V.mv rfl) (Rn.regEnd ?_))))))
  have hst : dueOf (l.take (k + 1)) ack win = dueOf (l.take k) ack win ++ [z] := by rw [hds]; exact if_pos ⟨hp23, hc⟩
  rw [← hst] at o5
  exact hn1 (k + 1, A5, c5) _ _ (Sub.cons (lkv _ rfl (by dsimp only; rw [hst, List.length_append]; rfl)) (Sub.cons rfl (Sub.cons (lki _ rfl (by first | omega | rfl | (dsimp only; omega))) (Sub.cons (lki _ rfl (by first | omega | rfl | (dsimp only; omega))) (Sub.cons rfl (Sub.cons rfl (Sub.cons (lki _ rfl (by first | omega | rfl | (dsimp only; omega))) (Sub.nil _)))))))) (⟨by dsimp only; omega, o5, e5⟩) (by dsimp only; omega)
  refine Rn.skip (Rn.inBlock (Rn.reg (Rn.v rfl rfl rfl rfl (V.addI rfl rfl (w64 (by omega) (by omega))) (Rn.v rfl rfl rfl rfl (V.mv rfl) (Rn.regEnd ?_)))))
  have hst : dueOf (l.take (k + 1)) ack win = dueOf (l.take k) ack win := by rw [hds]; exact if_neg (fun hh => hc hh.2)
  exact hn1 (k + 1, B, e) _ _ (Sub.cons (lkv _ rfl (by dsimp only; rw [hst])) (Sub.cons rfl (Sub.cons (lki _ rfl (by first | omega | rfl | (dsimp only; omega))) (Sub.cons (lki _ rfl (by first | omega | rfl | (dsimp only; omega))) (Sub.cons rfl (Sub.cons rfl (Sub.cons (lki _ rfl (by first | omega | rfl | (dsimp only; omega))) (Sub.nil _)))))))) (⟨by dsimp only; omega, by dsimp only; rw [hst]; exact ((o1.ext x3).ext x4), (x1.trans (x3.trans x4))⟩) (by dsimp only; omega)
  refine RH.no 8 (by kernel_rfl) rfl rfl rfl rfl ?_
  refine RH.no 9 (by kernel_rfl) rfl rfl rfl rfl ?_
  refine RH.no 10 (by kernel_rfl) rfl rfl rfl rfl ?_
  refine RH.no 11 (by kernel_rfl) rfl rfl rfl rfl ?_
  refine RH.take 12 (by kernel_rfl) rfl rfl rfl rfl (fun w' hDr => V.pkF rfl rfl) ?_
  refine RH.done (by kernel_rfl) (fun xd5 => ?_)
  refine Rn.condF rfl (Rn.skip (Rn.inBlock (Rn.reg (Rn.v rfl rfl rfl rfl (V.addI rfl rfl (w64 (by omega) (by omega))) (Rn.v rfl rfl rfl rfl (V.mv rfl) (Rn.regEnd ?_))))))
  have hst : dueOf (l.take (k + 1)) ack win = dueOf (l.take k) ack win := by rw [hds]; exact if_neg (fun hh => hp23 hh.1)
  exact hn1 (k + 1, B, e) _ _ (Sub.cons (lkv _ rfl (by dsimp only; rw [hst])) (Sub.cons rfl (Sub.cons (lki _ rfl (by first | omega | rfl | (dsimp only; omega))) (Sub.cons (lki _ rfl (by first | omega | rfl | (dsimp only; omega))) (Sub.cons rfl (Sub.cons rfl (Sub.cons (lki _ rfl (by first | omega | rfl | (dsimp only; omega))) (Sub.nil _)))))))) (⟨by dsimp only; omega, by dsimp only; rw [hst]; exact ((o1.ext x3).ext x4), (x1.trans (x3.trans x4))⟩) (by dsimp only; omega)
  refine Rn.exit rfl (Rn.seq (Rn.reg (Rn.v rfl rfl rfl rfl (V.mv rfl) (Rn.v rfl rfl rfl rfl (V.as rfl) (Rn.regEnd ?_)))))
  refine Rn.ret1 Try.func13 rfl rfl ?_
  rw [List.take_of_length_le (by omega)] at o1 ⊢
  exact ⟨B, e, rfl, o1, x1⟩

set_option maxRecDepth 20000 in
theorem open_ship_spec {b : Nat} {F : Nat → Prop} {s : PD} (w : World) (hok : s.ok 1) (h : DkAt 54 59 5 w b F s) :
    Calls Try.prog 8 #[.pointer (some ⟨b, 0, none⟩)] w fun x w' => ∃ F', ((s.openS.2.1 = none ∧ x = .returned (.tuple #[.pointer none, .int .i64 s.openS.2.2])) ∨ (∃ a q, s.openS.2.1 = some a ∧ s.openS.2.2 = 0 ∧ a ≤ 4503599627370497 ∧ x = .returned (.tuple #[.pointer (some ⟨q, 0, none⟩), .int .i64 0]) ∧ Blk w' q 70 [.pointer (some ⟨b, 0, none⟩), .int .i64 a] ∧ w.heap.size ≤ q ∧ ¬ F' q)) ∧ DkAt 54 59 5 w' b F' s.openS.1 ∧ Fr F w w' ∧ (∀ x, F' x → F x ∨ w.heap.size ≤ x) := by
  refine Rn.enter Try.func8 rfl rfl (Nat.le_of_ble_eq_true rfl) ?_
  refine Rn.seq (Rn.reg (Rn.v rfl rfl rfl rfl (V.as rfl) (Rn.v rfl rfl rfl rfl (V.as rfl) (Rn.regEnd (Rn.seq (Rn.reg (Rn.v rfl rfl rfl rfl (V.mv rfl) (Rn.cl ck22 rfl rfl rfl rfl (load_spec ackB _ (by decide) hok h) ?_))))))))
  rintro _ w1 ⟨A1, c1, F1, rfl, o1, d1, x1, hF1⟩
  have e1 : Fr F w w1 := ((Fr.refl _ _)).trans' x1 (fun x hx => by exact .inl hx)
  have hs1 := x1.size
  refine ⟨_, rfl, ?_⟩
  refine Rn.v rfl rfl rfl rfl (V.mv rfl) (Rn.v rfl rfl rfl rfl (V.ext rfl rfl) (Rn.v rfl rfl rfl rfl (V.ext rfl rfl) (Rn.v rfl rfl rfl rfl (V.ext rfl rfl) (Rn.v rfl rfl rfl rfl (V.as rfl) (Rn.v rfl rfl rfl rfl (V.as rfl) (Rn.v rfl rfl rfl rfl (V.as rfl) (Rn.regEnd (Rn.seq (Rn.seq (Rn.reg (Rn.v rfl rfl rfl rfl (V.mv rfl) (Rn.v rfl rfl rfl rfl (V.neq rfl rfl) (Rn.regEnd ?_)))))))))))))
  refine Rn.condD rfl (fun q1 => ?_) (fun q1 => ?_)
  refine Rn.seq (Rn.reg (Rn.v rfl rfl rfl rfl (V.mv rfl) (Rn.v rfl rfl rfl rfl (V.as rfl) (Rn.v rfl rfl rfl rfl (V.as rfl) (Rn.regEnd ?_)))))
  refine Rn.ret2 Try.func8 rfl rfl rfl ?_
  have hr : s.openS = ((s.load ackB).1, none, (s.load ackB).2.e) := if_pos q1
  exact ⟨F1, .inl ⟨by rw [hr], by rw [hr]; first | done | rfl⟩, by rw [hr]; exact d1, e1, hF1⟩
  refine Rn.skip (Rn.seq (Rn.seq (Rn.reg (Rn.v rfl rfl rfl rfl (V.mv rfl) (Rn.v rfl rfl rfl rfl (V.notB rfl) (Rn.regEnd ?_))))))
  refine Rn.condS rfl (fun q2 => ?_) (fun q2 => ?_)
  have q2' : (s.load ackB).2.is = false := by simpa using q2
  have hr : s.openS = ((s.load ackB).1, some 0, 0) := by unfold PD.openS; rw [if_neg q1, if_pos q2']
  refine Rn.seq (Rn.reg (Rn.v rfl rfl rfl rfl (V.mv rfl) (Rn.v rfl rfl rfl rfl (V.bldS st70 rfl rfl) (Rn.box rfl rfl rfl rfl rfl ?_))))
  intro b2 w2 hb2 m2 x2
  have hz2 : w.heap.size ≤ b2 := by have := (e1).size; omega
  have hl2 : b2 < w2.heap.size := m2.lt
  have hs2 := x2.size
  refine Rn.v rfl rfl rfl rfl (V.as rfl) (Rn.v rfl rfl rfl rfl (V.as rfl) (Rn.regEnd ?_))
  refine Rn.ret2 Try.func8 rfl rfl rfl ?_
  have hlt1 := d1.lt
  exact ⟨F1, .inr ⟨0, b2, by rw [hr], by rw [hr], by decide, rfl, m2, by omega, fun hh => by have := hlt1 _ hh; omega⟩, by rw [hr]; exact (d1.ext x2), (e1.trans (Ext.fr x2)), hF1⟩
  have q2' : ¬ (s.load ackB).2.is = false := by simpa using q2
  obtain ⟨l, hl⟩ : ∃ l, (s.load ackB).2.b = l := ⟨_, rfl⟩
  rw [hl] at o1
  rw [hl]
  have hll : l.length ≤ 4294967296 := by have := PD.load_len hok ackB; rw [hl] at this; omega
  have hlt1 := d1.lt
  obtain ⟨hfd1, hfd2⟩ := fix_done l
  have rok : (⟨l, 0, 0⟩ : RS).ok := ⟨Nat.zero_le _, hll, (by decide : 0 < 1000)⟩
  have rok2 : ((⟨l, 0, 0⟩ : RS).fix.2).ok := RS.raw_ok _ 8 rok
  refine Rn.skip (Rn.seq (Rn.reg (Rn.v rfl rfl rfl rfl (V.mv rfl) (Rn.cl ck23 rfl rfl rfl rfl (newReader_spec _ _ _ _ _ hll rfl o1.sl) ?_))))
  rintro _ w3 ⟨r3, rfl, hr3, d3, x3⟩
  have hs3 := x3.size
  refine ⟨_, rfl, ?_⟩
  refine Rn.v rfl rfl rfl rfl (V.as rfl) (Rn.regEnd (Rn.seq (Rn.reg (Rn.v rfl rfl rfl rfl (V.mv rfl) (Rn.cl ck24 rfl rfl rfl rfl (fix_spec _ _ _ rok d3) ?_)))))
  rintro _ w4 ⟨rfl, dd4, x4⟩
  have e4 : Fr F w w4 := ((e1.trans (Ext.fr x3))).trans' x4 (fun x hx => by exact .inr (by subst hx; omega))
  have hs4 := x4.size
  refine ⟨_, rfl, ?_⟩
  refine Rn.v rfl rfl rfl rfl (V.as rfl) (Rn.regEnd (Rn.seq (Rn.seq (Rn.reg (Rn.v rfl rfl rfl rfl (V.mv rfl) (Rn.cl ck25 rfl rfl rfl rfl (done_spec _ _ _ rok2 dd4) ?_))))))
  rintro _ w5 ⟨rfl, x5⟩
  have hs5 := x5.size
  refine ⟨_, rfl, ?_⟩
  refine Rn.v rfl rfl rfl rfl (V.neq rfl rfl) (Rn.v rfl rfl rfl rfl (V.mv rfl) ?_)
  refine Rn.partD (t := 30) rfl (fun q3 => ?_) (fun q3 => ?_)
  refine Rn.no rfl rfl rfl rfl (Rn.no rfl rfl rfl rfl (Rn.v rfl rfl rfl rfl (V.pkT rfl rfl) (Rn.regEnd (Rn.condT rfl (Rn.seq (Rn.reg (Rn.v rfl rfl rfl rfl (V.as rfl) (Rn.v rfl rfl rfl rfl (V.as rfl) (Rn.regEnd ?_)))))))))
  refine Rn.ret2 Try.func8 rfl rfl rfl ?_
  have hr : s.openS = ((s.load ackB).1, none, 15) := by unfold PD.openS; rw [if_neg q1, if_neg q2', hl]; exact if_pos (hfd1.1 (.inl (by omega)))
  exact ⟨F1, .inl ⟨by rw [hr], by rw [hr]; first | done | rfl⟩, by rw [hr]; exact (((d1.ext x3).fr x4 (by first | omega | (intro x hx hh; have := hlt1 x hx; omega))).ext x5), (e4.trans (Ext.fr x5)), hF1⟩
  refine Rn.v rfl rfl rfl rfl (V.mv rfl) (Rn.v rfl rfl rfl rfl (V.gtr rfl rfl) (Rn.v rfl rfl rfl rfl (V.pkF rfl rfl) (Rn.regEnd ?_)))
  refine Rn.condD rfl (fun q4 => ?_) (fun q4 => ?_)
  refine Rn.seq (Rn.reg (Rn.v rfl rfl rfl rfl (V.as rfl) (Rn.v rfl rfl rfl rfl (V.as rfl) (Rn.regEnd ?_))))
  refine Rn.ret2 Try.func8 rfl rfl rfl ?_
  have hr : s.openS = ((s.load ackB).1, none, 15) := by unfold PD.openS; rw [if_neg q1, if_neg q2', hl]; exact if_pos (hfd1.1 (.inr (by omega)))
  exact ⟨F1, .inl ⟨by rw [hr], by rw [hr]; first | done | rfl⟩, by rw [hr]; exact (((d1.ext x3).fr x4 (by first | omega | (intro x hx hh; have := hlt1 x hx; omega))).ext x5), (e4.trans (Ext.fr x5)), hF1⟩
  have hno : ¬ (l.length ≠ 8 ∨ numL l > 4503599627370497) := fun hh => (hfd1.2 hh).elim (fun h => q3 (by omega)) (fun h => q4 (by omega))
  have h8 : l.length = 8 := by omega
  have hfx := hfd2 h8
  have hnl : numL l ≤ 4503599627370497 := by omega
  rw [hfx]
  have hr : s.openS = ((s.load ackB).1, some (numL l), 0) := by unfold PD.openS; rw [if_neg q1, if_neg q2', hl]; exact if_neg hno
  refine Rn.skip (Rn.seq (Rn.reg (Rn.v rfl rfl rfl rfl (V.mv rfl) (Rn.v rfl rfl rfl rfl (V.mv rfl) (Rn.v rfl rfl rfl rfl (V.cvI Try.underlying73 Try.underlying3 rfl (w64 (by omega) (by omega))) (Rn.v rfl rfl rfl rfl (V.bldS st70 rfl rfl) (Rn.box rfl rfl rfl rfl rfl ?_)))))))
  intro b6 w6 hb6 m6 x6
  have hz6 : w.heap.size ≤ b6 := by have := ((e4.trans (Ext.fr x5))).size; omega
  have hl6 : b6 < w6.heap.size := m6.lt
  have hs6 := x6.size
  refine Rn.v rfl rfl rfl rfl (V.as rfl) (Rn.v rfl rfl rfl rfl (V.as rfl) (Rn.regEnd ?_))
  refine Rn.ret2 Try.func8 rfl rfl rfl ?_
  exact ⟨F1, .inr ⟨numL l, b6, by rw [hr], by rw [hr], hnl, rfl, m6, by omega, fun hh => by have := hlt1 _ hh; omega⟩, by rw [hr]; exact ((((d1.ext x3).fr x4 (by first | omega | (intro x hx hh; have := hlt1 x hx; omega))).ext x5).ext x6), ((e4.trans (Ext.fr x5)).trans (Ext.fr x6)), hF1⟩

set_option maxRecDepth 20000 in
theorem take_spec {b : Nat} {F : Nat → Prop} {s : PD} (q a : Nat) (have_ next : Int) (w : World) (hb : -9223372036854775808 ≤ have_ ∧ have_ ≤ 9223372036854775807) (hok : s.ok 6) (hQ : Blk w q 70 [.pointer (some ⟨b, 0, none⟩), .int .i64 a]) (hnq : ¬ F q) (h : DkAt 54 59 5 w b F s) :
    Calls Try.prog 11 #[.pointer (some ⟨q, 0, none⟩), .int .i64 have_, .int .i64 next] w fun x w' => ∃ F', x = .returned (.tuple #[.bool (s.takeS a have_ next).2.2.1, .int .i64 (s.takeS a have_ next).2.2.2]) ∧ DkAt 54 59 5 w' b F' (s.takeS a have_ next).1 ∧ Blk w' q 70 [.pointer (some ⟨b, 0, none⟩), .int .i64 (s.takeS a have_ next).2.1] ∧ ¬ F' q ∧ Fr (fun x => F x ∨ x = q) w w' ∧ (∀ x, F' x → F x ∨ w.heap.size ≤ x) := by
  have hlt := h.lt
  have hql := hQ.lt
  refine Rn.enter Try.func11 rfl rfl (Nat.le_of_ble_eq_true rfl) ?_
  refine Rn.seq (Rn.reg (Rn.v rfl rfl rfl rfl (V.as rfl) (Rn.v rfl rfl rfl rfl (V.as rfl) (Rn.regEnd (Rn.seq (Rn.seq (Rn.reg (Rn.v rfl rfl rfl rfl (V.mv rfl) (Rn.v rfl rfl rfl rfl (V.mv rfl) (Rn.v rfl rfl rfl rfl (V.nil rfl) (Rn.v rfl rfl rfl rfl (V.fa Try.underlying70 rfl Try.sizeOf3 rfl rfl) (Rn.v rfl rfl rfl rfl (V.ldB Try.isAgg3 rfl hQ rfl) (Rn.v rfl rfl rfl rfl (V.leq rfl rfl) (Rn.v rfl rfl rfl rfl (V.mv rfl) ?_))))))))))))))
  refine Rn.partD (t := 16) rfl (fun q1 => ?_) (fun q1 => ?_)
  refine Rn.no rfl rfl rfl rfl (Rn.no rfl rfl rfl rfl (Rn.no rfl rfl rfl rfl (Rn.v rfl rfl rfl rfl (V.pkT rfl rfl) (Rn.regEnd (Rn.condT rfl (Rn.seq (Rn.reg (Rn.v rfl rfl rfl rfl (V.as rfl) (Rn.v rfl rfl rfl rfl (V.as rfl) (Rn.regEnd ?_))))))))))
  refine Rn.ret2 Try.func11 rfl rfl rfl ?_
  have hr : s.takeS a have_ next = (s, a, false, 0) := if_pos (by omega)
  exact ⟨F, by rw [hr], by rw [hr]; exact h, by rw [hr]; exact hQ, hnq, Fr.refl _ _, fun x hx => .inl hx⟩
  refine Rn.v rfl rfl rfl rfl (V.mv rfl) (Rn.v rfl rfl rfl rfl (V.mv rfl) (Rn.v rfl rfl rfl rfl (V.gtr rfl rfl) (Rn.v rfl rfl rfl rfl (V.pkF rfl rfl) (Rn.regEnd ?_))))
  refine Rn.condD rfl (fun q2 => ?_) (fun q2 => ?_)
  refine Rn.seq (Rn.reg (Rn.v rfl rfl rfl rfl (V.as rfl) (Rn.v rfl rfl rfl rfl (V.as rfl) (Rn.regEnd ?_))))
  refine Rn.ret2 Try.func11 rfl rfl rfl ?_
  have hr : s.takeS a have_ next = (s, a, false, 0) := if_pos (by omega)
  exact ⟨F, by rw [hr], by rw [hr]; exact h, by rw [hr]; exact hQ, hnq, Fr.refl _ _, fun x hx => .inl hx⟩
  have hno : ¬ (have_ ≤ (a : Int) ∨ have_ > next) := by omega
  refine Rn.skip (Rn.seq (Rn.reg (Rn.cl ck28 rfl rfl rfl rfl (newWriter_spec _) ?_)))
  rintro _ w1 ⟨b1, rfl, hb1, d1, x1⟩
  have hs1 := x1.size
  refine ⟨_, rfl, ?_⟩
  refine Rn.v rfl rfl rfl rfl (V.as rfl) (Rn.regEnd (Rn.seq (Rn.reg (Rn.v rfl rfl rfl rfl (V.mv rfl) (Rn.v rfl rfl rfl rfl (V.mv rfl) (Rn.v rfl rfl rfl rfl (V.to (V.cvI Try.underlying3 Try.underlying73 rfl (wu64 (by omega) (by omega))) (show _ = I64 (UInt64.ofNat have_.toNat) by simp only [I64, UInt64.toNat_ofNat']; congr 1; omega)) (Rn.cl ck29 rfl rfl rfl rfl (wfix_spec _ _ [] _ _ (by simp) d1) ?_)))))))
  rintro _ w2 ⟨rfl, F2, d2, x2, hF2⟩
  have e2 : Fr (fun x => F x ∨ x = q) w w2 := (((Fr.refl (fun x => F x ∨ x = q) _).trans (Ext.fr x1))).trans' x2 (fun x hx => by first | exact .inr (by subst hx; omega) | exact .inl (.inl hx) | exact .inl (.inr hx))
  have hs2 := x2.size
  refine ⟨_, rfl, ?_⟩
  refine Rn.regEnd (Rn.seq (Rn.seq ?_))
  refine Rn.drawS (fun w1 w' => Fr F w1 w') rfl (fun _ => Fr.refl _ _) ?_
  intro w3 x3
  have hs3 := x3.size
  refine RH.take 0 (by kernel_rfl) rfl rfl rfl rfl (fun w' hDr => V.mv rfl) ?_
  refine RH.take 1 (by kernel_rfl) rfl rfl rfl rfl (fun w' hDr => V.nil rfl) ?_
  refine RH.take 2 (by kernel_rfl) rfl rfl rfl rfl (fun w' hDr => V.fa Try.underlying70 rfl Try.sizeOf27 rfl rfl) ?_
  refine RH.take 3 (by kernel_rfl) rfl rfl rfl rfl (fun w' hDr => V.ldB Try.isAgg27 rfl ((((hQ.ext x1).fr x2 (by first | omega | exact hnq | (intro x hx hh; have := hlt x hx; omega))).ext x3).fr hDr (by first | exact hnq | omega)) rfl) ?_
  refine RH.take 4 (by kernel_rfl) rfl rfl rfl rfl (fun w' hDr => V.mv rfl) ?_
  refine RH.cl ck31 5 (by kernel_rfl) rfl rfl rfl rfl (wbytes_spec _ _ _ _ (by simp) (d2.ext x3)) ?_
  rintro _ w4 ⟨A4, c4, rfl, o4, x4⟩
  have hs4 := x4.size
  refine ⟨_, rfl, ((Fr.refl F _).trans (Ext.fr x4)), ?_⟩
  refine RH.cl ck30 6 (by kernel_rfl) rfl rfl rfl rfl (save_spec ackB _ _ _ (fix8 (UInt64.ofNat have_.toNat)) _ (by decide) (by simp) rfl hok o4.sl ((((h.ext x1).fr x2 (by first | omega | exact hnq | (intro x hx hh; have := hlt x hx; omega))).ext x3).ext x4)) ?_
  rintro _ w5 ⟨F5, rfl, d5, x5, hF5⟩
  have e5 : Fr (fun x => F x ∨ x = q) w w5 := (((e2.trans (Ext.fr x3)).trans (Ext.fr x4))).trans' x5 (fun x hx => by first | exact .inr (by subst hx; omega) | exact .inl (.inl hx) | exact .inl (.inr hx))
  have hs5 := x5.size
  refine ⟨_, rfl, (((Fr.refl F _).trans (Ext.fr x4)).trans (x5.mono (fun y hy => by first | exact .inl hy | exact .inr hy | exact hy))), ?_⟩
  refine RH.take 7 (by kernel_rfl) rfl rfl rfl rfl (fun w' hDr => V.as rfl) ?_
  refine RH.done (by kernel_rfl) (fun xd5 => ?_)
  have hnq' : ¬ F5 q := fun hh => by rcases hF5 q hh with h3 | h3; exact hnq h3; omega
  have gF : ∀ x, F5 x → F x ∨ w.heap.size ≤ x := fun x hx => (hF5 x hx).imp id fun hh => by omega
  refine Rn.seq (Rn.reg (Rn.v rfl rfl rfl rfl (V.mv rfl) (Rn.v rfl rfl rfl rfl (V.neq rfl rfl) (Rn.regEnd ?_))))
  refine Rn.condD rfl (fun q5 => ?_) (fun q5 => ?_)
  refine Rn.seq (Rn.reg (Rn.v rfl rfl rfl rfl (V.mv rfl) (Rn.v rfl rfl rfl rfl (V.as rfl) (Rn.v rfl rfl rfl rfl (V.as rfl) (Rn.regEnd ?_)))))
  refine Rn.ret2 Try.func11 rfl rfl rfl ?_
  have hr : s.takeS a have_ next = ((s.save ackB (fix8 (UInt64.ofNat have_.toNat))).1, a, false, (s.save ackB (fix8 (UInt64.ofNat have_.toNat))).2) := by unfold PD.takeS; rw [if_neg hno]; exact if_pos q5
  exact ⟨F5, by rw [hr], by rw [hr]; exact d5, by rw [hr]; exact (((((hQ.ext x1).fr x2 (by first | omega | exact hnq | (intro x hx hh; have := hlt x hx; omega))).ext x3).ext x4).fr x5 (by first | omega | exact hnq | (intro x hx hh; have := hlt x hx; omega))), hnq', e5, gF⟩
  have hr : s.takeS a have_ next = ((s.save ackB (fix8 (UInt64.ofNat have_.toNat))).1, have_.toNat, true, 0) := by unfold PD.takeS; rw [if_neg hno]; exact if_neg q5
  have hz : have_ = ((have_.toNat : Nat) : Int) := by omega
  refine Rn.skip (Rn.seq (Rn.reg (Rn.v rfl rfl rfl rfl (V.mv rfl) (Rn.v rfl rfl rfl rfl (V.mv rfl) (Rn.v rfl rfl rfl rfl (V.nil rfl) (Rn.v rfl rfl rfl rfl (V.fa Try.underlying70 rfl Try.sizeOf3 rfl rfl) (Rn.st rfl rfl Try.sizeOf3 rfl rfl rfl rfl (by first | exact ones rfl | (simp [Value.oneCell']; done)) (((((hQ.ext x1).fr x2 (by first | omega | exact hnq | (intro x hx hh; have := hlt x hx; omega))).ext x3).ext x4).fr x5 (by first | omega | exact hnq | (intro x hx hh; have := hlt x hx; omega))) (by first | exact Nat.le_of_ble_eq_true rfl | (simp; done)) ?_)))))))
  intro w6 m6 x6
  have e6 : Fr (fun x => F x ∨ x = q) w w6 := (e5).trans' x6 (fun x hx => by first | exact .inr (by subst hx; omega) | exact .inl (.inl hx) | exact .inl (.inr hx))
  have hs6 := x6.size
  refine Rn.regEnd (Rn.seq (Rn.reg (Rn.v rfl rfl rfl rfl (V.as rfl) (Rn.v rfl rfl rfl rfl (V.as rfl) (Rn.regEnd ?_)))))
  refine Rn.ret2 Try.func11 rfl rfl rfl ?_
  exact ⟨F5, by rw [hr], by rw [hr]; exact (d5.fr x6 (by first | omega | exact hnq | (intro x hx hh; subst hh; exact hnq' hx) | (intro x hx hh; have := hlt x hx; omega))), by rw [hr]; show Blk _ _ _ [_, .int .i64 ((have_.toNat : Nat) : Int)]; rw [← hz]; exact m6, hnq', e6, gF⟩

end Go.Proofs.Ytpeloppldpdonaa
