/-
  Walks of functions of the program, group F1: what each call answers, and what stays of the memory.
-/
import Derived.Test.YtpeloppldpdonaaE1
namespace Go.Proofs.Ytpeloppldpdonaa
open Go Go.RowKit Go.Wk

set_option maxRecDepth 20000 in
theorem dueR_spec {D : Nat → Prop} (ack win : Int) (A : Option Addr) (c m : Nat) (l : List Span) (w : World) (hl : l.length ≤ 1000000) (hm : l.length = m) (hS : Sl D w A spanR l) :
    Calls Try.prog 14 #[.slice A m c, .int .i64 ack, .int .i64 win] w fun x w' => ∃ A' c', x = .returned (.slice A' (dueOf l ack win).length c') ∧ Own w.heap.size No w' 44 A' c' spanR (dueOf l ack win) ∧ Ext w w' := by
  subst hm
  refine Rn.enter Try.func14 rfl rfl (Nat.le_of_ble_eq_true rfl) ?_
  refine Rn.seq (Rn.reg (Rn.v rfl rfl rfl rfl (V.as rfl) (Rn.regEnd (Rn.seq (Rn.reg (Rn.v rfl rfl rfl rfl (V.as rfl) (Rn.regEnd (Rn.seq (Rn.seq (Rn.reg (Rn.v rfl rfl rfl rfl (V.as rfl) (Rn.regEnd (Rn.block ?_)))))))))))))
  refine Rn.loopI (G := (Nat × Option Addr × Nat)) (fun g => [(7, .slice (g.2.1) (dueOf (l.take (g.1)) ack win).length (g.2.2)), (8, .int .i64 (g.1)), (0, .slice A l.length c), (1, .int .i64 ack), (2, .int .i64 win)]) (fun g w' => (g.1) ≤ l.length ∧ Own w.heap.size No w' 44 (g.2.1) (g.2.2) spanR (dueOf (l.take (g.1)) ack win) ∧ Ext w w') (fun g => l.length - (g.1)) (0, none, 0) ?_ ?_ ?_
  · exact Sub.cons rfl (Sub.cons (lki _ rfl (by first | omega | rfl | (dsimp only; omega))) (Sub.cons rfl (Sub.cons (lki _ rfl (by first | omega | rfl | (dsimp only; omega))) (Sub.cons (lki _ rfl (by first | omega | rfl | (dsimp only; omega))) (Sub.nil _)))))
  · exact ⟨by simp, Own.nil _ _ _ _ _, Ext.refl _⟩
  rintro ⟨k, B, e⟩ w1 ⟨hk, o1, x1⟩ hn1
  show Rn _ _ _ _ _ [(7, .slice B (dueOf (l.take k) ack win).length e), (8, .int .i64 k), (0, .slice A l.length c), (1, .int .i64 ack), (2, .int .i64 win)] _
  have hs1 := x1.size
  dsimp only at hk o1
  have hdl := dueOf_len l ack win k
  refine Rn.seq (Rn.seq (Rn.reg (Rn.v rfl rfl rfl rfl (V.mv rfl) (Rn.v rfl rfl rfl rfl (V.mv rfl) (Rn.v rfl rfl rfl rfl (V.lenV Try.underlying40 rfl) (Rn.v rfl rfl rfl rfl (V.lss rfl rfl) (Rn.regEnd ?_)))))))
  refine Rn.condD rfl (fun hlt => ?_) (fun hlt => ?_)
  obtain ⟨z, hz⟩ : ∃ z, l[k]? = some z := ⟨_, List.getElem?_eq_getElem (by omega)⟩
  have hds := dueOf_succ l ack win k z hz
  refine Rn.skip (Rn.seq (Rn.block (Rn.seq (Rn.reg (Rn.v rfl rfl rfl rfl (V.mv rfl) (Rn.v rfl rfl rfl rfl (V.mv rfl) (Rn.ix k z rfl rfl rfl Try.underlying40 Try.sizeOf44 rfl rfl (hS.ext x1) rfl hz rfl (by omega) ?_)))))))
  rintro b2 o2 vs2 r2 ⟨rfl, _⟩ hD2
  refine Rn.v rfl rfl rfl rfl (V.fa Try.underlying44 rfl Try.sizeOf3 rfl rfl) (Rn.v rfl rfl rfl rfl (V.ldR Try.isAgg3 rfl r2 rfl) (Rn.v rfl rfl rfl rfl (V.mv rfl) (Rn.v rfl rfl rfl rfl (V.gtr rfl rfl) (Rn.v rfl rfl rfl rfl (V.mv rfl) ?_))))
  refine Rn.partD (t := 22) rfl (fun h1 => ?_) (fun h1 => ?_)
  refine Rn.v rfl rfl rfl rfl (V.mv rfl) (Rn.v rfl rfl rfl rfl (V.lenV Try.underlying40 rfl) (Rn.v rfl rfl rfl rfl (V.mv rfl) (Rn.v rfl rfl rfl rfl (V.lss rfl rfl) (Rn.v rfl rfl rfl rfl (V.pkT rfl rfl) (Rn.regEnd ?_)))))
  refine Rn.condD rfl (fun hc => ?_) (fun hc => ?_)
  refine Rn.reg (Rn.v rfl rfl rfl rfl (V.mv rfl) (Rn.v rfl rfl rfl rfl (V.mv rfl) (Rn.v rfl rfl rfl rfl (V.mv rfl) (Rn.ix k z rfl rfl rfl Try.underlying40 Try.sizeOf44 rfl rfl (hS.ext x1) rfl hz rfl (by omega) ?_))))
  rintro b3 o3 vs3 r3 ⟨rfl, _⟩ hD3
  refine Rn.v rfl rfl rfl rfl (V.ldA Try.isAgg44 Try.sizeOf44 rfl r3 rfl) (Rn.push z rfl rfl rfl rfl Try.underlying40 el44 rfl rfl (fun _ => rfl) o1 ⟨rfl, trivial⟩ (by first | exact (x1).size | exact Nat.zero_le _) (by omega) (by omega) (by decide) (fun _ h => h.elim) ?_)
  intro A4 c4 w4 u4 o4 x4 q4
  have e4 : Ext w w4 := (x1).trans' x4 (fun x hx => .inr (by exact (o1.base x hx).1))
  have hs4 := x4.size
  refine Rn.v rfl rfl rfl rfl (V.as rfl) (Rn.regEnd (Rn.inBlock (Rn.reg (Rn.v rfl rfl rfl rfl (V.mv rfl) (Rn.v rfl rfl rfl rfl (V.addI rfl rfl (w64 (by omega) (by omega))) (Rn.v rfl rfl rfl rfl (V.as rfl) (Rn.regEnd ?_)))))))
  have hst : dueOf (l.take (k + 1)) ack win = dueOf (l.take k) ack win ++ [z] := by rw [hds]; exact if_pos ⟨h1, hc⟩
  rw [← hst] at o4
  exact hn1 (k + 1, A4, c4) _ _ (Sub.cons (lkv _ rfl (by dsimp only; rw [hst, List.length_append]; rfl)) (Sub.cons (lki _ rfl (by first | omega | rfl | (dsimp only; omega))) (Sub.cons rfl (Sub.cons (lki _ rfl (by first | omega | rfl | (dsimp only; omega))) (Sub.cons (lki _ rfl (by first | omega | rfl | (dsimp only; omega))) (Sub.nil _)))))) (⟨by dsimp only; omega, o4, e4⟩) (by dsimp only; omega)
  refine Rn.skip (Rn.inBlock (Rn.reg (Rn.v rfl rfl rfl rfl (V.mv rfl) (Rn.v rfl rfl rfl rfl (V.addI rfl rfl (w64 (by omega) (by omega))) (Rn.v rfl rfl rfl rfl (V.as rfl) (Rn.regEnd ?_))))))
  have hst : dueOf (l.take (k + 1)) ack win = dueOf (l.take k) ack win := by rw [hds]; exact if_neg (fun hh => hc hh.2)
  exact hn1 (k + 1, B, e) _ _ (Sub.cons (lkv _ rfl (by dsimp only; rw [hst])) (Sub.cons (lki _ rfl (by first | omega | rfl | (dsimp only; omega))) (Sub.cons rfl (Sub.cons (lki _ rfl (by first | omega | rfl | (dsimp only; omega))) (Sub.cons (lki _ rfl (by first | omega | rfl | (dsimp only; omega))) (Sub.nil _)))))) (⟨by dsimp only; omega, by dsimp only; rw [hst]; exact o1, x1⟩) (by dsimp only; omega)
  refine Rn.no rfl rfl rfl rfl (Rn.no rfl rfl rfl rfl (Rn.no rfl rfl rfl rfl (Rn.no rfl rfl rfl rfl (Rn.v rfl rfl rfl rfl (V.pkF rfl rfl) (Rn.regEnd (Rn.condF rfl (Rn.skip (Rn.inBlock (Rn.reg (Rn.v rfl rfl rfl rfl (V.mv rfl) (Rn.v rfl rfl rfl rfl (V.addI rfl rfl (w64 (by omega) (by omega))) (Rn.v rfl rfl rfl rfl (V.as rfl) (Rn.regEnd ?_)))))))))))))
  have hst : dueOf (l.take (k + 1)) ack win = dueOf (l.take k) ack win := by rw [hds]; exact if_neg (fun hh => h1 hh.1)
  exact hn1 (k + 1, B, e) _ _ (Sub.cons (lkv _ rfl (by dsimp only; rw [hst])) (Sub.cons (lki _ rfl (by first | omega | rfl | (dsimp only; omega))) (Sub.cons rfl (Sub.cons (lki _ rfl (by first | omega | rfl | (dsimp only; omega))) (Sub.cons (lki _ rfl (by first | omega | rfl | (dsimp only; omega))) (Sub.nil _)))))) (⟨by dsimp only; omega, by dsimp only; rw [hst]; exact o1, x1⟩) (by dsimp only; omega)
  refine Rn.exit rfl (Rn.seq (Rn.reg (Rn.v rfl rfl rfl rfl (V.mv rfl) (Rn.v rfl rfl rfl rfl (V.as rfl) (Rn.regEnd ?_)))))
  refine Rn.ret1 Try.func14 rfl rfl ?_
  rw [List.take_of_length_le (by omega)] at o1 ⊢
  exact ⟨B, e, rfl, o1, x1⟩

theorem span_eq (a b : Int) (w : World) : (Op.equalIn 10000 44 (.agg #[.int .i64 a, .int .i64 b]) (.agg #[.int .i64 a, .int .i64 b])).run Try.prog w = .ok true w := by
  have hf : Try.prog.underlying 44 = some (.struct (Try.prog.fieldsOf 44)) := by kernel_rfl
  rw [run_equalIn_struct w 9999 44 _ _ hf Try.stoodInHeld44]
  have hu := Try.underlying44
  rw [hf] at hu
  have hfs := TypeDesc.struct.inj (Option.some.inj hu)
  rw [hfs]
  have h3 : ∀ a : Int, (Op.equalIn 9999 3 (.int .i64 a) (.int .i64 a)).run Try.prog w = .ok true w := fun a => by
    have := run_equalIn_int (P := Try.prog) w 9998 3 .i64 .i64 a a Try.underlying3
    simpa using this
  simp [Op.eqFields, part, Try.isAgg3, h3]
set_option maxRecDepth 20000 in
theorem same_spec {D D' : Nat → Prop} (A : Option Addr) (c m : Nat) (l : List Span) (A' : Option Addr) (c' m' : Nat) (w : World) (hl : l.length ≤ 1000000) (hm : l.length = m) (hm' : l.length = m') (hS : Sl D w A spanR l) (hS' : Sl D' w A' spanR l) :
    Calls Try.prog 12 #[.slice A m c, .slice A' m' c'] w fun x w' => x = .returned (.bool true) ∧ Ext w w' := by
  subst hm hm'
  refine Rn.enter Try.func12 rfl rfl (Nat.le_of_ble_eq_true rfl) ?_
  refine Rn.seq (Rn.reg (Rn.v rfl rfl rfl rfl (V.as rfl) (Rn.regEnd (Rn.seq (Rn.seq (Rn.reg (Rn.v rfl rfl rfl rfl (V.mv rfl) (Rn.v rfl rfl rfl rfl (V.lenV Try.underlying40 rfl) (Rn.v rfl rfl rfl rfl (V.mv rfl) (Rn.v rfl rfl rfl rfl (V.lenV Try.underlying40 rfl) (Rn.v rfl rfl rfl rfl (V.neq rfl rfl) (Rn.regEnd ?_))))))))))))
  refine Rn.condD rfl (fun h1 => ?_) (fun h1 => ?_)
  exact absurd rfl h1
  refine Rn.skip (Rn.seq (Rn.seq (Rn.reg (Rn.v rfl rfl rfl rfl (V.as rfl) (Rn.regEnd (Rn.block ?_))))))
  refine Rn.loopI (G := Nat) (fun g => [(5, .int .i64 g), (0, .slice A l.length c), (1, .slice A' l.length c')]) (fun g w' => g ≤ l.length ∧ Ext w w') (fun g => l.length - g) 0 ?_ ?_ ?_
  · exact Sub.cons (lki _ rfl (by first | omega | rfl | (dsimp only; omega))) (Sub.cons rfl (Sub.cons rfl (Sub.nil _)))
  · exact ⟨by omega, Ext.refl _⟩
  rintro k w1 ⟨hk, x1⟩ hn1
  refine Rn.seq (Rn.seq (Rn.reg (Rn.v rfl rfl rfl rfl (V.mv rfl) (Rn.v rfl rfl rfl rfl (V.mv rfl) (Rn.v rfl rfl rfl rfl (V.lenV Try.underlying40 rfl) (Rn.v rfl rfl rfl rfl (V.lss rfl rfl) (Rn.regEnd ?_)))))))
  refine Rn.condD rfl (fun hlt => ?_) (fun hlt => ?_)
  obtain ⟨z, hz⟩ : ∃ z, l[k]? = some z := ⟨_, List.getElem?_eq_getElem (by omega)⟩
  obtain ⟨b, o, rfl, hb⟩ := hS.where_ (fun hh => by rw [hh] at hz; simp at hz)
  obtain ⟨b', o', rfl, hb'⟩ := hS'.where_ (fun hh => by rw [hh] at hz; simp at hz)
  obtain ⟨_, hr, rfl, _⟩ := hb k z hz
  obtain ⟨_, hr', rfl, _⟩ := hb' k z hz
  refine Rn.skip (Rn.seq (Rn.block (Rn.seq ?_)))
  refine Rn.drawE rfl ?_
  intro w2 x2
  refine RH.take 0 (by kernel_rfl) rfl rfl rfl rfl (fun w' hDr => V.mv rfl) ?_
  refine RH.take 1 (by kernel_rfl) rfl rfl rfl rfl (fun w' hDr => V.mv rfl) ?_
  refine RH.take 2 (by kernel_rfl) rfl rfl rfl rfl (fun w' hDr => V.ixA k Try.underlying40 Try.sizeOf44 rfl rfl rfl (by omega)) ?_
  refine RH.take 3 (by kernel_rfl) rfl rfl rfl rfl (fun w' hDr => V.ldA Try.isAgg44 Try.sizeOf44 rfl ((hr.ext (x1.trans x2)).ext hDr) rfl) ?_
  refine RH.take 4 (by kernel_rfl) rfl rfl rfl rfl (fun w' hDr => V.mv rfl) ?_
  refine RH.take 5 (by kernel_rfl) rfl rfl rfl rfl (fun w' hDr => V.mv rfl) ?_
  refine RH.take 6 (by kernel_rfl) rfl rfl rfl rfl (fun w' hDr => V.ixA k Try.underlying40 Try.sizeOf44 rfl rfl rfl (by omega)) ?_
  refine RH.take 7 (by kernel_rfl) rfl rfl rfl rfl (fun w' hDr => V.ldA Try.isAgg44 Try.sizeOf44 rfl ((hr'.ext (x1.trans x2)).ext hDr) rfl) ?_
  refine RH.take 8 (by kernel_rfl) rfl rfl rfl rfl (fun w' hDr => V.neqA Try.eqGuardType44 rfl rfl (span_eq z.1 z.2)) ?_
  refine RH.done (by kernel_rfl) (fun xd2 => ?_)
  refine Rn.condS rfl (fun h2 => ?_) (fun h2 => ?_)
  cases h2
  refine Rn.skip (Rn.inBlock (Rn.reg (Rn.v rfl rfl rfl rfl (V.mv rfl) (Rn.v rfl rfl rfl rfl (V.addI rfl rfl (w64 (by omega) (by omega))) (Rn.v rfl rfl rfl rfl (V.as rfl) (Rn.regEnd ?_))))))
  exact hn1 (k+1) _ _ (Sub.cons (lki _ rfl (by first | omega | rfl | (dsimp only; omega))) (Sub.cons rfl (Sub.cons rfl (Sub.nil _)))) (⟨by omega, (x1.trans x2)⟩) (by omega)
  refine Rn.exit rfl (Rn.seq (Rn.reg (Rn.v rfl rfl rfl rfl (V.as rfl) (Rn.regEnd ?_))))
  refine Rn.ret1 Try.func12 rfl rfl ?_
  exact ⟨rfl, x1⟩

end Go.Proofs.Ytpeloppldpdonaa
