/-
  Walks of functions of the program, group C7: what each call answers, and what stays of the memory.
-/
import Derived.Test.YtpeloppldpdonaaC6
namespace Go.Proofs.Ytpeloppldpdonaa
open Go Go.RowKit Go.Wk
theorem st54 : StOk Try.prog 54 [.map none, .int .i64 0, .bool false, .int .i64 0, .int .i64 0, .int .i64 0, .int .i64 0, .int .i64 0] [(0, 1), (1, 1), (2, 1), (3, 1), (4, 2), (6, 2)] := ⟨Try.zeroValue54, _, Try.underlying54, fun w => by kernel_rfl⟩
set_option maxRecDepth 20000 in
theorem dnew_spec {D : Nat → Prop} (A : Option Addr) (c m : Nat) (files : List AFile) (cap : Int) (w : World) (hl : files.length ≤ 4294967296) (hm : files.length = m) (hS : Sl D w A afileR files) :
    Calls Try.prog 6 #[.slice A m c, .int .i64 cap] w fun x w' => ((x = .returned (.pointer none) ∧ newD files cap = none) ∨ (∃ s b F, newD files cap = some s ∧ x = .returned (.pointer (some ⟨b, 0, none⟩)) ∧ DkAt 54 59 5 w' b F s ∧ (∀ x, F x → w.heap.size ≤ x))) ∧ Ext w w' := by
  subst hm
  refine Rn.enter Try.func6 rfl rfl (Nat.le_of_ble_eq_true rfl) ?_
  refine Rn.seq (Rn.reg (Rn.v rfl rfl rfl rfl (V.as rfl) (Rn.regEnd (Rn.seq (Rn.seq (Rn.reg (Rn.v rfl rfl rfl rfl (V.mv rfl) (Rn.v rfl rfl rfl rfl (V.lss rfl rfl) (Rn.v rfl rfl rfl rfl (V.mv rfl) ?_)))))))))
  refine Rn.partD (t := 11) rfl (fun h1 => ?_) (fun h1 => ?_)
  refine Rn.no rfl rfl rfl rfl (Rn.no rfl rfl rfl rfl (Rn.v rfl rfl rfl rfl (V.pkT rfl rfl) (Rn.v rfl rfl rfl rfl (V.mv rfl) (Rn.no rfl rfl rfl rfl (Rn.no rfl rfl rfl rfl (Rn.no rfl rfl rfl rfl (Rn.v rfl rfl rfl rfl (V.pkT rfl rfl) (Rn.regEnd (Rn.condT rfl (Rn.seq (Rn.reg (Rn.v rfl rfl rfl rfl (V.as rfl) (Rn.regEnd ?_)))))))))))))
  refine Rn.ret1 Try.func6 rfl rfl ?_
  exact ⟨.inl ⟨rfl, if_pos (by omega)⟩, Ext.refl _⟩
  refine Rn.v rfl rfl rfl rfl (V.mv rfl) (Rn.v rfl rfl rfl rfl (V.gtr rfl rfl) (Rn.v rfl rfl rfl rfl (V.pkF rfl rfl) (Rn.v rfl rfl rfl rfl (V.mv rfl) ?_)))
  refine Rn.partD (t := 15) rfl (fun h2 => ?_) (fun h2 => ?_)
  refine Rn.no rfl rfl rfl rfl (Rn.no rfl rfl rfl rfl (Rn.no rfl rfl rfl rfl (Rn.v rfl rfl rfl rfl (V.pkT rfl rfl) (Rn.regEnd (Rn.condT rfl (Rn.seq (Rn.reg (Rn.v rfl rfl rfl rfl (V.as rfl) (Rn.regEnd ?_)))))))))
  refine Rn.ret1 Try.func6 rfl rfl ?_
  exact ⟨.inl ⟨rfl, if_pos (by omega)⟩, Ext.refl _⟩
  refine Rn.v rfl rfl rfl rfl (V.mv rfl) (Rn.v rfl rfl rfl rfl (V.lenV Try.underlying26 rfl) (Rn.v rfl rfl rfl rfl (V.gtr rfl rfl) (Rn.v rfl rfl rfl rfl (V.pkF rfl rfl) (Rn.regEnd ?_))))
  refine Rn.condD rfl (fun h3 => ?_) (fun h3 => ?_)
  refine Rn.seq (Rn.reg (Rn.v rfl rfl rfl rfl (V.as rfl) (Rn.regEnd ?_)))
  refine Rn.ret1 Try.func6 rfl rfl ?_
  exact ⟨.inl ⟨rfl, if_pos (by omega)⟩, Ext.refl _⟩
  obtain ⟨cn, rfl⟩ : ∃ cn : Nat, cap = cn := ⟨cap.toNat, by omega⟩
  have hnd : newD files cn = (addAll cn files [] 0).map fun l => PD.fresh l cn := by unfold newD; rw [if_neg (by omega), Int.toNat_natCast]
  refine Rn.skip (Rn.seq (Rn.reg (Rn.mkM rfl rfl rfl ?_)))
  intro b1 w1 hb1 m1 x1
  have hz1 : w.heap.size ≤ b1 := by omega
  have hl1 : b1 < w1.heap.size := m1.lt
  have hs1 := x1.size
  refine Rn.v rfl rfl rfl rfl (V.mv rfl) (Rn.v rfl rfl rfl rfl (V.bldS st54 rfl rfl) (Rn.box rfl rfl rfl rfl rfl ?_))
  intro b2 w2 hb2 m2 x2
  have hz2 : w.heap.size ≤ b2 := by have := (x1).size; omega
  have hl2 : b2 < w2.heap.size := m2.lt
  have hs2 := x2.size
  refine Rn.v rfl rfl rfl rfl (V.as rfl) (Rn.regEnd (Rn.seq (Rn.reg (Rn.v rfl rfl rfl rfl (V.as rfl) (Rn.regEnd (Rn.seq (Rn.seq (Rn.reg (Rn.v rfl rfl rfl rfl (V.mv rfl) (Rn.v rfl rfl rfl rfl (V.lenV Try.underlying26 rfl) (Rn.v rfl rfl rfl rfl (V.mv rfl) (Rn.regEnd (Rn.block ?_)))))))))))))
  have d0 : DkAt 54 59 5 w2 b2 (fun x => x = b2 ∨ x = b1) (PD.fresh [] cn) := ⟨b1, [], 0, [], ⟨m2, m1.ext x2, trivial, by simp; omega, by simp, by simp, by simp, fun x hx => by simpa using hx, fun x hx => by have := m2.lt; have := m1.lt; rcases hx with rfl | rfl <;> omega⟩⟩
  refine Rn.loopI (G := (Nat × Fl × Nat)) (fun g => [(5, .pointer (some ⟨b2, 0, none⟩)), (6, .int .i64 (g.2.2)), (24, .slice A files.length c), (25, .int .i64 files.length), (26, .int .i64 (g.1)), (0, .slice A files.length c), (1, .int .i64 cn)]) (fun g w' => (g.1) ≤ files.length ∧ (g.2.2) ≤ cn ∧ addAll cn (files.drop (g.1)) (g.2.1) (g.2.2) = addAll cn files [] 0 ∧ (∃ F, DkAt 54 59 5 w' b2 F (PD.fresh (g.2.1) cn) ∧ (∀ x, F x → w.heap.size ≤ x)) ∧ Ext w w') (fun g => files.length - (g.1)) (0, [], 0) ?_ ?_ ?_
  · exact Sub.cons rfl (Sub.cons (lki _ rfl (by first | omega | rfl | (dsimp only; omega))) (Sub.cons rfl (Sub.cons (lki _ rfl (by first | omega | rfl | (dsimp only; omega))) (Sub.cons (lki _ rfl (by first | omega | rfl | (dsimp only; omega))) (Sub.cons rfl (Sub.cons (lki _ rfl (by first | omega | rfl | (dsimp only; omega))) (Sub.nil _)))))))
  · exact ⟨by simp, by simp, rfl, ⟨_, d0, fun x hx => by rcases hx with rfl | rfl <;> omega⟩, (x1.trans x2)⟩
  rintro ⟨i, l, u⟩ w3 ⟨hi, hu, hadd, ⟨F3, ⟨mb3, ms3, ck3, bss3, d3⟩, hF3⟩, x3⟩ hn3
  show Rn _ _ _ _ _ [(5, .pointer (some ⟨b2, 0, none⟩)), (6, .int .i64 u), (24, .slice A files.length c), (25, .int .i64 files.length), (26, .int .i64 i), (0, .slice A files.length c), (1, .int .i64 cn)] _
  have hs3 := x3.size
  dsimp only at hi hu hadd d3
  refine Rn.seq (Rn.reg (Rn.v rfl rfl rfl rfl (V.lss rfl rfl) (Rn.regEnd (Rn.seq ?_))))
  refine Rn.condD rfl (fun hlt => ?_) (fun hlt => ?_)
  obtain ⟨z, hz⟩ : ∃ z, files[i]? = some z := ⟨_, List.getElem?_eq_getElem (by omega)⟩
  have hdr := drop_of_get hz
  rw [hdr] at hadd
  have hB := d3.blk
  have hM := d3.map
  obtain ⟨pv, hp1, hp2, hp3⟩ := d3.ptr z.1
  refine Rn.skip (Rn.seq (Rn.block (Rn.seq (Rn.reg (Rn.ix i z rfl rfl rfl Try.underlying26 Try.sizeOf25 rfl rfl (hS.ext x3) rfl hz rfl (by omega) ?_)))))
  rintro b4 o4 vs4 r4 ⟨_, _, rfl, ⟨rfl, _⟩, Ad, cd, rfl, hld, hcd, sd⟩ hD4
  refine Rn.v rfl rfl rfl rfl (V.ldA Try.isAgg25 Try.sizeOf25 rfl r4 rfl) (Rn.als rfl rfl rfl Try.zeroValue25 rfl Try.sizeOf25 rfl rfl rfl rfl (by first | exact ones rfl | (simp [Value.oneCell']; done)) ?_)
  intro b5 w5 hb5 m5 x5
  have hz5 : w.heap.size ≤ b5 := by have := (x3).size; omega
  have hl5 : b5 < w5.heap.size := m5.lt
  have hs5 := x5.size
  refine Rn.regEnd (Rn.seq (Rn.seq ?_))
  refine Rn.drawE rfl ?_
  intro w6 x6
  have hs6 := x6.size
  refine RH.take 0 (by kernel_rfl) rfl rfl rfl rfl (fun w' hDr => V.fa Try.underlying25 rfl Try.sizeOf9 rfl rfl) ?_
  refine RH.take 1 (by kernel_rfl) rfl rfl rfl rfl (fun w' hDr => V.ldB Try.isAgg9 rfl ((m5.ext x6).ext hDr) rfl) ?_
  refine RH.cl ck16 2 (by kernel_rfl) rfl rfl rfl rfl (isName_spec _ _) ?_
  rintro _ w7 ⟨rfl, x7⟩
  have hs7 := x7.size
  refine ⟨_, rfl, x7, ?_⟩
  refine RH.take 3 (by kernel_rfl) rfl rfl rfl rfl (fun w' hDr => V.notB rfl) ?_
  refine RH.take 4 (by kernel_rfl) rfl rfl rfl rfl (fun w' hDr => V.mv rfl) ?_
  refine RH.part (t := 34) rfl (fun hp34 => ?_) (fun hp34 => ?_)
  refine RH.no 5 (by kernel_rfl) rfl rfl rfl rfl ?_
  refine RH.no 6 (by kernel_rfl) rfl rfl rfl rfl ?_
  refine RH.no 7 (by kernel_rfl) rfl rfl rfl rfl ?_
  refine RH.no 8 (by kernel_rfl) rfl rfl rfl rfl ?_
  refine RH.no 9 (by kernel_rfl) rfl rfl rfl rfl ?_
  refine RH.no 10 (by kernel_rfl) rfl rfl rfl rfl ?_
  refine RH.no 11 (by kernel_rfl) rfl rfl rfl rfl ?_
  refine RH.no 12 (by kernel_rfl) rfl rfl rfl rfl ?_
  refine RH.take 13 (by kernel_rfl) rfl rfl rfl rfl (fun w' hDr => V.pkT rfl rfl) ?_
  refine RH.take 14 (by kernel_rfl) rfl rfl rfl rfl (fun w' hDr => V.mv rfl) ?_
  refine RH.no 15 (by kernel_rfl) rfl rfl rfl rfl ?_
  refine RH.no 16 (by kernel_rfl) rfl rfl rfl rfl ?_
  refine RH.no 17 (by kernel_rfl) rfl rfl rfl rfl ?_
  refine RH.no 18 (by kernel_rfl) rfl rfl rfl rfl ?_
  refine RH.no 19 (by kernel_rfl) rfl rfl rfl rfl ?_
  refine RH.no 20 (by kernel_rfl) rfl rfl rfl rfl ?_
  refine RH.no 21 (by kernel_rfl) rfl rfl rfl rfl ?_
  refine RH.take 22 (by kernel_rfl) rfl rfl rfl rfl (fun w' hDr => V.pkT rfl rfl) ?_
  refine RH.done (by kernel_rfl) (fun xd7 => ?_)
  refine Rn.condT rfl (Rn.seq (Rn.reg (Rn.v rfl rfl rfl rfl (V.as rfl) (Rn.regEnd ?_))))
  refine Rn.ret1 Try.func6 rfl rfl ?_
  exact ⟨.inl ⟨rfl, by rw [hnd, ← hadd, addAll_none (.inl (by simpa using hp34))]; rfl⟩, (x3.trans (x5.trans (x6.trans x7)))⟩
  refine RH.take 5 (by kernel_rfl) rfl rfl rfl rfl (fun w' hDr => V.mv rfl) ?_
  refine RH.take 6 (by kernel_rfl) rfl rfl rfl rfl (fun w' hDr => V.nil rfl) ?_
  refine RH.take 7 (by kernel_rfl) rfl rfl rfl rfl (fun w' hDr => V.fa Try.underlying54 rfl Try.sizeOf50 rfl rfl) ?_
  refine RH.take 8 (by kernel_rfl) rfl rfl rfl rfl (fun w' hDr => V.ldB Try.isAgg50 rfl (((hB.ext x5).ext x6).ext hDr) rfl) ?_
  refine RH.take 9 (by kernel_rfl) rfl rfl rfl rfl (fun w' hDr => V.fa Try.underlying25 rfl Try.sizeOf9 rfl rfl) ?_
  refine RH.take 10 (by kernel_rfl) rfl rfl rfl rfl (fun w' hDr => V.ldB Try.isAgg9 rfl ((m5.ext x6).ext hDr) rfl) ?_
  refine RH.take 11 (by kernel_rfl) rfl rfl rfl rfl (fun w' hDr => V.to (V.lkp Try.underlying50 Try.underlying9 Try.zeroValue56 rfl rfl (((hM.ext x5).ext x6).ext hDr)) hp1) ?_
  refine RH.take 12 (by kernel_rfl) rfl rfl rfl rfl (fun w' hDr => V.neqP Try.underlying56 rfl rfl) ?_
  refine RH.take 13 (by kernel_rfl) rfl rfl rfl rfl (fun w' hDr => V.pkF rfl rfl) ?_
  refine RH.take 14 (by kernel_rfl) rfl rfl rfl rfl (fun w' hDr => V.mv rfl) ?_
  refine RH.part (t := 44) rfl (fun hp44 => ?_) (fun hp44 => ?_)
  refine RH.no 15 (by kernel_rfl) rfl rfl rfl rfl ?_
  refine RH.no 16 (by kernel_rfl) rfl rfl rfl rfl ?_
  refine RH.no 17 (by kernel_rfl) rfl rfl rfl rfl ?_
  refine RH.no 18 (by kernel_rfl) rfl rfl rfl rfl ?_
  refine RH.no 19 (by kernel_rfl) rfl rfl rfl rfl ?_
  refine RH.no 20 (by kernel_rfl) rfl rfl rfl rfl ?_
  refine RH.no 21 (by kernel_rfl) rfl rfl rfl rfl ?_
  refine RH.take 22 (by kernel_rfl) rfl rfl rfl rfl (fun w' hDr => V.pkT rfl rfl) ?_
  refine RH.done (by kernel_rfl) (fun xd7 => ?_)
  refine Rn.condT rfl (Rn.seq (Rn.reg (Rn.v rfl rfl rfl rfl (V.as rfl) (Rn.regEnd ?_))))
  refine Rn.ret1 Try.func6 rfl rfl ?_
  exact ⟨.inl ⟨rfl, by rw [hnd, ← hadd, addAll_none (.inr (.inl (by obtain ⟨_, ff, _, _, hff⟩ := hp3 (by cases pv with | none => simp at hp44 | some a => rfl); have hff' : findF z.1 l = some ff := hff; rw [hff']; rfl)))]; rfl⟩, (x3.trans (x5.trans (x6.trans x7)))⟩
  refine RH.take 15 (by kernel_rfl) rfl rfl rfl rfl (fun w' hDr => V.fa Try.underlying25 rfl Try.sizeOf22 rfl rfl) ?_
  refine RH.take 16 (by kernel_rfl) rfl rfl rfl rfl (fun w' hDr => V.ldB Try.isAgg22 rfl ((m5.ext x6).ext hDr) rfl) ?_
  refine RH.take 17 (by kernel_rfl) rfl rfl rfl rfl (fun w' hDr => V.lenV Try.underlying22 rfl) ?_
  refine RH.take 18 (by kernel_rfl) rfl rfl rfl rfl (fun w' hDr => V.mv rfl) ?_
  refine RH.take 19 (by kernel_rfl) rfl rfl rfl rfl (fun w' hDr => V.mv rfl) ?_
  refine RH.take 20 (by kernel_rfl) rfl rfl rfl rfl (fun w' hDr => V.subI rfl rfl (w64 (by omega) (by omega))) ?_
  refine RH.take 21 (by kernel_rfl) rfl rfl rfl rfl (fun w' hDr => V.gtr rfl rfl) ?_
  refine RH.take 22 (by kernel_rfl) rfl rfl rfl rfl (fun w' hDr => V.pkF rfl rfl) ?_
  refine RH.done (by kernel_rfl) (fun xd7 => ?_)
  refine Rn.condD rfl (fun q3 => ?_) (fun q3 => ?_)
  refine Rn.seq (Rn.reg (Rn.v rfl rfl rfl rfl (V.as rfl) (Rn.regEnd ?_)))
  refine Rn.ret1 Try.func6 rfl rfl ?_
  exact ⟨.inl ⟨rfl, by rw [hnd, ← hadd, addAll_none (.inr (.inr (by omega)))]; rfl⟩, (x3.trans (x5.trans (x6.trans x7)))⟩
  have hfn := (hp2 (by cases pv with | none => rfl | some a => simp at hp44)).2
  have hlk := (hp2 (by cases pv with | none => rfl | some a => simp at hp44)).1
  have hfn' : findF z.1 l = none := hfn
  have hnm : isNm z.1 = true := by simpa using hp34
  rw [addAll_step (by rw [hfn', hnm]; simp; omega)] at hadd
  refine Rn.skip (Rn.seq (Rn.reg (Rn.v rfl rfl rfl rfl (V.mv rfl) (Rn.v rfl rfl rfl rfl (V.fa Try.underlying25 rfl Try.sizeOf22 rfl rfl) (Rn.v rfl rfl rfl rfl (V.ldB Try.isAgg22 rfl ((m5.ext x6).ext x7) rfl) (Rn.v rfl rfl rfl rfl (V.lenV Try.underlying22 rfl) (Rn.v rfl rfl rfl rfl (V.addI rfl rfl (w64 (by omega) (by omega))) (Rn.v rfl rfl rfl rfl (V.as rfl) (Rn.regEnd ?_)))))))))
  have d9 := (((d3.ext x5).ext x6).ext x7)
  have hbm := d9.ne.1
  have hlt9 := d9.lt
  have hsub9 := d9.sub
  have hF9 := hsub9 mb3 (by simp)
  have hmw9 := hF3 _ hF9
  have hlm9 := hlt9 _ hF9
  have hlb9 := hlt9 _ (hsub9 b2 (by simp))
  have hlm3 := d3.lt _ (d3.sub mb3 (by simp))
  refine Rn.drawS (fun w1 w' => Fr (fun x => x = mb3) w1 w') rfl (fun _ => Fr.refl _ _) ?_
  intro w8 x8
  have hs8 := x8.size
  refine RH.take 0 (by kernel_rfl) rfl rfl rfl rfl (fun w' hDr => V.mv rfl) ?_
  refine RH.take 1 (by kernel_rfl) rfl rfl rfl rfl (fun w' hDr => V.nil rfl) ?_
  refine RH.take 2 (by kernel_rfl) rfl rfl rfl rfl (fun w' hDr => V.fa Try.underlying54 rfl Try.sizeOf50 rfl rfl) ?_
  refine RH.take 3 (by kernel_rfl) rfl rfl rfl rfl (fun w' hDr => V.ldB Try.isAgg50 rfl (((((hB.ext x5).ext x6).ext x7).ext x8).fr hDr (by first | exact hbm | omega)) rfl) ?_
  refine RH.take 4 (by kernel_rfl) rfl rfl rfl rfl (fun w' hDr => V.fa Try.underlying25 rfl Try.sizeOf9 rfl rfl) ?_
  refine RH.take 5 (by kernel_rfl) rfl rfl rfl rfl (fun w' hDr => V.ldB Try.isAgg9 rfl ((((m5.ext x6).ext x7).ext x8).fr hDr (by first | exact hbm | omega)) rfl) ?_
  refine RH.take 6 (by kernel_rfl) rfl rfl rfl rfl (fun w' hDr => V.fa Try.underlying25 rfl Try.sizeOf22 rfl rfl) ?_
  refine RH.take 7 (by kernel_rfl) rfl rfl rfl rfl (fun w' hDr => V.ldB Try.isAgg22 rfl ((((m5.ext x6).ext x7).ext x8).fr hDr (by first | exact hbm | omega)) rfl) ?_
  refine RH.take 9 (by kernel_rfl) rfl rfl rfl rfl (fun w' hDr => V.fa Try.underlying25 rfl Try.sizeOf22 rfl rfl) ?_
  refine RH.take 10 (by kernel_rfl) rfl rfl rfl rfl (fun w' hDr => V.ldB Try.isAgg22 rfl ((((m5.ext x6).ext x7).ext x8).fr hDr (by first | exact hbm | omega)) rfl) ?_
  refine RH.take 11 (by kernel_rfl) rfl rfl rfl rfl (fun w' hDr => V.lenV Try.underlying22 rfl) ?_
  refine RH.cl ck17 8 (by kernel_rfl) rfl rfl rfl rfl (clone_spec _ _ _ _ (by omega) ((((sd.ext x5).ext x6).ext x7).ext x8)) ?_
  rintro _ w9 ⟨A9, c9, rfl, o9, x9⟩
  have hs9 := x9.size
  refine ⟨_, rfl, ((Fr.refl (fun x => x = mb3) _).trans (Ext.fr x9)), ?_⟩
  refine RH.take 12 (by kernel_rfl) rfl rfl rfl rfl (fun w' hDr => V.bldS st59 rfl rfl) ?_
  refine RH.box 13 (by kernel_rfl) rfl rfl rfl rfl rfl ?_
  intro b10 w10 hb10 m10 x10
  have hz10 : w.heap.size ≤ b10 := by have := ((x3.trans (x5.trans (x6.trans (x7.trans (x8.trans x9)))))).size; omega
  have hl10 : b10 < w10.heap.size := m10.lt
  have hs10 := x10.size
  refine ⟨(((Fr.refl (fun x => x = mb3) _).trans (Ext.fr x9)).trans (Ext.fr x10)), ?_⟩
  refine RH.mu 14 (by kernel_rfl) rfl rfl Try.underlying50 Try.underlying9 rfl rfl rfl ((((((hM.ext x5).ext x6).ext x7).ext x8).ext x9).ext x10) ?_
  intro k11 w11 m11 x11 hk11
  have e11 : Ext w w11 := ((x3.trans (x5.trans (x6.trans (x7.trans (x8.trans (x9.trans x10))))))).trans' x11 (fun x hx => .inr (by subst hx; omega))
  have hs11 := x11.size
  refine ⟨((((Fr.refl (fun x => x = mb3) _).trans (Ext.fr x9)).trans (Ext.fr x10)).trans (x11.mono (fun y hy => by first | exact .inl hy | exact .inr hy | exact hy))), ?_⟩
  refine RH.done (by kernel_rfl) (fun xd11 => ?_)
  refine Rn.inBlock (Rn.reg (Rn.v rfl rfl rfl rfl (V.addI rfl rfl (w64 (by omega) (by omega))) (Rn.v rfl rfl rfl rfl (V.mv rfl) (Rn.regEnd ?_))))
  have hob := o9.base
  have hbl := m10.lt
  have hge : ∀ x ∈ b10 :: obL A9, w7.heap.size ≤ x ∧ x < w11.heap.size := fun x hx => by
    rcases List.mem_cons.1 hx with rfl | hx
    · exact ⟨by omega, by omega⟩
    · have := hob x (mem_obL.1 hx); exact ⟨by omega, by omega⟩
  obtain ⟨bss', hd⟩ := d9.put (name := z.1) (f := ⟨z.2, z.2.length⟩) (bs := b10 :: obL A9) (((((Fr.refl (fun x => x = mb3) _).trans (Ext.fr x8)).trans (Ext.fr x9)).trans (Ext.fr x10)).trans (x11.mono (fun y hy => by first | exact .inl hy | exact .inr hy | exact hy))) (fun x _ hx => hx) m11 hk11 ⟨b10, A9, c9, rfl, m10.fr x11 (fun hh => by omega), ((o9.ext x10).fr x11 (fun _ hh => hh.elim) (fun x hx hh => by have := hob x hx; omega)).lower (Nat.zero_le _), rfl⟩ (nodup_cons_obL fun hh => by have := hob _ hh; omega) (fun x hx => ⟨fun hh => by have := (hge x hx).1; omega, fun hh => by have := (hge x hx).1; omega, fun hh => by have := (hge x hx).1; have := hlt9 _ (hsub9 _ (List.mem_cons_of_mem _ (List.mem_cons_of_mem _ hh))); omega, (hge x hx).2⟩) rfl
  exact hn3 (i + 1, putF z.1 ⟨z.2, z.2.length⟩ l, u + z.2.length) _ _ (Sub.cons rfl (Sub.cons (lki _ rfl (by first | omega | rfl | (dsimp only; omega))) (Sub.cons rfl (Sub.cons (lki _ rfl (by first | omega | rfl | (dsimp only; omega))) (Sub.cons (lki _ rfl (by first | omega | rfl | (dsimp only; omega))) (Sub.cons rfl (Sub.cons (lki _ rfl (by first | omega | rfl | (dsimp only; omega))) (Sub.nil _)))))))) (⟨by dsimp only; omega, by dsimp only; omega, hadd, ⟨_, ⟨_, _, _, _, hd⟩, fun x hx => by rcases hx with hh | hh; exact hF3 x hh; have := (hge x hh).1; omega⟩, e11⟩) (by dsimp only; omega)
  refine Rn.exit rfl (Rn.seq (Rn.reg (Rn.v rfl rfl rfl rfl (V.mv rfl) (Rn.v rfl rfl rfl rfl (V.as rfl) (Rn.regEnd ?_)))))
  refine Rn.ret1 Try.func6 rfl rfl ?_
  rw [List.drop_of_length_le (by omega)] at hadd
  exact ⟨.inr ⟨_, _, _, by rw [hnd, ← hadd]; rfl, rfl, ⟨_, _, _, _, d3⟩, hF3⟩, x3⟩

end Go.Proofs.Ytpeloppldpdonaa
