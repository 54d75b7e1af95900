/-
  Walks of functions of the program, group B1: what each call answers, and what stays of the memory.
-/
import Derived.Test.YtpeloppldpdonaaA8
namespace Go.Proofs.Ytpeloppldpdonaa
open Go Go.RowKit Go.Wk
theorem ck39 : CallOk Try.prog 39 := ⟨_, _, Try.func39, rfl, by kernel_rfl⟩
theorem ck52 : CallOk Try.prog 52 := ⟨_, _, Try.func52, rfl, by kernel_rfl⟩
theorem st95 : StOk Try.prog 95 [.slice none 0 0, .int .i64 0, .int .i64 0] [(0, 1), (1, 1), (2, 1)] := ⟨Try.zeroValue95, _, Try.underlying95, fun w => by kernel_rfl⟩
/-- A reader lies in a block; its bytes elsewhere. -/
def RdrAt (w : World) (r : Nat) (s : RS) : Prop := ∃ A c, Blk w r 95 [.slice A s.l.length c, .int .i64 s.p, .int .i64 s.e] ∧ Sl (fun b => b ≠ r) w A byteR s.l ∧ s.l.length ≤ c
theorem RdrAt.fr {S : Nat → Prop} {w w' : World} {r : Nat} {s : RS} (h : RdrAt w r s) (hf : Fr S w w') (hn : ∀ b, b < w.heap.size → ¬ S b) : RdrAt w' r s := by
  obtain ⟨A, c, h1, h2, h3⟩ := h
  exact ⟨A, c, h1.fr hf (hn r h1.lt), (h2.bd.fr hf fun b hb => hn b hb.2).mono fun b hb => hb.1, h3⟩
theorem RdrAt.ext {w w' : World} {r : Nat} {s : RS} (h : RdrAt w r s) (hf : Ext w w') : RdrAt w' r s := h.fr hf fun _ _ hh => hh

set_option maxRecDepth 20000 in
theorem newReader_spec {D : Nat → Prop} (A : Option Addr) (c m : Nat) (l : List UInt8) (w : World) (hl : l.length ≤ 4294967296) (hm : l.length = m) (hS : Sl D w A byteR l) :
    Calls Try.prog 23 #[.slice A m c] w fun x w' => ∃ r, x = .returned (.pointer (some ⟨r, 0, none⟩)) ∧ w.heap.size ≤ r ∧ RdrAt w' r ⟨l, 0, 0⟩ ∧ Ext w w' := by
  subst hm
  refine Rn.enter Try.func23 rfl rfl (Nat.le_of_ble_eq_true rfl) ?_
  refine Rn.seq (Rn.reg (Rn.v rfl rfl rfl rfl (V.as rfl) (Rn.regEnd (Rn.seq (Rn.reg (Rn.v rfl rfl rfl rfl (V.mv rfl) (Rn.cl ck17 rfl rfl rfl rfl (clone_spec _ _ _ _ hl hS) ?_)))))))
  rintro _ w1 ⟨A1, c1, rfl, o1, x1⟩
  have hs1 := x1.size
  refine ⟨_, rfl, ?_⟩
  refine Rn.v rfl rfl rfl rfl (V.bldS st95 rfl rfl) (Rn.box rfl rfl rfl rfl rfl ?_)
  intro b2 w2 hb2 m2 x2
  have hz2 : w.heap.size ≤ b2 := by have := (x1).size; omega
  have hl2 : b2 < w2.heap.size := m2.lt
  have hs2 := x2.size
  refine Rn.v rfl rfl rfl rfl (V.as rfl) (Rn.regEnd ?_)
  refine Rn.ret1 Try.func23 rfl rfl ?_
  exact ⟨_, rfl, by omega, ⟨A1, c1, m2, (o1.sl.ext x2).mono (fun b hb => by rcases hb with hb | hb; exact hb.elim; have := o1.base b hb; omega), o1.le.1⟩, (x1.trans x2)⟩

set_option maxRecDepth 20000 in
theorem fail_spec (r : Nat) (s : RS) (e : Nat) (w : World) (he : e < 1000) (h : RdrAt w r s) :
    Calls Try.prog 52 #[.pointer (some ⟨r, 0, none⟩), .int .i64 e] w fun x w' => x = .returned (.tuple #[]) ∧ RdrAt w' r (s.fail e) ∧ Fr (fun b => b = r) w w' := by
  obtain ⟨A, c, hB, hS, hc⟩ := h
  refine Rn.enter Try.func52 rfl rfl (Nat.le_of_ble_eq_true rfl) ?_
  refine Rn.seq (Rn.reg (Rn.v rfl rfl rfl rfl (V.mv rfl) (Rn.v rfl rfl rfl rfl (V.nil rfl) (Rn.v rfl rfl rfl rfl (V.fa Try.underlying95 rfl Try.sizeOf32 rfl rfl) (Rn.v rfl rfl rfl rfl (V.ldB Try.isAgg32 rfl hB rfl) (Rn.v rfl rfl rfl rfl (V.eql rfl rfl) (Rn.regEnd ?_)))))))
  refine Rn.condD rfl (fun h1 => ?_) (fun h1 => ?_)
  refine Rn.reg (Rn.v rfl rfl rfl rfl (V.mv rfl) (Rn.v rfl rfl rfl rfl (V.mv rfl) (Rn.v rfl rfl rfl rfl (V.nil rfl) (Rn.v rfl rfl rfl rfl (V.fa Try.underlying95 rfl Try.sizeOf32 rfl rfl) (Rn.st rfl rfl Try.sizeOf32 rfl rfl rfl rfl (by first | exact ones rfl | (simp [Value.oneCell']; done)) hB (by first | exact Nat.le_of_ble_eq_true rfl | (simp; done)) ?_)))))
  intro w1 m1 x1
  have e1 : Fr (fun b => b = r) w w1 := ((Fr.refl _ _)).trans' x1 (fun x hx => by first | exact .inl hx | exact .inr (by subst hx; omega))
  refine Rn.regEnd ?_
  refine Rn.end0 Try.func52 rfl ?_
  have hf : s.fail e = { s with e := e } := if_pos (by omega)
  rw [hf]
  exact ⟨rfl, ⟨A, c, m1, hS.fr e1 (fun b hb => hb), hc⟩, e1⟩
  refine Rn.skip ?_
  refine Rn.end0 Try.func52 rfl ?_
  have hf : s.fail e = s := if_neg (by omega)
  rw [hf]
  exact ⟨rfl, ⟨A, c, hB, hS, hc⟩, (Fr.refl _ _)⟩

set_option maxRecDepth 20000 in
theorem left_spec (r : Nat) (s : RS) (w : World) (hs : s.ok) (h : RdrAt w r s) :
    Calls Try.prog 39 #[.pointer (some ⟨r, 0, none⟩)] w fun x w' => x = .returned (.int .i64 ((s.l.length - s.p : Nat) : Int)) ∧ Ext w w' := by
  obtain ⟨A, c, hB, hS, hc⟩ := h
  obtain ⟨h1, h2, h3⟩ := hs
  refine Rn.enter Try.func39 rfl rfl (Nat.le_of_ble_eq_true rfl) ?_
  refine Rn.seq (Rn.reg (Rn.v rfl rfl rfl rfl (V.as rfl) (Rn.regEnd (Rn.seq ?_))))
  refine Rn.drawE rfl ?_
  intro w1 x1
  refine RH.take 0 (by kernel_rfl) rfl rfl rfl rfl (fun w' hDr => V.mv rfl) ?_
  refine RH.take 1 (by kernel_rfl) rfl rfl rfl rfl (fun w' hDr => V.nil rfl) ?_
  refine RH.take 2 (by kernel_rfl) rfl rfl rfl rfl (fun w' hDr => V.fa Try.underlying95 rfl Try.sizeOf22 rfl rfl) ?_
  refine RH.take 3 (by kernel_rfl) rfl rfl rfl rfl (fun w' hDr => V.ldB Try.isAgg22 rfl ((hB.ext x1).ext hDr) rfl) ?_
  refine RH.take 4 (by kernel_rfl) rfl rfl rfl rfl (fun w' hDr => V.lenV Try.underlying22 rfl) ?_
  refine RH.take 5 (by kernel_rfl) rfl rfl rfl rfl (fun w' hDr => V.mv rfl) ?_
  refine RH.take 6 (by kernel_rfl) rfl rfl rfl rfl (fun w' hDr => V.nil rfl) ?_
  refine RH.take 7 (by kernel_rfl) rfl rfl rfl rfl (fun w' hDr => V.fa Try.underlying95 rfl Try.sizeOf3 rfl rfl) ?_
  refine RH.take 8 (by kernel_rfl) rfl rfl rfl rfl (fun w' hDr => V.ldB Try.isAgg3 rfl ((hB.ext x1).ext hDr) rfl) ?_
  refine RH.take 9 (by kernel_rfl) rfl rfl rfl rfl (fun w' hDr => V.to (V.subI rfl rfl (w64 (by omega) (by omega))) (show _ = Value.int .i64 ((s.l.length - s.p : Nat) : Int) by congr 1; omega)) ?_
  refine RH.take 10 (by kernel_rfl) rfl rfl rfl rfl (fun w' hDr => V.as rfl) ?_
  refine RH.done (by kernel_rfl) (fun xd1 => ?_)
  refine Rn.ret1 Try.func39 rfl rfl ?_
  exact ⟨rfl, x1⟩

set_option maxRecDepth 20000 in
theorem raw_spec (r : Nat) (s : RS) (n : Int) (w : World) (hs : s.ok) (hn : -4294967296 ≤ n ∧ n ≤ 4294967296) (h : RdrAt w r s) :
    Calls Try.prog 38 #[.pointer (some ⟨r, 0, none⟩), .int .i64 n] w fun x w' => ∃ A c, x = .returned (.slice A (s.raw n).1.length c) ∧ Own w.heap.size No w' 5 A c byteR (s.raw n).1 ∧ RdrAt w' r (s.raw n).2 ∧ Fr (fun b => b = r) w w' := by
  have hD := h
  obtain ⟨A, c, hB, hS, hc⟩ := h
  have hs' := hs
  obtain ⟨h1, h2, h3⟩ := hs
  refine Rn.enter Try.func38 rfl rfl (Nat.le_of_ble_eq_true rfl) ?_
  refine Rn.seq (Rn.reg (Rn.v rfl rfl rfl rfl (V.as rfl) (Rn.regEnd (Rn.seq (Rn.block (Rn.seq (Rn.reg (Rn.v rfl rfl rfl rfl (V.mv rfl) (Rn.v rfl rfl rfl rfl (V.nil rfl) (Rn.v rfl rfl rfl rfl (V.fa Try.underlying95 rfl Try.sizeOf32 rfl rfl) (Rn.v rfl rfl rfl rfl (V.ldB Try.isAgg32 rfl hB rfl) (Rn.v rfl rfl rfl rfl (V.neq rfl rfl) (Rn.v rfl rfl rfl rfl (V.as rfl) (Rn.regEnd ?_))))))))))))))
  refine Rn.condD rfl (fun e1 => ?_) (fun e1 => ?_)
  refine Rn.seq (Rn.reg (Rn.v rfl rfl rfl rfl (V.as rfl) (Rn.regEnd ?_)))
  refine Rn.ret1 Try.func38 rfl rfl ?_
  have hf : s.raw n = ([], s) := if_pos (by omega)
  exact ⟨none, 0, by rw [hf]; rfl, by rw [hf]; exact Own.nil _ _ _ _ _, by rw [hf]; exact hD, (Fr.refl _ _)⟩
  refine Rn.seq (Rn.reg (Rn.v rfl rfl rfl rfl (V.mv rfl) (Rn.v rfl rfl rfl rfl (V.lss rfl rfl) (Rn.v rfl rfl rfl rfl (V.as rfl) (Rn.regEnd ?_)))))
  refine Rn.condD rfl (fun e2 => ?_) (fun e2 => ?_)
  refine Rn.seq (Rn.reg (Rn.v rfl rfl rfl rfl (V.mv rfl) (Rn.cl ck52 rfl rfl rfl rfl (fail_spec r s 1 _ (by omega) hD) ?_)))
  rintro _ w1 ⟨rfl, d1, x1⟩
  have e1 : Fr (fun b => b = r) w w1 := ((Fr.refl _ _)).trans' x1 (fun x hx => by first | exact .inl hx | exact .inr (by subst hx; omega))
  refine ⟨_, rfl, ?_⟩
  refine Rn.regEnd (Rn.seq (Rn.reg (Rn.v rfl rfl rfl rfl (V.as rfl) (Rn.regEnd ?_))))
  refine Rn.ret1 Try.func38 rfl rfl ?_
  have hf : s.raw n = ([], s.fail 1) := by unfold RS.raw; rw [if_neg (by omega), if_pos (by omega)]
  exact ⟨none, 0, by rw [hf]; rfl, by rw [hf]; exact Own.nil _ _ _ _ _, by rw [hf]; exact d1, e1⟩
  refine Rn.seq (Rn.reg (Rn.v rfl rfl rfl rfl (V.mv rfl) (Rn.v rfl rfl rfl rfl (V.mv rfl) (Rn.cl ck39 rfl rfl rfl rfl (left_spec r s _ hs' hD) ?_))))
  rintro _ w2 ⟨rfl, x2⟩
  refine ⟨_, rfl, ?_⟩
  refine Rn.v rfl rfl rfl rfl (V.gtr rfl rfl) (Rn.v rfl rfl rfl rfl (V.as rfl) (Rn.regEnd ?_))
  refine Rn.condD rfl (fun e3 => ?_) (fun e3 => ?_)
  refine Rn.seq (Rn.reg (Rn.v rfl rfl rfl rfl (V.mv rfl) (Rn.cl ck52 rfl rfl rfl rfl (fail_spec r s 2 _ (by omega) (hD.ext x2)) ?_)))
  rintro _ w3 ⟨rfl, d3, x3⟩
  have e3 : Fr (fun b => b = r) w w3 := (((Fr.refl (fun b => b = r) _).trans (Ext.fr x2))).trans' x3 (fun x hx => by first | exact .inl hx | exact .inr (by subst hx; omega))
  refine ⟨_, rfl, ?_⟩
  refine Rn.regEnd (Rn.seq (Rn.reg (Rn.v rfl rfl rfl rfl (V.as rfl) (Rn.regEnd ?_))))
  refine Rn.ret1 Try.func38 rfl rfl ?_
  have hf : s.raw n = ([], s.fail 2) := by unfold RS.raw; rw [if_neg (by omega), if_neg (by omega), if_pos (by omega)]
  exact ⟨none, 0, by rw [hf]; rfl, by rw [hf]; exact Own.nil _ _ _ _ _, by rw [hf]; exact d3, e3⟩
  refine Rn.skip (Rn.inBlock (Rn.seq (Rn.reg (Rn.v rfl rfl rfl rfl (V.mv rfl) (Rn.v rfl rfl rfl rfl (V.nil rfl) (Rn.v rfl rfl rfl rfl (V.fa Try.underlying95 rfl Try.sizeOf3 rfl rfl) (Rn.v rfl rfl rfl rfl (V.ldB Try.isAgg3 rfl (hB.ext x2) rfl) (Rn.v rfl rfl rfl rfl (V.mv rfl) (Rn.v rfl rfl rfl rfl (V.addI rfl rfl (w64 (by omega) (by omega))) (Rn.v rfl rfl rfl rfl (V.nil rfl) (Rn.v rfl rfl rfl rfl (V.fa Try.underlying95 rfl Try.sizeOf3 rfl rfl) (Rn.st rfl rfl Try.sizeOf3 rfl rfl rfl rfl (by first | exact ones rfl | (simp [Value.oneCell']; done)) (hB.ext x2) (by first | exact Nat.le_of_ble_eq_true rfl | (simp; done)) ?_))))))))))))
  intro w4 m4 x4
  have e4 : Fr (fun b => b = r) w w4 := (((Fr.refl (fun b => b = r) _).trans (Ext.fr x2))).trans' x4 (fun x hx => by first | exact .inl hx | exact .inr (by subst hx; omega))
  refine Rn.regEnd (Rn.seq ?_)
  have hf : s.raw n = ((s.l.take (s.p + n.toNat)).drop s.p, { s with p := s.p + n.toNat }) := by unfold RS.raw; rw [if_neg (by omega), if_neg (by omega), if_neg (by omega)]
  refine Rn.drawE rfl ?_
  intro w5 x5
  refine RH.take 0 (by kernel_rfl) rfl rfl rfl rfl (fun w' hDr => V.mv rfl) ?_
  refine RH.take 1 (by kernel_rfl) rfl rfl rfl rfl (fun w' hDr => V.nil rfl) ?_
  refine RH.take 2 (by kernel_rfl) rfl rfl rfl rfl (fun w' hDr => V.fa Try.underlying95 rfl Try.sizeOf22 rfl rfl) ?_
  refine RH.take 3 (by kernel_rfl) rfl rfl rfl rfl (fun w' hDr => V.ldB Try.isAgg22 rfl ((m4.ext x5).ext hDr) rfl) ?_
  refine RH.take 4 (by kernel_rfl) rfl rfl rfl rfl (fun w' hDr => V.mv rfl) ?_
  refine RH.take 5 (by kernel_rfl) rfl rfl rfl rfl (fun w' hDr => V.nil rfl) ?_
  refine RH.take 6 (by kernel_rfl) rfl rfl rfl rfl (fun w' hDr => V.fa Try.underlying95 rfl Try.sizeOf3 rfl rfl) ?_
  refine RH.take 7 (by kernel_rfl) rfl rfl rfl rfl (fun w' hDr => V.ldB Try.isAgg3 rfl ((m4.ext x5).ext hDr) rfl) ?_
  refine RH.take 8 (by kernel_rfl) rfl rfl rfl rfl (fun w' hDr => V.mv rfl) ?_
  refine RH.take 9 (by kernel_rfl) rfl rfl rfl rfl (fun w' hDr => V.to (V.subI rfl rfl (w64 (by omega) (by omega))) (show _ = Value.int .i64 s.p by congr 1; omega)) ?_
  refine RH.take 10 (by kernel_rfl) rfl rfl rfl rfl (fun w' hDr => V.mv rfl) ?_
  refine RH.take 11 (by kernel_rfl) rfl rfl rfl rfl (fun w' hDr => V.nil rfl) ?_
  refine RH.take 12 (by kernel_rfl) rfl rfl rfl rfl (fun w' hDr => V.fa Try.underlying95 rfl Try.sizeOf3 rfl rfl) ?_
  refine RH.take 13 (by kernel_rfl) rfl rfl rfl rfl (fun w' hDr => V.ldB Try.isAgg3 rfl ((m4.ext x5).ext hDr) rfl) ?_
  have s6 := ((hS.fr (e4.trans (Ext.fr x5)) (fun b hb => hb))).cut (c := c) s.p (s.p + n.toNat) (by omega) (by omega)
  refine RH.take 14 (by kernel_rfl) rfl rfl rfl rfl (fun w' hDr => V.cutV s.p (s.p + n.toNat) Try.underlying22 Try.sizeOf5 rfl ⟨_, rfl, rfl⟩ ⟨_, rfl, by omega⟩ (by omega) (by omega)) ?_
  refine RH.sayL (t := 45) (List.drop s.p (List.take (s.p + n.toNat) s.l)).length rfl (by rw [List.length_drop, List.length_take]; omega) ?_
  refine RH.cl ck17 15 (by kernel_rfl) rfl rfl rfl rfl (clone_spec _ _ _ _ (by simp; omega) s6) ?_
  rintro _ w7 ⟨A7, c7, rfl, o7, x7⟩
  refine ⟨_, rfl, x7, ?_⟩
  refine RH.take 16 (by kernel_rfl) rfl rfl rfl rfl (fun w' hDr => V.as rfl) ?_
  refine RH.done (by kernel_rfl) (fun xd7 => ?_)
  refine Rn.ret1 Try.func38 rfl rfl ?_
  have hz : ((s.p + n.toNat : Nat) : Int) = (s.p : Int) + n := by omega
  exact ⟨A7, c7, by rw [hf], by rw [hf]; exact o7.lower ((e4.trans (Ext.fr x5))).size, by rw [hf]; exact ⟨A, c, by show Blk _ _ _ [_, .int .i64 ((s.p + n.toNat : Nat) : Int), _]; rw [hz]; exact ((m4.ext x5).ext x7), hS.fr ((e4.trans (Ext.fr x5)).trans (Ext.fr x7)) (fun b hb => hb), hc⟩, ((e4.trans (Ext.fr x5)).trans (Ext.fr x7))⟩

end Go.Proofs.Ytpeloppldpdonaa
