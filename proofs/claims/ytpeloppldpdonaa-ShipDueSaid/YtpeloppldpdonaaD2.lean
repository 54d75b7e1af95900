/-
  Walks of functions of the program, group D2: what each call answers, and what stays of the memory.
-/
import Derived.Test.YtpeloppldpdonaaD1
namespace Go.Proofs.Ytpeloppldpdonaa
open Go Go.RowKit Go.Wk
theorem ck42 : CallOk Try.prog 42 := ⟨_, _, Try.func42, rfl, by kernel_rfl⟩
theorem ck43 : CallOk Try.prog 43 := ⟨_, _, Try.func43, rfl, by kernel_rfl⟩
theorem ck44 : CallOk Try.prog 44 := ⟨_, _, Try.func44, rfl, by kernel_rfl⟩
theorem ck45 : CallOk Try.prog 45 := ⟨_, _, Try.func45, rfl, by kernel_rfl⟩
theorem ck46 : CallOk Try.prog 46 := ⟨_, _, Try.func46, rfl, by kernel_rfl⟩
set_option maxRecDepth 20000 in
theorem save_spec {D : Nat → Prop} {b : Nat} {F : Nat → Prop} {s : PD} (name : List UInt8) (A : Option Addr) (c m : Nat) (p : List UInt8) (w : World) (hn : name.length ≤ 4294967296) (hl : p.length ≤ 4294967296) (hm : p.length = m) (hok : s.ok 6) (hS : Sl D w A byteR p) (h : DkAt 54 59 5 w b F s) :
    Calls Try.prog 30 #[.pointer (some ⟨b, 0, none⟩), Str name, .slice A m c] w fun x w' => ∃ F', x = .returned (.int .i64 (s.save name p).2) ∧ DkAt 54 59 5 w' b F' (s.save name p).1 ∧ Fr F w w' ∧ (∀ x, F' x → F x ∨ w.heap.size ≤ x) := by
  subst hm
  have hlt := h.lt
  obtain ⟨next, hnext⟩ : ∃ next, name ++ newB = next := ⟨_, rfl⟩
  have hsv : s.save name p = s.saveN name next p := by rw [← hnext]; rfl
  rw [hsv]
  refine Rn.enter Try.func30 rfl rfl (Nat.le_of_ble_eq_true rfl) ?_
  refine Rn.seq (Rn.reg (Rn.v rfl rfl rfl rfl (V.as rfl) (Rn.regEnd (Rn.scope (Rn.seq (Rn.reg (Rn.v rfl rfl rfl rfl (V.as rfl) (Rn.regEnd (Rn.seq (Rn.reg (Rn.v rfl rfl rfl rfl (V.mv rfl) (Rn.v rfl rfl rfl rfl (V.to (V.catS rfl rfl (by first | omega | (simp; omega))) (show _ = Str next by rw [← hnext]; rfl)) (Rn.v rfl rfl rfl rfl (V.as rfl) (Rn.regEnd (Rn.seq (Rn.seq (Rn.reg (Rn.v rfl rfl rfl rfl (V.mv rfl) (Rn.v rfl rfl rfl rfl (V.lenS Try.underlying9 rfl) (Rn.v rfl rfl rfl rfl (V.gtr rfl rfl) (Rn.regEnd ?_)))))))))))))))))))))
  refine Rn.condD rfl (fun q1 => ?_) (fun q1 => ?_)
  refine Rn.seq (Rn.reg (Rn.v rfl rfl rfl rfl (V.as rfl) (Rn.regEnd ?_)))
  refine Rn.ret1 Try.func30 rfl rfl ?_
  have hr : s.saveN name next p = (s, 3) := PD.saveN_0 (by omega)
  exact ⟨F, by rw [hr]; first | done | rfl, by rw [hr]; exact h, (Fr.refl _ _), fun x hx => .inl hx⟩
  have q1' : ¬ name.length > 28 := by omega
  refine Rn.skip (Rn.seq (Rn.reg (Rn.v rfl rfl rfl rfl (V.mv rfl) ?_)))
  rcases Decidable.em (65536 < p.length) with hbig | hbig
  refine Rn.cl ck42 rfl rfl rfl rfl (wrap_spec _ _ _ _ hl hS) ?_
  rintro y1 w1 ⟨A1, c1, e1, o1, x1⟩
  have hs1 := x1.size
  rw [if_pos hbig] at e1
  subst e1
  refine ⟨_, rfl, ?_⟩
  refine Rn.v rfl rfl rfl rfl (V.mv rfl) (Rn.v rfl rfl rfl rfl (V.ext rfl rfl) (Rn.v rfl rfl rfl rfl (V.ext rfl rfl) (Rn.v rfl rfl rfl rfl (V.as rfl) (Rn.v rfl rfl rfl rfl (V.as rfl) (Rn.regEnd (Rn.seq (Rn.seq (Rn.reg (Rn.v rfl rfl rfl rfl (V.mv rfl) (Rn.v rfl rfl rfl rfl (V.neq rfl rfl) (Rn.regEnd ?_)))))))))))
  refine Rn.condD rfl (fun q2 => ?_) (fun q2 => ?_)
  refine Rn.seq (Rn.reg (Rn.v rfl rfl rfl rfl (V.mv rfl) (Rn.v rfl rfl rfl rfl (V.as rfl) (Rn.regEnd ?_))))
  refine Rn.ret1 Try.func30 rfl rfl ?_
  have hr : s.saveN name next p = (s, 4) := PD.saveN_00 q1' hbig
  exact ⟨F, by rw [hr]; first | done | rfl, by rw [hr]; exact (h.ext x1), ((Fr.refl F _).trans (Ext.fr x1)), fun x hx => .inl hx⟩
  exact absurd (by decide) q2
  refine Rn.cl ck42 rfl rfl rfl rfl (wrap_spec _ _ _ _ hl hS) ?_
  rintro y2 w2 ⟨A2, c2, e2, o2, x2⟩
  have hs2 := x2.size
  rw [if_neg hbig] at e2
  subst e2
  replace o2 := o2 hbig
  refine ⟨_, rfl, ?_⟩
  refine Rn.v rfl rfl rfl rfl (V.mv rfl) (Rn.v rfl rfl rfl rfl (V.ext rfl rfl) (Rn.v rfl rfl rfl rfl (V.ext rfl rfl) (Rn.v rfl rfl rfl rfl (V.as rfl) (Rn.v rfl rfl rfl rfl (V.as rfl) (Rn.regEnd (Rn.seq (Rn.seq (Rn.reg (Rn.v rfl rfl rfl rfl (V.mv rfl) (Rn.v rfl rfl rfl rfl (V.neq rfl rfl) (Rn.regEnd ?_)))))))))))
  refine Rn.condD rfl (fun q2 => ?_) (fun q2 => ?_)
  exact absurd rfl q2
  have hob := o2.base
  have hwl : (wrapL p).length ≤ 4294967296 := by rw [wrapL_length]; omega
  refine Rn.skip (Rn.seq (Rn.seq (Rn.reg (Rn.v rfl rfl rfl rfl (V.mv rfl) (Rn.v rfl rfl rfl rfl (V.mv rfl) (Rn.cl ck34 rfl rfl rfl rfl (there_spec _ _ (h.ext x2)) ?_))))))
  rintro _ w3 ⟨rfl, x3⟩
  have hs3 := x3.size
  refine ⟨_, rfl, ?_⟩
  refine Rn.regEnd ?_
  refine Rn.condS rfl (fun q3 => ?_) (fun q3 => ?_)
  have hc503 := hok.2.2
  refine Rn.reg (Rn.v rfl rfl rfl rfl (V.mv rfl) (Rn.v rfl rfl rfl rfl (V.mv rfl) (Rn.cl ck35 rfl rfl rfl rfl (remove_spec _ _ (by omega) ((h.ext x2).ext x3)) ?_)))
  rintro _ w4 ⟨rfl, F4, d4, x4, hF4⟩
  have e4 : Fr F w w4 := ((((Fr.refl F _).trans (Ext.fr x2)).trans (Ext.fr x3))).trans' x4 (fun x hx => by exact .inl hx)
  have hs4 := x4.size
  refine ⟨_, rfl, ?_⟩
  refine Rn.v rfl rfl rfl rfl (V.as rfl) (Rn.regEnd (Rn.seq (Rn.seq (Rn.reg (Rn.v rfl rfl rfl rfl (V.mv rfl) (Rn.v rfl rfl rfl rfl (V.eql rfl rfl) (Rn.regEnd ?_)))))))
  have gF4 : ∀ x, F4 x → F x ∨ w2.heap.size ≤ x := fun x hx => by rcases hF4 x hx with hh | hh; exact .inl hh; exact .inr (by omega)
  refine Rn.condD rfl (fun q9 => ?_) (fun q9 => ?_)
  have okr : (s.remove next).1.ok 5 := PD.ok.remove (n := 5) hok next
  have hc504 := okr.2.2
  refine Rn.reg (Rn.v rfl rfl rfl rfl (V.mv rfl) (Rn.v rfl rfl rfl rfl (V.mv rfl) (Rn.cl ck43 rfl rfl rfl rfl (create_spec _ _ (by omega) d4) ?_)))
  rintro _ w5 ⟨rfl, F5, d5, x5, hF5⟩
  have e5 : Fr F w w5 := (e4).trans' x5 (fun x hx => by rcases gF4 _ hx with hh | hh; exact .inl hh; exact .inr (by omega))
  have hs5 := x5.size
  refine ⟨_, rfl, ?_⟩
  refine Rn.v rfl rfl rfl rfl (V.as rfl) (Rn.regEnd (Rn.seq (Rn.seq (Rn.reg (Rn.v rfl rfl rfl rfl (V.mv rfl) (Rn.v rfl rfl rfl rfl (V.neq rfl rfl) (Rn.regEnd ?_)))))))
  have gF5 : ∀ x, F5 x → F x ∨ w2.heap.size ≤ x := fun x hx => by rcases hF5 x hx with hh | hh; exact gF4 x hh; exact .inr (by omega)
  have hmd := PD.made_1 q3 q9
  rw [← hmd] at d5
  rw [← hmd]
  obtain ⟨m1, hm1⟩ : ∃ m, s.made next = m := ⟨_, rfl⟩
  rw [hm1] at d5
  rw [hm1]
  have ok1 : m1.1.ok 4 := by rw [← hm1]; exact PD.ok.made (n := 4) hok next
  refine Rn.condD rfl (fun q4 => ?_) (fun q4 => ?_)
  refine Rn.goto rfl (Rn.seq (Rn.skip (Rn.seq (Rn.seq (Rn.reg (Rn.v rfl rfl rfl rfl (V.mv rfl) (Rn.v rfl rfl rfl rfl (V.neq rfl rfl) (Rn.v rfl rfl rfl rfl (V.mv rfl) ?_))))))))
  refine Rn.partD (t := 55) rfl (fun q7 => ?_) (fun q7 => ?_)
  refine Rn.v rfl rfl rfl rfl (V.mv rfl) (Rn.v rfl rfl rfl rfl (V.mv rfl) (Rn.cl ck34 rfl rfl rfl rfl (there_spec _ _ d5) ?_))
  rintro _ w6 ⟨rfl, x6⟩
  have hs6 := x6.size
  refine ⟨_, rfl, ?_⟩
  refine Rn.v rfl rfl rfl rfl (V.pkT rfl rfl) (Rn.regEnd ?_)
  refine Rn.condS rfl (fun q8 => ?_) (fun q8 => ?_)
  have hc506 := ok1.2.2
  refine Rn.reg (Rn.v rfl rfl rfl rfl (V.mv rfl) (Rn.v rfl rfl rfl rfl (V.mv rfl) (Rn.cl ck35 rfl rfl rfl rfl (remove_spec _ _ (by omega) (d5.ext x6)) ?_)))
  rintro _ w7 ⟨rfl, F7, d7, x7, hF7⟩
  have e7 : Fr F w w7 := ((e5.trans (Ext.fr x6))).trans' x7 (fun x hx => by rcases gF5 _ hx with hh | hh; exact .inl hh; exact .inr (by omega))
  have hs7 := x7.size
  refine ⟨_, rfl, ?_⟩
  refine Rn.regEnd (Rn.seq (Rn.reg (Rn.v rfl rfl rfl rfl (V.mv rfl) (Rn.v rfl rfl rfl rfl (V.as rfl) (Rn.regEnd ?_)))))
  have gF7 : ∀ x, F7 x → F x ∨ w2.heap.size ≤ x := fun x hx => by rcases hF7 x hx with hh | hh; exact gF5 x hh; exact .inr (by omega)
  refine Rn.ret1 Try.func30 rfl rfl ?_
  have hr := PD.saveN_1 (s := s) (p := p) q1' (by omega) hm1 q4
  have hfa : PD.fault m1 next = ((m1.1.remove next).1, m1.2) := if_pos ⟨by omega, q8⟩
  rw [hfa] at hr
  exact ⟨F7, by rw [hr]; first | done | rfl, by rw [hr]; exact d7, e7, fun x hx => (gF7 x hx).imp id fun hh => by omega⟩
  refine Rn.skip (Rn.seq (Rn.reg (Rn.v rfl rfl rfl rfl (V.mv rfl) (Rn.v rfl rfl rfl rfl (V.as rfl) (Rn.regEnd ?_)))))
  refine Rn.ret1 Try.func30 rfl rfl ?_
  have hr := PD.saveN_1 (s := s) (p := p) q1' (by omega) hm1 q4
  have hfa : PD.fault m1 next = m1 := if_neg (fun hh => by rw [hh.2] at q8; cases q8)
  rw [hfa] at hr
  exact ⟨F5, by rw [hr]; first | done | rfl, by rw [hr]; exact (d5.ext x6), (e5.trans (Ext.fr x6)), fun x hx => (gF5 x hx).imp id fun hh => by omega⟩
  refine Rn.no rfl rfl rfl rfl (Rn.no rfl rfl rfl rfl (Rn.no rfl rfl rfl rfl (Rn.v rfl rfl rfl rfl (V.pkF rfl rfl) (Rn.regEnd (Rn.condF rfl (Rn.skip (Rn.seq (Rn.reg (Rn.v rfl rfl rfl rfl (V.mv rfl) (Rn.v rfl rfl rfl rfl (V.as rfl) (Rn.regEnd ?_)))))))))))
  refine Rn.ret1 Try.func30 rfl rfl ?_
  have hr := PD.saveN_1 (s := s) (p := p) q1' (by omega) hm1 q4
  have hfa : PD.fault m1 next = m1 := if_neg (fun hh => hh.1 (by omega))
  rw [hfa] at hr
  exact ⟨F5, by rw [hr]; first | done | rfl, by rw [hr]; exact d5, e5, fun x hx => (gF5 x hx).imp id fun hh => by omega⟩
  have own1 : Own 0 No w5 5 _ _ byteR (wrapL p) := (o2.fr ((((Fr.refl (fun x => F x ∨ w2.heap.size ≤ x) _).trans (Ext.fr x3)).trans (x4.mono (fun y hy => by first | exact .inl hy | exact gF4 _ hy))).trans (x5.mono (fun y hy => by first | exact .inl hy | exact gF4 _ hy))) (fun _ hh => hh.elim) (fun x hx hh => by have h1 := hob x hx; rcases hh with hh | hh; (have := hlt x hh; omega); omega)).lower (Nat.zero_le _)
  have hD1 : ∀ x, (No x ∨ ob A2 x) → ¬ F5 x := fun x hx hf => by
    rcases hx with hx | hx
    · exact hx.elim
    · have h1 := hob x hx
      rcases gF5 x hf with hh | hh
      · have := hlt x hh; omega
      · omega
  have hc507 := ok1.2.2
  refine Rn.skip (Rn.seq (Rn.seq (Rn.reg (Rn.v rfl rfl rfl rfl (V.mv rfl) (Rn.v rfl rfl rfl rfl (V.mv rfl) (Rn.v rfl rfl rfl rfl (V.mv rfl) (Rn.cl ck44 rfl rfl rfl rfl (append_spec next (wrapL p) _ _ _ _ (by omega) ⟨ok1.1, ok1.2.1⟩ hwl rfl own1.sl hD1 d5) ?_)))))))
  rintro _ w8 ⟨rfl, F8, d8, x8, hF8⟩
  have e8 : Fr F w w8 := (e5).trans' x8 (fun x hx => by rcases gF5 _ hx with hh | hh; exact .inl hh; exact .inr (by omega))
  have hs8 := x8.size
  refine ⟨_, rfl, ?_⟩
  refine Rn.v rfl rfl rfl rfl (V.as rfl) (Rn.regEnd (Rn.seq (Rn.reg (Rn.v rfl rfl rfl rfl (V.mv rfl) (Rn.v rfl rfl rfl rfl (V.neq rfl rfl) (Rn.regEnd ?_))))))
  have gF8 : ∀ x, F8 x → F x ∨ w2.heap.size ≤ x := fun x hx => by rcases hF8 x hx with hh | hh; exact gF5 x hh; exact .inr (by omega)
  obtain ⟨m2, hm2⟩ : ∃ m, m1.1.append next (wrapL p) = m := ⟨_, rfl⟩
  rw [hm2] at d8
  rw [hm2]
  have ok2 : m2.1.ok 3 := by rw [← hm2]; exact PD.ok.append (n := 3) ok1 next _
  refine Rn.condD rfl (fun q5 => ?_) (fun q5 => ?_)
  refine Rn.goto rfl (Rn.seq (Rn.skip (Rn.seq (Rn.seq (Rn.reg (Rn.v rfl rfl rfl rfl (V.mv rfl) (Rn.v rfl rfl rfl rfl (V.neq rfl rfl) (Rn.v rfl rfl rfl rfl (V.mv rfl) ?_))))))))
  refine Rn.partD (t := 55) rfl (fun q7 => ?_) (fun q7 => ?_)
  refine Rn.v rfl rfl rfl rfl (V.mv rfl) (Rn.v rfl rfl rfl rfl (V.mv rfl) (Rn.cl ck34 rfl rfl rfl rfl (there_spec _ _ d8) ?_))
  rintro _ w9 ⟨rfl, x9⟩
  have hs9 := x9.size
  refine ⟨_, rfl, ?_⟩
  refine Rn.v rfl rfl rfl rfl (V.pkT rfl rfl) (Rn.regEnd ?_)
  refine Rn.condS rfl (fun q8 => ?_) (fun q8 => ?_)
  have hc509 := ok2.2.2
  refine Rn.reg (Rn.v rfl rfl rfl rfl (V.mv rfl) (Rn.v rfl rfl rfl rfl (V.mv rfl) (Rn.cl ck35 rfl rfl rfl rfl (remove_spec _ _ (by omega) (d8.ext x9)) ?_)))
  rintro _ w10 ⟨rfl, F10, d10, x10, hF10⟩
  have e10 : Fr F w w10 := ((e8.trans (Ext.fr x9))).trans' x10 (fun x hx => by rcases gF8 _ hx with hh | hh; exact .inl hh; exact .inr (by omega))
  have hs10 := x10.size
  refine ⟨_, rfl, ?_⟩
  refine Rn.regEnd (Rn.seq (Rn.reg (Rn.v rfl rfl rfl rfl (V.mv rfl) (Rn.v rfl rfl rfl rfl (V.as rfl) (Rn.regEnd ?_)))))
  have gF10 : ∀ x, F10 x → F x ∨ w2.heap.size ≤ x := fun x hx => by rcases hF10 x hx with hh | hh; exact gF8 x hh; exact .inr (by omega)
  refine Rn.ret1 Try.func30 rfl rfl ?_
  have hr := PD.saveN_2 (s := s) (p := p) q1' (by omega) hm1 q4 hm2 q5
  have hfa : PD.fault m2 next = ((m2.1.remove next).1, m2.2) := if_pos ⟨by omega, q8⟩
  rw [hfa] at hr
  exact ⟨F10, by rw [hr]; first | done | rfl, by rw [hr]; exact d10, e10, fun x hx => (gF10 x hx).imp id fun hh => by omega⟩
  refine Rn.skip (Rn.seq (Rn.reg (Rn.v rfl rfl rfl rfl (V.mv rfl) (Rn.v rfl rfl rfl rfl (V.as rfl) (Rn.regEnd ?_)))))
  refine Rn.ret1 Try.func30 rfl rfl ?_
  have hr := PD.saveN_2 (s := s) (p := p) q1' (by omega) hm1 q4 hm2 q5
  have hfa : PD.fault m2 next = m2 := if_neg (fun hh => by rw [hh.2] at q8; cases q8)
  rw [hfa] at hr
  exact ⟨F8, by rw [hr]; first | done | rfl, by rw [hr]; exact (d8.ext x9), (e8.trans (Ext.fr x9)), fun x hx => (gF8 x hx).imp id fun hh => by omega⟩
  refine Rn.no rfl rfl rfl rfl (Rn.no rfl rfl rfl rfl (Rn.no rfl rfl rfl rfl (Rn.v rfl rfl rfl rfl (V.pkF rfl rfl) (Rn.regEnd (Rn.condF rfl (Rn.skip (Rn.seq (Rn.reg (Rn.v rfl rfl rfl rfl (V.mv rfl) (Rn.v rfl rfl rfl rfl (V.as rfl) (Rn.regEnd ?_)))))))))))
  refine Rn.ret1 Try.func30 rfl rfl ?_
  have hr := PD.saveN_2 (s := s) (p := p) q1' (by omega) hm1 q4 hm2 q5
  have hfa : PD.fault m2 next = m2 := if_neg (fun hh => hh.1 (by omega))
  rw [hfa] at hr
  exact ⟨F8, by rw [hr]; first | done | rfl, by rw [hr]; exact d8, e8, fun x hx => (gF8 x hx).imp id fun hh => by omega⟩
  have hc510 := ok2.2.2
  refine Rn.skip (Rn.seq (Rn.seq (Rn.reg (Rn.v rfl rfl rfl rfl (V.mv rfl) (Rn.v rfl rfl rfl rfl (V.mv rfl) (Rn.cl ck45 rfl rfl rfl rfl (sync_spec _ _ (by omega) d8) ?_))))))
  rintro _ w11 ⟨rfl, F11, d11, x11, hF11⟩
  have e11 : Fr F w w11 := (e8).trans' x11 (fun x hx => by rcases gF8 _ hx with hh | hh; exact .inl hh; exact .inr (by omega))
  have hs11 := x11.size
  refine ⟨_, rfl, ?_⟩
  refine Rn.v rfl rfl rfl rfl (V.as rfl) (Rn.regEnd (Rn.seq (Rn.reg (Rn.v rfl rfl rfl rfl (V.mv rfl) (Rn.v rfl rfl rfl rfl (V.neq rfl rfl) (Rn.regEnd ?_))))))
  have gF11 : ∀ x, F11 x → F x ∨ w2.heap.size ≤ x := fun x hx => by rcases hF11 x hx with hh | hh; exact gF8 x hh; exact .inr (by omega)
  obtain ⟨m3, hm3⟩ : ∃ m, m2.1.sync next = m := ⟨_, rfl⟩
  rw [hm3] at d11
  rw [hm3]
  have ok3 : m3.1.ok 2 := by rw [← hm3]; exact PD.ok.sync (n := 2) ok2 next
  refine Rn.condD rfl (fun q6 => ?_) (fun q6 => ?_)
  refine Rn.goto rfl (Rn.seq (Rn.skip (Rn.seq (Rn.seq (Rn.reg (Rn.v rfl rfl rfl rfl (V.mv rfl) (Rn.v rfl rfl rfl rfl (V.neq rfl rfl) (Rn.v rfl rfl rfl rfl (V.mv rfl) ?_))))))))
  refine Rn.partD (t := 55) rfl (fun q7 => ?_) (fun q7 => ?_)
  refine Rn.v rfl rfl rfl rfl (V.mv rfl) (Rn.v rfl rfl rfl rfl (V.mv rfl) (Rn.cl ck34 rfl rfl rfl rfl (there_spec _ _ d11) ?_))
  rintro _ w12 ⟨rfl, x12⟩
  have hs12 := x12.size
  refine ⟨_, rfl, ?_⟩
  refine Rn.v rfl rfl rfl rfl (V.pkT rfl rfl) (Rn.regEnd ?_)
  refine Rn.condS rfl (fun q8 => ?_) (fun q8 => ?_)
  have hc512 := ok3.2.2
  refine Rn.reg (Rn.v rfl rfl rfl rfl (V.mv rfl) (Rn.v rfl rfl rfl rfl (V.mv rfl) (Rn.cl ck35 rfl rfl rfl rfl (remove_spec _ _ (by omega) (d11.ext x12)) ?_)))
  rintro _ w13 ⟨rfl, F13, d13, x13, hF13⟩
  have e13 : Fr F w w13 := ((e11.trans (Ext.fr x12))).trans' x13 (fun x hx => by rcases gF11 _ hx with hh | hh; exact .inl hh; exact .inr (by omega))
  have hs13 := x13.size
  refine ⟨_, rfl, ?_⟩
  refine Rn.regEnd (Rn.seq (Rn.reg (Rn.v rfl rfl rfl rfl (V.mv rfl) (Rn.v rfl rfl rfl rfl (V.as rfl) (Rn.regEnd ?_)))))
  have gF13 : ∀ x, F13 x → F x ∨ w2.heap.size ≤ x := fun x hx => by rcases hF13 x hx with hh | hh; exact gF11 x hh; exact .inr (by omega)
  refine Rn.ret1 Try.func30 rfl rfl ?_
  have hr := PD.saveN_3 (s := s) (p := p) q1' (by omega) hm1 q4 hm2 q5 hm3 q6
  have hfa : PD.fault m3 next = ((m3.1.remove next).1, m3.2) := if_pos ⟨by omega, q8⟩
  rw [hfa] at hr
  exact ⟨F13, by rw [hr]; first | done | rfl, by rw [hr]; exact d13, e13, fun x hx => (gF13 x hx).imp id fun hh => by omega⟩
  refine Rn.skip (Rn.seq (Rn.reg (Rn.v rfl rfl rfl rfl (V.mv rfl) (Rn.v rfl rfl rfl rfl (V.as rfl) (Rn.regEnd ?_)))))
  refine Rn.ret1 Try.func30 rfl rfl ?_
  have hr := PD.saveN_3 (s := s) (p := p) q1' (by omega) hm1 q4 hm2 q5 hm3 q6
  have hfa : PD.fault m3 next = m3 := if_neg (fun hh => by rw [hh.2] at q8; cases q8)
  rw [hfa] at hr
  exact ⟨F11, by rw [hr]; first | done | rfl, by rw [hr]; exact (d11.ext x12), (e11.trans (Ext.fr x12)), fun x hx => (gF11 x hx).imp id fun hh => by omega⟩
  refine Rn.no rfl rfl rfl rfl (Rn.no rfl rfl rfl rfl (Rn.no rfl rfl rfl rfl (Rn.v rfl rfl rfl rfl (V.pkF rfl rfl) (Rn.regEnd (Rn.condF rfl (Rn.skip (Rn.seq (Rn.reg (Rn.v rfl rfl rfl rfl (V.mv rfl) (Rn.v rfl rfl rfl rfl (V.as rfl) (Rn.regEnd ?_)))))))))))
  refine Rn.ret1 Try.func30 rfl rfl ?_
  have hr := PD.saveN_3 (s := s) (p := p) q1' (by omega) hm1 q4 hm2 q5 hm3 q6
  have hfa : PD.fault m3 next = m3 := if_neg (fun hh => hh.1 (by omega))
  rw [hfa] at hr
  exact ⟨F11, by rw [hr]; first | done | rfl, by rw [hr]; exact d11, e11, fun x hx => (gF11 x hx).imp id fun hh => by omega⟩
  have hc513 := ok3.2.2
  refine Rn.skip (Rn.seq (Rn.seq (Rn.reg (Rn.v rfl rfl rfl rfl (V.mv rfl) (Rn.v rfl rfl rfl rfl (V.mv rfl) (Rn.v rfl rfl rfl rfl (V.mv rfl) (Rn.cl ck46 rfl rfl rfl rfl (rename_spec _ _ _ (by omega) d11) ?_)))))))
  rintro _ w14 ⟨rfl, F14, d14, x14, hF14⟩
  have e14 : Fr F w w14 := (e11).trans' x14 (fun x hx => by rcases gF11 _ hx with hh | hh; exact .inl hh; exact .inr (by omega))
  have hs14 := x14.size
  refine ⟨_, rfl, ?_⟩
  refine Rn.v rfl rfl rfl rfl (V.as rfl) (Rn.regEnd (Rn.seq (Rn.reg (Rn.v rfl rfl rfl rfl (V.mv rfl) (Rn.v rfl rfl rfl rfl (V.eql rfl rfl) (Rn.regEnd ?_))))))
  have gF14 : ∀ x, F14 x → F x ∨ w2.heap.size ≤ x := fun x hx => by rcases hF14 x hx with hh | hh; exact gF11 x hh; exact .inr (by omega)
  obtain ⟨m4, hm4⟩ : ∃ m, m3.1.rename next name = m := ⟨_, rfl⟩
  rw [hm4] at d14
  rw [hm4]
  have ok4 : m4.1.ok 1 := by rw [← hm4]; exact PD.ok.rename (n := 1) ok3 next name
  refine Rn.condD rfl (fun q10 => ?_) (fun q10 => ?_)
  refine Rn.seq (Rn.reg (Rn.v rfl rfl rfl rfl (V.as rfl) (Rn.regEnd ?_)))
  refine Rn.ret1 Try.func30 rfl rfl ?_
  have hr := PD.saveN_4 (s := s) (p := p) q1' (by omega) hm1 q4 hm2 q5 hm3 q6 hm4 q10
  exact ⟨F14, by rw [hr, q10], by rw [hr]; exact d14, e14, fun x hx => (gF14 x hx).imp id fun hh => by omega⟩
  refine Rn.skip (Rn.seq (Rn.label (Rn.seq (Rn.seq (Rn.reg (Rn.v rfl rfl rfl rfl (V.mv rfl) (Rn.v rfl rfl rfl rfl (V.neq rfl rfl) (Rn.v rfl rfl rfl rfl (V.mv rfl) ?_))))))))
  refine Rn.partD (t := 55) rfl (fun q7 => ?_) (fun q7 => ?_)
  refine Rn.v rfl rfl rfl rfl (V.mv rfl) (Rn.v rfl rfl rfl rfl (V.mv rfl) (Rn.cl ck34 rfl rfl rfl rfl (there_spec _ _ d14) ?_))
  rintro _ w15 ⟨rfl, x15⟩
  have hs15 := x15.size
  refine ⟨_, rfl, ?_⟩
  refine Rn.v rfl rfl rfl rfl (V.pkT rfl rfl) (Rn.regEnd ?_)
  refine Rn.condS rfl (fun q8 => ?_) (fun q8 => ?_)
  have hc515 := ok4.2.2
  refine Rn.reg (Rn.v rfl rfl rfl rfl (V.mv rfl) (Rn.v rfl rfl rfl rfl (V.mv rfl) (Rn.cl ck35 rfl rfl rfl rfl (remove_spec _ _ (by omega) (d14.ext x15)) ?_)))
  rintro _ w16 ⟨rfl, F16, d16, x16, hF16⟩
  have e16 : Fr F w w16 := ((e14.trans (Ext.fr x15))).trans' x16 (fun x hx => by rcases gF14 _ hx with hh | hh; exact .inl hh; exact .inr (by omega))
  have hs16 := x16.size
  refine ⟨_, rfl, ?_⟩
  refine Rn.regEnd (Rn.seq (Rn.reg (Rn.v rfl rfl rfl rfl (V.mv rfl) (Rn.v rfl rfl rfl rfl (V.as rfl) (Rn.regEnd ?_)))))
  have gF16 : ∀ x, F16 x → F x ∨ w2.heap.size ≤ x := fun x hx => by rcases hF16 x hx with hh | hh; exact gF14 x hh; exact .inr (by omega)
  refine Rn.ret1 Try.func30 rfl rfl ?_
  have hr := PD.saveN_5 (s := s) (p := p) q1' (by omega) hm1 q4 hm2 q5 hm3 q6 hm4 q10
  have hfa : PD.fault m4 next = ((m4.1.remove next).1, m4.2) := if_pos ⟨by omega, q8⟩
  rw [hfa] at hr
  exact ⟨F16, by rw [hr]; first | done | rfl, by rw [hr]; exact d16, e16, fun x hx => (gF16 x hx).imp id fun hh => by omega⟩
  refine Rn.skip (Rn.seq (Rn.reg (Rn.v rfl rfl rfl rfl (V.mv rfl) (Rn.v rfl rfl rfl rfl (V.as rfl) (Rn.regEnd ?_)))))
  refine Rn.ret1 Try.func30 rfl rfl ?_
  have hr := PD.saveN_5 (s := s) (p := p) q1' (by omega) hm1 q4 hm2 q5 hm3 q6 hm4 q10
  have hfa : PD.fault m4 next = m4 := if_neg (fun hh => by rw [hh.2] at q8; cases q8)
  rw [hfa] at hr
  exact ⟨F14, by rw [hr]; first | done | rfl, by rw [hr]; exact (d14.ext x15), (e14.trans (Ext.fr x15)), fun x hx => (gF14 x hx).imp id fun hh => by omega⟩
  refine Rn.no rfl rfl rfl rfl (Rn.no rfl rfl rfl rfl (Rn.no rfl rfl rfl rfl (Rn.v rfl rfl rfl rfl (V.pkF rfl rfl) (Rn.regEnd (Rn.condF rfl (Rn.skip (Rn.seq (Rn.reg (Rn.v rfl rfl rfl rfl (V.mv rfl) (Rn.v rfl rfl rfl rfl (V.as rfl) (Rn.regEnd ?_)))))))))))
  refine Rn.ret1 Try.func30 rfl rfl ?_
  have hr := PD.saveN_5 (s := s) (p := p) q1' (by omega) hm1 q4 hm2 q5 hm3 q6 hm4 q10
  have hfa : PD.fault m4 next = m4 := if_neg (fun hh => hh.1 (by omega))
  rw [hfa] at hr
  exact ⟨F14, by rw [hr]; first | done | rfl, by rw [hr]; exact d14, e14, fun x hx => (gF14 x hx).imp id fun hh => by omega⟩
  have hmd := PD.made_2 q3 q9
  rw [← hmd] at d4
  rw [← hmd]
  obtain ⟨m1, hm1⟩ : ∃ m, s.made next = m := ⟨_, rfl⟩
  rw [hm1] at d4
  rw [hm1]
  have q9' : ¬ m1.2 = 0 := by rw [← hm1, hmd]; exact q9
  have ok1 : m1.1.ok 4 := by rw [← hm1]; exact PD.ok.made (n := 4) hok next
  refine Rn.skip (Rn.seq (Rn.seq (Rn.reg (Rn.v rfl rfl rfl rfl (V.mv rfl) (Rn.v rfl rfl rfl rfl (V.neq rfl rfl) (Rn.regEnd ?_))))))
  refine Rn.condD rfl (fun q4 => ?_) (fun q4 => ?_)
  refine Rn.goto rfl (Rn.seq (Rn.skip (Rn.seq (Rn.seq (Rn.reg (Rn.v rfl rfl rfl rfl (V.mv rfl) (Rn.v rfl rfl rfl rfl (V.neq rfl rfl) (Rn.v rfl rfl rfl rfl (V.mv rfl) ?_))))))))
  refine Rn.partD (t := 55) rfl (fun q7 => ?_) (fun q7 => ?_)
  refine Rn.v rfl rfl rfl rfl (V.mv rfl) (Rn.v rfl rfl rfl rfl (V.mv rfl) (Rn.cl ck34 rfl rfl rfl rfl (there_spec _ _ d4) ?_))
  rintro _ w17 ⟨rfl, x17⟩
  have hs17 := x17.size
  refine ⟨_, rfl, ?_⟩
  refine Rn.v rfl rfl rfl rfl (V.pkT rfl rfl) (Rn.regEnd ?_)
  refine Rn.condS rfl (fun q8 => ?_) (fun q8 => ?_)
  have hc517 := ok1.2.2
  refine Rn.reg (Rn.v rfl rfl rfl rfl (V.mv rfl) (Rn.v rfl rfl rfl rfl (V.mv rfl) (Rn.cl ck35 rfl rfl rfl rfl (remove_spec _ _ (by omega) (d4.ext x17)) ?_)))
  rintro _ w18 ⟨rfl, F18, d18, x18, hF18⟩
  have e18 : Fr F w w18 := ((e4.trans (Ext.fr x17))).trans' x18 (fun x hx => by rcases gF4 _ hx with hh | hh; exact .inl hh; exact .inr (by omega))
  have hs18 := x18.size
  refine ⟨_, rfl, ?_⟩
  refine Rn.regEnd (Rn.seq (Rn.reg (Rn.v rfl rfl rfl rfl (V.mv rfl) (Rn.v rfl rfl rfl rfl (V.as rfl) (Rn.regEnd ?_)))))
  have gF18 : ∀ x, F18 x → F x ∨ w2.heap.size ≤ x := fun x hx => by rcases hF18 x hx with hh | hh; exact gF4 x hh; exact .inr (by omega)
  refine Rn.ret1 Try.func30 rfl rfl ?_
  have hr := PD.saveN_1 (s := s) (p := p) q1' (by omega) hm1 q4
  have hfa : PD.fault m1 next = ((m1.1.remove next).1, m1.2) := if_pos ⟨by omega, q8⟩
  rw [hfa] at hr
  exact ⟨F18, by rw [hr]; first | done | rfl, by rw [hr]; exact d18, e18, fun x hx => (gF18 x hx).imp id fun hh => by omega⟩
  refine Rn.skip (Rn.seq (Rn.reg (Rn.v rfl rfl rfl rfl (V.mv rfl) (Rn.v rfl rfl rfl rfl (V.as rfl) (Rn.regEnd ?_)))))
  refine Rn.ret1 Try.func30 rfl rfl ?_
  have hr := PD.saveN_1 (s := s) (p := p) q1' (by omega) hm1 q4
  have hfa : PD.fault m1 next = m1 := if_neg (fun hh => by rw [hh.2] at q8; cases q8)
  rw [hfa] at hr
  exact ⟨F4, by rw [hr]; first | done | rfl, by rw [hr]; exact (d4.ext x17), (e4.trans (Ext.fr x17)), fun x hx => (gF4 x hx).imp id fun hh => by omega⟩
  refine Rn.no rfl rfl rfl rfl (Rn.no rfl rfl rfl rfl (Rn.no rfl rfl rfl rfl (Rn.v rfl rfl rfl rfl (V.pkF rfl rfl) (Rn.regEnd (Rn.condF rfl (Rn.skip (Rn.seq (Rn.reg (Rn.v rfl rfl rfl rfl (V.mv rfl) (Rn.v rfl rfl rfl rfl (V.as rfl) (Rn.regEnd ?_)))))))))))
  refine Rn.ret1 Try.func30 rfl rfl ?_
  have hr := PD.saveN_1 (s := s) (p := p) q1' (by omega) hm1 q4
  have hfa : PD.fault m1 next = m1 := if_neg (fun hh => hh.1 (by omega))
  rw [hfa] at hr
  exact ⟨F4, by rw [hr]; first | done | rfl, by rw [hr]; exact d4, e4, fun x hx => (gF4 x hx).imp id fun hh => by omega⟩
  exact absurd (Decidable.of_not_not q4) q9'
  refine Rn.skip (Rn.seq (Rn.seq (Rn.reg (Rn.v rfl rfl rfl rfl (V.mv rfl) (Rn.v rfl rfl rfl rfl (V.eql rfl rfl) (Rn.regEnd ?_))))))
  refine Rn.condD rfl (fun q9 => ?_) (fun q9 => ?_)
  have hc518 := hok.2.2
  refine Rn.reg (Rn.v rfl rfl rfl rfl (V.mv rfl) (Rn.v rfl rfl rfl rfl (V.mv rfl) (Rn.cl ck43 rfl rfl rfl rfl (create_spec _ _ (by omega) ((h.ext x2).ext x3)) ?_)))
  rintro _ w19 ⟨rfl, F19, d19, x19, hF19⟩
  have e19 : Fr F w w19 := ((((Fr.refl F _).trans (Ext.fr x2)).trans (Ext.fr x3))).trans' x19 (fun x hx => by exact .inl hx)
  have hs19 := x19.size
  refine ⟨_, rfl, ?_⟩
  refine Rn.v rfl rfl rfl rfl (V.as rfl) (Rn.regEnd (Rn.seq (Rn.seq (Rn.reg (Rn.v rfl rfl rfl rfl (V.mv rfl) (Rn.v rfl rfl rfl rfl (V.neq rfl rfl) (Rn.regEnd ?_)))))))
  have gF19 : ∀ x, F19 x → F x ∨ w2.heap.size ≤ x := fun x hx => by rcases hF19 x hx with hh | hh; exact .inl hh; exact .inr (by omega)
  have hmd := PD.made_3 q3
  rw [← hmd] at d19
  rw [← hmd]
  obtain ⟨m1, hm1⟩ : ∃ m, s.made next = m := ⟨_, rfl⟩
  rw [hm1] at d19
  rw [hm1]
  have ok1 : m1.1.ok 4 := by rw [← hm1]; exact PD.ok.made (n := 4) hok next
  refine Rn.condD rfl (fun q4 => ?_) (fun q4 => ?_)
  refine Rn.goto rfl (Rn.seq (Rn.skip (Rn.seq (Rn.seq (Rn.reg (Rn.v rfl rfl rfl rfl (V.mv rfl) (Rn.v rfl rfl rfl rfl (V.neq rfl rfl) (Rn.v rfl rfl rfl rfl (V.mv rfl) ?_))))))))
  refine Rn.partD (t := 55) rfl (fun q7 => ?_) (fun q7 => ?_)
  refine Rn.v rfl rfl rfl rfl (V.mv rfl) (Rn.v rfl rfl rfl rfl (V.mv rfl) (Rn.cl ck34 rfl rfl rfl rfl (there_spec _ _ d19) ?_))
  rintro _ w20 ⟨rfl, x20⟩
  have hs20 := x20.size
  refine ⟨_, rfl, ?_⟩
  refine Rn.v rfl rfl rfl rfl (V.pkT rfl rfl) (Rn.regEnd ?_)
  refine Rn.condS rfl (fun q8 => ?_) (fun q8 => ?_)
  have hc520 := ok1.2.2
  refine Rn.reg (Rn.v rfl rfl rfl rfl (V.mv rfl) (Rn.v rfl rfl rfl rfl (V.mv rfl) (Rn.cl ck35 rfl rfl rfl rfl (remove_spec _ _ (by omega) (d19.ext x20)) ?_)))
  rintro _ w21 ⟨rfl, F21, d21, x21, hF21⟩
  have e21 : Fr F w w21 := ((e19.trans (Ext.fr x20))).trans' x21 (fun x hx => by rcases gF19 _ hx with hh | hh; exact .inl hh; exact .inr (by omega))
  have hs21 := x21.size
  refine ⟨_, rfl, ?_⟩
  refine Rn.regEnd (Rn.seq (Rn.reg (Rn.v rfl rfl rfl rfl (V.mv rfl) (Rn.v rfl rfl rfl rfl (V.as rfl) (Rn.regEnd ?_)))))
  have gF21 : ∀ x, F21 x → F x ∨ w2.heap.size ≤ x := fun x hx => by rcases hF21 x hx with hh | hh; exact gF19 x hh; exact .inr (by omega)
  refine Rn.ret1 Try.func30 rfl rfl ?_
  have hr := PD.saveN_1 (s := s) (p := p) q1' (by omega) hm1 q4
  have hfa : PD.fault m1 next = ((m1.1.remove next).1, m1.2) := if_pos ⟨by omega, q8⟩
  rw [hfa] at hr
  exact ⟨F21, by rw [hr]; first | done | rfl, by rw [hr]; exact d21, e21, fun x hx => (gF21 x hx).imp id fun hh => by omega⟩
  refine Rn.skip (Rn.seq (Rn.reg (Rn.v rfl rfl rfl rfl (V.mv rfl) (Rn.v rfl rfl rfl rfl (V.as rfl) (Rn.regEnd ?_)))))
  refine Rn.ret1 Try.func30 rfl rfl ?_
  have hr := PD.saveN_1 (s := s) (p := p) q1' (by omega) hm1 q4
  have hfa : PD.fault m1 next = m1 := if_neg (fun hh => by rw [hh.2] at q8; cases q8)
  rw [hfa] at hr
  exact ⟨F19, by rw [hr]; first | done | rfl, by rw [hr]; exact (d19.ext x20), (e19.trans (Ext.fr x20)), fun x hx => (gF19 x hx).imp id fun hh => by omega⟩
  refine Rn.no rfl rfl rfl rfl (Rn.no rfl rfl rfl rfl (Rn.no rfl rfl rfl rfl (Rn.v rfl rfl rfl rfl (V.pkF rfl rfl) (Rn.regEnd (Rn.condF rfl (Rn.skip (Rn.seq (Rn.reg (Rn.v rfl rfl rfl rfl (V.mv rfl) (Rn.v rfl rfl rfl rfl (V.as rfl) (Rn.regEnd ?_)))))))))))
  refine Rn.ret1 Try.func30 rfl rfl ?_
  have hr := PD.saveN_1 (s := s) (p := p) q1' (by omega) hm1 q4
  have hfa : PD.fault m1 next = m1 := if_neg (fun hh => hh.1 (by omega))
  rw [hfa] at hr
  exact ⟨F19, by rw [hr]; first | done | rfl, by rw [hr]; exact d19, e19, fun x hx => (gF19 x hx).imp id fun hh => by omega⟩
  have own1 : Own 0 No w19 5 _ _ byteR (wrapL p) := (o2.fr (((Fr.refl (fun x => F x ∨ w2.heap.size ≤ x) _).trans (Ext.fr x3)).trans (x19.mono (fun y hy => by first | exact .inl hy | exact gF18 _ hy))) (fun _ hh => hh.elim) (fun x hx hh => by have h1 := hob x hx; rcases hh with hh | hh; (have := hlt x hh; omega); omega)).lower (Nat.zero_le _)
  have hD1 : ∀ x, (No x ∨ ob A2 x) → ¬ F19 x := fun x hx hf => by
    rcases hx with hx | hx
    · exact hx.elim
    · have h1 := hob x hx
      rcases gF19 x hf with hh | hh
      · have := hlt x hh; omega
      · omega
  have hc521 := ok1.2.2
  refine Rn.skip (Rn.seq (Rn.seq (Rn.reg (Rn.v rfl rfl rfl rfl (V.mv rfl) (Rn.v rfl rfl rfl rfl (V.mv rfl) (Rn.v rfl rfl rfl rfl (V.mv rfl) (Rn.cl ck44 rfl rfl rfl rfl (append_spec next (wrapL p) _ _ _ _ (by omega) ⟨ok1.1, ok1.2.1⟩ hwl rfl own1.sl hD1 d19) ?_)))))))
  rintro _ w22 ⟨rfl, F22, d22, x22, hF22⟩
  have e22 : Fr F w w22 := (e19).trans' x22 (fun x hx => by rcases gF19 _ hx with hh | hh; exact .inl hh; exact .inr (by omega))
  have hs22 := x22.size
  refine ⟨_, rfl, ?_⟩
  refine Rn.v rfl rfl rfl rfl (V.as rfl) (Rn.regEnd (Rn.seq (Rn.reg (Rn.v rfl rfl rfl rfl (V.mv rfl) (Rn.v rfl rfl rfl rfl (V.neq rfl rfl) (Rn.regEnd ?_))))))
  have gF22 : ∀ x, F22 x → F x ∨ w2.heap.size ≤ x := fun x hx => by rcases hF22 x hx with hh | hh; exact gF19 x hh; exact .inr (by omega)
  obtain ⟨m2, hm2⟩ : ∃ m, m1.1.append next (wrapL p) = m := ⟨_, rfl⟩
  rw [hm2] at d22
  rw [hm2]
  have ok2 : m2.1.ok 3 := by rw [← hm2]; exact PD.ok.append (n := 3) ok1 next _
  refine Rn.condD rfl (fun q5 => ?_) (fun q5 => ?_)
  refine Rn.goto rfl (Rn.seq (Rn.skip (Rn.seq (Rn.seq (Rn.reg (Rn.v rfl rfl rfl rfl (V.mv rfl) (Rn.v rfl rfl rfl rfl (V.neq rfl rfl) (Rn.v rfl rfl rfl rfl (V.mv rfl) ?_))))))))
  refine Rn.partD (t := 55) rfl (fun q7 => ?_) (fun q7 => ?_)
  refine Rn.v rfl rfl rfl rfl (V.mv rfl) (Rn.v rfl rfl rfl rfl (V.mv rfl) (Rn.cl ck34 rfl rfl rfl rfl (there_spec _ _ d22) ?_))
  rintro _ w23 ⟨rfl, x23⟩
  have hs23 := x23.size
  refine ⟨_, rfl, ?_⟩
  refine Rn.v rfl rfl rfl rfl (V.pkT rfl rfl) (Rn.regEnd ?_)
  refine Rn.condS rfl (fun q8 => ?_) (fun q8 => ?_)
  have hc523 := ok2.2.2
  refine Rn.reg (Rn.v rfl rfl rfl rfl (V.mv rfl) (Rn.v rfl rfl rfl rfl (V.mv rfl) (Rn.cl ck35 rfl rfl rfl rfl (remove_spec _ _ (by omega) (d22.ext x23)) ?_)))
  rintro _ w24 ⟨rfl, F24, d24, x24, hF24⟩
  have e24 : Fr F w w24 := ((e22.trans (Ext.fr x23))).trans' x24 (fun x hx => by rcases gF22 _ hx with hh | hh; exact .inl hh; exact .inr (by omega))
  have hs24 := x24.size
  refine ⟨_, rfl, ?_⟩
  refine Rn.regEnd (Rn.seq (Rn.reg (Rn.v rfl rfl rfl rfl (V.mv rfl) (Rn.v rfl rfl rfl rfl (V.as rfl) (Rn.regEnd ?_)))))
  have gF24 : ∀ x, F24 x → F x ∨ w2.heap.size ≤ x := fun x hx => by rcases hF24 x hx with hh | hh; exact gF22 x hh; exact .inr (by omega)
  refine Rn.ret1 Try.func30 rfl rfl ?_
  have hr := PD.saveN_2 (s := s) (p := p) q1' (by omega) hm1 q4 hm2 q5
  have hfa : PD.fault m2 next = ((m2.1.remove next).1, m2.2) := if_pos ⟨by omega, q8⟩
  rw [hfa] at hr
  exact ⟨F24, by rw [hr]; first | done | rfl, by rw [hr]; exact d24, e24, fun x hx => (gF24 x hx).imp id fun hh => by omega⟩
  refine Rn.skip (Rn.seq (Rn.reg (Rn.v rfl rfl rfl rfl (V.mv rfl) (Rn.v rfl rfl rfl rfl (V.as rfl) (Rn.regEnd ?_)))))
  refine Rn.ret1 Try.func30 rfl rfl ?_
  have hr := PD.saveN_2 (s := s) (p := p) q1' (by omega) hm1 q4 hm2 q5
  have hfa : PD.fault m2 next = m2 := if_neg (fun hh => by rw [hh.2] at q8; cases q8)
  rw [hfa] at hr
  exact ⟨F22, by rw [hr]; first | done | rfl, by rw [hr]; exact (d22.ext x23), (e22.trans (Ext.fr x23)), fun x hx => (gF22 x hx).imp id fun hh => by omega⟩
  refine Rn.no rfl rfl rfl rfl (Rn.no rfl rfl rfl rfl (Rn.no rfl rfl rfl rfl (Rn.v rfl rfl rfl rfl (V.pkF rfl rfl) (Rn.regEnd (Rn.condF rfl (Rn.skip (Rn.seq (Rn.reg (Rn.v rfl rfl rfl rfl (V.mv rfl) (Rn.v rfl rfl rfl rfl (V.as rfl) (Rn.regEnd ?_)))))))))))
  refine Rn.ret1 Try.func30 rfl rfl ?_
  have hr := PD.saveN_2 (s := s) (p := p) q1' (by omega) hm1 q4 hm2 q5
  have hfa : PD.fault m2 next = m2 := if_neg (fun hh => hh.1 (by omega))
  rw [hfa] at hr
  exact ⟨F22, by rw [hr]; first | done | rfl, by rw [hr]; exact d22, e22, fun x hx => (gF22 x hx).imp id fun hh => by omega⟩
  have hc524 := ok2.2.2
  refine Rn.skip (Rn.seq (Rn.seq (Rn.reg (Rn.v rfl rfl rfl rfl (V.mv rfl) (Rn.v rfl rfl rfl rfl (V.mv rfl) (Rn.cl ck45 rfl rfl rfl rfl (sync_spec _ _ (by omega) d22) ?_))))))
  rintro _ w25 ⟨rfl, F25, d25, x25, hF25⟩
  have e25 : Fr F w w25 := (e22).trans' x25 (fun x hx => by rcases gF22 _ hx with hh | hh; exact .inl hh; exact .inr (by omega))
  have hs25 := x25.size
  refine ⟨_, rfl, ?_⟩
  refine Rn.v rfl rfl rfl rfl (V.as rfl) (Rn.regEnd (Rn.seq (Rn.reg (Rn.v rfl rfl rfl rfl (V.mv rfl) (Rn.v rfl rfl rfl rfl (V.neq rfl rfl) (Rn.regEnd ?_))))))
  have gF25 : ∀ x, F25 x → F x ∨ w2.heap.size ≤ x := fun x hx => by rcases hF25 x hx with hh | hh; exact gF22 x hh; exact .inr (by omega)
  obtain ⟨m3, hm3⟩ : ∃ m, m2.1.sync next = m := ⟨_, rfl⟩
  rw [hm3] at d25
  rw [hm3]
  have ok3 : m3.1.ok 2 := by rw [← hm3]; exact PD.ok.sync (n := 2) ok2 next
  refine Rn.condD rfl (fun q6 => ?_) (fun q6 => ?_)
  refine Rn.goto rfl (Rn.seq (Rn.skip (Rn.seq (Rn.seq (Rn.reg (Rn.v rfl rfl rfl rfl (V.mv rfl) (Rn.v rfl rfl rfl rfl (V.neq rfl rfl) (Rn.v rfl rfl rfl rfl (V.mv rfl) ?_))))))))
  refine Rn.partD (t := 55) rfl (fun q7 => ?_) (fun q7 => ?_)
  refine Rn.v rfl rfl rfl rfl (V.mv rfl) (Rn.v rfl rfl rfl rfl (V.mv rfl) (Rn.cl ck34 rfl rfl rfl rfl (there_spec _ _ d25) ?_))
  rintro _ w26 ⟨rfl, x26⟩
  have hs26 := x26.size
  refine ⟨_, rfl, ?_⟩
  refine Rn.v rfl rfl rfl rfl (V.pkT rfl rfl) (Rn.regEnd ?_)
  refine Rn.condS rfl (fun q8 => ?_) (fun q8 => ?_)
  have hc526 := ok3.2.2
  refine Rn.reg (Rn.v rfl rfl rfl rfl (V.mv rfl) (Rn.v rfl rfl rfl rfl (V.mv rfl) (Rn.cl ck35 rfl rfl rfl rfl (remove_spec _ _ (by omega) (d25.ext x26)) ?_)))
  rintro _ w27 ⟨rfl, F27, d27, x27, hF27⟩
  have e27 : Fr F w w27 := ((e25.trans (Ext.fr x26))).trans' x27 (fun x hx => by rcases gF25 _ hx with hh | hh; exact .inl hh; exact .inr (by omega))
  have hs27 := x27.size
  refine ⟨_, rfl, ?_⟩
  refine Rn.regEnd (Rn.seq (Rn.reg (Rn.v rfl rfl rfl rfl (V.mv rfl) (Rn.v rfl rfl rfl rfl (V.as rfl) (Rn.regEnd ?_)))))
  have gF27 : ∀ x, F27 x → F x ∨ w2.heap.size ≤ x := fun x hx => by rcases hF27 x hx with hh | hh; exact gF25 x hh; exact .inr (by omega)
  refine Rn.ret1 Try.func30 rfl rfl ?_
  have hr := PD.saveN_3 (s := s) (p := p) q1' (by omega) hm1 q4 hm2 q5 hm3 q6
  have hfa : PD.fault m3 next = ((m3.1.remove next).1, m3.2) := if_pos ⟨by omega, q8⟩
  rw [hfa] at hr
  exact ⟨F27, by rw [hr]; first | done | rfl, by rw [hr]; exact d27, e27, fun x hx => (gF27 x hx).imp id fun hh => by omega⟩
  refine Rn.skip (Rn.seq (Rn.reg (Rn.v rfl rfl rfl rfl (V.mv rfl) (Rn.v rfl rfl rfl rfl (V.as rfl) (Rn.regEnd ?_)))))
  refine Rn.ret1 Try.func30 rfl rfl ?_
  have hr := PD.saveN_3 (s := s) (p := p) q1' (by omega) hm1 q4 hm2 q5 hm3 q6
  have hfa : PD.fault m3 next = m3 := if_neg (fun hh => by rw [hh.2] at q8; cases q8)
  rw [hfa] at hr
  exact ⟨F25, by rw [hr]; first | done | rfl, by rw [hr]; exact (d25.ext x26), (e25.trans (Ext.fr x26)), fun x hx => (gF25 x hx).imp id fun hh => by omega⟩
  refine Rn.no rfl rfl rfl rfl (Rn.no rfl rfl rfl rfl (Rn.no rfl rfl rfl rfl (Rn.v rfl rfl rfl rfl (V.pkF rfl rfl) (Rn.regEnd (Rn.condF rfl (Rn.skip (Rn.seq (Rn.reg (Rn.v rfl rfl rfl rfl (V.mv rfl) (Rn.v rfl rfl rfl rfl (V.as rfl) (Rn.regEnd ?_)))))))))))
  refine Rn.ret1 Try.func30 rfl rfl ?_
  have hr := PD.saveN_3 (s := s) (p := p) q1' (by omega) hm1 q4 hm2 q5 hm3 q6
  have hfa : PD.fault m3 next = m3 := if_neg (fun hh => hh.1 (by omega))
  rw [hfa] at hr
  exact ⟨F25, by rw [hr]; first | done | rfl, by rw [hr]; exact d25, e25, fun x hx => (gF25 x hx).imp id fun hh => by omega⟩
  have hc527 := ok3.2.2
  refine Rn.skip (Rn.seq (Rn.seq (Rn.reg (Rn.v rfl rfl rfl rfl (V.mv rfl) (Rn.v rfl rfl rfl rfl (V.mv rfl) (Rn.v rfl rfl rfl rfl (V.mv rfl) (Rn.cl ck46 rfl rfl rfl rfl (rename_spec _ _ _ (by omega) d25) ?_)))))))
  rintro _ w28 ⟨rfl, F28, d28, x28, hF28⟩
  have e28 : Fr F w w28 := (e25).trans' x28 (fun x hx => by rcases gF25 _ hx with hh | hh; exact .inl hh; exact .inr (by omega))
  have hs28 := x28.size
  refine ⟨_, rfl, ?_⟩
  refine Rn.v rfl rfl rfl rfl (V.as rfl) (Rn.regEnd (Rn.seq (Rn.reg (Rn.v rfl rfl rfl rfl (V.mv rfl) (Rn.v rfl rfl rfl rfl (V.eql rfl rfl) (Rn.regEnd ?_))))))
  have gF28 : ∀ x, F28 x → F x ∨ w2.heap.size ≤ x := fun x hx => by rcases hF28 x hx with hh | hh; exact gF25 x hh; exact .inr (by omega)
  obtain ⟨m4, hm4⟩ : ∃ m, m3.1.rename next name = m := ⟨_, rfl⟩
  rw [hm4] at d28
  rw [hm4]
  have ok4 : m4.1.ok 1 := by rw [← hm4]; exact PD.ok.rename (n := 1) ok3 next name
  refine Rn.condD rfl (fun q10 => ?_) (fun q10 => ?_)
  refine Rn.seq (Rn.reg (Rn.v rfl rfl rfl rfl (V.as rfl) (Rn.regEnd ?_)))
  refine Rn.ret1 Try.func30 rfl rfl ?_
  have hr := PD.saveN_4 (s := s) (p := p) q1' (by omega) hm1 q4 hm2 q5 hm3 q6 hm4 q10
  exact ⟨F28, by rw [hr, q10], by rw [hr]; exact d28, e28, fun x hx => (gF28 x hx).imp id fun hh => by omega⟩
  refine Rn.skip (Rn.seq (Rn.label (Rn.seq (Rn.seq (Rn.reg (Rn.v rfl rfl rfl rfl (V.mv rfl) (Rn.v rfl rfl rfl rfl (V.neq rfl rfl) (Rn.v rfl rfl rfl rfl (V.mv rfl) ?_))))))))
  refine Rn.partD (t := 55) rfl (fun q7 => ?_) (fun q7 => ?_)
  refine Rn.v rfl rfl rfl rfl (V.mv rfl) (Rn.v rfl rfl rfl rfl (V.mv rfl) (Rn.cl ck34 rfl rfl rfl rfl (there_spec _ _ d28) ?_))
  rintro _ w29 ⟨rfl, x29⟩
  have hs29 := x29.size
  refine ⟨_, rfl, ?_⟩
  refine Rn.v rfl rfl rfl rfl (V.pkT rfl rfl) (Rn.regEnd ?_)
  refine Rn.condS rfl (fun q8 => ?_) (fun q8 => ?_)
  have hc529 := ok4.2.2
  refine Rn.reg (Rn.v rfl rfl rfl rfl (V.mv rfl) (Rn.v rfl rfl rfl rfl (V.mv rfl) (Rn.cl ck35 rfl rfl rfl rfl (remove_spec _ _ (by omega) (d28.ext x29)) ?_)))
  rintro _ w30 ⟨rfl, F30, d30, x30, hF30⟩
  have e30 : Fr F w w30 := ((e28.trans (Ext.fr x29))).trans' x30 (fun x hx => by rcases gF28 _ hx with hh | hh; exact .inl hh; exact .inr (by omega))
  have hs30 := x30.size
  refine ⟨_, rfl, ?_⟩
  refine Rn.regEnd (Rn.seq (Rn.reg (Rn.v rfl rfl rfl rfl (V.mv rfl) (Rn.v rfl rfl rfl rfl (V.as rfl) (Rn.regEnd ?_)))))
  have gF30 : ∀ x, F30 x → F x ∨ w2.heap.size ≤ x := fun x hx => by rcases hF30 x hx with hh | hh; exact gF28 x hh; exact .inr (by omega)
  refine Rn.ret1 Try.func30 rfl rfl ?_
  have hr := PD.saveN_5 (s := s) (p := p) q1' (by omega) hm1 q4 hm2 q5 hm3 q6 hm4 q10
  have hfa : PD.fault m4 next = ((m4.1.remove next).1, m4.2) := if_pos ⟨by omega, q8⟩
  rw [hfa] at hr
  exact ⟨F30, by rw [hr]; first | done | rfl, by rw [hr]; exact d30, e30, fun x hx => (gF30 x hx).imp id fun hh => by omega⟩
  refine Rn.skip (Rn.seq (Rn.reg (Rn.v rfl rfl rfl rfl (V.mv rfl) (Rn.v rfl rfl rfl rfl (V.as rfl) (Rn.regEnd ?_)))))
  refine Rn.ret1 Try.func30 rfl rfl ?_
  have hr := PD.saveN_5 (s := s) (p := p) q1' (by omega) hm1 q4 hm2 q5 hm3 q6 hm4 q10
  have hfa : PD.fault m4 next = m4 := if_neg (fun hh => by rw [hh.2] at q8; cases q8)
  rw [hfa] at hr
  exact ⟨F28, by rw [hr]; first | done | rfl, by rw [hr]; exact (d28.ext x29), (e28.trans (Ext.fr x29)), fun x hx => (gF28 x hx).imp id fun hh => by omega⟩
  refine Rn.no rfl rfl rfl rfl (Rn.no rfl rfl rfl rfl (Rn.no rfl rfl rfl rfl (Rn.v rfl rfl rfl rfl (V.pkF rfl rfl) (Rn.regEnd (Rn.condF rfl (Rn.skip (Rn.seq (Rn.reg (Rn.v rfl rfl rfl rfl (V.mv rfl) (Rn.v rfl rfl rfl rfl (V.as rfl) (Rn.regEnd ?_)))))))))))
  refine Rn.ret1 Try.func30 rfl rfl ?_
  have hr := PD.saveN_5 (s := s) (p := p) q1' (by omega) hm1 q4 hm2 q5 hm3 q6 hm4 q10
  have hfa : PD.fault m4 next = m4 := if_neg (fun hh => hh.1 (by omega))
  rw [hfa] at hr
  exact ⟨F28, by rw [hr]; first | done | rfl, by rw [hr]; exact d28, e28, fun x hx => (gF28 x hx).imp id fun hh => by omega⟩
  exact absurd rfl q9

end Go.Proofs.Ytpeloppldpdonaa
