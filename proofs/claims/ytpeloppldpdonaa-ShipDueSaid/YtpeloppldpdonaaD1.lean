/-
  Walks of functions of the program, group D1: what each call answers, and what stays of the memory.
-/
import Derived.Test.YtpeloppldpdonaaC7
namespace Go.Proofs.Ytpeloppldpdonaa
open Go Go.RowKit Go.Wk
theorem ck33 : CallOk Try.prog 33 := ⟨_, _, Try.func33, rfl, by kernel_rfl⟩
theorem ck34 : CallOk Try.prog 34 := ⟨_, _, Try.func34, rfl, by kernel_rfl⟩
theorem ck35 : CallOk Try.prog 35 := ⟨_, _, Try.func35, rfl, by kernel_rfl⟩
theorem ck36 : CallOk Try.prog 36 := ⟨_, _, Try.func36, rfl, by kernel_rfl⟩
theorem ck37 : CallOk Try.prog 37 := ⟨_, _, Try.func37, rfl, by kernel_rfl⟩
theorem ck47 : CallOk Try.prog 47 := ⟨_, _, Try.func47, rfl, by kernel_rfl⟩
set_option maxRecDepth 20000 in
theorem there_spec {b : Nat} {F : Nat → Prop} {s : PD} (name : List UInt8) (w : World) (h : DkAt 54 59 5 w b F s) :
    Calls Try.prog 34 #[.pointer (some ⟨b, 0, none⟩), Str name] w fun x w' => x = .returned (.bool (s.there name)) ∧ Ext w w' := by
  refine Rn.enter Try.func34 rfl rfl (Nat.le_of_ble_eq_true rfl) ?_
  refine Rn.seq (Rn.reg (Rn.v rfl rfl rfl rfl (V.as rfl) (Rn.regEnd (Rn.seq (Rn.reg (Rn.v rfl rfl rfl rfl (V.mv rfl) (Rn.v rfl rfl rfl rfl (V.mv rfl) (Rn.cl ck47 rfl rfl rfl rfl (size_spec _ _ h) ?_))))))))
  rintro _ w1 ⟨x1, (⟨hb1, rfl⟩ | ⟨hb1, hf1, rfl⟩ | ⟨f1, hb1, hf1, rfl⟩)⟩
  refine ⟨_, rfl, ?_⟩
  refine Rn.v rfl rfl rfl rfl (V.mv rfl) (Rn.v rfl rfl rfl rfl (V.ext rfl rfl) (Rn.v rfl rfl rfl rfl (V.ext rfl rfl) (Rn.v rfl rfl rfl rfl (V.ext rfl rfl) (Rn.v rfl rfl rfl rfl (V.as rfl) (Rn.v rfl rfl rfl rfl (V.as rfl) (Rn.v rfl rfl rfl rfl (V.as rfl) (Rn.regEnd (Rn.seq (Rn.reg (Rn.v rfl rfl rfl rfl (V.mv rfl) (Rn.v rfl rfl rfl rfl (V.eql rfl rfl) (Rn.v rfl rfl rfl rfl (V.as rfl) (Rn.regEnd ?_)))))))))))))
  refine Rn.ret1 Try.func34 rfl rfl ?_
  exact ⟨by simp [PD.there, hb1], x1⟩
  refine ⟨_, rfl, ?_⟩
  refine Rn.v rfl rfl rfl rfl (V.mv rfl) (Rn.v rfl rfl rfl rfl (V.ext rfl rfl) (Rn.v rfl rfl rfl rfl (V.ext rfl rfl) (Rn.v rfl rfl rfl rfl (V.ext rfl rfl) (Rn.v rfl rfl rfl rfl (V.as rfl) (Rn.v rfl rfl rfl rfl (V.as rfl) (Rn.v rfl rfl rfl rfl (V.as rfl) (Rn.regEnd (Rn.seq (Rn.reg (Rn.v rfl rfl rfl rfl (V.mv rfl) (Rn.v rfl rfl rfl rfl (V.eql rfl rfl) (Rn.v rfl rfl rfl rfl (V.as rfl) (Rn.regEnd ?_)))))))))))))
  refine Rn.ret1 Try.func34 rfl rfl ?_
  exact ⟨by simp [PD.there, hb1, hf1], x1⟩
  refine ⟨_, rfl, ?_⟩
  refine Rn.v rfl rfl rfl rfl (V.mv rfl) (Rn.v rfl rfl rfl rfl (V.ext rfl rfl) (Rn.v rfl rfl rfl rfl (V.ext rfl rfl) (Rn.v rfl rfl rfl rfl (V.ext rfl rfl) (Rn.v rfl rfl rfl rfl (V.as rfl) (Rn.v rfl rfl rfl rfl (V.as rfl) (Rn.v rfl rfl rfl rfl (V.as rfl) (Rn.regEnd (Rn.seq (Rn.reg (Rn.v rfl rfl rfl rfl (V.mv rfl) (Rn.v rfl rfl rfl rfl (V.eql rfl rfl) (Rn.v rfl rfl rfl rfl (V.as rfl) (Rn.regEnd ?_)))))))))))))
  refine Rn.ret1 Try.func34 rfl rfl ?_
  exact ⟨by simp [PD.there, hb1, hf1], x1⟩

set_option maxRecDepth 20000 in
theorem load_spec {b : Nat} {F : Nat → Prop} {s : PD} (name : List UInt8) (w : World) (hn : name.length ≤ 4294967296) (hok : s.ok 1) (h : DkAt 54 59 5 w b F s) :
    Calls Try.prog 22 #[.pointer (some ⟨b, 0, none⟩), Str name] w fun x w' => ∃ A c F', x = .returned (.tuple #[.slice A (s.load name).2.b.length c, .bool (s.load name).2.is, .int .i64 (s.load name).2.e]) ∧ Own w.heap.size No w' 5 A c byteR (s.load name).2.b ∧ DkAt 54 59 5 w' b F' (s.load name).1 ∧ Fr F w w' ∧ (∀ x, F' x → F x ∨ w.heap.size ≤ x) := by
  refine Rn.enter Try.func22 rfl rfl (Nat.le_of_ble_eq_true rfl) ?_
  refine Rn.seq (Rn.reg (Rn.v rfl rfl rfl rfl (V.as rfl) (Rn.v rfl rfl rfl rfl (V.as rfl) (Rn.v rfl rfl rfl rfl (V.as rfl) (Rn.regEnd (Rn.seq (Rn.seq (Rn.reg (Rn.v rfl rfl rfl rfl (V.mv rfl) (Rn.cl ck33 rfl rfl rfl rfl (down_spec _ h) ?_))))))))))
  rintro _ _ ⟨rfl, rfl⟩
  refine ⟨_, rfl, ?_⟩
  refine Rn.regEnd ?_
  refine Rn.condS rfl (fun q1 => ?_) (fun q1 => ?_)
  refine Rn.seq (Rn.reg (Rn.v rfl rfl rfl rfl (V.as rfl) (Rn.v rfl rfl rfl rfl (V.as rfl) (Rn.v rfl rfl rfl rfl (V.as rfl) (Rn.regEnd ?_)))))
  refine Rn.ret3 Try.func22 rfl rfl rfl rfl ?_
  have hl : s.load name = (s, ⟨[], false, 13⟩) := if_pos q1
  exact ⟨none, 0, F, by rw [hl]; rfl, by rw [hl]; exact Own.nil _ _ _ _ _, by rw [hl]; exact h, (Fr.refl _ _), fun x hx => .inl hx⟩
  have hc := hok.2.2
  refine Rn.skip (Rn.seq (Rn.seq (Rn.reg (Rn.v rfl rfl rfl rfl (V.mv rfl) (Rn.v rfl rfl rfl rfl (V.mv rfl) (Rn.v rfl rfl rfl rfl (V.catS rfl rfl (by first | omega | (simp; done) | (simp; omega))) (Rn.cl ck34 rfl rfl rfl rfl (there_spec _ _ h) ?_)))))))
  rintro _ w2 ⟨rfl, x2⟩
  have hs2 := x2.size
  refine ⟨_, rfl, ?_⟩
  refine Rn.regEnd ?_
  refine Rn.condS rfl (fun q2 => ?_) (fun q2 => ?_)
  have ht : s.tidy name = s.remove (name ++ newB) := if_pos q2
  refine Rn.seq (Rn.reg (Rn.v rfl rfl rfl rfl (V.mv rfl) (Rn.v rfl rfl rfl rfl (V.mv rfl) (Rn.v rfl rfl rfl rfl (V.catS rfl rfl (by first | omega | (simp; done) | (simp; omega))) (Rn.cl ck35 rfl rfl rfl rfl (remove_spec _ _ (by omega) (h.ext x2)) ?_)))))
  rintro _ w3 ⟨rfl, F3, d3, x3, hF3⟩
  have e3 : Fr F w w3 := (((Fr.refl F _).trans (Ext.fr x2))).trans' x3 (fun x hx => by exact .inl hx)
  have hs3 := x3.size
  refine ⟨_, rfl, ?_⟩
  refine Rn.v rfl rfl rfl rfl (V.as rfl) (Rn.regEnd (Rn.seq (Rn.reg (Rn.v rfl rfl rfl rfl (V.mv rfl) (Rn.v rfl rfl rfl rfl (V.neq rfl rfl) (Rn.regEnd ?_))))))
  have gF : ∀ x, F3 x → F x ∨ w.heap.size ≤ x := fun x hx => by rcases hF3 x hx with hh | hh; exact .inl hh; exact .inr (by omega)
  refine Rn.condD rfl (fun q3 => ?_) (fun q3 => ?_)
  refine Rn.seq (Rn.reg (Rn.v rfl rfl rfl rfl (V.mv rfl) (Rn.v rfl rfl rfl rfl (V.as rfl) (Rn.v rfl rfl rfl rfl (V.as rfl) (Rn.v rfl rfl rfl rfl (V.as rfl) (Rn.regEnd ?_))))))
  refine Rn.ret3 Try.func22 rfl rfl rfl rfl ?_
  have hl : s.load name = ((s.tidy name).1, ⟨[], false, (s.tidy name).2⟩) := by unfold PD.load; rw [if_neg (by simpa using q1), if_pos (by rw [ht]; exact q3)]
  rw [ht] at hl
  exact ⟨none, 0, F3, by rw [hl]; rfl, by rw [hl]; exact Own.nil _ _ _ _ _, by rw [hl]; exact d3, e3, gF⟩
  have h0 : (s.tidy name).2 = 0 := by rw [ht]; exact Decidable.of_not_not q3
  have hst : (s.tidy name).1 = (s.remove (name ++ newB)).1 := by rw [ht]
  have hu : (s.tidy name).1.down = false := s.tidy_up name (by simpa using q1) h0
  have hok2 : (s.tidy name).1.ok 0 := hok.tidy name
  have hup : s.down = false := by simpa using q1
  rw [hst] at hu hok2
  refine Rn.skip (Rn.seq (Rn.reg (Rn.v rfl rfl rfl rfl (V.mv rfl) (Rn.v rfl rfl rfl rfl (V.mv rfl) (Rn.cl ck36 rfl rfl rfl rfl (read_spec _ _ ⟨hok2.1, hok2.2.1⟩ d3) ?_)))))
  rintro _ w4 ⟨x4, (⟨hb4, rfl⟩ | ⟨hb4, hf4, rfl⟩ | ⟨f4, A4, c4, hb4, hf4, rfl, o4⟩)⟩
  have hs4 := x4.size
  refine ⟨_, rfl, ?_⟩
  refine Rn.v rfl rfl rfl rfl (V.mv rfl) (Rn.v rfl rfl rfl rfl (V.ext rfl rfl) (Rn.v rfl rfl rfl rfl (V.ext rfl rfl) (Rn.v rfl rfl rfl rfl (V.as rfl) (Rn.v rfl rfl rfl rfl (V.as rfl) (Rn.regEnd (Rn.seq (Rn.seq (Rn.reg (Rn.v rfl rfl rfl rfl (V.mv rfl) (Rn.v rfl rfl rfl rfl (V.eql rfl rfl) (Rn.regEnd ?_)))))))))))
  refine Rn.condD rfl (fun q4 => ?_) (fun q4 => ?_)
  exact absurd q4 (by decide)
  rw [hu] at hb4; cases hb4
  have hs4 := x4.size
  refine ⟨_, rfl, ?_⟩
  refine Rn.v rfl rfl rfl rfl (V.mv rfl) (Rn.v rfl rfl rfl rfl (V.ext rfl rfl) (Rn.v rfl rfl rfl rfl (V.ext rfl rfl) (Rn.v rfl rfl rfl rfl (V.as rfl) (Rn.v rfl rfl rfl rfl (V.as rfl) (Rn.regEnd (Rn.seq (Rn.seq (Rn.reg (Rn.v rfl rfl rfl rfl (V.mv rfl) (Rn.v rfl rfl rfl rfl (V.eql rfl rfl) (Rn.regEnd ?_)))))))))))
  refine Rn.condD rfl (fun q4 => ?_) (fun q4 => ?_)
  refine Rn.seq (Rn.reg (Rn.v rfl rfl rfl rfl (V.as rfl) (Rn.v rfl rfl rfl rfl (V.as rfl) (Rn.v rfl rfl rfl rfl (V.as rfl) (Rn.regEnd ?_)))))
  refine Rn.ret3 Try.func22 rfl rfl rfl rfl ?_
  have hlb := PD.load_none hup h0 (by rw [hst]; exact hf4)
  rw [hst] at hlb
  exact ⟨none, 0, F3, by rw [hlb]; rfl, by rw [hlb]; exact Own.nil _ _ _ _ _, by rw [hlb]; exact (d3.ext x4), (e3.trans (Ext.fr x4)), gF⟩
  exact absurd rfl q4
  have hs4 := x4.size
  refine ⟨_, rfl, ?_⟩
  refine Rn.v rfl rfl rfl rfl (V.mv rfl) (Rn.v rfl rfl rfl rfl (V.ext rfl rfl) (Rn.v rfl rfl rfl rfl (V.ext rfl rfl) (Rn.v rfl rfl rfl rfl (V.as rfl) (Rn.v rfl rfl rfl rfl (V.as rfl) (Rn.regEnd (Rn.seq (Rn.seq (Rn.reg (Rn.v rfl rfl rfl rfl (V.mv rfl) (Rn.v rfl rfl rfl rfl (V.eql rfl rfl) (Rn.regEnd ?_)))))))))))
  refine Rn.condD rfl (fun q4 => ?_) (fun q4 => ?_)
  exact absurd q4 (by decide)
  have hfl := find_le_used hf4
  have hcu := hok2.1
  have hcm := hok2.2.1
  have hcc := o4.le.1
  refine Rn.skip (Rn.seq (Rn.reg (Rn.v rfl rfl rfl rfl (V.mv rfl) (Rn.cl ck37 rfl rfl rfl rfl (first_spec _ _ _ _ _ (by omega) rfl hcc o4.sl) ?_))))
  rintro _ w5 ⟨A5, c5, rfl, o5, x5⟩
  have hs5 := x5.size
  refine ⟨_, rfl, ?_⟩
  refine Rn.v rfl rfl rfl rfl (V.mv rfl) (Rn.v rfl rfl rfl rfl (V.ext rfl rfl) (Rn.v rfl rfl rfl rfl (V.ext rfl rfl) (Rn.v rfl rfl rfl rfl (V.ext rfl rfl) (Rn.v rfl rfl rfl rfl (V.as rfl) (Rn.v rfl rfl rfl rfl (V.as rfl) (Rn.v rfl rfl rfl rfl (V.as rfl) (Rn.regEnd (Rn.seq (Rn.seq (Rn.reg (Rn.v rfl rfl rfl rfl (V.mv rfl) (Rn.v rfl rfl rfl rfl (V.neq rfl rfl) (Rn.v rfl rfl rfl rfl (V.mv rfl) ?_)))))))))))))
  refine Rn.partD (t := 39) rfl (fun q5 => ?_) (fun q5 => ?_)
  refine Rn.no rfl rfl rfl rfl (Rn.no rfl rfl rfl rfl (Rn.no rfl rfl rfl rfl (Rn.no rfl rfl rfl rfl (Rn.v rfl rfl rfl rfl (V.pkT rfl rfl) (Rn.regEnd (Rn.condT rfl (Rn.seq (Rn.reg (Rn.v rfl rfl rfl rfl (V.as rfl) (Rn.v rfl rfl rfl rfl (V.as rfl) (Rn.v rfl rfl rfl rfl (V.as rfl) (Rn.regEnd ?_))))))))))))
  refine Rn.ret3 Try.func22 rfl rfl rfl rfl ?_
  have hlb := PD.load_bad hup h0 (by rw [hst]; exact hf4) (.inl (by omega))
  rw [hst] at hlb
  exact ⟨none, 0, F3, by rw [hlb]; rfl, by rw [hlb]; exact Own.nil _ _ _ _ _, by rw [hlb]; exact ((d3.ext x4).ext x5), ((e3.trans (Ext.fr x4)).trans (Ext.fr x5)), gF⟩
  refine Rn.v rfl rfl rfl rfl (V.mv rfl) (Rn.v rfl rfl rfl rfl (V.mv rfl) (Rn.v rfl rfl rfl rfl (V.lenV Try.underlying22 rfl) (Rn.v rfl rfl rfl rfl (V.neq rfl rfl) (Rn.v rfl rfl rfl rfl (V.pkF rfl rfl) (Rn.regEnd ?_)))))
  refine Rn.condD rfl (fun q6 => ?_) (fun q6 => ?_)
  refine Rn.seq (Rn.reg (Rn.v rfl rfl rfl rfl (V.as rfl) (Rn.v rfl rfl rfl rfl (V.as rfl) (Rn.v rfl rfl rfl rfl (V.as rfl) (Rn.regEnd ?_)))))
  refine Rn.ret3 Try.func22 rfl rfl rfl rfl ?_
  have hlb := PD.load_bad hup h0 (by rw [hst]; exact hf4) (.inr (by omega))
  rw [hst] at hlb
  exact ⟨none, 0, F3, by rw [hlb]; rfl, by rw [hlb]; exact Own.nil _ _ _ _ _, by rw [hlb]; exact ((d3.ext x4).ext x5), ((e3.trans (Ext.fr x4)).trans (Ext.fr x5)), gF⟩
  refine Rn.skip (Rn.seq (Rn.reg (Rn.v rfl rfl rfl rfl (V.mv rfl) (Rn.v rfl rfl rfl rfl (V.as rfl) (Rn.v rfl rfl rfl rfl (V.as rfl) (Rn.v rfl rfl rfl rfl (V.as rfl) (Rn.regEnd ?_)))))))
  refine Rn.ret3 Try.func22 rfl rfl rfl rfl ?_
  have hlb := PD.load_good hup h0 (by rw [hst]; exact hf4) (by omega)
  rw [hst] at hlb
  exact ⟨A5, c5, F3, by rw [hlb]; first | done | rfl, by rw [hlb]; exact o5.lower ((e3.trans (Ext.fr x4))).size, by rw [hlb]; exact ((d3.ext x4).ext x5), ((e3.trans (Ext.fr x4)).trans (Ext.fr x5)), gF⟩
  have ht : s.tidy name = (s, 0) := if_neg (by show ¬ s.there (name ++ [46, 110, 101, 119]) = true; rw [q2]; simp)
  have h0 : (s.tidy name).2 = 0 := by rw [ht]
  have hst : (s.tidy name).1 = s := by rw [ht]
  have hu : (s.tidy name).1.down = false := s.tidy_up name (by simpa using q1) h0
  have hok2 : (s.tidy name).1.ok 0 := hok.tidy name
  have hup : s.down = false := by simpa using q1
  rw [hst] at hu hok2
  refine Rn.skip (Rn.seq (Rn.reg (Rn.v rfl rfl rfl rfl (V.mv rfl) (Rn.v rfl rfl rfl rfl (V.mv rfl) (Rn.cl ck36 rfl rfl rfl rfl (read_spec _ _ ⟨hok2.1, hok2.2.1⟩ (h.ext x2)) ?_)))))
  rintro _ w6 ⟨x6, (⟨hb6, rfl⟩ | ⟨hb6, hf6, rfl⟩ | ⟨f6, A6, c6, hb6, hf6, rfl, o6⟩)⟩
  have hs6 := x6.size
  refine ⟨_, rfl, ?_⟩
  refine Rn.v rfl rfl rfl rfl (V.mv rfl) (Rn.v rfl rfl rfl rfl (V.ext rfl rfl) (Rn.v rfl rfl rfl rfl (V.ext rfl rfl) (Rn.v rfl rfl rfl rfl (V.as rfl) (Rn.v rfl rfl rfl rfl (V.as rfl) (Rn.regEnd (Rn.seq (Rn.seq (Rn.reg (Rn.v rfl rfl rfl rfl (V.mv rfl) (Rn.v rfl rfl rfl rfl (V.eql rfl rfl) (Rn.regEnd ?_)))))))))))
  refine Rn.condD rfl (fun q4 => ?_) (fun q4 => ?_)
  exact absurd q4 (by decide)
  rw [hu] at hb6; cases hb6
  have hs6 := x6.size
  refine ⟨_, rfl, ?_⟩
  refine Rn.v rfl rfl rfl rfl (V.mv rfl) (Rn.v rfl rfl rfl rfl (V.ext rfl rfl) (Rn.v rfl rfl rfl rfl (V.ext rfl rfl) (Rn.v rfl rfl rfl rfl (V.as rfl) (Rn.v rfl rfl rfl rfl (V.as rfl) (Rn.regEnd (Rn.seq (Rn.seq (Rn.reg (Rn.v rfl rfl rfl rfl (V.mv rfl) (Rn.v rfl rfl rfl rfl (V.eql rfl rfl) (Rn.regEnd ?_)))))))))))
  refine Rn.condD rfl (fun q4 => ?_) (fun q4 => ?_)
  refine Rn.seq (Rn.reg (Rn.v rfl rfl rfl rfl (V.as rfl) (Rn.v rfl rfl rfl rfl (V.as rfl) (Rn.v rfl rfl rfl rfl (V.as rfl) (Rn.regEnd ?_)))))
  refine Rn.ret3 Try.func22 rfl rfl rfl rfl ?_
  have hlb := PD.load_none hup h0 (by rw [hst]; exact hf6)
  rw [hst] at hlb
  exact ⟨none, 0, F, by rw [hlb]; rfl, by rw [hlb]; exact Own.nil _ _ _ _ _, by rw [hlb]; exact ((h.ext x2).ext x6), (((Fr.refl F _).trans (Ext.fr x2)).trans (Ext.fr x6)), fun x hx => .inl hx⟩
  exact absurd rfl q4
  have hs6 := x6.size
  refine ⟨_, rfl, ?_⟩
  refine Rn.v rfl rfl rfl rfl (V.mv rfl) (Rn.v rfl rfl rfl rfl (V.ext rfl rfl) (Rn.v rfl rfl rfl rfl (V.ext rfl rfl) (Rn.v rfl rfl rfl rfl (V.as rfl) (Rn.v rfl rfl rfl rfl (V.as rfl) (Rn.regEnd (Rn.seq (Rn.seq (Rn.reg (Rn.v rfl rfl rfl rfl (V.mv rfl) (Rn.v rfl rfl rfl rfl (V.eql rfl rfl) (Rn.regEnd ?_)))))))))))
  refine Rn.condD rfl (fun q4 => ?_) (fun q4 => ?_)
  exact absurd q4 (by decide)
  have hfl := find_le_used hf6
  have hcu := hok2.1
  have hcm := hok2.2.1
  have hcc := o6.le.1
  refine Rn.skip (Rn.seq (Rn.reg (Rn.v rfl rfl rfl rfl (V.mv rfl) (Rn.cl ck37 rfl rfl rfl rfl (first_spec _ _ _ _ _ (by omega) rfl hcc o6.sl) ?_))))
  rintro _ w7 ⟨A7, c7, rfl, o7, x7⟩
  have hs7 := x7.size
  refine ⟨_, rfl, ?_⟩
  refine Rn.v rfl rfl rfl rfl (V.mv rfl) (Rn.v rfl rfl rfl rfl (V.ext rfl rfl) (Rn.v rfl rfl rfl rfl (V.ext rfl rfl) (Rn.v rfl rfl rfl rfl (V.ext rfl rfl) (Rn.v rfl rfl rfl rfl (V.as rfl) (Rn.v rfl rfl rfl rfl (V.as rfl) (Rn.v rfl rfl rfl rfl (V.as rfl) (Rn.regEnd (Rn.seq (Rn.seq (Rn.reg (Rn.v rfl rfl rfl rfl (V.mv rfl) (Rn.v rfl rfl rfl rfl (V.neq rfl rfl) (Rn.v rfl rfl rfl rfl (V.mv rfl) ?_)))))))))))))
  refine Rn.partD (t := 39) rfl (fun q5 => ?_) (fun q5 => ?_)
  refine Rn.no rfl rfl rfl rfl (Rn.no rfl rfl rfl rfl (Rn.no rfl rfl rfl rfl (Rn.no rfl rfl rfl rfl (Rn.v rfl rfl rfl rfl (V.pkT rfl rfl) (Rn.regEnd (Rn.condT rfl (Rn.seq (Rn.reg (Rn.v rfl rfl rfl rfl (V.as rfl) (Rn.v rfl rfl rfl rfl (V.as rfl) (Rn.v rfl rfl rfl rfl (V.as rfl) (Rn.regEnd ?_))))))))))))
  refine Rn.ret3 Try.func22 rfl rfl rfl rfl ?_
  have hlb := PD.load_bad hup h0 (by rw [hst]; exact hf6) (.inl (by omega))
  rw [hst] at hlb
  exact ⟨none, 0, F, by rw [hlb]; rfl, by rw [hlb]; exact Own.nil _ _ _ _ _, by rw [hlb]; exact (((h.ext x2).ext x6).ext x7), ((((Fr.refl F _).trans (Ext.fr x2)).trans (Ext.fr x6)).trans (Ext.fr x7)), fun x hx => .inl hx⟩
  refine Rn.v rfl rfl rfl rfl (V.mv rfl) (Rn.v rfl rfl rfl rfl (V.mv rfl) (Rn.v rfl rfl rfl rfl (V.lenV Try.underlying22 rfl) (Rn.v rfl rfl rfl rfl (V.neq rfl rfl) (Rn.v rfl rfl rfl rfl (V.pkF rfl rfl) (Rn.regEnd ?_)))))
  refine Rn.condD rfl (fun q6 => ?_) (fun q6 => ?_)
  refine Rn.seq (Rn.reg (Rn.v rfl rfl rfl rfl (V.as rfl) (Rn.v rfl rfl rfl rfl (V.as rfl) (Rn.v rfl rfl rfl rfl (V.as rfl) (Rn.regEnd ?_)))))
  refine Rn.ret3 Try.func22 rfl rfl rfl rfl ?_
  have hlb := PD.load_bad hup h0 (by rw [hst]; exact hf6) (.inr (by omega))
  rw [hst] at hlb
  exact ⟨none, 0, F, by rw [hlb]; rfl, by rw [hlb]; exact Own.nil _ _ _ _ _, by rw [hlb]; exact (((h.ext x2).ext x6).ext x7), ((((Fr.refl F _).trans (Ext.fr x2)).trans (Ext.fr x6)).trans (Ext.fr x7)), fun x hx => .inl hx⟩
  refine Rn.skip (Rn.seq (Rn.reg (Rn.v rfl rfl rfl rfl (V.mv rfl) (Rn.v rfl rfl rfl rfl (V.as rfl) (Rn.v rfl rfl rfl rfl (V.as rfl) (Rn.v rfl rfl rfl rfl (V.as rfl) (Rn.regEnd ?_)))))))
  refine Rn.ret3 Try.func22 rfl rfl rfl rfl ?_
  have hlb := PD.load_good hup h0 (by rw [hst]; exact hf6) (by omega)
  rw [hst] at hlb
  exact ⟨A7, c7, F, by rw [hlb]; first | done | rfl, by rw [hlb]; exact o7.lower ((((Fr.refl F _).trans (Ext.fr x2)).trans (Ext.fr x6))).size, by rw [hlb]; exact (((h.ext x2).ext x6).ext x7), ((((Fr.refl F _).trans (Ext.fr x2)).trans (Ext.fr x6)).trans (Ext.fr x7)), fun x hx => .inl hx⟩

end Go.Proofs.Ytpeloppldpdonaa
