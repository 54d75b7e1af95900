/-
  Walks of functions of the program, group B2: what each call answers, and what stays of the memory.
-/
import Derived.Test.YtpeloppldpdonaaB1
namespace Go.Proofs.Ytpeloppldpdonaa
open Go Go.RowKit Go.Wk
theorem ck38 : CallOk Try.prog 38 := ⟨_, _, Try.func38, rfl, by kernel_rfl⟩
theorem st80 : StOk Try.prog 80 [.int .u64 0, .int .i64 0, .int .i64 0] [(0, 1), (1, 1), (2, 1)] := ⟨Try.zeroValue80, _, Try.underlying80, fun w => by kernel_rfl⟩
theorem st102 : StOk Try.prog 102 [.slice none 0 0] [(0, 1)] := ⟨Try.zeroValue102, _, Try.underlying102, fun w => by kernel_rfl⟩
set_option maxRecDepth 20000 in
theorem fix_spec (r : Nat) (s : RS) (w : World) (hs : s.ok) (h : RdrAt w r s) :
    Calls Try.prog 24 #[.pointer (some ⟨r, 0, none⟩)] w fun x w' => x = .returned (.int .u64 s.fix.1) ∧ RdrAt w' r s.fix.2 ∧ Fr (fun b => b = r) w w' := by
  refine Rn.enter Try.func24 rfl rfl (Nat.le_of_ble_eq_true rfl) ?_
  refine Rn.seq (Rn.reg (Rn.v rfl rfl rfl rfl (V.as rfl) (Rn.regEnd (Rn.seq (Rn.reg (Rn.v rfl rfl rfl rfl (V.as rfl) (Rn.regEnd (Rn.seq (Rn.seq (Rn.reg (Rn.v rfl rfl rfl rfl (V.mv rfl) (Rn.cl ck38 rfl rfl rfl rfl (raw_spec r s 8 _ hs (by omega) h) ?_))))))))))))
  rintro _ w1 ⟨A1, c1, rfl, o1, d1, x1⟩
  have e1 : Fr (fun b => b = r) w w1 := ((Fr.refl _ _)).trans' x1 (fun x hx => by first | exact .inl hx | exact .inr (by subst hx; omega))
  refine ⟨_, rfl, ?_⟩
  refine Rn.v rfl rfl rfl rfl (V.lenV Try.underlying22 rfl) (Rn.v rfl rfl rfl rfl (V.mv rfl) (Rn.regEnd (Rn.block ?_)))
  have hrl := s.raw_len 8 hs
  obtain ⟨l, hl⟩ : ∃ l, (s.raw 8).1 = l := ⟨_, rfl⟩
  rw [hl] at o1 hrl
  have hfx : s.fix.1 = numL l := by unfold RS.fix; rw [hl]
  rw [hl]
  refine Rn.loopI (G := Nat) (fun g => [(3, I64 (UInt64.ofNat (numL (l.take g)))), (7, .slice A1 l.length c1), (8, .int .i64 l.length), (9, .int .i64 g), (0, .pointer (some ⟨r, 0, none⟩))]) (fun g w' => g ≤ l.length ∧ w1 = w') (fun g => l.length - g) 0 ?_ ?_ ?_
  · exact Sub.cons rfl (Sub.cons rfl (Sub.cons (lki _ rfl (by first | omega | rfl | (dsimp only; omega))) (Sub.cons (lki _ rfl (by first | omega | rfl | (dsimp only; omega))) (Sub.cons rfl (Sub.nil _)))))
  · exact ⟨by omega, rfl⟩
  rintro i _ ⟨hi, rfl⟩ hn2
  refine Rn.seq (Rn.reg (Rn.v rfl rfl rfl rfl (V.lss rfl rfl) (Rn.regEnd (Rn.seq ?_))))
  refine Rn.condD rfl (fun hlt => ?_) (fun hlt => ?_)
  obtain ⟨z, hz⟩ : ∃ z, l[i]? = some z := ⟨_, List.getElem?_eq_getElem (by omega)⟩
  refine Rn.skip (Rn.seq (Rn.block (Rn.seq (Rn.reg (Rn.v rfl rfl rfl rfl (V.mv rfl) (Rn.ix i z rfl rfl rfl Try.underlying22 Try.sizeOf5 rfl rfl o1.sl rfl hz rfl (by omega) ?_))))))
  rintro b3 o3 vs3 r3 ⟨rfl, _⟩ hD3
  refine Rn.v rfl rfl rfl rfl (V.ldR0 Try.isAgg5 rfl r3 rfl) (Rn.v rfl rfl rfl rfl (V.as rfl) (Rn.v rfl rfl rfl rfl (V.as rfl) (Rn.regEnd (Rn.reg (Rn.v rfl rfl rfl rfl (V.mv rfl) (Rn.v rfl rfl rfl rfl (V.mv rfl) (Rn.v rfl rfl rfl rfl (V.cv864 Try.underlying5 Try.underlying73 rfl _ rfl) (Rn.v rfl rfl rfl rfl (V.mv rfl) (Rn.v rfl rfl rfl rfl (V.mulI rfl rfl (w64 (by omega) (by omega))) (Rn.v rfl rfl rfl rfl (V.cvI Try.underlying3 Try.underlying97 rfl (wu64 (by omega) (by omega))) (Rn.v rfl rfl rfl rfl (V.sh64 rfl rfl z.toUInt64 (8 * i) rfl (by push_cast; rfl) (b64_shl _ _ _ (8 * i) (by omega))) (Rn.v rfl rfl rfl rfl (V.o64 rfl rfl _ _ rfl rfl (b64_or _ _ _)) (Rn.v rfl rfl rfl rfl (V.as rfl) (Rn.regEnd (Rn.inBlock (Rn.reg (Rn.v rfl rfl rfl rfl (V.addI rfl rfl (w64 (by omega) (by omega))) (Rn.v rfl rfl rfl rfl (V.mv rfl) (Rn.regEnd ?_)))))))))))))))))))
  exact hn2 (i+1) _ _ (Sub.cons (lkv _ rfl (by rw [fix_step l i z (by omega) hz])) (Sub.cons rfl (Sub.cons (lki _ rfl (by first | omega | rfl | (dsimp only; omega))) (Sub.cons (lki _ rfl (by first | omega | rfl | (dsimp only; omega))) (Sub.cons rfl (Sub.nil _)))))) (⟨by omega, rfl⟩) (by omega)
  refine Rn.exit rfl (Rn.seq (Rn.reg (Rn.v rfl rfl rfl rfl (V.mv rfl) (Rn.v rfl rfl rfl rfl (V.as rfl) (Rn.regEnd ?_)))))
  refine Rn.ret1 Try.func24 rfl rfl ?_
  have hil : i = l.length := by omega
  subst hil
  exact ⟨by rw [hfx, List.take_length, I64, UInt64.toNat_ofNat', Nat.mod_eq_of_lt (numL_lt8 l (by omega))], d1, x1⟩

set_option maxRecDepth 20000 in
theorem done_spec (r : Nat) (s : RS) (w : World) (hs : s.ok) (h : RdrAt w r s) :
    Calls Try.prog 25 #[.pointer (some ⟨r, 0, none⟩)] w fun x w' => x = .returned (.int .i64 s.done) ∧ Ext w w' := by
  have hD := h
  obtain ⟨A, c, hB, hS, hc⟩ := h
  have hs' := hs
  obtain ⟨h1, h2, h3⟩ := hs
  refine Rn.enter Try.func25 rfl rfl (Nat.le_of_ble_eq_true rfl) ?_
  refine Rn.seq (Rn.reg (Rn.v rfl rfl rfl rfl (V.as rfl) (Rn.regEnd (Rn.seq (Rn.seq (Rn.reg (Rn.v rfl rfl rfl rfl (V.mv rfl) (Rn.v rfl rfl rfl rfl (V.nil rfl) (Rn.v rfl rfl rfl rfl (V.fa Try.underlying95 rfl Try.sizeOf32 rfl rfl) (Rn.v rfl rfl rfl rfl (V.ldB Try.isAgg32 rfl hB rfl) (Rn.v rfl rfl rfl rfl (V.eql rfl rfl) (Rn.v rfl rfl rfl rfl (V.mv rfl) ?_))))))))))))
  refine Rn.partD (t := 8) rfl (fun e1 => ?_) (fun e1 => ?_)
  refine Rn.v rfl rfl rfl rfl (V.mv rfl) (Rn.cl ck39 rfl rfl rfl rfl (left_spec r s _ hs' hD) ?_)
  rintro _ w1 ⟨rfl, x1⟩
  refine ⟨_, rfl, ?_⟩
  refine Rn.v rfl rfl rfl rfl (V.gtr rfl rfl) (Rn.v rfl rfl rfl rfl (V.pkT rfl rfl) (Rn.regEnd ?_))
  refine Rn.condD rfl (fun e2 => ?_) (fun e2 => ?_)
  refine Rn.seq (Rn.reg (Rn.v rfl rfl rfl rfl (V.as rfl) (Rn.regEnd ?_)))
  refine Rn.ret1 Try.func25 rfl rfl ?_
  exact ⟨by rw [RS.done, if_pos ⟨by omega, by omega⟩]; rfl, x1⟩
  refine Rn.skip (Rn.seq (Rn.reg (Rn.v rfl rfl rfl rfl (V.mv rfl) (Rn.v rfl rfl rfl rfl (V.nil rfl) (Rn.v rfl rfl rfl rfl (V.fa Try.underlying95 rfl Try.sizeOf32 rfl rfl) (Rn.v rfl rfl rfl rfl (V.ldB Try.isAgg32 rfl (hB.ext x1) rfl) (Rn.v rfl rfl rfl rfl (V.as rfl) (Rn.regEnd ?_))))))))
  refine Rn.ret1 Try.func25 rfl rfl ?_
  exact ⟨by rw [RS.done, if_neg (by omega)], x1⟩
  refine Rn.no rfl rfl rfl rfl (Rn.no rfl rfl rfl rfl (Rn.no rfl rfl rfl rfl (Rn.v rfl rfl rfl rfl (V.pkF rfl rfl) (Rn.regEnd (Rn.condF rfl (Rn.skip (Rn.seq (Rn.reg (Rn.v rfl rfl rfl rfl (V.mv rfl) (Rn.v rfl rfl rfl rfl (V.nil rfl) (Rn.v rfl rfl rfl rfl (V.fa Try.underlying95 rfl Try.sizeOf32 rfl rfl) (Rn.v rfl rfl rfl rfl (V.ldB Try.isAgg32 rfl hB rfl) (Rn.v rfl rfl rfl rfl (V.as rfl) (Rn.regEnd ?_))))))))))))))
  refine Rn.ret1 Try.func25 rfl rfl ?_
  exact ⟨by rw [RS.done, if_neg (by omega)], (Ext.refl _)⟩

/-- A writer lies in the blocks of F. -/
def WrAt (w : World) (b : Nat) (F : Nat → Prop) (l : List UInt8) : Prop := F b ∧ (∀ x, F x → x < w.heap.size) ∧ ∃ A c, Blk w b 102 [.slice A l.length c] ∧ Own 0 No w 5 A c byteR l ∧ (∀ x, ob A x → x ≠ b ∧ F x)
theorem WrAt.fr {S : Nat → Prop} {w w' : World} {b : Nat} {F : Nat → Prop} {l : List UInt8} (h : WrAt w b F l) (hf : Fr S w w') (hn : ∀ x, F x → ¬ S x) : WrAt w' b F l := by
  obtain ⟨h1, h2, A, c, h3, h4, h5⟩ := h
  exact ⟨h1, fun x hx => Nat.lt_of_lt_of_le (h2 x hx) hf.size, A, c, h3.fr hf (hn b h1), h4.fr hf (fun _ hh => hh.elim) (fun x hx => hn x (h5 x hx).2), h5⟩
theorem WrAt.ext {w w' : World} {b : Nat} {F : Nat → Prop} {l : List UInt8} (h : WrAt w b F l) (hf : Ext w w') : WrAt w' b F l := h.fr hf fun _ _ hh => hh

set_option maxRecDepth 20000 in
theorem newWriter_spec (w : World) : Calls Try.prog 28 #[] w fun x w' => ∃ b, x = .returned (.pointer (some ⟨b, 0, none⟩)) ∧ b = w.heap.size ∧ WrAt w' b (fun x => x = b) [] ∧ Ext w w' := by
  refine Rn.enter Try.func28 rfl rfl (Nat.le_of_ble_eq_true rfl) ?_
  refine Rn.seq (Rn.reg (Rn.v rfl rfl rfl rfl (V.as rfl) (Rn.regEnd (Rn.seq (Rn.reg (Rn.v rfl rfl rfl rfl (V.bldS st102 rfl rfl) (Rn.box rfl rfl rfl rfl rfl ?_)))))))
  intro b1 w1 hb1 m1 x1
  refine Rn.v rfl rfl rfl rfl (V.as rfl) (Rn.regEnd ?_)
  refine Rn.ret1 Try.func28 rfl rfl ?_
  exact ⟨_, rfl, hb1, ⟨rfl, fun x hx => by subst hx; exact m1.lt, none, 0, m1, Own.nil _ _ _ _ _, fun x hx => by cases hx⟩, x1⟩

set_option maxRecDepth 20000 in
theorem wfix_spec (b : Nat) (F : Nat → Prop) (l : List UInt8) (v : UInt64) (w : World) (hl : l.length ≤ 4294967000) (h : WrAt w b F l) :
    Calls Try.prog 29 #[.pointer (some ⟨b, 0, none⟩), I64 v] w fun x w' => x = .returned (.tuple #[]) ∧ ∃ F', WrAt w' b F' (l ++ fix8 v) ∧ Fr F w w' ∧ (∀ x, F' x → F x ∨ w.heap.size ≤ x) := by
  refine Rn.enter Try.func29 rfl rfl (Nat.le_of_ble_eq_true rfl) ?_
  refine Rn.seq (Rn.reg (Rn.v rfl rfl rfl rfl (V.mv rfl) (Rn.regEnd (Rn.block ?_))))
  refine Rn.loopI (G := Nat) (fun g => [(5, .int .i64 g), (0, .pointer (some ⟨b, 0, none⟩)), (1, I64 v)]) (fun g w' => g ≤ 8 ∧ Fr F w w' ∧ ∃ F', WrAt w' b F' (l ++ (fix8 v).take g) ∧ (∀ x, F' x → F x ∨ w.heap.size ≤ x)) (fun g => 8 - g) 0 ?_ ?_ ?_
  · exact Sub.cons (lki _ rfl (by first | omega | rfl | (dsimp only; omega))) (Sub.cons rfl (Sub.cons rfl (Sub.nil _)))
  · exact ⟨by omega, Fr.refl _ _, F, by simpa using h, fun x hx => .inl hx⟩
  rintro i w1 ⟨hi, x1, F1, ⟨hb1, hz1, A1, c1, hB1, hO1, hA1⟩, hF1⟩ hn1
  have hs1 := x1.size
  refine Rn.seq (Rn.reg (Rn.v rfl rfl rfl rfl (V.lss rfl rfl) (Rn.regEnd (Rn.seq ?_))))
  refine Rn.condD rfl (fun hlt => ?_) (fun hlt => ?_)
  have hbl := hz1 b hb1
  have hl9 : (l ++ (fix8 v).take i).length ≤ 4294967200 := by simp; omega
  refine Rn.skip (Rn.seq (Rn.block (Rn.seq (Rn.reg (Rn.v rfl rfl rfl rfl (V.mv rfl) (Rn.v rfl rfl rfl rfl (V.as rfl) (Rn.regEnd (Rn.reg (Rn.v rfl rfl rfl rfl (V.mv rfl) (Rn.v rfl rfl rfl rfl (V.mv rfl) (Rn.v rfl rfl rfl rfl (V.nil rfl) (Rn.v rfl rfl rfl rfl (V.fa Try.underlying102 rfl Try.sizeOf22 rfl rfl) (Rn.v rfl rfl rfl rfl (V.ldB Try.isAgg22 rfl hB1 rfl) (Rn.v rfl rfl rfl rfl (V.mv rfl) (Rn.v rfl rfl rfl rfl (V.mv rfl) (Rn.v rfl rfl rfl rfl (V.mulI rfl rfl (w64 (by omega) (by omega))) (Rn.v rfl rfl rfl rfl (V.cvI Try.underlying3 Try.underlying97 rfl (wu64 (by omega) (by omega))) (Rn.v rfl rfl rfl rfl (V.sh64 rfl rfl v (8 * i) rfl (by push_cast; rfl) (b64_shr _ _ _ (8 * i) (by omega))) (Rn.v rfl rfl rfl rfl (V.cv648 Try.underlying73 Try.underlying5 rfl _ rfl) (Rn.bslS rfl rfl rfl Try.underlying22 el5 rfl rfl rfl rfl (by first | exact szs rfl | (simp [Value.cells]; done)) (by decide) ?_))))))))))))))))))))
  intro b2 w2 hb2 m2 x2
  have hz2 : w.heap.size ≤ b2 := by have := (x1).size; omega
  have hl2 : b2 < w2.heap.size := m2.lt
  have hs2 := x2.size
  have o2 : Own w.heap.size No w2 5 (some ⟨b2, 0, none⟩) 1 byteR [(v >>> UInt64.ofNat (8 * i)).toUInt8] := own_bytes [(v >>> UInt64.ofNat (8 * i)).toUInt8] m2 (by omega) (Nat.le_of_ble_eq_true rfl)
  refine Rn.appF byte_flat rfl rfl rfl Try.underlying22 el5 rfl rfl rfl (hO1.ext x2) o2.sl rfl (by first | exact ((x1.trans (Ext.fr x2))).size | exact Nat.zero_le _) (by first | omega | (simp; done) | (simp; omega)) (by first | omega | (simp; done) | (simp; omega)) ?_
  intro A3 c3 w3 o3 x3 q3
  have e3 : Fr F w w3 := ((x1.trans (Ext.fr x2))).trans' x3 (fun x hx => by first | exact hF1 _ (hA1 _ hx).2 | (subst hx; exact hF1 _ hb1))
  have hs3 := x3.size
  refine Rn.v rfl rfl rfl rfl (V.nil rfl) (Rn.v rfl rfl rfl rfl (V.fa Try.underlying102 rfl Try.sizeOf22 rfl rfl) (Rn.st rfl rfl Try.sizeOf22 rfl rfl rfl rfl (by first | exact ones rfl | (simp [Value.oneCell']; done)) ((hB1.ext x2).fr x3 (by first | omega | (intro hh; exact (hA1 _ hh).1 rfl) | (intro x hx hh; subst hh; exact (hA1 _ hx).1 rfl))) (by first | exact Nat.le_of_ble_eq_true rfl | (simp; done)) ?_))
  intro w4 m4 x4
  have e4 : Fr F w w4 := (e3).trans' x4 (fun x hx => by first | exact hF1 _ (hA1 _ hx).2 | (subst hx; exact hF1 _ hb1))
  have hs4 := x4.size
  refine Rn.regEnd (Rn.inBlock (Rn.reg (Rn.v rfl rfl rfl rfl (V.addI rfl rfl (w64 (by omega) (by omega))) (Rn.v rfl rfl rfl rfl (V.mv rfl) (Rn.regEnd ?_)))))
  rw [List.append_assoc, ← fix8_take v i (by omega)] at o3
  have hlen : (l ++ (fix8 v).take i).length + 1 = (l ++ (fix8 v).take (i + 1)).length := by simp; omega
  rw [hlen] at m4
  have hq := q3
  have hob := o3.base
  exact hn1 (i+1) _ _ (Sub.cons (lki _ rfl (by first | omega | rfl | (dsimp only; omega))) (Sub.cons rfl (Sub.cons rfl (Sub.nil _)))) (⟨by omega, e4, fun x => x = b ∨ ob A3 x ∨ F1 x, ⟨.inl rfl, fun x hx => by rcases hx with hx | hx | hx; (subst hx; omega); (have := hob x hx; omega); (have := hz1 x hx; omega), A3, c3, m4, o3.fr x4 (fun _ hh => hh.elim) (fun x hx hh => by rcases hq x hx with h3 | h3; exact (hA1 _ h3).1 hh; omega), fun x hx => ⟨fun hh => by rcases hq x hx with h3 | h3; exact (hA1 _ h3).1 hh; omega, .inr (.inl hx)⟩⟩, fun x hx => by rcases hx with hx | hx | hx; (subst hx; exact hF1 _ hb1); (rcases hq x hx with h3 | h3; exact hF1 _ (hA1 _ h3).2; exact .inr (by omega)); exact hF1 _ hx⟩) (by omega)
  refine Rn.exit rfl ?_
  refine Rn.end0 Try.func29 rfl ?_
  have hi8 : i = 8 := by omega
  subst hi8
  exact ⟨rfl, F1, ⟨hb1, hz1, A1, c1, hB1, hO1, hA1⟩, x1, hF1⟩

set_option maxRecDepth 20000 in
theorem wbytes_spec (b : Nat) (F : Nat → Prop) (l : List UInt8) (w : World) (hl : l.length ≤ 4294967296) (h : WrAt w b F l) :
    Calls Try.prog 31 #[.pointer (some ⟨b, 0, none⟩)] w fun x w' => ∃ A c, x = .returned (.slice A l.length c) ∧ Own w.heap.size No w' 5 A c byteR l ∧ Ext w w' := by
  obtain ⟨h1, h2, A, c, hB, hO, h5⟩ := h
  refine Rn.enter Try.func31 rfl rfl (Nat.le_of_ble_eq_true rfl) ?_
  refine Rn.seq (Rn.reg (Rn.v rfl rfl rfl rfl (V.as rfl) (Rn.regEnd (Rn.seq (Rn.reg (Rn.v rfl rfl rfl rfl (V.mv rfl) (Rn.v rfl rfl rfl rfl (V.nil rfl) (Rn.v rfl rfl rfl rfl (V.fa Try.underlying102 rfl Try.sizeOf22 rfl rfl) (Rn.v rfl rfl rfl rfl (V.ldB Try.isAgg22 rfl hB rfl) (Rn.cl ck17 rfl rfl rfl rfl (clone_spec _ _ _ _ hl hO.sl) ?_))))))))))
  rintro _ w1 ⟨A1, c1, rfl, o1, x1⟩
  refine ⟨_, rfl, ?_⟩
  refine Rn.v rfl rfl rfl rfl (V.as rfl) (Rn.regEnd ?_)
  refine Rn.ret1 Try.func31 rfl rfl ?_
  exact ⟨_, _, rfl, o1, x1⟩

set_option maxRecDepth 20000 in
theorem getFix_spec {D : Nat → Prop} (A : Option Addr) (c m k : Nat) (l : List UInt8) (w : World) (hl : l.length ≤ 4294967296) (hm : l.length = m) (hk : k ≤ l.length) (hS : Sl D w A byteR l) :
    Calls Try.prog 27 #[.slice A m c, .int .i64 k] w fun x w' => x = .returned (.agg (if l.length - k < 8 then #[.int .u64 0, .int .i64 0, .int .i64 2] else #[.int .u64 (numL ((l.drop k).take 8)), .int .i64 8, .int .i64 0])) ∧ Ext w w' := by
  subst hm
  replace hS := hS.bd
  refine Rn.enter Try.func27 rfl rfl (Nat.le_of_ble_eq_true rfl) ?_
  refine Rn.seq (Rn.reg (Rn.alloc rfl rfl rfl Try.zeroValue80 rfl ?_))
  intro b1 w1 hb1 m1 x1
  refine Rn.regEnd (Rn.seq (Rn.seq (Rn.reg (Rn.v rfl rfl rfl rfl (V.mv rfl) (Rn.v rfl rfl rfl rfl (V.lenV Try.underlying22 rfl) (Rn.v rfl rfl rfl rfl (V.mv rfl) (Rn.v rfl rfl rfl rfl (V.subI rfl rfl (w64 (by omega) (by omega))) (Rn.v rfl rfl rfl rfl (V.lss rfl rfl) (Rn.regEnd ?_)))))))))
  refine Rn.condD rfl (fun h1 => ?_) (fun h1 => ?_)
  refine Rn.seq (Rn.reg (Rn.v rfl rfl rfl rfl (V.bldS st80 rfl rfl) (Rn.st rfl rfl Try.sizeOf80 rfl rfl rfl rfl (by first | exact ones rfl | (simp [Value.oneCell']; done)) m1 (by first | exact Nat.le_of_ble_eq_true rfl | (simp; done)) ?_)))
  intro w2 m2 x2
  have e2 : Ext w w2 := (x1).trans' x2 (fun x hx => .inr (by subst hx; omega))
  refine Rn.regEnd ?_
  refine Rn.retC Try.func27 rfl rfl Try.isAgg80 Try.sizeOf80 m2 rfl ?_
  exact ⟨by rw [if_pos (by omega)]; rfl, e2⟩
  obtain ⟨q, hq⟩ : ∃ q, (l.drop k).take 8 = q := ⟨_, rfl⟩
  rw [hq]
  have hql : q.length = 8 := by rw [← hq, List.length_take, List.length_drop]; omega
  have hgq : ∀ i, i < 8 → l[k + i]? = q[i]? := fun i hi => by rw [← hq, List.getElem?_take_of_lt hi, List.getElem?_drop]
  refine Rn.skip (Rn.seq (Rn.reg (Rn.v rfl rfl rfl rfl (V.as rfl) (Rn.regEnd (Rn.seq (Rn.seq (Rn.reg (Rn.v rfl rfl rfl rfl (V.as rfl) (Rn.regEnd (Rn.block ?_))))))))))
  refine Rn.loopI (G := Nat) (fun g => [(4, .pointer (some ⟨b1, 0, none⟩)), (5, .int .u64 (numL (q.drop (8 - g)))), (6, .int .i64 (7 - g)), (0, .slice A l.length c), (1, .int .i64 k)]) (fun g w' => g ≤ 8 ∧ w1 = w') (fun g => 8 - g) 0 ?_ ?_ ?_
  · exact Sub.cons rfl (Sub.cons (lki _ rfl (by rw [List.drop_of_length_le (by omega)]; rfl)) (Sub.cons (lki _ rfl (by first | omega | rfl | (dsimp only; omega))) (Sub.cons rfl (Sub.cons (lki _ rfl (by first | omega | rfl | (dsimp only; omega))) (Sub.nil _)))))
  · exact ⟨by omega, rfl⟩
  rintro j _ ⟨hj, rfl⟩ hn3
  refine Rn.seq (Rn.seq (Rn.reg (Rn.v rfl rfl rfl rfl (V.mv rfl) (Rn.v rfl rfl rfl rfl (V.geq rfl rfl) (Rn.regEnd ?_)))))
  refine Rn.condD rfl (fun hj8 => ?_) (fun hj8 => ?_)
  have hj7 : j ≤ 7 := by omega
  obtain ⟨z, hz⟩ : ∃ z, q[7 - j]? = some z := ⟨_, List.getElem?_eq_getElem (by omega)⟩
  have hdz := numL_drop q (7 - j) z hz
  rw [show 7 - j + 1 = 8 - j by omega] at hdz
  have hbd := numL_lt8 (q.drop (7 - j)) (by simp; omega)
  have hz2 : l[k + (7 - j)]? = some z := by rw [hgq _ (by omega), hz]
  have hzl := z.toNat_lt
  refine Rn.skip (Rn.seq (Rn.block (Rn.reg (Rn.v rfl rfl rfl rfl (V.mv rfl) (Rn.v rfl rfl rfl rfl (V.mulI rfl rfl (wu64 (by omega) (by omega))) (Rn.v rfl rfl rfl rfl (V.mv rfl) (Rn.v rfl rfl rfl rfl (V.mv rfl) (Rn.v rfl rfl rfl rfl (V.mv rfl) (Rn.v rfl rfl rfl rfl (V.addI rfl rfl (w64 (by omega) (by omega))) (Rn.ix (k + (7 - j)) z rfl rfl rfl Try.underlying22 Try.sizeOf5 rfl rfl (hS.ext x1) rfl hz2 (by omega) (by omega) ?_))))))))))
  rintro b4 o4 vs4 r4 ⟨rfl, _⟩ hD4
  refine Rn.v rfl rfl rfl rfl (V.ldR0 Try.isAgg5 rfl r4 rfl) (Rn.v rfl rfl rfl rfl (V.cvI Try.underlying5 Try.underlying73 rfl (wu64 (by omega) (by omega))) (Rn.v rfl rfl rfl rfl (V.addI rfl rfl (wu64 (by omega) (by omega))) (Rn.v rfl rfl rfl rfl (V.as rfl) (Rn.regEnd (Rn.inBlock (Rn.reg (Rn.v rfl rfl rfl rfl (V.mv rfl) (Rn.v rfl rfl rfl rfl (V.subI rfl rfl (w64 (by omega) (by omega))) (Rn.v rfl rfl rfl rfl (V.as rfl) (Rn.regEnd ?_))))))))))
  exact hn3 (j+1) _ _ (Sub.cons rfl (Sub.cons (lki _ rfl (by rw [show 8 - (j + 1) = 7 - j by omega, hdz]; push_cast; omega)) (Sub.cons (lki _ rfl (by first | omega | rfl | (dsimp only; omega))) (Sub.cons rfl (Sub.cons (lki _ rfl (by first | omega | rfl | (dsimp only; omega))) (Sub.nil _)))))) (⟨by omega, rfl⟩) (by omega)
  obtain rfl : j = 8 := by omega
  refine Rn.exit rfl (Rn.seq (Rn.reg (Rn.v rfl rfl rfl rfl (V.mv rfl) (Rn.v rfl rfl rfl rfl (V.bldS st80 rfl rfl) (Rn.st rfl rfl Try.sizeOf80 rfl rfl rfl rfl (by first | exact ones rfl | (simp [Value.oneCell']; done)) m1 (by first | exact Nat.le_of_ble_eq_true rfl | (simp; done)) ?_)))))
  intro w5 m5 x5
  have e5 : Ext w w5 := (x1).trans' x5 (fun x hx => .inr (by subst hx; omega))
  refine Rn.regEnd ?_
  refine Rn.retC Try.func27 rfl rfl Try.isAgg80 Try.sizeOf80 m5 rfl ?_
  exact ⟨by rw [if_neg (by omega)]; rfl, e5⟩

end Go.Proofs.Ytpeloppldpdonaa
