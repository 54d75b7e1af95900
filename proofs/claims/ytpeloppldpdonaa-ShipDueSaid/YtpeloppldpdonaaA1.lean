/-
  Walks of functions of the program, group A1: what each call answers, and what stays of the memory.
-/
import Derived.Test.YtpeloppldpdonaaRows
import Derived.Test.YtpeloppldpdonaaPf
import Derived.Test.YtpeloppldpdonaaWi
namespace Go.Proofs.Ytpeloppldpdonaa
open Go Go.RowKit Go.Wk
theorem ck62 : CallOk Try.prog 62 := ⟨_, _, Try.func62, rfl, by kernel_rfl⟩
set_option maxRecDepth 20000 in
theorem nibbles_spec (w : World) : Calls Try.prog 62 #[] w fun x w' => x = .returned (.agg (tbl 16).toArray) ∧ Ext w w' := by
  refine Rn.enter Try.func62 rfl rfl (Nat.le_of_ble_eq_true rfl) ?_
  refine Rn.seq (Rn.reg (Rn.alloc rfl rfl rfl Try.zeroValue117 rfl ?_))
  intro b1 w1 hb1 m1 x1
  have hz1 : w.heap.size ≤ b1 := by omega
  have hl1 : b1 < w1.heap.size := m1.lt
  have hs1 := x1.size
  refine Rn.regEnd (Rn.seq (Rn.seq (Rn.reg (Rn.v rfl rfl rfl rfl (V.mv rfl) (Rn.regEnd (Rn.block ?_))))))
  refine Rn.loopI (G := Nat) (fun g => [(0, .pointer (some ⟨b1, 0, none⟩)), (3, .int .i64 g)]) (fun g w' => g ≤ 16 ∧ Blk w' b1 117 (tbl g) ∧ Ext w w') (fun g => 16 - g) 0 ?_ ?_ ?_
  · exact Sub.cons rfl (Sub.cons (lki _ rfl (by first | omega | rfl | (dsimp only; omega))) (Sub.nil _))
  · exact ⟨by omega, m1, x1⟩
  rintro i w2 ⟨hi, mi, x2⟩ hn2
  have hs2 := x2.size
  refine Rn.seq (Rn.reg (Rn.v rfl rfl rfl rfl (V.lss rfl rfl) (Rn.regEnd (Rn.seq ?_))))
  refine Rn.condD rfl (fun hlt => ?_) (fun hlt => ?_)
  refine Rn.skip (Rn.seq (Rn.block (Rn.seq (Rn.reg (Rn.v rfl rfl rfl rfl (V.mv rfl) (Rn.v rfl rfl rfl rfl (V.as rfl) (Rn.regEnd (Rn.seq (Rn.reg (Rn.v rfl rfl rfl rfl (V.mv rfl) (Rn.v rfl rfl rfl rfl (V.cvI Try.underlying3 Try.underlying110 rfl (wu32 (by omega) (by omega))) (Rn.v rfl rfl rfl rfl (V.as rfl) (Rn.regEnd (Rn.seq (Rn.seq (Rn.reg (Rn.v rfl rfl rfl rfl (V.mv rfl) (Rn.regEnd (Rn.block ?_)))))))))))))))))))
  refine Rn.loopI (G := Nat) (fun g => [(0, .pointer (some ⟨b1, 0, none⟩)), (3, .int .i64 i), (1, .int .i64 i), (2, I32 (stepN g (UInt32.ofNat i))), (8, .int .i64 g)]) (fun g w' => g ≤ 4 ∧ w2 = w') (fun g => 4 - g) 0 ?_ ?_ ?_
  · exact Sub.cons rfl (Sub.cons (lki _ rfl (by first | omega | rfl | (dsimp only; omega))) (Sub.cons (lki _ rfl (by first | omega | rfl | (dsimp only; omega))) (Sub.cons (lkv _ rfl (by simp only [stepN, I32]; congr 1; rw [UInt32.toNat_ofNat']; omega)) (Sub.cons (lki _ rfl (by first | omega | rfl | (dsimp only; omega))) (Sub.nil _)))))
  · exact ⟨by omega, rfl⟩
  rintro j _ ⟨hj, rfl⟩ hn3
  refine Rn.seq (Rn.reg (Rn.v rfl rfl rfl rfl (V.lss rfl rfl) (Rn.regEnd (Rn.seq ?_))))
  refine Rn.condD rfl (fun hj4 => ?_) (fun hj4 => ?_)
  refine Rn.skip (Rn.seq (Rn.block (Rn.reg (Rn.v rfl rfl rfl rfl (V.mv rfl) (Rn.v rfl rfl rfl rfl (V.sh32 rfl rfl _ 1 rfl rfl (b32_shr _ _ _ 1 (by decide))) (Rn.v rfl rfl rfl rfl (V.mv rfl) (Rn.v rfl rfl rfl rfl (V.o32 rfl rfl _ (1 : UInt32) rfl rfl (b32_and _ _ _)) (Rn.v rfl rfl rfl rfl (V.neg32 rfl _ rfl) (Rn.v rfl rfl rfl rfl (V.o32 rfl rfl (2197175160 : UInt32) _ rfl rfl (b32_and _ _ _)) (Rn.v rfl rfl rfl rfl (V.o32 rfl rfl _ _ rfl rfl (b32_xor _ _ _)) (Rn.v rfl rfl rfl rfl (V.as rfl) (Rn.regEnd (Rn.inBlock (Rn.reg (Rn.v rfl rfl rfl rfl (V.addI rfl rfl (w64 (by omega) (by omega))) (Rn.v rfl rfl rfl rfl (V.mv rfl) (Rn.regEnd ?_)))))))))))))))))
  exact hn3 (j+1) _ _ (Sub.cons rfl (Sub.cons (lki _ rfl (by first | omega | rfl | (dsimp only; omega))) (Sub.cons (lki _ rfl (by first | omega | rfl | (dsimp only; omega))) (Sub.cons rfl (Sub.cons (lki _ rfl (by first | omega | rfl | (dsimp only; omega))) (Sub.nil _)))))) (⟨by omega, rfl⟩) (by omega)
  obtain rfl : j = 4 := by omega
  refine Rn.exit rfl (Rn.reg (Rn.v rfl rfl rfl rfl (V.mv rfl) (Rn.v rfl rfl rfl rfl (V.mv rfl) (Rn.v rfl rfl rfl rfl (V.ixR i Try.underlying117 Try.sizeOf110 rfl rfl rfl (by omega)) (Rn.st rfl rfl Try.sizeOf110 rfl rfl rfl rfl (by first | exact ones rfl | (simp [Value.oneCell']; done)) mi (by first | decide | (simp [tbl]; try omega)) ?_)))))
  intro w4 m4 x4
  have e4 : Ext w w4 := (x2).trans' x4 (fun x hx => .inr (by subst hx; omega))
  have hs4 := x4.size
  refine Rn.regEnd (Rn.inBlock (Rn.reg (Rn.v rfl rfl rfl rfl (V.addI rfl rfl (w64 (by omega) (by omega))) (Rn.v rfl rfl rfl rfl (V.mv rfl) (Rn.regEnd ?_)))))
  exact hn2 (i+1) _ _ (Sub.cons rfl (Sub.cons (lki _ rfl (by first | omega | rfl | (dsimp only; omega))) (Sub.nil _))) (⟨by omega, by rw [← tbl_set i (by omega)]; simpa [setL, nib] using m4, e4⟩) (by omega)
  obtain rfl : i = 16 := by omega
  refine Rn.exit rfl (Rn.seq (Rn.reg (Rn.v rfl rfl rfl rfl (V.ldBA _ Try.isAgg117 Try.sizeOf117 rfl mi rfl rfl) (Rn.st rfl rfl Try.sizeOf117 rfl rfl rfl rfl (fun u hu => tbl_one 16 u (List.mem_of_mem_drop (List.mem_of_mem_take hu))) mi (by first | decide | (simp [tbl]; try omega)) ?_))))
  intro w5 m5 x5
  have e5 : Ext w w5 := (x2).trans' x5 (fun x hx => .inr (by subst hx; omega))
  have hs5 := x5.size
  refine Rn.regEnd ?_
  refine Rn.retC Try.func62 rfl rfl Try.isAgg117 Try.sizeOf117 m5 rfl ?_
  exact ⟨rfl, e5⟩

set_option maxRecDepth 20000 in
theorem more_spec (s : UInt32) (A : Option Addr) (c : Nat) (l : List UInt8) (w : World) (hl : l.length ≤ 4294967296) (hS : Sl All w A byteR l) :
    Calls Try.prog 58 #[I32 s, .slice A l.length c] w fun x w' => x = .returned (I32 (moreC s l)) ∧ Ext w w' := by
  refine Rn.enter Try.func58 rfl rfl (Nat.le_of_ble_eq_true rfl) ?_
  refine Rn.seq (Rn.reg (Rn.v rfl rfl rfl rfl (V.as rfl) (Rn.regEnd (Rn.seq (Rn.reg (Rn.cl ck62 rfl rfl rfl rfl (nibbles_spec _) ?_))))))
  rintro _ w1 ⟨rfl, x1⟩
  have hs1 := x1.size
  refine ⟨_, rfl, ?_⟩
  refine Rn.als rfl rfl rfl Try.zeroValue117 rfl Try.sizeOf117 rfl rfl rfl rfl (tbl_one 16) ?_
  intro b2 w2 hb2 m2 x2
  have hz2 : w.heap.size ≤ b2 := by have := (x1).size; omega
  have hl2 : b2 < w2.heap.size := m2.lt
  have hs2 := x2.size
  refine Rn.regEnd (Rn.seq (Rn.reg (Rn.v rfl rfl rfl rfl (V.mv rfl) (Rn.v rfl rfl rfl rfl (V.not32 rfl _ rfl) (Rn.v rfl rfl rfl rfl (V.as rfl) (Rn.regEnd (Rn.seq (Rn.seq (Rn.reg (Rn.v rfl rfl rfl rfl (V.mv rfl) (Rn.v rfl rfl rfl rfl (V.lenV Try.underlying22 rfl) (Rn.v rfl rfl rfl rfl (V.mv rfl) (Rn.regEnd (Rn.block ?_))))))))))))))
  refine Rn.loopI (G := Nat) (fun g => [(0, I32 ((l.take g).foldl byteC (~~~ s))), (5, .pointer (some ⟨b2, 0, none⟩)), (11, .slice A l.length c), (12, .int .i64 l.length), (13, .int .i64 g), (1, .slice A l.length c)]) (fun g w' => g ≤ l.length ∧ Blk w' b2 117 (tbl 16) ∧ Ext w w') (fun g => l.length - g) 0 ?_ ?_ ?_
  · exact Sub.cons rfl (Sub.cons rfl (Sub.cons rfl (Sub.cons (lki _ rfl (by first | omega | rfl | (dsimp only; omega))) (Sub.cons (lki _ rfl (by first | omega | rfl | (dsimp only; omega))) (Sub.cons rfl (Sub.nil _))))))
  · exact ⟨by omega, m2, x1.trans x2⟩
  rintro k w3 ⟨hk, mt, x3⟩ hn3
  have hs3 := x3.size
  refine Rn.seq (Rn.reg (Rn.v rfl rfl rfl rfl (V.lss rfl rfl) (Rn.regEnd (Rn.seq ?_))))
  refine Rn.condD rfl (fun hlt => ?_) (fun hlt => ?_)
  obtain ⟨z, hz⟩ : ∃ z, l[k]? = some z := ⟨_, List.getElem?_eq_getElem (by omega)⟩
  obtain ⟨q, hq⟩ : ∃ q, (l.take k).foldl byteC (~~~ s) = q := ⟨_, rfl⟩
  rw [hq]
  refine Rn.skip (Rn.seq (Rn.block (Rn.seq (Rn.reg (Rn.ix k z rfl rfl rfl Try.underlying22 Try.sizeOf5 rfl rfl (hS.ext x3) rfl hz rfl (by omega) ?_)))))
  rintro b4 o4 vs4 r4 ⟨rfl, _⟩ hD4
  refine Rn.v rfl rfl rfl rfl (V.ldR0 Try.isAgg5 rfl r4 rfl) (Rn.v rfl rfl rfl rfl (V.as rfl) (Rn.regEnd (Rn.seq (Rn.reg (Rn.v rfl rfl rfl rfl (V.mv rfl) (Rn.v rfl rfl rfl rfl (V.mv rfl) (Rn.v rfl rfl rfl rfl (V.cv832 Try.underlying5 Try.underlying110 rfl _ rfl) (Rn.v rfl rfl rfl rfl (V.o32 rfl rfl _ _ rfl rfl (b32_xor _ _ _)) (Rn.v rfl rfl rfl rfl (V.as rfl) (Rn.regEnd (Rn.seq (Rn.reg (Rn.v rfl rfl rfl rfl (V.mv rfl) (Rn.v rfl rfl rfl rfl (V.sh32 rfl rfl _ 4 rfl rfl (b32_shr _ _ _ 4 (by decide))) (Rn.v rfl rfl rfl rfl (V.mv rfl) (Rn.v rfl rfl rfl rfl (V.o32 rfl rfl _ (15 : UInt32) rfl rfl (b32_and _ _ _)) (Rn.v rfl rfl rfl rfl (V.ixR ((q ^^^ z.toUInt32) &&& 15).toNat Try.underlying117 Try.sizeOf110 rfl rfl rfl (tbl_get _).2) (Rn.v rfl rfl rfl rfl (V.ld Try.isAgg110 rfl ((mt.cell _).trans (by rw [Nat.zero_add, Nat.mul_one]; exact (tbl_get _).1))) (Rn.v rfl rfl rfl rfl (V.o32 rfl rfl _ _ rfl rfl (b32_xor _ _ _)) (Rn.v rfl rfl rfl rfl (V.as rfl) (Rn.regEnd (Rn.reg (Rn.v rfl rfl rfl rfl (V.mv rfl) (Rn.v rfl rfl rfl rfl (V.sh32 rfl rfl _ 4 rfl rfl (b32_shr _ _ _ 4 (by decide))) (Rn.v rfl rfl rfl rfl (V.mv rfl) (Rn.v rfl rfl rfl rfl (V.o32 rfl rfl _ (15 : UInt32) rfl rfl (b32_and _ _ _)) (Rn.v rfl rfl rfl rfl (V.ixR ((((q ^^^ z.toUInt32) >>> 4) ^^^ nib ((q ^^^ z.toUInt32) &&& 15)) &&& 15).toNat Try.underlying117 Try.sizeOf110 rfl rfl rfl (tbl_get _).2) (Rn.v rfl rfl rfl rfl (V.ld Try.isAgg110 rfl ((mt.cell _).trans (by rw [Nat.zero_add, Nat.mul_one]; exact (tbl_get _).1))) (Rn.v rfl rfl rfl rfl (V.o32 rfl rfl _ _ rfl rfl (b32_xor _ _ _)) (Rn.v rfl rfl rfl rfl (V.as rfl) (Rn.regEnd (Rn.inBlock (Rn.reg (Rn.v rfl rfl rfl rfl (V.addI rfl rfl (w64 (by omega) (by omega))) (Rn.v rfl rfl rfl rfl (V.mv rfl) (Rn.regEnd ?_))))))))))))))))))))))))))))))))))))
  exact hn3 (k+1) _ _ (Sub.cons (by rw [List.take_add_one, hz, List.foldl_append, hq]; rfl) (Sub.cons rfl (Sub.cons rfl (Sub.cons (lki _ rfl (by first | omega | rfl | (dsimp only; omega))) (Sub.cons (lki _ rfl (by first | omega | rfl | (dsimp only; omega))) (Sub.cons rfl (Sub.nil _))))))) (⟨by omega, mt, x3⟩) (by omega)
  refine Rn.exit rfl (Rn.seq (Rn.reg (Rn.v rfl rfl rfl rfl (V.mv rfl) (Rn.v rfl rfl rfl rfl (V.not32 rfl _ rfl) (Rn.v rfl rfl rfl rfl (V.as rfl) (Rn.regEnd ?_))))))
  refine Rn.ret1 Try.func58 rfl rfl ?_
  exact ⟨by rw [List.take_of_length_le (by omega)]; rfl, x3⟩

end Go.Proofs.Ytpeloppldpdonaa
