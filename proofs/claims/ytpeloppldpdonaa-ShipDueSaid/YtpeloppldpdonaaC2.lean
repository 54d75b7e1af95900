/-
  Walks of functions of the program, group C2: what each call answers, and what stays of the memory.
-/
import Derived.Test.YtpeloppldpdonaaC1
namespace Go.Proofs.Ytpeloppldpdonaa
open Go Go.RowKit Go.Wk

set_option maxRecDepth 20000 in
theorem isName_spec (l : List UInt8) (w : World) : Calls Try.prog 16 #[Str l] w fun x w' => x = .returned (.bool (isNm l)) ∧ Ext w w' := by
  refine Rn.enter Try.func16 rfl rfl (Nat.le_of_ble_eq_true rfl) ?_
  refine Rn.seq (Rn.reg (Rn.v rfl rfl rfl rfl (V.as rfl) (Rn.regEnd (Rn.seq (Rn.seq (Rn.reg (Rn.v rfl rfl rfl rfl (V.mv rfl) (Rn.v rfl rfl rfl rfl (V.eqlS rfl rfl) (Rn.v rfl rfl rfl rfl (V.mv rfl) ?_)))))))))
  refine Rn.partD (t := 7) rfl (fun h1 => ?_) (fun h1 => ?_)
  refine Rn.no rfl rfl rfl rfl (Rn.no rfl rfl rfl rfl (Rn.no rfl rfl rfl rfl (Rn.v rfl rfl rfl rfl (V.pkT rfl rfl) (Rn.regEnd (Rn.condT rfl (Rn.seq (Rn.reg (Rn.v rfl rfl rfl rfl (V.as rfl) (Rn.regEnd ?_)))))))))
  refine Rn.ret1 Try.func16 rfl rfl ?_
  exact ⟨by rw [isNm_len l (.inl (by simpa using h1))], (Ext.refl _)⟩
  refine Rn.v rfl rfl rfl rfl (V.mv rfl) (Rn.v rfl rfl rfl rfl (V.lenS Try.underlying9 rfl) (Rn.v rfl rfl rfl rfl (V.gtr rfl rfl) (Rn.v rfl rfl rfl rfl (V.pkF rfl rfl) (Rn.regEnd ?_))))
  refine Rn.condD rfl (fun h2 => ?_) (fun h2 => ?_)
  refine Rn.seq (Rn.reg (Rn.v rfl rfl rfl rfl (V.as rfl) (Rn.regEnd ?_)))
  refine Rn.ret1 Try.func16 rfl rfl ?_
  exact ⟨by rw [isNm_len l (.inr (by omega))], (Ext.refl _)⟩
  refine Rn.skip (Rn.seq (Rn.seq (Rn.reg (Rn.v rfl rfl rfl rfl (V.mv rfl) (Rn.s2b rfl rfl rfl Try.underlying9 Try.underlying22 Try.underlying5 rfl (by simp [maxLen]; omega) ?_)))))
  rintro b1 c1 w1 hb1 hc1 hm1 x1 hl1 s1
  refine Rn.v rfl rfl rfl rfl (V.lenV Try.underlying22 rfl) (Rn.v rfl rfl rfl rfl (V.mv rfl) (Rn.regEnd (Rn.block ?_)))
  refine Rn.loopI (G := Nat) (fun g => [(13, .slice (some ⟨b1, 0, none⟩) l.length c1), (14, .int .i64 l.length), (15, .int .i64 g), (0, Str l)]) (fun g w' => g ≤ l.length ∧ (∀ c ∈ l.take g, okC c) ∧ w1 = w') (fun g => l.length - g) 0 ?_ ?_ ?_
  · exact Sub.cons rfl (Sub.cons (lki _ rfl (by first | omega | rfl | (dsimp only; omega))) (Sub.cons (lki _ rfl (by first | omega | rfl | (dsimp only; omega))) (Sub.cons rfl (Sub.nil _))))
  · exact ⟨by omega, by simp, rfl⟩
  rintro i _ ⟨hi, hall, rfl⟩ hn2
  refine Rn.seq (Rn.reg (Rn.v rfl rfl rfl rfl (V.lss rfl rfl) (Rn.regEnd (Rn.seq ?_))))
  refine Rn.condD rfl (fun hlt => ?_) (fun hlt => ?_)
  obtain ⟨z, hz⟩ : ∃ z, l[i]? = some z := ⟨_, List.getElem?_eq_getElem (by omega)⟩
  refine Rn.skip (Rn.seq (Rn.block (Rn.seq (Rn.reg (Rn.ix i z rfl rfl rfl Try.underlying22 Try.sizeOf5 rfl rfl s1 rfl hz rfl (by omega) ?_)))))
  rintro b3 o3 vs3 r3 ⟨rfl, _⟩ hD3
  refine Rn.v rfl rfl rfl rfl (V.ldR0 Try.isAgg5 rfl r3 rfl) (Rn.v rfl rfl rfl rfl (V.as rfl) (Rn.regEnd (Rn.seq (Rn.reg (Rn.v rfl rfl rfl rfl (V.mv rfl) (Rn.v rfl rfl rfl rfl (V.lss rfl rfl) (Rn.v rfl rfl rfl rfl (V.mv rfl) ?_)))))))
  refine Rn.partD (t := 21) rfl (fun h4 => ?_) (fun h4 => ?_)
  refine Rn.no rfl rfl rfl rfl (Rn.no rfl rfl rfl rfl (Rn.v rfl rfl rfl rfl (V.pkT rfl rfl) (Rn.v rfl rfl rfl rfl (V.mv rfl) (Rn.v rfl rfl rfl rfl (V.mv rfl) (Rn.v rfl rfl rfl rfl (V.lss rfl rfl) (Rn.v rfl rfl rfl rfl (V.mv rfl) ?_))))))
  refine Rn.partD (t := 28) rfl (fun h5 => ?_) (fun h5 => ?_)
  refine Rn.no rfl rfl rfl rfl (Rn.no rfl rfl rfl rfl (Rn.v rfl rfl rfl rfl (V.pkT rfl rfl) (Rn.v rfl rfl rfl rfl (V.pkT rfl rfl) (Rn.v rfl rfl rfl rfl (V.mv rfl) (Rn.v rfl rfl rfl rfl (V.mv rfl) (Rn.v rfl rfl rfl rfl (V.neq rfl rfl) (Rn.v rfl rfl rfl rfl (V.pkT rfl rfl) (Rn.v rfl rfl rfl rfl (V.mv rfl) ?_))))))))
  refine Rn.partD (t := 37) rfl (fun h6 => ?_) (fun h6 => ?_)
  refine Rn.v rfl rfl rfl rfl (V.mv rfl) (Rn.v rfl rfl rfl rfl (V.neq rfl rfl) (Rn.v rfl rfl rfl rfl (V.pkT rfl rfl) (Rn.regEnd ?_)))
  refine Rn.condD rfl (fun h7 => ?_) (fun h7 => ?_)
  refine Rn.seq (Rn.reg (Rn.v rfl rfl rfl rfl (V.as rfl) (Rn.regEnd ?_)))
  refine Rn.ret1 Try.func16 rfl rfl ?_
  exact ⟨by rw [isNm_bad l i z hz (by unfold okC; omega)], x1⟩
  refine Rn.skip (Rn.inBlock (Rn.reg (Rn.v rfl rfl rfl rfl (V.addI rfl rfl (w64 (by omega) (by omega))) (Rn.v rfl rfl rfl rfl (V.mv rfl) (Rn.regEnd ?_)))))
  exact hn2 (i+1) _ _ (Sub.cons rfl (Sub.cons (lki _ rfl (by first | omega | rfl | (dsimp only; omega))) (Sub.cons (lki _ rfl (by first | omega | rfl | (dsimp only; omega))) (Sub.cons rfl (Sub.nil _))))) (⟨by omega, okC_take hz hall (by unfold okC; omega), rfl⟩) (by omega)
  refine Rn.no rfl rfl rfl rfl (Rn.no rfl rfl rfl rfl (Rn.v rfl rfl rfl rfl (V.pkF rfl rfl) (Rn.regEnd (Rn.condF rfl (Rn.skip (Rn.inBlock (Rn.reg (Rn.v rfl rfl rfl rfl (V.addI rfl rfl (w64 (by omega) (by omega))) (Rn.v rfl rfl rfl rfl (V.mv rfl) (Rn.regEnd ?_))))))))))
  exact hn2 (i+1) _ _ (Sub.cons rfl (Sub.cons (lki _ rfl (by first | omega | rfl | (dsimp only; omega))) (Sub.cons (lki _ rfl (by first | omega | rfl | (dsimp only; omega))) (Sub.cons rfl (Sub.nil _))))) (⟨by omega, okC_take hz hall (by unfold okC; omega), rfl⟩) (by omega)
  refine Rn.v rfl rfl rfl rfl (V.mv rfl) (Rn.v rfl rfl rfl rfl (V.gtr rfl rfl) (Rn.v rfl rfl rfl rfl (V.pkF rfl rfl) (Rn.v rfl rfl rfl rfl (V.pkT rfl rfl) (Rn.v rfl rfl rfl rfl (V.mv rfl) ?_))))
  refine Rn.partD (t := 33) rfl (fun h8 => ?_) (fun h8 => ?_)
  refine Rn.v rfl rfl rfl rfl (V.mv rfl) (Rn.v rfl rfl rfl rfl (V.neq rfl rfl) (Rn.v rfl rfl rfl rfl (V.pkT rfl rfl) (Rn.v rfl rfl rfl rfl (V.mv rfl) ?_)))
  refine Rn.partD (t := 37) rfl (fun h9 => ?_) (fun h9 => ?_)
  refine Rn.v rfl rfl rfl rfl (V.mv rfl) (Rn.v rfl rfl rfl rfl (V.neq rfl rfl) (Rn.v rfl rfl rfl rfl (V.pkT rfl rfl) (Rn.regEnd ?_)))
  refine Rn.condD rfl (fun h10 => ?_) (fun h10 => ?_)
  refine Rn.seq (Rn.reg (Rn.v rfl rfl rfl rfl (V.as rfl) (Rn.regEnd ?_)))
  refine Rn.ret1 Try.func16 rfl rfl ?_
  exact ⟨by rw [isNm_bad l i z hz (by unfold okC; omega)], x1⟩
  refine Rn.skip (Rn.inBlock (Rn.reg (Rn.v rfl rfl rfl rfl (V.addI rfl rfl (w64 (by omega) (by omega))) (Rn.v rfl rfl rfl rfl (V.mv rfl) (Rn.regEnd ?_)))))
  exact hn2 (i+1) _ _ (Sub.cons rfl (Sub.cons (lki _ rfl (by first | omega | rfl | (dsimp only; omega))) (Sub.cons (lki _ rfl (by first | omega | rfl | (dsimp only; omega))) (Sub.cons rfl (Sub.nil _))))) (⟨by omega, okC_take hz hall (by unfold okC; omega), rfl⟩) (by omega)
  refine Rn.no rfl rfl rfl rfl (Rn.no rfl rfl rfl rfl (Rn.v rfl rfl rfl rfl (V.pkF rfl rfl) (Rn.regEnd (Rn.condF rfl (Rn.skip (Rn.inBlock (Rn.reg (Rn.v rfl rfl rfl rfl (V.addI rfl rfl (w64 (by omega) (by omega))) (Rn.v rfl rfl rfl rfl (V.mv rfl) (Rn.regEnd ?_))))))))))
  exact hn2 (i+1) _ _ (Sub.cons rfl (Sub.cons (lki _ rfl (by first | omega | rfl | (dsimp only; omega))) (Sub.cons (lki _ rfl (by first | omega | rfl | (dsimp only; omega))) (Sub.cons rfl (Sub.nil _))))) (⟨by omega, okC_take hz hall (by unfold okC; omega), rfl⟩) (by omega)
  refine Rn.no rfl rfl rfl rfl (Rn.no rfl rfl rfl rfl (Rn.v rfl rfl rfl rfl (V.pkF rfl rfl) (Rn.v rfl rfl rfl rfl (V.mv rfl) (Rn.no rfl rfl rfl rfl (Rn.no rfl rfl rfl rfl (Rn.v rfl rfl rfl rfl (V.pkF rfl rfl) (Rn.regEnd (Rn.condF rfl (Rn.skip (Rn.inBlock (Rn.reg (Rn.v rfl rfl rfl rfl (V.addI rfl rfl (w64 (by omega) (by omega))) (Rn.v rfl rfl rfl rfl (V.mv rfl) (Rn.regEnd ?_))))))))))))))
  exact hn2 (i+1) _ _ (Sub.cons rfl (Sub.cons (lki _ rfl (by first | omega | rfl | (dsimp only; omega))) (Sub.cons (lki _ rfl (by first | omega | rfl | (dsimp only; omega))) (Sub.cons rfl (Sub.nil _))))) (⟨by omega, okC_take hz hall (by unfold okC; omega), rfl⟩) (by omega)
  refine Rn.v rfl rfl rfl rfl (V.mv rfl) (Rn.v rfl rfl rfl rfl (V.gtr rfl rfl) (Rn.v rfl rfl rfl rfl (V.pkF rfl rfl) (Rn.v rfl rfl rfl rfl (V.mv rfl) ?_)))
  refine Rn.partD (t := 25) rfl (fun h11 => ?_) (fun h11 => ?_)
  refine Rn.v rfl rfl rfl rfl (V.mv rfl) (Rn.v rfl rfl rfl rfl (V.lss rfl rfl) (Rn.v rfl rfl rfl rfl (V.mv rfl) ?_))
  refine Rn.partD (t := 28) rfl (fun h12 => ?_) (fun h12 => ?_)
  refine Rn.no rfl rfl rfl rfl (Rn.no rfl rfl rfl rfl (Rn.v rfl rfl rfl rfl (V.pkT rfl rfl) (Rn.v rfl rfl rfl rfl (V.pkT rfl rfl) (Rn.v rfl rfl rfl rfl (V.mv rfl) (Rn.v rfl rfl rfl rfl (V.mv rfl) (Rn.v rfl rfl rfl rfl (V.neq rfl rfl) (Rn.v rfl rfl rfl rfl (V.pkT rfl rfl) (Rn.v rfl rfl rfl rfl (V.mv rfl) ?_))))))))
  refine Rn.partD (t := 37) rfl (fun h13 => ?_) (fun h13 => ?_)
  refine Rn.v rfl rfl rfl rfl (V.mv rfl) (Rn.v rfl rfl rfl rfl (V.neq rfl rfl) (Rn.v rfl rfl rfl rfl (V.pkT rfl rfl) (Rn.regEnd ?_)))
  refine Rn.condD rfl (fun h14 => ?_) (fun h14 => ?_)
  refine Rn.seq (Rn.reg (Rn.v rfl rfl rfl rfl (V.as rfl) (Rn.regEnd ?_)))
  refine Rn.ret1 Try.func16 rfl rfl ?_
  exact ⟨by rw [isNm_bad l i z hz (by unfold okC; omega)], x1⟩
  refine Rn.skip (Rn.inBlock (Rn.reg (Rn.v rfl rfl rfl rfl (V.addI rfl rfl (w64 (by omega) (by omega))) (Rn.v rfl rfl rfl rfl (V.mv rfl) (Rn.regEnd ?_)))))
  exact hn2 (i+1) _ _ (Sub.cons rfl (Sub.cons (lki _ rfl (by first | omega | rfl | (dsimp only; omega))) (Sub.cons (lki _ rfl (by first | omega | rfl | (dsimp only; omega))) (Sub.cons rfl (Sub.nil _))))) (⟨by omega, okC_take hz hall (by unfold okC; omega), rfl⟩) (by omega)
  refine Rn.no rfl rfl rfl rfl (Rn.no rfl rfl rfl rfl (Rn.v rfl rfl rfl rfl (V.pkF rfl rfl) (Rn.regEnd (Rn.condF rfl (Rn.skip (Rn.inBlock (Rn.reg (Rn.v rfl rfl rfl rfl (V.addI rfl rfl (w64 (by omega) (by omega))) (Rn.v rfl rfl rfl rfl (V.mv rfl) (Rn.regEnd ?_))))))))))
  exact hn2 (i+1) _ _ (Sub.cons rfl (Sub.cons (lki _ rfl (by first | omega | rfl | (dsimp only; omega))) (Sub.cons (lki _ rfl (by first | omega | rfl | (dsimp only; omega))) (Sub.cons rfl (Sub.nil _))))) (⟨by omega, okC_take hz hall (by unfold okC; omega), rfl⟩) (by omega)
  refine Rn.v rfl rfl rfl rfl (V.mv rfl) (Rn.v rfl rfl rfl rfl (V.gtr rfl rfl) (Rn.v rfl rfl rfl rfl (V.pkF rfl rfl) (Rn.v rfl rfl rfl rfl (V.pkT rfl rfl) (Rn.v rfl rfl rfl rfl (V.mv rfl) ?_))))
  refine Rn.partD (t := 33) rfl (fun h15 => ?_) (fun h15 => ?_)
  refine Rn.v rfl rfl rfl rfl (V.mv rfl) (Rn.v rfl rfl rfl rfl (V.neq rfl rfl) (Rn.v rfl rfl rfl rfl (V.pkT rfl rfl) (Rn.v rfl rfl rfl rfl (V.mv rfl) ?_)))
  refine Rn.partD (t := 37) rfl (fun h16 => ?_) (fun h16 => ?_)
  refine Rn.v rfl rfl rfl rfl (V.mv rfl) (Rn.v rfl rfl rfl rfl (V.neq rfl rfl) (Rn.v rfl rfl rfl rfl (V.pkT rfl rfl) (Rn.regEnd ?_)))
  refine Rn.condD rfl (fun h17 => ?_) (fun h17 => ?_)
  refine Rn.seq (Rn.reg (Rn.v rfl rfl rfl rfl (V.as rfl) (Rn.regEnd ?_)))
  refine Rn.ret1 Try.func16 rfl rfl ?_
  exact ⟨by rw [isNm_bad l i z hz (by unfold okC; omega)], x1⟩
  refine Rn.skip (Rn.inBlock (Rn.reg (Rn.v rfl rfl rfl rfl (V.addI rfl rfl (w64 (by omega) (by omega))) (Rn.v rfl rfl rfl rfl (V.mv rfl) (Rn.regEnd ?_)))))
  exact hn2 (i+1) _ _ (Sub.cons rfl (Sub.cons (lki _ rfl (by first | omega | rfl | (dsimp only; omega))) (Sub.cons (lki _ rfl (by first | omega | rfl | (dsimp only; omega))) (Sub.cons rfl (Sub.nil _))))) (⟨by omega, okC_take hz hall (by unfold okC; omega), rfl⟩) (by omega)
  refine Rn.no rfl rfl rfl rfl (Rn.no rfl rfl rfl rfl (Rn.v rfl rfl rfl rfl (V.pkF rfl rfl) (Rn.regEnd (Rn.condF rfl (Rn.skip (Rn.inBlock (Rn.reg (Rn.v rfl rfl rfl rfl (V.addI rfl rfl (w64 (by omega) (by omega))) (Rn.v rfl rfl rfl rfl (V.mv rfl) (Rn.regEnd ?_))))))))))
  exact hn2 (i+1) _ _ (Sub.cons rfl (Sub.cons (lki _ rfl (by first | omega | rfl | (dsimp only; omega))) (Sub.cons (lki _ rfl (by first | omega | rfl | (dsimp only; omega))) (Sub.cons rfl (Sub.nil _))))) (⟨by omega, okC_take hz hall (by unfold okC; omega), rfl⟩) (by omega)
  refine Rn.no rfl rfl rfl rfl (Rn.no rfl rfl rfl rfl (Rn.v rfl rfl rfl rfl (V.pkF rfl rfl) (Rn.v rfl rfl rfl rfl (V.mv rfl) (Rn.no rfl rfl rfl rfl (Rn.no rfl rfl rfl rfl (Rn.v rfl rfl rfl rfl (V.pkF rfl rfl) (Rn.regEnd (Rn.condF rfl (Rn.skip (Rn.inBlock (Rn.reg (Rn.v rfl rfl rfl rfl (V.addI rfl rfl (w64 (by omega) (by omega))) (Rn.v rfl rfl rfl rfl (V.mv rfl) (Rn.regEnd ?_))))))))))))))
  exact hn2 (i+1) _ _ (Sub.cons rfl (Sub.cons (lki _ rfl (by first | omega | rfl | (dsimp only; omega))) (Sub.cons (lki _ rfl (by first | omega | rfl | (dsimp only; omega))) (Sub.cons rfl (Sub.nil _))))) (⟨by omega, okC_take hz hall (by unfold okC; omega), rfl⟩) (by omega)
  refine Rn.no rfl rfl rfl rfl (Rn.no rfl rfl rfl rfl (Rn.no rfl rfl rfl rfl (Rn.no rfl rfl rfl rfl (Rn.no rfl rfl rfl rfl (Rn.no rfl rfl rfl rfl (Rn.v rfl rfl rfl rfl (V.pkF rfl rfl) (Rn.v rfl rfl rfl rfl (V.mv rfl) (Rn.no rfl rfl rfl rfl (Rn.no rfl rfl rfl rfl (Rn.v rfl rfl rfl rfl (V.pkF rfl rfl) (Rn.v rfl rfl rfl rfl (V.mv rfl) (Rn.no rfl rfl rfl rfl (Rn.no rfl rfl rfl rfl (Rn.v rfl rfl rfl rfl (V.pkF rfl rfl) (Rn.regEnd (Rn.condF rfl (Rn.skip (Rn.inBlock (Rn.reg (Rn.v rfl rfl rfl rfl (V.addI rfl rfl (w64 (by omega) (by omega))) (Rn.v rfl rfl rfl rfl (V.mv rfl) (Rn.regEnd ?_))))))))))))))))))))))
  exact hn2 (i+1) _ _ (Sub.cons rfl (Sub.cons (lki _ rfl (by first | omega | rfl | (dsimp only; omega))) (Sub.cons (lki _ rfl (by first | omega | rfl | (dsimp only; omega))) (Sub.cons rfl (Sub.nil _))))) (⟨by omega, okC_take hz hall (by unfold okC; omega), rfl⟩) (by omega)
  refine Rn.exit rfl (Rn.seq (Rn.reg (Rn.v rfl rfl rfl rfl (V.as rfl) (Rn.regEnd ?_))))
  refine Rn.ret1 Try.func16 rfl rfl ?_
  exact ⟨by rw [isNm_good l (by simpa using h1) (by omega) (by rwa [List.take_of_length_le (by omega)] at hall)], x1⟩

end Go.Proofs.Ytpeloppldpdonaa
