/-
  The program's disk: what is found under other names. Plain laws.
-/
import Derived.Test.YtboelmiicbcjiaaPd
import Derived.Test.YtboelmiicbcjiaaWx
namespace Go.Wk
open Go Go.RowKit
theorem findF_put_ne {k k' : List UInt8} (f : PF) (h : k ≠ k') : ∀ l : Fl, findF k (putF k' f l) = findF k l
  | [] => by simp [findF, putF, Ne.symm h]
  | p :: r => by
    by_cases hk : p.1 = k'
    · rw [putF, if_pos hk]
      have : p.1 ≠ k := fun hh => h (hh.symm.trans hk)
      simp [findF, List.find?_cons, Ne.symm h, this]
    · rw [putF, if_neg hk]
      have ih := findF_put_ne f h r
      unfold findF at ih ⊢
      rw [List.find?_cons, List.find?_cons]
      by_cases hp : p.1 = k
      · simp [hp]
      · simp only [hp, decide_false]; exact ih
theorem findF_del_ne {k k' : List UInt8} (h : k ≠ k') : ∀ l : Fl, findF k (delF k' l) = findF k l
  | [] => rfl
  | p :: r => by
    by_cases hk : p.1 = k'
    · rw [delF, if_pos hk]
      have : p.1 ≠ k := fun hh => h (hh.symm.trans hk)
      simp [findF, List.find?_cons, this]
    · rw [delF, if_neg hk]
      have ih := findF_del_ne h r
      unfold findF at ih ⊢
      rw [List.find?_cons, List.find?_cons]
      by_cases hp : p.1 = k
      · simp [hp]
      · simp only [hp, decide_false]; exact ih
end Go.Wk
