/-
  Chapter 25: which checkpoint any file is: the law ShipOpens, as a plain form; plain Lean.
-/
import Derived.Test.YtpeloppldpdonaaQ4
import Derived.Test.YtpeloppldpdonaaQ1
namespace Go.Proofs.Ytpeloppldpdonaa
open Go Go.RowKit Go.Wk
abbrev ackN : List UInt8 := [97, 99, 107]
abbrev ackT : List UInt8 := [97, 99, 107, 46, 110, 101, 119]
def pd (x : List UInt8) : PD := PD.fresh [(ackN, ⟨x, x.length⟩)] 1000
theorem new_eq (x : List UInt8) (h : x.length ≤ 300) : m_disk_New [(⟨ackN, x⟩ : T_api_File)] 1000 = some (some (pd x)) := by
  unfold m_disk_New
  rw [if_pos (by simp)]
  unfold newD
  rw [if_neg (by simp), List.map_cons, List.map_nil, addAll_step (by
    have h1 : isNm ackN = true := by decide
    simp only [not_or]
    exact ⟨by rw [h1]; simp, by simp [findF], by simp; omega⟩)]
  rfl
def rd (x : List UInt8) : T_limnographref18_Disk := ⟨[⟨ackN, x, x.length⟩], 1000, false, 0, -1, -1, 0⟩
theorem rname : m_limnographref18_Name ackN = some true := by decide +kernel
theorem rnew_eq (x : List UInt8) (h : x.length ≤ 300) : m_limnographref18_New [(⟨ackN, x⟩ : T_api_File)] 1000 = some (some (rd x)) := by
  obtain ⟨F, hF⟩ := fuelS 2 (by omega)
  unfold m_limnographref18_New
  rw [if_neg (by simp), jn_eq, hF, m_limnographref18_New_L1, if_pos (by simp), idx0, bndS]
  simp only [jn_eq]
  rw [rname, bndS, if_neg (by simp)]
  have hfind : m_limnographref18_Disk_Find ⟨[], 1000, false, 0, -1, -1, 0⟩ ackN = some (-1) := by decide +kernel
  have hused : m_limnographref18_Disk_Used ⟨[], 1000, false, 0, -1, -1, 0⟩ = some 0 := by decide +kernel
  have hput : m_limnographref18_Disk_put ⟨[], 1000, false, 0, -1, -1, 0⟩ ⟨ackN, x, x.length⟩ = some (rd x) := by
    unfold m_limnographref18_Disk_put
    have hw : m_limnographref18_Disk_without ⟨[], 1000, false, 0, -1, -1, 0⟩ ackN = some [] := by decide +kernel
    rw [hw, bndS, jn_eq, hF, m_limnographref18_Disk_put_L1, jn_eq, if_neg (by simp)]
    rfl
  rw [hfind, bndS, if_neg (by decide), hused, bndS, W64_id (by omega) (by omega), if_neg (by simp; omega), hput, bndS, m_limnographref18_New_L1, if_neg (by simp [W64_id])]
theorem load_eq (x : List UInt8) (h : x.length ≤ 300) : m_snap_Load (pd x) ackN = some (if (fst3 x).2.2 ≠ 0 ∨ (fst3 x).2.1 ≠ x.length then ([], false, 15, pd x) else ((fst3 x).1, true, 0, pd x)) := by
  unfold m_snap_Load m_snap_there m_disk_Disk_Down m_disk_Disk_Size
  rw [bndS, if_neg (by simp [pd, PD.fresh]), cat_some (by simp), bndS]
  have hn : findF (ackN ++ [46, 110, 101, 119]) (pd x).files = none := by simp [pd, PD.fresh, findF, ackN]
  have hf : findF ackN (pd x).files = some ⟨x, x.length⟩ := by simp [pd, PD.fresh, findF, ackN]
  have hd : (pd x).down = false := rfl
  rw [if_neg (by rw [hd]; simp), hn, bndS, bndS, jn_eq, if_neg (by decide)]
  dsimp only
  unfold m_disk_Disk_Read
  rw [if_pos (by simp [pd, PD.fresh, PD.used]; omega), if_neg (by rw [hd]; simp), hf, bndS]
  dsimp only
  rw [if_neg (by decide), first_eq x (by omega), bndS]
  split <;> rfl
theorem rload_eq (x : List UInt8) (h : x.length ≤ 300) : m_limnographref20_Load (rd x) ackN = some (if (fst3 x).2.2 ≠ 0 ∨ (fst3 x).2.1 ≠ x.length then (⟨[], false, 15⟩, rd x) else (⟨(fst3 x).1, true, 0⟩, rd x)) := by
  obtain ⟨F, hF⟩ := fuelS 2 (by omega)
  unfold m_limnographref20_Load
  rw [if_neg (by simp [rd]), cat_some (by simp), bndS]
  have h1 : m_limnographref18_Disk_Find (rd x) (ackN ++ [46, 110, 101, 119]) = some (-1) := by
    unfold m_limnographref18_Disk_Find
    rw [jn_eq, hF, m_limnographref18_Disk_Find_L1, if_pos (by simp [rd]), show idx (rd x).L 0 = some ⟨ackN, x, x.length⟩ from rfl, bndS, if_neg (by simp [ackN]), m_limnographref18_Disk_Find_L1, if_neg (by simp [rd, W64_id])]
  have h2 : m_limnographref18_Disk_Find (rd x) ackN = some 0 := by
    unfold m_limnographref18_Disk_Find
    rw [jn_eq, hF, m_limnographref18_Disk_Find_L1, if_pos (by simp [rd]), show idx (rd x).L 0 = some ⟨ackN, x, x.length⟩ from rfl, bndS, if_pos rfl]
  rw [h1, bndS, jn_eq, if_neg (by decide)]
  dsimp only
  rw [h2, bndS, if_neg (by decide), show idx (rd x).L 0 = some ⟨ackN, x, x.length⟩ from rfl, bndS, refFirst_eq x (by omega), bndS]
  dsimp only
  split <;> rfl
end Go.Proofs.Ytpeloppldpdonaa
