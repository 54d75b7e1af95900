/-
  Chapter 14: a table tells just what the list has; plain Lean.
-/
import Derived.Test.YtklaeckldfooaaaQ1
namespace Go.Proofs.Ytklaeckldfooaaa
open Go Go.RowKit Go.Wk
abbrev thOf (p : List UInt8 × Sl) : Th := ⟨p.1, p.2.v⟩
def oldA : List Th → List UInt8 × Bool
  | [] => ([], false)
  | x :: _ => (x.Key, true)
/-- The table's things in the order in which they were put down. -/
structure InvA (most : Int) (l : List Th) (t : Tb) (c : Nat) (a : Kv Sl) : Prop where
  list : a.map thOf = l
  perm : t.m.Perm a
  keys : (a.map (·.1)).Nodup
  rise : a.Pairwise fun p q => p.2.when < q.2.when
  pos : ∀ p ∈ a, 0 < p.2.when ∧ p.2.when ≤ t.clock
  clock : 0 ≤ t.clock ∧ t.clock ≤ c
  mst : t.most = max most 0
  room : (l.length : Int) ≤ max most 0
  short : ∀ p ∈ a, p.1.length ≤ 60
def Inv (most : Int) (l : List Th) (t : Tb) (c : Nat) : Prop := ∃ a, InvA most l t c a
section
variable {most : Int} {l : List Th} {t : Tb} {c : Nat} {a : Kv Sl}
theorem InvA.len (h : InvA most l t c a) : t.m.length = l.length := by rw [h.perm.length_eq, ← h.list, List.length_map]
theorem InvA.mkeys (h : InvA most l t c a) : (t.m.map (·.1)).Nodup := (h.perm.map _).nodup_iff.2 h.keys
theorem InvA.lkeys (h : InvA most l t c a) : (l.map (·.Key)).Nodup := by
  rw [← h.list, List.map_map]; exact h.keys
theorem InvA.look (h : InvA most l t c a) (k : List UInt8) : lookP k t.m = lookP k a := lookP_perm h.perm h.mkeys k
/-- What is under a key, in both. -/
theorem InvA.get (h : InvA most l t c a) (hl : l.length < 1000000) (k : List UInt8) : ∃ v is, m_table_Table_int_Get t k = some (v, is) ∧ m_limnographref14_Get l k = some (v, is) ∧ (is = true ↔ k ∈ a.map (·.1)) := by
  unfold m_table_Table_int_Get
  rw [h.look]
  cases hk : lookP k a with
  | none =>
    refine ⟨0, false, rfl, get_none hl fun x hx => ?_, by
      constructor
      · intro h; cases h
      · intro hm; obtain ⟨p, hp, rfl⟩ := List.mem_map.1 hm; exact absurd rfl (lookP_none.1 hk p hp)⟩
    rw [← h.list] at hx
    obtain ⟨p, hp, rfl⟩ := List.mem_map.1 hx
    exact lookP_none.1 hk p hp
  | some x =>
    have hm := lookP_mem hk
    have hx : thOf (k, x) ∈ l := by rw [← h.list]; exact List.mem_map_of_mem hm
    exact ⟨x.v, true, rfl, get_some hl h.lkeys hx, by simp; exact ⟨x, hm⟩⟩
theorem InvA.oldest (h : InvA most l t c a) : m_table_Table_int_Oldest t = some (oldA l) := by
  unfold m_table_Table_int_Oldest
  have hpos : ∀ p ∈ t.m, 0 < p.2.when := fun p hp => (h.pos p (h.perm.mem_iff.1 hp)).1
  have hne : (t.m.map (·.2)).Pairwise fun x y => x.when ≠ y.when := by
    have h1 : (a.map (·.2)).Pairwise fun x y => x.when ≠ y.when := by rw [List.pairwise_map]; exact h.rise.imp fun hlt => by omega
    exact ((h.perm.map _).pairwise_iff (fun {x y} hxy => fun he => hxy he.symm)).2 h1
  rw [if_pos ⟨hpos, hne⟩]
  cases ha : a with
  | nil =>
    have h1 := h.list; rw [ha] at h1
    have h2 := h.perm; rw [ha] at h2
    rw [List.Perm.eq_nil h2, ← h1]; rfl
  | cons p r =>
    have h1 := h.list; rw [ha, List.map_cons] at h1
    rw [← h1]
    have hp : p ∈ t.m := h.perm.mem_iff.2 (by rw [ha]; simp)
    obtain ⟨q, hq, he, hmin⟩ := oldK_spec (fun x : Sl => x.when) hpos (List.ne_nil_of_mem hp)
    have hqa : q ∈ p :: r := by rw [← ha]; exact h.perm.mem_iff.1 hq
    have : q = p := by
      rcases List.mem_cons.1 hqa with h2 | h2
      · exact h2
      · have h3 := h.rise; rw [ha] at h3
        have h4 := (List.pairwise_cons.1 h3).1 q h2
        have h5 := hmin p hp
        omega
    subst this
    rw [he]
    have := hpos q hq
    simp [this, oldA]
/-- A table tells just what a list has. -/
theorem InvA.same (h : InvA most l t c a) (hl : l.length ≤ 100) : m_limnographlaw14_same t l most = some true := by
  obtain ⟨s, hs1, hs2, hs3⟩ := sorted_ok l (by omega)
  have hlen := h.len
  have hsl := hs2.length_eq
  have hsk : s.map (·.Key) = sortK t.m := sort_keys (by
    refine (hs2.map _).trans ?_
    rw [← h.list, List.map_map]
    exact (h.perm.map (·.1)).symm) hs3
  have hkg : keysG t.m = some (sortK t.m) := by
    unfold keysG
    rw [if_pos ⟨fun k hk => by
      obtain ⟨p, hp, rfl⟩ := List.mem_map.1 hk
      have := h.short p (h.perm.mem_iff.1 hp); omega, by omega⟩]
  have hkl : (sortK t.m).length = s.length := by rw [← hsk, List.length_map]
  unfold m_limnographlaw14_same m_table_Table_int_Keys m_table_Table_int_Len m_table_Table_int_Room
  rw [hs1, bndS, hkg, bndS, bndS, jn_eq, if_neg (by omega), bndS]
  dsimp only
  rw [jn_eq, if_neg (by simp; omega), bndS, h.mst]
  dsimp only
  rw [if_neg (by simp; rw [hlen, hsl]), jn_eq, m_limnographlaw14_same_L1_scan _ _ _ _ (by omega)]
  refine (scanL_inv (fun _ _ => True) (fun _ _ _ => some true) trivial (fun _ _ => ?_) fun p x q s' k' hp _ hk => ?_)
  · rw [h.oldest, bndS]
    cases l with
    | nil => rfl
    | cons x r => rw [if_neg (by simp; omega), idx0, bndS]; simp [oldA]
  · have hx : x ∈ l := hs2.mem_iff.1 (by rw [← hp]; simp)
    obtain ⟨v, is, hg1, hg2, _⟩ := h.get (by omega) x.Key
    rw [get_some (by omega) h.lkeys hx] at hg2
    cases hg2
    have hix : idx (sortK t.m) (p.length : Int) = some x.Key := by rw [idx_nat, ← hsk, ← hp]; simp
    rw [bndS, hg1, bndS, jn_eq, hix, bndS, bndS, if_neg (by simp), bndS, if_neg (by simp)]
    dsimp only
    rw [if_neg (by simp), hk () trivial]
end
end Go.Proofs.Ytklaeckldfooaaa
