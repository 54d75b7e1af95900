/-
  The walk by places: a frame as a list of slots, a machine's list of items as the rest of the way. Plain laws over any program.
-/
import Derived.WalkKit
import Derived.Maps.AppendAt
import Derived.Deep.AppendLies
set_option linter.unusedVariables false
set_option linter.unusedSimpArgs false
namespace Go.Wk
open Go Go.RowKit

/-- A frame's slots, the newest first. -/
abbrev Env := List (Nat × Value)

def lk : Env → Nat → Option Value
  | [], _ => none
  | p :: r, t => bif Nat.beq p.1 t then some p.2 else lk r t

theorem lk_same (e : Env) (d : Nat) (v : Value) : lk ((d, v) :: e) d = some v := by simp [lk]
theorem lk_other (e : Env) {d t : Nat} (v : Value) (h : d ≠ t) : lk ((d, v) :: e) t = lk e t := by
  have : Nat.beq d t = false := by
    cases hb : Nat.beq d t with
    | false => rfl
    | true => exact absurd (Nat.eq_of_beq_eq_true hb) h
  simp [lk, this]

def Fits (e : Env) (n : Nat) (tm : Array Value) : Prop := tm.size = n ∧ ∀ t v, lk e t = some v → tm[t]? = some v

theorem Fits.put {e : Env} {n : Nat} {tm : Array Value} (h : Fits e n tm) {d : Nat} (hd : d < n) (v : Value) : Fits ((d, v) :: e) n (tm.setIfInBounds d v) := by
  refine ⟨by simpa using h.1, fun t u hu => ?_⟩
  by_cases hdt : d = t
  · subst hdt
    rw [lk_same] at hu
    cases hu
    simp [Array.getElem?_setIfInBounds, h.1, hd]
  · rw [lk_other _ _ hdt] at hu
    rw [Array.getElem?_setIfInBounds_ne hdt]
    exact h.2 t u hu

/-- All of 'e' stands in 'e''. -/
def Sub (e e' : Env) : Prop := ∀ t v, lk e t = some v → lk e' t = some v
theorem Sub.nil (e' : Env) : Sub [] e' := fun _ _ h => by cases h
theorem Sub.cons {e e' : Env} {t : Nat} {v : Value} (h : lk e' t = some v) (hs : Sub e e') : Sub ((t, v) :: e) e' := by
  intro u x hu
  by_cases htu : t = u
  · subst htu; rw [lk_same] at hu; cases hu; exact h
  · rw [lk_other _ _ htu] at hu; exact hs u x hu
theorem Sub.refl (e : Env) : Sub e e := fun _ _ h => h
theorem Sub.drop (e : Env) (d : Nat) (v : Value) (h : lk e d = none) : Sub e ((d, v) :: e) := by
  intro t u hu
  by_cases hdt : d = t
  · subst hdt; rw [h] at hu; cases hu
  · rw [lk_other _ _ hdt]; exact hu
theorem Fits.sub {e e' : Env} {n : Nat} {tm : Array Value} (h : Fits e' n tm) (hs : Sub e e') : Fits e n tm := ⟨h.1, fun t v hv => h.2 t v (hs t v hv)⟩

def argEnv : Nat → List Value → Env
  | _, [] => []
  | k, v :: r => (k, v) :: argEnv (k + 1) r

theorem lk_argEnv : ∀ (l : List Value) (k t : Nat) (v : Value), lk (argEnv k l) t = some v → k ≤ t ∧ l[t - k]? = some v
  | [], _, _, _, h => by cases h
  | u :: r, k, t, v, h => by
    by_cases hk : k = t
    · subst hk
      simp only [argEnv, lk_same] at h
      simp [h]
    · simp only [argEnv] at h
      rw [lk_other _ _ hk] at h
      obtain ⟨h1, h2⟩ := lk_argEnv r (k + 1) t v h
      refine ⟨by omega, ?_⟩
      have : t - k = (t - (k + 1)) + 1 := by omega
      rw [this, List.getElem?_cons_succ]
      exact h2

theorem fits_args (l : List Value) (n : Nat) (h : l.length ≤ n) : Fits (argEnv 0 l) n (l.toArray ++ Array.replicate (n - l.length) undef) := by
  refine ⟨by simp; omega, fun t v hv => ?_⟩
  obtain ⟨_, h2⟩ := lk_argEnv l 0 t v hv
  simp only [Nat.sub_zero] at h2
  have hlt : t < l.length := by
    rcases Nat.lt_or_ge t l.length with hh | hh
    · exact hh
    · rw [List.getElem?_eq_none hh] at h2; cases h2
  rw [Array.getElem?_append_left (by simpa using hlt)]
  simpa using h2

/-- What an operand is. -/
def ev (e : Env) : Operand → Option Value
  | .tmp t => lk e t
  | .const v => some v
  | .global g => some (.pointer (some ⟨g, 0, none⟩))
  | .func f => some (.func (.func f) #[] #[])

theorem ev_eval {e : Env} {n : Nat} {a : Act} (hf : Fits e n a.tmps) {x : Operand} {v : Value} (h : ev e x = some v) : a.eval x = v := by
  cases x with
  | tmp t => simp only [ev] at h; have := hf.2 t v h; simp [Act.eval, this]
  | const c => simpa [ev, Act.eval] using h
  | global g => simpa [ev, Act.eval] using h
  | func f => simpa [ev, Act.eval] using h

/-- May the operation run? (It stands unguarded, or its guard says so.) -/
def gok (e : Env) (ops : Array Oper) : Option (Nat × Bool) → Bool
  | none => true
  | some (j, p) => match (ops[j]?).bind (·.dst) with
    | some d => match lk e d with
      | some (.bool c) => c == p
      | _ => false
    | none => false
/-- It may not. -/
def gno (e : Env) (ops : Array Oper) : Option (Nat × Bool) → Bool
  | none => false
  | some (j, p) => match (ops[j]?).bind (·.dst) with
    | some d => match lk e d with
      | some (.bool c) => c != p
      | some _ => true
      | none => false
    | none => false

theorem wanted_of_gok {e : Env} {n : Nat} {ops : Array Oper} {tm : Array Value} (hf : Fits e n tm) {o : Oper} (h : gok e ops o.guard = true) : Region.wanted o (yielded ops tm) = true := by
  unfold Region.wanted
  cases hg : o.guard with
  | none => rfl
  | some q =>
    obtain ⟨j, p⟩ := q
    rw [hg] at h
    simp only [gok] at h
    split at h
    · rename_i d hd
      split at h
      · rename_i c hc
        have := hf.2 _ _ hc
        have hcp : c = p := by simpa using h
        subst hcp
        have hy : yielded ops tm j = some c := by unfold yielded; simp only [hd, Option.bind_some, this]
        simp [hy]
      · cases h
    · cases h
theorem wanted_of_gno {e : Env} {n : Nat} {ops : Array Oper} {tm : Array Value} (hf : Fits e n tm) {o : Oper} (h : gno e ops o.guard = true) : Region.wanted o (yielded ops tm) = false := by
  unfold Region.wanted
  cases hg : o.guard with
  | none => rw [hg] at h; cases h
  | some q =>
    obtain ⟨j, p⟩ := q
    rw [hg] at h
    simp only [gno] at h
    split at h
    · rename_i d hd
      split at h
      · rename_i c hc
        have := hf.2 _ _ hc
        have hcp : c ≠ p := by simpa using h
        have hy : yielded ops tm j = some c := by unfold yielded; simp only [hd, Option.bind_some, this]
        simp [hy, hcp]
      · rename_i v hnb hc
        have h2 := hf.2 _ _ hc
        have hy : yielded ops tm j = none := by
          unfold yielded
          simp only [hd, Option.bind_some, h2]
          cases v <;> first | rfl | exact (hnb _ rfl).elim
        simp [hy]
      · cases h
    · cases h

/-- From this frame on, with these items to do and these slots, the call comes to an end that R tells. -/
def Rn (P : Program) (f : FuncId) (n : Nat) (R : Ending → World → Prop) (k : List Item) (e : Env) (w : World) : Prop :=
  ∀ (b : Frame) (tm : Array Value) (cs : List Frame), b.fn = f → b.kind = .normal → Fits e n tm →
    ∃ x w' fr, R x w' ∧ Comes P (lone (b.at ⟨tm, []⟩ k) cs w) (lone fr cs w') x ∧ fr.fn = f ∧ fr.leaving P w' x

section
variable {P : Program} {f : FuncId} {n : Nat} {R : Ending → World → Prop} {k : List Item} {e : Env} {w : World}

theorem Rn.enter {fn : Func} {c : Code} {args : List Value} (hf : P.funcs[f]? = some fn) (hb : fn.body = some c) (hn : fn.ntmps = n) (hl : args.length ≤ n)
    (h : Rn P f n R [.code c] (argEnv 0 args) w) : Calls P f args.toArray w R := by
  intro cs
  let b : Frame := { (default : Frame) with fn := f, kind := .normal }
  have henter : Frame.enter P f args.toArray .normal = b.at { tmps := args.toArray ++ Array.replicate (n - args.length) undef, defers := [] } [.code c] := by
    simp [Frame.enter, Frame.at, hf, hb, b, hn]
  obtain ⟨x, w', fr, hR, hc, hfn, hl'⟩ := h b _ cs rfl rfl (fits_args args n hl)
  rw [← henter] at hc
  exact ⟨x, w', fr, hR, hc, hfn, hl'⟩

theorem Rn.weaken {e' : Env} (h : Rn P f n R k e' w) (hs : Sub e' e) : Rn P f n R k e w := fun b tm cs h1 h2 h3 => h b tm cs h1 h2 (h3.sub hs)
theorem Rn.mono {R' : Ending → World → Prop} (h : Rn P f n R' k e w) (hr : ∀ x w', R' x w' → R x w') : Rn P f n R k e w :=
  fun b tm cs h1 h2 h3 => let ⟨x, w', fr, r, q⟩ := h b tm cs h1 h2 h3; ⟨x, w', fr, hr _ _ r, q⟩

theorem Rn.byStep {k' : List Item} {e' : Env} {w' : World}
    (hs : ∀ (b : Frame) (tm : Array Value) (cs : List Frame), b.fn = f → b.kind = .normal → Fits e n tm → ∃ tm', Fits e' n tm' ∧ step P (lone (b.at ⟨tm, []⟩ k) cs w) = .next (lone (b.at ⟨tm', []⟩ k') cs w'))
    (h : Rn P f n R k' e' w') : Rn P f n R k e w := by
  intro b tm cs h1 h2 h3
  obtain ⟨tm', hf', hst⟩ := hs b tm cs h1 h2 h3
  obtain ⟨x, w1, fr, hR, hc, q⟩ := h b tm' cs h1 h2 hf'
  exact ⟨x, w1, fr, hR, Comes.of_steps (.one hst) hc, q⟩
theorem Rn.plain {k' : List Item} {w' : World}
    (hs : ∀ (b : Frame) (tm : Array Value) (cs : List Frame), step P (lone (b.at ⟨tm, []⟩ k) cs w) = .next (lone (b.at ⟨tm, []⟩ k') cs w'))
    (h : Rn P f n R k' e w') : Rn P f n R k e w := Rn.byStep (fun b tm cs _ _ h3 => ⟨tm, h3, hs b tm cs⟩) h

theorem Rn.skip (h : Rn P f n R k e w) : Rn P f n R (.code .skip :: k) e w := Rn.plain (fun _ _ _ => step_skip) h
theorem Rn.label {l : Nat} (h : Rn P f n R k e w) : Rn P f n R (.code (.label l) :: k) e w := Rn.plain (fun _ _ _ => step_label) h
theorem Rn.inBlock {id : Nat} (h : Rn P f n R k e w) : Rn P f n R (.inBlock id :: k) e w := Rn.plain (fun _ _ _ => step_inBlock) h
theorem Rn.inScope {c : Code} (h : Rn P f n R k e w) : Rn P f n R (.inScope c :: k) e w :=
  Rn.plain (fun _ _ _ => step_lone_go (by simp [stepG, stepG.exec, Frame.at])) h
theorem Rn.scope {c : Code} (h : Rn P f n R (.code c :: .inScope c :: k) e w) : Rn P f n R (.code (.scope c) :: k) e w :=
  Rn.plain (fun _ _ _ => step_lone_go (by simp [stepG, stepG.exec, Frame.at])) h
theorem Rn.seq {x y : Code} (h : Rn P f n R (.code x :: .code y :: k) e w) : Rn P f n R (.code (.seq x y) :: k) e w := Rn.plain (fun _ _ _ => step_seq) h
theorem Rn.block {id : Nat} {c : Code} (h : Rn P f n R (.code c :: .inBlock id :: k) e w) : Rn P f n R (.code (.block id c) :: k) e w := Rn.plain (fun _ _ _ => step_block) h
theorem Rn.loop {c : Code} (h : Rn P f n R (.code c :: .inLoop c :: k) e w) : Rn P f n R (.code (.loop c) :: k) e w := Rn.plain (fun _ _ _ => step_loop) h
theorem Rn.inLoop {c : Code} (h : Rn P f n R (.code c :: .inLoop c :: k) e w) : Rn P f n R (.inLoop c :: k) e w := Rn.plain (fun _ _ _ => step_inLoop) h
theorem Rn.exit {id : Nat} {k' : List Item} (hk : exitTo id k = some k') (h : Rn P f n R k' e w) : Rn P f n R (.code (.exit id) :: k) e w := Rn.plain (fun _ _ _ => step_exit hk) h
theorem Rn.goto {l : Nat} {k' : List Item} (hk : gotoIn l k = some k') (h : Rn P f n R k' e w) : Rn P f n R (.code (.goto l) :: k) e w := Rn.plain (fun _ _ _ => step_goto hk) h
theorem Rn.cond {c : Operand} {x y : Code} {t : Bool} (hc : ev e c = some (.bool t)) (h : Rn P f n R (.code (bif t then x else y) :: k) e w) : Rn P f n R (.code (.cond c x y) :: k) e w :=
  Rn.byStep (fun b tm cs _ _ h3 => ⟨tm, h3, by
    have := step_cond (P := P) (b := b) (a := ⟨tm, []⟩) (k := k) (cs := cs) (w := w) (c := c) (x := x) (y := y) (t := t) (ev_eval (a := ⟨tm, []⟩) h3 hc)
    rw [this]; cases t <;> rfl⟩) h
theorem Rn.condT {c : Operand} {x y : Code} (hc : ev e c = some (.bool true)) (h : Rn P f n R (.code x :: k) e w) : Rn P f n R (.code (.cond c x y) :: k) e w := Rn.cond hc h
theorem Rn.condF {c : Operand} {x y : Code} (hc : ev e c = some (.bool false)) (h : Rn P f n R (.code y :: k) e w) : Rn P f n R (.code (.cond c x y) :: k) e w := Rn.cond hc h
theorem Rn.condS {c : Operand} {x y : Code} {t : Bool} (hc : ev e c = some (.bool t)) (ht : t = true → Rn P f n R (.code x :: k) e w) (hf : t = false → Rn P f n R (.code y :: k) e w) :
    Rn P f n R (.code (.cond c x y) :: k) e w := by
  cases t
  · exact Rn.cond hc (hf rfl)
  · exact Rn.cond hc (ht rfl)
/-- With the test as a proposition. -/
theorem Rn.condD {c : Operand} {x y : Code} {p : Prop} [Decidable p] (hc : ev e c = some (.bool (decide p))) (ht : p → Rn P f n R (.code x :: k) e w) (hf : ¬ p → Rn P f n R (.code y :: k) e w) :
    Rn P f n R (.code (.cond c x y) :: k) e w := Rn.condS hc (fun h => ht (of_decide_eq_true h)) (fun h => hf (of_decide_eq_false h))

theorem Rn.reg {id : Nat} {ops : Array Oper} (h : Rn P f n R (.inRegion ops (List.range ops.size) :: k) e w) : Rn P f n R (.code (.region id ops false) :: k) e w := Rn.plain (fun _ _ _ => step_region) h
theorem Rn.regEnd {ops : Array Oper} (h : Rn P f n R k e w) : Rn P f n R (.inRegion ops [] :: k) e w := Rn.plain (fun _ _ _ => step_region_end) h

/-- A bool in a slot, parted. -/
theorem Rn.part {t : Nat} {b : Bool} (hl : lk e t = some (.bool b)) (ht : b = true → Rn P f n R k ((t, .bool true) :: e) w) (hf : b = false → Rn P f n R k ((t, .bool false) :: e) w) : Rn P f n R k e w := by
  cases b
  · exact (hf rfl).weaken (Sub.cons hl (Sub.refl e))
  · exact (ht rfl).weaken (Sub.cons hl (Sub.refl e))
theorem Rn.partD {t : Nat} {p : Prop} [Decidable p] (hl : lk e t = some (.bool (decide p))) (ht : p → Rn P f n R k ((t, .bool true) :: e) w) (hf : ¬ p → Rn P f n R k ((t, .bool false) :: e) w) : Rn P f n R k e w :=
  Rn.part hl (fun h => ht (of_decide_eq_true h)) (fun h => hf (of_decide_eq_false h))
/-- A slot's value, told otherwise. -/
theorem Rn.say {t : Nat} {u : Value} (v : Value) (hl : lk e t = some u) (hv : u = v) (h : Rn P f n R k ((t, v) :: e) w) : Rn P f n R k e w := by
  subst hv; exact h.weaken (Sub.cons hl (Sub.refl e))

/-- A loop: E tells its slots, I its world, of a letter g. -/
theorem Rn.loopI {c : Code} {G : Type} (E : G → Env) (I : G → World → Prop) (μ : G → Nat) (g : G) (hE : Sub (E g) e) (hI : I g w)
    (body : ∀ g w, I g w → (∀ g' w' e', Sub (E g') e' → I g' w' → μ g' < μ g → Rn P f n R (.inLoop c :: k) e' w') → Rn P f n R (.code c :: .inLoop c :: k) (E g) w) :
    Rn P f n R (.code (.loop c) :: k) e w := by
  have key : ∀ m g w, μ g = m → I g w → Rn P f n R (.code c :: .inLoop c :: k) (E g) w := by
    intro m
    induction m using Nat.strongRecOn with
    | _ m ih =>
      intro g w hm hI
      refine body g w hI ?_
      intro g' w' e' hs hI' hlt
      exact Rn.inLoop ((ih (μ g') (hm ▸ hlt) g' w' rfl hI').weaken hs)
  exact Rn.loop ((key _ g w rfl hI).weaken hE)

/-- A piece of the way of which only an outcome is kept: E, I tell it of a letter g. -/
theorem Rn.cut {G : Type} (E : G → Env) (I : G → World → Prop) {k1 : List Item} (h : (∀ g w' e', Sub (E g) e' → I g w' → Rn P f n R k e' w') → Rn P f n R k1 e w)
    (rest : ∀ g w', I g w' → Rn P f n R k (E g) w') : Rn P f n R k1 e w := h fun g w' _ hs hI => (rest g w' hI).weaken hs

theorem Rn.retV {fn : Func} {v : Value} (hf : P.funcs[f]? = some fn) (hr : ∀ tm, Fits e n tm → (results fn tm).run P w = .ok v w) (h : R (.returned v) w) : Rn P f n R (.code .ret :: k) e w := by
  intro b tm cs h1 h2 h3
  refine ⟨.returned v, w, { b.at ⟨tm, []⟩ (.code .ret :: k) with mode := .returning }, h, Steps.one step_ret, h1, rfl, rfl, h2, fn, ?_, hr tm h3⟩
  simpa [Frame.at, h1] using hf
theorem Rn.endV {fn : Func} {v : Value} (hf : P.funcs[f]? = some fn) (hr : ∀ tm, Fits e n tm → (results fn tm).run P w = .ok v w) (h : R (.returned v) w) : Rn P f n R [] e w := by
  intro b tm cs h1 h2 h3
  refine ⟨.returned v, w, { b.at ⟨tm, []⟩ [] with mode := .returning }, h, Steps.one step_end, h1, rfl, rfl, h2, fn, ?_, hr tm h3⟩
  simpa [Frame.at, h1] using hf

theorem getD_of_fits {tm : Array Value} (h : Fits e n tm) {t : Nat} {v : Value} (hl : lk e t = some v) : tm.getD t undef = v := by simp [h.2 t v hl]

theorem res0 {fn : Func} (hr : fn.results = #[]) (tm : Array Value) : (results fn tm).run P w = .ok (.tuple #[]) w := by simp [results, hr]
theorem res1 {fn : Func} {t : Nat} (hr : fn.results = #[.tmp t]) {v : Value} (hl : lk e t = some v) (tm : Array Value) (h : Fits e n tm) : (results fn tm).run P w = .ok v w := by
  simp [results, hr, h.2 t v hl]
theorem res2 {fn : Func} {t u : Nat} (hr : fn.results = #[.tmp t, .tmp u]) {v x : Value} (hl : lk e t = some v) (hl' : lk e u = some x) (tm : Array Value) (h : Fits e n tm) : (results fn tm).run P w = .ok (.tuple #[v, x]) w := by
  simp [results, hr, h.2 t v hl, h.2 u x hl']
theorem res3 {fn : Func} {t u s : Nat} (hr : fn.results = #[.tmp t, .tmp u, .tmp s]) {v x y : Value} (hl : lk e t = some v) (hl' : lk e u = some x) (hl'' : lk e s = some y) (tm : Array Value) (h : Fits e n tm) : (results fn tm).run P w = .ok (.tuple #[v, x, y]) w := by
  simp [results, hr, h.2 t v hl, h.2 u x hl', h.2 s y hl'']
theorem res4 {fn : Func} {t u s r : Nat} (hr : fn.results = #[.tmp t, .tmp u, .tmp s, .tmp r]) {v x y z : Value} (hl : lk e t = some v) (hl' : lk e u = some x) (hl'' : lk e s = some y) (hl3 : lk e r = some z) (tm : Array Value) (h : Fits e n tm) : (results fn tm).run P w = .ok (.tuple #[v, x, y, z]) w := by
  simp [results, hr, h.2 t v hl, h.2 u x hl', h.2 s y hl'', h.2 r z hl3]

theorem Rn.ret0 {fn : Func} (hf : P.funcs[f]? = some fn) (hr : fn.results = #[]) (h : R (.returned (.tuple #[])) w) : Rn P f n R (.code .ret :: k) e w := Rn.retV hf (fun tm _ => res0 hr tm) h
theorem Rn.end0 {fn : Func} (hf : P.funcs[f]? = some fn) (hr : fn.results = #[]) (h : R (.returned (.tuple #[])) w) : Rn P f n R [] e w := Rn.endV hf (fun tm _ => res0 hr tm) h
theorem Rn.ret1 {fn : Func} {t : Nat} {v : Value} (hf : P.funcs[f]? = some fn) (hr : fn.results = #[.tmp t]) (hl : lk e t = some v) (h : R (.returned v) w) : Rn P f n R (.code .ret :: k) e w := Rn.retV hf (fun tm hh => res1 hr hl tm hh) h
theorem Rn.ret2 {fn : Func} {t u : Nat} {v x : Value} (hf : P.funcs[f]? = some fn) (hr : fn.results = #[.tmp t, .tmp u]) (hl : lk e t = some v) (hl' : lk e u = some x) (h : R (.returned (.tuple #[v, x])) w) : Rn P f n R (.code .ret :: k) e w :=
  Rn.retV hf (fun tm hh => res2 hr hl hl' tm hh) h
theorem Rn.ret3 {fn : Func} {t u s : Nat} {v x y : Value} (hf : P.funcs[f]? = some fn) (hr : fn.results = #[.tmp t, .tmp u, .tmp s]) (hl : lk e t = some v) (hl' : lk e u = some x) (hl'' : lk e s = some y) (h : R (.returned (.tuple #[v, x, y])) w) :
    Rn P f n R (.code .ret :: k) e w := Rn.retV hf (fun tm hh => res3 hr hl hl' hl'' tm hh) h
theorem Rn.ret4 {fn : Func} {t u s r : Nat} {v x y z : Value} (hf : P.funcs[f]? = some fn) (hr : fn.results = #[.tmp t, .tmp u, .tmp s, .tmp r]) (hl : lk e t = some v) (hl' : lk e u = some x) (hl'' : lk e s = some y) (hl3 : lk e r = some z) (h : R (.returned (.tuple #[v, x, y, z])) w) :
    Rn P f n R (.code .ret :: k) e w := Rn.retV hf (fun tm hh => res4 hr hl hl' hl'' hl3 tm hh) h

/- ONE OPERATION -/
def pd (dst : Option Nat) (v : Value) (e : Env) : Env := match dst with | some d => (d, v) :: e | none => e
section
variable {ops : Array Oper} {i : Nat} {rest : List Nat} {o : Oper}

/-- It yields a value. -/
theorem Rn.opV {v : Value} {w' : World} {d : Nat} (ho : ops[i]? = some o) (hg : gok e ops o.guard = true) (hd : o.dst = some d) (hn : Nat.blt d n = true)
    (hrun : ∀ a : Act, Fits e n a.tmps → (execOp a.eval o).run P w = .ok (.value v) w')
    (h : Rn P f n R (.inRegion ops rest :: k) ((d, v) :: e) w') : Rn P f n R (.inRegion ops (i :: rest) :: k) e w := by
  have hn' : d < n := by simpa [Nat.blt_eq] using hn
  refine Rn.byStep (fun b tm cs _ _ h3 => ⟨tm.setIfInBounds d v, h3.put hn' v, ?_⟩) h
  have hw := wanted_of_gok (ops := ops) (tm := tm) h3 hg
  have hst := stepG_op (P := P) (b := b) (a := ⟨tm, []⟩) (k := k) (cs := cs) (w := w) (rest := rest) ho hw
  have hfin := Frame.finish_at b ⟨tm, []⟩ ops i rest k v
  refine step_lone_go ?_
  rw [hst]
  have hr := hrun ⟨tm, []⟩ h3
  have hfin' : (b.at ⟨tm, []⟩ (.inRegion ops (i :: rest) :: k)).finish v = b.at ⟨tm.setIfInBounds d v, []⟩ (.inRegion ops rest :: k) := by
    rw [hfin]; simp [ho, hd, Act.put]
  rw [← hfin']
  simp [stepG.apply, hr]

/-- It yields nothing. -/
theorem Rn.opU {w' : World} (ho : ops[i]? = some o) (hg : gok e ops o.guard = true) (hd : o.dst = none)
    (hrun : ∀ a : Act, Fits e n a.tmps → (execOp a.eval o).run P w = .ok .skip w')
    (h : Rn P f n R (.inRegion ops rest :: k) e w') : Rn P f n R (.inRegion ops (i :: rest) :: k) e w := by
  refine Rn.byStep (fun b tm cs _ _ h3 => ⟨tm, h3, ?_⟩) h
  have hw := wanted_of_gok (ops := ops) (tm := tm) h3 hg
  have hst := stepG_op (P := P) (b := b) (a := ⟨tm, []⟩) (k := k) (cs := cs) (w := w) (rest := rest) ho hw
  have hfin := Frame.finish_at b ⟨tm, []⟩ ops i rest k undef
  refine step_lone_go ?_
  rw [hst]
  have hr := hrun ⟨tm, []⟩ h3
  have hfin' : (b.at ⟨tm, []⟩ (.inRegion ops (i :: rest) :: k)).finish undef = b.at ⟨tm, []⟩ (.inRegion ops rest :: k) := by
    rw [hfin]; simp [ho, hd, Act.put]
  rw [← hfin']
  simp [stepG.apply, hr]

/-- It yields a value into no slot. -/
theorem Rn.opN {v : Value} {w' : World} (ho : ops[i]? = some o) (hg : gok e ops o.guard = true) (hd : o.dst = none)
    (hrun : ∀ a : Act, Fits e n a.tmps → (execOp a.eval o).run P w = .ok (.value v) w')
    (h : Rn P f n R (.inRegion ops rest :: k) e w') : Rn P f n R (.inRegion ops (i :: rest) :: k) e w := by
  refine Rn.byStep (fun b tm cs _ _ h3 => ⟨tm, h3, ?_⟩) h
  have hw := wanted_of_gok (ops := ops) (tm := tm) h3 hg
  have hst := stepG_op (P := P) (b := b) (a := ⟨tm, []⟩) (k := k) (cs := cs) (w := w) (rest := rest) ho hw
  have hfin := Frame.finish_at b ⟨tm, []⟩ ops i rest k v
  refine step_lone_go ?_
  rw [hst]
  have hr := hrun ⟨tm, []⟩ h3
  have hfin' : (b.at ⟨tm, []⟩ (.inRegion ops (i :: rest) :: k)).finish v = b.at ⟨tm, []⟩ (.inRegion ops rest :: k) := by
    rw [hfin]; simp [ho, hd, Act.put]
  rw [← hfin']
  simp [stepG.apply, hr]

/-- Its guard says no. -/
theorem Rn.no {d : Nat} (ho : ops[i]? = some o) (hg : gno e ops o.guard = true) (hd : o.dst = some d) (hn : Nat.blt d n = true)
    (h : Rn P f n R (.inRegion ops rest :: k) ((d, undef) :: e) w) : Rn P f n R (.inRegion ops (i :: rest) :: k) e w := by
  have hn' : d < n := by simpa [Nat.blt_eq] using hn
  refine Rn.byStep (fun b tm cs _ _ h3 => ⟨tm.setIfInBounds d undef, h3.put hn' undef, ?_⟩) h
  have hw := wanted_of_gno (ops := ops) (tm := tm) h3 hg
  have := step_op_skip (P := P) (b := b) (a := ⟨tm, []⟩) (k := k) (cs := cs) (w := w) (rest := rest) (ops := ops) (i := i) (by simp only [ho, Option.map_some, Option.getD_some]; exact hw)
  rw [this]
  simp [ho, hd, Act.put]
theorem Rn.noU (ho : ops[i]? = some o) (hg : gno e ops o.guard = true) (hd : o.dst = none)
    (h : Rn P f n R (.inRegion ops rest :: k) e w) : Rn P f n R (.inRegion ops (i :: rest) :: k) e w := by
  refine Rn.byStep (fun b tm cs _ _ h3 => ⟨tm, h3, ?_⟩) h
  have hw := wanted_of_gno (ops := ops) (tm := tm) h3 hg
  have := step_op_skip (P := P) (b := b) (a := ⟨tm, []⟩) (k := k) (cs := cs) (w := w) (rest := rest) (ops := ops) (i := i) (by simp only [ho, Option.map_some, Option.getD_some]; exact hw)
  rw [this]
  simp [ho, hd, Act.put]

/-- It calls a function of the program's. -/
theorem Rn.opC' {g : FuncId} {args : Array Value} {R' : Ending → World → Prop} {dst : Option Nat} (ho : ops[i]? = some o) (hg : gok e ops o.guard = true) (hd : o.dst = dst)
    (hn : (dst.all fun d => Nat.blt d n) = true)
    (hrun : ∀ a : Act, Fits e n a.tmps → (execOp a.eval o).run P w = .ok (.enter g args) w) (hc : Calls P g args w R')
    (h : ∀ x w', R' x w' → ∃ v, x = .returned v ∧ Rn P f n R (.inRegion ops rest :: k) (pd dst v e) w') : Rn P f n R (.inRegion ops (i :: rest) :: k) e w := by
  intro b tm cs h1 h2 h3
  have hw := wanted_of_gok (ops := ops) (tm := tm) h3 hg
  have hst := stepG_op (P := P) (b := b) (a := ⟨tm, []⟩) (k := k) (cs := cs) (w := w) (rest := rest) ho hw
  have hr := hrun ⟨tm, []⟩ h3
  have henter : step P (lone (b.at ⟨tm, []⟩ (.inRegion ops (i :: rest) :: k)) cs w) =
      .next (lone (Frame.enter P g args .normal) (b.at ⟨tm, []⟩ (.inRegion ops (i :: rest) :: k) :: cs) w) :=
    step_lone_go (by rw [hst]; simp [stepG.apply, hr, Frame.at])
  obtain ⟨x, w', fr, hR, hcomes, _, hleave⟩ := hc (b.at ⟨tm, []⟩ (.inRegion ops (i :: rest) :: k) :: cs)
  obtain ⟨v, rfl, hk⟩ := h x w' hR
  have hfin := Frame.finish_at b ⟨tm, []⟩ ops i rest k v
  have hleave' := step_leave_returned (cs := cs) (c := b.at ⟨tm, []⟩ (.inRegion ops (i :: rest) :: k)) hleave
  rw [hfin] at hleave'
  subst hd
  cases hd : o.dst with
  | none =>
    rw [hd] at hk
    obtain ⟨x2, w2, fr2, hR2, hc2, q⟩ := hk b tm cs h1 h2 h3
    refine ⟨x2, w2, fr2, hR2, Comes.of_steps (.head henter (hcomes.trans (.one ?_))) hc2, q⟩
    rw [hleave']; simp [ho, hd, Act.put]
  | some d =>
    rw [hd] at hk hn
    have hn' : d < n := by simpa [Nat.blt_eq] using hn
    obtain ⟨x2, w2, fr2, hR2, hc2, q⟩ := hk b (tm.setIfInBounds d v) cs h1 h2 (h3.put hn' v)
    refine ⟨x2, w2, fr2, hR2, Comes.of_steps (.head henter (hcomes.trans (.one ?_))) hc2, q⟩
    rw [hleave']; simp [ho, hd, Act.put]

theorem Rn.opC {g : FuncId} {args : Array Value} {R' : Ending → World → Prop} {d : Nat} (ho : ops[i]? = some o) (hg : gok e ops o.guard = true) (hd : o.dst = some d)
    (hn : Nat.blt d n = true) (hrun : ∀ a : Act, Fits e n a.tmps → (execOp a.eval o).run P w = .ok (.enter g args) w) (hc : Calls P g args w R')
    (h : ∀ x w', R' x w' → ∃ v, x = .returned v ∧ Rn P f n R (.inRegion ops rest :: k) ((d, v) :: e) w') : Rn P f n R (.inRegion ops (i :: rest) :: k) e w :=
  Rn.opC' (dst := some d) ho hg hd (by simpa using hn) hrun hc h
theorem Rn.opCN {g : FuncId} {args : Array Value} {R' : Ending → World → Prop} (ho : ops[i]? = some o) (hg : gok e ops o.guard = true) (hd : o.dst = none)
    (hrun : ∀ a : Act, Fits e n a.tmps → (execOp a.eval o).run P w = .ok (.enter g args) w) (hc : Calls P g args w R')
    (h : ∀ x w', R' x w' → ∃ v, x = .returned v ∧ Rn P f n R (.inRegion ops rest :: k) e w') : Rn P f n R (.inRegion ops (i :: rest) :: k) e w :=
  Rn.opC' (dst := none) ho hg hd rfl hrun hc h
end
end
end Go.Wk
