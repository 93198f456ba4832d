/-
  One operation: the model does what the abstract machine says.
-/
import Derived.Test.YtnieokpcakhfpaaGreatAmCheck
namespace Go.AM

variable {P : Program} {nn : Nat}

/-- A tree of slots of a depth. -/
def Tr.dep : Tr → Nat → Prop
  | .lf _, d => d = 0
  | .nd a b, d => ∃ e, d = e + 1 ∧ a.dep e ∧ b.dep e
theorem Tr.set_dep : ∀ {A : Tr} {d : Nat} (_ : A.dep d) (i : Nat) (v : AV), (A.set i v).dep d
  | .lf u, d, h, i, v => by
    simp only [Tr.set]
    cases Nat.beq i 0 <;> exact h
  | .nd a b, d, h, i, v => by
    obtain ⟨e, rfl, h1, h2⟩ := h
    simp only [Tr.set]
    cases Nat.beq (i % 2) 0
    · exact ⟨e, rfl, h1, Tr.set_dep h2 _ _⟩
    · exact ⟨e, rfl, Tr.set_dep h1 _ _, h2⟩
theorem Tr.get_set : ∀ {A : Tr} {d : Nat} (_ : A.dep d) (i j : Nat) (v : AV), i < 2 ^ d → (A.set i v).get j = if j = i then v else A.get j
  | .lf u, d, h, i, j, v, hi => by
    have h : d = 0 := h
    subst h
    have : i = 0 := by omega
    subst this
    simp only [Tr.set, Nat.beq, cond, Tr.get]
    by_cases hj : j = 0
    · subst hj; rfl
    · rw [if_neg hj]
      have : Nat.beq j 0 = false := by cases j with | zero => exact absurd rfl hj | succ j => rfl
      rw [this]
  | .nd a b, d, h, i, j, v, hi => by
    obtain ⟨e, rfl, h1, h2⟩ := h
    have hie : i / 2 < 2 ^ e := by rw [Nat.pow_succ] at hi; omega
    have hb : ∀ n, Nat.beq (n % 2) 0 = decide (n % 2 = 0) := fun n => by
      rcases Nat.mod_two_eq_zero_or_one n with e | e <;> rw [e] <;> rfl
    simp only [Tr.set, hb]
    by_cases hp : i % 2 = 0
    · simp only [hp, decide_true, cond, Tr.get, hb]
      by_cases hq : j % 2 = 0
      · simp only [hq, decide_true]
        rw [Tr.get_set h1 _ _ _ hie]
        have : (j / 2 = i / 2) ↔ j = i := by omega
        simp only [this]
      · simp only [hq, decide_false]
        rw [if_neg (by intro e; subst e; exact hq hp)]
    · simp only [hp, decide_false, cond, Tr.get, hb]
      by_cases hq : j % 2 = 0
      · simp only [hq, decide_true]
        rw [if_neg (by intro e; subst e; exact hp hq)]
      · simp only [hq, decide_false]
        rw [Tr.get_set h2 _ _ _ hie]
        have : (j / 2 = i / 2) ↔ j = i := by omega
        simp only [this]

/-- Slots stand for slots. -/
structure SR (nn : Nat) (μ : Mu) (A : Tr) (a : Act) : Prop where
  wf : ∃ d, A.dep d ∧ nn ≤ 2 ^ d
  size : a.tmps.size = nn
  get : ∀ i, VR μ (A.get i) (a.tmps.getD i undef)
  defers : a.defers = []

theorem SR.ext {n : Nat} {μ μ' : Mu} (h : Ext n μ μ') {A : Tr} {a : Act} (hs : SR nn μ A a) : SR nn μ' A a := ⟨hs.wf, hs.size, fun i => (hs.get i).ext h, hs.defers⟩

theorem vr_undef (μ : Mu) : VR μ (.tup []) undef := by simp only [VR, VRL]; exact ⟨[], rfl, rfl⟩

theorem slot_sound {μ : Mu} {A : Tr} {a : Act} (h : SR nn μ A a) (i : Nat) : VR μ (A.get i) (a.tmps.getD i undef) := h.get i

theorem ev_sound {μ : Mu} {A : Tr} {a : Act} (h : SR nn μ A a) {x : Operand} {y : Opd} (hx : okOpd x y = true) : VR μ (ev A y) (a.eval x) := by
  cases x with
  | tmp t =>
    cases y with
    | t i => simp [okOpd] at hx; subst hx; exact slot_sound h t
    | c v => simp [okOpd] at hx
  | const v =>
    cases y with
    | t i => simp [okOpd] at hx
    | c b => simp only [okOpd] at hx; simp only [ev, Act.eval]; exact okConst_vr μ _ _ hx
  | global g => cases y <;> simp [okOpd] at hx
  | func f =>
    cases y with
    | t i => simp [okOpd] at hx
    | c v =>
      unfold okOpd at hx
      split at hx
      · simp_all
      · simp_all
      · rename_i h1 h2
        simp at h1 h2 hx; subst h1; subst h2; subst hx
        simp only [ev, Act.eval, VR, VRL]; exact ⟨[], rfl, rfl⟩
      · simp at hx

theorem evO_sound {μ : Mu} {A : Tr} {a : Act} (h : SR nn μ A a) {x : Option Operand} {y : Option Opd} (hx : okOpdO x y = true) : VO μ (y.map (ev A)) (x.map a.eval) := by
  cases x <;> cases y <;> simp [okOpdO] at hx
  · exact .none
  · exact .some (ev_sound h hx)

theorem evs_sound {μ : Mu} {A : Tr} {a : Act} (h : SR nn μ A a) : ∀ {xs : List Operand} {ys : List Opd}, all2 okOpd xs ys = true → VRL μ (ys.map (ev A)) (xs.map a.eval)
  | [], [], _ => by simp [VRL]
  | x :: xs, y :: ys, hx => by
    simp [all2] at hx
    simp only [List.map_cons, VRL]
    exact ⟨_, _, rfl, ev_sound h hx.1, evs_sound h hx.2⟩
  | [], _ :: _, hx => by simp [all2] at hx
  | _ :: _, [], hx => by simp [all2] at hx

theorem parts_sound {μ : Mu} {A : Tr} {a : Act} (h : SR nn μ A a) {place : Nat → Option (Nat × Nat)} : ∀ {ps : List (Nat × Operand)} {qs : List (Nat × Nat × Opd)}, partsB place ps qs = true →
    Parts μ place (qs.map fun (o, n, x) => (o, n, ev A x)) (ps.map fun (i, x) => (i, a.eval x))
  | [], [], _ => .nil
  | (i, x) :: ps, (off, n, y) :: qs, hx => by
    simp only [partsB, Bool.and_eq_true] at hx
    obtain ⟨⟨h1, h2⟩, h3⟩ := hx
    split at h1
    · rename_i o m hp
      simp at h1; obtain ⟨rfl, rfl⟩ := h1
      exact .cons hp (ev_sound h h2) (parts_sound h h3)
    · simp at h1
  | [], _ :: _, hx => by simp [partsB] at hx
  | _ :: _, [], hx => by simp [partsB] at hx

theorem mapM_places {w : World} : ∀ (fs : List Field) (pl : List (Nat × Nat)), mapO (fun (f : Field) => (P.info? f.type).map fun i => (f.offset, i.size)) fs = some pl →
    (fs.mapM fun f => do pure (f.offset, ← sizeOf f.type) : Sem (List (Nat × Nat))).run P w = .ok pl w
  | [], pl, h => by simp [mapO] at h; subst h; rfl
  | f :: fs, pl, h => by
    simp only [mapO] at h
    split at h
    · simp at h
    · rename_i y hy
      split at h
      · simp at h
      · rename_i ys hys
        simp at h; subst h
        simp only [Option.map_eq_some_iff] at hy
        obtain ⟨i, hi, rfl⟩ := hy
        have hsz : (sizeOf f.type).run P w = .ok i.size w := by rw [run_sizeOf w hi]; simp [Program.cellsOf, hi]
        rw [List.mapM_cons]
        simp only [Sem.run_bind, hsz, Result.andThen, Sem.run_pure, mapM_places fs ys hys]
theorem run_places {w : World} {fs : Array Field} {pl : List (Nat × Nat)} (h : fieldPlaces P fs = some pl) :
    (fs.mapM fun f => do pure (f.offset, ← sizeOf f.type) : Sem (Array (Nat × Nat))).run P w = .ok pl.toArray w := by
  have := mapM_places (P := P) (w := w) fs.toList pl h
  rw [Array.mapM_eq_mapM_toList]
  simp only [Sem.run_map, this, Result.andThen]

/-- May a function be entered? -/
def Callable (P : Program) (f : FuncId) : Prop := ∃ fn b, P.funcs[f]? = some fn ∧ fn.body = some b ∧ fn.name ≠ "runtime.NumGoroutine"
theorem callB_ex {f : FuncId} (h : callB P f = true) : Callable P f := by
  unfold callB at h
  split at h
  · rename_i fn h1
    simp only [Bool.and_eq_true, Bool.not_eq_true'] at h
    obtain ⟨b, hb⟩ := Option.isSome_iff_exists.1 h.1
    exact ⟨fn, b, h1, hb, by have := h.2; simpa using this⟩
  · simp at h
theorem run_callFunc {f : FuncId} (h : Callable P f) (args : Array Value) (w : World) : (callFunc f args).run P w = .ok (.enter f args) w := by
  obtain ⟨fn, b, h1, h2, h3⟩ := h
  simp [callFunc, h1, h2, h3]

/-- What a run of calls promises. -/
def CallSound (P : Program) (call : CallF) : Prop :=
  ∀ f H args r H', call f H args = some (r, H') → Callable P f ∧ ∀ μ w vs, WR μ H w → VRL μ args vs →
    Calls P f vs.toArray w fun e w' => ∃ μ' v, e = .returned v ∧ VR μ' r v ∧ Stp μ H w μ' H' w'

def AOp.isCall : AOp → Bool
  | .call .. | .calld .. => true
  | _ => false

/-- What an operation that is no call does. -/
structure Does (P : Program) (o : Oper) (a : Act) (μ : Mu) (H : Heap) (w : World) (r : AV) (H' : Heap) : Prop where
  ex : ∃ μ' w' rv, ((execOp a.eval o).run P w = .ok (.value rv) w' ∨ ((execOp a.eval o).run P w = .ok .skip w' ∧ rv = undef)) ∧ Stp μ H w μ' H' w' ∧ VR μ' r rv

theorem Does.same {o : Oper} {a : Act} {μ : Mu} {H : Heap} {w : World} {r : AV} {rv : Value} (hw : WR μ H w) (hr : (execOp a.eval o).run P w = .ok (.value rv) w) (hv : VR μ r rv) : Does P o a μ H w r H :=
  ⟨μ, w, rv, .inl hr, Stp.refl hw, hv⟩

theorem lift_some {H H' : Heap} {x : Option AV} {r : AV} (h : lift H x = some (r, H')) : x = some r ∧ H' = H := by
  unfold lift at h
  split at h
  · simp at h; exact ⟨by rw [h.1], h.2.symm⟩
  · simp at h

end Go.AM
