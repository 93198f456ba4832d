/-
  Regions of operations: in the order of the text.
-/
import Derived.Test.YtnieokpcakhfpaaGreatAmRun2
namespace Go.AM

variable {P : Program} {nn : Nat}

theorem put_sound {μ : Mu} {A : Tr} {a : Act} (h : SR nn μ A a) (d : Option Nat) (hd : ∀ i, d = some i → i < nn) {r : AV} {v : Value} (hv : VR μ r v) : SR nn μ (put A d r) (a.put d v) := by
  cases d with
  | none => exact h
  | some d =>
    have hlt := hd d rfl
    obtain ⟨e, hdep, hle⟩ := h.wf
    refine ⟨⟨e, Tr.set_dep hdep _ _, hle⟩, by simpa [Act.put] using h.size, fun i => ?_, h.defers⟩
    simp only [put, Act.put]
    rw [Tr.get_set hdep _ _ _ (by omega)]
    have hs := h.size
    by_cases e1 : i = d
    · subst e1
      rw [if_pos rfl]
      simp [Array.getD_eq_getD_getElem?, hs, hlt]; exact hv
    · rw [if_neg e1]
      have := h.get i
      simpa [Array.getD_eq_getD_getElem?, Array.getElem?_setIfInBounds, Ne.symm e1] using this

/-- A call's operation. -/
theorem call_wp {call : CallF} (hcall : CallSound P call) {o : Oper} {ao : AOp} (hok : okOp P o.op ao = true) (hc : ao.isCall = true) {A : Tr} {a : Act} {μ : Mu} {H H' : Heap} {w : World} (hs : SR nn μ A a) (hw : WR μ H w) {r : AV}
    (hr : stepOp call A H ao = some (r, H')) {K : Act → World → Prop} {Q : Exit → Act → World → Prop} (hk : ∀ μ' w' v, Stp μ H w μ' H' w' → VR μ' r v → K (a.put o.dst v) w') : o.wp P a w K Q := by
  have fin : ∀ (f : FuncId) (vs : List Value) (args : List AV), VRL μ args vs → call f H args = some (r, H') → (∀ w, (execOp a.eval o).run P w = (callFunc f vs.toArray).run P w) → o.wp P a w K Q := by
    intro f vs args hv hcl he
    obtain ⟨h1, h2⟩ := hcall f H args r H' hcl
    have h3 := h2 μ w vs hw hv
    unfold Oper.wp
    rw [he, run_callFunc h1, Oper.upon_enter]
    refine Calls.mono h3 fun e w' ⟨μ', v, h4, h5, h6⟩ => ?_
    subst h4
    exact hk μ' w' v h6 h5
  obtain ⟨dst, op, type, pos, after, guard⟩ := o
  simp only at hok
  cases ao <;> simp only [AOp.isCall] at hc <;> (try (simp at hc; done))
  · rename_i f' args'
    simp only [okOp] at hok
    split at hok
    case h_2 => simp at hok
    rename_i f args tys
    simp only [Bool.and_eq_true] at hok
    obtain ⟨⟨h1, h2⟩, h3⟩ := hok
    simp at h1; subst h1
    simp only [stepOp, s_call] at hr
    refine fin f (args.toList.map a.eval) _ (evs_sound hs h3) hr fun w => ?_
    have e1 : (args.toList.map a.eval).toArray = args.map a.eval := by apply Array.ext'; simp
    rw [e1]
    simp [execOp, resolve, Deferred.ofValue, Act.eval, invoke]
  · rename_i g args'
    simp only [okOp] at hok
    split at hok
    case h_2 => simp at hok
    rename_i x args tys
    simp only [Bool.and_eq_true] at hok
    obtain ⟨h1, h2⟩ := hok
    simp only [stepOp, s_calld] at hr
    split at hr
    · rename_i f cap he
      have hx := ev_sound hs h1
      rw [he] at hx; simp only [VR] at hx
      obtain ⟨us, hv, hl⟩ := hx
      refine fin f (args.toList.map a.eval ++ us) _ ((evs_sound hs h2).append hl) hr fun w => ?_
      have e1 : (args.toList.map a.eval ++ us).toArray = args.map a.eval ++ us.toArray := by apply Array.ext'; simp
      rw [e1]
      simp [execOp, resolve, hv, Deferred.ofValue, invoke]
    · simp at hr

theorem step_wp {call : CallF} (hcall : CallSound P call) {o : Oper} {ao : AOp} (hok : okOp P o.op ao = true) {A : Tr} {a : Act} {μ : Mu} {H H' : Heap} {w : World} (hs : SR nn μ A a) (hw : WR μ H w) {r : AV}
    (hr : stepOp call A H ao = some (r, H')) {K : Act → World → Prop} {Q : Exit → Act → World → Prop} (hk : ∀ μ' w' v, Stp μ H w μ' H' w' → VR μ' r v → K (a.put o.dst v) w') : o.wp P a w K Q := by
  by_cases hc : ao.isCall = true
  · exact call_wp hcall hok hc hs hw hr hk
  · obtain ⟨μ', w', rv, h1, h2, h3⟩ := (step_does hok (by simpa using hc) hs hw hr).ex
    unfold Oper.wp
    rcases h1 with h1 | ⟨h1, rfl⟩
    · rw [h1, Oper.upon_value]; exact hk μ' w' rv h2 h3
    · rw [h1, Oper.upon_skip]; exact hk μ' w' undef h2 h3

/-- An operation with its guard. -/
def okIns (P : Program) (nn : Nat) (ops : Array Oper) (o : Oper) (i : AIns) : Bool :=
  decide (o.dst = i.dst) && (match i.dst with | some d => decide (d < nn) | none => true) && (match o.guard, i.guard with
    | none, none => true
    | some (j, b), some (g, b') => decide ((ops[j]?).bind (·.dst) = some g) && b == b'
    | _, _ => false) && okOp P o.op i.op

theorem wanted_sound {ops : Array Oper} {o : Oper} {i : AIns} (hok : okIns P nn ops o i = true) {μ : Mu} {A : Tr} {a : Act} (hs : SR nn μ A a) {b : Bool} (hb : wanted A i.guard = some b) : Region.wanted o (yielded ops a.tmps) = b := by
  simp only [okIns, Bool.and_eq_true] at hok
  obtain ⟨⟨⟨_, _⟩, hg⟩, _⟩ := hok
  unfold Region.wanted
  split at hg
  · rename_i e1 e2
    rw [e2] at hb; simp [wanted] at hb; subst hb
    simp [e1]
  · rename_i j b1 g b2 e1 e2
    simp at hg
    obtain ⟨h1, rfl⟩ := hg
    rw [e2] at hb
    rw [e1]
    simp only [wanted] at hb
    have hsl := slot_sound hs g
    have hy : yielded ops a.tmps j = (match a.tmps[g]? with | some (.bool b) => some b | _ => none) := by
      unfold yielded; rw [h1]; rfl
    have hd : a.tmps.getD g undef = (a.tmps[g]?).getD undef := by simp [Array.getD_eq_getD_getElem?]
    split at hb
    · rename_i c hc
      simp at hb; subst hb
      rw [hc] at hsl; simp only [VR] at hsl
      rw [hd] at hsl
      have : a.tmps[g]? = some (.bool c) := by
        cases ht : a.tmps[g]? with
        | none => rw [ht] at hsl; simp [undef] at hsl
        | some x => rw [ht] at hsl; simp at hsl; rw [hsl]
      show (yielded ops a.tmps j == some b1) = _
      rw [hy, this]
      cases c <;> cases b1 <;> rfl
    · rename_i hc
      simp at hb; subst hb
      rw [hc] at hsl; simp only [VR, VRL] at hsl
      obtain ⟨vs, hv, rfl⟩ := hsl
      rw [hd] at hv
      show (yielded ops a.tmps j == some b1) = _
      rw [hy]
      cases ht : a.tmps[g]? with
      | none => rfl
      | some x => rw [ht] at hv; simp at hv; subst hv; rfl
    · simp at hb
  · simp at hg

theorem ins_wp {call : CallF} (hcall : CallSound P call) {ops : Array Oper} {k : Nat} {o : Oper} (hk : ops[k]? = some o) {i : AIns} (hok : okIns P nn ops o i = true) {A A' : Tr} {a : Act} {μ : Mu} {H H' : Heap} {w : World} (hs : SR nn μ A a) (hw : WR μ H w)
    (hr : stepIns call i A H = some (A', H')) {K : Act → World → Prop} {Q : Exit → Act → World → Prop} (hK : ∀ μ' a' w', Stp μ H w μ' H' w' → SR nn μ' A' a' → K a' w') : wpOp P ops Q k K a w := by
  unfold wpOp
  simp only [hk]
  unfold stepIns at hr
  have hok' := hok
  simp only [okIns, Bool.and_eq_true] at hok'
  obtain ⟨⟨⟨hd, hdn⟩, _⟩, hop⟩ := hok'
  simp at hd
  have hlt : ∀ j, i.dst = some j → j < nn := fun j hj => by rw [hj] at hdn; simpa using hdn
  split at hr
  · simp at hr
  · rename_i hb
    simp at hr; obtain ⟨rfl, rfl⟩ := hr
    rw [wanted_sound hok hs hb]
    simp only [Bool.false_eq_true, if_false]
    exact hK μ _ w (Stp.refl hw) (by rw [hd]; exact put_sound hs _ hlt (vr_undef _))
  · rename_i hb
    rw [wanted_sound hok hs hb]
    simp only [if_true]
    split at hr
    · simp at hr
    · rename_i v H1 hst
      simp at hr; obtain ⟨rfl, rfl⟩ := hr
      exact .inl (step_wp hcall hop hs hw hst fun μ' w' v hst' hv => hK μ' _ w' hst' (by rw [hd]; exact put_sound (hs.ext hst'.ext) _ hlt hv))

def okAll (P : Program) (nn : Nat) (ops : Array Oper) (is : List AIns) : Bool := all2 (okIns P nn ops) ops.toList is

theorem run_wp {call : CallF} (hcall : CallSound P call) {ops : Array Oper} {Q : Exit → Act → World → Prop} : ∀ (is : List AIns) (k : Nat), all2 (okIns P nn ops) (ops.toList.drop k) is = true → ∀ {A A' : Tr} {a : Act} {μ : Mu} {H H' : Heap} {w : World},
    SR nn μ A a → WR μ H w → runIns call is A H = some (A', H') → (∀ μ' a' w', Stp μ H w μ' H' w' → SR nn μ' A' a' → Q .normal a' w') → wpOps P ops Q (List.range' k is.length) a w
  | [], k, _, A, A', a, μ, H, H', w, hs, hw, hr, hQ => by
    simp [runIns] at hr; obtain ⟨rfl, rfl⟩ := hr
    simp only [List.length_nil, List.range'_zero, wpOps]
    exact hQ μ a w (Stp.refl hw) hs
  | i :: is, k, hok, A, A', a, μ, H, H', w, hs, hw, hr, hQ => by
    cases hd : ops.toList.drop k with
    | nil => rw [hd] at hok; simp [all2] at hok
    | cons o os =>
      rw [hd] at hok
      simp only [all2, Bool.and_eq_true] at hok
      have hk : ops[k]? = some o := by
        have := congrArg (·[0]?) hd
        simp only [List.getElem?_drop, Nat.add_zero, List.getElem?_cons_zero] at this
        simpa using this
      have hos : os = ops.toList.drop (k + 1) := by
        have := congrArg List.tail hd
        simpa [List.tail_drop] using this.symm
      simp only [runIns] at hr
      split at hr
      · simp at hr
      · rename_i A1 H1 hst
        simp only [List.length_cons, List.range'_succ]
        rw [wpOps_cons]
        refine ins_wp hcall hk hok.1 hs hw hst fun μ' a' w' h1 h2 => ?_
        exact run_wp hcall is (k + 1) (by rw [← hos]; exact hok.2) h2 h1.wr hr fun μ'' a'' w'' h3 h4 => hQ μ'' a'' w'' (h1.trans h3) h4

theorem region_wp {call : CallF} (hcall : CallSound P call) {ops : Array Oper} {is : List AIns} (hok : okAll P nn ops is = true) {Q : Exit → Act → World → Prop} {A A' : Tr} {a : Act} {μ : Mu} {H H' : Heap} {w : World}
    (hs : SR nn μ A a) (hw : WR μ H w) (hr : runIns call is A H = some (A', H')) (hQ : ∀ μ' a' w', Stp μ H w μ' H' w' → SR nn μ' A' a' → Q .normal a' w') (id : Nat) : (Code.region id ops false).wp P Q a w := by
  have hl : ops.size = is.length := by simpa using (all2_get hok).1
  refine wp_region ?_
  rw [hl, List.range_eq_range']
  exact run_wp hcall is 0 hok hs hw hr hQ

end Go.AM
