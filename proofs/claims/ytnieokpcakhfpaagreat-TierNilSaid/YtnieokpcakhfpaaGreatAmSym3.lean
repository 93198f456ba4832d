/-
  Runs put together from parts; loops.
-/
import Derived.Test.YtnieokpcakhfpaaGreatAmSym2
namespace Go.AM
variable {E : Env}

def Tr.depB : Nat → Tr → Bool
  | 0, .lf _ => true
  | d + 1, .nd a b => a.depB d && b.depB d
  | _, _ => false
theorem Tr.depB_dep : ∀ {d : Nat} {A : Tr}, A.depB d = true → A.dep d
  | 0, .lf _, _ => rfl
  | d + 1, .nd a b, h => by
    simp only [Tr.depB, Bool.and_eq_true] at h
    exact ⟨d, rfl, Tr.depB_dep h.1, Tr.depB_dep h.2⟩
  | 0, .nd _ _, h => by simp [Tr.depB] at h
  | d + 1, .lf _, h => by simp [Tr.depB] at h

/-- The same, so written that the kernel runs it first. -/
theorem bodyS_map {y : Sy} {fn : AFunc} {args : List AV} {H : Heap} {s : List Ans} {r : AV} {H' : Heap} {qs : List Q} (h : (bodyS y E fn args H s).map (fun p => (p.1, p.2.1, p.2.2)) = some (r, H', qs)) (hall : All E.call qs) : runBody E fn args H = some (r, H') := by
  cases hb : bodyS y E fn args H s with
  | none => rw [hb] at h; simp at h
  | some p =>
    rw [hb] at h
    obtain ⟨a, b, c⟩ := p
    simp at h
    obtain ⟨rfl, rfl, rfl⟩ := h
    exact bodyS_sound hb hall

/-- What is wanted of a scripted run. -/
def look {X : Type} (g : Tr → X) (r : Option (Out × St)) : Option (Out × Heap × X × List Q) := r.map fun p => (p.1, p.2.H, g p.2.A, p.2.qs)

theorem part {X : Type} {y : Sy} {s : List Ans} {c : ACode} {A : Tr} {H : Heap} (g : Tr → X) {o : Out} {H' : Heap} {x : X} {qs : List Q} (h : look g (execS y E c ⟨A, H, s, []⟩) = some (o, H', x, qs)) (hall : All E.call qs) :
    ∃ A', exec E c A H = some (o, A', H') ∧ g A' = x := by
  unfold look at h
  cases hz : execS y E c ⟨A, H, s, []⟩ with
  | none => rw [hz] at h; simp at h
  | some p =>
    rw [hz] at h
    obtain ⟨o', z⟩ := p
    simp at h
    obtain ⟨rfl, rfl, rfl, rfl⟩ := h
    exact ⟨_, (execS_sound c _ _ _ hz).2 hall, rfl⟩

theorem exec_seq {a b : ACode} {A A1 : Tr} {H H1 : Heap} (h : exec E a A H = some (.normal, A1, H1)) : exec E (.seq a b) A H = exec E b A1 H1 := by
  simp only [exec, h]
theorem exec_seq_inv {a b : ACode} {A A2 : Tr} {H H2 : Heap} (h : exec E (.seq a b) A H = some (.normal, A2, H2)) : ∃ A1 H1, exec E a A H = some (.normal, A1, H1) ∧ exec E b A1 H1 = some (.normal, A2, H2) := by
  simp only [exec] at h
  split at h
  · simp at h
  · rename_i A1 H1 h1; exact ⟨A1, H1, h1, h⟩
  · rename_i hno _; simp at h; exact absurd h.1 (fun e => hno e)
theorem exec_stop {a b : ACode} {A A1 : Tr} {H H1 : Heap} {o : Out} (h : exec E a A H = some (o, A1, H1)) (ho : o ≠ .normal) : exec E (.seq a b) A H = some (o, A1, H1) := by
  simp only [exec, h]

theorem loop_runs {G : Run} {I : Nat → Tr → Heap → Prop} {k : Nat} {o : Out} (ho : o ≠ .normal) {F : Tr → Heap → Prop}
    (hs : ∀ i A H, i < k → I i A H → ∃ A' H', G A H = some (.normal, A', H') ∧ I (i + 1) A' H')
    (he : ∀ A H, I k A H → ∃ A' H', G A H = some (o, A', H') ∧ F A' H') :
    ∀ m i A H n, i + m = k → m < n → I i A H → ∃ A' H', loopN G n A H = some (o, A', H') ∧ F A' H'
  | 0, i, A, H, n + 1, hm, _, h => by
    have hm : i = k := by omega
    subst hm
    obtain ⟨A', H', h1, h2⟩ := he A H h
    refine ⟨A', H', ?_, h2⟩
    simp only [loopN, h1]
  | m + 1, i, A, H, n + 1, hm, hn, h => by
    obtain ⟨A', H', h1, h2⟩ := hs i A H (by omega) h
    obtain ⟨A2, H2, h3, h4⟩ := loop_runs ho hs he m (i + 1) A' H' n (by omega) (by omega) h2
    refine ⟨A2, H2, ?_, h4⟩
    simp only [loopN, h1]; exact h3
  | 0, _, _, _, 0, _, hn, _ => by omega
  | _ + 1, _, _, _, 0, _, hn, _ => by omega

/-- A loop in its block, left by the block's exit. -/
theorem block_loop {c : ACode} {id : Nat} {I : Nat → Tr → Heap → Prop} {k : Nat} {F : Tr → Heap → Prop} (hk : k < rounds)
    (hs : ∀ i A H, i < k → I i A H → ∃ A' H', exec E c A H = some (.normal, A', H') ∧ I (i + 1) A' H')
    (he : ∀ A H, I k A H → ∃ A' H', exec E c A H = some (.exit id, A', H') ∧ F A' H') {A : Tr} {H : Heap} (h : I 0 A H) :
    ∃ A' H', exec E (.block id (.loop c)) A H = some (.normal, A', H') ∧ F A' H' := by
  obtain ⟨A', H', h1, h2⟩ := loop_runs (G := exec E c) (o := .exit id) (by simp) hs he k 0 A H rounds (by omega) hk h
  exact ⟨A', H', by simp only [exec, h1, if_true], h2⟩

/-- A body's run ends. -/
theorem body_of {fn : AFunc} {args : List AV} {H H' : Heap} {A : Tr} {o : Out} {r : AV} (hl : args.length ≤ fn.ntmps) (h : exec E fn.body ((Tr.blank fn.depth).fill 0 args) H = some (o, A, H')) (ho : o = .normal ∨ o = .ret)
    (hr : results fn.results A H' = some r) : runBody E fn args H = some (r, H') := by
  unfold runBody
  rw [if_pos hl, h]
  rcases ho with rfl | rfl <;> simp only [hr]
theorem den_of {fn : AFunc} {args : List AV} {H' : Heap} {r : AV} (h : runBody E fn args Heap.empty = some (r, H')) (hr : r.closed = true) : den E fn args = some r := by
  unfold den
  simp only [h, sealV, hr, if_true]

theorem callP_closed {g : List AV → Option AV} {H : Heap} {args : List AV} (h : closedL args = true) : callP g H args = g args := by
  unfold callP; rw [if_pos h]
theorem arun_pure {T : Tab} {d f : Nat} {fn : AFunc} {H : Heap} {args : List AV} {r : AV} (he : T.get f = some (.code fn)) (hp : fn.pure = true) (hc : closedL args = true) (h : den ⟨arun T d, T.isPure⟩ fn args = some r) :
    arun T (d + 1) f H args = some (r, H) := by
  simp only [arun, he, hp, if_true, callP_closed hc, h, lift]
theorem arun_code {T : Tab} {d f : Nat} {fn : AFunc} {H : Heap} {args : List AV} {r : AV × Heap} (he : T.get f = some (.code fn)) (hp : fn.pure = false) (h : runBody ⟨arun T d, T.isPure⟩ fn args H = some r) :
    arun T (d + 1) f H args = some r := by
  simp only [arun, he, hp, h, Bool.false_eq_true, if_false]
end Go.AM
