/-
  A variable that the model made early.
-/
import Derived.Test.YtnieokpcakhfpaaGreatAmRun4
namespace Go.AM

variable {P : Program}

/-- A block that nobody knows yet becomes an object. -/
theorem wr_adopt {μ : Mu} {H : Heap} {w : World} (hw : WR μ H w) (b n : Nat) (cs : List AV) (hno : ¬ Own μ H b) (hib : ∀ i v, μ.imm b i ≠ some v) (hbb : ∀ i v, μ.bor b i ≠ some v)
    (hc : CellsAt μ w cs b 0 n) : WR (μ.at H.next 0 (b, 0, n)) (H.push (.cells cs 0)) w := by
  have hl0 : μ.loc H.next 0 = none := hw.newLoc _ _ (Nat.le_refl _)
  have hext : Ext w.heap.size μ (μ.at H.next 0 (b, 0, n)) := Mu.at_ext _ (.inl hl0)
  have hmono : ∀ a v, VR μ a v → VR (μ.at H.next 0 (b, 0, n)) a v := fun a v h => VR.ext hext h
  have hget : ∀ p, (H.push (.cells cs 0)).get p = if p = H.next then some (.cells cs 0) else H.get p := fun p => Heap.get_push H _ p
  have hne : ∀ p b', blk μ H p = some b' → b' ≠ b := fun p b' h e => hno ⟨p, e ▸ h⟩
  have ho : (H.push (.cells cs 0)).get H.next = some (.cells cs 0) := by rw [hget, if_pos rfl]
  have hblko : blk (μ.at H.next 0 (b, 0, n)) (H.push (.cells cs 0)) H.next = some b := by
    unfold blk; rw [ho]; simp [Mu.at]
  have hblk : ∀ p, p ≠ H.next → blk (μ.at H.next 0 (b, 0, n)) (H.push (.cells cs 0)) p = blk μ H p := by
    intro p hp
    unfold blk; rw [hget, if_neg hp]
    split <;> simp [Mu.at, hp]
  have hown : ∀ b', Own (μ.at H.next 0 (b, 0, n)) (H.push (.cells cs 0)) b' → b' = b ∨ Own μ H b' := by
    rintro b' ⟨p, hp⟩
    by_cases e : p = H.next
    · subst e; rw [hblko] at hp; simp at hp; exact .inl hp.symm
    · rw [hblk p e] at hp; exact .inr ⟨p, hp⟩
  refine ⟨by simp [Heap.push, hw.len], hw.imm, hw.bor, ?_, ?_, ?_, ?_, ?_, ?_, ?_, ?_⟩
  · intro b' i v h hx
    rcases hown b' hx with e | e
    · subst e; exact hib _ _ h
    · exact hw.immOwn _ _ _ h e
  · intro b' i v h hx
    rcases hown b' hx with e | e
    · subst e; exact hbb _ _ h
    · exact hw.borOwn _ _ _ h e
  · intro p cs' st' hp
    by_cases e : p = H.next
    · subst e
      rw [ho] at hp; simp at hp
      obtain ⟨rfl, rfl⟩ := hp
      exact ⟨b, 0, n, by simp [Mu.at], hc.keep rfl hmono⟩
    · rw [hget, if_neg e] at hp
      obtain ⟨b', base', n', hl, hcc⟩ := hw.cells _ _ _ hp
      exact ⟨b', base', n', hext.loc _ _ _ hl, hcc.keep rfl hmono⟩
  · intro p es hp
    by_cases e : p = H.next
    · subst e; rw [ho] at hp; simp at hp
    · rw [hget, if_neg e] at hp
      obtain ⟨r, hl, hcc⟩ := hw.maps _ _ hp
      exact ⟨r, hext.mloc _ _ hl, hcc.keep rfl hmono⟩
  · intro p p' b' h1 h2
    by_cases e : p = H.next
    · by_cases e' : p' = H.next
      · rw [e, e']
      · subst e
        rw [hblko] at h1; simp at h1; subst h1
        rw [hblk p' e'] at h2
        exact absurd rfl (hne p' _ h2)
    · by_cases e' : p' = H.next
      · subst e'
        rw [hblko] at h2; simp at h2; subst h2
        rw [hblk p e] at h1
        exact absurd rfl (hne p _ h1)
      · rw [hblk p e] at h1; rw [hblk p' e'] at h2
        exact hw.apart _ _ _ h1 h2
  · intro p s hp
    have hp' : H.next + 1 ≤ p := hp
    have hpo : p ≠ H.next := by omega
    simp only [Mu.at, hpo, false_and, if_false]
    exact hw.newLoc _ _ (by omega)
  · intro p hp
    have hp' : H.next + 1 ≤ p := hp
    exact hw.newMap _ (by omega)
  · intro p cs' s s' hp hs
    by_cases e : p = H.next
    · subst e
      rw [ho] at hp; simp at hp
      obtain ⟨rfl, rfl⟩ := hp
      simp only [Mu.at]
      rw [if_neg (by omega)]
      exact hw.newLoc _ _ (Nat.le_refl _)
    · rw [hget, if_neg e] at hp
      simp only [Mu.at, e, false_and, if_false]
      exact hw.newSt _ _ _ _ hp hs

theorem own_adopt {μ : Mu} {H : Heap} {b n b' : Nat} {cs : List AV} (h : Own (μ.at H.next 0 (b, 0, n)) (H.push (.cells cs 0)) b') : b' = b ∨ Own μ H b' := by
  obtain ⟨p, hp⟩ := h
  by_cases e : p = H.next
  · subst e
    unfold blk at hp
    rw [Heap.get_push, if_pos rfl] at hp
    simp [Mu.at] at hp
    exact .inl hp.symm
  · refine .inr ⟨p, ?_⟩
    unfold blk at hp ⊢
    rw [Heap.get_push, if_neg e] at hp
    split at hp <;> simp_all [Mu.at]

/-- A block that nobody knows changes nothing that is known. -/
theorem stp_aside {μ : Mu} {H : Heap} {w : World} (hw : WR μ H w) (x : Obj) : Stp μ H w μ H (wpush w x) := by
  have hat := wat_push w x
  have hsame : ∀ b, b < w.heap.size → (wpush w x).heap[b]? = w.heap[b]? := fun b hb => hat.same b (by omega) hb
  refine ⟨⟨hw.len, ?_, ?_, hw.immOwn, hw.borOwn, ?_, ?_, hw.apart, hw.newLoc, hw.newMap, hw.newSt⟩, Ext.refl _ _, ⟨hat.size, fun b hb _ => hsame b hb, hat.tape, hat.os, hat.output⟩, fun _ h _ => h⟩
  · intro b i v h
    have := hw.imm _ _ _ h
    rw [cell_same (hsame b (cell_lt this))]; exact this
  · intro b i v h
    have := hw.bor _ _ _ h
    rw [cell_same (hsame b (cell_lt this))]; exact this
  · intro o cs st ho
    obtain ⟨b, base, n, hl, hc⟩ := hw.cells _ _ _ ho
    have hb : blk μ H o = some b := by unfold blk; rw [ho]; simp [hl]
    exact ⟨b, base, n, hl, hc.keep (hsame b (blk_lt hw hb)) fun _ _ h => h⟩
  · intro o es ho
    obtain ⟨r, hl, hc⟩ := hw.maps _ _ ho
    have hb : blk μ H o = some r := by unfold blk; rw [ho]; exact hl
    exact ⟨r, hl, hc.keep (hsame r (blk_lt hw hb)) fun _ _ h => h⟩

theorem alloc_raw {o : Oper} {zero : List AV} (hok : okOp P o.op (.alloc zero) = true) (a : Act) (w : World) :
    ∃ arr el, (execOp a.eval o).run P w = .ok (.value (.pointer (some ⟨w.heap.size, 0, none⟩))) (wpush w (.cells arr el)) ∧ ∀ μ, VRL μ zero arr.toList := by
  obtain ⟨dst, op, type, pos, after, guard⟩ := o
  simp only at hok
  cases op <;> simp only [okOp, Bool.false_eq_true] at hok
  rename_i t
  obtain ⟨i, z, h1, h2, h3⟩ := (zeroB_zero hok).ex
  exact ⟨z.cells, t, by simp [execOp, Instr.alloc, zeroValue, typeInfo, h1, h2, newVar, run_alloc], h3⟩

/-- An operation that has nothing to do with a slot runs the same where that slot holds something else. -/
theorem wpOp_unput {ops : Array Oper} {Q : Exit → Act → World → Prop} {j : Nat} {oj : Oper} {d : Tmp} {v : Value} (hj : ops[j]? = some oj) (hd : d ∉ oj.looksAt ops) (hne : oj.dst ≠ some d)
    (hs : ∀ cs b, oj.op ≠ .select cs b) {K : Act → World → Prop} {a : Act} {w : World}
    (h : wpOp P ops (fun _ _ _ => False) j (fun a' w' => K (a'.put (some d) v) w') a w) : wpOp P ops Q j K (a.put (some d) v) w := by
  have h1 : ∀ e, some d = some e → e ∉ oj.looksAt ops := fun e he => by simp at he; subst he; exact hd
  have h2 : ∀ e, some d = some e → oj.dst ≠ some e := fun e he => by simp at he; subst he; exact hne
  have out : ¬ LetsOut (fun _ _ _ => False) := fun ⟨_, _, hf⟩ => hf
  unfold wpOp at *
  simp only [hj] at *
  rw [wanted_put oj a (some d) v h1]
  split
  · rename_i hw
    simp only [hw, if_true] at h
    rcases h with h | ⟨_, h⟩
    case inr => exact absurd h out
    refine .inl ?_
    unfold Oper.wp at *
    rw [execOp_put oj hs a (some d) v h1]
    generalize (execOp a.eval oj).run P w = r at *
    cases r with
    | ok n w' =>
      cases n <;> simp only [Oper.upon] at h ⊢
      case value u => rw [Act.put_comm a v u h2]; exact h
      case skip => rw [Act.put_comm a v undef h2]; exact h
      case defer d => rw [Act.put_defers, Act.put_comm _ v undef h2]; exact h
      case enter f args =>
        refine Calls.mono h fun e w'' he => ?_
        cases e with
        | returned u => simp only at he ⊢; rw [Act.put_comm a v u h2]; exact he
        | panicked c => exact he.elim
        | outgrown => exact absurd he out
      case row row args => exact Rows.mono h fun u w'' he => by rw [Act.put_comm a v u h2]; exact he
    | halt x w' =>
      cases x <;> simp only [Oper.upon] at h ⊢
  · rename_i hw
    simp only [hw] at h
    rw [Act.put_comm a v undef h2]; exact h

theorem okOp_select {o : Op} {ao : AOp} (h : okOp P o ao = true) : ∀ cs b, o ≠ .select cs b := by
  intro cs b e
  subst e
  cases ao <;> simp [okOp] at h

end Go.AM
