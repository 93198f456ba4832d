/-
  node.numbers, where there is one task, or none: maps.Keys, slices.Collect, slices.Sorted.
-/
import Derived.Test.YtnieokpcakhfpaaGreatAmCutWalk
import Derived.Test.YtnieokpcakhfpaaGreatAmMapRange
set_option linter.unusedVariables false
namespace Go.Proofs
open Go.RowKit Go.Shelf Go.AM

attribute [local go_sem] Oper.semAt_some

/-- 'next' where all has come. -/
theorem next_over {P : Program} (W : World) (ty : TypeId) (r bm clock : Nat) (e : MapEntry) (hr : W.heap[r]? = some (.mapIter (some bm) clock #[e.born] clock)) (hb : W.heap[bm]? = some (.map #[e] clock)) (hold : e.born < clock) :
    (Instr.next (.pointer (some ⟨r, 0, none⟩)) false ty).run P W = .ok (.tuple #[.bool false]) W := by
  have f0 : (#[e].all fun x => decide (x.born ≥ clock)) = false := by simp; omega
  have f1 : Array.filter (fun x : MapEntry => !(#[e.born] : Array Nat).contains x.born) #[e] = #[] := by simp
  simp only [Instr.next, getObj, Sem.run_bind, Sem.run, hr, hb, Result.andThen, f0, f1]
  simp [choose, Sem.run, Question.forced]

set_option maxRecDepth 100000 in
set_option maxHeartbeats 2000000 in
theorem Tryz.keys0_in (n : Nat) (hn : 1 ≤ n) (l Bm bm clock : Nat) (W : World) (hB : W.cell? ⟨Bm, 0, none⟩ = some (.map (some bm))) (hb : W.heap[bm]? = some (.map #[] clock)) :
    CallsIn Fence.wide n Tryz.prog 353 #[.func (.yield l) #[] #[], .pointer (some ⟨Bm, 0, none⟩)] W fun e W' => (∃ v, e = .returned v) ∧ W' = W.alloc (.mapIter (some bm) clock #[] clock) := by
  refine callsIn_of_wp Tryz.func353 rfl trivial ?_ rfl
  simp only [Tryz.ntmps353, List.size_toArray, List.length_cons, List.length_nil, Nat.reduceAdd, Nat.reduceSub, Array.replicate_succ, Array.replicate_zero, List.push_toArray, List.append_toArray, List.nil_append, List.cons_append]
  have hrg := run_range_map (P := Tryz.prog) W 247 _ _ bm #[] clock Tryz.underlying247 hb
  gi_wp2
  gi_loopw [] (fun wr => wr = W.alloc (.mapIter (some bm) clock #[] clock)) (fun _ => 0)
  case atStart => rfl
  case round =>
    obtain rfl := hrel
    have hnx : ∀ ty, (Instr.next (.pointer (some ⟨W.heap.size, 0, none⟩)) false ty).run Tryz.prog (W.alloc (.mapIter (some bm) clock #[] clock)) = _ := fun ty => next_none W ty bm clock clock hb
    gi_wp2
    go_end0
    exact ⟨⟨_, rfl⟩, rfl⟩

set_option maxRecDepth 100000 in
set_option maxHeartbeats 2000000 in
theorem Tryz.keys1_in (n : Nat) (hn : 1 ≤ n) (l Bm bm clock : Nat) (k : Int) (u : Value) (born : Nat) (J : List Int → World → Prop) (W : World) (hB : W.cell? ⟨Bm, 0, none⟩ = some (.map (some bm)))
    (hb : W.heap[bm]? = some (.map #[⟨.int .i64 k, u, born⟩] clock)) (hold : born < clock) (hl : l ≠ bm) (hlW : l < W.heap.size)
    (hJ : ∀ seen, J [] (W.alloc (.mapIter (some bm) clock seen clock)))
    (hY : ∀ W1, J [] W1 → YieldAt Fence.wide (n - 1) Tryz.prog l #[.int .i64 k] W1 fun e W' => e = .returned (.bool true) ∧ J [k] W' ∧ ∀ j o, j ≠ l → W1.heap[j]? = some o → o.isCells = false → W'.heap[j]? = some o) :
    CallsIn Fence.wide n Tryz.prog 353 #[.func (.yield l) #[] #[], .pointer (some ⟨Bm, 0, none⟩)] W fun e W' => (∃ v, e = .returned v) ∧ J [k] W' := by
  have hlt : bm < W.heap.size := (Array.getElem?_eq_some_iff.1 hb).1
  refine callsIn_of_wp Tryz.func353 rfl trivial ?_ rfl
  simp only [Tryz.ntmps353, List.size_toArray, List.length_cons, List.length_nil, Nat.reduceAdd, Nat.reduceSub, Array.replicate_succ, Array.replicate_zero, List.push_toArray, List.append_toArray, List.nil_append, List.cons_append]
  have hrg := run_range_map (P := Tryz.prog) W 247 _ _ bm _ clock Tryz.underlying247 hb
  gi_wp2
  gi_loopw [] (fun wr => wr = W.alloc (.mapIter (some bm) clock #[] clock) ∨ (J [k] wr ∧ wr.heap[W.heap.size]? = some (.mapIter (some bm) clock #[born] clock) ∧ wr.heap[bm]? = some (.map #[⟨.int .i64 k, u, born⟩] clock)))
    (fun wr => match wr.heap[W.heap.size]? with | some (.mapIter _ _ s _) => 1 - s.size | _ => 0)
  case atStart => exact .inl rfl
  case round =>
    rcases hrel with rfl | ⟨hJ1, hi1, hb1⟩
    · have hnx : ∀ ty, (Instr.next (.pointer (some ⟨W.heap.size, 0, none⟩)) false ty).run Tryz.prog (W.alloc (.mapIter (some bm) clock #[] clock)) = _ := fun ty => next_one W ty bm clock clock clock _ hb hold
      have hen : (Instr.entry (.pointer (some ⟨W.heap.size, 0, none⟩))).run Tryz.prog (W.alloc (.mapIter (some bm) clock #[born] clock)) = .ok (.tuple #[.int .i64 k, u]) (W.alloc (.mapIter (some bm) clock #[born] clock)) := by
        simpa using run_entry_map (P := Tryz.prog) W bm clock #[] _ clock ⟨.int .i64 k, u, born⟩ hb (by simp) (by simp)
      obtain ⟨fn, tmps, assign, body, hy, hR⟩ := hY _ (hJ #[born])
      gi_wp2
      refine hR.mono ?_
      rintro e W3 ⟨rfl, hJ3, hk3⟩
      gi_wp2
      have hi : (W.alloc (.mapIter (some bm) clock #[born] clock)).heap[W.heap.size]? = some (.mapIter (some bm) clock #[born] clock) := World.alloc_heap_new W _
      have hi3 := hk3 _ _ (by omega) hi rfl
      have hb3 := hk3 bm _ (Ne.symm hl) ((Below.heap_alloc W _ bm hlt).trans hb) rfl
      go_roundw
      case rel => exact .inr ⟨hJ3, hi3, hb3⟩
      case measure =>
        rw [hi3, World.alloc_heap_new]; simp
    · have hnx : ∀ ty, (Instr.next (.pointer (some ⟨W.heap.size, 0, none⟩)) false ty).run Tryz.prog wr = _ := fun ty => next_over wr ty W.heap.size bm clock _ hi1 hb1 hold
      gi_wp2
      go_end0
      exact ⟨⟨_, rfl⟩, hJ1⟩

theorem Tryz.info3 : (Tryz.prog.info? 3).map (fun i => (i.zero, i.size, i.bytes)) = some (some (.int .i64 0), 1, 8) := by kernel_rfl

/-- Between two rounds of AppendSeq. -/
structure AppAt (w : World) (rec : LoopState → Option Code → Loop) (pre : List Int) (W : World) : Prop where
  box : ∃ v, Boxed W w.heap.size 88 v ∧ W.ownsRow w.heap.size 3 1 v pre.length (pre.map (Value.int .i64)) ∧ (v = .slice none 0 0 ↔ pre = [])
  D : W.heap[w.heap.size + 1]? = some (.deferred (some []))
  L : W.heap[w.heap.size + 1 + 1]? = some (.loop (rec .ready none))
  below : Below w.heap.size w W

theorem AppAt.alloc {w : World} {rec : LoopState → Option Code → Loop} {pre : List Int} {W : World} (h : AppAt w rec pre W) (o : Obj) : AppAt w rec pre (W.alloc o) := by
  obtain ⟨v, hv, hr, hn⟩ := h.box
  exact ⟨⟨v, hv.alloc o, hr.alloc o, hn⟩, (Below.heap_alloc _ _ _ (Array.getElem?_eq_some_iff.1 h.D).1).trans h.D, (Below.heap_alloc _ _ _ (Array.getElem?_eq_some_iff.1 h.L).1).trans h.L, h.below.alloc h.below.size o⟩
theorem AppAt.put {w : World} {rec : LoopState → Option Code → Loop} {pre : List Int} {W : World} (h : AppAt w rec pre W) (o : Obj) :
    (∃ v, Boxed (W.putObj (w.heap.size + 1 + 1) o) w.heap.size 88 v ∧ (W.putObj (w.heap.size + 1 + 1) o).ownsRow w.heap.size 3 1 v pre.length (pre.map (Value.int .i64)) ∧ (v = .slice none 0 0 ↔ pre = [])) ∧
    (W.putObj (w.heap.size + 1 + 1) o).heap[w.heap.size + 1]? = some (.deferred (some [])) ∧ (W.putObj (w.heap.size + 1 + 1) o).heap[w.heap.size + 1 + 1]? = some o ∧ Below w.heap.size w (W.putObj (w.heap.size + 1 + 1) o) := by
  obtain ⟨v, hv, hr, hn⟩ := h.box
  exact ⟨⟨v, BoxedPut hv o (by omega), ownsRow_putObj hr _ h.L rfl, hn⟩, (World.putObj_heap_other (by omega)).trans h.D, World.putObj_heap_same (Array.getElem?_eq_some_iff.1 h.L).1, below_put h.below o (by omega)⟩

/-- What the map holds. -/
def Few (es : Array MapEntry) (clock : Nat) (ks : List Int) : Prop :=
  (es = #[] ∧ ks = []) ∨ ∃ k u born, es = #[⟨.int .i64 k, u, born⟩] ∧ born < clock ∧ ks = [k]

set_option maxRecDepth 100000 in
set_option maxHeartbeats 4000000 in
theorem Tryz.append_in (Bm bm clock : Nat) (es : Array MapEntry) (ks : List Int) (w : World) (hB : w.cell? ⟨Bm, 0, none⟩ = some (.map (some bm))) (hb : w.heap[bm]? = some (.map es clock)) (hf : Few es clock ks) :
    CallsIn Fence.wide 5 Tryz.prog 399 #[.slice none 0 0, .func (.func 353) #[] #[.pointer (some ⟨Bm, 0, none⟩)]] w fun e w' => ∃ v, e = .returned v ∧ w'.ownsRow w.heap.size 3 1 v ks.length (ks.map (Value.int .i64)) ∧ (v = .slice none 0 0 ↔ ks = []) ∧ Below w.heap.size w w' := by
  obtain ⟨i0, hi, hz0, hz1, hz2⟩ := info_parts Tryz.info3
  have hBl : Bm < w.heap.size := cell_lt hB
  have hbl : bm < w.heap.size := (Array.getElem?_eq_some_iff.1 hb).1
  refine callsIn_of_wp_marks Tryz.func399 rfl trivial ?_ rfl
  simp only [Tryz.ntmps399, List.size_toArray, List.length_cons, List.length_nil, Nat.reduceAdd, Nat.reduceSub, Array.replicate_succ, Array.replicate_zero, List.push_toArray, List.append_toArray, List.nil_append, List.cons_append]
  gi_wp2
  refine wide_range (by omega) (gf := 353) (lb := #[.pointer (some ⟨Bm, 0, none⟩)]) rfl (enters_of Tryz.func353 (by kernel_rfl) rfl) fun fn rec hrec => ?_
  simp only [World.size_alloc] at hrec ⊢
  have b1 := ((Boxed.new w 88 (.slice none 0 0)).alloc (.deferred (some []))).alloc (.loop (rec .ready none))
  have hB4 : Below w.heap.size w (((w.alloc (.cells #[.slice none 0 0] 88)).alloc (.deferred (some []))).alloc (.loop (rec .ready none))) := (((Below.refl _ w).alloc (Nat.le_refl _) _).alloc (by simp) _).alloc (by simp; omega) _
  have d1 : (((w.alloc (.cells #[.slice none 0 0] 88)).alloc (.deferred (some []))).alloc (.loop (rec .ready none))).heap[w.heap.size + 1]? = some (.deferred (some [])) := by
    refine (Below.heap_alloc _ _ _ (by simp)).trans ?_
    have := World.alloc_heap_new (w.alloc (.cells #[.slice none 0 0] 88)) (.deferred (some [])); rwa [World.size_alloc] at this
  have d2 : (((w.alloc (.cells #[.slice none 0 0] 88)).alloc (.deferred (some []))).alloc (.loop (rec .ready none))).heap[w.heap.size + 1 + 1]? = some (.loop (rec .ready none)) := by
    have := World.alloc_heap_new ((w.alloc (.cells #[.slice none 0 0] 88)).alloc (.deferred (some []))) (.loop (rec .ready none)); simpa using this
  have hs4 : (((w.alloc (.cells #[.slice none 0 0] 88)).alloc (.deferred (some []))).alloc (.loop (rec .ready none))).heap.size = w.heap.size + 1 + 1 + 1 := by simp
  obtain ⟨W4, hW4⟩ : ∃ W4, ((w.alloc (.cells #[.slice none 0 0] 88)).alloc (.deferred (some []))).alloc (.loop (rec .ready none)) = W4 := ⟨_, rfl⟩
  rw [hW4] at b1 hB4 d1 d2 hs4 ⊢
  have h0 : AppAt w rec [] W4 := ⟨⟨_, b1, World.ownsRow_nil _ _ _ _, by simp⟩, d1, d2, hB4⟩
  have hB' := (hB4.cell (p := ⟨Bm, 0, none⟩) hBl).trans hB
  have hb' := (hB4.block bm hbl).trans hb
  have main : CallsIn Fence.wide 4 Tryz.prog 353 #[.func (.yield (w.heap.size + 1 + 1)) #[] #[], .pointer (some ⟨Bm, 0, none⟩)] W4 fun e W' => (∃ v, e = .returned v) ∧ AppAt w rec ks W' := by
    rcases hf with ⟨rfl, rfl⟩ | ⟨k, u, born, rfl, hold, rfl⟩
    · refine (Tryz.keys0_in 4 (by omega) _ Bm bm clock W4 hB' hb').mono ?_
      rintro e W' ⟨hv, rfl⟩
      exact ⟨hv, h0.alloc _⟩
    · refine Tryz.keys1_in 4 (by omega) _ Bm bm clock k u born (AppAt w rec) W4 hB' hb' hold (by omega) (by omega) (fun seen => h0.alloc _) fun W1 h => ?_
      refine wide_yield h.L (by rw [hrec]; rfl) ?_
      rw [hrec]
      simp only
      rw [← hrec]
      have Hrec := Lib.hid hrec
      clear hrec
      gi_wp2
      refine ⟨_, run_beginRound h.L (by rw [Hrec.out]), ?_⟩
      obtain ⟨o, ho⟩ : ∃ o, { rec .ready none with state := .busy } = o := ⟨_, rfl⟩
      rw [ho]
      obtain ⟨⟨v, pv, prow, pnil⟩, pD, pL, pB⟩ := h.put (.loop o)
      have pother : ∀ j x, j ≠ w.heap.size + 1 + 1 → W1.heap[j]? = some x → (W1.putObj (w.heap.size + 1 + 1) (.loop o)).heap[j]? = some x := fun j x hj hx => (World.putObj_heap_other hj).trans hx
      obtain ⟨W2, hW2⟩ : ∃ W2, W1.putObj (w.heap.size + 1 + 1) (.loop o) = W2 := ⟨_, rfl⟩
      rw [hW2] at pv prow pD pL pB pother ⊢
      have hc := pv.cell
      have hsz := pB.size
      clear hb hB hb' hB' hW4 h0 d1 d2 b1 hW2
      gi_wp2_with (gi_at_builtin; refine wpListIn_append_own _ rfl _ _ 88 rfl w.heap.size 3 i0 (.int .i64 0) 1 8 Tryz.underlying88 hi hz0 hz1 hz2 rfl (by decide) _ _ _ rfl (prow.alloc _) ⟨W2.heap.size, 0, none⟩ 1 1 [.int .i64 k] rfl rfl (cell_one_new _ _ _) (by simp [Value.oneCell']) (by simp [maxLen]) (by simp) (by simp; omega) ?_; intro v' w1 hown' hgrow _; obtain ⟨g', cap', rfl⟩ := ownsRow_succ hown'; obtain ⟨hv1, hv2, hr2, hk2, hb2⟩ := pv.appended (by decide) prow hsz (by omega) hown' hgrow; have hc1 := hv1.cell; have hf1 := hv1.frozen)
      have hl3 := hk2.same _ _ pL rfl
      refine ⟨_, _, run_endRound none hl3, rfl, ?_, ?_⟩
      · have hfin : { { rec .ready none with state := .busy } with state := (if (none : Option Code).isNone = true then LoopState.ready else LoopState.done), pending := none } = rec .ready none := by rw [Hrec.out]; rfl
        rw [← ho, hfin]
        exact ⟨⟨_, BoxedPut hv2 _ (by omega), ownsRow_putObj (by simpa using hr2) _ hl3 rfl, by simp⟩, (World.putObj_heap_other (by omega)).trans (hk2.same _ _ pD rfl), World.putObj_heap_same (Array.getElem?_eq_some_iff.1 hl3).1, below_put (pB.trans hb2) _ (by omega)⟩
      · intro j x hj hx hcx
        exact (World.putObj_heap_other hj).trans (hk2.same _ _ (pother j x hj hx) hcx)
  refine main.mono ?_
  rintro e W ⟨⟨u, rfl⟩, h⟩
  have Hrec := Lib.hid hrec
  clear hrec
  have hend : (Instr.endLoop (w.heap.size + 1 + 1)).run Tryz.prog W = .ok none (W.putObj (w.heap.size + 1 + 1) (.loop { rec .ready none with state := .exhausted })) := by
    refine (run_endLoop (P := Tryz.prog) h.L (by rw [Hrec.out]; simp)).trans ?_
    have hp : (rec .ready none).pending = none := by rw [Hrec.out]
    simp only [hp]
  refine ⟨none, _, hend, ?_⟩
  obtain ⟨o, ho⟩ : ∃ o, { rec .ready none with state := .exhausted } = o := ⟨_, rfl⟩
  rw [ho]
  obtain ⟨⟨v, pv, prow, pnil⟩, pD, pL, pB⟩ := h.put (.loop o)
  obtain ⟨W2, hW2⟩ : ∃ W2, W.putObj (w.heap.size + 1 + 1) (.loop o) = W2 := ⟨_, rfl⟩
  rw [hW2] at pv prow pD pL pB ⊢
  have c1 := pv.cell
  clear hend hW2 ho h hb hB hb' hB' hW4 h0 d1 d2 b1 main
  gi_wp2
  refine ⟨by simp, .inl ⟨_, _, rfl, run_takeDeferred pD, ?_⟩⟩
  exact ⟨_, results_tmp rfl _ _ _, v, rfl, ownsRow_putObj prow _ pD rfl, pnil, below_put pB _ (by omega)⟩

theorem Tryz.collect_walk (Bm bm clock : Nat) (es : Array MapEntry) (ks : List Int) (w : World) (hB : w.cell? ⟨Bm, 0, none⟩ = some (.map (some bm))) (hb : w.heap[bm]? = some (.map es clock)) (hf : Few es clock ks) :
    Calls Tryz.prog 351 #[.func (.func 353) #[] #[.pointer (some ⟨Bm, 0, none⟩)]] w fun e w' => ∃ v, e = .returned v ∧ w'.ownsRow w.heap.size 3 1 v ks.length (ks.map (Value.int .i64)) ∧ (v = .slice none 0 0 ↔ ks = []) ∧ Below w.heap.size w w' := by
  go_enter Tryz.func351, Tryz.ntmps351
  go_wp2_with (go_at_call 399; refine (callsIn_wide.1 (Tryz.append_in Bm bm clock es ks _ hB hb hf)).mono ?_)
  rintro e w' ⟨v, rfl, h⟩
  go_wp2
  go_ret
  exact ⟨v, rfl, h⟩

theorem Tryz.keysCall_walk (m : Value) (w : World) (bm : Nat) (hm : m = .map (some bm)) :
    Calls Tryz.prog 254 #[m] w fun e w' => e = .returned (.func (.func 353) #[] #[.pointer (some ⟨w.heap.size, 0, none⟩)]) ∧ w' = w.alloc (.cells #[m] 247) := by
  subst hm
  go_enter Tryz.func254, Tryz.ntmps254
  go_wp2
  go_ret
  exact ⟨rfl, rfl⟩

theorem Tryz.sorted_walk (Bm bm clock : Nat) (es : Array MapEntry) (ks : List Int) (w : World) (hB : w.cell? ⟨Bm, 0, none⟩ = some (.map (some bm))) (hb : w.heap[bm]? = some (.map es clock)) (hf : Few es clock ks) (R : Value → World → Prop)
    (hsort : ∀ v W1, W1.ownsRow w.heap.size 3 1 v ks.length (ks.map (Value.int .i64)) → (v = .slice none 0 0 ↔ ks = []) → Below w.heap.size w W1 → Calls Tryz.prog 352 #[v] W1 fun e w' => (∃ u, e = .returned u) ∧ R v w') :
    Calls Tryz.prog 253 #[.func (.func 353) #[] #[.pointer (some ⟨Bm, 0, none⟩)]] w fun e w' => ∃ v, e = .returned v ∧ R v w' := by
  go_enter Tryz.func253, Tryz.ntmps253
  go_wp2_with (go_at_call 351; refine (Tryz.collect_walk Bm bm clock es ks _ hB hb hf).mono ?_)
  rintro e W1 ⟨v, rfl, h1, h2, h3⟩
  have cS := hsort v W1 h1 h2 h3
  clear hsort
  go_wp2_with (go_at_call 352; refine cS.mono ?_)
  rintro e w' ⟨⟨u, rfl⟩, hR⟩
  go_wp2
  go_ret
  exact ⟨v, rfl, hR⟩

theorem Tryz.numbers_walk (b i bm clock : Nat) (es : Array MapEntry) (ks : List Int) (w : World) (hB : w.cell? ⟨b, i + 8, none⟩ = some (.map (some bm))) (hb : w.heap[bm]? = some (.map es clock)) (hf : Few es clock ks) (R : Value → World → Prop)
    (hsort : ∀ v W1, W1.ownsRow w.heap.size 3 1 v ks.length (ks.map (Value.int .i64)) → (v = .slice none 0 0 ↔ ks = []) → Below w.heap.size w W1 → Calls Tryz.prog 352 #[v] W1 fun e w' => (∃ u, e = .returned u) ∧ R v w') :
    Calls Tryz.prog 151 #[.pointer (some ⟨b, i, none⟩)] w fun e w' => ∃ v, e = .returned v ∧ R v w' := by
  have hbm : bm < w.heap.size := (Array.getElem?_eq_some_iff.1 hb).1
  have hB1 : Below w.heap.size w (w.alloc (.cells #[.map (some bm)] 247)) := (Below.refl _ w).alloc (Nat.le_refl _) _
  have q1 : (w.alloc (.cells #[.map (some bm)] 247)).cell? ⟨w.heap.size, 0, none⟩ = some (.map (some bm)) := (Boxed.new w 247 _).cell
  have q2 : (w.alloc (.cells #[.map (some bm)] 247)).heap[bm]? = some (.map es clock) := (hB1.block bm hbm).trans hb
  have cS := Tryz.sorted_walk w.heap.size bm clock es ks (w.alloc (.cells #[.map (some bm)] 247)) q1 q2 hf R (fun v W1 h1 h2 h3 => by
    simp only [World.size_alloc] at h1 h3
    refine hsort v W1 ⟨h1.1, ?_⟩ h2 (hB1.trans (h3.mono (by omega)))
    rcases h1.2 with h | ⟨g, cap, cur, e1, e2, e3⟩
    · exact .inl h
    · exact .inr ⟨g, cap, cur, e1, by omega, e3⟩)
  clear hsort
  go_enter Tryz.func151, Tryz.ntmps151
  go_wp2_with (first
    | (go_at_call 254; refine (Tryz.keysCall_walk _ _ bm rfl).mono ?_; rintro e w' ⟨rfl, rfl⟩)
    | (go_at_call 253; refine cS.mono ?_))
  rintro e w' ⟨v, rfl, hR⟩
  go_wp2
  go_ret
  exact ⟨v, rfl, hR⟩
end Go.Proofs
