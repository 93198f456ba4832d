/-
  name.cut: what it does.
-/
import Derived.Test.YtnieokpcakhfpaaGreatAmLabels
import Derived.RangeFuncNested
set_option linter.unusedVariables false
namespace Go.Proofs
open Go.RowKit Go.Shelf Go.AM

attribute [local go_sem] Oper.semAt_some

def strV (x : List UInt8) : Value := .string ⟨x.toArray⟩

theorem Tryz.labels_in (n : Nat) (s : ByteArray) (w : World) :
    CallsIn Fence.wide n Tryz.prog 295 #[.string s] w fun e w' => e = .returned (.func (.func 369) #[] #[.pointer (some ⟨w.heap.size, 0, none⟩)]) ∧ w' = w.alloc (.cells #[.string s] 22) := by
  refine callsIn_of_wp Tryz.func295 rfl trivial ?_ rfl
  simp only [Tryz.ntmps295, List.size_toArray, List.length_cons, List.length_nil, Nat.reduceAdd, Nat.reduceSub, Array.replicate_succ, Array.replicate_zero, List.push_toArray, List.append_toArray, List.nil_append, List.cons_append]
  gi_wp2
  go_ret
  exact ⟨rfl, rfl⟩

theorem Tryz.info9 : (Tryz.prog.info? 9).map (fun i => (i.zero, i.size, i.bytes)) = some (some (.string ⟨#[]⟩), 1, 16) := by kernel_rfl

/-- The statement 'for .. := range g', in the wide fence: the one call of the iterator. -/
theorem wide_range {P : Program} {g : Operand} {ps : Array Tmp} {assign body : Code} {Q : Exit → Act → World → Prop} {a : Act} {w : World} {n gf : Nat} {lb : Array Value}
    (h1 : 1 ≤ n) (hg : a.eval g = .func (.func gf) #[] lb) (eg : ∀ args w, (callFunc gf args).run P w = .ok (.enter gf args) w)
    (h : ∀ (fn : FuncId) (rec : LoopState → Option Code → Loop), rec = (fun st pe => { state := st, pending := pe, fn, tmps := a.tmps, params := ps, assign, body, defers := w.heap.size }) →
      CallsIn Fence.wide (n - 1) P gf (#[.func (.yield (w.heap.size + 1)) #[] #[]] ++ lb) ((w.alloc (.deferred (some []))).alloc (.loop (rec .ready none)))
        (rangePost Fence.wide n P (w.heap.size + 1) Q { a with defers := [{ target := .collected w.heap.size, args := #[] }] ++ a.defers })) :
    (Code.rangeFunc g ps assign body).wpIn Fence.wide n P Q a w := by
  refine wpIn_rangeFunc ?_
  intro fn hfn
  rw [show Fence.wide.round = none from rfl]
  obtain ⟨rec, hrec⟩ : ∃ rec : LoopState → Option Code → Loop, rec = fun st pe => { state := st, pending := pe, fn, tmps := a.tmps, params := ps, assign, body, defers := w.heap.size } := ⟨_, rfl⟩
  have hc := h fn rec hrec
  obtain ⟨W1, hW1⟩ : ∃ W1, (w.alloc (.deferred (some []))).alloc (.loop (rec .ready none)) = W1 := ⟨_, rfl⟩
  rw [hW1] at hc
  refine ⟨w.heap.size + 1, [{ target := .collected w.heap.size, args := #[] }], W1, { target := .fn (.func gf) lb, args := #[.func (.yield (w.heap.size + 1)) #[] #[]] }, W1, gf,
    #[.func (.yield (w.heap.size + 1)) #[] #[]] ++ lb, W1, ?_, ?_, ?_, ?_, fun _ => h1, ?_⟩
  · rw [← hW1, hrec]; exact run_enterLoop_outer _ _ _ _ _
  · simp only [resolve, hg]
    simp [go_sem]
  · intro f' _; exact trivial
  · simp [invoke, go_sem, eg]
  · exact hc

/-- A call of yield: one round. -/
theorem wide_yield {P : Program} {l : Nat} {r : Loop} {args : Array Value} {W : World} {n : Nat} {R : Ending → World → Prop} (hl : W.heap[l]? = some (.loop r)) (hs : args.size = r.params.size)
    (h : r.assign.wpIn (Fence.wide.inRound l) n P (Exit.then (fun a₁ w₁ => ∃ w₂, (Instr.beginRound l).run P w₁ = .ok () w₂ ∧ r.body.wpIn (Fence.wide.inRound l) n P (roundPost P l R) a₁ w₂) (fun _ _ _ => False))
      { tmps := (r.params.zip args).foldl (fun t (p, v) => t.setIfInBounds p v) r.tmps, defers := [] } W) : YieldAt Fence.wide n P l args W R :=
  ⟨r.fn, _, r.assign, r.body, run_yield hl hs, roundIn_of_wpIn trivial h⟩

theorem results_cell2 {fn : Func} {p q : Tmp} {ty ty2 : TypeId} (h : fn.results = #[.cell p ty, .cell q ty2]) (tmps : Array Value) (P : Program) (w : World) {a b : Addr} {v u : Value}
    (ha : tmps.getD p undef = .pointer (some a)) (hb : tmps.getD q undef = .pointer (some b)) (g1 : ∀ w, (isAgg ty).run P w = .ok false w) (g2 : ∀ w, (isAgg ty2).run P w = .ok false w)
    (hv : w.cell? a = some v) (hu : w.cell? b = some u) : (results fn tmps).run P w = .ok (.tuple #[v, u]) w := by
  simp only [Array.getD_eq_getD_getElem?] at ha hb
  simp only [results, h]
  simp [Sem.run_bind, Result.andThen, ha, hb, asAddr, loadVar, g1, g2, hv, hu]

/-- What is asked of cut. -/
def cutPost (s : List UInt8) (w : World) (e : Ending) (w' : World) : Prop :=
  Below w.heap.size w w' ∧ ((cut s = none ∧ e = .returned (.tuple #[.slice none 0 0, .bool false])) ∨
    (∃ ls v, cut s = some ls ∧ e = .returned (.tuple #[v, .bool true]) ∧ w'.ownsRow w.heap.size 9 1 v ls.length (ls.map strV) ∧ (v = .slice none 0 0 ↔ ls = [])))

/-- Between two rounds. -/
structure CutAt (w : World) (rec : LoopState → Option Code → Loop) (pre : List (List UInt8)) (r : List UInt8) (W : World) : Prop where
  res : Boxed W w.heap.size 188 (.slice none 0 0)
  ok : Boxed W (w.heap.size + 1) 4 (.bool false)
  box : ∃ v, Boxed W (w.heap.size + 1 + 1) 188 v ∧ W.ownsRow w.heap.size 9 1 v pre.length (pre.map strV) ∧ (v = .slice none 0 0 ↔ pre = [])
  n : Boxed W (w.heap.size + 1 + 1 + 1) 22 (strV r)
  D : W.heap[w.heap.size + 1 + 1 + 1 + 1]? = some (.deferred (some []))
  L : W.heap[w.heap.size + 1 + 1 + 1 + 1 + 1]? = some (.loop (rec .ready none))
  below : Below w.heap.size w W
/-- A round has said no more. -/
structure CutEnd (w : World) (rec : LoopState → Option Code → Loop) (W : World) : Prop where
  res : Boxed W w.heap.size 188 (.slice none 0 0)
  ok : Boxed W (w.heap.size + 1) 4 (.bool false)
  D : W.heap[w.heap.size + 1 + 1 + 1 + 1]? = some (.deferred (some []))
  L : W.heap[w.heap.size + 1 + 1 + 1 + 1 + 1]? = some (.loop (rec .done (some .ret)))
  below : Below w.heap.size w W

theorem CutAt.next {w : World} {rec : LoopState → Option Code → Loop} {pre : List (List UInt8)} {r : List UInt8} {W : World} (h : CutAt w rec pre r W) (r' : List UInt8) :
    CutAt w rec pre r' (W.setCell ⟨w.heap.size + 1 + 1 + 1, 0, none⟩ (strV r')) := by
  have hg := grownBy_setCell' W (w.heap.size + 1 + 1 + 1) (strV r')
  obtain ⟨v, hv, hr, hn⟩ := h.box
  have same : ∀ k, k ≠ w.heap.size + 1 + 1 + 1 → (W.setCell ⟨w.heap.size + 1 + 1 + 1, 0, none⟩ (strV r')).heap[k]? = W.heap[k]? := fun k hk => Below.heap_setCell _ _ _ k hk
  refine ⟨h.res.other (by omega) _, h.ok.other (by omega) _, ⟨v, hv.other (by omega) _, hr.kept hg (.inr ?_), hn⟩, h.n.set _, (same _ (by omega)).trans h.D, (same _ (by omega)).trans h.L, h.below.setCell (p := ⟨w.heap.size + 1 + 1 + 1, 0, none⟩) (show w.heap.size ≤ w.heap.size + 1 + 1 + 1 by omega) _⟩
  exact (h.n.not_row (by decide) hr).symm

theorem BoxedPut {W : World} {B : Nat} {t : TypeId} {v : Value} (h : Boxed W B t v) {l : Nat} (o : Obj) (hl : B ≠ l) : Boxed (W.putObj l o) B t v := (World.putObj_heap_other hl).trans h
theorem below_put {n₀ : Nat} {w W : World} (h : Below n₀ w W) {l : Nat} (o : Obj) (hl : n₀ ≤ l) : Below n₀ w (W.putObj l o) :=
  ⟨h.os, h.tape, h.output, by have := h.size; simpa [World.putObj] using this, fun k hk => (World.putObj_heap_other (by omega)).trans (h.block k hk)⟩

theorem CutAt.put {w : World} {rec : LoopState → Option Code → Loop} {pre : List (List UInt8)} {r : List UInt8} {W : World} (h : CutAt w rec pre r W) (o : Obj) :
    Boxed (W.putObj (w.heap.size + 1 + 1 + 1 + 1 + 1) o) w.heap.size 188 (.slice none 0 0) ∧ Boxed (W.putObj (w.heap.size + 1 + 1 + 1 + 1 + 1) o) (w.heap.size + 1) 4 (.bool false) ∧
    (∃ v, Boxed (W.putObj (w.heap.size + 1 + 1 + 1 + 1 + 1) o) (w.heap.size + 1 + 1) 188 v ∧ (W.putObj (w.heap.size + 1 + 1 + 1 + 1 + 1) o).ownsRow w.heap.size 9 1 v pre.length (pre.map strV) ∧ (v = .slice none 0 0 ↔ pre = [])) ∧
    Boxed (W.putObj (w.heap.size + 1 + 1 + 1 + 1 + 1) o) (w.heap.size + 1 + 1 + 1) 22 (strV r) ∧ (W.putObj (w.heap.size + 1 + 1 + 1 + 1 + 1) o).heap[w.heap.size + 1 + 1 + 1 + 1]? = some (.deferred (some [])) ∧
    (W.putObj (w.heap.size + 1 + 1 + 1 + 1 + 1) o).heap[w.heap.size + 1 + 1 + 1 + 1 + 1]? = some o ∧ Below w.heap.size w (W.putObj (w.heap.size + 1 + 1 + 1 + 1 + 1) o) := by
  obtain ⟨v, hv, hr, hn⟩ := h.box
  exact ⟨BoxedPut h.res o (by omega), BoxedPut h.ok o (by omega), ⟨v, BoxedPut hv o (by omega), ownsRow_putObj hr _ h.L rfl, hn⟩, BoxedPut h.n o (by omega), (World.putObj_heap_other (by omega)).trans h.D,
    World.putObj_heap_same (Array.getElem?_eq_some_iff.1 h.L).1, below_put h.below o (by omega)⟩

set_option maxRecDepth 100000 in
set_option maxHeartbeats 4000000 in
theorem Tryz.cut_in (s : List UInt8) (hs : s.length ≤ 254) (w : World) :
    CallsIn Fence.wide 5 Tryz.prog 183 #[.string ⟨s.toArray⟩] w (cutPost s w) := by
  obtain ⟨i0, hi, hz0, hz1, hz2⟩ := info_parts Tryz.info9
  refine callsIn_of_wp_marks Tryz.func183 rfl trivial ?_ rfl
  simp only [Tryz.ntmps183, List.size_toArray, List.length_cons, List.length_nil, Nat.reduceAdd, Nat.reduceSub, Array.replicate_succ, Array.replicate_zero, List.push_toArray, List.append_toArray, List.nil_append, List.cons_append]
  have hs' : ¬ (254 : Int) < s.length := by omega
  gi_wp2_with (refine ⟨trivial, ?_⟩; gi_at_call 295; refine (Tryz.labels_in 4 _ _).mono ?_; rintro e w' ⟨rfl, rfl⟩)
  refine wide_range (by omega) (gf := 369) (lb := #[.pointer (some ⟨w.heap.size + 1 + 1 + 1, 0, none⟩)]) rfl (enters_of Tryz.func369 (by kernel_rfl) rfl) fun fn rec hrec => ?_
  simp only [World.size_alloc] at hrec ⊢
  refine (Tryz.labels1_in 4 (by omega) _ _ (CutAt w rec) (CutEnd w rec) (fun pre r W h => ⟨h.n.cell, h.n.frozen⟩) (fun pre r r' W h => h.next r') ?_ ?_ _ s hs ?_).mono ?_
  · -- a label
    intro pre r x W h hpre
    refine wide_yield h.L (by rw [hrec]; rfl) ?_
    rw [hrec]
    simp only
    rw [← hrec]
    have Hrec := Lib.hid hrec
    clear hrec
    gi_wp2
    refine ⟨_, run_beginRound h.L (by rw [Hrec.out]), ?_⟩
    obtain ⟨o, ho⟩ : ∃ o, { rec .ready none with state := .busy } = o := ⟨_, rfl⟩
    rw [ho]
    obtain ⟨pres, pok, ⟨v, pv, prow, pnil⟩, pn, pD, pL, pB⟩ := h.put (.loop o)
    obtain ⟨W2, hW2⟩ : ∃ W2, W.putObj (w.heap.size + 1 + 1 + 1 + 1 + 1) (.loop o) = W2 := ⟨_, rfl⟩
    rw [hW2] at pres pok pv prow pn pD pL pB ⊢
    have hc := pv.cell
    have hsz := pB.size
    gi_wp2_with (gi_at_builtin; refine wpListIn_append_own _ rfl _ _ 188 rfl w.heap.size 9 i0 (.string ⟨#[]⟩) 1 16 Tryz.underlying188 hi hz0 hz1 hz2 rfl (by decide) _ _ _ rfl (prow.alloc _) ⟨W2.heap.size, 0, none⟩ 1 1 [strV x] rfl rfl (cell_one_new _ _ _) (by simp [strV, Value.oneCell']) (by unfold maxLen; omega) (by omega) (by simp; omega) ?_; intro v' w1 hown' hgrow _; obtain ⟨g', cap', rfl⟩ := ownsRow_succ hown'; obtain ⟨hv1, hv2, hr2, hk2, hb2⟩ := pv.appended (by decide) prow hsz (by omega) hown' hgrow; have hc1 := hv1.cell; have hf1 := hv1.frozen)
    have hl3 := hk2.same _ _ pL rfl
    have keep : ∀ {B : Nat} {t : TypeId} {u : Value}, Boxed W2 B t u → t ≠ 9 → B ≠ w.heap.size + 1 + 1 → Boxed (w1.setCell ⟨w.heap.size + 1 + 1, 0, none⟩ (.slice (some ⟨g', 0, none⟩) (pre.length + 1) cap')) B t u := fun hb ht hne =>
      Boxed.other ((hb.alloc _).kept hgrow (hb.not_row ht prow)) hne _
    refine ⟨_, _, run_endRound none hl3, rfl, ?_⟩
    have hfin : { { rec .ready none with state := .busy } with state := (if (none : Option Code).isNone = true then LoopState.ready else LoopState.done), pending := none } = rec .ready none := by rw [Hrec.out]; rfl
    rw [← ho, hfin]
    have hrow' : (w1.setCell ⟨w.heap.size + 1 + 1, 0, none⟩ (.slice (some ⟨g', 0, none⟩) (pre.length + 1) cap')).ownsRow w.heap.size 9 1 (.slice (some ⟨g', 0, none⟩) (pre.length + 1) cap') (pre ++ [x]).length ((pre ++ [x]).map strV) := by
      simpa using hr2
    have hl4 := hl3
    refine ⟨BoxedPut (keep pres (by decide) (by omega)) _ (by omega), BoxedPut (keep pok (by decide) (by omega)) _ (by omega), ⟨_, BoxedPut hv2 _ (by omega), ownsRow_putObj hrow' _ hl4 rfl, by simp⟩, BoxedPut (keep pn (by decide) (by omega)) _ (by omega),
      (World.putObj_heap_other (by omega)).trans (hk2.same _ _ pD rfl), World.putObj_heap_same (Array.getElem?_eq_some_iff.1 hl4).1, below_put (pB.trans hb2) _ (by omega)⟩
  · -- none
    intro pre r W h
    refine wide_yield h.L (by rw [hrec]; rfl) ?_
    rw [hrec]
    simp only
    rw [← hrec]
    have Hrec := Lib.hid hrec
    clear hrec
    gi_wp2
    refine ⟨_, run_beginRound h.L (by rw [Hrec.out]), ?_⟩
    obtain ⟨o, ho⟩ : ∃ o, { rec .ready none with state := .busy } = o := ⟨_, rfl⟩
    rw [ho]
    obtain ⟨pres, pok, _, pn, pD, pL, pB⟩ := h.put (.loop o)
    obtain ⟨W2, hW2⟩ : ∃ W2, W.putObj (w.heap.size + 1 + 1 + 1 + 1 + 1) (.loop o) = W2 := ⟨_, rfl⟩
    rw [hW2] at pres pok pn pD pL pB ⊢
    have hc := pres.cell
    have hf := pres.frozen
    have hc2 := pok.cell
    have hf2 := pok.frozen
    gi_wp2
    obtain ⟨W3, hW3⟩ : ∃ W3, (W2.setCell ⟨w.heap.size, 0, none⟩ (.slice none 0 0)).setCell ⟨w.heap.size + 1, 0, none⟩ (.bool false) = W3 := ⟨_, rfl⟩
    have same : ∀ k, k ≠ w.heap.size → k ≠ w.heap.size + 1 → W3.heap[k]? = W2.heap[k]? := fun k h1 h2 => by
      rw [← hW3]; exact (Below.heap_setCell _ _ _ k h2).trans (Below.heap_setCell _ _ _ k h1)
    have hl3 : W3.heap[w.heap.size + 1 + 1 + 1 + 1 + 1]? = some (.loop o) := (same _ (by omega) (by omega)).trans pL
    have q1 : Boxed W3 w.heap.size 188 (.slice none 0 0) := by rw [← hW3]; exact (pres.set _).other (by omega) _
    have q2 : Boxed W3 (w.heap.size + 1) 4 (.bool false) := by rw [← hW3]; exact (pok.other (by omega) _).set _
    have q3 : Below w.heap.size w W3 := by
      rw [← hW3]; exact (pB.setCell (p := ⟨w.heap.size, 0, none⟩) (Nat.le_refl _) _).setCell (p := ⟨w.heap.size + 1, 0, none⟩) (show w.heap.size ≤ w.heap.size + 1 by omega) _
    rw [hW3]
    refine ⟨_, _, run_endRound (some .ret) hl3, rfl, ?_⟩
    have hfin : { { rec .ready none with state := .busy } with state := (if (some Code.ret : Option Code).isNone = true then LoopState.ready else LoopState.done), pending := some Code.ret } = rec .done (some .ret) := by rw [Hrec.out]; rfl
    rw [← ho, hfin]
    exact ⟨BoxedPut q1 _ (by omega), BoxedPut q2 _ (by omega), (World.putObj_heap_other (by omega)).trans ((same _ (by omega) (by omega)).trans pD), World.putObj_heap_same (Array.getElem?_eq_some_iff.1 hl3).1, below_put q3 _ (by omega)⟩
  · -- at the begin
    have b1 := (((((Boxed.new w 188 (.slice none 0 0)).alloc (.cells #[.bool false] 4)).alloc (.cells #[.slice none 0 0] 188)).alloc (.cells #[strV s] 22)).alloc (.deferred (some []))).alloc (.loop (rec .ready none))
    have b2 := ((((Boxed.new (w.alloc (.cells #[.slice none 0 0] 188)) 4 (.bool false)).alloc (.cells #[.slice none 0 0] 188)).alloc (.cells #[strV s] 22)).alloc (.deferred (some []))).alloc (.loop (rec .ready none))
    have b3 := (((Boxed.new ((w.alloc (.cells #[.slice none 0 0] 188)).alloc (.cells #[.bool false] 4)) 188 (.slice none 0 0)).alloc (.cells #[strV s] 22)).alloc (.deferred (some []))).alloc (.loop (rec .ready none))
    have b4 := ((Boxed.new (((w.alloc (.cells #[.slice none 0 0] 188)).alloc (.cells #[.bool false] 4)).alloc (.cells #[.slice none 0 0] 188)) 22 (strV s)).alloc (.deferred (some []))).alloc (.loop (rec .ready none))
    obtain ⟨W4, hW4⟩ : ∃ W4, (((w.alloc (.cells #[.slice none 0 0] 188)).alloc (.cells #[.bool false] 4)).alloc (.cells #[.slice none 0 0] 188)).alloc (.cells #[strV s] 22) = W4 := ⟨_, rfl⟩
    have hs4 : W4.heap.size = w.heap.size + 1 + 1 + 1 + 1 := by rw [← hW4]; simp
    have hB4 : Below w.heap.size w W4 := by
      rw [← hW4]; exact ((((Below.refl _ w).alloc (Nat.le_refl _) _).alloc (by simp) _).alloc (by simp; omega) _).alloc (by simp; omega) _
    have d1 : (W4.alloc (.deferred (some []))).heap[w.heap.size + 1 + 1 + 1 + 1]? = some (.deferred (some [])) := by
      have := World.alloc_heap_new W4 (.deferred (some [])); rwa [hs4] at this
    have d2 : ((W4.alloc (.deferred (some []))).alloc (.loop (rec .ready none))).heap[w.heap.size + 1 + 1 + 1 + 1]? = some (.deferred (some [])) :=
      (Below.heap_alloc _ _ _ (Array.getElem?_eq_some_iff.1 d1).1).trans d1
    have d3 : ((W4.alloc (.deferred (some []))).alloc (.loop (rec .ready none))).heap[w.heap.size + 1 + 1 + 1 + 1 + 1]? = some (.loop (rec .ready none)) := by
      have := World.alloc_heap_new (W4.alloc (.deferred (some []))) (.loop (rec .ready none)); rwa [World.size_alloc, hs4] at this
    have d4 : Below w.heap.size w ((W4.alloc (.deferred (some []))).alloc (.loop (rec .ready none))) := (hB4.alloc (by omega) _).alloc (by simp; omega) _
    simp only [World.size_alloc] at b2 b3 b4
    rw [hW4] at b1 b2 b3 b4
    refine ⟨?_, ?_, ⟨.slice none 0 0, ?_, World.ownsRow_nil _ _ _ _, by simp⟩, ?_, ?_, ?_, ?_⟩
    · exact hW4 ▸ b1
    · exact hW4 ▸ b2
    · exact hW4 ▸ b3
    · exact hW4 ▸ b4
    · exact hW4 ▸ d2
    · exact hW4 ▸ d3
    · exact hW4 ▸ d4
  · -- behind the iterator
    have Hrec := Lib.hid hrec
    clear hrec
    rintro e W ⟨⟨u, rfl⟩, (⟨ls, hcut, h⟩ | ⟨hcut, h⟩)⟩
    · have hend : (Instr.endLoop (w.heap.size + 1 + 1 + 1 + 1 + 1)).run Tryz.prog W = .ok none (W.putObj (w.heap.size + 1 + 1 + 1 + 1 + 1) (.loop { rec .ready none with state := .exhausted })) := by
        refine (run_endLoop (P := Tryz.prog) h.L (by rw [Hrec.out]; simp)).trans ?_
        have hp : (rec .ready none).pending = none := by rw [Hrec.out]
        simp only [hp]
      refine ⟨none, _, hend, ?_⟩
      obtain ⟨o, ho⟩ : ∃ o, { rec .ready none with state := .exhausted } = o := ⟨_, rfl⟩
      rw [ho]
      obtain ⟨pres, pok, ⟨v, pv, prow, pnil⟩, pn, pD, pL, pB⟩ := h.put (.loop o)
      obtain ⟨W2, hW2⟩ : ∃ W2, W.putObj (w.heap.size + 1 + 1 + 1 + 1 + 1) (.loop o) = W2 := ⟨_, rfl⟩
      rw [hW2] at pres pok pv prow pn pD pL pB ⊢
      obtain ⟨ao, n', cap, rfl⟩ : ∃ ao n' cap, v = .slice ao n' cap := by
        rcases prow.2 with ⟨hv, _⟩ | ⟨g, cap, cur, hv, _⟩
        · exact ⟨_, _, _, hv⟩
        · exact ⟨_, _, _, hv⟩
      have c1 := pv.cell
      have c2 := pres.cell
      have f2 := pres.frozen
      have c3 := pok.cell
      have f3 := pok.frozen
      gi_wp2
      obtain ⟨W3, hW3⟩ : ∃ W3, (W2.setCell ⟨w.heap.size, 0, none⟩ (.slice ao n' cap)).setCell ⟨w.heap.size + 1, 0, none⟩ (.bool true) = W3 := ⟨_, rfl⟩
      have same : ∀ k, k ≠ w.heap.size → k ≠ w.heap.size + 1 → W3.heap[k]? = W2.heap[k]? := fun k h1 h2 => by
        rw [← hW3]; exact (Below.heap_setCell _ _ _ k h2).trans (Below.heap_setCell _ _ _ k h1)
      have q1 : Boxed W3 w.heap.size 188 (.slice ao n' cap) := by rw [← hW3]; exact (pres.set _).other (by omega) _
      have q2 : Boxed W3 (w.heap.size + 1) 4 (.bool true) := by rw [← hW3]; exact (pok.other (by omega) _).set _
      have q3 : Below w.heap.size w W3 := by
        rw [← hW3]; exact (pB.setCell (p := ⟨w.heap.size, 0, none⟩) (Nat.le_refl _) _).setCell (p := ⟨w.heap.size + 1, 0, none⟩) (show w.heap.size ≤ w.heap.size + 1 by omega) _
      have q4 : W3.ownsRow w.heap.size 9 1 (.slice ao n' cap) ls.length (ls.map strV) := by
        rw [← hW3]
        refine (prow.kept (grownBy_setCell' W2 w.heap.size (.slice ao n' cap)) (.inr (pres.not_row (by decide) prow).symm)).kept (grownBy_setCell' _ (w.heap.size + 1) (.bool true)) (.inr (pok.not_row (by decide) prow).symm)
      have hK : W3.heap[w.heap.size + 1 + 1 + 1 + 1]? = some (.deferred (some [])) := (same _ (by omega) (by omega)).trans pD
      rw [hW3]
      refine ⟨by simp, .inl ⟨_, _, rfl, run_takeDeferred hK, ?_⟩⟩
      have r1 := BoxedPut q1 (l := w.heap.size + 1 + 1 + 1 + 1) (.deferred none) (by omega)
      have r2 := BoxedPut q2 (l := w.heap.size + 1 + 1 + 1 + 1) (.deferred none) (by omega)
      have hcs : cut s = some ls := by unfold cut; rw [if_neg (by omega)]; exact hcut
      exact ⟨_, results_cell2 rfl _ _ _ rfl rfl Tryz.isAgg188 Tryz.isAgg4 r1.cell r2.cell, below_put q3 _ (by omega), .inr ⟨ls, _, hcs, rfl, ownsRow_putObj q4 _ hK rfl, pnil⟩⟩
    · have hend : (Instr.endLoop (w.heap.size + 1 + 1 + 1 + 1 + 1)).run Tryz.prog W = .ok (some .ret) (W.putObj (w.heap.size + 1 + 1 + 1 + 1 + 1) (.loop { rec .done (some .ret) with state := .exhausted })) := by
        refine (run_endLoop (P := Tryz.prog) h.L (by rw [Hrec.out]; simp)).trans ?_
        have hp : (rec .done (some .ret)).pending = some .ret := by rw [Hrec.out]
        simp only [hp]
      refine ⟨some .ret, _, hend, ?_⟩
      obtain ⟨o, ho⟩ : ∃ o, { rec .done (some .ret) with state := .exhausted } = o := ⟨_, rfl⟩
      rw [ho]
      have q1 := BoxedPut h.res (.loop o) (l := w.heap.size + 1 + 1 + 1 + 1 + 1) (by omega)
      have q2 := BoxedPut h.ok (.loop o) (l := w.heap.size + 1 + 1 + 1 + 1 + 1) (by omega)
      have q3 : (W.putObj (w.heap.size + 1 + 1 + 1 + 1 + 1) (.loop o)).heap[w.heap.size + 1 + 1 + 1 + 1]? = some (.deferred (some [])) := (World.putObj_heap_other (by omega)).trans h.D
      have q4 := below_put h.below (l := w.heap.size + 1 + 1 + 1 + 1 + 1) (.loop o) (by omega)
      obtain ⟨W2, hW2⟩ : ∃ W2, W.putObj (w.heap.size + 1 + 1 + 1 + 1 + 1) (.loop o) = W2 := ⟨_, rfl⟩
      rw [hW2] at q1 q2 q3 q4 ⊢
      simp only
      gi_wp2
      refine ⟨by simp, .inl ⟨_, _, rfl, run_takeDeferred q3, ?_⟩⟩
      have r1 := BoxedPut q1 (l := w.heap.size + 1 + 1 + 1 + 1) (.deferred none) (by omega)
      have r2 := BoxedPut q2 (l := w.heap.size + 1 + 1 + 1 + 1) (.deferred none) (by omega)
      have hcs : cut s = none := by unfold cut; rw [if_neg (by omega)]; exact hcut
      exact ⟨_, results_cell2 rfl _ _ _ rfl rfl Tryz.isAgg188 Tryz.isAgg4 r1.cell r2.cell, below_put q4 _ (by omega), .inl ⟨hcs, rfl⟩⟩

set_option maxRecDepth 100000 in
set_option maxHeartbeats 4000000 in
theorem Tryz.cut_long (s : List UInt8) (hs : 254 < s.length) (w : World) :
    Calls Tryz.prog 183 #[.string ⟨s.toArray⟩] w (cutPost s w) := by
  go_enter Tryz.func183, Tryz.ntmps183
  have hs' : (254 : Int) < s.length := by omega
  go_wp2
  have b1 := ((Boxed.new w 188 (.slice none 0 0)).alloc (.cells #[.bool false] 4))
  have b2 := (Boxed.new (w.alloc (.cells #[.slice none 0 0] 188)) 4 (.bool false))
  rw [World.size_alloc] at b2
  have hb : Below w.heap.size w ((w.alloc (.cells #[.slice none 0 0] 188)).alloc (.cells #[.bool false] 4)) :=
    ((Below.refl _ w).alloc (Nat.le_refl _) _).alloc (by simp) _
  refine bodyPost_ret (results_cell2 rfl _ _ _ rfl rfl Tryz.isAgg188 Tryz.isAgg4 b1.cell b2.cell) rfl ?_
  exact ⟨hb, .inl ⟨by unfold cut; rw [if_pos hs], rfl⟩⟩

theorem Tryz.cut_walk (s : List UInt8) (w : World) : Calls Tryz.prog 183 #[.string ⟨s.toArray⟩] w (cutPost s w) := by
  by_cases hs : s.length ≤ 254
  · exact callsIn_wide.1 (Tryz.cut_in s hs w)
  · exact Tryz.cut_long s (by omega) w
end Go.Proofs
