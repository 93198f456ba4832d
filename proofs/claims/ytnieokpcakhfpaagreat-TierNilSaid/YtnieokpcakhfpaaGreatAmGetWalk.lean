/-
  denial.Get, where nothing is denied.
-/
import Derived.Test.YtnieokpcakhfpaaGreatAmCutWalk
set_option linter.unusedVariables false
namespace Go.Proofs
open Go.RowKit Go.Shelf Go.AM

attribute [local go_sem] Oper.semAt_some

theorem Tryz.backward_in (n : Nat) (v : Value) (hv : v = .slice none 0 0) (w : World) :
    CallsIn Fence.wide n Tryz.prog 398 #[v] w fun e w' => e = .returned (.func (.func 441) #[] #[.pointer (some ⟨w.heap.size, 0, none⟩)]) ∧ w' = w.alloc (.cells #[v] 377) := by
  subst hv
  refine callsIn_of_wp Tryz.func398 rfl trivial ?_ rfl
  simp only [Tryz.ntmps398, List.size_toArray, List.length_cons, List.length_nil, Nat.reduceAdd, Nat.reduceSub, Array.replicate_succ, Array.replicate_zero, List.push_toArray, List.append_toArray, List.nil_append, List.cons_append]
  gi_wp2
  go_ret
  exact ⟨rfl, rfl⟩

set_option maxRecDepth 100000 in
set_option maxHeartbeats 2000000 in
theorem Tryz.backward1_in (n : Nat) (hn : 1 ≤ n) (l B : Nat) (W : World) (hB : W.cell? ⟨B, 0, none⟩ = some (.slice none 0 0)) :
    CallsIn Fence.wide n Tryz.prog 441 #[.func (.yield l) #[] #[], .pointer (some ⟨B, 0, none⟩)] W fun e W' => (∃ v, e = .returned v) ∧ W' = W := by
  refine callsIn_of_wp Tryz.func441 rfl trivial ?_ rfl
  simp only [Tryz.ntmps441, List.size_toArray, List.length_cons, List.length_nil, Nat.reduceAdd, Nat.reduceSub, Array.replicate_succ, Array.replicate_zero, List.push_toArray, List.append_toArray, List.nil_append, List.cons_append]
  gi_wp2
  gi_loopw [3] (fun iv wr => iv = .int .i64 (-1) ∧ wr = W) (fun _ _ => 0)
  case atStart => exact ⟨rfl, rfl⟩
  case round =>
    obtain ⟨rfl, rfl⟩ := hrel
    gi_wp2
    go_end0
    exact ⟨⟨_, rfl⟩, rfl⟩

/-- A cell that is set to what it holds. -/
theorem setCell_id {W : World} {b i : Nat} {v : Value} (h : W.cell? ⟨b, i, none⟩ = some v) : W.setCell ⟨b, i, none⟩ v = W := by
  unfold World.cell? at h
  cases ho : W.heap[b]? with
  | none => rw [ho] at h; simp at h
  | some o =>
    rw [ho] at h
    cases o with
    | cells c t f =>
      simp at h
      obtain ⟨hlt, he⟩ := Array.getElem?_eq_some_iff.1 h
      have : W.heap.modify b (fun | .cells c elem frozen => .cells (c.setIfInBounds i v) elem frozen | o => o) = W.heap := by
        apply Array.ext_getElem?
        intro k
        rw [Array.getElem?_modify]
        by_cases e : b = k
        · subst e
          rw [if_pos rfl, ho]
          have e2 : c.setIfInBounds i v = c := by
            apply Array.ext_getElem?
            intro j
            rw [Array.getElem?_setIfInBounds]
            by_cases e3 : i = j
            · subst e3; rw [if_pos rfl, if_pos hlt]; exact h.symm
            · rw [if_neg e3]
          simp [e2]
        · rw [if_neg e]
      have hh : (W.setCell ⟨b, i, none⟩ v).heap = W.heap := this
      show ({ W with heap := (W.setCell ⟨b, i, none⟩ v).heap } : World) = W
      rw [hh]
    | _ => simp at h

theorem results_cell3 {fn : Func} {p q r : Tmp} {ty ty2 ty3 : TypeId} (h : fn.results = #[.cell p ty, .cell q ty2, .cell r ty3]) (tmps : Array Value) (P : Program) (w : World) {a b c : Addr} {v u x : Value}
    (ha : tmps.getD p undef = .pointer (some a)) (hb : tmps.getD q undef = .pointer (some b)) (hc : tmps.getD r undef = .pointer (some c))
    (hv : (loadVar ty a).run P w = .ok v w) (hu : (loadVar ty2 b).run P w = .ok u w) (hx : (loadVar ty3 c).run P w = .ok x w) : (results fn tmps).run P w = .ok (.tuple #[v, u, x]) w := by
  simp only [Array.getD_eq_getD_getElem?] at ha hb hc
  simp only [results, h]
  simp [Sem.run_bind, Result.andThen, ha, hb, hc, asAddr, hv, hu, hx]
theorem load_one {P : Program} {t : TypeId} {a : Addr} {v : Value} {w : World} (g : ∀ w, (isAgg t).run P w = .ok false w) (h : w.cell? a = some v) : (loadVar t a).run P w = .ok v w := by
  simp [loadVar, g, Sem.run_bind, Result.andThen, h]

def getNone : Value := .tuple #[.int .i64 0, .agg #[.string ⟨#[]⟩, .int .i64 0, .int .i64 0, .string ⟨#[]⟩], .bool false]

theorem Tryz.within244_in (n : Nat) (x : Int) (h0 : 0 ≤ x) (h1 : x ≤ 1099511627776) (w : World) :
    CallsIn Fence.wide n Tryz.prog 244 #[.int .i64 x, .int .i64 0, .int .i64 1099511627776] w fun e w' => e = .returned (.bool true) ∧ w' = w := by
  refine callsIn_of_wp Tryz.func244 rfl trivial ?_ rfl
  simp only [Tryz.ntmps244, List.size_toArray, List.length_cons, List.length_nil, Nat.reduceAdd, Nat.reduceSub, Array.replicate_succ, Array.replicate_zero, List.push_toArray, List.append_toArray, List.nil_append, List.cons_append]
  gi_wp2
  go_ret
  exact ⟨rfl, rfl⟩

set_option maxRecDepth 100000 in
set_option maxHeartbeats 4000000 in
theorem Tryz.get_in (b i : Nat) (qn : ByteArray) (qt x : Int) (w : World) (hb : b < w.heap.size) (hc : w.cell? ⟨b, i + 2, none⟩ = some (.slice none 0 0)) (h0 : 0 ≤ x) (h1 : x ≤ 1099511627776)
    (hfold : ∀ W, Below w.heap.size w W → Calls Tryz.prog 120 #[.string qn] W fun e W' => ∃ s, e = .returned (.string s) ∧ Below W.heap.size W W') :
    CallsIn Fence.wide 5 Tryz.prog 347 #[.pointer (some ⟨b, i, none⟩), .agg #[.string qn, .int .i64 qt], .int .i64 x] w fun e w' => e = .returned getNone ∧ Below w.heap.size w w' := by
  refine callsIn_of_wp_marks Tryz.func347 rfl trivial ?_ rfl
  simp only [Tryz.ntmps347, List.size_toArray, List.length_cons, List.length_nil, Nat.reduceAdd, Nat.reduceSub, Array.replicate_succ, Array.replicate_zero, List.push_toArray, List.append_toArray, List.nil_append, List.cons_append]
  have hB : Below w.heap.size w (((((w.alloc (.cells #[.string qn, .int .i64 qt] 87)).alloc (.cells #[.int .i64 x] 3)).alloc (.cells #[.int .i64 0] 3)).alloc (.cells #[.string ⟨#[]⟩, .int .i64 0, .int .i64 0, .string ⟨#[]⟩] 140)).alloc (.cells #[.bool false] 4)) :=
    (((((Below.refl _ w).alloc (Nat.le_refl _) _).alloc (by simp) _).alloc (by simp; omega) _).alloc (by simp; omega) _).alloc (by simp; omega) _
  gi_wp2_with (first
    | (refine ⟨trivial, ?_⟩; gi_at_call 244; refine (Tryz.within244_in 4 x h0 h1 _).mono ?_; rintro e w' ⟨rfl, rfl⟩)
    | (refine ⟨trivial, ?_⟩; gi_at_call 120; refine (callsIn_wide.2 (hfold _ hB)).mono ?_))
  have a6 := ((Boxed.new ((w.alloc (.cells #[.string qn, .int .i64 qt] 87)).alloc (.cells #[.int .i64 x] 3)) 3 (.int .i64 0)).alloc (.cells #[.string ⟨#[]⟩, .int .i64 0, .int .i64 0, .string ⟨#[]⟩] 140)).alloc (.cells #[.bool false] 4)
  have a7 : (((((w.alloc (.cells #[.string qn, .int .i64 qt] 87)).alloc (.cells #[.int .i64 x] 3)).alloc (.cells #[.int .i64 0] 3)).alloc (.cells #[.string ⟨#[]⟩, .int .i64 0, .int .i64 0, .string ⟨#[]⟩] 140)).alloc (.cells #[.bool false] 4)).heap[w.heap.size + 1 + 1 + 1]? = some (.cells #[.string ⟨#[]⟩, .int .i64 0, .int .i64 0, .string ⟨#[]⟩] 140) := by
    refine (Below.heap_alloc _ _ _ (by simp)).trans ?_
    have := World.alloc_heap_new (((w.alloc (.cells #[.string qn, .int .i64 qt] 87)).alloc (.cells #[.int .i64 x] 3)).alloc (.cells #[.int .i64 0] 3)) (.cells #[.string ⟨#[]⟩, .int .i64 0, .int .i64 0, .string ⟨#[]⟩] 140)
    simpa using this
  have a8 := Boxed.new ((((w.alloc (.cells #[.string qn, .int .i64 qt] 87)).alloc (.cells #[.int .i64 x] 3)).alloc (.cells #[.int .i64 0] 3)).alloc (.cells #[.string ⟨#[]⟩, .int .i64 0, .int .i64 0, .string ⟨#[]⟩] 140)) 4 (.bool false)
  have hs1 : (((((w.alloc (.cells #[.string qn, .int .i64 qt] 87)).alloc (.cells #[.int .i64 x] 3)).alloc (.cells #[.int .i64 0] 3)).alloc (.cells #[.string ⟨#[]⟩, .int .i64 0, .int .i64 0, .string ⟨#[]⟩] 140)).alloc (.cells #[.bool false] 4)).heap.size = w.heap.size + 1 + 1 + 1 + 1 + 1 := by simp
  have hc1 := (hB.cell (p := ⟨b, i + 2, none⟩) hb).trans hc
  simp only [World.size_alloc] at a6 a8
  obtain ⟨W1, hW1⟩ : ∃ W1, (((((w.alloc (.cells #[.string qn, .int .i64 qt] 87)).alloc (.cells #[.int .i64 x] 3)).alloc (.cells #[.int .i64 0] 3)).alloc (.cells #[.string ⟨#[]⟩, .int .i64 0, .int .i64 0, .string ⟨#[]⟩] 140)).alloc (.cells #[.bool false] 4)) = W1 := ⟨_, rfl⟩
  rw [hW1] at a6 a7 a8 hs1 hB hc1 ⊢
  rintro e W2 ⟨s2, rfl, hW2⟩
  have b6 : Boxed W2 (w.heap.size + 1 + 1) 3 (.int .i64 0) := (hW2.block _ (by omega)).trans a6
  have b7 := (hW2.block (w.heap.size + 1 + 1 + 1) (by omega)).trans a7
  have b8 : Boxed W2 (w.heap.size + 1 + 1 + 1 + 1) 4 (.bool false) := (hW2.block _ (by omega)).trans a8
  have hc2 := (hW2.cell (p := ⟨b, i + 2, none⟩) (show b < W1.heap.size by omega)).trans hc1
  have hBW : Below w.heap.size w W2 := hB.trans (hW2.mono (by omega))
  have hs2 : w.heap.size + 1 + 1 + 1 + 1 + 1 ≤ W2.heap.size := by have := hW2.size; omega
  clear hfold hW1 hc hc1 a6 a7 a8 hB
  have hc3 : ∀ t : Value, (W2.alloc (.cells #[t] 22)).cell? ⟨b, i + 2, none⟩ = some (.slice none 0 0) := fun t => (((Below.refl W2.heap.size W2).alloc (Nat.le_refl _) _).cell (p := ⟨b, i + 2, none⟩) (show b < W2.heap.size by omega)).trans hc2
  have hc4 : ∀ t u : Value, ((W2.alloc (.cells #[t] 22)).setCell ⟨W2.heap.size, 0, none⟩ u).cell? ⟨b, i + 2, none⟩ = some (.slice none 0 0) := fun t u => ((((Below.refl W2.heap.size W2).alloc (Nat.le_refl _) _).setCell (p := ⟨W2.heap.size, 0, none⟩) (Nat.le_refl _) _).cell (p := ⟨b, i + 2, none⟩) (show b < W2.heap.size by omega)).trans hc2
  gi_wp2_with (refine ⟨trivial, ?_⟩; gi_at_call 398; refine (Tryz.backward_in 4 _ rfl _).mono ?_; rintro e w' ⟨rfl, rfl⟩)
  have hB3 : Below W2.heap.size W2 ((W2.alloc (.cells #[.string s2] 22)).alloc (.cells #[.slice none 0 0] 377)) := ((Below.refl _ W2).alloc (Nat.le_refl _) _).alloc (by simp) _
  have b9 := Boxed.new (W2.alloc (.cells #[.string s2] 22)) 377 (.slice none 0 0)
  have hs3 : ((W2.alloc (.cells #[.string s2] 22)).alloc (.cells #[.slice none 0 0] 377)).heap.size = W2.heap.size + 1 + 1 := by simp
  simp only [World.size_alloc] at b9
  obtain ⟨W3, hW3⟩ : ∃ W3, (W2.alloc (.cells #[.string s2] 22)).alloc (.cells #[.slice none 0 0] 377) = W3 := ⟨_, rfl⟩
  rw [hW3] at b9 hs3 hB3 ⊢
  refine wide_range (by omega) (gf := 441) (lb := #[.pointer (some ⟨W2.heap.size + 1, 0, none⟩)]) rfl (enters_of Tryz.func441 (by kernel_rfl) rfl) fun fn rec hrec => ?_
  have Hrec := Lib.hid hrec
  clear hrec hc3 hc4
  have hB4 : Below W3.heap.size W3 ((W3.alloc (.deferred (some []))).alloc (.loop (rec .ready none))) := ((Below.refl _ W3).alloc (Nat.le_refl _) _).alloc (by simp) _
  have d1 : ((W3.alloc (.deferred (some []))).alloc (.loop (rec .ready none))).heap[W3.heap.size]? = some (.deferred (some [])) :=
    (Below.heap_alloc _ _ _ (by simp)).trans (World.alloc_heap_new W3 _)
  have d2 : ((W3.alloc (.deferred (some []))).alloc (.loop (rec .ready none))).heap[W3.heap.size + 1]? = some (.loop (rec .ready none)) := by
    have := World.alloc_heap_new (W3.alloc (.deferred (some []))) (.loop (rec .ready none)); rwa [World.size_alloc] at this
  obtain ⟨W4, hW4⟩ : ∃ W4, (W3.alloc (.deferred (some []))).alloc (.loop (rec .ready none)) = W4 := ⟨_, rfl⟩
  rw [hW4] at hB4 d1 d2 ⊢
  refine (Tryz.backward1_in 4 (by omega) _ _ _ ((hB4.cell (p := ⟨W2.heap.size + 1, 0, none⟩) (show W2.heap.size + 1 < W3.heap.size by omega)).trans b9.cell)).mono ?_
  rintro e W ⟨⟨u, rfl⟩, rfl⟩
  have hend : (Instr.endLoop (W3.heap.size + 1)).run Tryz.prog W = .ok none (W.putObj (W3.heap.size + 1) (.loop { rec .ready none with state := .exhausted })) := by
    refine (run_endLoop (P := Tryz.prog) d2 (by rw [Hrec.out]; simp)).trans ?_
    have hp : (rec .ready none).pending = none := by rw [Hrec.out]
    simp only [hp]
  refine ⟨none, _, hend, ?_⟩
  have keep : ∀ k, k < W2.heap.size → (W.putObj (W3.heap.size + 1) (.loop { rec .ready none with state := .exhausted })).heap[k]? = W2.heap[k]? := fun k hk =>
    (World.putObj_heap_other (by omega)).trans ((hB4.block k (by omega)).trans (hB3.block k hk))
  have hB5 : Below w.heap.size w (W.putObj (W3.heap.size + 1) (.loop { rec .ready none with state := .exhausted })) :=
    below_put ((hBW.trans (hB3.mono (by omega))).trans (hB4.mono (by omega))) _ (by omega)
  have hK : (W.putObj (W3.heap.size + 1) (.loop { rec .ready none with state := .exhausted })).heap[W3.heap.size]? = some (.deferred (some [])) := (World.putObj_heap_other (by omega)).trans d1
  obtain ⟨W5, hW5⟩ : ∃ W5, W.putObj (W3.heap.size + 1) (.loop { rec .ready none with state := .exhausted }) = W5 := ⟨_, rfl⟩
  rw [hW5] at keep hB5 hK ⊢
  have c6 : Boxed W5 (w.heap.size + 1 + 1) 3 (.int .i64 0) := (keep _ (by omega)).trans b6
  have c7 := (keep (w.heap.size + 1 + 1 + 1) (by omega)).trans b7
  have c8 : Boxed W5 (w.heap.size + 1 + 1 + 1 + 1) 4 (.bool false) := (keep _ (by omega)).trans b8
  clear hend hW5 hW4 hW3 d1 d2 hB4 hB3 b9 b6 b7 b8 hc2 hW2 hBW Hrec keep
  have e6 := c6.cell
  have f6 := c6.frozen
  have e8 := c8.cell
  have f8 := c8.frozen
  have e70 : W5.cell? ⟨w.heap.size + 1 + 1 + 1, 0, none⟩ = some (.string ⟨#[]⟩) := by simp [World.cell?, c7]
  have e71 : W5.cell? ⟨w.heap.size + 1 + 1 + 1, 1, none⟩ = some (.int .i64 0) := by simp [World.cell?, c7]
  have e72 : W5.cell? ⟨w.heap.size + 1 + 1 + 1, 2, none⟩ = some (.int .i64 0) := by simp [World.cell?, c7]
  have e73 : W5.cell? ⟨w.heap.size + 1 + 1 + 1, 3, none⟩ = some (.string ⟨#[]⟩) := by simp [World.cell?, c7]
  have f7 : ∀ j, W5.frozen? ⟨w.heap.size + 1 + 1 + 1, j, none⟩ = false := fun j => by simp [World.frozen?, c7]
  gi_wp2
  rw [setCell_id e6, setCell_id e70, setCell_id e71, setCell_id e72, setCell_id e73, setCell_id e8]
  refine ⟨by simp, .inl ⟨_, _, rfl, run_takeDeferred (by rw [hs3] at hK; exact hK), ?_⟩⟩
  have r6 := BoxedPut c6 (l := W2.heap.size + 1 + 1) (.deferred none) (by omega)
  have r8 := BoxedPut c8 (l := W2.heap.size + 1 + 1) (.deferred none) (by omega)
  have r7 := (World.putObj_heap_other (w := W5) (r := W2.heap.size + 1 + 1) (o := .deferred none) (k := w.heap.size + 1 + 1 + 1) (by omega)).trans c7
  refine ⟨_, results_cell3 rfl _ _ _ rfl rfl rfl (load_one Tryz.isAgg3 r6.cell) ?_ (load_one Tryz.isAgg4 r8.cell), rfl, below_put hB5 _ (by omega)⟩
  have e0 : (W5.putObj (W2.heap.size + 1 + 1) (.deferred none)).cell? ⟨w.heap.size + 1 + 1 + 1, 0, none⟩ = some (.string ⟨#[]⟩) := by simp [World.cell?, r7]
  have e1 : (W5.putObj (W2.heap.size + 1 + 1) (.deferred none)).cell? ⟨w.heap.size + 1 + 1 + 1, 1, none⟩ = some (.int .i64 0) := by simp [World.cell?, r7]
  have e2 : (W5.putObj (W2.heap.size + 1 + 1) (.deferred none)).cell? ⟨w.heap.size + 1 + 1 + 1, 2, none⟩ = some (.int .i64 0) := by simp [World.cell?, r7]
  have e3 : (W5.putObj (W2.heap.size + 1 + 1) (.deferred none)).cell? ⟨w.heap.size + 1 + 1 + 1, 3, none⟩ = some (.string ⟨#[]⟩) := by simp [World.cell?, r7]
  simp [loadVar, Tryz.isAgg140, Tryz.sizeOf140, Sem.run_bind, Result.andThen, loadCells, loadCellsFrom, addr_add, e0, e1, e2, e3]
end Go.Proofs
