/-
  A range over a map that has one entry, or none.
-/
import Derived.Test.YtnieokpcakhfpaaGreatAmFunc
import Derived.Laws.IdiomRangeMap
namespace Go.AM

variable {P : Program} {nn : Nat}

/-- A list of operations, the first ones by the abstract machine. -/
theorem run_wp_then {call : CallF} (hcall : CallSound P call) {ops : Array Oper} {Q : Exit → Act → World → Prop} {m : Nat} : ∀ (is : List AIns) (k : Nat), (∀ (j : Nat) (x : AIns), is[j]? = some x → ∃ o, ops[k + j]? = some o ∧ okIns P nn ops o x = true) → ∀ {A A' : Tr} {a : Act} {μ : Mu} {H H' : Heap} {w : World},
    SR nn μ A a → WR μ H w → runIns call is A H = some (A', H') → (∀ μ' a' w', Stp μ H w μ' H' w' → SR nn μ' A' a' → wpOps P ops Q (List.range' (k + is.length) m) a' w') → wpOps P ops Q (List.range' k (is.length + m)) a w
  | [], k, _, A, A', a, μ, H, H', w, hs, hw, hr, hQ => by
    simp [runIns] at hr; obtain ⟨rfl, rfl⟩ := hr
    simpa using hQ μ a w (Stp.refl hw) hs
  | i :: is, k, hok, A, A', a, μ, H, H', w, hs, hw, hr, hQ => by
    obtain ⟨o, hk, ho⟩ := hok 0 i (by simp)
    simp only [runIns] at hr
    split at hr
    · simp at hr
    · rename_i A1 H1 hst
      rw [show (i :: is).length + m = (is.length + m) + 1 by simp; omega, List.range'_succ, wpOps_cons]
      refine ins_wp hcall hk ho hs hw hst fun μ' a' w' h1 h2 => ?_
      refine run_wp_then hcall is (k + 1) (fun j x hj => ?_) h2 h1.wr hr fun μ'' a'' w'' h3 h4 => ?_
      · obtain ⟨o', q1, q2⟩ := hok (j + 1) x (by simpa using hj)
        exact ⟨o', by rw [← q1]; congr 1; omega, q2⟩
      · have := hQ μ'' a'' w'' (h1.trans h3) h4
        rwa [show k + (i :: is).length = k + 1 + is.length by simp; omega] at this

theorem wpOps_value {ops : Array Oper} {Q : Exit → Act → World → Prop} {k : Nat} {rest : List Nat} {o : Oper} {v : Value} {a : Act} {w w' : World} (hk : ops[k]? = some o) (hg : o.guard = none)
    (hr : (execOp a.eval o).run P w = .ok (.value v) w') (h : wpOps P ops Q rest (a.put o.dst v) w') : wpOps P ops Q (k :: rest) a w := by
  rw [wpOps_cons]
  unfold wpOp
  simp only [hk, Region.wanted, hg]
  simp only [if_true]
  exact .inl (by unfold Oper.wp; rw [hr]; exact h)

def okList (P : Program) (nn : Nat) (ops : Array Oper) : Nat → List AIns → Bool
  | _, [] => true
  | k, x :: xs => (match ops[k]? with
    | some o => okIns P nn ops o x
    | none => false) && okList P nn ops (k + 1) xs
theorem okList_get {ops : Array Oper} : ∀ (is : List AIns) (k : Nat), okList P nn ops k is = true → ∀ (j : Nat) (x : AIns), is[j]? = some x → ∃ o, ops[k + j]? = some o ∧ okIns P nn ops o x = true
  | [], _, _, j, x, hj => by simp at hj
  | y :: ys, k, h, j, x, hj => by
    simp only [okList, Bool.and_eq_true] at h
    obtain ⟨h1, h2⟩ := h
    cases j with
    | zero =>
      simp at hj; subst hj
      split at h1
      · rename_i o ho; exact ⟨o, ho, h1⟩
      · simp at h1
    | succ j =>
      obtain ⟨o, q1, q2⟩ := okList_get ys (k + 1) h2 j x (by simpa using hj)
      exact ⟨o, by rw [← q1]; congr 1; omega, q2⟩

theorem next_none (w : World) (ty : TypeId) (bm since clock : Nat) (hb : w.heap[bm]? = some (.map #[] clock)) :
    (Instr.next (.pointer (some ⟨w.heap.size, 0, none⟩)) false ty).run P (w.alloc (.mapIter (some bm) since #[] since)) = .ok (.tuple #[.bool false]) (w.alloc (.mapIter (some bm) since #[] since)) := by
  rcases run_next_map (P := P) w ty bm since since #[] #[] clock hb (by simp) (Nat.le_refl _) with h | ⟨e, he, _⟩
  · exact h.2
  · simp [leftOf] at he

theorem next_one (w : World) (ty : TypeId) (bm since c0 clock : Nat) (e : MapEntry) (hb : w.heap[bm]? = some (.map #[e] clock)) (hold : e.born < since) :
    (Instr.next (.pointer (some ⟨w.heap.size, 0, none⟩)) false ty).run P (w.alloc (.mapIter (some bm) since #[] c0)) = .ok (.tuple #[.bool true, e.key, e.val]) (w.alloc (.mapIter (some bm) since (#[].push e.born) clock)) := by
  have hlt : bm < w.heap.size := (Array.getElem?_eq_some_iff.1 hb).1
  have hb' : (w.alloc (.mapIter (some bm) since #[] c0)).heap[bm]? = some (.map #[e] clock) := by rw [heap_alloc_old w _ hlt, hb]
  have hp : ∀ (h : Array Obj) (x y : Obj), (h.push x).setIfInBounds h.size y = h.push y := by
    intro h x y
    apply Array.toList_inj.1
    simp
  have hset : ∀ (o o' : Obj), (∀ c t f, o ≠ .cells c t f) → (setObj w.heap.size o').run P (w.alloc o) = .ok () (w.alloc o') := fun o o' hno => by
    simp only [setObj, Sem.run]
    rw [heap_alloc_new]
    cases o with
    | cells c t f => exact absurd rfl (hno c t f)
    | _ =>
      show Result.ok () ({ w.alloc _ with heap := (w.heap.push _).setIfInBounds w.heap.size o' } : World) = _
      rw [hp]
      rfl
  have f1 : Array.filter (fun x : MapEntry => !(#[] : Array Nat).contains x.born) #[e] = #[e] := by simp
  have f2 : Array.filter (fun x : MapEntry => decide (x.born < since)) #[e] = #[e] := by simp [hold]
  have f3 : Array.filter (fun x : MapEntry => decide (x.born ≥ since)) #[e] = #[] := by simp; omega
  simp only [Instr.next, getObj, Sem.run_bind, Sem.run, heap_alloc_new, hb', Result.andThen, f1, f2, f3]
  simp [choose, Sem.run, Question.forced, Result.andThen]
  rw [hset (.mapIter (some bm) since #[] c0) _ (fun c t f h => by cases h)]

end Go.AM
