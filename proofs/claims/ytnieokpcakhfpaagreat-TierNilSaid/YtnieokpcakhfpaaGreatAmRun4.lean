/-
  Regions that draw their order.
-/
import Derived.Test.YtnieokpcakhfpaaGreatAmLoc
namespace Go.AM

variable {P : Program} {nn : Nat} {call : CallF} {isPure : Nat → Bool}

/-! What an operation reads of the slots. -/
def opdT : Opd → List Nat
  | .t i => [i]
  | .c _ => []
def opdO : Option Opd → List Nat
  | some x => opdT x
  | none => []
def opdL (xs : List Opd) : List Nat := xs.flatMap opdT
def opdP (ps : List (Nat × Nat × Opd)) : List Nat := ps.flatMap fun p => opdT p.2.2
def AOp.reads : AOp → List Nat
  | .mv x | .box _ x | .load _ _ x | .nilchk x | .un _ x | .conv _ x | .s2b _ x | .b2s x | .s2s x | .faddr _ x | .fld _ _ _ x | .ext x _ | .len _ x | .clear _ x => opdT x
  | .pick c a b => opdT c ++ (opdT a ++ opdT b)
  | .alloc _ | .mkmap => []
  | .build _ ps | .mkslice _ _ _ _ ps => opdP ps
  | .store _ x v => opdT x ++ opdT v
  | .bin _ x y | .eq _ _ x y | .iaddr _ x y | .idxs x y | .idxa _ _ _ x y | .append _ x y | .mkslc _ x y => opdT x ++ opdT y
  | .mkfunc _ xs | .call _ xs | .mins xs | .maxs xs => opdL xs
  | .calld f xs => opdT f ++ opdL xs
  | .slice _ x lo hi mx => opdT x ++ (opdO lo ++ (opdO hi ++ opdO mx))
  | .substr x lo hi => opdT x ++ (opdO lo ++ opdO hi)
  | .lookup _ _ _ m k | .delete _ m k => opdT m ++ opdT k
  | .mapset _ m k v => opdT m ++ (opdT k ++ opdT v)

def Agree (A B : Tr) (l : List Nat) : Prop := ∀ t ∈ l, B.get t = A.get t
theorem Agree.left {A B : Tr} {l m : List Nat} (h : Agree A B (l ++ m)) : Agree A B l := fun t ht => h t (List.mem_append_left _ ht)
theorem Agree.right {A B : Tr} {l m : List Nat} (h : Agree A B (l ++ m)) : Agree A B m := fun t ht => h t (List.mem_append_right _ ht)
theorem ev_congr {A B : Tr} {x : Opd} (h : Agree A B (opdT x)) : ev B x = ev A x := by
  cases x with
  | t i => exact h i (by simp [opdT])
  | c v => rfl
theorem evo_congr {A B : Tr} {x : Option Opd} (h : Agree A B (opdO x)) : x.map (ev B) = x.map (ev A) := by
  cases x with
  | none => rfl
  | some x => simp [ev_congr (show Agree A B (opdT x) from h)]
theorem evl_congr {A B : Tr} {xs : List Opd} (h : Agree A B (opdL xs)) : xs.map (ev B) = xs.map (ev A) :=
  List.map_congr_left fun x hx => ev_congr fun t ht => h t (List.mem_flatMap.2 ⟨x, hx, ht⟩)
theorem evp_congr {A B : Tr} {ps : List (Nat × Nat × Opd)} (h : Agree A B (opdP ps)) : (ps.map fun (o, n, x) => (o, n, ev B x)) = (ps.map fun (o, n, x) => (o, n, ev A x)) :=
  List.map_congr_left fun p hx => by
    obtain ⟨o, n, x⟩ := p
    simp only [ev_congr (A := A) (B := B) (x := x) fun t ht => h t (List.mem_flatMap.2 ⟨(o, n, x), hx, ht⟩)]

theorem step_congr {A B : Tr} {op : AOp} (h : Agree A B op.reads) (H : Heap) : stepOp call B H op = stepOp call A H op := by
  cases op <;> simp only [AOp.reads] at h <;> simp only [stepOp]
  case mv => simp only [s_mv, ev_congr h]
  case pick => simp only [s_pick, ev_congr h.left, ev_congr h.right.left, ev_congr h.right.right]
  case alloc => rfl
  case box => simp only [s_box, ev_congr h]
  case build => simp only [s_build, evp_congr h]
  case mkslice => simp only [s_mkslice, evp_congr h]
  case load => simp only [s_load, ev_congr h]
  case store => simp only [s_store, ev_congr h.left, ev_congr h.right]
  case nilchk => simp only [s_nilchk, ev_congr h]
  case bin => simp only [s_bin, ev_congr h.left, ev_congr h.right]
  case eq => simp only [s_eq, ev_congr h.left, ev_congr h.right]
  case un => simp only [s_un, ev_congr h]
  case conv => simp only [s_conv, ev_congr h]
  case s2b => simp only [s_s2b, ev_congr h]
  case b2s => simp only [s_b2s, ev_congr h]
  case s2s => simp only [s_s2s, ev_congr h]
  case mkfunc => simp only [s_mkfunc, evl_congr h]
  case mkmap => rfl
  case slice => simp only [s_slice, ev_congr h.left, evo_congr h.right.left, evo_congr h.right.right.left, evo_congr h.right.right.right]
  case substr => simp only [s_substr, ev_congr h.left, evo_congr h.right.left, evo_congr h.right.right]
  case faddr => simp only [s_faddr, ev_congr h]
  case fld => simp only [s_fld, ev_congr h]
  case iaddr => simp only [s_iaddr, ev_congr h.left, ev_congr h.right]
  case idxs => simp only [s_idxs, ev_congr h.left, ev_congr h.right]
  case idxa => simp only [s_idxa, ev_congr h.left, ev_congr h.right]
  case lookup => simp only [s_lookup, ev_congr h.left, ev_congr h.right]
  case mapset => simp only [s_mapset, ev_congr h.left, ev_congr h.right.left, ev_congr h.right.right]
  case ext => simp only [s_ext, ev_congr h]
  case call => simp only [s_call, evl_congr h]
  case calld => simp only [s_calld, ev_congr h.left, evl_congr h.right]
  case append => simp only [s_append, ev_congr h.left, ev_congr h.right]
  case len => simp only [s_len, ev_congr h]
  case mins => simp only [s_mins, evl_congr h]
  case maxs => simp only [s_maxs, evl_congr h]
  case delete => simp only [s_delete, ev_congr h.left, ev_congr h.right]
  case clear => simp only [s_clear, ev_congr h]

theorem fp_congr {A B : Tr} {op : AOp} (h : Agree A B op.reads) (n : Nat) : fp isPure B n op = fp isPure A n op := by
  cases op <;> simp only [AOp.reads] at h <;> simp only [fp]
  case load => simp only [ev_congr h]
  case b2s => simp only [ev_congr h]
  case len => simp only [ev_congr h]
  case lookup => simp only [ev_congr h.left]
  case store => simp only [ev_congr h.left]
  case mapset => simp only [ev_congr h.left]
  case delete => simp only [ev_congr h.left]
  case clear => simp only [ev_congr h]
  case append => simp only [ev_congr h.left, ev_congr h.right]
  case call => simp only [evl_congr h]

theorem fp_next {A : Tr} {op : AOp} {n m : Nat} (h : (fp isPure A n op).al.isSome = true → m = n) : fp isPure A m op = fp isPure A n op := by
  cases op <;> simp only [fp] at h ⊢ <;> (try (rw [h rfl]; done))
  case box imm x => cases imm with
    | false => rw [h rfl]
    | true => rfl
  case mkslice imm zero esz len parts => cases imm with
    | false => rw [h rfl]
    | true => rfl
  case s2b imm x => cases imm with
    | false => rw [h rfl]
    | true => rfl

/-! Instructions. -/
def AIns.reads (i : AIns) : List Nat := i.op.reads ++ (match i.guard with | some (g, _) => [g] | none => [])
def ifq (isPure : Nat → Bool) (A : Tr) (n : Nat) (i : AIns) : Fp :=
  match wanted A i.guard with
  | some true => fp isPure A n i.op
  | _ => .no

theorem wanted_congr {A B : Tr} {i : AIns} (h : Agree A B i.reads) : wanted B i.guard = wanted A i.guard := by
  unfold AIns.reads at h
  have h := h.right
  cases hg : i.guard with
  | none => rfl
  | some p =>
    obtain ⟨g, b⟩ := p
    rw [hg] at h
    simp only [wanted, h g (by simp)]
theorem ifq_congr {A B : Tr} {i : AIns} (h : Agree A B i.reads) (n : Nat) : ifq isPure B n i = ifq isPure A n i := by
  unfold ifq
  rw [wanted_congr h, fp_congr h.left]
theorem ifq_next {A : Tr} {i : AIns} {n m : Nat} (h : (ifq isPure A n i).al.isSome = true → m = n) : ifq isPure A m i = ifq isPure A n i := by
  unfold ifq at h ⊢
  split
  · rename_i hw
    rw [hw] at h
    exact fp_next h
  · rfl

/-- An instruction's step where its operands are the same. -/
theorem ins_congr {i : AIns} {A A1 : Tr} {H H1 : Heap} (h : stepIns call i A H = some (A1, H1)) : ∃ v, A1 = put A i.dst v ∧ ∀ B, Agree A B i.reads → stepIns call i B H = some (put B i.dst v, H1) := by
  unfold stepIns at h
  split at h
  · simp at h
  · rename_i hw
    simp at h; obtain ⟨rfl, rfl⟩ := h
    exact ⟨_, rfl, fun B hB => by unfold stepIns; rw [wanted_congr hB, hw]⟩
  · rename_i hw
    split at h
    · simp at h
    · rename_i v H2 hs
      simp at h; obtain ⟨rfl, rfl⟩ := h
      exact ⟨v, rfl, fun B hB => by unfold stepIns; rw [wanted_congr hB, hw]; simp only; rw [step_congr hB.left, hs]⟩

theorem ins_local (hp : PureOk call isPure) {i : AIns} {A A1 : Tr} {H H1 : Heap} (hall : (ifq isPure A H.next i).all = false) (h : stepIns call i A H = some (A1, H1)) :
    ∃ v e, A1 = put A i.dst v ∧ H1 = Eff.app e H ∧ e.within H (ifq isPure A H.next i) ∧ ∀ B K, Agree A B i.reads → Same (ifq isPure A H.next i) H K → stepIns call i B K = some (put B i.dst v, e.app K) := by
  unfold ifq at hall ⊢
  unfold stepIns at h
  split at h
  · simp at h
  · rename_i hw
    simp at h; obtain ⟨rfl, rfl⟩ := h
    exact ⟨_, .same, rfl, rfl, trivial, fun B K hB _ => by unfold stepIns; rw [wanted_congr hB, hw]; rfl⟩
  · rename_i hw
    rw [hw] at hall ⊢
    simp only at hall ⊢
    split at h
    · simp at h
    · rename_i v H2 hs
      simp at h; obtain ⟨rfl, rfl⟩ := h
      obtain ⟨e, h1, h2, h3⟩ := op_local hp hall hs
      exact ⟨v, e, rfl, h1, h2, fun B K hB hK => by unfold stepIns; rw [wanted_congr hB, hw]; simp only; rw [step_congr hB.left, h3 K hK]⟩

/-! Two instructions change places. -/
theorem Tr.get_set_ne : ∀ (A : Tr) (i j : Nat) (v : AV), j ≠ i → (A.set i v).get j = A.get j
  | .lf u, i, j, v, h => by
    simp only [Tr.set]
    cases i with
    | zero => cases j with
      | zero => exact absurd rfl h
      | succ j => rfl
    | succ i => rfl
  | .nd a b, i, j, v, h => by
    have hb : ∀ n, Nat.beq (n % 2) 0 = decide (n % 2 = 0) := fun n => by
      rcases Nat.mod_two_eq_zero_or_one n with e | e <;> rw [e] <;> rfl
    simp only [Tr.set, hb]
    by_cases hi : i % 2 = 0 <;> by_cases hj : j % 2 = 0 <;> simp only [hi, hj, decide_true, decide_false, cond, Tr.get, hb]
    · exact Tr.get_set_ne a _ _ v (by omega)
    · exact Tr.get_set_ne b _ _ v (by omega)
theorem Tr.set_comm : ∀ (A : Tr) (i j : Nat) (v u : AV), i ≠ j → (A.set i v).set j u = (A.set j u).set i v
  | .lf w, i, j, v, u, h => by
    cases i with
    | zero => cases j with
      | zero => exact absurd rfl h
      | succ j => rfl
    | succ i => cases j <;> rfl
  | .nd a b, i, j, v, u, h => by
    have hb : ∀ n, Nat.beq (n % 2) 0 = decide (n % 2 = 0) := fun n => by
      rcases Nat.mod_two_eq_zero_or_one n with e | e <;> rw [e] <;> rfl
    simp only [Tr.set, hb]
    by_cases hi : i % 2 = 0 <;> by_cases hj : j % 2 = 0 <;> simp only [hi, hj, decide_true, decide_false, cond, Tr.set, hb]
    · rw [Tr.set_comm a _ _ v u (by omega)]
    · rw [Tr.set_comm b _ _ v u (by omega)]
theorem put_ne (A : Tr) (d : Option Nat) (v : AV) (j : Nat) (h : d ≠ some j) : (put A d v).get j = A.get j := by
  cases d with
  | none => rfl
  | some d => exact Tr.get_set_ne A d j v (by intro e; subst e; exact h rfl)
theorem put_comm (A : Tr) (d e : Option Nat) (v u : AV) (h : d = none ∨ e = none ∨ d ≠ e) : put (put A d v) e u = put (put A e u) d v := by
  cases d with
  | none => rfl
  | some d => cases e with
    | none => rfl
    | some e => exact Tr.set_comm A d e v u (by intro e; subst e; simp at h)

/-- Neither reads or writes what the other one writes. -/
def dstIn (d : Option Nat) (l : List Nat) : Bool := match d with | some d => l.contains d | none => false
def indep (x y : AIns) : Bool := !dstIn x.dst y.reads && !dstIn y.dst x.reads && (x.dst.isNone || y.dst.isNone || !(x.dst == y.dst))
theorem indep_spec {x y : AIns} (h : indep x y = true) : (∀ A v, Agree A (put A x.dst v) y.reads) ∧ (∀ A v, Agree A (put A y.dst v) x.reads) ∧ (x.dst = none ∨ y.dst = none ∨ x.dst ≠ y.dst) := by
  unfold indep at h
  simp only [Bool.and_eq_true, Bool.not_eq_true', Bool.or_eq_true] at h
  obtain ⟨⟨h1, h2⟩, h3⟩ := h
  refine ⟨fun A v t ht => put_ne _ _ _ _ fun e => ?_, fun A v t ht => put_ne _ _ _ _ fun e => ?_, ?_⟩
  · rw [e] at h1; simp [dstIn] at h1; exact h1 ht
  · rw [e] at h2; simp [dstIn] at h2; exact h2 ht
  · rcases h3 with (h3 | h3) | h3
    · exact .inl (by simpa using h3)
    · exact .inr (.inl (by simpa using h3))
    · exact .inr (.inr (by simpa using h3))
theorem Agree.symm {A B : Tr} {l : List Nat} (h : Agree A B l) : Agree B A l := fun t ht => (h t ht).symm

theorem Eff.next {e : Eff} {H : Heap} {f : Fp} (h : e.within H f) (hf : f.al = none) : (e.app H).next = H.next := by
  cases e with
  | same => rfl
  | push x => simp [Eff.within, hf] at h
  | set o x => rfl
theorem isNo_spec {f : Fp} (h : f.isNo = true) : f.all = false ∧ f.sees = false ∧ f.rd = [] ∧ f.wr = [] ∧ f.al = none := by
  unfold Fp.isNo at h
  simp at h
  obtain ⟨⟨⟨⟨h1, h2⟩, h3⟩, h4⟩, h5⟩ := h
  exact ⟨h1, h2, h3, h4, h5⟩
theorem within_looks {e : Eff} {H : Heap} {f : Fp} (h : e.within H f) (h1 : f.wr = []) (h2 : f.al = none) : e = .same := by
  cases e with
  | same => rfl
  | push x => simp [Eff.within, h2] at h
  | set o x => simp [Eff.within, h1] at h
theorem Same.no {f : Fp} (h : f.isNo = true) (H K : Heap) : Same f H K := by
  obtain ⟨_, h1, h2, _, h3⟩ := isNo_spec h
  exact ⟨fun o ho => by simp [h2] at ho, fun e => by simp [h3] at e, fun e => by simp [h1] at e⟩
theorem below_spec {n : Nat} {l : List Nat} (h : below (some n) l = true) {o : Nat} (ho : o ∈ l) : o < n := by
  simp only [below, List.all_eq_true] at h
  simpa using h o ho
theorem apart_spec {l m : List Nat} (h : apart l m = true) {o p : Nat} (ho : o ∈ l) (hp : p ∈ m) : p ≠ o := by
  intro e; subst e
  simp only [apart, List.all_eq_true] at h
  have := h p ho
  simp at this
  exact this hp

theorem heap_swap {f g : Fp} {H : Heap} {e d : Eff} (he : e.within H f) (hd : d.within (e.app H) g)
    (hs : (f.looks = true ∧ g.looks = true) ∨ (f.looks = true ∧ g.sees = false ∧ g.wr = [] ∧ below g.al f.rd = true) ∨
      (f.sees = false ∧ g.sees = false ∧ (f.al = none ∨ g.al = none) ∧ apart f.wr (g.rd ++ g.wr) = true ∧ apart g.wr f.rd = true ∧ below f.al (g.rd ++ g.wr) = true ∧ below g.al (f.rd ++ f.wr) = true)) :
    Same g (e.app H) H ∧ Same f H (d.app H) ∧ e.app (d.app H) = d.app (e.app H) := by
  have look : ∀ {f : Fp}, f.looks = true → f.wr = [] ∧ f.al = none := fun {f} h => by
    unfold Fp.looks at h; simp at h; exact ⟨h.1.2, h.2⟩
  have triv : ∀ (f : Fp), Same f H H := fun f => ⟨fun _ _ => rfl, fun _ => rfl, fun _ _ _ h => h⟩
  rcases hs with ⟨h1, h2⟩ | ⟨h1, h2, h3, h4⟩ | ⟨h1, h2, h3, h4, h5, h6, h7⟩
  · obtain rfl := within_looks he (look h1).1 (look h1).2
    obtain rfl := within_looks hd (look h2).1 (look h2).2
    exact ⟨triv _, triv _, rfl⟩
  · obtain rfl := within_looks he (look h1).1 (look h1).2
    cases d with
    | same => exact ⟨triv _, triv _, rfl⟩
    | push x =>
      have hd : g.al = some H.next := hd
      refine ⟨triv _, ⟨fun o ho => ?_, fun h => by simp [(look h1).2] at h, fun _ o y hy => Heap.get_push_of hy⟩, rfl⟩
      rw [hd] at h4
      have := below_spec h4 ho
      show (H.push x).get o = _
      rw [Heap.get_push, if_neg (by omega)]
    | set o x => have := hd.1; simp [h3] at this
  · -- what the first one did does not show to the second
    have a1 : Same g (e.app H) H := by
      refine ⟨fun o ho => ?_, fun h => ?_, fun h => by simp [h2] at h⟩
      · cases e with
        | same => rfl
        | push x =>
          have he : f.al = some H.next := he
          rw [he] at h6
          have := below_spec h6 (List.mem_append_left _ ho)
          show _ = (H.push x).get o
          rw [Heap.get_push, if_neg (by omega)]
        | set p x =>
          exact (Heap.get_set_ne (Heap.get_lt (Option.isSome_iff_exists.1 he.2.2).choose_spec) (apart_spec h4 he.1 (List.mem_append_left _ ho))).symm
      · rcases h3 with h3 | h3
        · exact (Eff.next he h3).symm
        · simp [h3] at h
    have nx : g.al.isSome = true → (e.app H).next = H.next := fun h => (a1.al h).symm
    have wlt : ∀ p ∈ g.wr, ((e.app H).get p).isSome = true → p < H.next := fun p hp hg => by
      have hlt := Heap.get_lt (Option.isSome_iff_exists.1 hg).choose_spec
      cases e with
      | same => exact hlt
      | push x =>
        have he : f.al = some H.next := he
        rw [he] at h6
        exact below_spec h6 (List.mem_append_right _ hp)
      | set q x => exact hlt
    refine ⟨a1, ⟨fun o ho => ?_, fun h => ?_, fun h => by simp [h1] at h⟩, ?_⟩
    · cases d with
      | same => rfl
      | push x =>
        have hd : g.al = some (e.app H).next := hd
        have hn := nx (by simp [hd])
        rw [hd, hn] at h7
        have := below_spec h7 (List.mem_append_left _ ho)
        show (H.push x).get o = _
        rw [Heap.get_push, if_neg (by omega)]
      | set p x => exact Heap.get_set_ne (wlt p hd.1 hd.2.2) (apart_spec h5 hd.1 ho)
    · rcases h3 with h3 | h3
      · simp [h3] at h
      · have := Eff.next hd h3
        cases d with
        | same => rfl
        | push x =>
          have hd : g.al = some (e.app H).next := hd
          simp [h3] at hd
        | set p x => rfl
    · cases e with
      | same => rfl
      | push x =>
        have he : f.al = some H.next := he
        cases d with
        | same => rfl
        | push y =>
          have hd : g.al = some _ := hd
          rcases h3 with h3 | h3
          · simp [h3] at he
          · simp [h3] at hd
        | set p y =>
          have hp := wlt p hd.1 hd.2.2
          simp only [Eff.app, Heap.push, Heap.set]
          have : H.next + 1 - 1 - p = (H.next - 1 - p) + 1 := by omega
          rw [this, List.set_cons_succ]
      | set o x =>
        have ho := Heap.get_lt (Option.isSome_iff_exists.1 he.2.2).choose_spec
        cases d with
        | same => rfl
        | push y =>
          simp only [Eff.app, Heap.push, Heap.set]
          have : H.next + 1 - 1 - o = (H.next - 1 - o) + 1 := by omega
          rw [this, List.set_cons_succ]
        | set p y =>
          have hp := wlt p hd.1 hd.2.2
          have hne := apart_spec h4 he.1 (List.mem_append_right _ hd.1)
          simp only [Eff.app, Heap.set]
          rw [List.set_comm _ _ (by omega)]

theorem ifp_cases (A : Tr) (H K : Heap) (i : AIns) : (ifp isPure A H K i = ifq isPure A H.next i ∧ (ifq isPure A H.next i).all = false) ∨
    ((ifp isPure A H K i).all = true ∧ (ifq isPure A H.next i).all = true ∧ (ifp isPure A H K i).chg = some (H, K)) := by
  unfold ifp ifq
  rcases hw : wanted A i.guard with _ | _ | _
  · exact .inl ⟨rfl, rfl⟩
  · exact .inl ⟨rfl, rfl⟩
  · cases he : fp isPure A H.next i.op with
    | mk al s rd wr a c =>
      cases al with
      | false => exact .inl ⟨rfl, rfl⟩
      | true => exact .inr ⟨rfl, rfl, rfl⟩
theorem ifp_part {A : Tr} {H K : Heap} {i : AIns} (h : (ifp isPure A H K i).all = false) : (ifq isPure A H.next i).all = false ∧ ifp isPure A H K i = ifq isPure A H.next i := by
  rcases ifp_cases (isPure := isPure) A H K i with ⟨h1, h2⟩ | ⟨h1, _⟩
  · exact ⟨h2, h1⟩
  · rw [h] at h1; simp at h1
theorem ifp_whole {A : Tr} {H K : Heap} {i : AIns} (h : (ifp isPure A H K i).all = true) : (ifp isPure A H K i).chg = some (H, K) := by
  rcases ifp_cases (isPure := isPure) A H K i with ⟨h1, h2⟩ | ⟨_, _, h1⟩
  · rw [h1, h2] at h; simp at h
  · exact h1
theorem ifp_of {A : Tr} {H K : Heap} {i : AIns} (h : (ifq isPure A H.next i).all = false) : ifp isPure A H K i = ifq isPure A H.next i := by
  rcases ifp_cases (isPure := isPure) A H K i with ⟨h1, _⟩ | ⟨_, h1, _⟩
  · exact h1
  · rw [h] at h1; simp at h1
theorem ifp_congr {A B : Tr} {i : AIns} (h : Agree A B i.reads) (H K : Heap) : ifp isPure B H K i = ifp isPure A H K i := by
  unfold ifp
  rw [wanted_congr h, fp_congr h.left]
/-- A footprint that is not of a call, at another heap. -/
theorem ifp_other {A : Tr} {H K H' K' : Heap} {i : AIns} (h : (ifp isPure A H K i).all = false) (hn : (ifp isPure A H K i).al.isSome = true → H'.next = H.next) : ifp isPure A H' K' i = ifp isPure A H K i := by
  obtain ⟨h1, h2⟩ := ifp_part h
  rw [h2] at hn ⊢
  have h3 := ifq_next (isPure := isPure) hn
  rw [ifp_of (by rw [h3]; exact h1), h3]

theorem spares_spec {f g : Fp} {H K : Heap} (hc : f.chg = some (H, K)) (h : Fp.spares f g = true) : ∀ o ∈ g.rd, K.get o = H.get o := by
  unfold Fp.spares at h
  rw [hc] at h
  simp only [List.all_eq_true] at h
  exact fun o ho => sameAt_eq (h o ho)
theorem looks_spec {f : Fp} (h : f.looks = true) : f.all = false ∧ f.wr = [] ∧ f.al = none := by
  unfold Fp.looks at h
  simp at h
  exact ⟨h.1.1, h.1.2, h.2⟩

theorem ins_local' (hp : PureOk call isPure) {i : AIns} {A A1 : Tr} {H H1 : Heap} (hall : (ifp isPure A H H1 i).all = false) (h : stepIns call i A H = some (A1, H1)) :
    ∃ v e, A1 = put A i.dst v ∧ H1 = Eff.app e H ∧ e.within H (ifp isPure A H H1 i) ∧ ∀ B K, Agree A B i.reads → Same (ifp isPure A H H1 i) H K → stepIns call i B K = some (put B i.dst v, e.app K) := by
  obtain ⟨h1, h2⟩ := ifp_part hall
  rw [h2]
  exact ins_local hp h1 h

theorem swap_ins (hp : PureOk call isPure) {x y : AIns} (hi : indep x y = true) {A A1 A2 : Tr} {H H1 H2 : Heap} (h1 : stepIns call x A H = some (A1, H1)) (h2 : stepIns call y A1 H1 = some (A2, H2))
    (hs : Fp.swap (ifp isPure A H H1 x) (ifp isPure A1 H1 H2 y) = true) :
    ∃ A3 H3, stepIns call y A H = some (A3, H3) ∧ ifp isPure A H H3 y = ifp isPure A1 H1 H2 y ∧ stepIns call x A3 H3 = some (A2, H2) ∧ ifp isPure A3 H3 H2 x = ifp isPure A H H1 x := by
  obtain ⟨i1, i2, i3⟩ := indep_spec hi
  -- the first one reads only, and what it reads stays
  have first : ∀ (g : Fp), g = ifp isPure A H H1 x → g.all = false → g.wr = [] → g.al = none → (∀ o ∈ g.rd, H2.get o = H1.get o) → (g.sees = true → H2 = H1) →
      ∃ A3 H3, stepIns call y A H = some (A3, H3) ∧ ifp isPure A H H3 y = ifp isPure A1 H1 H2 y ∧ stepIns call x A3 H3 = some (A2, H2) ∧ ifp isPure A3 H3 H2 x = ifp isPure A H H1 x := by
    intro g hg n1 n4 n5 hrd hsees
    subst hg
    obtain ⟨v, e, rfl, rfl, he, hl⟩ := ins_local' hp n1 h1
    obtain rfl := within_looks he n4 n5
    obtain ⟨u, rfl, hc⟩ := ins_congr h2
    refine ⟨_, _, hc A (i1 A v).symm, (ifp_congr (i1 A v) _ _).symm, ?_, ?_⟩
    · rw [hl _ _ (i2 A u) ⟨hrd, fun h => by simp [n5] at h, fun h o z hz => by rw [hsees h]; exact hz⟩, put_comm _ _ _ _ _ i3]; rfl
    · rw [ifp_congr (i2 A u)]
      exact ifp_other n1 fun h => by simp [n5] at h
  -- the second one reads only, and what it reads was there before
  have second : ∀ (g : Fp), g = ifp isPure A1 H1 H2 y → g.all = false → g.wr = [] → g.al = none → (∀ o ∈ g.rd, H.get o = H1.get o) → (g.sees = true → H = H1) →
      ∃ A3 H3, stepIns call y A H = some (A3, H3) ∧ ifp isPure A H H3 y = ifp isPure A1 H1 H2 y ∧ stepIns call x A3 H3 = some (A2, H2) ∧ ifp isPure A3 H3 H2 x = ifp isPure A H H1 x := by
    intro g hg n1 n4 n5 hrd hsees
    subst hg
    obtain ⟨u, d, rfl, rfl, hd, hl⟩ := ins_local' hp n1 h2
    obtain rfl := within_looks hd n4 n5
    obtain ⟨v, rfl, hc⟩ := ins_congr h1
    refine ⟨_, _, hl A H (i1 A v).symm ⟨hrd, fun h => by simp [n5] at h, fun h o z hz => by rw [hsees h]; exact hz⟩, ?_, ?_, ?_⟩
    · rw [← ifp_congr (i1 A v)]
      exact ifp_other n1 fun h => by simp [n5] at h
    · show stepIns call x (put A y.dst u) H = _
      rw [hc _ (i2 A u), put_comm _ _ _ _ _ i3]; rfl
    · exact ifp_congr (i2 A u) _ _
  have both : (ifp isPure A H H1 x).all = false → (ifp isPure A1 H1 H2 y).all = false → (((ifp isPure A H H1 x).looks = true ∧ (ifp isPure A1 H1 H2 y).looks = true) ∨ ((ifp isPure A H H1 x).looks = true ∧ (ifp isPure A1 H1 H2 y).sees = false ∧ (ifp isPure A1 H1 H2 y).wr = [] ∧ below (ifp isPure A1 H1 H2 y).al (ifp isPure A H H1 x).rd = true) ∨
      ((ifp isPure A H H1 x).sees = false ∧ (ifp isPure A1 H1 H2 y).sees = false ∧ ((ifp isPure A H H1 x).al = none ∨ (ifp isPure A1 H1 H2 y).al = none) ∧ apart (ifp isPure A H H1 x).wr ((ifp isPure A1 H1 H2 y).rd ++ (ifp isPure A1 H1 H2 y).wr) = true ∧ apart (ifp isPure A1 H1 H2 y).wr (ifp isPure A H H1 x).rd = true ∧ below (ifp isPure A H H1 x).al ((ifp isPure A1 H1 H2 y).rd ++ (ifp isPure A1 H1 H2 y).wr) = true ∧ below (ifp isPure A1 H1 H2 y).al ((ifp isPure A H H1 x).rd ++ (ifp isPure A H H1 x).wr) = true)) →
      ∃ A3 H3, stepIns call y A H = some (A3, H3) ∧ ifp isPure A H H3 y = ifp isPure A1 H1 H2 y ∧ stepIns call x A3 H3 = some (A2, H2) ∧ ifp isPure A3 H3 H2 x = ifp isPure A H H1 x := by
    intro na nb hcond
    obtain ⟨v, e, rfl, rfl, he, hl⟩ := ins_local' hp na h1
    obtain ⟨u, d, rfl, rfl, hd, hm⟩ := ins_local' hp nb h2
    obtain ⟨s1, s2, s3⟩ := heap_swap he hd hcond
    refine ⟨_, _, hm A H (i1 A v).symm s1, ?_, ?_, ?_⟩
    · rw [← ifp_congr (i1 A v)]
      exact ifp_other nb fun h => s1.al h
    · rw [hl _ _ (i2 A u) s2, put_comm _ _ _ _ _ i3, s3]
    · rw [ifp_congr (i2 A u)]
      exact ifp_other na fun h => s2.al h
  unfold Fp.swap at hs
  simp only [Bool.or_eq_true, Bool.and_eq_true, Bool.not_eq_true'] at hs
  rcases hs with (((((hs | hs) | hs) | hs) | hs) | hs) | hs
  · obtain ⟨n1, n2, n3, n4, n5⟩ := isNo_spec hs
    exact first _ rfl n1 n4 n5 (fun o ho => by simp [n3] at ho) (fun h => by simp [n2] at h)
  · obtain ⟨n1, n2, n3, n4, n5⟩ := isNo_spec hs
    exact second _ rfl n1 n4 n5 (fun o ho => by simp [n3] at ho) (fun h => by simp [n2] at h)
  · exact both (looks_spec hs.1).1 (looks_spec hs.2).1 (.inl hs)
  · obtain ⟨⟨⟨s1, s2⟩, s3⟩, s4⟩ := hs
    obtain ⟨n1, n4, n5⟩ := looks_spec s2
    exact second _ rfl n1 n4 n5 (fun o ho => (spares_spec (ifp_whole s1) s4 o ho).symm) (fun h => by simp [s3] at h)
  · obtain ⟨⟨⟨s1, s2⟩, s3⟩, s4⟩ := hs
    obtain ⟨n1, n4, n5⟩ := looks_spec s2
    exact first _ rfl n1 n4 n5 (fun o ho => spares_spec (ifp_whole s1) s4 o ho) (fun h => by simp [s3] at h)
  · obtain ⟨⟨⟨⟨s1, s2⟩, s3⟩, s4⟩, s5⟩ := hs
    exact both (looks_spec s1).1 s2 (.inr (.inl ⟨s1, s3, by simpa using s4, s5⟩))
  · obtain ⟨⟨⟨⟨⟨⟨⟨⟨s1, s2⟩, s3⟩, s4⟩, s5⟩, s6⟩, s7⟩, s8⟩, s9⟩ := hs
    refine both s1 s2 (.inr (.inr ⟨s3, s4, ?_, s6, s7, s8, s9⟩))
    cases h1 : (ifp isPure A H H1 x).al with
    | none => exact .inl rfl
    | some a => cases h2 : (ifp isPure A1 H1 H2 y).al with
      | none => exact .inr rfl
      | some b => simp [h1, h2] at s5

end Go.AM
