/-
  Regions that draw their order: every order that the program may draw ends where the order of the text ends.
-/
import Derived.Test.YtnieokpcakhfpaaGreatAmEarly
namespace Go.AM

variable {P : Program} {nn : Nat} {call : CallF} {isPure : Nat → Bool}

/-! Runs along a list of places. -/
def RunF (call : CallF) (isPure : Nat → Bool) (is : List AIns) (φ : Nat → Fp) : List Nat → Tr → Heap → Tr → Heap → Prop
  | [], A, H, A', H' => A' = A ∧ H' = H
  | i :: l, A, H, A', H' => ∃ x A1 H1, is[i]? = some x ∧ stepIns call x A H = some (A1, H1) ∧ ifp isPure A H H1 x = φ i ∧ RunF call isPure is φ l A1 H1 A' H'

theorem runF_text {is : List AIns} {φ : Nat → Fp} : ∀ (rest : List AIns) (k : Nat), is.drop k = rest → ∀ {A A' : Tr} {H H' : Heap}, runIns call rest A H = some (A', H') →
    (∀ i, φ (k + i) = (fps isPure call rest A H).getD i .any) → RunF call isPure is φ (List.range' k rest.length) A H A' H'
  | [], k, _, A, A', H, H', hr, _ => by simp [runIns] at hr; exact ⟨hr.1.symm, hr.2.symm⟩
  | x :: rest, k, hd, A, A', H, H', hr, hφ => by
    simp only [runIns] at hr
    split at hr
    · simp at hr
    · rename_i A1 H1 h1
      have hk : is[k]? = some x := by
        have := congrArg (·[0]?) hd
        simpa using this
      have htl : is.drop (k + 1) = rest := by
        have := congrArg List.tail hd
        simpa [List.tail_drop] using this
      have hx := hφ 0
      simp only [fps, h1, Nat.add_zero, List.getD_cons_zero] at hx
      refine ⟨x, A1, H1, hk, h1, hx.symm, ?_⟩
      refine runF_text rest (k + 1) htl hr fun i => ?_
      have := hφ (i + 1)
      simp only [fps, h1, List.getD_cons_succ] at this
      rw [← this]; congr 1; omega

theorem to_front (hp : PureOk call isPure) {is : List AIns} {φ : Nat → Fp} {i : Nat} {l2 : List Nat} : ∀ (l1 : List Nat) {A A' : Tr} {H H' : Heap}, RunF call isPure is φ (l1 ++ i :: l2) A H A' H' →
    (∀ j ∈ l1, ∀ x y, is[j]? = some x → is[i]? = some y → indep x y = true ∧ Fp.swap (φ j) (φ i) = true) → RunF call isPure is φ (i :: (l1 ++ l2)) A H A' H'
  | [], A, A', H, H', hr, _ => hr
  | j :: l1, A, A', H, H', hr, h => by
    obtain ⟨x, A1, H1, hx, h1, h2, hr⟩ := hr
    obtain ⟨y, A2, H2, hy, h3, h4, hr⟩ := to_front hp l1 hr fun j hj => h j (List.mem_cons_of_mem _ hj)
    obtain ⟨g1, g2⟩ := h j List.mem_cons_self x y hx hy
    rw [← h2, ← h4] at g2
    obtain ⟨A3, H3, k1, k2, k3, k4⟩ := swap_ins hp g1 h1 h3 g2
    exact ⟨y, A3, H3, hy, k1, k2.trans h4, x, A2, H2, hx, k3, k4.trans h2, hr⟩

/-- Operations that never touch the heap. -/
def quietOp : AOp → Bool
  | .mv _ | .pick .. | .build .. | .nilchk _ | .bin .. | .eq .. | .un .. | .conv .. | .s2s _ | .mkfunc .. | .slice .. | .substr .. | .faddr .. | .fld .. | .iaddr .. | .idxs .. | .idxa .. | .ext .. | .mins _ | .maxs _ => true
  | .box imm _ => imm
  | .mkslice imm .. => imm
  | .s2b imm _ => imm
  | .len k _ => (match k with | .mp => false | _ => true)
  | _ => false
theorem quiet_ifq {x : AIns} (h : quietOp x.op = true) (A : Tr) (n : Nat) : ifq isPure A n x = .no := by
  unfold ifq
  split
  · cases hx : x.op <;> rw [hx] at h <;> simp only [quietOp, Bool.false_eq_true] at h <;> simp only [fp]
    all_goals first
      | rw [if_pos h]
      | (split at h <;> simp_all)
  · rfl
theorem quiet_ifp {x : AIns} (h : quietOp x.op = true) (A : Tr) (H K : Heap) : ifp isPure A H K x = .no := by
  have := quiet_ifq (isPure := isPure) h A H.next
  rw [ifp_of (by rw [this]; rfl), this]
theorem runF_quiet {is : List AIns} {φ : Nat → Fp} : ∀ (l : List Nat) {A A' : Tr} {H H' : Heap}, RunF call isPure is φ l A H A' H' → ∀ i ∈ l, ∃ x, is[i]? = some x ∧ (quietOp x.op = true → φ i = .no)
  | [], A, A', H, H', _, i, hi => by simp at hi
  | j :: l, A, A', H, H', hr, i, hi => by
    obtain ⟨x, A1, H1, hx, h1, h2, hr⟩ := hr
    rcases List.mem_cons.1 hi with rfl | hi
    · exact ⟨x, hx, fun hq => by rw [← h2]; exact quiet_ifp hq _ _ _⟩
    · exact runF_quiet l hr i hi

/-! Who stands before whom. -/
def edgeBits (acc : List Nat) : List Edge → Nat
  | [] => 0
  | e :: es => if Region.binds .any e then ((1 <<< e.on) ||| acc.getD e.on 0) ||| edgeBits acc es else edgeBits acc es
def ancs : List Oper → List Nat → List Nat
  | [], acc => acc
  | o :: os, acc => ancs os (acc ++ [edgeBits acc o.after.toList])

/-- Steps back along binding edges. -/
inductive Anc (ops : Array Oper) : Nat → Nat → Prop
  | one {i o e} : ops[i]? = some o → e ∈ o.after.toList → Region.binds .any e = true → Anc ops e.on i
  | more {i o e j} : ops[i]? = some o → e ∈ o.after.toList → Region.binds .any e = true → Anc ops j e.on → Anc ops j i

theorem edgeBits_spec {acc : List Nat} {j : Nat} : ∀ (es : List Edge), (edgeBits acc es).testBit j = true → ∃ e ∈ es, Region.binds .any e = true ∧ (e.on = j ∨ (acc.getD e.on 0).testBit j = true)
  | [], h => by simp [edgeBits] at h
  | e :: es, h => by
    simp only [edgeBits] at h
    split at h
    · rename_i hb
      simp only [Nat.testBit_or, Bool.or_eq_true] at h
      rcases h with (h | h) | h
      · rw [Nat.one_shiftLeft, Nat.testBit_two_pow] at h
        exact ⟨e, List.mem_cons_self, hb, .inl (by simpa using h)⟩
      · exact ⟨e, List.mem_cons_self, hb, .inr h⟩
      · obtain ⟨e', h1, h2, h3⟩ := edgeBits_spec es h
        exact ⟨e', List.mem_cons_of_mem _ h1, h2, h3⟩
    · obtain ⟨e', h1, h2, h3⟩ := edgeBits_spec es h
      exact ⟨e', List.mem_cons_of_mem _ h1, h2, h3⟩

theorem ancs_spec {ops : Array Oper} : ∀ (os : List Oper) (acc : List Nat), ops.toList.drop acc.length = os → (∀ i j, (acc.getD i 0).testBit j = true → Anc ops j i) → ∀ i j, ((ancs os acc).getD i 0).testBit j = true → Anc ops j i
  | [], acc, _, h => h
  | o :: os, acc, hd, h => by
    simp only [ancs]
    have hk : ops[acc.length]? = some o := by
      have := congrArg (·[0]?) hd
      simp only [List.getElem?_drop, Nat.add_zero, List.getElem?_cons_zero] at this
      simpa using this
    refine ancs_spec os _ ?_ ?_
    · have := congrArg List.tail hd
      simpa [List.tail_drop] using this
    · intro i j hij
      by_cases hi : i < acc.length
      · refine h i j ?_
        simpa [List.getD_eq_getElem?_getD, List.getElem?_append_left hi] using hij
      · by_cases he : i = acc.length
        · subst he
          have : (edgeBits acc o.after.toList).testBit j = true := by simpa [List.getD_eq_getElem?_getD] using hij
          obtain ⟨e, h1, h2, h3⟩ := edgeBits_spec _ this
          rcases h3 with rfl | h3
          · exact .one hk h1 h2
          · exact .more hk h1 h2 (h _ _ h3)
        · simp [List.getD_eq_getElem?_getD, List.getElem?_eq_none (show (acc ++ [edgeBits acc o.after.toList]).length ≤ i by simp; omega)] at hij

/-- A variable that may be made ahead of a call that the text has before it. -/
def earlyOf (pairs : List (Nat × Nat)) : Option (Nat × Nat) := pairs.find? fun p => Nat.blt p.2 p.1
def earlyFits (ops : Array Oper) (anc : List Nat) (is : List AIns) (i0 c : Nat) : Bool :=
  match is[i0]? with
  | some ⟨some d, none, .alloc _⟩ => decide (c < i0) && (List.range is.length).all fun k => k == i0 || (anc.getD k 0).testBit c || (!(anc.getD k 0).testBit i0 && (match ops[k]? with
    | some ok => !(ok.looksAt ops).contains d && !(ok.dst == some d)
    | none => false))
  | _ => false

/-- May `j`, which the text has before `i`, be drawn behind it? -/
def freeTo (anc : List Nat) (is : List AIns) (early : Option (Nat × Nat)) (pairs : List (Nat × Nat)) (j i : Nat) : Bool :=
  (anc.getD i 0).testBit j || decide (early = some (i, j)) || (match is[j]?, is[i]? with
    | some x, some y => indep x y && (quietOp x.op || quietOp y.op || pairs.contains (j, i))
    | _, _ => false)
def edgesBack : List Oper → Nat → Bool
  | [], _ => true
  | o :: os, k => o.after.toList.all (fun e => !Region.binds .any e || decide (e.on < k)) && edgesBack os (k + 1)
def okDraw (P : Program) (nn : Nat) (ops : Array Oper) (is : List AIns) (pairs : List (Nat × Nat)) : Bool :=
  okAll P nn ops is && edgesBack ops.toList 0 &&
    (let anc := ancs ops.toList []
     let early := earlyOf pairs
     (match early with
      | some (i0, c) => earlyFits ops anc is i0 c
      | none => true) && (List.range is.length).all fun i => (List.range i).all fun j => freeTo anc is early pairs j i)

theorem edgesBack_spec {ops : Array Oper} : ∀ (os : List Oper) (k : Nat), ops.toList.drop k = os → edgesBack os k = true → ∀ i o e, k ≤ i → ops[i]? = some o → e ∈ o.after.toList → Region.binds .any e = true → e.on < i
  | [], k, hd, _, i, o, e, hi, ho, _, _ => by
    have : ops.size ≤ k := by simpa using hd
    have := (Array.getElem?_eq_some_iff.1 ho).1
    omega
  | o' :: os, k, hd, h, i, o, e, hi, ho, he, hb => by
    simp only [edgesBack, Bool.and_eq_true, List.all_eq_true] at h
    have hk : ops[k]? = some o' := by
      have := congrArg (·[0]?) hd
      simp only [List.getElem?_drop, Nat.add_zero, List.getElem?_cons_zero] at this
      simpa using this
    by_cases hik : i = k
    · subst hik
      rw [hk] at ho
      simp at ho
      subst ho
      have := h.1 e he
      simpa [hb] using this
    · refine edgesBack_spec os (k + 1) ?_ h.2 i o e (by omega) ho he hb
      have := congrArg List.tail hd
      simpa [List.tail_drop] using this

theorem anc_listed {ops : Array Oper} {listed : Nat → Prop} (hcl : ∀ i o, listed i → ops[i]? = some o → ∀ e ∈ o.after.toList, Region.binds .any e = true → listed e.on) {j i : Nat} (h : Anc ops j i) :
    (∀ o, ops[i]? = some o → ∀ e ∈ o.after.toList, Region.binds .any e = true → listed e.on) → listed j := by
  induction h with
  | one h1 h2 h3 => exact fun h => h _ h1 _ h2 h3
  | more h1 h2 h3 _ ih => exact fun h => ih (fun o ho => hcl _ o (h _ h1 _ h2 h3) ho)

def unlisted (n : Nat) (listed : Array Bool) : List Nat := (List.range n).filter fun i => !listed.getD i true

theorem mem_unlisted {n : Nat} {listed : Array Bool} {i : Nat} : i ∈ unlisted n listed ↔ i < n ∧ listed.getD i true = false := by
  simp [unlisted]

theorem unlisted_set {n : Nat} {listed : Array Bool} (hs : listed.size = n) {i : Nat} {l1 l2 : List Nat} (h : unlisted n listed = l1 ++ i :: l2) :
    unlisted n (listed.setIfInBounds i true) = l1 ++ l2 := by
  have hi : i < n := (mem_unlisted.1 (show i ∈ unlisted n listed by rw [h]; simp)).1
  have h1 : unlisted n (listed.setIfInBounds i true) = (unlisted n listed).filter (fun k => !(k == i)) := by
    unfold unlisted
    rw [List.filter_filter]
    refine List.filter_congr fun k hk => ?_
    have hk : k < n := by simpa using hk
    simp only [Array.getD_eq_getD_getElem?, Array.getElem?_setIfInBounds]
    by_cases e : k = i
    · subst e; simp [hs, hk]
    · have e' : i ≠ k := fun h => e h.symm
      simp [e, e']
  have hnd : (l1 ++ i :: l2).Nodup := by rw [← h]; exact List.Pairwise.filter _ List.nodup_range
  have hn : i ∉ l1 ∧ i ∉ l2 := by
    rw [List.nodup_append] at hnd
    obtain ⟨_, h2, h3⟩ := hnd
    exact ⟨fun h4 => h3 i h4 i List.mem_cons_self rfl, (List.nodup_cons.1 h2).1⟩
  have keep : ∀ l : List Nat, i ∉ l → l.filter (fun k => !(k == i)) = l := fun l hl => List.filter_eq_self.2 fun k hk => by
    simp; intro e; subst e; exact hl hk
  rw [h1, h, List.filter_append, List.filter_cons, keep l1 hn.1, keep l2 hn.2]
  simp

theorem Stp.drew {μ : Mu} {H : Heap} {w : World} (h : WR μ H w) (n : Nat) : Stp μ H w μ H { w with drawn := n } where
  wr := ⟨h.len, h.imm, h.bor, h.immOwn, h.borOwn, fun o cs st hg => let ⟨b, base, n, h1, h2⟩ := h.cells o cs st hg; ⟨b, base, n, h1, ⟨h2.ex⟩⟩, fun o es hg => let ⟨r, h1, h2⟩ := h.maps o es hg; ⟨r, h1, ⟨h2.ex⟩⟩, h.apart, h.newLoc, h.newMap, h.newSt⟩
  ext := .refl _ _
  keeps := ⟨Nat.le_refl _, fun _ _ _ => rfl, rfl, rfl, rfl⟩
  own := fun _ h _ => h

/-- What the check of a drawn region yields. -/
structure DrawOk (P : Program) (nn : Nat) (ops : Array Oper) (is : List AIns) (pairs : List (Nat × Nat)) : Prop where
  len : ops.size = is.length
  ins : ∀ (i : Nat) (o : Oper) (x : AIns), ops[i]? = some o → is[i]? = some x → okIns P nn ops o x = true
  back : ∀ (i : Nat) (o : Oper) (e : Edge), ops[i]? = some o → e ∈ o.after.toList → Region.binds .any e = true → e.on < i
  anc : ∀ i j, ((ancs ops.toList []).getD i 0).testBit j = true → Anc ops j i
  early : ∀ i0 c, earlyOf pairs = some (i0, c) → earlyFits ops (ancs ops.toList []) is i0 c = true
  free : ∀ i j, i < is.length → j < i → freeTo (ancs ops.toList []) is (earlyOf pairs) pairs j i = true

theorem okDraw_spec {ops : Array Oper} {is : List AIns} {pairs : List (Nat × Nat)} (hok : okDraw P nn ops is pairs = true) : DrawOk P nn ops is pairs := by
  simp only [okDraw, Bool.and_eq_true] at hok
  obtain ⟨⟨hok, hback⟩, hearly, hfree⟩ := hok
  obtain ⟨hlen, hget⟩ := all2_get hok
  refine ⟨by simpa using hlen, fun i o x ho hx => hget i o x (by simpa using ho) hx, fun i o e ho => edgesBack_spec ops.toList 0 rfl hback i o e (Nat.zero_le _) ho,
    ancs_spec (ops := ops) ops.toList [] rfl (fun i j h => by simp at h), fun i0 c he => ?_, fun i j hi hj => ?_⟩
  · rw [he] at hearly; exact hearly
  · exact List.all_eq_true.1 (List.all_eq_true.1 hfree i (List.mem_range.2 hi)) j (List.mem_range.2 hj)

def Closed (ops : Array Oper) (listed : Array Bool) : Prop :=
  ∀ i o, listed.getD i true = true → ops[i]? = some o → ∀ e ∈ o.after.toList, Region.binds .any e = true → listed.getD e.on true = true

section
variable {ops : Array Oper} {is : List AIns} {pairs : List (Nat × Nat)} {listed : Array Bool}

theorem ready_mem (hD : DrawOk P nn ops is pairs) (listed : Array Bool) (i : Nat) : i ∈ Region.ready .any ops listed ↔ i < is.length ∧ listed.getD i true = false ∧ ∃ o, ops[i]? = some o ∧ ∀ e ∈ o.after.toList, Region.binds .any e = true → listed.getD e.on false = true := by
  have hlen := hD.len
  simp only [Region.ready, List.mem_filter, List.mem_range, hlen, Bool.and_eq_true, Bool.not_eq_true']
  refine and_congr_right fun hi => and_congr_right fun _ => ?_
  have ho : ops[i]? = some (ops[i]'(by omega)) := Array.getElem?_eq_getElem _
  rw [ho]
  simp only [Option.map_some, Option.getD_some, Array.all_eq_true, Option.some.injEq, exists_eq_left']
  constructor
  · intro h e he hb
    obtain ⟨k, hk, rfl⟩ := List.getElem_of_mem he
    have := h k (by simpa using hk)
    have hb' : Region.binds .any (ops[i]'(by omega)).after[k] = true := by simpa using hb
    simpa [hb'] using this
  · intro h k hk
    have := h _ (List.getElem_mem (l := (ops[i]'(by omega)).after.toList) (n := k) (by simpa using hk))
    cases hb : Region.binds .any (ops[i]'(by omega)).after[k] with
    | false => rfl
    | true => simpa [hb] using this (by simpa using hb)

/-- Where nothing is ready, all has been listed. -/
theorem ready_done (hD : DrawOk P nn ops is pairs) (hs : listed.size = is.length) (hr : Region.ready .any ops listed = []) : unlisted is.length listed = [] := by
  have hlen := hD.len
  by_cases hne : unlisted is.length listed = []
  · exact hne
  · exfalso
    have key : ∀ (n i : Nat), i ≤ n → i < is.length → listed.getD i true = true := by
      intro n
      induction n with
      | zero =>
        intro i hi hl
        cases hg : listed.getD i true with
        | true => rfl
        | false =>
          exfalso
          have : i ∈ Region.ready .any ops listed := (ready_mem hD _ _).2 ⟨hl, hg, _, Array.getElem?_eq_getElem (by omega), fun e he hb => by
            have := hD.back i _ e (Array.getElem?_eq_getElem (by omega)) he hb
            omega⟩
          simp [hr] at this
      | succ n ih =>
        intro i hi hl
        cases hg : listed.getD i true with
        | true => rfl
        | false =>
          exfalso
          have : i ∈ Region.ready .any ops listed := (ready_mem hD _ _).2 ⟨hl, hg, _, Array.getElem?_eq_getElem (by omega), fun e he hb => by
            have h1 := hD.back i _ e (Array.getElem?_eq_getElem (by omega)) he hb
            have h2 := ih e.on (by omega) (by omega)
            rw [Array.getD_eq_getD_getElem?, Array.getElem?_eq_getElem (by omega : e.on < listed.size)] at h2 ⊢
            exact h2⟩
          simp [hr] at this
    obtain ⟨i, hi⟩ := List.exists_mem_of_ne_nil _ hne
    obtain ⟨h1, h2⟩ := mem_unlisted.1 hi
    have := key i i (Nat.le_refl _) h1
    rw [h2] at this; simp at this

theorem closed_set (hD : DrawOk P nn ops is pairs) (hs : listed.size = is.length) (hcl : Closed ops listed) {i : Nat} (hi : i ∈ Region.ready .any ops listed) : Closed ops (listed.setIfInBounds i true) := by
  have hlen := hD.len
  obtain ⟨h1, h2, o, ho, h3⟩ := (ready_mem hD listed i).1 hi
  intro k ok hk hok' e he hb
  simp only [Array.getD_eq_getD_getElem?, Array.getElem?_setIfInBounds] at hk ⊢
  by_cases e1 : i = e.on
  · rw [if_pos e1]; split <;> rfl
  · rw [if_neg e1]
    by_cases e2 : i = k
    · subst e2
      rw [ho] at hok'; simp at hok'; subst hok'
      have := h3 e he hb
      have hlt2 := hD.back i o e ho he hb
      rw [Array.getD_eq_getD_getElem?, Array.getElem?_eq_getElem (by omega : e.on < listed.size)] at this
      rw [Array.getElem?_eq_getElem (by omega : e.on < listed.size)]
      exact this
    · rw [if_neg e2] at hk
      have := hcl k ok (by rw [Array.getD_eq_getD_getElem?]; exact hk) hok' e he hb
      rw [Array.getD_eq_getD_getElem?] at this
      exact this

/-- What stands before an operation that is ready has been listed. -/
theorem ready_anc (hD : DrawOk P nn ops is pairs) (hs : listed.size = is.length) (hcl : Closed ops listed) {i j : Nat} (hi : i ∈ Region.ready .any ops listed) (h : ((ancs ops.toList []).getD i 0).testBit j = true) : listed.getD j true = true := by
  have hlen := hD.len
  obtain ⟨h1, h2, o, ho, h3⟩ := (ready_mem hD listed i).1 hi
  refine anc_listed (listed := fun i => listed.getD i true = true) hcl (hD.anc i j h) (fun o' ho' e he hb => ?_)
  rw [ho] at ho'; simp at ho'; subst ho'
  have := h3 e he hb
  have hlt2 := hD.back i o e ho he hb
  rw [Array.getD_eq_getD_getElem?, Array.getElem?_eq_getElem (by omega : e.on < listed.size)] at this ⊢
  exact this
theorem listed_anc (hD : DrawOk P nn ops is pairs) (hcl : Closed ops listed) {i j : Nat} (hi : listed.getD i true = true) (h : ((ancs ops.toList []).getD i 0).testBit j = true) : listed.getD j true = true :=
  anc_listed (listed := fun i => listed.getD i true = true) hcl (hD.anc i j h) (fun o' ho' e he hb => hcl i o' hi ho' e he hb)

theorem free_swap (hD : DrawOk P nn ops is pairs) {φ : Nat → Fp} (hpairs : ∀ i j, (i, j) ∈ pairs → i < j → Fp.swap (φ i) (φ j) = true) {i j : Nat} (hi : i < is.length) (hj : j < i) {x y : AIns} (hx : is[j]? = some x) (hy : is[i]? = some y)
    (hna : ((ancs ops.toList []).getD i 0).testBit j ≠ true) (hne : earlyOf pairs ≠ some (i, j)) (hqx : quietOp x.op = true → φ j = .no) (hqy : quietOp y.op = true → φ i = .no) : indep x y = true ∧ Fp.swap (φ j) (φ i) = true := by
  have hfr := hD.free i j hi hj
  simp only [freeTo, Bool.or_eq_true, hx, hy, Bool.and_eq_true, decide_eq_true_eq] at hfr
  rcases hfr with (hfr | hfr) | ⟨hfr, hfr2⟩
  · exact absurd hfr hna
  · exact absurd hfr hne
  · refine ⟨hfr, ?_⟩
    rcases hfr2 with (hfr2 | hfr2) | hfr2
    · rw [hqx hfr2]; simp [Fp.swap, Fp.no, Fp.isNo]
    · rw [hqy hfr2]; simp [Fp.swap, Fp.no, Fp.isNo]
    · exact hpairs j i (by simpa using hfr2) hj

theorem unlisted_sorted (n : Nat) (listed : Array Bool) : (unlisted n listed).Pairwise (· < ·) := List.Pairwise.filter _ List.pairwise_lt_range
theorem early_lt {i0 c : Nat} (h : earlyOf pairs = some (i0, c)) : c < i0 := by
  have := List.find?_some h
  simpa [Nat.blt_eq] using this

end

theorem getD_setI {l : Array Bool} {i : Nat} (b : Bool) (hi : i < l.size) (j : Nat) (d : Bool) : (l.setIfInBounds i b).getD j d = if j = i then b else l.getD j d := by
  simp only [Array.getD_eq_getD_getElem?, Array.getElem?_setIfInBounds]
  by_cases h : i = j
  · subst h; simp [hi]
  · rw [if_neg h, if_neg (Ne.symm h)]

theorem unlisted_congr {n : Nat} {l m : Array Bool} (h : ∀ i, i < n → l.getD i true = m.getD i true) : unlisted n l = unlisted n m := by
  unfold unlisted
  refine List.filter_congr fun k hk => ?_
  rw [h k (by simpa using hk)]

theorem any_wp (hcall : CallSound P call) (hp : PureOk call isPure) {ops : Array Oper} {is : List AIns} {pairs : List (Nat × Nat)} (hD : DrawOk P nn ops is pairs) {φ : Nat → Fp} (hpairs : ∀ i j, (i, j) ∈ pairs → i < j → Fp.swap (φ i) (φ j) = true)
    {Q : Exit → Act → World → Prop} {A' : Tr} {H' : Heap} : ∀ (fuel : Nat),
    (∀ (listed : Array Bool) {A : Tr} {a : Act} {μ : Mu} {H : Heap} {w : World}, listed.size = is.length → Closed ops listed → (unlisted is.length listed).length ≤ fuel →
      RunF call isPure is φ (unlisted is.length listed) A H A' H' → SR nn μ A a → WR μ H w → (∀ μ' a' w', Stp μ H w μ' H' w' → SR nn μ' A' a' → Q .normal a' w') →
      wpAny P .any ops Q fuel listed a w) ∧
    (∀ (i0 c d : Nat) (zero : List AV), earlyOf pairs = some (i0, c) → is[i0]? = some ⟨some d, none, .alloc zero⟩ →
      ∀ (listed : Array Bool) {A : Tr} {a : Act} {μ μs : Mu} {H Hs : Heap} {w ws : World} {b n : Nat}, listed.size = is.length → Closed ops listed → listed.getD i0 true = true → listed.getD c true = false →
      (unlisted is.length (listed.setIfInBounds i0 false)).length ≤ fuel + 1 → RunF call isPure is φ (unlisted is.length (listed.setIfInBounds i0 false)) A H A' H' → SR nn μ A a → Stp μs Hs ws μ H w →
      ws.heap.size ≤ b → CellsAt μ w zero b 0 n → ¬ Own μ H b → (∀ i v, μ.imm b i ≠ some v) → (∀ i v, μ.bor b i ≠ some v) → (∀ μ' a' w', Stp μs Hs ws μ' H' w' → SR nn μ' A' a' → Q .normal a' w') →
      wpAny P .any ops Q fuel listed (a.put (some d) (.pointer (some ⟨b, 0, none⟩))) w) := by
  have hlen := hD.len
  -- moving one to the front
  have front : ∀ {L l1 l2 : List Nat} {i : Nat} {A : Tr} {H : Heap}, L = l1 ++ i :: l2 → L.Pairwise (· < ·) → (∀ m ∈ L, m < is.length) → RunF call isPure is φ L A H A' H' →
      (∀ j ∈ l1, ((ancs ops.toList []).getD i 0).testBit j ≠ true ∧ earlyOf pairs ≠ some (i, j)) → RunF call isPure is φ (i :: (l1 ++ l2)) A H A' H' := by
    intro L l1 l2 i A H hL hsorted hlt hr h
    have hq := runF_quiet _ hr
    subst hL
    refine to_front hp l1 hr fun j hj x y hx hy => ?_
    have hji : j < i := (List.pairwise_append.1 hsorted).2.2 j hj i List.mem_cons_self
    refine free_swap hD hpairs (hlt i (by simp)) hji hx hy (h j hj).1 (h j hj).2 (fun hq1 => ?_) (fun hq1 => ?_)
    · obtain ⟨x', hx', hq'⟩ := hq j (by simp [hj])
      rw [hx] at hx'; simp at hx'; subst hx'; exact hq' hq1
    · obtain ⟨y', hy', hq'⟩ := hq i (by simp)
      rw [hy] at hy'; simp at hy'; subst hy'; exact hq' hq1
  intro fuel
  induction fuel with
  | zero =>
    constructor
    · intro listed A a μ H w hs hcl hf hr hsr hw hQ
      have he : unlisted is.length listed = [] := List.length_eq_zero_iff.1 (by omega)
      rw [he] at hr
      obtain ⟨rfl, rfl⟩ := hr
      refine ⟨?_, hQ μ a w (Stp.refl hw) hsr⟩
      cases hre : Region.ready .any ops listed with
      | nil => rfl
      | cons i l =>
        exfalso
        have h1 := (ready_mem hD listed i).1 (by rw [hre]; exact List.mem_cons_self)
        have : i ∈ unlisted is.length listed := mem_unlisted.2 ⟨h1.1, h1.2.1⟩
        simp [he] at this
    · intro i0 c d zero hE hi0 listed A a μ μs H Hs w ws b n hs hcl hl0 hlc hf hr
      exfalso
      have hlt := early_lt hE
      have hi0lt : i0 < is.length := (List.getElem?_eq_some_iff.1 hi0).1
      have hsorted := unlisted_sorted is.length (listed.setIfInBounds i0 false)
      have m0 : i0 ∈ unlisted is.length (listed.setIfInBounds i0 false) := mem_unlisted.2 ⟨hi0lt, by rw [getD_setI _ (by omega), if_pos rfl]⟩
      have m1 : c ∈ unlisted is.length (listed.setIfInBounds i0 false) := mem_unlisted.2 ⟨by omega, by rw [getD_setI _ (by omega), if_neg (by omega)]; exact hlc⟩
      match hl : unlisted is.length (listed.setIfInBounds i0 false), hf with
      | [], _ => rw [hl] at m0; simp at m0
      | [x], _ => rw [hl] at m0 m1; simp at m0 m1; omega
      | x :: y :: l, hf => simp at hf
  | succ fuel ih =>
    obtain ⟨ih, ihp⟩ := ih
    constructor
    · intro listed A a μ H w hs hcl hf hr hsr hw hQ
      refine ⟨fun hre => ?_, fun i hi => ?_⟩
      · rw [ready_done hD hs hre] at hr
        obtain ⟨rfl, rfl⟩ := hr
        exact hQ μ a w (Stp.refl hw) hsr
      · obtain ⟨h1, h2, o, ho, h3⟩ := (ready_mem hD listed i).1 hi
        have hil : i < listed.size := by omega
        obtain ⟨l1, l2, hl⟩ := List.append_of_mem (mem_unlisted.2 ⟨h1, h2⟩)
        have hset := unlisted_set hs hl
        by_cases hE : ∃ c, earlyOf pairs = some (i, c) ∧ listed.getD c true = false
        · -- the new variable comes ahead of the call
          obtain ⟨c, hE, hlc⟩ := hE
          have hci := early_lt hE
          have hfit := hD.early _ _ hE
          unfold earlyFits at hfit
          split at hfit
          case h_2 => simp at hfit
          rename_i d zero hx
          have hokx := hD.ins i o _ ho hx
          have hokx' := hokx
          simp only [okIns, Bool.and_eq_true] at hokx'
          obtain ⟨⟨⟨hd, hdn⟩, hg⟩, hop⟩ := hokx'
          simp at hd
          obtain ⟨arr, el, hrun, hz⟩ := alloc_raw hop a w
          unfold wpOp
          simp only [ho]
          rw [wanted_sound hokx hsr (b := true) (by simp [wanted])]
          simp only [if_true]
          refine .inl ?_
          unfold Oper.wp
          rw [hrun, Oper.upon_value, hd]
          have hst := stp_aside hw (.cells arr el)
          have hcell : ∀ i v, μ.imm w.heap.size i ≠ some v := fun i v h => by have := cell_lt (hw.imm _ _ _ h); simp at this
          have hcelb : ∀ i v, μ.bor w.heap.size i ≠ some v := fun i v h => by have := cell_lt (hw.bor _ _ _ h); simp at this
          have hno : ¬ Own μ H w.heap.size := fun ⟨o, ho⟩ => by have := blk_lt hw ho; omega
          have hun : unlisted is.length ((listed.setIfInBounds i true).setIfInBounds i false) = unlisted is.length listed := unlisted_congr fun k _ => by
            rw [getD_setI _ (by simpa using hil), getD_setI _ hil]
            by_cases e : k = i
            · subst e; simp [h2]
            · simp [e]
          refine ihp i c d zero hE hx (listed.setIfInBounds i true) (n := arr.size) (by simpa using hs) (closed_set hD hs hcl hi) (by rw [getD_setI _ hil, if_pos rfl]) (by rw [getD_setI _ hil, if_neg (by omega)]; exact hlc)
            (by rw [hun]; exact hf) (by rw [hun]; exact hr) hsr hst (Nat.le_refl _) ⟨arr, el, (0, 0), wpush_get _ _, rfl, by have := (hz μ).length; simp at this; omega, by intro i _ h; simp at h, fun j v hj => ?_⟩ hno hcell hcelb hQ
          obtain ⟨u, g1, g2⟩ := (hz μ).get j v hj
          exact ⟨u, by simpa using g1, g2⟩
        · have hr2 := front hl (unlisted_sorted _ _) (fun m hm => (mem_unlisted.1 hm).1) hr (fun j hj => by
            have hjl : j ∈ unlisted is.length listed := by rw [hl]; exact List.mem_append_left _ hj
            obtain ⟨hj1, hj2⟩ := mem_unlisted.1 hjl
            refine ⟨fun ha => ?_, fun he => hE ⟨j, he, hj2⟩⟩
            have := ready_anc hD hs hcl hi ha
            rw [hj2] at this; simp at this)
          obtain ⟨x, A1, H1, hx, hst, _, hr3⟩ := hr2
          refine ins_wp hcall ho (hD.ins i o x ho hx) hsr hw hst fun μ' a' w' g1 g2 => ?_
          exact ih _ (by simpa using hs) (closed_set hD hs hcl hi) (by rw [hset]; rw [hl] at hf; simp at hf ⊢; omega) (by rw [hset]; exact hr3) g2 g1.wr (fun μ'' a'' w'' g3 g4 => hQ μ'' a'' w'' (g1.trans g3) g4)
    · intro i0 c d zero hE hi0 listed A a μ μs H Hs w ws b n hs hcl hl0 hlc hf hr hsr hst hb hc hno him hbo hQ
      have hlt := early_lt hE
      have hi0lt : i0 < is.length := (List.getElem?_eq_some_iff.1 hi0).1
      have hi0s : i0 < listed.size := by omega
      have hfit := hD.early _ _ hE
      unfold earlyFits at hfit
      rw [hi0] at hfit
      simp only [Bool.and_eq_true, List.all_eq_true, List.mem_range] at hfit
      have hfit := hfit.2
      refine ⟨fun hre => ?_, fun i hi => ?_⟩
      · exfalso
        have := ready_done hD hs hre
        have m1 : c ∈ unlisted is.length listed := mem_unlisted.2 ⟨by omega, hlc⟩
        simp [this] at m1
      · obtain ⟨h1, h2, o, ho, h3⟩ := (ready_mem hD listed i).1 hi
        have hil : i < listed.size := by omega
        have hne : i ≠ i0 := fun e => by subst e; rw [hl0] at h2; simp at h2
        have hmem : i ∈ unlisted is.length (listed.setIfInBounds i0 false) := mem_unlisted.2 ⟨h1, by rw [getD_setI _ hi0s, if_neg hne]; exact h2⟩
        obtain ⟨l1, l2, hl⟩ := List.append_of_mem hmem
        have hset := unlisted_set (by simpa using hs) hl
        have hcomm : (listed.setIfInBounds i0 false).setIfInBounds i true = (listed.setIfInBounds i true).setIfInBounds i0 false := Array.setIfInBounds_comm _ _ (Ne.symm hne)
        have hnc : ((ancs ops.toList []).getD i 0).testBit c ≠ true := fun ha => by
          have := ready_anc hD hs hcl hi ha
          rw [hlc] at this; simp at this
        have hfi := hfit i h1
        rw [ho] at hfi
        have hfk : ((ancs ops.toList []).getD i 0).testBit i0 = false ∧ d ∉ o.looksAt ops ∧ o.dst ≠ some d := by
          simp only [Bool.or_eq_true, Bool.and_eq_true, Bool.not_eq_true'] at hfi
          rcases hfi with (hfi | hfi) | ⟨hfi, hfj, hfk⟩
          · exact absurd (by simpa using hfi) hne
          · exact absurd hfi hnc
          · exact ⟨hfi, by simpa using hfj, by simpa using hfk⟩
        obtain ⟨hni0, hnd, hnd2⟩ := hfk
        have hr2 := front hl (unlisted_sorted _ _) (fun m hm => (mem_unlisted.1 hm).1) hr (fun j hj => by
          have hjl : j ∈ unlisted is.length (listed.setIfInBounds i0 false) := by rw [hl]; exact List.mem_append_left _ hj
          obtain ⟨hj1, hj2⟩ := mem_unlisted.1 hjl
          refine ⟨fun ha => ?_, fun he => ?_⟩
          · by_cases e : j = i0
            · subst e; rw [hni0] at ha; simp at ha
            · rw [getD_setI _ hi0s, if_neg e] at hj2
              have := ready_anc hD hs hcl hi ha
              rw [hj2] at this; simp at this
          · rw [hE] at he; simp at he; exact hne he.1.symm)
        obtain ⟨x, A1, H1, hx, hstep, _, hr3⟩ := hr2
        have hokx := hD.ins i o x ho hx
        have hsel := okOp_select (by simp only [okIns, Bool.and_eq_true] at hokx; exact hokx.2)
        refine wpOp_unput ho hnd hnd2 hsel ?_
        refine ins_wp hcall ho hokx hsr hst.wr hstep fun μ' a' w' g1 g2 => ?_
        -- the block is still nobody's
        have hbw : b < w.heap.size := by
          obtain ⟨arr, el, fr, q, _⟩ := hc.ex
          exact (Array.getElem?_eq_some_iff.1 q).1
        have hc' : CellsAt μ' w' zero b 0 n := hc.keep (g1.keeps.same b hbw hno) (fun _ _ h => h.ext g1.ext)
        have hno' : ¬ Own μ' H1 b := fun h => hno (g1.own b h hbw)
        have him' : ∀ i v, μ'.imm b i ≠ some v := fun i v h => by
          rcases g1.ext.fresh b i v h with h | h
          · exact him i v h
          · omega
        have hbo' : ∀ i v, μ'.bor b i ≠ some v := fun i v h => by rw [g1.ext.bor] at h; exact hbo i v h
        have hst' := hst.trans g1
        by_cases hic : i = c
        · -- the call has run: the variable is taken over
          subst hic
          have hl1 : unlisted is.length ((listed.setIfInBounds i0 false).setIfInBounds i true) = l1 ++ l2 := hset
          have m0 : i0 ∈ unlisted is.length ((listed.setIfInBounds i0 false).setIfInBounds i true) := mem_unlisted.2 ⟨hi0lt, by
            rw [getD_setI _ (by simpa using hil), if_neg (Ne.symm hne), getD_setI _ hi0s, if_pos rfl]⟩
          obtain ⟨m1, m2, hm⟩ := List.append_of_mem m0
          have hset2 := unlisted_set (by simpa using hs) hm
          have hcl2 := closed_set hD hs hcl hi
          rw [hl1] at hm
          have hr4 := front hm (by rw [← hl1]; exact unlisted_sorted _ _) (fun m hm => by rw [← hl1] at hm; exact (mem_unlisted.1 hm).1) hr3 (fun j hj => by
            have hjl : j ∈ unlisted is.length ((listed.setIfInBounds i0 false).setIfInBounds i true) := by rw [hl1, hm]; exact List.mem_append_left _ hj
            obtain ⟨hj1, hj2⟩ := mem_unlisted.1 hjl
            have hsort : (m1 ++ i0 :: m2).Pairwise (· < ·) := by rw [← hm, ← hl1]; exact unlisted_sorted _ _
            have hjlt : j < i0 := (List.pairwise_append.1 hsort).2.2 j hj i0 List.mem_cons_self
            have hji : j ≠ i := fun e => by
              subst e
              rw [getD_setI _ (by simpa using hil), if_pos rfl] at hj2; simp at hj2
            refine ⟨fun ha => ?_, fun he => ?_⟩
            · have := listed_anc hD hcl2 (i := i0) (by rw [getD_setI _ hil, if_neg (Ne.symm hne)]; exact hl0) ha
              rw [getD_setI _ hil, if_neg hji] at this
              rw [getD_setI _ (by simpa using hil), if_neg hji, getD_setI _ hi0s, if_neg (by omega)] at hj2
              rw [hj2] at this; simp at this
            · rw [hE] at he; simp at he; exact hji he.symm)
          obtain ⟨x0, A2, H2, hx0, hstep0, _, hr5⟩ := hr4
          rw [hi0] at hx0; simp at hx0; subst hx0
          simp only [stepIns, wanted, stepOp, s_alloc, put, Option.some.injEq, Prod.mk.injEq] at hstep0
          obtain ⟨rfl, rfl⟩ := hstep0
          have hwr := wr_adopt g1.wr b n zero hno' him' hbo' hc'
          have hl0' : μ'.loc H1.next 0 = none := g1.wr.newLoc _ _ (Nat.le_refl _)
          have hext : Ext ws.heap.size μ' (μ'.at H1.next 0 (b, 0, n)) := Mu.at_ext _ (.inl hl0')
          have hd0 : d < nn := by
            have hi0o : ops[i0]? = some (ops[i0]'(by omega)) := Array.getElem?_eq_getElem _
            have := hD.ins i0 _ _ hi0o hi0
            simp only [okIns, Bool.and_eq_true, decide_eq_true_eq] at this
            exact this.1.1.2
          have hsr' := put_sound (g2.ext hext) (some d) (fun i h => by simp at h; subst h; exact hd0) (r := .ptr H1.next 0 0) (v := .pointer (some ⟨b, 0, none⟩)) (by
            simp only [VR]; exact ⟨b, 0, n, by simp [Mu.at], rfl⟩)
          have hstF : Stp μs Hs ws (μ'.at H1.next 0 (b, 0, n)) (H1.push (.cells zero 0)) w' := by
            refine ⟨hwr, hst'.ext.trans hext (Nat.le_refl _), hst'.keeps, fun b' hb' hlt' => ?_⟩
            rcases own_adopt hb' with e | e
            · omega
            · exact hst'.own b' e hlt'
          have hfin : unlisted is.length (listed.setIfInBounds i true) = m1 ++ m2 := by
            rw [← hset2]
            refine unlisted_congr fun k _ => ?_
            rw [getD_setI _ hil, getD_setI _ (by simpa using hi0s), getD_setI _ (by simpa using hil), getD_setI _ hi0s]
            by_cases e : k = i0
            · subst e; simp [Ne.symm hne, hl0]
            · simp [e]
          have hlen2 : (m1 ++ m2).length + 2 = (unlisted is.length (listed.setIfInBounds i0 false)).length := by
            rw [hl]
            have := congrArg List.length hm
            simp at this ⊢
            omega
          refine ih _ (by simpa using hs) hcl2 (by rw [hfin]; omega) (by rw [hfin]; exact hr5) hsr' hwr (fun μ'' a'' w'' g3 g4 => hQ μ'' a'' w'' (hstF.trans g3) g4)
        · refine ihp i0 c d zero hE hi0 (listed.setIfInBounds i true) (by simpa using hs) (closed_set hD hs hcl hi) (by rw [getD_setI _ hil, if_neg (Ne.symm hne)]; exact hl0) (by rw [getD_setI _ hil, if_neg (fun e => hic e.symm)]; exact hlc)
            (by rw [← hcomm, hset]; rw [hl] at hf; simp at hf ⊢; omega) (by rw [← hcomm, hset]; exact hr3) g2 hst' hb hc' hno' him' hbo' hQ

theorem draw_wp (hcall : CallSound P call) (hp : PureOk call isPure) (hm : P.follows .mixedOrders = true) {ops : Array Oper} {is : List AIns} {pairs : List (Nat × Nat)} (hok : okDraw P nn ops is pairs = true) {Q : Exit → Act → World → Prop} {A A' : Tr} {a : Act} {μ : Mu} {H H' : Heap} {w : World}
    (hs : SR nn μ A a) (hw : WR μ H w) (hr : runIns call is A H = some (A', H')) (hpairs : pairsOk (fps isPure call is A H) pairs = true) (hQ : ∀ μ' a' w', Stp μ H w μ' H' w' → SR nn μ' A' a' → Q .normal a' w') (id : Nat) : (Code.region id ops true).wp P Q a w := by
  refine wp_region_any hm ?_
  have hD := okDraw_spec hok
  have hlen := hD.len
  have hun : unlisted is.length (Array.replicate ops.size false) = List.range' 0 is.length := by
    unfold unlisted
    rw [List.filter_eq_self.2, List.range_eq_range']
    intro i hi
    have : i < is.length := by simpa using hi
    simp [Array.getD_eq_getD_getElem?, Array.getElem?_replicate, hlen, this]
  have hd := Stp.drew hw (w.drawn + 1)
  refine (any_wp hcall hp hD (φ := fun i => (fps isPure call is A H).getD i .any) (fun i j hij hlt => ?_) ops.size).1 _ (by simp [hlen]) ?_ (by rw [hun]; simp [hlen]) (by rw [hun]; exact runF_text is 0 rfl hr (fun i => by simp)) hs hd.wr (fun μ' a' w' g1 g2 => hQ μ' a' w' (hd.trans g1) g2)
  · simp only [pairsOk, List.all_eq_true] at hpairs
    have := hpairs (i, j) hij
    simp only [Bool.or_eq_true, Nat.blt_eq] at this
    exact this.resolve_left (by omega)
  · intro i o hi ho e he hb
    have := (Array.getElem?_eq_some_iff.1 ho).1
    simp [Array.getD_eq_getD_getElem?, Array.getElem?_replicate, this] at hi

end Go.AM
