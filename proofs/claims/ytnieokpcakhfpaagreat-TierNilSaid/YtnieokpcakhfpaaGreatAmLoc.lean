/-
  What an operation touches of the heap: when two operations may change places.
-/
import Derived.Test.YtnieokpcakhfpaaGreatAmRun3
namespace Go.AM

/-! The heap. -/
theorem Heap.get_push_of {H : Heap} {x y : AObj} {o : Nat} (h : H.get o = some x) : (H.push y).get o = some x := by
  rw [Heap.get_push, if_neg (by have := Heap.get_lt h; omega), h]
theorem Heap.get_set_ne {H : Heap} {x : AObj} {o p : Nat} (ho : o < H.next) (hne : p ≠ o) : (H.set o x).get p = H.get p := by
  unfold Heap.get Heap.set
  simp only
  split
  · rename_i hp
    rw [List.getElem?_set_ne (by omega)]
  · rfl

/-! The same values. -/
mutual
theorem AV.same_eq : ∀ (a b : AV), a.same b = true → a = b
  | .bool a, b, h => by cases b <;> simp_all [AV.same]
  | .int k a, b, h => by cases b <;> simp_all [AV.same]
  | .str a, b, h => by cases b <;> simp_all [AV.same]
  | .nilp, b, h => by cases b <;> simp_all [AV.same]
  | .ptr o s f, b, h => by cases b <;> simp_all [AV.same]
  | .vptr x cs, b, h => by
    cases b <;> simp only [AV.same, Bool.and_eq_true, Bool.false_eq_true] at h
    obtain ⟨h1, h2⟩ := h
    have h1 := eq_of_beq h1
    rw [h1, sameL_eq cs _ h2]
  | .nils, b, h => by cases b <;> simp_all [AV.same]
  | .slice o s f l e t, b, h => by cases b <;> simp_all [AV.same]
  | .vslice x cs l e t, b, h => by
    cases b <;> simp only [AV.same, Bool.and_eq_true, Bool.false_eq_true] at h
    obtain ⟨⟨⟨⟨h1, h2⟩, h3⟩, h4⟩, h5⟩ := h
    rw [eq_of_beq h1, sameL_eq cs _ h2, eq_of_beq h3, eq_of_beq h4, eq_of_beq h5]
  | .nilm, b, h => by cases b <;> simp_all [AV.same]
  | .map o, b, h => by cases b <;> simp_all [AV.same]
  | .nilf, b, h => by cases b <;> simp_all [AV.same]
  | .func f cs, b, h => by
    cases b <;> simp only [AV.same, Bool.and_eq_true, Bool.false_eq_true] at h
    obtain ⟨h1, h2⟩ := h
    rw [eq_of_beq h1, sameL_eq cs _ h2]
  | .agg cs, b, h => by
    cases b <;> simp only [AV.same, Bool.false_eq_true] at h
    rw [sameL_eq cs _ h]
  | .tup cs, b, h => by
    cases b <;> simp only [AV.same, Bool.false_eq_true] at h
    rw [sameL_eq cs _ h]
theorem sameL_eq : ∀ (a b : List AV), sameL a b = true → a = b
  | [], b, h => by cases b <;> simp_all [sameL]
  | a :: as, b, h => by
    cases b with
    | nil => simp [sameL] at h
    | cons b bs =>
      simp only [sameL, Bool.and_eq_true] at h
      rw [AV.same_eq a b h.1, sameL_eq as bs h.2]
end
theorem sameE_eq : ∀ (a b : List (AV × AV)), sameE a b = true → a = b
  | [], b, h => by cases b <;> simp_all [sameE]
  | (a, a') :: as, b, h => by
    cases b with
    | nil => simp [sameE] at h
    | cons b bs =>
      obtain ⟨b, b'⟩ := b
      simp only [sameE, Bool.and_eq_true] at h
      rw [AV.same_eq a b h.1.1, AV.same_eq a' b' h.1.2, sameE_eq as bs h.2]
theorem sameAt_eq {H K : Heap} {o : Nat} (h : sameAt H K o = true) : K.get o = H.get o := by
  unfold sameAt at h
  split at h
  · rename_i x y hx hy
    rw [hx, hy]
    cases x <;> cases y <;> simp only [AObj.same, Bool.and_eq_true, Bool.false_eq_true] at h
    · obtain ⟨h1, h2⟩ := h
      rw [eq_of_beq h1, sameL_eq _ _ h2]
    · rw [sameE_eq _ _ h]
    · rfl
  · simp at h

/-- What an operation does to the heap. -/
inductive Eff where
  | same | push (x : AObj) | set (o : Nat) (x : AObj)
def Eff.app : Eff → Heap → Heap
  | .same, H => H
  | .push x, H => H.push x
  | .set o x, H => H.set o x
def Eff.within (H : Heap) (f : Fp) : Eff → Prop
  | .same => True
  | .push _ => f.al = some H.next
  | .set o _ => o ∈ f.wr ∧ o ∈ f.rd ∧ (H.get o).isSome = true

structure Same (f : Fp) (H K : Heap) : Prop where
  rd : ∀ o ∈ f.rd, K.get o = H.get o
  al : f.al.isSome = true → K.next = H.next
  sees : f.sees = true → ∀ o x, H.get o = some x → K.get o = some x

/-- Pure functions leave the heap as it is, and read only what they are led to. -/
def PureOk (call : CallF) (isPure : Nat → Bool) : Prop :=
  ∀ f H args v H1, isPure f = true → call f H args = some (v, H1) → H1 = H ∧
    ∀ K, (closedL args = true ∨ ∀ o x, H.get o = some x → K.get o = some x) → call f K args = some (v, K)

variable {call : CallF} {isPure : Nat → Bool}

/-- An operation's effect is the same wherever what it reads is the same. -/
def Local (call : CallF) (A : Tr) (H : Heap) (op : AOp) (f : Fp) (v : AV) (H' : Heap) : Prop :=
  ∃ e : Eff, H' = e.app H ∧ e.within H f ∧ ∀ K, Same f H K → stepOp call A K op = some (v, e.app K)

theorem Local.quiet {A : Tr} {H : Heap} {op : AOp} {f : Fp} {v : AV} {H' : Heap} (g : Option AV) (hg : ∀ K, stepOp call A K op = lift K g) (hr : stepOp call A H op = some (v, H')) : Local call A H op f v H' := by
  rw [hg] at hr
  cases g with
  | none => simp [lift] at hr
  | some x =>
    simp [lift] at hr
    obtain ⟨rfl, rfl⟩ := hr
    exact ⟨.same, rfl, trivial, fun K _ => by rw [hg]; rfl⟩

theorem Local.push {A : Tr} {H : Heap} {op : AOp} {f : Fp} {v : AV} {H' : Heap} (hf : f.al = some H.next) (g : Nat → Option (AV × AObj)) (hg : ∀ K, stepOp call A K op = (g K.next).map fun (v, x) => (v, K.push x)) (hr : stepOp call A H op = some (v, H')) : Local call A H op f v H' := by
  rw [hg] at hr
  cases he : g H.next with
  | none => simp [he] at hr
  | some x =>
    obtain ⟨u, x⟩ := x
    simp [he] at hr
    obtain ⟨rfl, rfl⟩ := hr
    exact ⟨.push x, rfl, hf, fun K hK => by rw [hg, hK.al (by simp [hf]), he]; rfl⟩

theorem Local.reads {A : Tr} {H : Heap} {op : AOp} {f : Fp} {v : AV} {H' : Heap} (hc : ∀ K, Same f H K → (stepOp call A K op) = (stepOp call A H op).map fun (u, _) => (u, K)) (hs : (stepOp call A H op).map (·.2) = some H ∨ stepOp call A H op = none) (hr : stepOp call A H op = some (v, H')) : Local call A H op f v H' := by
  rw [hr] at hs
  simp at hs
  subst hs
  exact ⟨.same, rfl, trivial, fun K hK => by rw [hc K hK, hr]; rfl⟩

theorem objOf_load {H K : Heap} {x : AV} (h : ∀ o ∈ objOf x, K.get o = H.get o) (n : Nat) (ag : Bool) : loadV K n ag x = loadV H n ag x := by
  cases x <;> simp only [loadV] <;> (try rfl)
  rw [h _ (by simp [objOf])]
theorem objOf_elems {H K : Heap} {x : AV} (h : ∀ o ∈ objOf x, K.get o = H.get o) : elems K x = elems H x := by
  cases x <;> simp only [elems] <;> (try rfl)
  rw [h _ (by simp [objOf])]
theorem objOf_len {H K : Heap} {x : AV} (h : ∀ o ∈ objOf x, K.get o = H.get o) (k : LK) : lenV K k x = lenV H k x := by
  cases k <;> cases x <;> simp only [lenV] <;> (try rfl)
  rw [h _ (by simp [objOf])]
theorem objOf_entries {H K : Heap} {x : AV} (h : ∀ o ∈ objOf x, K.get o = H.get o) : entries K x = entries H x := by
  cases x <;> simp only [entries] <;> (try rfl)
  rw [h _ (by simp [objOf])]

theorem store_local {H : Heap} {n : Nat} {p v : AV} {H' : Heap} (h : storeV H n p v = some H') :
    ∃ o x, o ∈ objOf p ∧ (H.get o).isSome = true ∧ H' = H.set o x ∧ ∀ K : Heap, (∀ o ∈ objOf p, K.get o = H.get o) → storeV K n p v = some (K.set o x) := by
  cases p <;> simp only [storeV] at h <;> (try (simp at h; done))
  rename_i o st off
  split at h
  · rename_i cs st' vs h1 h2
    split at h
    · rename_i h3
      simp at h
      exact ⟨o, _, by simp [objOf], by simp [h1], h.symm, fun K hK => by
        simp only [storeV]
        rw [hK o (by simp [objOf]), h1, h2]
        simp only
        rw [if_pos h3]⟩
    · simp at h
  · simp at h

theorem append_local {H : Heap} {esz : Nat} {x y v : AV} {H' : Heap} (h : appendV H esz x y = some (v, H')) :
    ∃ e : Eff, H' = e.app H ∧ e.within H ⟨false, false, objOf x ++ objOf y, objOf x, some H.next, none⟩ ∧ ∀ K : Heap, (∀ o ∈ objOf x ++ objOf y, K.get o = H.get o) → K.next = H.next → appendV K esz x y = some (v, e.app K) := by
  have key : ∀ K : Heap, (∀ o ∈ objOf x ++ objOf y, K.get o = H.get o) → elems K y = elems H y := fun K hK => objOf_elems fun o ho => hK o (List.mem_append_right _ ho)
  unfold appendV at h
  cases he : elems H y with
  | none => rw [he] at h; simp at h
  | some p =>
    obtain ⟨new, n⟩ := p
    rw [he] at h
    simp only at h
    by_cases h1 : n * esz ≠ new.length ∨ esz = 0
    · rw [if_pos h1] at h; simp at h
    rw [if_neg h1] at h
    by_cases h2 : n = 0
    · rw [if_pos h2] at h
      have fin : ∀ u, v = u → H' = H → (∀ K : Heap, elems K y = some (new, n) → appendV K esz x y = some (u, K)) → ∃ e : Eff, H' = e.app H ∧ e.within H ⟨false, false, objOf x ++ objOf y, objOf x, some H.next, none⟩ ∧ ∀ K : Heap, (∀ o ∈ objOf x ++ objOf y, K.get o = H.get o) → K.next = H.next → appendV K esz x y = some (v, e.app K) :=
        fun u e1 e2 h3 => ⟨.same, e2, trivial, fun K hK _ => by rw [e1]; exact h3 K ((key K hK).trans he)⟩
      split at h
      · simp at h
        exact fin _ h.1.symm h.2.symm fun K hK => by unfold appendV; rw [hK]; simp only; rw [if_neg h1, if_pos h2]
      · split at h
        · rename_i h4
          simp at h
          exact fin _ h.1.symm h.2.symm fun K hK => by unfold appendV; rw [hK]; simp only; rw [if_neg h1, if_pos h2, if_pos h4]
        · simp at h
      · split at h
        · rename_i h4
          simp at h
          exact fin _ h.1.symm h.2.symm fun K hK => by unfold appendV; rw [hK]; simp only; rw [if_neg h1, if_pos h2, if_pos h4]
        · simp at h
      · simp at h
    rw [if_neg h2] at h
    split at h
    · split at h
      · rename_i h4
        simp at h
        refine ⟨.push (.cells new 0), h.2.symm, rfl, fun K hK hn => ?_⟩
        unfold appendV
        rw [key K hK, he]; simp only
        rw [if_neg h1, if_neg h2, if_pos h4, hn, h.1]; rfl
      · simp at h
    · rename_i o st off len e tight
      split at h
      · rename_i cs st' h5
        split at h
        · rename_i h4
          split at h
          · rename_i h6
            simp at h
            refine ⟨.push _, h.2.symm, rfl, fun K hK hn => ?_⟩
            unfold appendV
            rw [key K hK, he]; simp only
            rw [if_neg h1, if_neg h2, hK o (by simp [objOf]), h5]
            simp only
            rw [if_pos h4, if_pos h6, hn, h.1]; rfl
          · rename_i h6
            simp at h
            refine ⟨.set o _, h.2.symm, ⟨by simp [objOf], by simp [objOf], by simp [h5]⟩, fun K hK hn => ?_⟩
            unfold appendV
            rw [key K hK, he]; simp only
            rw [if_neg h1, if_neg h2, hK o (by simp [objOf]), h5]
            simp only
            rw [if_pos h4, if_neg h6, h.1]; rfl
        · simp at h
      · simp at h
    · split at h
      · rename_i h4
        simp at h
        refine ⟨.push _, h.2.symm, rfl, fun K hK hn => ?_⟩
        unfold appendV
        rw [key K hK, he]; simp only
        rw [if_neg h1, if_neg h2, if_pos h4, hn, h.1]; rfl
      · simp at h
    · simp at h

theorem lift_map {H K : Heap} (g : Option AV) : lift K g = (lift H g).map fun (u, _) => (u, K) := by cases g <;> rfl
theorem lift_snd {H : Heap} (g : Option AV) : (lift H g).map (·.2) = some H ∨ lift H g = none := by cases g <;> simp [lift]

theorem op_local (hp : PureOk call isPure) {A : Tr} {H : Heap} {op : AOp} {v : AV} {H' : Heap} (hall : (fp isPure A H.next op).all = false) (hr : stepOp call A H op = some (v, H')) :
    Local call A H op (fp isPure A H.next op) v H' := by
  cases op with
  | mv x => exact .quiet (some (ev A x)) (fun K => rfl) hr
  | pick c a b =>
    refine .quiet (match ev A c with | .bool t => some (if t then ev A a else ev A b) | _ => none) (fun K => ?_) hr
    simp only [stepOp, s_pick]; split <;> simp_all [lift]
  | alloc zero => exact .push rfl (fun n => some (.ptr n 0 0, .cells zero 0)) (fun K => rfl) hr
  | mkmap => exact .push rfl (fun n => some (.map n, .map [])) (fun K => rfl) hr
  | box imm x =>
    cases imm with
    | true => exact .quiet (some (.vptr false (ev A x).parts)) (fun K => rfl) hr
    | false => exact .push rfl (fun n => some (.ptr n 0 0, .cells (ev A x).parts 0)) (fun K => rfl) hr
  | build zero parts =>
    refine .quiet (match fillV zero (parts.map fun (o, n, x) => (o, n, ev A x)) with | some cs => some (.agg cs) | none => none) (fun K => ?_) hr
    simp only [stepOp, s_build]; split <;> simp [*, lift]
  | mkslice imm zero esz len parts =>
    cases imm with
    | true =>
      refine .quiet (match fillV (zeros zero len) (parts.map fun (o, n, x) => (o, n, ev A x)) with | some cs => (if cs.length = len * esz then some (.vslice false cs len esz true) else none) | none => none) (fun K => ?_) hr
      simp only [stepOp, s_mkslice]
      split
      · simp only [*, if_true]; split <;> rfl
      · simp [*, lift]
    | false =>
      refine .push rfl (fun n => match fillV (zeros zero len) (parts.map fun (o, n, x) => (o, n, ev A x)) with | some cs => (if cs.length = len * esz then some (.slice n 0 0 len esz true, .cells cs 0) else none) | none => none) (fun K => ?_) hr
      simp only [stepOp, s_mkslice]
      split
      · simp only [*, Bool.false_eq_true, if_false]; split <;> rfl
      · simp [*]
  | load n ag x =>
    refine .reads (fun K hK => ?_) (by simp only [stepOp, s_load]; exact lift_snd _) hr
    simp only [stepOp, s_load]
    rw [objOf_load (fun o ho => hK.rd o (by simpa [fp] using ho))]; exact lift_map _
  | store n x u =>
    simp only [stepOp, s_store] at hr
    split at hr
    · rename_i H1 h1
      simp at hr; obtain ⟨rfl, rfl⟩ := hr
      obtain ⟨o, y, h2, h3, h4, h5⟩ := store_local h1
      exact ⟨.set o y, h4, ⟨by simpa [fp] using h2, by simpa [fp] using h2, h3⟩, fun K hK => by
        simp only [stepOp, s_store]; rw [h5 K fun o ho => hK.rd o (by simpa [fp] using ho)]; rfl⟩
    · simp at hr
  | nilchk x =>
    refine .quiet (match ev A x with | .ptr o st off => some (.ptr o st off) | .vptr br cs => some (.vptr br cs) | .func f cs => some (.func f cs) | _ => none) (fun K => ?_) hr
    simp only [stepOp, s_nilchk]; split <;> simp_all [lift]
  | bin op x y => exact .quiet _ (fun K => rfl) hr
  | eq neg k x y =>
    refine .quiet (match eqV k (ev A x) (ev A y) with | some b => some (.bool (if neg then !b else b)) | none => none) (fun K => ?_) hr
    simp only [stepOp, s_eq]; split <;> simp_all [lift]
  | un op x => exact .quiet _ (fun K => rfl) hr
  | conv k x =>
    refine .quiet (match ev A x with | .int _ n => some (.int k (k.wrap n)) | _ => none) (fun K => ?_) hr
    simp only [stepOp, s_conv]; split <;> simp_all [lift]
  | s2b imm x =>
    cases imm with
    | true =>
      refine .quiet (match ev A x with | .str s => if s.length < big then some (.vslice false (bytesOf s) s.length 1 false) else none | _ => none) (fun K => ?_) hr
      simp only [stepOp, s_s2b]; split
      · simp only [*, if_true]; split <;> simp [lift]
      · simp_all [lift]
    | false =>
      refine .push rfl (fun n => match ev A x with | .str s => if s.length < big then some (.slice n 0 0 s.length 1 false, .cells (bytesOf s) 0) else none | _ => none) (fun K => ?_) hr
      simp only [stepOp, s_s2b]; split
      · simp only [*, Bool.false_eq_true, if_false]; split <;> simp
      · simp_all
  | b2s x =>
    refine .reads (fun K hK => ?_) ?_ hr
    · simp only [stepOp, s_b2s]
      have he := objOf_elems (x := ev A x) (fun o ho => hK.rd o (by simpa [fp] using ho))
      split
      · rfl
      · rw [he]
        split
        · split
          · split <;> rfl
          · rfl
        · rfl
    · simp only [stepOp, s_b2s]
      split
      · simp
      · split
        · split
          · split <;> simp
          · simp
        · simp
  | s2s x =>
    refine .quiet (match ev A x with | .str s => some (.str s) | _ => none) (fun K => ?_) hr
    simp only [stepOp, s_s2s]; split <;> simp_all [lift]
  | mkfunc f caps => exact .quiet (some (.func f (caps.map (ev A)))) (fun K => rfl) hr
  | mkslc => simp [stepOp] at hr
  | slice => exact .quiet _ (fun K => rfl) hr
  | substr => exact .quiet _ (fun K => rfl) hr
  | faddr => exact .quiet _ (fun K => rfl) hr
  | fld off n ag x =>
    refine .quiet (match ev A x with | .agg cs => getPart cs off n ag | _ => none) (fun K => ?_) hr
    simp only [stepOp, s_fld]; split <;> simp_all [lift]
  | iaddr => exact .quiet _ (fun K => rfl) hr
  | idxs x i =>
    refine .quiet (match ev A x, bound (ev A i) with | .str s, some i => (match s[i]? with | some b => some (.int .u8 b.toNat) | none => none) | _, _ => none) (fun K => ?_) hr
    simp only [stepOp, s_idxs]; split
    · split <;> simp_all [lift]
    · simp_all [lift]
  | idxa n ag len x i =>
    refine .quiet (match ev A x, bound (ev A i) with | .agg cs, some i => if i < len then getPart cs (i * n) n ag else none | _, _ => none) (fun K => ?_) hr
    simp only [stepOp, s_idxa]; split
    · rename_i cs i h1 h2
      by_cases hi : i < len
      · simp only [h1, h2, if_pos hi]
      · simp only [h1, h2, if_neg hi]; rfl
    · simp_all [lift]
  | lookup kk zero ok m k =>
    refine .reads (fun K hK => ?_) ?_ hr
    · simp only [stepOp, s_lookup]
      rw [objOf_entries (fun o ho => hK.rd o (by simpa [fp] using ho))]
      split
      · split
        · rfl
        · split <;> rfl
      · rfl
    · simp only [stepOp, s_lookup]
      split
      · split
        · simp
        · split <;> simp
      · simp
  | mapset kk m k u =>
    simp only [stepOp, s_mapset] at hr
    split at hr
    · rename_i o ho
      split at hr
      · rename_i es hes
        split at hr
        · simp at hr
        · rename_i hk
          have hin : ∀ K, Same (fp isPure A H.next (.mapset kk m k u)) H K → K.get o = H.get o := fun K hK => hK.rd o (by simp [fp, ho, objOf])
          split at hr
          · rename_i i x hf
            simp at hr; obtain ⟨rfl, rfl⟩ := hr
            exact ⟨.set o _, rfl, ⟨by simp [fp, ho, objOf], by simp [fp, ho, objOf], by simp [hes]⟩, fun K hK => by
              simp only [stepOp, s_mapset, ho]; rw [hin K hK, hes]; simp only; rw [if_neg hk, hf]; rfl⟩
          · rename_i hf
            simp at hr; obtain ⟨rfl, rfl⟩ := hr
            exact ⟨.set o _, rfl, ⟨by simp [fp, ho, objOf], by simp [fp, ho, objOf], by simp [hes]⟩, fun K hK => by
              simp only [stepOp, s_mapset, ho]; rw [hin K hK, hes]; simp only; rw [if_neg hk, hf]; rfl⟩
          · simp at hr
      · simp at hr
    · simp at hr
  | ext x i =>
    refine .quiet (match ev A x with | .tup vs => vs[i]? | _ => none) (fun K => ?_) hr
    simp only [stepOp, s_ext]; split <;> simp_all [lift]
  | call f args =>
    simp only [fp] at hall ⊢
    split at hall
    · rename_i hf
      simp only [stepOp, s_call] at hr
      obtain ⟨h1, h2⟩ := hp f H _ v H' hf hr
      rw [if_pos hf]
      refine ⟨.same, h1, trivial, fun K hK => ?_⟩
      simp only [stepOp, s_call]
      refine h2 K ?_
      by_cases hcl : closedL (args.map (ev A)) = true
      · exact .inl hcl
      · rw [if_neg hcl] at hK
        exact .inr (hK.sees rfl)
    · simp [Fp.any] at hall
  | calld => simp [fp, Fp.any] at hall
  | append esz x y =>
    simp only [stepOp, s_append] at hr
    obtain ⟨e, h1, h2, h3⟩ := append_local hr
    exact ⟨e, h1, h2, fun K hK => h3 K hK.rd (hK.al rfl)⟩
  | len k x =>
    cases k with
    | mp =>
      refine .reads (fun K hK => ?_) ?_ hr
      · simp only [stepOp, s_len]
        rw [objOf_len (fun o ho => hK.rd o (by simpa [fp] using ho))]
        split <;> rfl
      · simp only [stepOp, s_len]; split <;> simp
    | slc =>
      refine .quiet ((lenV ⟨0, []⟩ .slc (ev A x)).map fun n => .int .i64 n) (fun K => ?_) hr
      simp only [stepOp, s_len]
      cases ev A x <;> rfl
    | str =>
      refine .quiet ((lenV ⟨0, []⟩ .str (ev A x)).map fun n => .int .i64 n) (fun K => ?_) hr
      simp only [stepOp, s_len]
      cases ev A x <;> rfl
  | mins => exact .quiet _ (fun K => rfl) hr
  | maxs => exact .quiet _ (fun K => rfl) hr
  | delete kk m k =>
    simp only [stepOp, s_delete] at hr
    split at hr
    · rename_i o ho
      split at hr
      · rename_i es hes
        split at hr
        · simp at hr
        · rename_i hk
          have hin : ∀ K, Same (fp isPure A H.next (.delete kk m k)) H K → K.get o = H.get o := fun K hK => hK.rd o (by simp [fp, ho, objOf])
          split at hr
          · rename_i i x hf
            simp at hr; obtain ⟨rfl, rfl⟩ := hr
            exact ⟨.set o _, rfl, ⟨by simp [fp, ho, objOf], by simp [fp, ho, objOf], by simp [hes]⟩, fun K hK => by
              simp only [stepOp, s_delete, ho]; rw [hin K hK, hes]; simp only; rw [if_neg hk, hf]; rfl⟩
          · rename_i hf
            simp at hr; obtain ⟨rfl, rfl⟩ := hr
            exact ⟨.set o _, rfl, ⟨by simp [fp, ho, objOf], by simp [fp, ho, objOf], by simp [hes]⟩, fun K hK => by
              simp only [stepOp, s_delete, ho]; rw [hin K hK, hes]; simp only; rw [if_neg hk, hf]; rfl⟩
          · simp at hr
      · simp at hr
    · simp at hr
  | clear zero x =>
    simp only [stepOp, s_clear] at hr
    split at hr
    · rename_i hx
      simp at hr; obtain ⟨rfl, rfl⟩ := hr
      exact ⟨.same, rfl, trivial, fun K hK => by simp only [stepOp, s_clear, hx]; rfl⟩
    · rename_i o st off len esz tight ho
      split at hr
      · rename_i h0
        simp at hr; obtain ⟨rfl, rfl⟩ := hr
        exact ⟨.same, rfl, trivial, fun K hK => by simp only [stepOp, s_clear, ho]; rw [if_pos h0]; rfl⟩
      · rename_i h0
        split at hr
        · rename_i cs st' hes
          split at hr
          · rename_i h1
            simp at hr; obtain ⟨rfl, rfl⟩ := hr
            exact ⟨.set o _, rfl, ⟨by simp [fp, ho, objOf], by simp [fp, ho, objOf], by simp [hes]⟩, fun K hK => by
              simp only [stepOp, s_clear, ho]; rw [if_neg h0, hK.rd o (by simp [fp, ho, objOf]), hes]; simp only; rw [if_pos h1]; rfl⟩
          · simp at hr
        · simp at hr
    · simp at hr

end Go.AM
