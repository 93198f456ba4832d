/-
  The operations that touch memory, one by one: what the abstract machine says, the model's run does.
-/
import Derived.Test.YtnieokpcakhfpaaGreatAmPut
import Derived.Laws.Append
import Derived.Laws.IdiomCopy
import Derived.ChangeKeysEq
namespace Go.AM

variable {P : Program}

/-- A type: how many cells, and whether it is a struct or an array. -/
structure Ty (P : Program) (t : TypeId) (n : Nat) (ag : Bool) : Prop where
  ex : ∃ i d, P.info? t = some i ∧ i.size = n ∧ P.underlying t = some d ∧ (match d with | .struct _ | .array _ _ => true | _ => false) = ag

theorem Ty.isAgg {t : TypeId} {n : Nat} {ag : Bool} (h : Ty P t n ag) (w : World) : (isAgg t).run P w = .ok ag w := by
  obtain ⟨i, d, _, _, h3, h4⟩ := h.ex
  subst h4
  unfold Go.isAgg
  rw [Sem.run_bind, run_underlying h3]
  simp only [Result.andThen]
  cases d <;> rfl
theorem Ty.sizeOf {t : TypeId} {n : Nat} {ag : Bool} (h : Ty P t n ag) (w : World) : (sizeOf t).run P w = .ok n w := by
  obtain ⟨i, d, h1, h2, _, _⟩ := h.ex
  rw [run_sizeOf w h1]
  simp [Program.cellsOf, h1, h2]

theorem VR.parts {μ : Mu} {a : AV} {v : Value} (h : VR μ a v) : VRL μ a.parts v.cells.toList := by
  have one : ∀ x : AV, VR μ x v → VRL μ [x] [v] := fun x hx => by simp only [VRL]; exact ⟨v, [], rfl, hx, rfl⟩
  cases a <;> simp only [AV.parts] <;> first
    | (have h' := h; simp only [VR] at h'; obtain ⟨vs, rfl, hv⟩ := h'; simpa [Value.cells] using hv)
    | (have hc : v.cells = #[v] := by
         cases v <;> first | rfl | (simp [VR] at h)
       rw [hc]; exact one _ h)

theorem CellsAt.cell {μ : Mu} {w : World} {cs : List AV} {b base n : Nat} (h : CellsAt μ w cs b base n) (j : Nat) (c : AV) (hj : cs[j]? = some c) :
    ∃ v, w.cell? ⟨b, base + j, none⟩ = some v ∧ VR μ c v := by
  obtain ⟨arr, el, fr, h1, h2, h3, h4, h5⟩ := h.ex
  obtain ⟨v, hv, hr⟩ := h5 j c hj
  exact ⟨v, by unfold World.cell?; simp [h1, hv], hr⟩

theorem addr_add (b i n : Nat) : (⟨b, i, none⟩ : Addr).add n = ⟨b, i + n, none⟩ := by
  unfold Addr.add; split <;> simp_all

/-- Cells that are there, read in a row. -/
theorem row_read {μ : Mu} {w : World} {b i : Nat} : ∀ (cs : List AV), (∀ (j : Nat) (c : AV), cs[j]? = some c → ∃ v, w.cell? ⟨b, i + j, none⟩ = some v ∧ VR μ c v) →
    ∃ vs, vs.length = cs.length ∧ (∀ j v, vs[j]? = some v → w.cell? ((⟨b, i, none⟩ : Addr).add j) = some v) ∧ VRL μ cs vs := by
  intro cs h
  have hex : ∀ j : Fin cs.length, ∃ v, w.cell? ⟨b, i + j.1, none⟩ = some v ∧ VR μ cs[j] v := fun j => h j.1 cs[j] (by simp)
  refine ⟨List.ofFn fun j => (hex j).choose, by simp, fun j v hj => ?_, VRL.mk (by simp) fun j c hj => ?_⟩
  · rw [List.getElem?_ofFn] at hj
    split at hj
    · rename_i hlt
      simp at hj; subst hj
      rw [addr_add]; exact (hex ⟨j, hlt⟩).choose_spec.1
    · simp at hj
  · have hlt : j < cs.length := (List.getElem?_eq_some_iff.1 hj).1
    rw [List.getElem?_ofFn, dif_pos hlt]
    refine ⟨_, rfl, ?_⟩
    have := (hex ⟨j, hlt⟩).choose_spec.2
    rw [List.getElem?_eq_getElem hlt] at hj
    simp at hj; subst hj
    exact this

/-- Reading a part of cells that are there. -/
theorem part_read {μ : Mu} {w : World} {b i : Nat} {cs : List AV} (h : ∀ (j : Nat) (c : AV), cs[j]? = some c → ∃ v, w.cell? ⟨b, i + j, none⟩ = some v ∧ VR μ c v)
    {t : TypeId} {n off : Nat} {ag : Bool} (ht : Ty P t n ag) {r : AV} (hr : getPart cs off n ag = some r) :
    ∃ rv, (loadVar t ⟨b, i + off, none⟩).run P w = .ok rv w ∧ VR μ r rv := by
  unfold getPart at hr
  cases ag with
  | true =>
    simp only [if_true] at hr
    split at hr
    · rename_i hle
      simp at hr; subst hr
      obtain ⟨vs, hl, hc, hv⟩ := row_read (μ := μ) (w := w) (b := b) (i := i + off) ((cs.drop off).take n) (fun j c hj => by
        rw [List.getElem?_take] at hj
        split at hj
        · rw [List.getElem?_drop] at hj
          obtain ⟨v, h1, h2⟩ := h _ _ hj
          exact ⟨v, by rw [Nat.add_assoc]; exact h1, h2⟩
        · simp at hj)
      have hlen : vs.length = n := by rw [hl]; simp; omega
      refine ⟨.agg vs.toArray, ?_, by simp only [VR]; exact ⟨vs, rfl, hv⟩⟩
      have := run_loadCells_list (P := P) w ⟨b, i + off, none⟩ vs hc
      rw [hlen] at this
      simp [loadVar, ht.isAgg, ht.sizeOf, this]
    · simp at hr
  | false =>
    simp only [Bool.false_eq_true, if_false] at hr
    obtain ⟨v, h1, h2⟩ := h off r hr
    exact ⟨v, by simp [loadVar, ht.isAgg, h1], h2⟩

theorem imm_cells {μ : Mu} {H : Heap} {w : World} (hw : WR μ H w) {br : Bool} {b i : Nat} {cs : List AV} (h : VRC μ (if br then μ.bor else μ.imm) b i cs) :
    ∀ (j : Nat) (c : AV), cs[j]? = some c → ∃ v, w.cell? ⟨b, i + j, none⟩ = some v ∧ VR μ c v := by
  intro j c hj
  obtain ⟨v, h1, h2⟩ := h.get j c hj
  refine ⟨v, ?_, h2⟩
  cases br
  · exact hw.imm _ _ _ h1
  · exact hw.bor _ _ _ h1

theorem load_sound {μ : Mu} {H : Heap} {w : World} (hw : WR μ H w) {t : TypeId} {n : Nat} {ag : Bool} (ht : Ty P t n ag) {p : AV} {pv : Value} (hp : VR μ p pv)
    {r : AV} (hr : loadV H n ag p = some r) : ∃ rv, (Instr.loadAt t pv).run P w = .ok rv w ∧ VR μ r rv := by
  unfold loadV at hr
  split at hr
  · rename_i o st off
    split at hr
    · rename_i cs st' ho
      split at hr
      · rename_i e
        subst e
        simp only [VR] at hp
        obtain ⟨b, base, n', hl, rfl⟩ := hp
        obtain ⟨b', base', n'', hl', hc⟩ := hw.cells _ _ _ ho
        rw [hl] at hl'; simp at hl'
        obtain ⟨rfl, rfl, rfl⟩ := hl'
        obtain ⟨rv, h1, h2⟩ := part_read (P := P) (fun j c hj => hc.cell j c hj) ht hr
        exact ⟨rv, by simpa [Instr.loadAt, Instr.sureAddr] using h1, h2⟩
      · simp at hr
    · simp at hr
  · rename_i br cs
    simp only [VR] at hp
    obtain ⟨b, i, rfl, hc⟩ := hp
    obtain ⟨rv, h1, h2⟩ := part_read (P := P) (imm_cells hw hc) ht hr
    exact ⟨rv, by simpa [Instr.loadAt, Instr.sureAddr] using h1, h2⟩
  · simp at hr

/-! Stores. -/
theorem isCell_one {μ : Mu} {a : AV} {v : Value} (h : VR μ a v) (hc : a.isCell = true) : v.oneCell' = true := by
  cases a <;> simp [AV.isCell] at hc <;> simp only [VR] at h <;> first
    | (subst h; rfl)
    | (obtain ⟨b, base, n, _, rfl⟩ := h; rfl)
    | (obtain ⟨b, i, rfl, _⟩ := h; rfl)
    | (obtain ⟨b, base, n, i, cap, _, rfl, _⟩ := h; rfl)
    | (obtain ⟨b, i, cap, rfl, _⟩ := h; rfl)
    | (obtain ⟨r, _, rfl⟩ := h; rfl)
    | (obtain ⟨vs, rfl, _⟩ := h; rfl)

/-- An array with values laid over it. -/
def over (arr : Array Value) (o : Nat) : List Value → Array Value
  | [] => arr
  | v :: vs => over (arr.setIfInBounds o v) (o + 1) vs
theorem over_size (vs : List Value) : ∀ (arr : Array Value) (o : Nat), (over arr o vs).size = arr.size := by
  induction vs with
  | nil => intro arr o; rfl
  | cons v vs ih => intro arr o; simp [over, ih]
theorem over_get (vs : List Value) : ∀ (arr : Array Value) (o k : Nat), o + vs.length ≤ arr.size →
    (over arr o vs)[k]? = if o ≤ k ∧ k < o + vs.length then vs[k - o]? else arr[k]? := by
  induction vs with
  | nil => intro arr o k _; simp only [over, List.length_nil]; rw [if_neg (by omega)]
  | cons v vs ih =>
    intro arr o k h
    simp only [over, List.length_cons] at h ⊢
    rw [ih _ _ _ (by simpa using (by omega : o + 1 + vs.length ≤ arr.size))]
    by_cases h1 : o + 1 ≤ k ∧ k < o + 1 + vs.length
    · rw [if_pos h1, if_pos (by omega), show k - o = (k - (o + 1)) + 1 from by omega, List.getElem?_cons_succ]
    · rw [if_neg h1]
      by_cases h2 : k = o
      · subst h2
        rw [if_pos (by omega)]
        simp [show k < arr.size from by omega]
      · rw [if_neg (by omega)]
        simp [Ne.symm h2]

theorem run_storeCells_over (b o : Nat) (el : TypeId) (fr : Nat × Nat) : ∀ (vs : List Value) (i : Nat) (arr : Array Value) (w : World), w.heap[b]? = some (.cells arr el fr) →
    o + i + vs.length ≤ arr.size → (∀ k, k < arr.size → ¬(fr.1 ≤ k ∧ k < fr.2)) → (∀ v ∈ vs, v.oneCell' = true) →
    (storeCells ⟨b, o, none⟩ vs i).run P w = .ok () (wset w b (.cells (over arr (o + i) vs) el fr))
  | [], i, arr, w, hb, _, _, _ => by
    simp only [storeCells, over]
    have : wset w b (.cells arr el fr) = w := by
      unfold wset
      have hlt := (Array.getElem?_eq_some_iff.1 hb).1
      have : w.heap.setIfInBounds b (.cells arr el fr) = w.heap := by
        apply Array.ext_getElem?
        intro k
        by_cases hk : k = b
        · subst hk
          have he := (Array.getElem?_eq_some_iff.1 hb).2
          simp [hlt, he]
        · simp [Ne.symm hk]
      rw [this]
    rw [this]; rfl
  | v :: vs, i, arr, w, hb, hs, hf, h1 => by
    simp only [List.length_cons] at hs
    have hlt := (Array.getElem?_eq_some_iff.1 hb).1
    have hcell : w.cell? ⟨b, o + i, none⟩ = some (arr[o + i]'(by omega)) := by
      unfold World.cell?; simp [hb, show o + i < arr.size from by omega]
    have hfz : w.frozen? ⟨b, o + i, none⟩ = false := by
      unfold World.frozen?; simp only [hb]
      have := hf (o + i) (by omega)
      simpa using this
    have hst : (store ((⟨b, o, none⟩ : Addr).add i) v).run P w = .ok () (w.setCell ⟨b, o + i, none⟩ v) := by
      rw [addr_add, run_store P w _ v _ (h1 v (by simp))]
      simp [hcell, hfz]
    have hset : w.setCell ⟨b, o + i, none⟩ v = wset w b (.cells (arr.setIfInBounds (o + i) v) el fr) := by
      unfold World.setCell wset
      congr 1
      apply Array.ext_getElem?
      intro k
      by_cases hk : k = b
      · subst hk
        rw [Array.getElem?_modify]
        have he := (Array.getElem?_eq_some_iff.1 hb).2
        simp [hlt, he]
      · rw [Array.getElem?_modify]
        simp [Ne.symm hk]
    have ih := run_storeCells_over b o el fr vs (i + 1) (arr.setIfInBounds (o + i) v) (wset w b (.cells (arr.setIfInBounds (o + i) v) el fr)) (wset_get _ _ _ hlt)
      (by simpa using (by omega : o + (i + 1) + vs.length ≤ arr.size)) (by simpa using hf) (fun x hx => h1 x (by simp [hx]))
    simp only [storeCells, Sem.run_bind, hst, Result.andThen, hset, ih, over]
    congr 1
    rw [show o + (i + 1) = o + i + 1 from by omega]
    simp [wset]

theorem splice_length {cs vs : List AV} {off : Nat} (h : off + vs.length ≤ cs.length) : (splice cs off vs).length = cs.length := by
  unfold splice; simp; omega
theorem splice_get {cs vs : List AV} {off : Nat} (h : off + vs.length ≤ cs.length) (j : Nat) :
    (splice cs off vs)[j]? = if off ≤ j ∧ j < off + vs.length then vs[j - off]? else cs[j]? := by
  unfold splice
  rw [List.append_assoc, List.getElem?_append]
  simp only [List.length_take]
  rw [Nat.min_eq_left (by omega)]
  split
  · rw [if_neg (by omega), List.getElem?_take, if_pos (by omega)]
  · rw [List.getElem?_append]
    split
    · rw [if_pos (by omega)]
    · rw [if_neg (by omega), List.getElem?_drop]
      congr 1; omega

/-- Cells of an object written in place. -/
theorem cells_stored {μ : Mu} {H : Heap} {w : World} (hw : WR μ H w) {o st : Nat} {cs : List AV} (ho : H.get o = some (.cells cs st)) {b base n : Nat} (hl : μ.loc o st = some (b, base, n))
    {off : Nat} {vs : List AV} {us : List Value} (hv : VRL μ vs us) (hle : off + vs.length ≤ cs.length) (h1 : ∀ u ∈ us, u.oneCell' = true) :
    ∃ w', (storeCells ⟨b, base + off, none⟩ us).run P w = .ok () w' ∧ Stp μ H w (μ.at o st (b, base, n)) (H.set o (.cells (splice cs off vs) st)) w' := by
  obtain ⟨b', base', n', hl', hc⟩ := hw.cells _ _ _ ho
  rw [hl] at hl'; simp at hl'
  obtain ⟨rfl, rfl, rfl⟩ := hl'
  obtain ⟨arr, el, fr, hb, hn, hsz, hfr, hcv⟩ := hc.ex
  subst hn
  have hul := hv.length
  have hrun := run_storeCells_over (P := P) b (base + off) el fr us 0 arr w hb (by omega) hfr h1
  refine ⟨_, hrun, stp_stored hw ho hl (splice cs off vs) _ el fr (over_size _ _ _) (by rw [splice_length hle]; exact hsz) hfr fun j c hj => ?_⟩
  rw [splice_get hle] at hj
  rw [Nat.add_zero, over_get _ _ _ _ (by omega)]
  split at hj
  · rename_i hr
    rw [if_pos (by omega), show base + j - (base + off) = j - off from by omega]
    exact hv.get _ _ hj
  · rw [if_neg (by omega)]
    exact hcv j c hj

theorem store_sound {μ : Mu} {H H' : Heap} {w : World} (hw : WR μ H w) {t : TypeId} {n : Nat} {ag : Bool} (ht : Ty P t n ag) {p v : AV} {pv vv : Value} (hp : VR μ p pv) (hv : VR μ v vv)
    (hr : storeV H n p v = some H') : ∃ μ' w', (Instr.storeAt t pv vv).run P w = .ok () w' ∧ Stp μ H w μ' H' w' := by
  unfold storeV at hr
  split at hr
  · rename_i o st off
    split at hr
    · rename_i cs st' vs ho hst
      split at hr
      · rename_i hc
        obtain ⟨e, hle⟩ := hc
        subst e
        simp at hr; subst hr
        unfold storable at hst
        split at hst
        · rename_i hs
          simp at hst; subst hst
          obtain ⟨hn, hall⟩ := hs
          simp only [VR] at hp
          obtain ⟨b, base, n', hl, rfl⟩ := hp
          have hpv := hv.parts
          obtain ⟨w', h1, h2⟩ := cells_stored (P := P) hw ho hl (off := off) hpv (by omega) (fun u hu => by
            obtain ⟨j, hj⟩ := List.mem_iff_getElem?.1 hu
            have hlt : j < v.parts.length := by have := (List.getElem?_eq_some_iff.1 hj).1; rw [hpv.length] at this; exact this
            obtain ⟨u', hu', hr'⟩ := hpv.get j _ (List.getElem?_eq_getElem hlt)
            rw [hj] at hu'; simp at hu'; subst hu'
            exact isCell_one hr' (List.all_eq_true.1 hall _ (List.getElem_mem _)))
          refine ⟨_, w', ?_, h2⟩
          have hsz : vv.cells.size = n := by have := hpv.length; simp at this; omega
          simp [Instr.storeAt, Instr.sureAddr, storeVar, ht.sizeOf, hsz, h1]
        · simp at hst
      · simp at hr
    · simp at hr
  · simp at hr

end Go.AM
