/-
  Operations that make memory: new variables, structs, literals, append.
-/
import Derived.Test.YtnieokpcakhfpaaGreatAmSteps
namespace Go.AM

variable {P : Program}

theorem run_alloc (el : TypeId) (cells : Array Value) (w : World) : (newRow el cells).run P w = .ok ⟨w.heap.size, 0, none⟩ (wpush w (.cells cells el)) := rfl

theorem new_sound {μ : Mu} {H : Heap} {w : World} (hw : WR μ H w) (el : TypeId) {cs : List AV} {arr : Array Value} (hv : VRL μ cs arr.toList) :
    ∃ μ', (newRow el arr).run P w = .ok ⟨w.heap.size, 0, none⟩ (wpush w (.cells arr el)) ∧ Stp μ H w μ' (H.push (.cells cs 0)) (wpush w (.cells arr el)) ∧ μ'.loc H.next 0 = some (w.heap.size, 0, arr.size) := by
  refine ⟨_, run_alloc el arr w, stp_new hw cs arr el (0, 0) (by have := hv.length; simp at this; omega) (by intro i _ h; simp at h) (fun j c hj => ?_), by simp [Mu.at]⟩
  obtain ⟨v, h1, h2⟩ := hv.get j c hj
  exact ⟨v, by simpa using h1, h2⟩

/-- What is not a value in the heap stands for the same whatever is known. -/
structure Zero (P : Program) (t : TypeId) (zero : List AV) : Prop where
  ex : ∃ i z, P.info? t = some i ∧ i.zero = some z ∧ ∀ μ, VRL μ zero z.cells.toList

theorem alloc_sound {μ : Mu} {H : Heap} {w : World} (hw : WR μ H w) {t : TypeId} {zero : List AV} (hz : Zero P t zero) :
    ∃ μ' w' rv, (Instr.alloc t true (.tuple #[])).run P w = .ok rv w' ∧ Stp μ H w μ' (H.push (.cells zero 0)) w' ∧ VR μ' (.ptr H.next 0 0) rv := by
  obtain ⟨i, z, h1, h2, h3⟩ := hz.ex
  obtain ⟨μ', hr, hs, hl⟩ := new_sound (P := P) hw t (h3 μ)
  exact ⟨μ', _, .pointer (some ⟨w.heap.size, 0, none⟩), by simp [Instr.alloc, zeroValue, typeInfo, h1, h2, newVar, hr], hs, by simp only [VR]; exact ⟨_, _, _, hl, rfl⟩⟩

theorem box_sound {μ : Mu} {H : Heap} {w : World} (hw : WR μ H w) (t : TypeId) {x : AV} {xv : Value} (hx : VR μ x xv) :
    ∃ μ' w' rv, (Instr.box t xv).run P w = .ok rv w' ∧ Stp μ H w μ' (H.push (.cells x.parts 0)) w' ∧ VR μ' (.ptr H.next 0 0) rv := by
  obtain ⟨μ', hr, hs, hl⟩ := new_sound (P := P) hw t (arr := xv.cells) hx.parts
  exact ⟨μ', _, .pointer (some ⟨w.heap.size, 0, none⟩), by simp [Instr.box, newVar, hr], hs, by simp only [VR]; exact ⟨_, _, _, hl, rfl⟩⟩

/-! Cells that never change from now on. -/
def Mu.imms (μ : Mu) (b : Nat) (arr : Array Value) : Mu := { μ with imm := fun c i => if c = b then arr[i]? else μ.imm c i }

theorem stp_imm {μ : Mu} {H : Heap} {w : World} (hw : WR μ H w) (arr : Array Value) (el : TypeId) (fr : Nat × Nat) :
    Stp μ H w (μ.imms w.heap.size arr) H (wpush w (.cells arr el fr)) := by
  have hno : ∀ i, μ.imm w.heap.size i = none := by
    intro i
    cases h : μ.imm w.heap.size i with
    | none => rfl
    | some v => have := cell_lt (hw.imm _ _ _ h); simp at this
  have hext : Ext w.heap.size μ (μ.imms w.heap.size arr) := by
    refine ⟨fun _ _ _ h => h, fun _ _ h => h, fun b i v h => ?_, rfl, fun b i v h => ?_⟩
    · by_cases e : b = w.heap.size
      · subst e; rw [hno] at h; simp at h
      · simp [Mu.imms, e, h]
    · by_cases e : b = w.heap.size
      · exact .inr (by omega)
      · simp [Mu.imms, e] at h; exact .inl h
  have hmono : ∀ a v, VR μ a v → VR (μ.imms w.heap.size arr) a v := fun a v h => VR.ext hext h
  have hat := wat_push w (.cells arr el fr)
  have hblk : ∀ o, blk (μ.imms w.heap.size arr) H o = blk μ H o := by
    intro o; unfold blk; rfl
  have hown : ∀ b, Own (μ.imms w.heap.size arr) H b ↔ Own μ H b := fun b => by simp only [Own, hblk]
  have hsame : ∀ b, b < w.heap.size → (wpush w (.cells arr el fr)).heap[b]? = w.heap[b]? := fun b hb => hat.same b (by omega) hb
  refine ⟨⟨hw.len, ?_, ?_, ?_, ?_, ?_, ?_, ?_, hw.newLoc, hw.newMap, hw.newSt⟩, hext, ⟨hat.size, fun b hb _ => hsame b hb, hat.tape, hat.os, hat.output⟩, ?_⟩
  · intro b i v h
    by_cases e : b = w.heap.size
    · subst e
      simp [Mu.imms] at h
      unfold World.cell?; rw [wpush_get]; simp [h]
    · simp [Mu.imms, e] at h
      have := hw.imm _ _ _ h
      rw [cell_same (hsame b (cell_lt this))]; exact this
  · intro b i v h
    have := hw.bor _ _ _ h
    rw [cell_same (hsame b (cell_lt this))]; exact this
  · intro b i v h hx
    rw [hown] at hx
    by_cases e : b = w.heap.size
    · subst e
      obtain ⟨o, ho⟩ := hx
      have := blk_lt hw ho; omega
    · simp [Mu.imms, e] at h; exact hw.immOwn _ _ _ h hx
  · intro b i v h hx
    rw [hown] at hx; exact hw.borOwn _ _ _ h hx
  · intro o cs st ho
    obtain ⟨b, base, n, hl, hc⟩ := hw.cells _ _ _ ho
    have hb : blk μ H o = some b := by unfold blk; rw [ho]; simp [hl]
    exact ⟨b, base, n, hl, hc.keep (hsame b (blk_lt hw hb)) hmono⟩
  · intro o es ho
    obtain ⟨r, hl, hc⟩ := hw.maps _ _ ho
    have hb : blk μ H o = some r := by unfold blk; rw [ho]; exact hl
    exact ⟨r, hl, hc.keep (hsame r (blk_lt hw hb)) hmono⟩
  · intro o o' b h1 h2
    rw [hblk] at h1 h2; exact hw.apart _ _ _ h1 h2
  · intro b hb _
    exact (hown b).1 hb

theorem imm_new {μ : Mu} {H : Heap} {w : World} (hw : WR μ H w) (el : TypeId) (fr : Nat × Nat) {cs : List AV} {arr : Array Value} (hv : ∀ (j : Nat) (c : AV), cs[j]? = some c → ∃ v, arr[j]? = some v ∧ VR μ c v) :
    ∃ μ', Stp μ H w μ' H (wpush w (.cells arr el fr)) ∧ VRC μ' μ'.imm w.heap.size 0 cs := by
  have hs := stp_imm hw arr el fr
  refine ⟨_, hs, VRC.mk fun j c hj => ?_⟩
  obtain ⟨v, h1, h2⟩ := hv j c hj
  exact ⟨v, by simp [Mu.imms, h1], VR.ext hs.ext h2⟩

theorem vrl_arr {μ : Mu} {cs : List AV} {arr : Array Value} (hv : VRL μ cs arr.toList) : ∀ (j : Nat) (c : AV), cs[j]? = some c → ∃ v, arr[j]? = some v ∧ VR μ c v := by
  intro j c hj
  obtain ⟨v, h1, h2⟩ := hv.get j c hj
  exact ⟨v, by simpa using h1, h2⟩

theorem box_imm_sound {μ : Mu} {H : Heap} {w : World} (hw : WR μ H w) (t : TypeId) {x : AV} {xv : Value} (hx : VR μ x xv) :
    ∃ μ' w' rv, (Instr.box t xv).run P w = .ok rv w' ∧ Stp μ H w μ' H w' ∧ VR μ' (.vptr false x.parts) rv := by
  obtain ⟨μ', hs, hc⟩ := imm_new hw t (0, 0) (vrl_arr (arr := xv.cells) hx.parts)
  refine ⟨μ', _, .pointer (some ⟨w.heap.size, 0, none⟩), by simp [Instr.box, newVar, run_alloc], hs, ?_⟩
  simp only [VR]
  exact ⟨_, _, rfl, by simpa using hc⟩

/-! Structs and literals. -/
theorem fill_over (off : Nat) (l : List Value) : ∀ (k : Nat) (cells : Array Value), (l.zipIdx k).foldl (fun cs x => cs.setIfInBounds (off + x.2) x.1) cells = over cells (off + k) l := by
  induction l with
  | nil => intro k cells; rfl
  | cons v l ih =>
    intro k cells
    simp only [List.zipIdx_cons, List.foldl_cons, over]
    rw [ih]; rfl

theorem vrl_over {μ : Mu} {cs vs : List AV} {arr : Array Value} {us : List Value} {off : Nat} (hc : VRL μ cs arr.toList) (hv : VRL μ vs us) (h : off + vs.length ≤ cs.length) :
    VRL μ (splice cs off vs) (over arr off us).toList := by
  have hl := hc.length
  have hu := hv.length
  simp at hl
  refine VRL.mk (by rw [splice_length h]; simp [over_size, hl]) fun j c hj => ?_
  rw [splice_get h] at hj
  rw [Array.getElem?_toList, over_get _ _ _ _ (by omega)]
  split at hj
  · rw [if_pos (by omega)]; exact hv.get _ _ hj
  · rw [if_neg (by omega)]; simpa using hc.get _ _ hj

/-- The parts of a literal: places, and operands that stand for values. -/
inductive Parts (μ : Mu) (place : Nat → Option (Nat × Nat)) : List (Nat × Nat × AV) → List (Nat × Value) → Prop where
  | nil : Parts μ place [] []
  | cons {i off n : Nat} {a : AV} {v : Value} {as : List (Nat × Nat × AV)} {vs : List (Nat × Value)} (hp : place i = some (off, n)) (hv : VR μ a v) (h : Parts μ place as vs) :
      Parts μ place ((off, n, a) :: as) ((i, v) :: vs)

theorem fill_sound {μ : Mu} {place : Nat → Option (Nat × Nat)} {as : List (Nat × Nat × AV)} {vs : List (Nat × Value)} (h : Parts μ place as vs) :
    ∀ {cs cs' : List AV} {arr : Array Value}, VRL μ cs arr.toList → fillV cs as = some cs' → ∃ arr', Instr.fill place arr vs = some arr' ∧ VRL μ cs' arr'.toList := by
  induction h with
  | nil => intro cs cs' arr hc hf; simp [fillV] at hf; subst hf; exact ⟨arr, rfl, hc⟩
  | @cons i off n a v as vs hp hv h ih =>
    intro cs cs' arr hc hf
    simp only [fillV] at hf
    split at hf
    · rename_i hcond
      obtain ⟨h1, h2⟩ := hcond
      have hpl := hv.parts.length
      have hcl := hc.length
      simp at hpl hcl
      obtain ⟨arr', h3, h4⟩ := ih (vrl_over hc hv.parts (by omega)) hf
      refine ⟨arr', ?_, h4⟩
      simp only [Instr.fill, hp]
      have hsz : v.cells.size = n := by omega
      have hno : ¬ (off + n > arr.size) := by omega
      simp only [hsz, ne_eq, not_true_eq_false, decide_false, Bool.false_or, hno, Bool.false_eq_true, if_false]
      have e : (v.cells.zipIdx.foldl (fun cs (x : Value × Nat) => cs.setIfInBounds (off + x.2) x.1) arr) = over arr off v.cells.toList := by
        rw [← Array.foldl_toList, Array.toList_zipIdx]
        exact fill_over off _ 0 arr
      rw [← h3, ← e]
    · simp at hf

theorem struct_build_sound {μ : Mu} {H : Heap} {w : World} (_hw : WR μ H w) {t : TypeId} {zero : List AV} (hz : Zero P t zero) {fs : Array Field} (hu : P.underlying t = some (.struct fs))
    {pl : Array (Nat × Nat)} (hpl : (fs.mapM fun f => do pure (f.offset, ← sizeOf f.type) : Sem (Array (Nat × Nat))).run P w = .ok pl w)
    {as : List (Nat × Nat × AV)} {vs : Array (Nat × Value)} (hp : Parts μ (pl[·]?) as vs.toList) {cs : List AV} (hf : fillV zero as = some cs) :
    ∃ rv, (Instr.build t vs).run P w = .ok rv w ∧ VR μ (.agg cs) rv := by
  obtain ⟨i, z, h1, h2, h3⟩ := hz.ex
  obtain ⟨arr', h4, h5⟩ := fill_sound hp (h3 μ) hf
  refine ⟨.agg arr', ?_, by simp only [VR]; exact ⟨arr'.toList, by simp, h5⟩⟩
  simp only [Instr.build, zeroValue, typeInfo, Sem.run_bind, run_program, Result.andThen, h1, h2, Sem.run_pure, run_underlying hu, hpl, h4]

theorem array_build_sound {μ : Mu} {H : Heap} {w : World} (_hw : WR μ H w) {t e : TypeId} {len esz : Nat} {ag : Bool} {zero : List AV} (hz : Zero P t zero) (hu : P.underlying t = some (.array len e)) (he : Ty P e esz ag)
    {as : List (Nat × Nat × AV)} {vs : Array (Nat × Value)} (hp : Parts μ (fun i => some (i * esz, esz)) as vs.toList) {cs : List AV} (hf : fillV zero as = some cs) :
    ∃ rv, (Instr.build t vs).run P w = .ok rv w ∧ VR μ (.agg cs) rv := by
  obtain ⟨i, z, h1, h2, h3⟩ := hz.ex
  obtain ⟨arr', h4, h5⟩ := fill_sound hp (h3 μ) hf
  refine ⟨.agg arr', ?_, by simp only [VR]; exact ⟨arr'.toList, by simp, h5⟩⟩
  simp only [Instr.build, zeroValue, typeInfo, Sem.run_bind, run_program, Result.andThen, h1, h2, Sem.run_pure, run_underlying hu, he.sizeOf, h4]

theorem zeros_length (zero : List AV) (n : Nat) : (zeros zero n).length = n * zero.length := by
  induction n with
  | zero => simp [zeros]
  | succ n ih => simp [zeros, ih, Nat.succ_mul]; omega
theorem zeros_get (zero : List AV) : ∀ (n j : Nat), j < n * zero.length → (zeros zero n)[j]? = zero[j % zero.length]? := by
  intro n
  induction n with
  | zero => intro j h; simp at h
  | succ n ih =>
    intro j h
    simp only [zeros]
    rw [List.getElem?_append]
    split
    · rw [Nat.mod_eq_of_lt ‹_›]
    · rw [ih _ (by rw [Nat.succ_mul] at h; omega)]
      have hlt : zero.length ≤ j := by omega
      rw [Nat.mod_eq_sub_mod hlt]

/-- A row of zero values. -/
theorem zero_row {μ : Mu} {zero : List AV} {z : Value} (hz : VRL μ zero z.cells.toList) (n : Nat) :
    VRL μ (zeros zero n) ((Array.range (n * z.cells.size)).map (z.cells[· % z.cells.size]!)).toList := by
  have hl := hz.length
  simp at hl
  refine VRL.mk (by simp [zeros_length, hl]) fun j c hj => ?_
  have hlt : j < n * zero.length := by
    have := (List.getElem?_eq_some_iff.1 hj).1; rwa [zeros_length] at this
  rw [zeros_get _ _ _ hlt] at hj
  obtain ⟨v, h1, h2⟩ := hz.get _ _ hj
  refine ⟨v, ?_, h2⟩
  rw [hl]
  simp [hlt]
  simp at h1
  obtain ⟨hm, hv⟩ := Array.getElem?_eq_some_iff.1 h1
  simp [hm, hv]

theorem slice_build_sound {μ : Mu} {H : Heap} {w : World} (hw : WR μ H w) {t e : TypeId} {esz len : Nat} {ag : Bool} (imm : Bool) {zero : List AV} (hz : Zero P e zero) (hzl : zero.length = esz) (hu : P.underlying t = some (.slice e)) (he : Ty P e esz ag)
    (hmax : len * esz ≤ 2 ^ 24) {as : List (Nat × Nat × AV)} {vs : Array (Nat × Value)} (hp : Parts μ (fun i => some (i * esz, esz)) as vs.toList) {cs : List AV} (hf : fillV (zeros zero len) as = some cs)
    (hcl : cs.length = len * esz) :
    ∃ μ' w' rv, (Instr.buildSlice t len vs).run P w = .ok rv w' ∧ Stp μ H w μ' (if imm then H else H.push (.cells cs 0)) w' ∧
      VR μ' (if imm then .vslice false cs len esz true else .slice H.next 0 0 len esz true) rv := by
  obtain ⟨i, z, h1, h2, h3⟩ := hz.ex
  have hzz : z.cells.size = esz := by have := (h3 μ).length; simp at this; omega
  have hrow := zero_row (h3 μ) len
  obtain ⟨arr', h4, h5⟩ := fill_sound hp hrow hf
  have hal := h5.length
  simp at hal
  have hrun : (Instr.buildSlice t len vs).run P w = .ok (.slice (some ⟨w.heap.size, 0, none⟩) len len) (wpush w (.cells arr' e)) := by
    have hno : ¬ (len * esz > 2 ^ 24) := by omega
    simp only [Instr.buildSlice, Sem.run_bind, run_underlying hu, Result.andThen, he.sizeOf, hno, if_false]
    by_cases h0 : len * esz = 0
    · rw [hzz] at h4
      have e0 : ∀ f : Nat → Value, (Array.range 0).map f = #[] := fun f => by apply Array.ext'; simp
      rw [h0, e0] at h4
      simp only [h0, if_true, Sem.run_pure, e0, h4]
      simp [run_alloc]
    · rw [hzz] at h4
      simp only [h0, if_false, zeroValue, typeInfo, Sem.run_bind, run_program, Result.andThen, h1, h2, Sem.run_pure, hzz, h4]
      simp [run_alloc]
  cases imm with
  | true =>
    obtain ⟨μ', hs, hc⟩ := imm_new hw e (0, 0) (vrl_arr h5)
    refine ⟨μ', _, _, hrun, by simpa using hs, ?_⟩
    simp only [if_true, VR]
    exact ⟨_, _, _, rfl, Nat.le_refl _, fun _ => rfl, hcl, by simpa using hc⟩
  | false =>
    obtain ⟨μ', _, hs, hl⟩ := new_sound (P := P) hw e (arr := arr') h5
    refine ⟨μ', _, _, hrun, by simpa using hs, ?_⟩
    simp only [Bool.false_eq_true, if_false, VR]
    exact ⟨_, _, _, _, _, hl, rfl, Nat.le_refl _, fun _ => rfl, fun _ => ⟨by simp, by omega⟩⟩

end Go.AM
