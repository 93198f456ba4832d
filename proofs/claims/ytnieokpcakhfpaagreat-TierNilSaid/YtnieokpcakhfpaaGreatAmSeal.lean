/-
  What a pure function hands back, and what it is lent.
-/
import Derived.Test.YtnieokpcakhfpaaGreatAmRun5
namespace Go.AM

variable {P : Program}

/-! Values that hold no reference into the heap, or none that is only lent. -/
mutual
theorem VR.gen {μ μ' : Mu} (hi : ∀ b i v, μ.imm b i = some v → μ'.imm b i = some v) : ∀ (a : AV) (v : Value),
    (a.closed = true ∨ ((∀ o st x, μ.loc o st = some x → μ'.loc o st = some x) ∧ ∀ o x, μ.mloc o = some x → μ'.mloc o = some x)) →
    (a.noBr = true ∨ ∀ b i v, μ.bor b i = some v → μ'.bor b i = some v) → VR μ a v → VR μ' a v
  | .bool b, v, _, _, h => by simpa [VR] using h
  | .int k n, v, _, _, h => by simpa [VR] using h
  | .str s, v, _, _, h => by simpa [VR] using h
  | .nilp, v, _, _, h => by simpa [VR] using h
  | .ptr o st off, v, hc, _, h => by
    simp only [VR] at h ⊢
    obtain ⟨b, base, n, h1, h2⟩ := h
    simp only [AV.closed, Bool.false_eq_true, false_or] at hc
    exact ⟨b, base, n, hc.1 _ _ _ h1, h2⟩
  | .vptr br cs, v, hc, hb, h => by
    simp only [AV.closed] at hc
    simp only [AV.noBr, Bool.and_eq_true, Bool.not_eq_true'] at hb
    simp only [VR] at h ⊢
    obtain ⟨b, i, h1, h2⟩ := h
    refine ⟨b, i, h1, ?_⟩
    cases br
    · exact VRC.gen hi hi cs b i hc (hb.imp (·.2) id) h2
    · rcases hb with hb | hb
      · simp at hb
      · exact VRC.gen hi hb cs b i hc (.inr hb) h2
  | .nils, v, _, _, h => by simpa [VR] using h
  | .slice o st off len esz tight, v, hc, _, h => by
    simp only [VR] at h ⊢
    obtain ⟨b, base, n, i, cap, h1, h2⟩ := h
    simp only [AV.closed, Bool.false_eq_true, false_or] at hc
    exact ⟨b, base, n, i, cap, hc.1 _ _ _ h1, h2⟩
  | .vslice br cs len esz tight, v, hc, hb, h => by
    simp only [AV.closed] at hc
    simp only [AV.noBr, Bool.and_eq_true, Bool.not_eq_true'] at hb
    simp only [VR] at h ⊢
    obtain ⟨b, i, cap, h1, h2, h3, h4, h5⟩ := h
    refine ⟨b, i, cap, h1, h2, h3, h4, ?_⟩
    cases br
    · exact VRC.gen hi hi cs b i hc (hb.imp (·.2) id) h5
    · rcases hb with hb | hb
      · simp at hb
      · exact VRC.gen hi hb cs b i hc (.inr hb) h5
  | .nilm, v, _, _, h => by simpa [VR] using h
  | .map o, v, hc, _, h => by
    simp only [VR] at h ⊢
    obtain ⟨r, h1, h2⟩ := h
    simp only [AV.closed, Bool.false_eq_true, false_or] at hc
    exact ⟨r, hc.2 _ _ h1, h2⟩
  | .nilf, v, _, _, h => by simpa [VR] using h
  | .func f cap, v, hc, hb, h => by
    simp only [AV.closed] at hc
    simp only [AV.noBr] at hb
    simp only [VR] at h ⊢
    obtain ⟨vs, h1, h2⟩ := h
    exact ⟨vs, h1, VRL.gen hi cap vs hc hb h2⟩
  | .agg cs, v, hc, hb, h => by
    simp only [AV.closed] at hc
    simp only [AV.noBr] at hb
    simp only [VR] at h ⊢
    obtain ⟨vs, h1, h2⟩ := h
    exact ⟨vs, h1, VRL.gen hi cs vs hc hb h2⟩
  | .tup cs, v, hc, hb, h => by
    simp only [AV.closed] at hc
    simp only [AV.noBr] at hb
    simp only [VR] at h ⊢
    obtain ⟨vs, h1, h2⟩ := h
    exact ⟨vs, h1, VRL.gen hi cs vs hc hb h2⟩
theorem VRC.gen {μ μ' : Mu} (hi : ∀ b i v, μ.imm b i = some v → μ'.imm b i = some v) {m m' : Nat → Nat → Option Value} (hmm : ∀ b i v, m b i = some v → m' b i = some v) : ∀ (cs : List AV) (b i : Nat),
    (closedL cs = true ∨ ((∀ o st x, μ.loc o st = some x → μ'.loc o st = some x) ∧ ∀ o x, μ.mloc o = some x → μ'.mloc o = some x)) →
    (noBrL cs = true ∨ ∀ b i v, μ.bor b i = some v → μ'.bor b i = some v) → VRC μ m b i cs → VRC μ' m' b i cs
  | [], _, _, _, _, _ => by simp [VRC]
  | c :: cs, b, i, hc, hb, h => by
    simp only [closedL, Bool.and_eq_true] at hc
    simp only [noBrL, Bool.and_eq_true] at hb
    simp only [VRC] at h ⊢
    obtain ⟨⟨v, h1, h2⟩, h3⟩ := h
    exact ⟨⟨v, hmm _ _ _ h1, VR.gen hi c v (hc.imp (·.1) id) (hb.imp (·.1) id) h2⟩, VRC.gen hi hmm cs b (i + 1) (hc.imp (·.2) id) (hb.imp (·.2) id) h3⟩
theorem VRL.gen {μ μ' : Mu} (hi : ∀ b i v, μ.imm b i = some v → μ'.imm b i = some v) : ∀ (cs : List AV) (vs : List Value),
    (closedL cs = true ∨ ((∀ o st x, μ.loc o st = some x → μ'.loc o st = some x) ∧ ∀ o x, μ.mloc o = some x → μ'.mloc o = some x)) →
    (noBrL cs = true ∨ ∀ b i v, μ.bor b i = some v → μ'.bor b i = some v) → VRL μ cs vs → VRL μ' cs vs
  | [], _, _, _, h => by simpa [VRL] using h
  | c :: cs, vs, hc, hb, h => by
    simp only [closedL, Bool.and_eq_true] at hc
    simp only [noBrL, Bool.and_eq_true] at hb
    simp only [VRL] at h ⊢
    obtain ⟨v, vs', h1, h2, h3⟩ := h
    exact ⟨v, vs', h1, VR.gen hi c v (hc.imp (·.1) id) (hb.imp (·.1) id) h2, VRL.gen hi cs vs' (hc.imp (·.2) id) (hb.imp (·.2) id) h3⟩
end

theorem mapO_spec {α β : Type} {f : α → Option β} : ∀ {l : List α} {l' : List β}, mapO f l = some l' → l'.length = l.length ∧ ∀ (j : Nat) (y : β), l'[j]? = some y → ∃ x, l[j]? = some x ∧ f x = some y
  | [], l', h => by simp [mapO] at h; subst h; exact ⟨rfl, fun j y hj => by simp at hj⟩
  | x :: l, l', h => by
    simp only [mapO] at h
    split at h
    · simp at h
    · rename_i y hy
      split at h
      · simp at h
      · rename_i ys hys
        simp at h; subst h
        obtain ⟨h1, h2⟩ := mapO_spec hys
        refine ⟨by simp [h1], fun j z hj => ?_⟩
        cases j with
        | zero => simp at hj; subst hj; exact ⟨x, rfl, hy⟩
        | succ j => simp at hj; simpa using h2 j z hj
theorem mapO_congr {α β : Type} {f g : α → Option β} : ∀ {l : List α} {l' : List β}, mapO f l = some l' → (∀ x y, f x = some y → g x = some y) → mapO g l = some l'
  | [], l', h, _ => by simpa [mapO] using h
  | x :: l, l', h, hfg => by
    simp only [mapO] at h ⊢
    split at h
    · simp at h
    · rename_i y hy
      split at h
      · simp at h
      · rename_i ys hys
        rw [hfg _ _ hy]; simp only
        rw [mapO_congr hys hfg]; exact h

theorem own_of {μ : Mu} {H : Heap} {o : Nat} {cs : List AV} {st b base n : Nat} (ho : H.get o = some (.cells cs st)) (hl : μ.loc o st = some (b, base, n)) : Own μ H b := ⟨o, by simp [blk, ho, hl]⟩

/-- What references lead to, in their place. -/
theorem cvt_sound {μ ν : Mu} {H : Heap} {w : World} {br : Bool} (hw : WR μ H w) (hi : ∀ b i v, μ.imm b i = some v → ν.imm b i = some v) (hb : ∀ b i v, μ.bor b i = some v → ν.bor b i = some v)
    (hown : ∀ b i v, Own μ H b → w.cell? ⟨b, i, none⟩ = some v → (if br then ν.bor else ν.imm) b i = some v) : ∀ (n : Nat) (a r : AV) (x : Value), cvt br H n a = some r → VR μ a x → VR ν r x
  | 0, a, r, x, h, _ => by simp [cvt] at h
  | n + 1, a, r, x, h, hv => by
    have IH := cvt_sound hw hi hb hown n
    have lists : ∀ {cs cs' : List AV} {vs : List Value}, mapO (cvt br H n) cs = some cs' → VRL μ cs vs → VRL ν cs' vs := fun {cs cs' vs} hm hl => by
      obtain ⟨h1, h2⟩ := mapO_spec hm
      refine VRL.mk (by rw [hl.length, h1]) fun j c hj => ?_
      obtain ⟨y, hy, hc⟩ := h2 j c hj
      obtain ⟨v, hv, hr⟩ := hl.get j y hy
      exact ⟨v, hv, IH _ _ _ hc hr⟩
    have cellsC : ∀ {cs cs' : List AV} {m m' : Nat → Nat → Option Value} {b i : Nat}, (∀ b i v, m b i = some v → m' b i = some v) → mapO (cvt br H n) cs = some cs' → VRC μ m b i cs → VRC ν m' b i cs' := fun {cs cs' m m' b i} hmm hm hl => by
      obtain ⟨h1, h2⟩ := mapO_spec hm
      refine VRC.mk fun j c hj => ?_
      obtain ⟨y, hy, hc⟩ := h2 j c hj
      obtain ⟨v, hv, hr⟩ := hl.get j y hy
      exact ⟨v, hmm _ _ _ hv, IH _ _ _ hc hr⟩
    cases a <;> simp only [cvt] at h
    case bool b => simp at h; subst h; simpa [VR] using hv
    case int k m => simp at h; subst h; simpa [VR] using hv
    case str s => simp at h; subst h; simpa [VR] using hv
    case nilp => simp at h; subst h; simpa [VR] using hv
    case nils => simp at h; subst h; simpa [VR] using hv
    case nilm => simp at h; subst h; simpa [VR] using hv
    case nilf => simp at h; subst h; simpa [VR] using hv
    case map o => simp at h
    case ptr o st off =>
      split at h
      · rename_i cs st' ho
        split at h
        · rename_i e
          subst e
          simp only [Option.map_eq_some_iff] at h
          obtain ⟨cs', hm, rfl⟩ := h
          simp only [VR] at hv ⊢
          obtain ⟨b, base, m, hl, rfl⟩ := hv
          obtain ⟨b', base', m', hl', hc⟩ := hw.cells _ _ _ ho
          rw [hl] at hl'; simp at hl'; obtain ⟨rfl, rfl, rfl⟩ := hl'
          refine ⟨b, base + off, rfl, VRC.mk fun j c hj => ?_⟩
          obtain ⟨h1, h2⟩ := mapO_spec hm
          obtain ⟨y, hy, hcv⟩ := h2 j c hj
          rw [List.getElem?_drop] at hy
          obtain ⟨v, hcell, hr⟩ := hc.cell _ _ hy
          refine ⟨v, hown _ _ _ (own_of ho hl) ?_, IH _ _ _ hcv hr⟩
          rw [Nat.add_assoc]; exact hcell
        · simp at h
      · simp at h
    case slice o st off len esz tight =>
      split at h
      · rename_i cs st' ho
        split at h
        · rename_i e
          obtain ⟨e, hle⟩ := e
          subst e
          simp only [Option.map_eq_some_iff] at h
          obtain ⟨cs', hm, rfl⟩ := h
          simp only [VR] at hv ⊢
          obtain ⟨b, base, m, i, cap, hl, rfl, hcap, ht, hpos⟩ := hv
          obtain ⟨b', base', m', hl', hc⟩ := hw.cells _ _ _ ho
          rw [hl] at hl'; simp at hl'; obtain ⟨rfl, rfl, rfl⟩ := hl'
          obtain ⟨h1, h2⟩ := mapO_spec hm
          refine ⟨b, i, cap, rfl, hcap, ht, ?_, VRC.mk fun j c hj => ?_⟩
          · rw [h1]; simp; omega
          · obtain ⟨y, hy, hcv⟩ := h2 j c hj
            have hjl : j < len * esz := by
              have := (List.getElem?_eq_some_iff.1 hy).1
              simp at this; omega
            rw [List.getElem?_take_of_lt hjl, List.getElem?_drop] at hy
            have hc0 : 0 < cap := by
              rcases Nat.eq_zero_or_pos cap with h0 | h0
              · have : len = 0 := by omega
                subst this; simp at hjl
              · exact h0
            obtain ⟨hi', _⟩ := hpos hc0
            obtain ⟨v, hcell, hr⟩ := hc.cell _ _ hy
            refine ⟨v, hown _ _ _ (own_of ho hl) ?_, IH _ _ _ hcv hr⟩
            rw [hi', Nat.add_assoc]; exact hcell
        · simp at h
      · simp at h
    case vptr b cs =>
      simp only [Option.map_eq_some_iff] at h
      obtain ⟨cs', hm, rfl⟩ := h
      simp only [VR] at hv ⊢
      obtain ⟨c, i, h1, h2⟩ := hv
      refine ⟨c, i, h1, cellsC (fun b' i v => ?_) hm h2⟩
      cases b
      · exact hi _ _ _
      · exact hb _ _ _
    case vslice b cs len esz tight =>
      simp only [Option.map_eq_some_iff] at h
      obtain ⟨cs', hm, rfl⟩ := h
      simp only [VR] at hv ⊢
      obtain ⟨c, i, cap, h1, h2, h3, h4, h5⟩ := hv
      refine ⟨c, i, cap, h1, h2, h3, by rw [(mapO_spec hm).1, h4], cellsC (fun b' i v => ?_) hm h5⟩
      cases b
      · exact hi _ _ _
      · exact hb _ _ _
    case func f cs =>
      simp only [Option.map_eq_some_iff] at h
      obtain ⟨cs', hm, rfl⟩ := h
      simp only [VR] at hv ⊢
      obtain ⟨vs, h1, h2⟩ := hv
      exact ⟨vs, h1, lists hm h2⟩
    case agg cs =>
      simp only [Option.map_eq_some_iff] at h
      obtain ⟨cs', hm, rfl⟩ := h
      simp only [VR] at hv ⊢
      obtain ⟨vs, h1, h2⟩ := hv
      exact ⟨vs, h1, lists hm h2⟩
    case tup cs =>
      simp only [Option.map_eq_some_iff] at h
      obtain ⟨cs', hm, rfl⟩ := h
      simp only [VR] at hv ⊢
      obtain ⟨vs, h1, h2⟩ := hv
      exact ⟨vs, h1, lists hm h2⟩

theorem cvt_heap {br : Bool} {H K : Heap} (h : ∀ o x, H.get o = some x → K.get o = some x) : ∀ (n : Nat) (a r : AV), cvt br H n a = some r → cvt br K n a = some r
  | 0, a, r, hr => by simp [cvt] at hr
  | n + 1, a, r, hr => by
    have lists : ∀ {cs cs' : List AV}, mapO (cvt br H n) cs = some cs' → mapO (cvt br K n) cs = some cs' := fun hm => mapO_congr hm (cvt_heap h n)
    cases a <;> simp only [cvt] at hr ⊢ <;> (try exact hr)
    case ptr o st off =>
      split at hr
      · rename_i cs st' ho
        rw [h _ _ ho]; simp only
        split at hr
        · rename_i e
          rw [if_pos e]
          simp only [Option.map_eq_some_iff] at hr ⊢
          obtain ⟨cs', hm, rfl⟩ := hr
          exact ⟨cs', lists hm, rfl⟩
        · simp at hr
      · simp at hr
    case slice o st off len esz tight =>
      split at hr
      · rename_i cs st' ho
        rw [h _ _ ho]; simp only
        split at hr
        · rename_i e
          rw [if_pos e]
          simp only [Option.map_eq_some_iff] at hr ⊢
          obtain ⟨cs', hm, rfl⟩ := hr
          exact ⟨cs', lists hm, rfl⟩
        · simp at hr
      · simp at hr
    all_goals
      simp only [Option.map_eq_some_iff] at hr ⊢
      obtain ⟨cs', hm, rfl⟩ := hr
      exact ⟨cs', lists hm, rfl⟩

/-! Pure functions. -/
/-- A pure function, by itself: what it answers on a heap of its own. -/
def DenSound (P : Program) (f : Nat) (g : List AV → Option AV) : Prop :=
  ∀ as r, g as = some r → Callable P f ∧ ∀ μ w vs, WR μ Heap.empty w → VRL μ as vs →
    Calls P f vs.toArray w fun e w' => ∃ μ' x, e = .returned x ∧ VR μ' r x ∧ Stp μ Heap.empty w μ' Heap.empty w'
/-- A function that works on the caller's heap. -/
def HSound (P : Program) (f : Nat) (g : Heap → List AV → Option (AV × Heap)) : Prop :=
  ∀ H args r H', g H args = some (r, H') → Callable P f ∧ ∀ μ w vs, WR μ H w → VRL μ args vs →
    Calls P f vs.toArray w fun e w' => ∃ μ' x, e = .returned x ∧ VR μ' r x ∧ Stp μ H w μ' H' w'

theorem own_empty (μ : Mu) (b : Nat) : ¬ Own μ Heap.empty b := fun ⟨o, h⟩ => by simp [blk, Heap.get_empty] at h

theorem WR.empty {μ : Mu} {w : World} (hi : ∀ b i v, μ.imm b i = some v → w.cell? ⟨b, i, none⟩ = some v) (hb : ∀ b i v, μ.bor b i = some v → w.cell? ⟨b, i, none⟩ = some v)
    (hl : ∀ o st, μ.loc o st = none) (hm : ∀ o, μ.mloc o = none) : WR μ Heap.empty w where
  len := rfl
  imm := hi
  bor := hb
  immOwn := fun _ _ _ _ => own_empty _ _
  borOwn := fun _ _ _ _ => own_empty _ _
  cells := fun o cs st h => by simp [Heap.get_empty] at h
  maps := fun o es h => by simp [Heap.get_empty] at h
  apart := fun o o' b h => absurd ⟨o, h⟩ (own_empty μ b)
  newLoc := fun o st _ => hl o st
  newMap := fun o _ => hm o
  newSt := fun o cs st st' h => by simp [Heap.get_empty] at h

theorem cell_block {w : World} {b i : Nat} {v : Value} (h : w.cell? ⟨b, i, none⟩ = some v) : b < w.heap.size := by
  unfold World.cell? at h
  split at h
  · rename_i c _ _ hb
    exact (Array.getElem?_eq_some_iff.1 hb).1
  · simp at h
theorem cell_same' {w w' : World} {b i : Nat} (h : w'.heap[b]? = w.heap[b]?) : w'.cell? ⟨b, i, none⟩ = w.cell? ⟨b, i, none⟩ := by
  unfold World.cell?
  rw [h]
theorem own_block {μ : Mu} {H : Heap} {w : World} (hw : WR μ H w) {b : Nat} (h : Own μ H b) : b < w.heap.size := by
  obtain ⟨o, h⟩ := h
  unfold blk at h
  split at h
  · rename_i cs st ho
    obtain ⟨b', base, n, hl, hc⟩ := hw.cells _ _ _ ho
    rw [hl] at h; simp at h; subst h
    obtain ⟨arr, el, fr, hb, _⟩ := hc.ex
    exact (Array.getElem?_eq_some_iff.1 hb).1
  · rename_i es ho
    obtain ⟨r, hl, hc⟩ := hw.maps _ _ ho
    rw [hl] at h; simp at h; subst h
    obtain ⟨arr, el, hb, _⟩ := hc.ex
    exact (Array.getElem?_eq_some_iff.1 hb).1
  · simp at h

open Classical in
/-- A run on an empty heap, its answer sealed. -/
theorem seal_sound {μ μ1 : Mu} {H1 : Heap} {w w1 : World} {v r : AV} {x : Value} (hw : WR μ Heap.empty w) (hs : Stp μ Heap.empty w μ1 H1 w1) (hv : VR μ1 v x) (hr : sealV H1 v = some r) :
    ∃ μ', VR μ' r x ∧ Stp μ Heap.empty w μ' Heap.empty w1 := by
  let ν : Mu := { loc := fun _ _ => none, mloc := fun _ => none, bor := μ1.bor, imm := fun b i => if Own μ1 H1 b then w1.cell? ⟨b, i, none⟩ else μ1.imm b i }
  have hi : ∀ b i v, μ1.imm b i = some v → ν.imm b i = some v := fun b i v h => by
    have := hs.wr.immOwn _ _ _ h
    simp only [ν, if_neg this]; exact h
  refine ⟨ν, ?_, ⟨.empty (fun b i v h => ?_) (fun b i v h => hs.wr.bor _ _ _ h) (fun _ _ => rfl) (fun _ => rfl), ⟨fun o st y h => ?_, fun o y h => ?_, fun b i v h => hi _ _ _ (hs.ext.imm _ _ _ h), hs.ext.bor, fun b i v h => ?_⟩, ?_, ?_⟩⟩
  · unfold sealV at hr
    split at hr
    · rename_i hc
      simp at hr; subst hr
      exact VR.gen hi v x (.inl hc) (.inr fun _ _ _ h => h) hv
    · exact cvt_sound (br := false) hs.wr hi (fun _ _ _ h => h) (fun b i v ho hc => by
        simp only [ν, Bool.false_eq_true, if_false, if_pos ho]; exact hc) _ _ _ _ hr hv
  · simp only [ν] at h
    split at h
    · exact h
    · exact hs.wr.imm _ _ _ h
  · rw [hw.newLoc o st (Nat.zero_le _)] at h; simp at h
  · rw [hw.newMap o (Nat.zero_le _)] at h; simp at h
  · simp only [ν] at h
    split at h
    · rename_i ho
      right
      rcases Nat.lt_or_ge b w.heap.size with hlt | hge
      · exact absurd (hs.own b ho hlt) (own_empty _ _)
      · exact hge
    · exact hs.ext.fresh _ _ _ h
  · exact ⟨hs.keeps.size, fun b hb _ => hs.keeps.same b hb (own_empty _ _), hs.keeps.tape, hs.keeps.os, hs.keeps.output⟩
  · exact fun b h _ => absurd h (own_empty _ _)

open Classical in
/-- A pure call in the midst of a caller's heap. -/
theorem callP_sound {f : Nat} {g : List AV → Option AV} (hg : DenSound P f g) : HSound P f (fun H args => lift H (callP g H args)) := by
  intro H args r H' hr
  simp only at hr
  cases hc : callP g H args with
  | none => rw [hc] at hr; simp [lift] at hr
  | some y =>
    rw [hc] at hr; simp [lift] at hr
    obtain ⟨rfl, rfl⟩ := hr
    -- both ways at once: what is lent
    have key : ∀ (as : List AV) (bor' : Mu → World → Nat → Nat → Option Value), g as = some y →
        (∀ (μ : Mu) (w : World), WR μ H w → (∀ b i v, μ.bor b i = some v → bor' μ w b i = some v) ∧ (∀ b i v, bor' μ w b i = some v → w.cell? ⟨b, i, none⟩ = some v) ∧
          (∀ vs, VRL μ args vs → VRL ⟨fun _ _ => none, fun _ => none, μ.imm, bor' μ w⟩ as vs)) →
        (∀ (μ' : Mu) (μ : Mu) (w : World) (x : Value), μ'.bor = bor' μ w → VR μ' y x → VR ⟨μ'.loc, μ'.mloc, μ'.imm, μ.bor⟩ y x) →
        Callable P f ∧ ∀ μ w vs, WR μ H w → VRL μ args vs → Calls P f vs.toArray w fun e w' => ∃ μ' x, e = .returned x ∧ VR μ' y x ∧ Stp μ H w μ' H w' := by
      intro as bor' h1 h2 h3
      obtain ⟨hcall, hden⟩ := hg as y h1
      refine ⟨hcall, fun μ w vs hw hv => ?_⟩
      obtain ⟨k1, k2, k3⟩ := h2 μ w hw
      let μ0 : Mu := ⟨fun _ _ => none, fun _ => none, μ.imm, bor' μ w⟩
      have hw0 : WR μ0 Heap.empty w := .empty hw.imm k2 (fun _ _ => rfl) (fun _ => rfl)
      refine Calls.mono (hden μ0 w vs hw0 (k3 vs hv)) fun e w' ⟨μ1, x, he, hx, hs⟩ => ?_
      let ν : Mu := ⟨μ.loc, μ.mloc, μ1.imm, μ.bor⟩
      have keep : ∀ b, b < w.heap.size → w'.heap[b]? = w.heap[b]? := fun b hb => hs.keeps.same b hb (own_empty _ _)
      have hmono : ∀ a v, VR μ a v → VR ν a v := fun a v h => VR.mono (μ := μ) (μ' := ν) (fun _ _ _ h => h) (fun _ _ h => h) hs.ext.imm (fun _ _ _ h => h) a v h
      have hcellB : ∀ b i v, μ.bor b i = some v → w'.cell? ⟨b, i, none⟩ = some v := fun b i v h => by
        have := hw.bor _ _ _ h
        rw [cell_same' (keep b (cell_block this))]; exact this
      refine ⟨ν, x, he, ?_, ⟨⟨hw.len, hs.wr.imm, hcellB, fun b i v h => ?_, hw.borOwn, fun o cs st ho => ?_, fun o es ho => ?_, hw.apart, hw.newLoc, hw.newMap, hw.newSt⟩,
        ⟨fun _ _ _ h => h, fun _ _ h => h, hs.ext.imm, rfl, hs.ext.fresh⟩, ⟨hs.keeps.size, fun b hb _ => keep b hb, hs.keeps.tape, hs.keeps.os, hs.keeps.output⟩, fun b h _ => h⟩⟩
      · have h4 := h3 μ1 μ w x hs.ext.bor hx
        -- nothing in it leads into the heap of the callee
        refine VR.mono (μ := ⟨μ1.loc, μ1.mloc, μ1.imm, μ.bor⟩) (μ' := ν) (fun o st z h => ?_) (fun o z h => ?_) (fun _ _ _ h => h) (fun _ _ _ h => h) y x h4
        · have := hs.wr.newLoc o st (Nat.zero_le _)
          rw [this] at h; simp at h
        · have := hs.wr.newMap o (Nat.zero_le _)
          rw [this] at h; simp at h
      · intro ho
        have hb := own_block hw ho
        rcases hs.ext.fresh _ _ _ h with h | h
        · exact hw.immOwn _ _ _ h ho
        · omega
      · obtain ⟨b, base, n, hl, hcs⟩ := hw.cells o cs st ho
        obtain ⟨arr, el, fr, e1, e2, e3, e4, e5⟩ := hcs.ex
        exact ⟨b, base, n, hl, ⟨arr, el, fr, by rw [keep b (Array.getElem?_eq_some_iff.1 e1).1]; exact e1, e2, e3, e4, fun j c hj => let ⟨v, h1, h2⟩ := e5 j c hj; ⟨v, h1, hmono _ _ h2⟩⟩⟩
      · obtain ⟨b, hl, hcs⟩ := hw.maps o es ho
        obtain ⟨ents, clock, e1, e2, ebo, e3⟩ := hcs.ex
        exact ⟨b, hl, ⟨ents, clock, by rw [keep b (Array.getElem?_eq_some_iff.1 e1).1]; exact e1, e2, ebo, fun j e p h1 h2 => ⟨hmono _ _ (e3 j e p h1 h2).1, hmono _ _ (e3 j e p h1 h2).2⟩⟩⟩
    unfold callP at hc
    split at hc
    · rename_i hcl
      refine key args (fun μ _ => μ.bor) hc (fun μ w hw => ⟨fun _ _ _ h => h, hw.bor, fun vs hv => VRL.gen (μ := μ) (μ' := ⟨fun _ _ => none, fun _ => none, μ.imm, μ.bor⟩) (fun _ _ _ h => h) args vs (.inl hcl) (.inr fun _ _ _ h => h) hv⟩) (fun μ' μ w x hb hx => ?_)
      have : (⟨μ'.loc, μ'.mloc, μ'.imm, μ.bor⟩ : Mu) = μ' := by rw [← hb]
      rw [this]; exact hx
    · split at hc
      · simp at hc
      · rename_i as has
        split at hc
        · simp at hc
        · rename_i y' hy'
          split at hc
          · rename_i hnb
            simp at hc; subst hc
            refine key as (fun μ w b i => if Own μ H b then w.cell? ⟨b, i, none⟩ else μ.bor b i) hy' (fun μ w hw => ⟨fun b i v h => ?_, fun b i v h => ?_, fun vs hv => ?_⟩) (fun μ' μ w x hb hx => ?_)
            · rw [if_neg (hw.borOwn _ _ _ h)]; exact h
            · split at h
              · exact h
              · exact hw.bor _ _ _ h
            · obtain ⟨h1, h2⟩ := mapO_spec has
              refine VRL.mk (by rw [hv.length, h1]) fun j c hj => ?_
              obtain ⟨a, ha, hcv⟩ := h2 j c hj
              obtain ⟨v, hv1, hv2⟩ := hv.get j a ha
              refine ⟨v, hv1, cvt_sound (μ := μ) (ν := ⟨fun _ _ => none, fun _ => none, μ.imm, fun b i => if Own μ H b then w.cell? ⟨b, i, none⟩ else μ.bor b i⟩) (br := true) hw (fun _ _ _ h => h) (fun b i v h => ?_) (fun b i v ho hcl => ?_) _ _ _ _ hcv hv2⟩
              · simp only; rw [if_neg (hw.borOwn _ _ _ h)]; exact h
              · simp only [if_true]; rw [if_pos ho]; exact hcl
            · exact VR.gen (μ := μ') (μ' := ⟨μ'.loc, μ'.mloc, μ'.imm, μ.bor⟩) (fun _ _ _ h => h) y' x (.inr ⟨fun _ _ _ h => h, fun _ _ h => h⟩) (.inl hnb) hx
          · simp at hc

theorem callP_pure {g : List AV → Option AV} {H : Heap} {args : List AV} {v : AV} {H1 : Heap} (h : lift H (callP g H args) = some (v, H1)) :
    H1 = H ∧ ∀ K : Heap, (closedL args = true ∨ ∀ o x, H.get o = some x → K.get o = some x) → lift K (callP g K args) = some (v, K) := by
  cases hc : callP g H args with
  | none => rw [hc] at h; simp [lift] at h
  | some y =>
    rw [hc] at h; simp [lift] at h
    obtain ⟨rfl, rfl⟩ := h
    refine ⟨rfl, fun K hK => ?_⟩
    unfold callP at hc ⊢
    by_cases hcl : closedL args = true
    · rw [if_pos hcl] at hc ⊢
      rw [hc]; rfl
    · rw [if_neg hcl] at hc ⊢
      rcases hK with hK | hK
      · exact absurd hK hcl
      · split at hc
        · simp at hc
        · rename_i as has
          rw [mapO_congr has (cvt_heap hK deep)]
          simp only
          rw [hc]; rfl

end Go.AM
