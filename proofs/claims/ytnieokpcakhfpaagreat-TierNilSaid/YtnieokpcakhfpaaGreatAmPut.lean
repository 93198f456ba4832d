/-
  Writing an object: a new block, or the block that the object has.
-/
import Derived.Test.YtnieokpcakhfpaaGreatAmRel
namespace Go.AM

theorem cell_lt {w : World} {a : Addr} {v : Value} (h : w.cell? a = some v) : a.block < w.heap.size := by
  unfold World.cell? at h
  rcases Nat.lt_or_ge a.block w.heap.size with hl | hl
  · exact hl
  · rw [Array.getElem?_eq_none hl] at h; simp at h
theorem cell_same {w w' : World} {b i : Nat} (h : w'.heap[b]? = w.heap[b]?) : w'.cell? ⟨b, i, none⟩ = w.cell? ⟨b, i, none⟩ := by
  unfold World.cell?; simp only [h]

theorem blk_lt {μ : Mu} {H : Heap} {w : World} (hw : WR μ H w) {o b : Nat} (h : blk μ H o = some b) : b < w.heap.size := by
  unfold blk at h
  split at h
  · rename_i cs st ho
    obtain ⟨b', base, n, hl, hc⟩ := hw.cells _ _ _ ho
    rw [hl] at h; simp at h; subst h
    obtain ⟨arr, el, fr, h1, _⟩ := hc.ex
    exact (Array.getElem?_eq_some_iff.1 h1).1
  · rename_i es ho
    obtain ⟨r, hl, hc⟩ := hw.maps _ _ ho
    rw [hl] at h; simp at h; subst h
    obtain ⟨ents, clock, h1, _⟩ := hc.ex
    exact (Array.getElem?_eq_some_iff.1 h1).1
  · simp at h

theorem CellsAt.keep {μ μ' : Mu} {w w' : World} {cs : List AV} {b base n : Nat} (h : CellsAt μ w cs b base n) (hs : w'.heap[b]? = w.heap[b]?)
    (hv : ∀ a v, VR μ a v → VR μ' a v) : CellsAt μ' w' cs b base n := by
  obtain ⟨arr, el, fr, h1, h2, h3, h4, h5⟩ := h.ex
  exact ⟨arr, el, fr, by rw [hs]; exact h1, h2, h3, h4, fun j c hj => let ⟨v, a, b⟩ := h5 j c hj; ⟨v, a, hv _ _ b⟩⟩
theorem MapAt.keep {μ μ' : Mu} {w w' : World} {es : List (AV × AV)} {r : Nat} (h : MapAt μ w es r) (hs : w'.heap[r]? = w.heap[r]?)
    (hv : ∀ a v, VR μ a v → VR μ' a v) : MapAt μ' w' es r := by
  obtain ⟨ents, clock, h1, h2, hbo, h3⟩ := h.ex
  exact ⟨ents, clock, by rw [hs]; exact h1, h2, hbo, fun j e p he hp => ⟨hv _ _ (h3 j e p he hp).1, hv _ _ (h3 j e p he hp).2⟩⟩

/-- The knowledge with one more place. -/
def Mu.at (μ : Mu) (o st : Nat) (x : Nat × Nat × Nat) : Mu := { μ with loc := fun p s => if p = o ∧ s = st then some x else μ.loc p s }

theorem Mu.at_ext {μ : Mu} {o st : Nat} {x : Nat × Nat × Nat} (n : Nat) (h : μ.loc o st = none ∨ μ.loc o st = some x) : Ext n μ (μ.at o st x) := by
  refine ⟨fun p s y e => ?_, fun _ _ e => e, fun _ _ _ e => e, rfl, fun _ _ _ e => .inl e⟩
  unfold Mu.at; simp only
  split
  · rename_i hc
    obtain ⟨rfl, rfl⟩ := hc
    rcases h with h | h
    · rw [h] at e; simp at e
    · rw [h] at e; exact e
  · exact e

structure WAt (w w' : World) (b : Nat) : Prop where
  size : w.heap.size ≤ w'.heap.size
  same : ∀ b', b' ≠ b → b' < w.heap.size → w'.heap[b']? = w.heap[b']?
  tape : w'.tape = w.tape
  os : w'.os = w.os
  output : w'.output = w.output

theorem stp_put {μ : Mu} {H H' : Heap} {w w' : World} (hw : WR μ H w) (o st b base n : Nat) (cs : List AV)
    (hget : ∀ p, H'.get p = if p = o then some (.cells cs st) else H.get p) (hlen : H'.objs.length = H'.next) (hnext : H.next ≤ H'.next)
    (hb : w.heap.size ≤ b ∨ blk μ H o = some b) (hw' : WAt w w' b)
    (hloc : μ.loc o st = none ∨ μ.loc o st = some (b, base, n)) (hnew : ∀ s, st < s → μ.loc o s = none)
    (hc : CellsAt μ w' cs b base n) : Stp μ H w (μ.at o st (b, base, n)) H' w' := by
  have hext : Ext w.heap.size μ (μ.at o st (b, base, n)) := Mu.at_ext _ hloc
  have hmono : ∀ a v, VR μ a v → VR (μ.at o st (b, base, n)) a v := fun a v h => VR.ext hext h
  have hne : ∀ p b', p ≠ o → blk μ H p = some b' → b' ≠ b := by
    intro p b' hp h e
    subst e
    rcases hb with hb | hb
    · have := blk_lt hw h; omega
    · exact hp (hw.apart _ _ _ h hb)
  have ho : H'.get o = some (.cells cs st) := by rw [hget, if_pos rfl]
  have hblko : blk (μ.at o st (b, base, n)) H' o = some b := by
    unfold blk; rw [ho]; simp [Mu.at]
  have hblk : ∀ p, p ≠ o → blk (μ.at o st (b, base, n)) H' p = blk μ H p := by
    intro p hp
    unfold blk; rw [hget, if_neg hp]
    split <;> simp [Mu.at, hp]
  have hown : ∀ b', Own (μ.at o st (b, base, n)) H' b' → b' = b ∨ Own μ H b' := by
    rintro b' ⟨p, hp⟩
    by_cases e : p = o
    · subst e; rw [hblko] at hp; simp at hp; exact .inl hp.symm
    · rw [hblk p e] at hp; exact .inr ⟨p, hp⟩
  have himm : ∀ (m : Nat → Nat → Option Value), (∀ b i v, m b i = some v → w.cell? ⟨b, i, none⟩ = some v) → (∀ b i v, m b i = some v → ¬ Own μ H b) →
      ∀ b' i v, m b' i = some v → b' ≠ b ∧ b' < w.heap.size := by
    intro m h1 h2 b' i v h
    have hlt := cell_lt (h1 _ _ _ h)
    refine ⟨fun e => ?_, hlt⟩
    subst e
    rcases hb with hb | hb
    · simp at hlt; omega
    · exact h2 _ _ _ h ⟨o, hb⟩
  refine ⟨⟨hlen, ?_, ?_, ?_, ?_, ?_, ?_, ?_, ?_, ?_, ?_⟩, hext, ⟨hw'.size, ?_, hw'.tape, hw'.os, hw'.output⟩, ?_⟩
  · intro b' i v h
    obtain ⟨h1, h2⟩ := himm μ.imm hw.imm hw.immOwn b' i v h
    rw [cell_same (hw'.same b' h1 h2)]; exact hw.imm _ _ _ h
  · intro b' i v h
    obtain ⟨h1, h2⟩ := himm μ.bor hw.bor hw.borOwn b' i v h
    rw [cell_same (hw'.same b' h1 h2)]; exact hw.bor _ _ _ h
  · intro b' i v h hx
    rcases hown b' hx with e | e
    · exact (himm μ.imm hw.imm hw.immOwn b' i v h).1 e
    · exact hw.immOwn _ _ _ h e
  · intro b' i v h hx
    rcases hown b' hx with e | e
    · exact (himm μ.bor hw.bor hw.borOwn b' i v h).1 e
    · exact hw.borOwn _ _ _ h e
  · intro p cs' st' hp
    by_cases e : p = o
    · subst e
      rw [ho] at hp; simp at hp
      obtain ⟨rfl, rfl⟩ := hp
      exact ⟨b, base, n, by simp [Mu.at], hc.keep rfl hmono⟩
    · rw [hget, if_neg e] at hp
      obtain ⟨b', base', n', hl, hcc⟩ := hw.cells _ _ _ hp
      have hbp : blk μ H p = some b' := by unfold blk; rw [hp]; simp [hl]
      exact ⟨b', base', n', hext.loc _ _ _ hl, hcc.keep (hw'.same b' (hne p b' e hbp) (blk_lt hw hbp)) hmono⟩
  · intro p es hp
    by_cases e : p = o
    · subst e; rw [ho] at hp; simp at hp
    · rw [hget, if_neg e] at hp
      obtain ⟨r, hl, hcc⟩ := hw.maps _ _ hp
      have hbp : blk μ H p = some r := by unfold blk; rw [hp]; exact hl
      exact ⟨r, hext.mloc _ _ hl, hcc.keep (hw'.same r (hne p r e hbp) (blk_lt hw hbp)) hmono⟩
  · intro p p' b' h1 h2
    by_cases e : p = o
    · by_cases e' : p' = o
      · rw [e, e']
      · subst e
        rw [hblko] at h1; simp at h1; subst h1
        rw [hblk p' e'] at h2
        exact absurd rfl (hne p' _ e' h2)
    · by_cases e' : p' = o
      · subst e'
        rw [hblko] at h2; simp at h2; subst h2
        rw [hblk p e] at h1
        exact absurd rfl (hne p _ e h1)
      · rw [hblk p e] at h1; rw [hblk p' e'] at h2
        exact hw.apart _ _ _ h1 h2
  · intro p s hp
    have hpo : p ≠ o := by
      intro e; subst e
      have := Heap.get_lt ho; omega
    simp only [Mu.at, hpo, false_and, if_false]
    exact hw.newLoc _ _ (Nat.le_trans hnext hp)
  · intro p hp; exact hw.newMap _ (Nat.le_trans hnext hp)
  · intro p cs' s s' hp hs
    by_cases e : p = o
    · subst e
      rw [ho] at hp; simp at hp
      obtain ⟨rfl, rfl⟩ := hp
      simp only [Mu.at]
      rw [if_neg (by omega)]
      exact hnew _ hs
    · rw [hget, if_neg e] at hp
      simp only [Mu.at, e, false_and, if_false]
      exact hw.newSt _ _ _ _ hp hs
  · intro b' hlt hx
    refine hw'.same b' (fun e => ?_) hlt
    subst e
    rcases hb with hb | hb
    · omega
    · exact hx ⟨o, hb⟩
  · intro b' hx hlt
    rcases hown b' hx with e | e
    · subst e
      rcases hb with hb | hb
      · omega
      · exact ⟨o, hb⟩
    · exact e

def Mu.mat (μ : Mu) (o r : Nat) : Mu := { μ with mloc := fun p => if p = o then some r else μ.mloc p }

theorem Mu.mat_ext {μ : Mu} {o r : Nat} (n : Nat) (h : μ.mloc o = none ∨ μ.mloc o = some r) : Ext n μ (μ.mat o r) := by
  refine ⟨fun _ _ _ e => e, fun p y e => ?_, fun _ _ _ e => e, rfl, fun _ _ _ e => .inl e⟩
  unfold Mu.mat; simp only
  split
  · rename_i hc
    subst hc
    rcases h with h | h
    · rw [h] at e; simp at e
    · rw [h] at e; exact e
  · exact e

theorem stp_map {μ : Mu} {H H' : Heap} {w w' : World} (hw : WR μ H w) (o b : Nat) (es : List (AV × AV))
    (hget : ∀ p, H'.get p = if p = o then some (.map es) else H.get p) (hlen : H'.objs.length = H'.next) (hnext : H.next ≤ H'.next)
    (hb : w.heap.size ≤ b ∨ blk μ H o = some b) (hw' : WAt w w' b)
    (hloc : μ.mloc o = none ∨ μ.mloc o = some b)
    (hc : MapAt μ w' es b) : Stp μ H w (μ.mat o b) H' w' := by
  have hext : Ext w.heap.size μ (μ.mat o b) := Mu.mat_ext _ hloc
  have hmono : ∀ a v, VR μ a v → VR (μ.mat o b) a v := fun a v h => VR.ext hext h
  have hne : ∀ p b', p ≠ o → blk μ H p = some b' → b' ≠ b := by
    intro p b' hp h e
    subst e
    rcases hb with hb | hb
    · have := blk_lt hw h; omega
    · exact hp (hw.apart _ _ _ h hb)
  have ho : H'.get o = some (.map es) := by rw [hget, if_pos rfl]
  have hblko : blk (μ.mat o b) H' o = some b := by
    unfold blk; rw [ho]; simp [Mu.mat]
  have hblk : ∀ p, p ≠ o → blk (μ.mat o b) H' p = blk μ H p := by
    intro p hp
    unfold blk; rw [hget, if_neg hp]
    split <;> simp [Mu.mat, hp]
  have hown : ∀ b', Own (μ.mat o b) H' b' → b' = b ∨ Own μ H b' := by
    rintro b' ⟨p, hp⟩
    by_cases e : p = o
    · subst e; rw [hblko] at hp; simp at hp; exact .inl hp.symm
    · rw [hblk p e] at hp; exact .inr ⟨p, hp⟩
  have himm : ∀ (m : Nat → Nat → Option Value), (∀ b i v, m b i = some v → w.cell? ⟨b, i, none⟩ = some v) → (∀ b i v, m b i = some v → ¬ Own μ H b) →
      ∀ b' i v, m b' i = some v → b' ≠ b ∧ b' < w.heap.size := by
    intro m h1 h2 b' i v h
    have hlt := cell_lt (h1 _ _ _ h)
    refine ⟨fun e => ?_, hlt⟩
    subst e
    rcases hb with hb | hb
    · simp at hlt; omega
    · exact h2 _ _ _ h ⟨o, hb⟩
  refine ⟨⟨hlen, ?_, ?_, ?_, ?_, ?_, ?_, ?_, ?_, ?_, ?_⟩, hext, ⟨hw'.size, ?_, hw'.tape, hw'.os, hw'.output⟩, ?_⟩
  · intro b' i v h
    obtain ⟨h1, h2⟩ := himm μ.imm hw.imm hw.immOwn b' i v h
    rw [cell_same (hw'.same b' h1 h2)]; exact hw.imm _ _ _ h
  · intro b' i v h
    obtain ⟨h1, h2⟩ := himm μ.bor hw.bor hw.borOwn b' i v h
    rw [cell_same (hw'.same b' h1 h2)]; exact hw.bor _ _ _ h
  · intro b' i v h hx
    rcases hown b' hx with e | e
    · exact (himm μ.imm hw.imm hw.immOwn b' i v h).1 e
    · exact hw.immOwn _ _ _ h e
  · intro b' i v h hx
    rcases hown b' hx with e | e
    · exact (himm μ.bor hw.bor hw.borOwn b' i v h).1 e
    · exact hw.borOwn _ _ _ h e
  · intro p cs' st' hp
    by_cases e : p = o
    · subst e; rw [ho] at hp; simp at hp
    · rw [hget, if_neg e] at hp
      obtain ⟨b', base', n', hl, hcc⟩ := hw.cells _ _ _ hp
      have hbp : blk μ H p = some b' := by unfold blk; rw [hp]; simp [hl]
      exact ⟨b', base', n', hext.loc _ _ _ hl, hcc.keep (hw'.same b' (hne p b' e hbp) (blk_lt hw hbp)) hmono⟩
  · intro p es' hp
    by_cases e : p = o
    · subst e
      rw [ho] at hp; simp at hp
      subst hp
      exact ⟨b, by simp [Mu.mat], hc.keep rfl hmono⟩
    · rw [hget, if_neg e] at hp
      obtain ⟨r, hl, hcc⟩ := hw.maps _ _ hp
      have hbp : blk μ H p = some r := by unfold blk; rw [hp]; exact hl
      exact ⟨r, hext.mloc _ _ hl, hcc.keep (hw'.same r (hne p r e hbp) (blk_lt hw hbp)) hmono⟩
  · intro p p' b' h1 h2
    by_cases e : p = o
    · by_cases e' : p' = o
      · rw [e, e']
      · subst e
        rw [hblko] at h1; simp at h1; subst h1
        rw [hblk p' e'] at h2
        exact absurd rfl (hne p' _ e' h2)
    · by_cases e' : p' = o
      · subst e'
        rw [hblko] at h2; simp at h2; subst h2
        rw [hblk p e] at h1
        exact absurd rfl (hne p _ e h1)
      · rw [hblk p e] at h1; rw [hblk p' e'] at h2
        exact hw.apart _ _ _ h1 h2
  · intro p s hp; exact hw.newLoc _ _ (Nat.le_trans hnext hp)
  · intro p hp
    have hpo : p ≠ o := by
      intro e; subst e
      have := Heap.get_lt ho; omega
    simp only [Mu.mat, hpo, if_false]
    exact hw.newMap _ (Nat.le_trans hnext hp)
  · intro p cs' s s' hp hs
    by_cases e : p = o
    · subst e; rw [ho] at hp; simp at hp
    · rw [hget, if_neg e] at hp
      exact hw.newSt _ _ _ _ hp hs
  · intro b' hlt hx
    refine hw'.same b' (fun e => ?_) hlt
    subst e
    rcases hb with hb | hb
    · omega
    · exact hx ⟨o, hb⟩
  · intro b' hx hlt
    rcases hown b' hx with e | e
    · subst e
      rcases hb with hb | hb
      · omega
      · exact ⟨o, hb⟩
    · exact e

/-! The three ways to write. -/
def wpush (w : World) (x : Obj) : World := { w with heap := w.heap.push x }
theorem wpush_get (w : World) (x : Obj) : (wpush w x).heap[w.heap.size]? = some x := by simp [wpush]
theorem wat_push (w : World) (x : Obj) : WAt w (wpush w x) w.heap.size :=
  ⟨by simp [wpush], fun b hb hl => by simp [wpush, Array.getElem?_push, hb], rfl, rfl, rfl⟩
/-- A draw changes nothing that is known. -/
theorem WR.draw {μ : Mu} {H : Heap} {w : World} (h : WR μ H w) (d : Nat) : WR μ H { w with drawn := d } :=
  ⟨h.len, h.imm, h.bor, h.immOwn, h.borOwn, fun o cs st ho => let ⟨b, base, n, h1, h2⟩ := h.cells o cs st ho; ⟨b, base, n, h1, h2.keep rfl fun _ _ x => x⟩,
   fun o es ho => let ⟨r, h1, h2⟩ := h.maps o es ho; ⟨r, h1, h2.keep rfl fun _ _ x => x⟩, h.apart, h.newLoc, h.newMap, h.newSt⟩
theorem Stp.draw {μ : Mu} {H : Heap} {w : World} (h : WR μ H w) (d : Nat) : Stp μ H w μ H { w with drawn := d } :=
  ⟨h.draw d, Ext.refl _ _, ⟨Nat.le_refl _, fun _ _ _ => rfl, rfl, rfl, rfl⟩, fun _ h _ => h⟩

/-- A new object in a new block. -/
theorem stp_new {μ : Mu} {H : Heap} {w : World} (hw : WR μ H w) (cs : List AV) (arr : Array Value) (el : TypeId) (fr : Nat × Nat)
    (hsz : cs.length ≤ arr.size) (hfr : ∀ i, i < arr.size → ¬(fr.1 ≤ i ∧ i < fr.2)) (hv : ∀ (j : Nat) (c : AV), cs[j]? = some c → ∃ v, arr[j]? = some v ∧ VR μ c v) :
    Stp μ H w (μ.at H.next 0 (w.heap.size, 0, arr.size)) (H.push (.cells cs 0)) (wpush w (.cells arr el fr)) := by
  refine stp_put hw H.next 0 w.heap.size 0 arr.size cs (fun p => Heap.get_push H _ p) (by simp [Heap.push, hw.len]) (by simp [Heap.push]) (.inl (Nat.le_refl _)) (wat_push _ _)
    (.inl (hw.newLoc _ _ (Nat.le_refl _))) (fun s _ => hw.newLoc _ _ (Nat.le_refl _)) ⟨arr, el, fr, by simp [wpush], rfl, by omega, hfr, fun j c hj => ?_⟩
  simpa using hv j c hj

/-- An object that moves to a new block. -/
theorem stp_moved {μ : Mu} {H : Heap} {w : World} (hw : WR μ H w) {o st : Nat} {cs0 : List AV} (ho : H.get o = some (.cells cs0 st)) (cs : List AV) (arr : Array Value) (el : TypeId) (fr : Nat × Nat)
    (hsz : cs.length ≤ arr.size) (hfr : ∀ i, i < arr.size → ¬(fr.1 ≤ i ∧ i < fr.2)) (hv : ∀ (j : Nat) (c : AV), cs[j]? = some c → ∃ v, arr[j]? = some v ∧ VR μ c v) :
    Stp μ H w (μ.at o (st + 1) (w.heap.size, 0, arr.size)) (H.set o (.cells cs (st + 1))) (wpush w (.cells arr el fr)) := by
  refine stp_put hw o (st + 1) w.heap.size 0 arr.size cs (fun p => Heap.get_set H hw.len _ o p (Heap.get_lt ho)) (by simp [Heap.set, hw.len]) (by simp [Heap.set]) (.inl (Nat.le_refl _)) (wat_push _ _)
    (.inl (hw.newSt _ _ _ _ ho (by omega))) (fun s hs => hw.newSt _ _ _ _ ho (by omega)) ⟨arr, el, fr, by simp [wpush], rfl, by omega, hfr, fun j c hj => ?_⟩
  simpa using hv j c hj

def wset (w : World) (b : Nat) (x : Obj) : World := { w with heap := w.heap.setIfInBounds b x }
theorem wat_set (w : World) (b : Nat) (x : Obj) : WAt w (wset w b x) b :=
  ⟨by simp [wset], fun b' hb hl => by simp [wset, Ne.symm hb], rfl, rfl, rfl⟩
theorem wset_get (w : World) (b : Nat) (x : Obj) (h : b < w.heap.size) : (wset w b x).heap[b]? = some x := by simp [wset, h]

/-- An object whose cells are written in place. -/
theorem stp_stored {μ : Mu} {H : Heap} {w : World} (hw : WR μ H w) {o st : Nat} {cs0 : List AV} (ho : H.get o = some (.cells cs0 st)) {b base n : Nat} (hl : μ.loc o st = some (b, base, n))
    (cs : List AV) (arr : Array Value) (el : TypeId) (fr : Nat × Nat) (hn : arr.size = n) (hcs : base + cs.length ≤ n) (hfr : ∀ i, i < n → ¬(fr.1 ≤ i ∧ i < fr.2))
    (hv : ∀ (j : Nat) (c : AV), cs[j]? = some c → ∃ v, arr[base + j]? = some v ∧ VR μ c v) :
    Stp μ H w (μ.at o st (b, base, n)) (H.set o (.cells cs st)) (wset w b (.cells arr el fr)) := by
  have hbk : blk μ H o = some b := by unfold blk; rw [ho]; simp [hl]
  exact stp_put hw o st b base n cs (fun p => Heap.get_set H hw.len _ o p (Heap.get_lt ho)) (by simp [Heap.set, hw.len]) (by simp [Heap.set]) (.inr hbk) (wat_set _ _ _)
    (.inr hl) (fun s hs => hw.newSt _ _ _ _ ho hs) ⟨arr, el, fr, wset_get _ _ _ (blk_lt hw hbk), hn, hcs, hfr, hv⟩

/-- An object that grows in place. -/
theorem stp_grown {μ : Mu} {H : Heap} {w : World} (hw : WR μ H w) {o st : Nat} {cs0 : List AV} (ho : H.get o = some (.cells cs0 st)) {b base n : Nat} (hl : μ.loc o st = some (b, base, n)) (base' : Nat)
    (cs : List AV) (arr : Array Value) (el : TypeId) (fr : Nat × Nat) (hn : arr.size = n) (hcs : base' + cs.length ≤ n) (hfr : ∀ i, i < n → ¬(fr.1 ≤ i ∧ i < fr.2))
    (hv : ∀ (j : Nat) (c : AV), cs[j]? = some c → ∃ v, arr[base' + j]? = some v ∧ VR μ c v) :
    Stp μ H w (μ.at o (st + 1) (b, base', n)) (H.set o (.cells cs (st + 1))) (wset w b (.cells arr el fr)) := by
  have hbk : blk μ H o = some b := by unfold blk; rw [ho]; simp [hl]
  exact stp_put hw o (st + 1) b base' n cs (fun p => Heap.get_set H hw.len _ o p (Heap.get_lt ho)) (by simp [Heap.set, hw.len]) (by simp [Heap.set]) (.inr hbk) (wat_set _ _ _)
    (.inl (hw.newSt _ _ _ _ ho (by omega))) (fun s hs => hw.newSt _ _ _ _ ho (by omega)) ⟨arr, el, fr, wset_get _ _ _ (blk_lt hw hbk), hn, hcs, hfr, hv⟩

theorem stp_newmap {μ : Mu} {H : Heap} {w : World} (hw : WR μ H w) (clock : Nat) :
    Stp μ H w (μ.mat H.next w.heap.size) (H.push (.map [])) (wpush w (.map #[] clock)) :=
  stp_map hw H.next w.heap.size [] (fun p => Heap.get_push H _ p) (by simp [Heap.push, hw.len]) (by simp [Heap.push]) (.inl (Nat.le_refl _)) (wat_push _ _)
    (.inl (hw.newMap _ (Nat.le_refl _))) ⟨#[], clock, by simp [wpush], rfl, ⟨fun j e h => by simp at h, fun i j e f h => by simp at h⟩, fun j e p he _ => by simp at he⟩

theorem stp_setmap {μ : Mu} {H : Heap} {w : World} (hw : WR μ H w) {o r : Nat} {es0 : List (AV × AV)} (ho : H.get o = some (.map es0)) (hl : μ.mloc o = some r)
    (es : List (AV × AV)) (ents : Array MapEntry) (clock : Nat) (hs : ents.size = es.length) (hbo : Births ents clock) (hv : ∀ (j : Nat) (e : MapEntry) (p : AV × AV), ents[j]? = some e → es[j]? = some p → ER μ e p) :
    Stp μ H w (μ.mat o r) (H.set o (.map es)) (wset w r (.map ents clock)) := by
  have hbk : blk μ H o = some r := by unfold blk; rw [ho]; exact hl
  exact stp_map hw o r es (fun p => Heap.get_set H hw.len _ o p (Heap.get_lt ho)) (by simp [Heap.set, hw.len]) (by simp [Heap.set]) (.inr hbk) (wat_set _ _ _)
    (.inr hl) ⟨ents, clock, wset_get _ _ _ (blk_lt hw hbk), hs, hbo, hv⟩

end Go.AM
