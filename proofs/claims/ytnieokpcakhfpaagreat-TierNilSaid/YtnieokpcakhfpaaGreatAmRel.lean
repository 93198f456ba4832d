/-
  How values and the heap of the abstract machine stand for values and memory of the model.
-/
import Derived.Test.YtnieokpcakhfpaaGreatAmDefs
namespace Go.AM

/-- Where things lie: an object at a stamp: its block, where it begins there, the block's size; a map's block; cells that never change; cells that are lent. -/
structure Mu where
  loc : Nat → Nat → Option (Nat × Nat × Nat)
  mloc : Nat → Option Nat
  imm : Nat → Nat → Option Value
  bor : Nat → Nat → Option Value

mutual
def VR (μ : Mu) : AV → Value → Prop
  | .bool b, v => v = .bool b
  | .int k n, v => v = .int k n
  | .str s, v => v = .string ⟨s.toArray⟩
  | .nilp, v => v = .pointer none
  | .ptr o st off, v => ∃ b base n, μ.loc o st = some (b, base, n) ∧ v = .pointer (some ⟨b, base + off, none⟩)
  | .vptr br cs, v => ∃ b i, v = .pointer (some ⟨b, i, none⟩) ∧ VRC μ (if br then μ.bor else μ.imm) b i cs
  | .nils, v => v = .slice none 0 0
  | .slice o st off len esz tight, v => ∃ b base n i cap, μ.loc o st = some (b, base, n) ∧ v = .slice (some ⟨b, i, none⟩) len cap ∧ len ≤ cap ∧ (tight = true → cap = len) ∧
      (0 < cap → i = base + off ∧ base + off + cap * esz ≤ n)
  | .vslice br cs len esz tight, v => ∃ b i cap, v = .slice (some ⟨b, i, none⟩) len cap ∧ len ≤ cap ∧ (tight = true → cap = len) ∧ cs.length = len * esz ∧
      VRC μ (if br then μ.bor else μ.imm) b i cs
  | .nilm, v => v = .map none
  | .map o, v => ∃ r, μ.mloc o = some r ∧ v = .map (some r)
  | .nilf, v => v = .nilFunc
  | .func f cap, v => ∃ vs : List Value, v = .func (.func f) #[] vs.toArray ∧ VRL μ cap vs
  | .agg cs, v => ∃ vs : List Value, v = .agg vs.toArray ∧ VRL μ cs vs
  | .tup cs, v => ∃ vs : List Value, v = .tuple vs.toArray ∧ VRL μ cs vs
def VRC (μ : Mu) (m : Nat → Nat → Option Value) (b i : Nat) : List AV → Prop
  | [] => True
  | c :: cs => (∃ v, m b i = some v ∧ VR μ c v) ∧ VRC μ m b (i + 1) cs
def VRL (μ : Mu) : List AV → List Value → Prop
  | [], vs => vs = []
  | c :: cs, vs => ∃ v vs', vs = v :: vs' ∧ VR μ c v ∧ VRL μ cs vs'
end

/-- The block that a live object lies in. -/
def blk (μ : Mu) (H : Heap) (o : Nat) : Option Nat :=
  match H.get o with
  | some (.cells _ st) => (μ.loc o st).map (·.1)
  | some (.map _) => μ.mloc o
  | _ => none
def Own (μ : Mu) (H : Heap) (b : Nat) : Prop := ∃ o, blk μ H o = some b

def ER (μ : Mu) (e : MapEntry) (p : AV × AV) : Prop := VR μ p.1 e.key ∧ VR μ p.2 e.val

structure CellsAt (μ : Mu) (w : World) (cs : List AV) (b base n : Nat) : Prop where
  ex : ∃ arr el fr, w.heap[b]? = some (.cells arr el fr) ∧ arr.size = n ∧ base + cs.length ≤ n ∧ (∀ i, i < n → ¬(fr.1 ≤ i ∧ i < fr.2)) ∧
    ∀ (j : Nat) (c : AV), cs[j]? = some c → ∃ v, arr[base + j]? = some v ∧ VR μ c v

/-- The stamps of a map's entries: each elder than the clock, no two the same. -/
def Births (ents : Array MapEntry) (clock : Nat) : Prop :=
  (∀ (j : Nat) (e : MapEntry), ents[j]? = some e → e.born < clock) ∧ (∀ (i j : Nat) (e f : MapEntry), ents[i]? = some e → ents[j]? = some f → e.born = f.born → i = j)

theorem Births.push {ents : Array MapEntry} {clock : Nat} (h : Births ents clock) (x : MapEntry) (hx : x.born = clock) : Births (ents.push x) (clock + 1) := by
  have old : ∀ (j : Nat) (e : MapEntry), (ents.push x)[j]? = some e → (ents[j]? = some e ∧ e.born < clock) ∨ (j = ents.size ∧ e = x) := fun j e he => by
    rw [Array.getElem?_push] at he
    split at he
    · simp at he; exact .inr ⟨by assumption, he.symm⟩
    · exact .inl ⟨he, h.1 j e he⟩
  refine ⟨fun j e he => ?_, fun i j e f he hf hb => ?_⟩
  · rcases old j e he with ⟨_, h1⟩ | ⟨_, rfl⟩ <;> omega
  · rcases old i e he with ⟨h1, h2⟩ | ⟨h1, h2⟩ <;> rcases old j f hf with ⟨g1, g2⟩ | ⟨g1, g2⟩
    · exact h.2 i j e f h1 g1 hb
    · subst g2; omega
    · subst h2; omega
    · omega
theorem Births.modify {ents : Array MapEntry} {clock : Nat} (h : Births ents clock) (i : Nat) (f : MapEntry → MapEntry) (hf : ∀ e, (f e).born = e.born) : Births (ents.modify i f) clock := by
  have old : ∀ (j : Nat) (e : MapEntry), (ents.modify i f)[j]? = some e → ∃ e', ents[j]? = some e' ∧ e'.born = e.born := fun j e he => by
    rw [Array.getElem?_modify] at he
    split at he
    · simp only [Option.map_eq_some_iff] at he
      obtain ⟨e', h1, rfl⟩ := he
      exact ⟨e', h1, (hf e').symm⟩
    · exact ⟨e, he, rfl⟩
  refine ⟨fun j e he => ?_, fun a b e g he hg hb => ?_⟩
  · obtain ⟨e', h1, h2⟩ := old j e he
    have := h.1 j e' h1; omega
  · obtain ⟨e', h1, h2⟩ := old a e he
    obtain ⟨g', h3, h4⟩ := old b g hg
    exact h.2 a b e' g' h1 h3 (by omega)
theorem Births.erase {ents : Array MapEntry} {clock : Nat} (h : Births ents clock) (i : Nat) (hi : i < ents.size) : Births (ents.eraseIdx i hi) clock := by
  have old : ∀ (j : Nat) (e : MapEntry), (ents.eraseIdx i hi)[j]? = some e → ents[if j < i then j else j + 1]? = some e := fun j e he => by
    rw [Array.getElem?_eraseIdx] at he
    split at he
    · rw [if_pos ‹_›]; exact he
    · rw [if_neg ‹_›]; exact he
  refine ⟨fun j e he => h.1 _ e (old j e he), fun a b e g he hg hb => ?_⟩
  have := h.2 _ _ e g (old a e he) (old b g hg) hb
  split at this <;> split at this <;> omega

structure MapAt (μ : Mu) (w : World) (es : List (AV × AV)) (r : Nat) : Prop where
  ex : ∃ ents clock, w.heap[r]? = some (.map ents clock) ∧ ents.size = es.length ∧ Births ents clock ∧ ∀ (j : Nat) (e : MapEntry) (p : AV × AV), ents[j]? = some e → es[j]? = some p → ER μ e p

structure WR (μ : Mu) (H : Heap) (w : World) : Prop where
  len : H.objs.length = H.next
  imm : ∀ b i v, μ.imm b i = some v → w.cell? ⟨b, i, none⟩ = some v
  bor : ∀ b i v, μ.bor b i = some v → w.cell? ⟨b, i, none⟩ = some v
  immOwn : ∀ b i v, μ.imm b i = some v → ¬ Own μ H b
  borOwn : ∀ b i v, μ.bor b i = some v → ¬ Own μ H b
  cells : ∀ o cs st, H.get o = some (.cells cs st) → ∃ b base n, μ.loc o st = some (b, base, n) ∧ CellsAt μ w cs b base n
  maps : ∀ o es, H.get o = some (.map es) → ∃ r, μ.mloc o = some r ∧ MapAt μ w es r
  apart : ∀ o o' b, blk μ H o = some b → blk μ H o' = some b → o = o'
  /-- No object beyond the heap, nor a stamp beyond an object's own, has a place yet. -/
  newLoc : ∀ o st, H.next ≤ o → μ.loc o st = none
  newMap : ∀ o, H.next ≤ o → μ.mloc o = none
  newSt : ∀ o cs st st', H.get o = some (.cells cs st) → st < st' → μ.loc o st' = none

/-- More is known. `n`: the number of blocks at the begin. -/
structure Ext (n : Nat) (μ μ' : Mu) : Prop where
  loc : ∀ o st x, μ.loc o st = some x → μ'.loc o st = some x
  mloc : ∀ o x, μ.mloc o = some x → μ'.mloc o = some x
  imm : ∀ b i v, μ.imm b i = some v → μ'.imm b i = some v
  bor : μ'.bor = μ.bor
  fresh : ∀ b i v, μ'.imm b i = some v → μ.imm b i = some v ∨ n ≤ b

/-- What is not among the blocks `S` stays as it is. -/
structure Keeps (S : Nat → Prop) (w w' : World) : Prop where
  size : w.heap.size ≤ w'.heap.size
  same : ∀ b, b < w.heap.size → ¬ S b → w'.heap[b]? = w.heap[b]?
  tape : w'.tape = w.tape
  os : w'.os = w.os
  output : w'.output = w.output

structure Stp (μ : Mu) (H : Heap) (w : World) (μ' : Mu) (H' : Heap) (w' : World) : Prop where
  wr : WR μ' H' w'
  ext : Ext w.heap.size μ μ'
  keeps : Keeps (Own μ H) w w'
  own : ∀ b, Own μ' H' b → b < w.heap.size → Own μ H b

theorem Ext.refl (n : Nat) (μ : Mu) : Ext n μ μ := ⟨fun _ _ _ h => h, fun _ _ h => h, fun _ _ _ h => h, rfl, fun _ _ _ h => .inl h⟩
theorem Ext.trans {n n' : Nat} {μ μ' μ'' : Mu} (h : Ext n μ μ') (h' : Ext n' μ' μ'') (hn : n ≤ n') : Ext n μ μ'' :=
  ⟨fun o st x e => h'.loc _ _ _ (h.loc _ _ _ e), fun o x e => h'.mloc _ _ (h.mloc _ _ e), fun b i v e => h'.imm _ _ _ (h.imm _ _ _ e),
   h'.bor.trans h.bor, fun b i v e => by
    rcases h'.fresh b i v e with e | e
    · exact h.fresh b i v e
    · exact .inr (Nat.le_trans hn e)⟩
theorem Keeps.refl (S : Nat → Prop) (w : World) : Keeps S w w := ⟨Nat.le_refl _, fun _ _ _ => rfl, rfl, rfl, rfl⟩
theorem Keeps.mono {S S' : Nat → Prop} {w w' : World} (h : Keeps S w w') (hs : ∀ b, b < w.heap.size → S b → S' b) : Keeps S' w w' :=
  ⟨h.size, fun b hb hn => h.same b hb fun hx => hn (hs b hb hx), h.tape, h.os, h.output⟩
theorem Keeps.trans {S S' : Nat → Prop} {w w' w'' : World} (h : Keeps S w w') (h' : Keeps S' w' w'') (hs : ∀ b, b < w.heap.size → S' b → S b) : Keeps S w w'' :=
  ⟨Nat.le_trans h.size h'.size, fun b hb hn => by
    rw [h'.same b (Nat.lt_of_lt_of_le hb h.size) fun hx => hn (hs b hb hx), h.same b hb hn],
   h'.tape.trans h.tape, h'.os.trans h.os, h'.output.trans h.output⟩
theorem Stp.refl {μ : Mu} {H : Heap} {w : World} (h : WR μ H w) : Stp μ H w μ H w := ⟨h, Ext.refl _ _, Keeps.refl _ _, fun _ h _ => h⟩
theorem Stp.trans {μ μ' μ'' : Mu} {H H' H'' : Heap} {w w' w'' : World} (h : Stp μ H w μ' H' w') (h' : Stp μ' H' w' μ'' H'' w'') : Stp μ H w μ'' H'' w'' :=
  ⟨h'.wr, h.ext.trans h'.ext h.keeps.size, h.keeps.trans h'.keeps fun b hb hx => h.own b hx hb,
   fun b hb hlt => h.own b (h'.own b hb (Nat.lt_of_lt_of_le hlt h.keeps.size)) hlt⟩

/-! More knowledge keeps what stands for what. -/
mutual
theorem VR.mono {μ μ' : Mu} (hl : ∀ o st x, μ.loc o st = some x → μ'.loc o st = some x) (hm : ∀ o x, μ.mloc o = some x → μ'.mloc o = some x)
    (hi : ∀ b i v, μ.imm b i = some v → μ'.imm b i = some v) (hb : ∀ b i v, μ.bor b i = some v → μ'.bor b i = some v) :
    ∀ (a : AV) (v : Value), VR μ a v → VR μ' a v
  | .bool b, v, h => by simpa [VR] using h
  | .int k n, v, h => by simpa [VR] using h
  | .str s, v, h => by simpa [VR] using h
  | .nilp, v, h => by simpa [VR] using h
  | .ptr o st off, v, h => by
    simp only [VR] at h ⊢
    obtain ⟨b, base, n, h1, h2⟩ := h
    exact ⟨b, base, n, hl _ _ _ h1, h2⟩
  | .vptr br cs, v, h => by
    simp only [VR] at h ⊢
    obtain ⟨b, i, h1, h2⟩ := h
    refine ⟨b, i, h1, ?_⟩
    cases br
    · exact VRC.mono hl hm hi hb hi cs b i h2
    · exact VRC.mono hl hm hi hb hb cs b i h2
  | .nils, v, h => by simpa [VR] using h
  | .slice o st off len esz tight, v, h => by
    simp only [VR] at h ⊢
    obtain ⟨b, base, n, i, cap, h1, h2⟩ := h
    exact ⟨b, base, n, i, cap, hl _ _ _ h1, h2⟩
  | .vslice br cs len esz tight, v, h => by
    simp only [VR] at h ⊢
    obtain ⟨b, i, cap, h1, h2, h3, h4, h5⟩ := h
    refine ⟨b, i, cap, h1, h2, h3, h4, ?_⟩
    cases br
    · exact VRC.mono hl hm hi hb hi cs b i h5
    · exact VRC.mono hl hm hi hb hb cs b i h5
  | .nilm, v, h => by simpa [VR] using h
  | .map o, v, h => by
    simp only [VR] at h ⊢
    obtain ⟨r, h1, h2⟩ := h
    exact ⟨r, hm _ _ h1, h2⟩
  | .nilf, v, h => by simpa [VR] using h
  | .func f cap, v, h => by
    simp only [VR] at h ⊢
    obtain ⟨vs, h1, h2⟩ := h
    exact ⟨vs, h1, VRL.mono hl hm hi hb cap vs h2⟩
  | .agg cs, v, h => by
    simp only [VR] at h ⊢
    obtain ⟨vs, h1, h2⟩ := h
    exact ⟨vs, h1, VRL.mono hl hm hi hb cs vs h2⟩
  | .tup cs, v, h => by
    simp only [VR] at h ⊢
    obtain ⟨vs, h1, h2⟩ := h
    exact ⟨vs, h1, VRL.mono hl hm hi hb cs vs h2⟩
theorem VRC.mono {μ μ' : Mu} (hl : ∀ o st x, μ.loc o st = some x → μ'.loc o st = some x) (hm : ∀ o x, μ.mloc o = some x → μ'.mloc o = some x)
    (hi : ∀ b i v, μ.imm b i = some v → μ'.imm b i = some v) (hb : ∀ b i v, μ.bor b i = some v → μ'.bor b i = some v)
    {m m' : Nat → Nat → Option Value} (hmm : ∀ b i v, m b i = some v → m' b i = some v) :
    ∀ (cs : List AV) (b i : Nat), VRC μ m b i cs → VRC μ' m' b i cs
  | [], _, _, _ => by simp [VRC]
  | c :: cs, b, i, h => by
    simp only [VRC] at h ⊢
    obtain ⟨⟨v, h1, h2⟩, h3⟩ := h
    exact ⟨⟨v, hmm _ _ _ h1, VR.mono hl hm hi hb c v h2⟩, VRC.mono hl hm hi hb hmm cs b (i + 1) h3⟩
theorem VRL.mono {μ μ' : Mu} (hl : ∀ o st x, μ.loc o st = some x → μ'.loc o st = some x) (hm : ∀ o x, μ.mloc o = some x → μ'.mloc o = some x)
    (hi : ∀ b i v, μ.imm b i = some v → μ'.imm b i = some v) (hb : ∀ b i v, μ.bor b i = some v → μ'.bor b i = some v) :
    ∀ (cs : List AV) (vs : List Value), VRL μ cs vs → VRL μ' cs vs
  | [], _, h => by simpa [VRL] using h
  | c :: cs, vs, h => by
    simp only [VRL] at h ⊢
    obtain ⟨v, vs', h1, h2, h3⟩ := h
    exact ⟨v, vs', h1, VR.mono hl hm hi hb c v h2, VRL.mono hl hm hi hb cs vs' h3⟩
end

theorem VR.ext {n : Nat} {μ μ' : Mu} (h : Ext n μ μ') {a : AV} {v : Value} (hv : VR μ a v) : VR μ' a v :=
  VR.mono h.loc h.mloc h.imm (fun b i v e => by rw [h.bor]; exact e) a v hv
theorem VRL.ext {n : Nat} {μ μ' : Mu} (h : Ext n μ μ') {a : List AV} {v : List Value} (hv : VRL μ a v) : VRL μ' a v :=
  VRL.mono h.loc h.mloc h.imm (fun b i v e => by rw [h.bor]; exact e) a v hv

/-! Lists. -/
theorem VRL.length {μ : Mu} : ∀ {cs : List AV} {vs : List Value}, VRL μ cs vs → vs.length = cs.length
  | [], _, h => by simp only [VRL] at h; simp [h]
  | c :: cs, vs, h => by
    simp only [VRL] at h
    obtain ⟨v, vs', rfl, _, h3⟩ := h
    simp [VRL.length h3]
theorem VRL.get {μ : Mu} : ∀ {cs : List AV} {vs : List Value}, VRL μ cs vs → ∀ (j : Nat) (c : AV), cs[j]? = some c → ∃ v, vs[j]? = some v ∧ VR μ c v
  | [], _, _, j, c, hj => by simp at hj
  | c :: cs, vs, h, j, c', hj => by
    simp only [VRL] at h
    obtain ⟨v, vs', rfl, h2, h3⟩ := h
    cases j with
    | zero => simp at hj; subst hj; exact ⟨v, by simp, h2⟩
    | succ j => simpa using VRL.get h3 j c' (by simpa using hj)
theorem VRL.mk {μ : Mu} : ∀ {cs : List AV} {vs : List Value}, vs.length = cs.length → (∀ (j : Nat) (c : AV), cs[j]? = some c → ∃ v, vs[j]? = some v ∧ VR μ c v) → VRL μ cs vs
  | [], vs, hl, _ => by simp only [VRL]; simpa using hl
  | c :: cs, vs, hl, h => by
    cases vs with
    | nil => simp at hl
    | cons v vs =>
      simp only [VRL]
      obtain ⟨v', h1, h2⟩ := h 0 c (by simp)
      simp at h1; subst h1
      exact ⟨_, _, rfl, h2, VRL.mk (by simpa using hl) fun j c' hj => by simpa using h (j + 1) c' (by simpa using hj)⟩
theorem VRC.get {μ : Mu} {m : Nat → Nat → Option Value} {b : Nat} : ∀ {cs : List AV} {i : Nat}, VRC μ m b i cs → ∀ (j : Nat) (c : AV), cs[j]? = some c → ∃ v, m b (i + j) = some v ∧ VR μ c v
  | [], _, _, j, c, hj => by simp at hj
  | c :: cs, i, h, j, c', hj => by
    simp only [VRC] at h
    obtain ⟨h2, h3⟩ := h
    cases j with
    | zero => simp at hj; subst hj; exact h2
    | succ j =>
      have := VRC.get h3 j c' (by simpa using hj)
      rwa [show i + (j + 1) = i + 1 + j from by omega]
theorem VRC.mk {μ : Mu} {m : Nat → Nat → Option Value} {b : Nat} : ∀ {cs : List AV} {i : Nat}, (∀ (j : Nat) (c : AV), cs[j]? = some c → ∃ v, m b (i + j) = some v ∧ VR μ c v) → VRC μ m b i cs
  | [], _, _ => by simp [VRC]
  | c :: cs, i, h => by
    simp only [VRC]
    refine ⟨by simpa using h 0 c (by simp), VRC.mk fun j c' hj => ?_⟩
    have := h (j + 1) c' (by simpa using hj)
    rwa [show i + (j + 1) = i + 1 + j from by omega] at this
theorem VRL.append {μ : Mu} {a b : List AV} {x y : List Value} (h : VRL μ a x) (h' : VRL μ b y) : VRL μ (a ++ b) (x ++ y) := by
  refine VRL.mk (by simp [h.length, h'.length]) fun j c hj => ?_
  rw [List.getElem?_append] at hj ⊢
  rw [h.length]
  split at hj
  · rw [if_pos ‹_›]; exact h.get _ _ hj
  · rw [if_neg ‹_›]; exact h'.get _ _ hj
theorem VRL.take {μ : Mu} {a : List AV} {x : List Value} (h : VRL μ a x) (n : Nat) : VRL μ (a.take n) (x.take n) := by
  refine VRL.mk (by simp [h.length]) fun j c hj => ?_
  rw [List.getElem?_take] at hj ⊢
  split at hj
  · rw [if_pos ‹_›]; exact h.get _ _ hj
  · simp at hj
theorem VRL.drop {μ : Mu} {a : List AV} {x : List Value} (h : VRL μ a x) (n : Nat) : VRL μ (a.drop n) (x.drop n) := by
  refine VRL.mk (by simp [h.length]) fun j c hj => ?_
  rw [List.getElem?_drop] at hj ⊢
  exact h.get _ _ hj
theorem VRC.drop {μ : Mu} {m : Nat → Nat → Option Value} {b i : Nat} {cs : List AV} (h : VRC μ m b i cs) (n : Nat) : VRC μ m b (i + n) (cs.drop n) :=
  VRC.mk fun j c hj => by
    rw [List.getElem?_drop] at hj
    rw [Nat.add_assoc]; exact h.get _ _ hj
theorem VRC.take {μ : Mu} {m : Nat → Nat → Option Value} {b i : Nat} {cs : List AV} (h : VRC μ m b i cs) (n : Nat) : VRC μ m b i (cs.take n) :=
  VRC.mk fun j c hj => by
    rw [List.getElem?_take] at hj
    split at hj
    · exact h.get _ _ hj
    · simp at hj

/-! The heap. -/
theorem Heap.get_lt {H : Heap} {o : Nat} {x : AObj} (h : H.get o = some x) : o < H.next := by
  unfold Heap.get at h
  split at h
  · assumption
  · simp at h
theorem Heap.get_push (H : Heap) (x : AObj) (o : Nat) : (H.push x).get o = if o = H.next then some x else H.get o := by
  unfold Heap.get Heap.push
  simp only
  by_cases h : o = H.next
  · subst h; simp
  · rw [if_neg h]
    by_cases h2 : o < H.next
    · rw [if_pos (by omega), if_pos h2, show H.next + 1 - 1 - o = (H.next - 1 - o) + 1 from by omega, List.getElem?_cons_succ]
    · rw [if_neg (by omega), if_neg h2]
theorem Heap.get_set (H : Heap) (hl : H.objs.length = H.next) (x : AObj) (o p : Nat) (ho : o < H.next) : (H.set o x).get p = if p = o then some x else H.get p := by
  unfold Heap.get Heap.set
  simp only
  by_cases h2 : p < H.next
  · rw [if_pos h2, List.getElem?_set]
    by_cases h : p = o
    · subst h; simp; omega
    · rw [if_neg (by omega), if_neg h, if_pos h2]
  · rw [if_neg h2, if_neg (by omega), if_neg h2]
theorem Heap.get_empty (o : Nat) : Heap.empty.get o = none := by simp [Heap.get, Heap.empty]

end Go.AM
