/-
  append, and what reads slices.
-/
import Derived.Test.YtnieokpcakhfpaaGreatAmSteps2
namespace Go.AM

variable {P : Program}

theorem vrl_bytes (μ : Mu) (s : List UInt8) : VRL μ (bytesOf s) (s.map fun b => .int .u8 b.toNat) := by
  induction s with
  | nil => simp [bytesOf, VRL]
  | cons b s ih => simp only [bytesOf, List.map_cons, VRL]; exact ⟨_, _, rfl, rfl, ih⟩
theorem bytesOf_length (s : List UInt8) : (bytesOf s).length = s.length := by
  induction s with
  | nil => rfl
  | cons b s ih => simp [bytesOf, ih]

def wdraw (w : World) (d : Nat) : World := { w with drawn := d }

/-- The cells of a slice that is there. -/
theorem slice_cells {μ : Mu} {H : Heap} {w : World} (hw : WR μ H w) {o st off len esz : Nat} {tight : Bool} {xv : Value} (hx : VR μ (.slice o st off len esz tight) xv)
    {cs : List AV} (ho : H.get o = some (.cells cs st)) (hle : off + len * esz ≤ cs.length) :
    ∃ b i cap, xv = .slice (some ⟨b, i, none⟩) len cap ∧ len ≤ cap ∧ (tight = true → cap = len) ∧
      ∀ (j : Nat) (c : AV), ((cs.drop off).take (len * esz))[j]? = some c → ∃ v, w.cell? ⟨b, i + j, none⟩ = some v ∧ VR μ c v := by
  simp only [VR] at hx
  obtain ⟨b, base, n, i, cap, hl, rfl, h1, h2, h3⟩ := hx
  refine ⟨b, i, cap, rfl, h1, h2, fun j c hj => ?_⟩
  rw [List.getElem?_take] at hj
  split at hj
  · rename_i hlt
    have hpos : 0 < len := by
      rcases Nat.eq_zero_or_pos len with e | e
      · subst e; simp at hlt
      · exact e
    obtain ⟨hi, _⟩ := h3 (by omega)
    subst hi
    rw [List.getElem?_drop] at hj
    obtain ⟨b', base', n', hl', hc⟩ := hw.cells _ _ _ ho
    rw [hl] at hl'; simp at hl'
    obtain ⟨rfl, rfl, rfl⟩ := hl'
    obtain ⟨v, h4, h5⟩ := hc.cell _ _ hj
    exact ⟨v, by rw [Nat.add_assoc]; exact h4, h5⟩
  · simp at hj

theorem elems_sound {μ : Mu} {H : Heap} {w : World} (hw : WR μ H w) {y : AV} {yv : Value} (hy : VR μ y yv) {new : List AV} {n esz : Nat} (he : elems H y = some (new, n)) (hn : n * esz = new.length) :
    ∃ news : List Value, VRL μ new news ∧ (∀ w0, (Builtin.lenOf yv).run P w0 = .ok n w0) ∧ ∀ d, (Builtin.firstCells esz n yv).run P (wdraw w d) = .ok news.toArray (wdraw w d) := by
  unfold elems at he
  split at he
  · simp at he; obtain ⟨rfl, rfl⟩ := he
    simp only [VR] at hy; subst hy
    exact ⟨[], by simp [VRL], fun _ => rfl, fun _ => rfl⟩
  · rename_i o st off len e tight
    split at he
    · rename_i cs st' ho
      split at he
      · rename_i hc
        obtain ⟨e1, hle⟩ := hc
        subst e1
        simp at he; obtain ⟨rfl, rfl⟩ := he
        obtain ⟨b, i, cap, rfl, _, _, hcells⟩ := slice_cells hw hy ho hle
        obtain ⟨vs, hl, hc, hv⟩ := row_read (μ := μ) (w := w) (b := b) (i := i) _ hcells
        exact ⟨vs, hv, fun _ => rfl, fun d => run_firstCells_some (P := P) (wdraw w d) esz len _ len cap vs (by rw [hl, ← hn]) hc⟩
      · simp at he
    · simp at he
  · rename_i br cs len e tight
    simp at he; obtain ⟨rfl, rfl⟩ := he
    simp only [VR] at hy
    obtain ⟨b, i, cap, rfl, _, _, hcl, hc⟩ := hy
    obtain ⟨vs, hl, hc, hv⟩ := row_read (μ := μ) (w := w) (b := b) (i := i) _ (imm_cells hw hc)
    exact ⟨vs, hv, fun _ => rfl, fun d => run_firstCells_some (P := P) (wdraw w d) esz len _ len cap vs (by rw [hl, ← hn]) hc⟩
  · rename_i s
    simp at he; obtain ⟨rfl, rfl⟩ := he
    simp only [VR] at hy; subst hy
    refine ⟨_, vrl_bytes μ s, fun _ => by simp [Builtin.lenOf, ByteArray.size], fun d => ?_⟩
    simp [Builtin.firstCells, ByteArray.data_extract]
  · simp at he

/-- A slice's elements' type, for append: a row's cells, bytes, the zero value. -/
structure El (P : Program) (t u e : TypeId) (esz : Nat) : Prop where
  ex : ∃ i z du, P.underlying t = some (.slice e) ∧ P.underlying u = some du ∧ (match du with | .int _ => true | _ => false) = false ∧ P.info? e = some i ∧ i.size = esz ∧ i.bytes ≤ 2 ^ 15 ∧
    i.zero = some z ∧ z.cells.size = esz

set_option maxHeartbeats 4000000 in
theorem run_append_grown {t u e ty : TypeId} {esz : Nat} (h : El P t u e esz) {w : World} {base : Option Addr} {sLen sCap n : Nat} {yv : Value} {olds news : List Value}
    (hlen : ∀ w0, (Builtin.lenOf yv).run P w0 = .ok n w0) (hnew : (Builtin.firstCells esz n yv).run P (wdraw w (w.drawn + 1)) = .ok news.toArray (wdraw w (w.drawn + 1)))
    (hold : (Builtin.firstCells esz sLen (.slice base sLen sCap)).run P (wdraw w (w.drawn + 1)) = .ok olds.toArray (wdraw w (w.drawn + 1)))
    (hlo : olds.length = sLen * esz) (hln : news.length = n * esz) (hg : sCap < sLen + n) (hb : sLen + n < big) :
    ∃ (cap : Nat) (arr : Array Value), (Builtin.append_ #[t, u] ty #[.slice base sLen sCap, yv]).run P w = .ok (.slice (some ⟨w.heap.size, 0, none⟩) (sLen + n) cap) (wpush (wdraw w (w.drawn + 1)) (.cells arr e)) ∧
      sLen + n ≤ cap ∧ arr.size = cap * esz ∧ ∀ (j : Nat) (v : Value), (olds ++ news)[j]? = some v → arr[j]? = some v := by
  obtain ⟨i, z, du, ht, hu, hdu, hi, hs, hby, hz, hzs⟩ := h.ex
  have hn : ¬ (sLen + n ≤ sCap) := by omega
  unfold big at hb
  have h63 : ¬ (9223372036854775807 < ((sLen : Int) + (n : Int))) := by omega
  have h48 : ¬ (281474976710656 < Builtin.nextslicecap (sLen + n) sCap * i.bytes) := by
    have h1 := nextslicecap_le hg
    have h2 : Builtin.nextslicecap (sLen + n) sCap * i.bytes ≤ (2 * (sLen + n)) * 2 ^ 15 := Nat.mul_le_mul h1 hby
    omega
  have hge : sLen + n ≤ grownCap w (sLen + n) sCap e := by simp only [grownCap, Question.cut]; omega
  subst hs
  refine ⟨grownCap w (sLen + n) sCap e, (olds ++ news).toArray ++ Builtin.zeroCells z.cells (grownCap w (sLen + n) sCap e - (sLen + n)), ?_, hge, ?_, fun j v hj => ?_⟩
  · have hdu' : ∀ k, du ≠ .int k := by intro k hk; subst hk; simp at hdu
    unfold wdraw at hnew hold
    have hdraw : World.drew w = wdraw w (w.drawn + 1) := rfl
    have harr : ∀ Z : Array Value, olds.toArray ++ (news.toArray ++ Z) = (olds ++ news).toArray ++ Z := fun Z => by apply Array.ext'; simp
    cases du <;> first
      | exact absurd rfl (hdu' _)
      | (simp [Builtin.append_, run_underlying ht, run_underlying hu, sizeOf, typeInfo, zeroValue, hi, hz, hlen, hn, h63, h48, Question.forced, newRow, grownCap, hdraw]
         unfold wdraw
         rw [hold]
         simp only [Result.andThen]
         rw [hnew]
         simp only [Result.andThen]
         rw [harr]
         rfl)
  · have : (Builtin.zeroCells z.cells (grownCap w (sLen + n) sCap e - (sLen + n))).size = (grownCap w (sLen + n) sCap e - (sLen + n)) * i.size := by
      simp [Builtin.zeroCells, hzs]
    simp only [Array.size_append, List.size_toArray, List.length_append, hlo, hln, this, ← Nat.add_mul]
    congr 1; omega
  · have hlt := (List.getElem?_eq_some_iff.1 hj).1
    rw [Array.getElem?_append_left (by simpa using hlt)]
    rw [← hj]
    simp

end Go.AM
