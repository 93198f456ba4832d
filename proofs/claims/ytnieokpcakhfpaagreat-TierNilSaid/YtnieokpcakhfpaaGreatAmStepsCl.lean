/-
  clear.
-/
import Derived.Test.YtnieokpcakhfpaaGreatAmSteps10
namespace Go.AM

variable {P : Program}

theorem clear_sound {μ : Mu} {H : Heap} {w : World} (hw : WR μ H w) {t e ty : TypeId} {zero : List AV} (ht : P.underlying t = some (.slice e)) (hz : Zero P e zero) {o st off len esz : Nat} {tight : Bool} {xv : Value} (hx : VR μ (.slice o st off len esz tight) xv)
    (h0 : len ≠ 0) {cs : List AV} (ho : H.get o = some (.cells cs st)) (hle : off + len * esz ≤ cs.length) (hzl : zero.length = esz) (hall : zero.all AV.isCell = true) :
    ∃ μ' w', (Builtin.clear_ #[t] ty #[xv]).run P w = .ok (.tuple #[]) w' ∧ Stp μ H w μ' (H.set o (.cells (splice cs off (zeros zero len)) st)) w' := by
  obtain ⟨i, z, h3, h4, h5⟩ := hz.ex
  simp only [VR] at hx
  obtain ⟨b, base, n, i', cap, hl, rfl, hcap, _, h6⟩ := hx
  obtain ⟨rfl, _⟩ := h6 (by omega)
  have hrow := zero_row (h5 μ) len
  have hzc : ∀ u ∈ ((Array.range (len * z.cells.size)).map (z.cells[· % z.cells.size]!)).toList, u.oneCell' = true := by
    intro u hu
    obtain ⟨j, hj⟩ := List.mem_iff_getElem?.1 hu
    have hlt : j < (zeros zero len).length := by have := (List.getElem?_eq_some_iff.1 hj).1; rw [hrow.length] at this; exact this
    obtain ⟨u', hu', hr'⟩ := hrow.get j _ (List.getElem?_eq_getElem hlt)
    rw [hj] at hu'; simp at hu'; subst hu'
    refine isCell_one hr' ?_
    have hg := zeros_get zero len j (by rwa [zeros_length] at hlt)
    rw [List.getElem?_eq_getElem hlt] at hg
    have hmem : (zeros zero len)[j] ∈ zero := List.mem_of_getElem? hg.symm
    exact List.all_eq_true.1 hall _ hmem
  obtain ⟨w', h7, h8⟩ := cells_stored (P := P) hw ho hl (off := off) hrow (by rw [zeros_length, hzl]; exact hle) hzc
  refine ⟨_, w', ?_, h8⟩
  cases len with
  | zero => exact absurd rfl h0
  | succ len =>
    have h7' : (storeCells ⟨b, base + off, none⟩ (Builtin.zeroCells z.cells (len + 1)).toList).run P w = .ok () w' := h7
    simp [Builtin.clear_, run_underlying ht, zeroValue, typeInfo, h3, h4, h7']

end Go.AM
