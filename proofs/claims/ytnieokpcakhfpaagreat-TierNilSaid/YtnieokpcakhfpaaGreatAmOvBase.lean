/-
  What a contract of the kit's own make says, in the abstract machine's words.
-/
import Derived.Test.YtnieokpcakhfpaaGreatAmFunc
import Derived.Test.YtnieokpcakhfpaaGreatAmOver
import Derived.Below
import Derived.KernelRfl
namespace Go.AM
open Go.RowKit (Below)

variable {P : Program}

/-- Where nothing that lay has turned, all that is known stays known. -/
theorem stp_below {μ : Mu} {H : Heap} {w w' : World} (hw : WR μ H w) (hb : Below w.heap.size w w') : Stp μ H w μ H w' := by
  have hsame : ∀ b, b < w.heap.size → w'.heap[b]? = w.heap[b]? := hb.block
  refine ⟨⟨hw.len, ?_, ?_, hw.immOwn, hw.borOwn, ?_, ?_, hw.apart, hw.newLoc, hw.newMap, hw.newSt⟩, Ext.refl _ _, ⟨hb.size, fun b h _ => hsame b h, hb.tape, hb.os, hb.output⟩, fun _ h _ => h⟩
  · intro b i v h
    have := hw.imm _ _ _ h
    rw [cell_same (hsame b (cell_lt this))]; exact this
  · intro b i v h
    have := hw.bor _ _ _ h
    rw [cell_same (hsame b (cell_lt this))]; exact this
  · intro o cs st ho
    obtain ⟨b, base, n, hl, hc⟩ := hw.cells _ _ _ ho
    have hbk : blk μ H o = some b := by unfold blk; rw [ho]; simp [hl]
    exact ⟨b, base, n, hl, hc.keep (hsame b (blk_lt hw hbk)) fun _ _ h => h⟩
  · intro o es ho
    obtain ⟨r, hl, hc⟩ := hw.maps _ _ ho
    have hbk : blk μ H o = some r := by unfold blk; rw [ho]; exact hl
    exact ⟨r, hl, hc.keep (hsame r (blk_lt hw hbk)) fun _ _ h => h⟩

/-- .. and a new block may become an object. -/
theorem stp_below_new {μ : Mu} {H : Heap} {w w' : World} (hw : WR μ H w) (hb : Below w.heap.size w w') (b n : Nat) (cs : List AV) (hbn : w.heap.size ≤ b) (hc : CellsAt μ w' cs b 0 n) :
    Stp μ H w (μ.at H.next 0 (b, 0, n)) (H.push (.cells cs 0)) w' :=
  stp_put hw H.next 0 b 0 n cs (fun p => Heap.get_push H _ p) (by simp [Heap.push, hw.len]) (by simp [Heap.push]) (.inl hbn) ⟨hb.size, fun b' _ h => hb.block b' h, hb.tape, hb.os, hb.output⟩
    (.inl (hw.newLoc _ _ (Nat.le_refl _))) (fun s _ => hw.newLoc _ _ (Nat.le_refl _)) hc

/-- Where a list of cells is known: what they hold. -/
theorem vrc_cells {μ : Mu} {H : Heap} {w : World} (hw : WR μ H w) {br : Bool} {b i : Nat} {cs : List AV} (h : VRC μ (if br then μ.bor else μ.imm) b i cs) (j : Nat) (c : AV) (hj : cs[j]? = some c) :
    ∃ v, w.cell? ⟨b, i + j, none⟩ = some v ∧ VR μ c v := by
  obtain ⟨v, h1, h2⟩ := h.get j c hj
  cases br
  · exact ⟨v, hw.imm _ _ _ h1, h2⟩
  · exact ⟨v, hw.bor _ _ _ h1, h2⟩

end Go.AM
