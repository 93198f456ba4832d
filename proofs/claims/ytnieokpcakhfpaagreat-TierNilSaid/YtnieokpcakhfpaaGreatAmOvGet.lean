/-
  denial.Get, where nothing is denied, in the abstract machine's words.
-/
import Derived.Test.YtnieokpcakhfpaaGreatAmGetWalk
namespace Go.AM
open Go.RowKit (Below)
open Go.Proofs (getNone)

/-- Of an empty heap's world nothing that lay turns. -/
theorem below_stp {μ μ' : Mu} {H' : Heap} {w w' : World} (h : Stp μ Heap.empty w μ' H' w') : Below w.heap.size w w' :=
  ⟨h.keeps.os, h.keeps.tape, h.keeps.output, h.keeps.size, fun k hk => h.keeps.same k hk (own_empty _ _)⟩

theorem ok_347 : EntryOk Go.Proofs.Tryz.prog 347 (.spec oGet) := by
  intro call hcall args r hr
  refine ⟨callB_ex (by kernel_rfl), fun μ w vs hw hv => ?_⟩
  unfold oGet at hr
  split at hr
  case h_2 => simp at hr
  rename_i br c0 c1 cs qn qt now
  split at hr
  case isFalse => simp at hr
  rename_i hnow
  split at hr
  case h_2 => simp at hr
  rename_i s H1 hf
  simp at hr; subst hr
  simp only [VRL, VR] at hv
  obtain ⟨v, _, rfl, ⟨b, i, rfl, hc⟩, u, _, rfl, ⟨us, rfl, x1, us1, rfl, rfl, x2, us2, rfl, rfl, rfl⟩, x3, _, rfl, rfl, rfl⟩ := hv
  obtain ⟨vc, g1, g2⟩ := vrc_cells hw hc 2 .nils rfl
  simp only [VR] at g2; subst g2
  obtain ⟨_, hcf⟩ := hcall 120 Heap.empty [.str qn] (.str s) H1 hf
  refine (callsIn_wide.1 (Go.Proofs.Tryz.get_in b i ⟨qn.toArray⟩ qt now w (cell_lt g1) g1 hnow.1 hnow.2 fun W hW => ?_)).mono ?_
  · refine (hcf μ W [.string ⟨qn.toArray⟩] (stp_below hw hW).wr (by simp only [VRL, VR]; exact ⟨_, _, rfl, rfl, rfl⟩)).mono ?_
    rintro e W' ⟨μ', x, rfl, hx, hst⟩
    simp only [VR] at hx; subst hx
    exact ⟨_, rfl, below_stp hst⟩
  · rintro e w' ⟨rfl, hb⟩
    refine ⟨μ, _, rfl, ?_, stp_below hw hb⟩
    unfold getNone
    simp only [VR, VRL]
    exact ⟨[_, _, _], rfl, _, _, rfl, rfl, _, _, rfl, ⟨[_, _, _, _], rfl, _, _, rfl, rfl, _, _, rfl, rfl, _, _, rfl, rfl, _, _, rfl, rfl, rfl⟩, _, _, rfl, rfl, rfl⟩

end Go.AM
