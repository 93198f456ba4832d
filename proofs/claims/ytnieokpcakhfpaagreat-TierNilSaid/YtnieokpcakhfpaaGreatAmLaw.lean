/-
  From a run of the abstract machine to a call of the program.
-/
import Derived.Test.YtnieokpcakhfpaaGreatAmFunc
import Derived.ProofKit
namespace Go.AM
open Go.RowKit (Below)

variable {P : Program}

/-- What a world holds at the begin. -/
def mu0 (w : World) : Mu := ⟨fun _ _ => none, fun _ => none, fun _ _ => none, fun b i => w.cell? ⟨b, i, none⟩⟩
theorem wr0 (w : World) : WR (mu0 w) Heap.empty w := WR.empty (fun _ _ _ h => by simp [mu0] at h) (fun _ _ _ h => h) (fun _ _ => rfl) (fun _ => rfl)
theorem below_start {μ μ' : Mu} {H' : Heap} {w w' : World} (h : Stp μ Heap.empty w μ' H' w') : Below w.heap.size w w' :=
  ⟨h.keeps.os, h.keeps.tape, h.keeps.output, h.keeps.size, fun k hk => h.keeps.same k hk (own_empty _ _)⟩

theorem law_calls {T : Tab} (hT : TabOk P T) (hm : P.follows .mixedOrders = true) {d f : Nat} {as : List AV} {r : AV} {H' : Heap} (h : arun T d f Heap.empty as = some (r, H')) {w : World} {vs : List Value} (hv : VRL (mu0 w) as vs) :
    Calls P f vs.toArray w fun e w' => ∃ μ' v, e = .returned v ∧ VR μ' r v ∧ Below w.heap.size w w' :=
  ((arun_sound hT hm d).1 f Heap.empty as r H' h).2 _ _ _ (wr0 w) hv |>.mono fun _ _ ⟨μ', v, h1, h2, h3⟩ => ⟨μ', v, h1, h2, below_start h3⟩

/-- A slice that is handed in lies at a plain place. -/
theorem okWide_spot {w : World} {r : Reach} {base : Nat} {t e : TypeId} {a : Addr} {len cap : Nat} (ht : P.underlying t = some (.slice e)) (h : Value.okWide P w r base t (.slice (some a) len cap)) : a.spot = none := by
  simp only [Value.okWide, ht, Cell.okWide, Cell.ok, World.has] at h
  exact h.2.2.2.1
end Go.AM
