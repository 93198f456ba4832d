/-
  Closed facts of the program that every statement asks for.
-/
import Derived.Test.YtnieokpcakhfpaaGreatRows
import Derived.ProofKit
namespace Go.Proofs.YtnieokpcakhfpaaGreat
theorem both {a b : Bool} (h : a = true) (k : b = true) : (a && b) = true := by rw [h, k]; rfl
theorem fact_laid : (laidOutB Tryz.prog) = true := by kernel_rfl
theorem fact_rowed : (mapsRowed Tryz.prog) = true := by kernel_rfl
theorem fact_keys : ((Rows.nodeIdleRow.plainKeys == Tryz.prog.plainKeys)) = true := by kernel_rfl
theorem fact_heard : (Tryz.prog.stopsHeard) = true := by kernel_rfl
theorem fact_enter : (Tryz.prog.mayEnter) = true := by kernel_rfl
theorem fact_lifted : ((Rows.nodeIdleRow.lifted == Tryz.prog.liftsFinal)) = true := by kernel_rfl
theorem fact_make : ((Tryz.prog.make == some Rows.nodeIdleRow.make)) = true := by kernel_rfl
end Go.Proofs.YtnieokpcakhfpaaGreat
