/-
  NodeIdle holds: a node that nobody asked sends nothing.
-/
import Derived.Test.YtnieokpcakhfpaaGreatAmNodeIdle
import Derived.Test.YtnieokpcakhfpaaGreatAmNodeOk
import Derived.Test.YtnieokpcakhfpaaGreatAmLaw
import Derived.Test.YtnieokpcakhfpaaGreatAmFacts
namespace Go.Proofs.YtnieokpcakhfpaaGreat
open Go.ChangeShapes Go.WideShapes Go.ChangeAt Go.RowKit Go.AM
set_option linter.unusedVariables false

theorem Tryz.own : ownKnob Tryz.prog.godebug = none := by kernel_rfl

theorem idle_arun {v : AV} (hc : v.closed = true) (h : den Idle.E c_14 [v] = some (.bool true)) : arun tab 61 14 Heap.empty [v] = some (.bool true, Heap.empty) :=
  arun_pure (show tab.get 14 = some (.code c_14) by kernel_rfl) rfl (by simp [closedL, hc]) h

theorem closed_ints : ∀ xs : List Int, closedL (xs.map (AV.int .i64 ·)) = true
  | [] => rfl
  | x :: xs => by simp only [List.map_cons, closedL, AV.closed, closed_ints xs, Bool.and_self]

theorem vrc_ints {μ : Mu} {m : Nat → Nat → Option Value} {b : Nat} : ∀ (xs : List Int) (i : Nat), (∀ j (hj : j < xs.length), m b (i + j) = some (.int .i64 xs[j])) → VRC μ m b i (xs.map (AV.int .i64 ·))
  | [], i, _ => trivial
  | x :: xs, i, h => by
    refine ⟨⟨_, h 0 (by simp), rfl⟩, vrc_ints xs (i + 1) fun j hj => ?_⟩
    have := h (j + 1) (by simp; omega)
    rw [show i + 1 + j = i + (j + 1) by omega]; simpa using this

theorem idle_calls (w : World) {v : Value} {a : AV} (hc : a.closed = true) (h : den Idle.E c_14 [a] = some (.bool true)) (hv : VR (mu0 w) a v) :
    Calls Tryz.prog 14 #[v] w fun e w' => e = .returned (.bool true) ∧ Below w.heap.size w w' :=
  (law_calls tabOk (by kernel_rfl) (idle_arun hc h) (vs := [v]) (by simp only [VRL]; exact ⟨v, [], rfl, hv, rfl⟩)).mono fun e w' ⟨μ', x, h1, h2, h3⟩ => by
    simp only [VR] at h2; subst h2; exact ⟨h1, h3⟩

set_option maxRecDepth 100000 in
theorem nodeIdle_lifted (os : Os) (started : os.Started) (H : Type) (enc : TypeId × Value → H) :
    ReturnsInHanded {} Tryz.checked os 14 .any (Rows.nodeIdleSpec.pre6 enc Tryz.prog Tryz.f14 Rows.nodeIdleRow.domain false) (Rows.nodeIdleSpec.post enc Tryz.prog Tryz.f14 false true false false) := by
  refine returnsInHanded_of_change (C := Tryz.checked) Tryz.own started (by kernel_rfl) Tryz.func14
    (ChangeSpec.witness6 (enc := enc) (C := Tryz.checked) false ⟨#[], #[.slice none 0 0], []⟩ 8 (by kernel_rfl) (by kernel_rfl) (by kernel_rfl) (by kernel_rfl)) ?_
  intro W base args ds gs before hval0 hW hcnd _
  have hval : ∀ (j : Nat) t v, Tryz.f14.params[j]? = some t → args[j]? = some v → Value.okWide Tryz.prog W .any base t v := hval0
  have hW' := hW
  obtain ⟨p, q, hA0, hV, rfl, hfz, hnd⟩ := hW
  have hA : DataW.TrodAll enc Tryz.prog W 0 (fun _ => true) true Tryz.f14.params.toList args.toList ds p := hA0
  rw [Tryz.params14] at hA hval
  obtain ⟨v0, d0, rfl, rfl, h0⟩ := trodAll_one hA
  obtain ⟨rfl, rfl⟩ := trodVars_none hV
  have hv0 := hval 0 88 v0 rfl rfl
  obtain ⟨a0, len, cap, rfl⟩ := okWide_slice Tryz.underlying88 hv0
  have h0k := h0
  obtain ⟨fuel, hf⟩ := h0
  clear hA0 hval0
  simp only [List.append_nil] at hW'
  have hlt : ∀ x ∈ p, x.block < W.heap.size := fun x hx => by simpa using hW'.lt x hx
  have run : Calls Tryz.prog 14 #[.slice a0 len cap] W fun e w' => e = .returned (.bool true) ∧ Below W.heap.size W w' := by
    rcases open_ints Tryz.underlying88 Tryz.underlying3 (by kernel_rfl) hf with ⟨hcs, hx⟩ | ⟨a, len', cap', zs, hcs, _, hl, hm, hz, hx, hcell, hwz⟩
    · simp [Value.cells] at hcs
      obtain ⟨rfl, rfl, rfl⟩ := hcs
      exact idle_calls W rfl Idle.nil_run (by simp only [VR])
    · simp [Value.cells] at hcs
      obtain ⟨rfl, rfl, rfl⟩ := hcs
      have hs := okWide_spot Tryz.underlying88 hv0
      obtain ⟨b, off, spot⟩ := a
      simp only at hs; subst hs
      simp only [if_true] at hz
      have hlen : (zs.take len).length = len := by simp; omega
      have hr := Idle.run (br := true) (t := false) (zs.take len)
      refine idle_calls W (by simp only [Idle.arg, AV.closed]; exact closed_ints _) hr ?_
      simp only [Idle.arg, VR]
      refine ⟨b, off, cap, by rw [hlen], by omega, by simp, by simp, ?_⟩
      refine vrc_ints _ _ fun j hj => ?_
      have hc := hcell j (by omega)
      simp only [if_true, mu0]
      rw [show W.cell? ⟨b, off + j, none⟩ = W.cell? (Addr.add ⟨b, off, none⟩ j) by unfold Addr.add; split <;> simp_all]
      rw [hc, List.getElem_take, List.getD_eq_getElem?_getD, List.getElem?_eq_getElem (by omega)]; rfl
  refine run.mono fun e W' ⟨he, hB⟩ => ?_
  subst he
  refine ⟨_, rfl, _, _, _, [], p, [], hW', ?_, ?_, rfl, hB.frame _, fun h => by cases h⟩
  · exact trodAll_mk1 (shut_bool Tryz.underlying4 _)
  · exact trodAll_mk1 (Below.trod fact_laid (by kernel_rfl) (of_decide_eq_true (by kernel_rfl)) h0k hB hlt)

theorem nodeIdle_place : ((Rows.nodeIdleRow.inPlace == Tryz.prog.inPlace 14)) = true := by kernel_rfl
theorem nodeIdle_unf : ((Rows.nodeIdleRow.unfollowed == Tryz.prog.unfollowed 14)) = true := by kernel_rfl
theorem nodeIdle_rec : ((Rows.nodeIdleRow.recurses == Tryz.prog.recurses 14)) = true := by kernel_rfl
theorem nodeIdle_named : ((Rows.nodeIdleRow.named == Tryz.prog.varsNamed 14)) = true := by kernel_rfl
theorem nodeIdle_facts : joinedFacts Tryz.pinned.checked.prog 14 Tryz.f14 Rows.nodeIdleSpec Rows.nodeIdleRow = true := by
  unfold joinedFacts
  exact (both (both (both (both (both (both (both (both (both (both (both (both (both (both (both (both (both (both (both (both (both (both (both (both (both (both (both (both (both (both (both (by kernel_rfl) fact_laid) fact_rowed) (by kernel_rfl)) (by kernel_rfl)) (by kernel_rfl)) (by kernel_rfl)) (by kernel_rfl)) (by kernel_rfl)) nodeIdle_place) nodeIdle_unf) nodeIdle_rec) nodeIdle_named) (by kernel_rfl)) (by kernel_rfl)) (by kernel_rfl)) (by kernel_rfl)) (by kernel_rfl)) (by kernel_rfl)) (by kernel_rfl)) (by kernel_rfl)) (by kernel_rfl)) fact_keys) (by kernel_rfl)) fact_heard) fact_enter) fact_lifted) fact_make) (by kernel_rfl)) (by kernel_rfl)) (by kernel_rfl)) (by kernel_rfl))

theorem nodeIdle_holds : Rows.NodeIdleSaid :=
  OpenClaim.holds_of_wide 14 Tryz.f14 rfl rfl rfl rfl rfl rfl rfl ⟨rfl, rfl, rfl, rfl, rfl⟩ rfl rfl rfl rfl rfl (by kernel_rfl) Tryz.func14 nodeIdle_facts
    (of_decide_eq_true (by kernel_rfl)) (by unfold Func.isWrapper; first | (rw [if_pos (by decide +kernel)]; kernel_rfl) | (rw [if_neg (by decide +kernel)]; exact ⟨rfl, rfl⟩))
    (fun os started H enc _ => nodeIdle_lifted os started H enc)
#print axioms nodeIdle_holds
end Go.Proofs.YtnieokpcakhfpaaGreat
