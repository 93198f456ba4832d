/-
  TierNil holds: a world that is none does nothing: for every input.
-/
import Derived.Test.YtnieokpcakhfpaaGreatAmTierLive
import Derived.Test.YtnieokpcakhfpaaGreatAmTierOk
import Derived.Test.YtnieokpcakhfpaaGreatAmLaw
import Derived.Test.YtnieokpcakhfpaaGreatAmFacts
/-
  TierNil: what its run answers.
-/
section
set_option maxRecDepth 100000
namespace Go.AM.TNil
attribute [local irreducible] arun execS exec loopN bodyS runBody
def E : Env := ⟨arun tab 60, tab.isPure⟩
def H4 : Heap := ⟨4, [(.cells [.nils, (.int .i64 0), (.int .i64 0), (.int .i64 0), (.int .i64 0)] 0), (.cells [(.int .i64 100), (.int .i64 10), .nils] 0), (.cells [(.ptr 2 0 0), .nilp, (.map 0), .nils, (.int .i64 0)] 0), (.map [])]⟩
theorem live_q (H : Heap) : Q.holds E.call (.call 69 H [] (.bool true) H) := by unfold Q.holds; exact live69 H

theorem long_run {a b k : Int} {s : List UInt8} (hs : 300 < s.length) : den E c_18 [.agg [.int .i64 a, .int .i64 b, .str s, .int .i64 k]] = some (.bool true) := by
  have e : Q.holds E.call (.bin .gtr (.int .i64 (Int.ofNat s.length)) (.int .i64 300) (.bool true)) := by
    simp only [Q.holds, binV, intBin, if_true]
    simp; omega
  have h1 : (bodyS ⟨[69], [9]⟩ E c_18 [.agg [.int .i64 a, .int .i64 b, .str s, .int .i64 k]] Heap.empty [⟨.bool true, none⟩, ⟨.bool true, none⟩]).map (fun p => (p.1, p.2.2)) =
      some (.bool true, [.call 69 Heap.empty [] (.bool true) Heap.empty, .bin .gtr (.int .i64 (Int.ofNat s.length)) (.int .i64 300) (.bool true)]) := by kernel_rfl
  exact den_map h1 (All.cons (live_q _) (All.cons e (All.nil _))) rfl

theorem short_run {a b k : Int} {s : List UInt8} (hs : s.length ≤ 300) : den E c_18 [.agg [.int .i64 a, .int .i64 b, .str s, .int .i64 k]] = some (.bool true) := by
  have e : Q.holds E.call (.bin .gtr (.int .i64 (Int.ofNat s.length)) (.int .i64 300) (.bool false)) := by
    simp only [Q.holds, binV, intBin, if_true]
    simp; omega
  have h1 : (bodyS ⟨[69], [9]⟩ E c_18 [.agg [.int .i64 a, .int .i64 b, .str s, .int .i64 k]] Heap.empty [⟨.bool false, none⟩, ⟨.bool true, none⟩]).map (fun p => (p.1, p.2.2)) =
      some (.bool true, [.call 69 H4 [] (.bool true) H4, .bin .gtr (.int .i64 (Int.ofNat s.length)) (.int .i64 300) (.bool false)]) := by kernel_rfl
  exact den_map h1 (All.cons (live_q _) (All.cons e (All.nil _))) rfl

theorem run (a b k : Int) (s : List UInt8) : den E c_18 [.agg [.int .i64 a, .int .i64 b, .str s, .int .i64 k]] = some (.bool true) := by
  by_cases h : s.length ≤ 300
  · exact short_run h
  · exact long_run (by omega)
end Go.AM.TNil
end
section
namespace Go.Proofs.YtnieokpcakhfpaaGreat
open Go.ChangeShapes Go.WideShapes Go.ChangeAt Go.RowKit Go.AM
set_option linter.unusedVariables false

theorem Tryz.own : ownKnob Tryz.prog.godebug = none := by kernel_rfl

theorem tierNil_arun {v : AV} (hc : v.closed = true) (h : den TNil.E c_18 [v] = some (.bool true)) : arun tab 61 18 Heap.empty [v] = some (.bool true, Heap.empty) :=
  arun_pure (show tab.get 18 = some (.code c_18) by kernel_rfl) rfl (by simp [closedL, hc]) h

theorem tierNil_calls (w : World) {v : Value} {a : AV} (hc : a.closed = true) (h : den TNil.E c_18 [a] = some (.bool true)) (hv : VR (mu0 w) a v) :
    Calls Tryz.prog 18 #[v] w fun e w' => e = .returned (.bool true) ∧ Below w.heap.size w w' :=
  (law_calls tabOk (by kernel_rfl) (tierNil_arun hc h) (vs := [v]) (by simp only [VRL]; exact ⟨v, [], rfl, hv, rfl⟩)).mono fun e w' ⟨μ', x, h1, h2, h3⟩ => by
    simp only [VR] at h2; subst h2; exact ⟨h1, h3⟩

theorem cells158 : Tryz.prog.cellTypes Tryz.prog.depth 158 = some [3, 3, 22, 3] := by kernel_rfl
theorem size158 : Tryz.prog.cellsOf 158 = 4 := by kernel_rfl

theorem okWide_cell_int {P : Program} {w : World} {r : Reach} {base : Nat} {t : TypeId} {k : IntKind} {v : Value} (ht : P.underlying t = some (.int k)) (h : Cell.okWide P w r base t v) : ∃ n, v = .int k n := by
  simp only [Cell.okWide, ht] at h
  cases v <;> simp_all [Cell.ok]
theorem okWide_cell_str {P : Program} {w : World} {r : Reach} {base : Nat} {t : TypeId} {v : Value} (ht : P.underlying t = some .string) (h : Cell.okWide P w r base t v) : ∃ s, v = .string s := by
  simp only [Cell.okWide, ht] at h
  cases v <;> simp_all [Cell.ok]

set_option maxRecDepth 100000 in
/-- What a script's step is. -/
theorem op158 {W : World} {base : Nat} {v : Value} (h : Value.okWide Tryz.prog W .any base 158 v) : ∃ (a b k : Int) (s : ByteArray), v = .agg #[.int .i64 a, .int .i64 b, .string s, .int .i64 k] := by
  simp only [Value.okWide, Tryz.underlying158] at h
  obtain ⟨cs, rfl, hs, ts, h1, _, h2⟩ := h
  rw [cells158] at h1
  obtain rfl := Option.some.inj h1
  rw [size158] at hs
  obtain ⟨l⟩ := cs
  match l, hs with
  | [c0, c1, c2, c3], _ =>
    obtain ⟨u0, e0, g0⟩ := h2 0 c0 rfl
    obtain ⟨u1, e1, g1⟩ := h2 1 c1 rfl
    obtain ⟨u2, e2, g2⟩ := h2 2 c2 rfl
    obtain ⟨u3, e3, g3⟩ := h2 3 c3 rfl
    obtain rfl := Option.some.inj e0
    obtain rfl := Option.some.inj e1
    obtain rfl := Option.some.inj e2
    obtain rfl := Option.some.inj e3
    obtain ⟨a, rfl⟩ := okWide_cell_int Tryz.underlying3 g0
    obtain ⟨b, rfl⟩ := okWide_cell_int Tryz.underlying3 g1
    obtain ⟨s, rfl⟩ := okWide_cell_str Tryz.underlying22 g2
    obtain ⟨k, rfl⟩ := okWide_cell_int Tryz.underlying3 g3
    exact ⟨a, b, k, s, rfl⟩

set_option maxRecDepth 100000 in
theorem tierNil_lifted (os : Os) (started : os.Started) (H : Type) (enc : TypeId × Value → H) :
    ReturnsInHanded {} Tryz.checked os 18 .any (Rows.tierNilSpec.pre6 enc Tryz.prog Tryz.f18 Rows.tierNilRow.domain false) (Rows.tierNilSpec.post enc Tryz.prog Tryz.f18 false true false false) := by
  refine returnsInHanded_of_change (C := Tryz.checked) Tryz.own started (by kernel_rfl) Tryz.func18
    (ChangeSpec.witness6 (enc := enc) (C := Tryz.checked) false ⟨#[], #[.agg #[.int .i64 0, .int .i64 0, .string ⟨#[]⟩, .int .i64 0]], []⟩ 8 (by kernel_rfl) (by kernel_rfl) (by kernel_rfl) (by kernel_rfl)) ?_
  intro W base args ds gs before hval0 hW hcnd _
  have hval : ∀ (j : Nat) t v, Tryz.f18.params[j]? = some t → args[j]? = some v → Value.okWide Tryz.prog W .any base t v := hval0
  have hW' := hW
  obtain ⟨p, q, hA0, hV, rfl, hfz, hnd⟩ := hW
  have hA : DataW.TrodAll enc Tryz.prog W 0 (fun _ => true) true Tryz.f18.params.toList args.toList ds p := hA0
  rw [Tryz.params18] at hA hval
  obtain ⟨v0, d0, rfl, rfl, h0⟩ := trodAll_one hA
  obtain ⟨rfl, rfl⟩ := trodVars_none hV
  obtain ⟨a, b, k, s, rfl⟩ := op158 (hval 0 158 v0 rfl rfl)
  clear hA0 hval0
  simp only [List.append_nil] at hW'
  have hlt : ∀ x ∈ p, x.block < W.heap.size := fun x hx => by simpa using hW'.lt x hx
  have run := tierNil_calls W (v := .agg #[.int .i64 a, .int .i64 b, .string s, .int .i64 k]) (by rfl) (TNil.run a b k s.data.toList) (by
    simp only [VR, VRL]
    exact ⟨_, rfl, _, _, rfl, rfl, _, _, rfl, rfl, _, _, rfl, by cases s; simp, _, _, rfl, rfl, rfl⟩)
  refine run.mono fun e W' ⟨he, hB⟩ => ?_
  subst he
  refine ⟨_, rfl, _, _, _, [], p, [], hW', ?_, ?_, rfl, hB.frame _, fun h => by cases h⟩
  · exact trodAll_mk1 (shut_bool Tryz.underlying4 _)
  · exact trodAll_mk1 (Below.trod fact_laid (by kernel_rfl) (of_decide_eq_true (by kernel_rfl)) h0 hB hlt)

theorem tierNil_place : ((Rows.tierNilRow.inPlace == Tryz.prog.inPlace 18)) = true := by kernel_rfl
theorem tierNil_unf : ((Rows.tierNilRow.unfollowed == Tryz.prog.unfollowed 18)) = true := by kernel_rfl
theorem tierNil_rec : ((Rows.tierNilRow.recurses == Tryz.prog.recurses 18)) = true := by kernel_rfl
theorem tierNil_named : ((Rows.tierNilRow.named == Tryz.prog.varsNamed 18)) = true := by kernel_rfl
theorem tierNil_facts : joinedFacts Tryz.pinned.checked.prog 18 Tryz.f18 Rows.tierNilSpec Rows.tierNilRow = true := by
  unfold joinedFacts
  exact (both (both (both (both (both (both (both (both (both (both (both (both (both (both (both (both (both (both (both (both (both (both (both (both (both (both (both (both (both (both (both (by kernel_rfl) fact_laid) fact_rowed) (by kernel_rfl)) (by kernel_rfl)) (by kernel_rfl)) (by kernel_rfl)) (by kernel_rfl)) (by kernel_rfl)) tierNil_place) tierNil_unf) tierNil_rec) tierNil_named) (by kernel_rfl)) (by kernel_rfl)) (by kernel_rfl)) (by kernel_rfl)) (by kernel_rfl)) (by kernel_rfl)) (by kernel_rfl)) (by kernel_rfl)) (by kernel_rfl)) fact_keys) (by kernel_rfl)) fact_heard) fact_enter) fact_lifted) fact_make) (by kernel_rfl)) (by kernel_rfl)) (by kernel_rfl)) (by kernel_rfl))

theorem tierNil_holds : Rows.TierNilSaid :=
  OpenClaim.holds_of_wide 18 Tryz.f18 rfl rfl rfl rfl rfl rfl rfl ⟨rfl, rfl, rfl, rfl, rfl⟩ rfl rfl rfl rfl rfl (by kernel_rfl) Tryz.func18 tierNil_facts
    (of_decide_eq_true (by kernel_rfl)) (by unfold Func.isWrapper; first | (rw [if_pos (by decide +kernel)]; kernel_rfl) | (rw [if_neg (by decide +kernel)]; exact ⟨rfl, rfl⟩))
    (fun os started H enc _ => tierNil_lifted os started H enc)
#print axioms tierNil_holds
end Go.Proofs.YtnieokpcakhfpaaGreat
end
