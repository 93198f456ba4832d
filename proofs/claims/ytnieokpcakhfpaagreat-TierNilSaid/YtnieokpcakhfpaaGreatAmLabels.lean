/-
  name.labels, and the loop over it: the iterator, whatever the rounds keep.
-/
import Derived.Test.YtnieokpcakhfpaaGreatAmOvBase
import Derived.RangeFuncBox
import Derived.RangeFuncBound
import Derived.RangeFuncLeaves
import Derived.RangeFuncCalls
import Derived.Shelf.Abstract
import Derived.WalkKit
import Derived.OwnWalkIn
import Derived.TacticsInMore
import Derived.LoopNIn
import Derived.LoopIn
import Derived.Maps.AppendAt
import Derived.Lib.Hide
import Derived.Test.YtnieokpcakhfpaaGreatProg
set_option linter.unusedVariables false
namespace Go.Proofs
open Go.RowKit Go.Shelf Go.AM

attribute [local go_sem] Oper.semAt_some

/-- How many bytes are still to come. -/
noncomputable def restOf (Bn : Nat) (W : World) : Nat :=
  match W.cell? ⟨Bn, 0, none⟩ with
  | some (.string b) => b.size
  | _ => 0

set_option maxRecDepth 100000 in
set_option maxHeartbeats 2000000 in
theorem Tryz.labels1_in (n : Nat) (hn : 1 ≤ n) (l Bn : Nat) (J : List (List UInt8) → List UInt8 → World → Prop) (Jx : World → Prop)
    (hJn : ∀ pre r W, J pre r W → W.cell? ⟨Bn, 0, none⟩ = some (.string ⟨r.toArray⟩) ∧ W.frozen? ⟨Bn, 0, none⟩ = false)
    (hJs : ∀ pre r r' W, J pre r W → J pre r' (W.setCell ⟨Bn, 0, none⟩ (.string ⟨r'.toArray⟩)))
    (hY : ∀ pre r x W, J pre r W → pre.length ≤ 254 → YieldAt Fence.wide (n - 1) Tryz.prog l #[.string ⟨x.toArray⟩, .bool true] W fun e W' => e = .returned (.bool true) ∧ J (pre ++ [x]) r W')
    (hYx : ∀ pre r W, J pre r W → YieldAt Fence.wide (n - 1) Tryz.prog l #[.string ⟨#[]⟩, .bool false] W fun e W' => e = .returned (.bool false) ∧ Jx W')
    (W : World) (s : List UInt8) (hs : s.length ≤ 254) (h0 : J [] s W) :
    CallsIn Fence.wide n Tryz.prog 369 #[.func (.yield l) #[] #[], .pointer (some ⟨Bn, 0, none⟩)] W fun e W' => (∃ v, e = .returned v) ∧
      ((∃ ls, cutL s.length s = some ls ∧ J ls [] W') ∨ (cutL s.length s = none ∧ Jx W')) := by
  refine callsIn_of_wp Tryz.func369 rfl trivial ?_ rfl
  simp only [Tryz.ntmps369, List.size_toArray, List.length_cons, List.length_nil, Nat.reduceAdd, Nat.reduceSub, Array.replicate_succ, Array.replicate_zero, List.push_toArray, List.append_toArray, List.nil_append, List.cons_append]
  gi_wp2
  gi_loopw [] (fun wr => ∃ (pre : List (List UInt8)) (r : List UInt8) (f : Nat), J pre r wr ∧ r.length ≤ f ∧ pre.length + r.length ≤ 254 ∧ cutL s.length s = (cutL f r).map (pre ++ ·))
    (fun wr => restOf Bn wr)
  case atStart =>
    exact ⟨[], s, s.length, h0, Nat.le_refl _, by simpa using hs, by simp⟩
  case round =>
    obtain ⟨pre, r, f, hJ, hf, hlen, hcut⟩ := hrel
    obtain ⟨hc, hz⟩ := hJn _ _ _ hJ
    cases r with
    | nil =>
      gi_wp2
      go_end0
      refine ⟨⟨_, rfl⟩, .inl ⟨pre, ?_, hJ⟩⟩
      rw [hcut]; cases f <;> simp [cutL]
    | cons k r =>
      obtain ⟨f, rfl⟩ : ∃ g, f = g + 1 := ⟨f - 1, by simp at hf; omega⟩
      have Hc := Lib.hid hcut
      clear hcut
      simp only [List.length_cons] at hlen hf
      have hk256 : k.toNat < 256 := k.toNat_lt
      have hx0 : ∀ h, ((⟨(k :: r).toArray⟩ : ByteArray)[0]'h).toNat = k.toNat := fun _ => rfl
      have hwk : wrap64 (k.toNat : Int) = (k.toNat : Int) := by unfold wrap64; omega
      have bad : (k.toNat < 1 ∨ k.toNat > 63 ∨ k.toNat > r.length) → cutL s.length s = none := fun h => by
        rw [Hc.out]; simp only [cutL]; rw [if_pos h]; rfl
      obtain ⟨fn, tmps, assign, body, hy, hR⟩ := hYx pre _ wr hJ
      by_cases h1 : (k.toNat : Int) < 1
      · gi_wp2
        refine hR.mono ?_
        rintro e W3 ⟨rfl, hx3⟩
        gi_wp2
        refine bodyPost_ret (results_none rfl _ _ _) rfl ?_
        exact ⟨⟨_, rfl⟩, .inr ⟨bad (.inl (by omega)), hx3⟩⟩
      · by_cases h2 : (63 : Int) < k.toNat
        · gi_wp2
          refine hR.mono ?_
          rintro e W3 ⟨rfl, hx3⟩
          gi_wp2
          refine bodyPost_ret (results_none rfl _ _ _) rfl ?_
          exact ⟨⟨_, rfl⟩, .inr ⟨bad (.inr (.inl (by omega))), hx3⟩⟩
        · by_cases h3 : (r.length : Int) + 1 ≤ k.toNat
          · gi_wp2
            refine hR.mono ?_
            rintro e W3 ⟨rfl, hx3⟩
            gi_wp2
            refine bodyPost_ret (results_none rfl _ _ _) rfl ?_
            exact ⟨⟨_, rfl⟩, .inr ⟨bad (.inr (.inr (by omega))), hx3⟩⟩
          · clear hy hR
            obtain ⟨fn, tmps, assign, body, hy, hR⟩ := hY pre _ (r.take k.toNat) wr hJ (by omega)
            have hsl : ∀ W : World, (Instr.slice 22 (.string ⟨(k :: r).toArray⟩) (some (.int .i64 1)) (some (.int .i64 ((k.toNat : Int) + 1))) none).run Tryz.prog W = .ok (.string ⟨(r.take k.toNat).toArray⟩) W := fun W => by
              rw [run_slice_string W 22 _ _ _ _ _ Tryz.underlying22 (by omega) (by omega) (by simp [ByteArray.size]; omega), ByteArray.extract_mk]
              simp
            have hsf : ∀ W : World, (Instr.slice 22 (.string ⟨(k :: r).toArray⟩) (some (.int .i64 ((k.toNat : Int) + 1))) none none).run Tryz.prog W = .ok (.string ⟨(r.drop k.toNat).toArray⟩) W := fun W => by
              rw [run_slice_string_l W 22 _ Tryz.underlying22 _ _ (by omega) (by simp [ByteArray.size]; omega), ByteArray.extract_mk]
              have e1 : ((k.toNat : Int) + 1).toNat = k.toNat + 1 := by omega
              rw [e1]
              simp [ByteArray.size]
              exact List.take_of_length_le (by simp)
            gi_wp2
            refine hR.mono ?_
            rintro e W3 ⟨rfl, hJ3⟩
            obtain ⟨hc3, hz3⟩ := hJn _ _ _ hJ3
            gi_wp2
            go_roundw
            case rel =>
              refine ⟨pre ++ [r.take k.toNat], r.drop k.toNat, f, hJs _ _ _ _ hJ3, by simp; omega, by simp; omega, ?_⟩
              rw [Hc.out]
              simp only [cutL]
              rw [if_neg (by omega)]
              cases cutL f (r.drop k.toNat) <;> simp
            case measure =>
              have hb : Bn < W3.heap.size := cell_lt hc3
              have e3 : restOf Bn (W3.setCell ⟨Bn, 0, none⟩ (.string ⟨(r.drop k.toNat).toArray⟩)) = (r.drop k.toNat).length := by
                unfold restOf
                rw [World.cell?_setCell_same' _ _ _ (by rw [hc3]; rfl)]
                simp [ByteArray.size]
              have e4 : restOf Bn wr = r.length + 1 := by
                unfold restOf
                rw [hc]
                simp [ByteArray.size]
              rw [e3, e4]
              simp; omega
end Go.Proofs
