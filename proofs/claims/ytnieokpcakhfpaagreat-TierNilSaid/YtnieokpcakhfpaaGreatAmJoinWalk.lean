/-
  name.Join: what it does.
-/
import Derived.Test.YtnieokpcakhfpaaGreatAmBuilder
import Derived.Test.YtnieokpcakhfpaaGreatAmOver
import Derived.BigCall
import Derived.Lib.Hide
set_option linter.unusedVariables false
namespace Go.Proofs
open Go.RowKit Go.AM

/-- What Join answers. -/
def joinV (o : Option (List UInt8)) : Value :=
  match o with
  | some s => .tuple #[.string ⟨s.toArray⟩, .int .i64 0]
  | none => .tuple #[.string ⟨#[]⟩, .int .i64 1]

set_option maxHeartbeats 2000000 in
set_option maxRecDepth 100000 in
theorem Tryz.Join_walk (ao : Option Addr) (cap : Nat) (xs : List (List UInt8)) (w : World) (hlen : xs.length < 2 ^ 40)
    (hc : ∀ (j : Nat) (x : List UInt8), xs[j]? = some x → ∃ b i, ao = some ⟨b, i, none⟩ ∧ b < w.heap.size ∧ w.cell? ⟨b, i + j, none⟩ = some (.string ⟨x.toArray⟩)) :
    Calls Tryz.prog 213 #[.slice ao xs.length cap] w fun e w' => e = .returned (joinV (joinL xs 0 [])) ∧ Below w.heap.size w w' := by
  go_enter Tryz.func213, Tryz.ntmps213
  go_wp2
  go_loopw [9] (fun iv wr => ∃ (k : Nat) (acc : List UInt8), iv = .int .i64 k ∧ k ≤ xs.length ∧ Lib.IsBuilder 470 5 w.heap.size w.heap.size (Lib.byteCells acc) wr ∧ Below w.heap.size w wr ∧ joinL (xs.drop k) 0 acc = joinL xs 0 [] ∧ acc.length ≤ 400)
    (fun iv wr => xs.length - (intOf iv).toNat)
  case atStart =>
    exact ⟨0, [], rfl, Nat.zero_le _, Lib.fresh_isBuilder 470 5 w, (Below.refl _ w).alloc (Nat.le_refl _) _, rfl, by simp⟩
  case round =>
    obtain ⟨k, acc, rfl, hk, hI, hbw, hj, hal⟩ := hrel
    by_cases hkl : k < xs.length
    · have hx : xs[k]? = some xs[k] := List.getElem?_eq_getElem hkl
      obtain ⟨b, i, rfl, hb, hck⟩ := hc k _ hx
      have hcell := (hbw.cell (p := ⟨b, i + k, none⟩) hb).trans hck
      clear hck
      generalize hxk : xs[k] = x at hcell hx
      have hsz : w.heap.size ≤ wr.heap.size := hbw.size
      have hjk : joinL (xs.drop k) 0 acc = if x.isEmpty ∨ x.length > 63 ∨ acc.length > 254 then none else joinL (xs.drop (k + 1)) 0 (acc ++ [UInt8.ofNat x.length] ++ x) := by
        rw [List.drop_eq_getElem_cons hkl, hxk]; rfl
      rw [hjk] at hj
      have Hj := Lib.hid hj
      clear hj hjk hx hxk hc
      by_cases hx0 : x = []
      · subst hx0
        go_wp2
        go_ret2
        refine ⟨?_, hbw⟩
        have hj := Hj.out
        simp at hj
        rw [← hj]; rfl
      · have hxe : x.isEmpty = false := by simpa using hx0
        have h254f : ∀ n : Int, ¬ (254 : Int) < n → decide ((254 : Int) < n) = false := fun n h => decide_eq_false h
        by_cases h63 : (63 : Int) < x.length
        · go_wp2
          go_ret2
          refine ⟨?_, hbw⟩
          have hj := Hj.out
          rw [if_pos (.inr (.inl (by omega)))] at hj
          rw [← hj]; rfl
        · by_cases h254 : (254 : Int) < (Lib.byteCells acc).length
          · go_wp2_with (go_at_call 319; refine (Tryz.Builder_Len w.heap.size w.heap.size (Lib.byteCells acc) _ hI).mono ?_; rintro e w' ⟨rfl, rfl⟩)
            go_ret2
            refine ⟨?_, hbw⟩
            have hj := Hj.out
            rw [Lib.byteCells_length] at h254
            rw [if_pos (.inr (.inr (by omega)))] at hj
            rw [← hj]; rfl
          · have hd := h254f _ h254
            clear h254f
            go_wp2_with (first
              | (go_at_call 319; refine (Tryz.Builder_Len w.heap.size w.heap.size (Lib.byteCells acc) _ hI).mono ?_; rintro e w' ⟨rfl, rfl⟩)
              | (go_at_call 320; refine (Tryz.WriteByte w.heap.size w.heap.size _ _ _ hI (by rw [Lib.byteCells_length]; omega) hsz).mono ?_))
            rintro e W1 ⟨rfl, h1, b1⟩
            rw [Lib.byteCells_length] at h254
            have hs1 : w.heap.size ≤ W1.heap.size := Nat.le_trans hsz b1.size
            go_wp2_with (go_at_call 321; refine (Tryz.WriteString w.heap.size w.heap.size _ _ _ (Or.inr h1) (by simp only [List.length_append, Lib.byteCells_length, List.length_cons, List.length_nil, ByteArray.size, List.size_toArray]; omega) hs1).mono ?_)
            rintro e W2 ⟨rfl, h2, b2⟩
            go_wp2
            go_roundw
            case rel =>
              refine ⟨k + 1, acc ++ [UInt8.ofNat x.length] ++ x, rfl, by omega, ?_, (hbw.trans b1).trans b2, ?_, by simp; omega⟩
              · rw [Lib.byteCells_append, Lib.byteCells_append]
                refine Or.inr ?_
                have e1 : Lib.byteCells [UInt8.ofNat x.length] = [Value.int .u8 (x.length : Int)] := by
                  simp [Lib.byteCells]; omega
                rw [e1]
                exact h2
              · have hj := Hj.out
                rw [if_neg (by simp [hx0]; omega)] at hj
                exact hj
            case measure =>
              simp [intOf]; omega
    · have hke : xs.drop k = [] := List.drop_eq_nil_of_le (by omega)
      rw [hke] at hj
      have Hj := Lib.hid hj
      clear hj hke hc
      by_cases h254 : (254 : Int) < (Lib.byteCells acc).length
      · go_wp2_with (go_at_call 319; refine (Tryz.Builder_Len w.heap.size w.heap.size (Lib.byteCells acc) _ hI).mono ?_; rintro e w' ⟨rfl, rfl⟩)
        go_ret2
        refine ⟨?_, hbw⟩
        have hj := Hj.out
        rw [Lib.byteCells_length] at h254
        simp only [joinL] at hj
        rw [if_pos (by omega)] at hj
        rw [← hj]; rfl
      · go_wp2_with (first
          | (go_at_call 319; refine (Tryz.Builder_Len w.heap.size w.heap.size (Lib.byteCells acc) _ hI).mono ?_; rintro e w' ⟨rfl, rfl⟩)
          | (go_at_call 322; refine (Tryz.Builder_String_any w.heap.size w.heap.size acc _ hI hbw.size).mono ?_; rintro e w' ⟨rfl, b2⟩))
        go_ret2
        refine ⟨?_, hbw.trans b2⟩
        have hj := Hj.out
        rw [Lib.byteCells_length] at h254
        simp only [joinL] at hj
        rw [if_neg (by omega)] at hj
        rw [← hj]; rfl
end Go.Proofs
