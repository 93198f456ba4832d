/-
  Slots as a function.
-/
import Derived.Test.YtnieokpcakhfpaaGreatAmSym
import Derived.Test.YtnieokpcakhfpaaGreatAmRun1
namespace Go.AM

theorem mkT_get : ∀ {A : Tr} {d : Nat}, A.dep d → ∀ (f : Nat → AV), (∀ i, i < 2 ^ d → f i = A.get i) → mkT d f = A
  | .lf v, d, h, f, hf => by
    have h : d = 0 := h
    subst h
    simp only [mkT]
    rw [hf 0 (by simp)]; rfl
  | .nd a b, d, h, f, hf => by
    obtain ⟨e, rfl, h1, h2⟩ := h
    simp only [mkT]
    rw [mkT_get h1 (fun n => f (2 * n)) fun i hi => ?_, mkT_get h2 (fun n => f (2 * n + 1)) fun i hi => ?_]
    · rw [hf _ (by rw [Nat.pow_succ]; omega)]
      simp only [Tr.get]
      have : (2 * i + 1) % 2 = 1 := by omega
      rw [this, show (2 * i + 1) / 2 = i by omega]; rfl
    · rw [hf _ (by rw [Nat.pow_succ]; omega)]
      simp only [Tr.get]
      have : (2 * i) % 2 = 0 := by omega
      rw [this, show 2 * i / 2 = i by omega]; rfl
theorem ovr_eq (f : Nat → AV) : ∀ (l : List (Nat × AV)), (∀ p ∈ l, f p.1 = p.2) → ∀ i, ovr f l i = f i
  | [], _, _ => rfl
  | (m, v) :: l, h, i => by
    simp only [ovr]
    by_cases e : i = m
    · subst e
      have : Nat.beq i i = true := Nat.beq_refl i
      rw [this]; exact (h _ List.mem_cons_self).symm
    · have : Nat.beq i m = false := by
        cases hb : Nat.beq i m with
        | false => rfl
        | true => exact absurd (Nat.eq_of_beq_eq_true hb) e
      rw [this]; exact ovr_eq f l (fun p hp => h p (List.mem_cons_of_mem _ hp)) i
theorem mkT_ovr {A : Tr} {d : Nat} (h : A.dep d) (l : List (Nat × AV)) (hl : ∀ p ∈ l, A.get p.1 = p.2) : mkT d (ovr A.get l) = A :=
  mkT_get h _ fun i _ => ovr_eq _ l hl i
end Go.AM
