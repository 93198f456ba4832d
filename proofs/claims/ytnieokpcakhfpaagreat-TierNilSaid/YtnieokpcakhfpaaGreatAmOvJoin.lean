/-
  name.Join, in the abstract machine's words.
-/
import Derived.Test.YtnieokpcakhfpaaGreatAmOvBase
import Derived.Test.YtnieokpcakhfpaaGreatAmJoinWalk
namespace Go.AM

theorem strs_get : ∀ {cs : List AV} {l : List (List UInt8)}, strs cs = some l → l.length = cs.length ∧ ∀ (j : Nat) (x : List UInt8), l[j]? = some x → cs[j]? = some (.str x)
  | [], l, h => by
    simp [strs, mapO] at h; subst h
    exact ⟨rfl, fun j x hj => by simp at hj⟩
  | c :: cs, l, h => by
    unfold strs at h
    simp only [mapO] at h
    split at h
    · simp at h
    · rename_i y hy
      split at h
      · simp at h
      · rename_i ys hys
        simp at h; subst h
        obtain ⟨h1, h2⟩ := strs_get (cs := cs) (l := ys) hys
        refine ⟨by simp [h1], fun j x hj => ?_⟩
        cases j with
        | zero =>
          simp at hj; subst hj
          split at hy
          · simp at hy; subst hy; rfl
          · simp at hy
        | succ j => simpa using h2 j x (by simpa using hj)

theorem join_vr (μ : Mu) (l : List (List UInt8)) : VR μ (joinA l) (Go.Proofs.joinV (joinL l 0 [])) := by
  unfold joinA Go.Proofs.joinV
  cases joinL l 0 [] with
  | none => simp only [VR, VRL]; exact ⟨[_, _], rfl, _, _, rfl, rfl, _, _, rfl, rfl, rfl⟩
  | some s => simp only [VR, VRL]; exact ⟨[_, _], rfl, _, _, rfl, rfl, _, _, rfl, rfl, rfl⟩

theorem ok_213 : EntryOk Go.Proofs.Tryz.prog 213 (.spec (fun _ => oJoin)) := by
  intro call _ args r hr
  refine ⟨callB_ex (by kernel_rfl), fun μ w vs hw hv => ?_⟩
  replace hr : oJoin args = some r := hr
  unfold oJoin at hr
  split at hr
  · simp at hr; subst hr
    simp only [VRL, VR] at hv
    obtain ⟨v, vs', rfl, rfl, rfl⟩ := hv
    refine (Go.Proofs.Tryz.Join_walk none 0 [] w (by simp) (fun j x hj => by simp at hj)).mono ?_
    rintro e w' ⟨rfl, hb⟩
    exact ⟨μ, _, rfl, join_vr μ [], stp_below hw hb⟩
  · rename_i br cs len esz tight
    split at hr
    · rename_i l hl
      split at hr
      · rename_i hc
        simp at hr; subst hr
        obtain ⟨rfl, hlen⟩ := hc
        simp only [VRL, VR] at hv
        obtain ⟨v, vs', rfl, ⟨b, i, cap, rfl, h1, h2, h3, h4⟩, rfl⟩ := hv
        obtain ⟨g1, g2⟩ := strs_get hl
        have hll : l.length = len := by omega
        subst hll
        refine (Go.Proofs.Tryz.Join_walk (some ⟨b, i, none⟩) cap l w hlen (fun j x hj => ?_)).mono ?_
        · obtain ⟨v, k1, k2⟩ := vrc_cells hw h4 j _ (g2 j x hj)
          simp only [VR] at k2; subst k2
          exact ⟨b, i, rfl, cell_lt k1, k1⟩
        · rintro e w' ⟨rfl, hb⟩
          exact ⟨μ, _, rfl, join_vr μ l, stp_below hw hb⟩
      · simp at hr
    · simp at hr
  · simp at hr

end Go.AM
