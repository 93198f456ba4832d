/-
  name.cut, in the abstract machine's words.
-/
import Derived.Test.YtnieokpcakhfpaaGreatAmCutWalk
namespace Go.AM
open Go.RowKit (Below)
open Go.Proofs (strV cutPost)

theorem ok_183 : EntryOk Go.Proofs.Tryz.prog 183 (.hspec (fun _ => oCut)) := by
  intro call _ H args r H' hr
  refine ⟨callB_ex (by kernel_rfl), fun μ w vs hw hv => ?_⟩
  replace hr : oCut H args = some (r, H') := hr
  unfold oCut at hr
  split at hr
  case h_2 => simp at hr
  rename_i s
  simp only [VRL, VR] at hv
  obtain ⟨v, vs', rfl, rfl, rfl⟩ := hv
  refine (Go.Proofs.Tryz.cut_walk s w).mono ?_
  rintro e w' ⟨hb, (⟨hc, rfl⟩ | ⟨ls, v, hc, rfl, hrow, hnil⟩)⟩
  · rw [hc] at hr
    simp at hr; obtain ⟨rfl, rfl⟩ := hr
    refine ⟨μ, _, rfl, ?_, stp_below hw hb⟩
    simp only [VR, VRL]; exact ⟨[_, _], rfl, _, _, rfl, rfl, _, _, rfl, rfl, rfl⟩
  · rw [hc] at hr
    cases ls with
    | nil =>
      simp at hr; obtain ⟨rfl, rfl⟩ := hr
      refine ⟨μ, _, rfl, ?_, stp_below hw hb⟩
      simp only [VR, VRL]; exact ⟨[_, _], rfl, _, _, rfl, hnil.2 rfl, _, _, rfl, rfl, rfl⟩
    | cons x ls =>
      simp at hr; obtain ⟨rfl, rfl⟩ := hr
      rcases hrow.2 with ⟨_, h0⟩ | ⟨g, cap, cur, rfl, hg, hgb, hncap, hcm, hcs, htk⟩
      · simp at h0
      · refine ⟨_, _, rfl, ?_, stp_below_new hw hb g cur.size ((x :: ls).map .str) hg ⟨cur, 9, (0, 0), hgb, rfl, ?_, by intro i _ h; simp at h, ?_⟩⟩
        · simp only [VR, VRL]
          refine ⟨[_, _], rfl, _, _, rfl, ⟨g, 0, cur.size, 0, cap, by simp [Mu.at], rfl, by simpa using hncap, by simp, fun _ => ⟨rfl, by omega⟩⟩, _, _, rfl, rfl, rfl⟩
        · simp at hncap ⊢; omega
        · intro j c hj
          simp only [List.getElem?_map, Option.map_eq_some_iff] at hj
          obtain ⟨y, hy, rfl⟩ := hj
          have hlt : j < (x :: ls).length := (List.getElem?_eq_some_iff.1 hy).1
          have h1 := congrArg (·[j]?) htk
          simp only [List.getElem?_take, List.getElem?_map, hy, Option.map_some] at h1
          rw [if_pos (by omega)] at h1
          exact ⟨strV y, by simpa using h1, by simp [VR, strV]⟩

end Go.AM
