/-
  node.numbers, in the abstract machine's words.
-/
import Derived.Test.YtnieokpcakhfpaaGreatAmNumsWalk
namespace Go.AM
open Go.RowKit (Below)
open Go.Proofs (Few)

theorem ok_151 : EntryOk Go.Proofs.Tryz.prog 151 (.hspec oNumbers) := by
  intro call hcall H args r H' hr
  refine ⟨callB_ex (by kernel_rfl), fun μ w vs hw hv => ?_⟩
  unfold oNumbers at hr
  split at hr
  case h_2 => simp at hr
  rename_i o st off
  split at hr
  case h_2 => simp at hr
  rename_i cs st' ho
  split at hr
  case isFalse => simp at hr
  rename_i hst
  subst hst
  split at hr
  case h_2 => simp at hr
  rename_i m hm
  simp only [VRL, VR] at hv
  obtain ⟨v, _, rfl, ⟨b, base, n, hl, rfl⟩, rfl⟩ := hv
  obtain ⟨b', base', n', hl', hc⟩ := hw.cells _ _ _ ho
  rw [hl] at hl'; simp at hl'
  obtain ⟨rfl, rfl, rfl⟩ := hl'
  obtain ⟨u, hu, hvu⟩ := hc.cell _ _ hm
  simp only [VR] at hvu
  obtain ⟨bm, hbm, rfl⟩ := hvu
  have hB : w.cell? ⟨b, (base + off) + 8, none⟩ = some (.map (some bm)) := by rw [Nat.add_assoc]; exact hu
  split at hr
  · rename_i hg
    split at hr
    case h_2 => simp at hr
    rename_i x1 H1 hcl
    simp at hr; obtain ⟨rfl, rfl⟩ := hr
    obtain ⟨bm', h1, hma⟩ := hw.maps _ _ hg
    rw [hbm] at h1; simp at h1; subst h1
    obtain ⟨ents, clock, g1, g2, _, _⟩ := hma.ex
    have he : ents = #[] := Array.eq_empty_of_size_eq_zero (by simpa using g2)
    subst he
    refine (Go.Proofs.Tryz.numbers_walk b (base + off) bm clock #[] [] w hB g1 (.inl ⟨rfl, rfl⟩) (fun v w' => v = .slice none 0 0 ∧ ∃ μ', Stp μ H w μ' H1 w') fun v W1 _ h2 h3 => ?_).mono ?_
    · obtain rfl := h2.2 rfl
      have st1 := stp_below hw h3
      obtain ⟨_, hcf⟩ := hcall 352 H [.nils] x1 H1 hcl
      refine (hcf μ W1 [.slice none 0 0] st1.wr (by simp only [VRL, VR]; exact ⟨_, _, rfl, rfl, rfl⟩)).mono ?_
      rintro e w' ⟨μ', x, rfl, _, hst⟩
      exact ⟨⟨_, rfl⟩, rfl, μ', st1.trans hst⟩
    · rintro e w' ⟨v, rfl, rfl, μ', hst⟩
      exact ⟨μ', _, rfl, by simp [VR], hst⟩
  · rename_i k u0 hg
    split at hr
    case h_2 => simp at hr
    rename_i x1 H1 hcl
    simp at hr; obtain ⟨rfl, rfl⟩ := hr
    obtain ⟨bm', h1, hma⟩ := hw.maps _ _ hg
    rw [hbm] at h1; simp at h1; subst h1
    obtain ⟨ents, clock, g1, g2, hbo, her⟩ := hma.ex
    obtain ⟨e, rfl⟩ : ∃ e, ents = #[e] := by
      simp at g2
      exact ⟨ents[0], by apply Array.ext (by simp [g2]); intro i h1 h2; simp at h2; subst h2; rfl⟩
    have hold : e.born < clock := hbo.1 0 e (by simp)
    have hk := (her 0 e (.int .i64 k, u0) (by simp) (by simp)).1
    simp only [VR] at hk
    obtain ⟨ek, ev, eb⟩ := e
    simp only at hk hold
    subst hk
    refine (Go.Proofs.Tryz.numbers_walk b (base + off) bm clock _ [k] w hB g1 (.inr ⟨k, ev, eb, rfl, hold, rfl⟩) (fun v w' => ∃ μ', VR μ' (.slice H.next 0 0 1 1 false) v ∧ Stp μ H w μ' H1 w') fun v W1 h1 h2 h3 => ?_).mono ?_
    · rcases h1.2 with ⟨_, h0⟩ | ⟨g, cap, cur, rfl, hg', hgb, hncap, hcm, hcs, htk⟩
      · simp at h0
      · have st1 := stp_below_new hw h3 g cur.size [.int .i64 k] hg' ⟨cur, 3, (0, 0), hgb, rfl, by simp at hncap ⊢; omega, by intro i _ h; simp at h, fun j c hj => by
          match j, hj with
          | 0, hj =>
            simp at hj; subst hj
            have h1 := congrArg (·[0]?) htk
            simp at h1
            exact ⟨_, by simpa using h1, by simp [VR]⟩⟩
        have hvr : VR (μ.at H.next 0 (g, 0, cur.size)) (.slice H.next 0 0 1 1 false) (.slice (some ⟨g, 0, none⟩) 1 cap) := by
          simp only [VR]
          exact ⟨g, 0, cur.size, 0, cap, by simp [Mu.at], rfl, by simpa using hncap, by simp, fun _ => ⟨rfl, by omega⟩⟩
        obtain ⟨_, hcf⟩ := hcall 352 _ _ x1 H1 hcl
        refine (hcf _ W1 [.slice (some ⟨g, 0, none⟩) 1 cap] st1.wr (by simp only [VRL]; exact ⟨_, _, rfl, hvr, rfl⟩)).mono ?_
        rintro e w' ⟨μ', x, rfl, _, hst⟩
        exact ⟨⟨_, rfl⟩, μ', hvr.ext hst.ext, st1.trans hst⟩
    · rintro e w' ⟨v, rfl, μ', hv, hst⟩
      exact ⟨μ', _, rfl, hv, hst⟩
  · simp at hr

end Go.AM
