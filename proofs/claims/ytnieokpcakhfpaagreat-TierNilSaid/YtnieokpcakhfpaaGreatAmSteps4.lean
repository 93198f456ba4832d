/-
  append, whole; slices; element addresses; texts and bytes.
-/
import Derived.Test.YtnieokpcakhfpaaGreatAmSteps3
namespace Go.AM

variable {P : Program}

set_option maxHeartbeats 2000000 in
theorem run_append_room {t u e ty : TypeId} {esz : Nat} (h : El P t u e esz) {w w' : World} {b i sLen sCap n : Nat} {yv : Value} {news : List Value}
    (hlen : ∀ w0, (Builtin.lenOf yv).run P w0 = .ok n w0) (hnew : (Builtin.firstCells esz n yv).run P w = .ok news.toArray w)
    (hst : (storeCells ⟨b, i + sLen * esz, none⟩ news).run P w = .ok () w') (hg : sLen + n ≤ sCap) :
    (Builtin.append_ #[t, u] ty #[.slice (some ⟨b, i, none⟩) sLen sCap, yv]).run P w = .ok (.slice (some ⟨b, i, none⟩) (sLen + n) sCap) w' := by
  obtain ⟨j, z, du, ht, hu, hdu, hi, hs, _, _, _⟩ := h.ex
  subst hs
  have hdu' : ∀ k, du ≠ .int k := by intro k hk; subst hk; simp at hdu
  cases du <;> first
    | exact absurd rfl (hdu' _)
    | simp [Builtin.append_, run_underlying ht, run_underlying hu, sizeOf, typeInfo, hi, hlen, hg, hnew, addr_add, hst]

set_option maxHeartbeats 2000000 in
theorem run_append_same {t u e ty : TypeId} {esz : Nat} (h : El P t u e esz) {w : World} {base : Option Addr} {sLen sCap : Nat} {yv : Value}
    (hlen : ∀ w0, (Builtin.lenOf yv).run P w0 = .ok 0 w0) (hnew : (Builtin.firstCells esz 0 yv).run P w = .ok #[] w) (hg : sLen ≤ sCap) :
    (Builtin.append_ #[t, u] ty #[.slice base sLen sCap, yv]).run P w = .ok (.slice base sLen sCap) w := by
  obtain ⟨j, z, du, ht, hu, hdu, hi, hs, _, _, _⟩ := h.ex
  subst hs
  have hdu' : ∀ k, du ≠ .int k := by intro k hk; subst hk; simp at hdu
  cases du <;> first
    | exact absurd rfl (hdu' _)
    | (cases base <;> simp [Builtin.append_, run_underlying ht, run_underlying hu, sizeOf, typeInfo, hi, hlen, hg, hnew, storeCells])

theorem firstCells_self {μ : Mu} {w : World} {esz len cap b i : Nat} {cs : List AV} (hl : cs.length = len * esz) (hc : ∀ (j : Nat) (c : AV), cs[j]? = some c → ∃ v, w.cell? ⟨b, i + j, none⟩ = some v ∧ VR μ c v) :
    ∃ olds : List Value, VRL μ cs olds ∧ ∀ d, (Builtin.firstCells esz len (.slice (some ⟨b, i, none⟩) len cap)).run P (wdraw w d) = .ok olds.toArray (wdraw w d) := by
  obtain ⟨vs, h1, h2, h3⟩ := row_read (μ := μ) (w := w) (b := b) (i := i) cs hc
  exact ⟨vs, h3, fun d => run_firstCells_some (P := P) (wdraw w d) esz len _ len cap vs (by rw [h1, hl]) h2⟩

/-- Into a new block. -/
theorem append_new {μ : Mu} {H : Heap} {w : World} (hw : WR μ H w) {t u e ty : TypeId} {esz : Nat} (h : El P t u e esz)
    {base : Option Addr} {sLen sCap n : Nat} {yv : Value} {cs new : List AV} {olds news : List Value} (hco : VRL μ cs olds) (hcn : VRL μ new news)
    (hlen : ∀ w0, (Builtin.lenOf yv).run P w0 = .ok n w0) (hnew : ∀ d, (Builtin.firstCells esz n yv).run P (wdraw w d) = .ok news.toArray (wdraw w d))
    (hold : ∀ d, (Builtin.firstCells esz sLen (.slice base sLen sCap)).run P (wdraw w d) = .ok olds.toArray (wdraw w d))
    (hlo : cs.length = sLen * esz) (hln : new.length = n * esz) (hg : sCap < sLen + n) (hb : sLen + n < big) :
    ∃ μ' w' rv, (Builtin.append_ #[t, u] ty #[.slice base sLen sCap, yv]).run P w = .ok rv w' ∧ Stp μ H w μ' (H.push (.cells (cs ++ new) 0)) w' ∧
      VR μ' (.slice H.next 0 0 (sLen + n) esz false) rv := by
  obtain ⟨cap, arr, h1, h2, h3, h4⟩ := run_append_grown (ty := ty) h hlen (hnew _) (hold _) (by rw [hco.length, hlo]) (by rw [hcn.length, hln]) hg hb
  have hall := hco.append hcn
  have hsz : (cs ++ new).length ≤ arr.size := by
    rw [List.length_append, hlo, hln, h3, ← Nat.add_mul]
    exact Nat.mul_le_mul_right _ h2
  have hd := Stp.draw hw (w.drawn + 1)
  have hs := stp_new hd.wr (cs ++ new) arr e (0, 0) hsz (by intro i _ h; simp at h) (fun j c hj => by
    obtain ⟨v, a, b⟩ := hall.get j c hj
    exact ⟨v, h4 j v a, b⟩)
  refine ⟨_, _, _, h1, hd.trans hs, ?_⟩
  simp only [VR]
  exact ⟨w.heap.size, 0, arr.size, 0, cap, by simp [Mu.at], rfl, h2, fun h => by simp at h, fun _ => ⟨rfl, by simp [h3]⟩⟩

theorem append_sound {μ : Mu} {H H' : Heap} {w : World} (hw : WR μ H w) {t u e ty : TypeId} {esz : Nat} (h : El P t u e esz) {x y r : AV} {xv yv : Value} (hx : VR μ x xv) (hy : VR μ y yv)
    (hr : appendV H esz x y = some (r, H')) : ∃ μ' w' rv, (Builtin.append_ #[t, u] ty #[xv, yv]).run P w = .ok rv w' ∧ Stp μ H w μ' H' w' ∧ VR μ' r rv := by
  unfold appendV at hr
  split at hr
  · simp at hr
  rename_i new n he
  split at hr
  · simp at hr
  rename_i hne
  have hln : n * esz = new.length := by
    by_cases e1 : n * esz = new.length
    · exact e1
    · exact absurd (.inl e1) hne
  have hpos : 0 < esz := by
    rcases Nat.eq_zero_or_pos esz with e1 | e1
    · exact absurd (.inr e1) hne
    · exact e1
  obtain ⟨news, hcn, hlen, hnew⟩ := elems_sound (P := P) hw hy he hln
  have hnew0 : (Builtin.firstCells esz n yv).run P w = .ok news.toArray w := hnew w.drawn
  split at hr
  · rename_i hn0
    subst hn0
    have hz : new = [] := by
      simp at hln; exact List.eq_nil_of_length_eq_zero hln.symm
    subst hz
    simp only [VRL] at hcn; subst hcn
    split at hr
    · simp at hr; obtain ⟨rfl, rfl⟩ := hr
      have hx' := hx; simp only [VR] at hx'; subst hx'
      exact ⟨μ, w, _, run_append_same h hlen hnew0 (Nat.le_refl _), Stp.refl hw, hx⟩
    · split at hr
      · simp at hr; obtain ⟨rfl, rfl⟩ := hr
        have hx' := hx; simp only [VR] at hx'
        obtain ⟨b, base, m, i, cap, _, rfl, hle, _⟩ := hx'
        exact ⟨μ, w, _, run_append_same h hlen hnew0 hle, Stp.refl hw, hx⟩
      · simp at hr
    · split at hr
      · simp at hr; obtain ⟨rfl, rfl⟩ := hr
        have hx' := hx; simp only [VR] at hx'
        obtain ⟨b, i, cap, rfl, hle, _⟩ := hx'
        exact ⟨μ, w, _, run_append_same h hlen hnew0 hle, Stp.refl hw, hx⟩
      · simp at hr
    · simp at hr
  rename_i hn0
  split at hr
  · split at hr
    · rename_i hb
      simp at hr; obtain ⟨rfl, rfl⟩ := hr
      simp only [VR] at hx; subst hx
      have := append_new (ty := ty) hw h (base := none) (sLen := 0) (sCap := 0) (cs := []) (olds := []) (by simp [VRL]) hcn hlen hnew (fun d => run_firstCells_none (P := P) (wdraw w d) esz 0 0 0) (by simp) hln.symm (by omega) (by simpa using hb)
      simpa using this
    · simp at hr
  · rename_i o st off len e' tight
    split at hr
    · rename_i cs st' ho
      split at hr
      · rename_i hc
        obtain ⟨rfl, hle, rfl, hb, hone⟩ := hc
        have hx0 := hx
        obtain ⟨b, i, cap, rfl, hcap, htight, hcells⟩ := slice_cells hw hx0 ho hle
        have hlc : ((cs.drop off).take (len * e')).length = len * e' := by simp; omega
        obtain ⟨olds, hco, hold⟩ := firstCells_self (P := P) (cap := cap) hlc hcells
        split at hr
        · rename_i ht
          simp at hr; obtain ⟨rfl, rfl⟩ := hr
          have hcl := htight ht
          exact append_new (ty := ty) hw h hco hcn hlen hnew hold hlc hln.symm (by omega) hb
        · simp at hr; obtain ⟨rfl, rfl⟩ := hr
          simp only [VR] at hx
          obtain ⟨b', base, m, i', cap', hl, hsl, _, _, h3⟩ := hx
          simp at hsl
          obtain ⟨⟨rfl, rfl⟩, rfl⟩ := hsl
          by_cases hroom : len + n ≤ cap
          · -- in place
            obtain ⟨hi, hend⟩ := h3 (by omega)
            subst hi
            obtain ⟨b'', base'', m'', hl'', hcat⟩ := hw.cells _ _ _ ho
            rw [hl] at hl''; simp at hl''
            obtain ⟨rfl, rfl, rfl⟩ := hl''
            obtain ⟨arr, el, fr, hb1, hb2, hb3, hb4, hb5⟩ := hcat.ex
            subst hb2
            have hmul : (len + n) * e' ≤ cap * e' := Nat.mul_le_mul_right _ hroom
            rw [Nat.add_mul] at hmul
            have h1 : ∀ v ∈ news, v.oneCell' = true := by
              intro v hv
              obtain ⟨j, hj⟩ := List.mem_iff_getElem?.1 hv
              have hlt : j < new.length := by have := (List.getElem?_eq_some_iff.1 hj).1; rw [hcn.length] at this; exact this
              obtain ⟨u', hu', hr'⟩ := hcn.get j _ (List.getElem?_eq_getElem hlt)
              rw [hj] at hu'; simp at hu'; subst hu'
              exact isCell_one hr' (List.all_eq_true.1 hone _ (List.getElem_mem _))
            have hst := run_storeCells_over (P := P) b (base + off + len * e') el fr news 0 arr w hb1 (by rw [hcn.length, ← hln]; omega) hb4 h1
            refine ⟨_, _, _, run_append_room h hlen hnew0 hst hroom, stp_grown hw ho hl (base + off) _ _ el fr (over_size _ _ _) (by rw [List.length_append, hlc, ← hln]; omega) hb4 (fun j c hj => ?_), ?_⟩
            · rw [Nat.add_zero, over_get _ _ _ _ (by rw [hcn.length, ← hln]; omega)]
              rw [List.getElem?_append] at hj
              split at hj
              · rename_i hlt
                rw [hlc] at hlt
                rw [if_neg (by omega)]
                rw [List.getElem?_take, if_pos hlt, List.getElem?_drop] at hj
                obtain ⟨v, a1, a2⟩ := hb5 _ _ hj
                exact ⟨v, by rw [Nat.add_assoc]; exact a1, a2⟩
              · rename_i hge
                rw [hlc] at hge hj
                have hjl := (List.getElem?_eq_some_iff.1 hj).1
                rw [if_pos (by rw [hcn.length]; omega), show base + off + j - (base + off + len * e') = j - len * e' from by omega]
                exact hcn.get _ _ hj
            · simp only [VR]
              exact ⟨b, base + off, arr.size, base + off, cap, by simp [Mu.at], rfl, hroom, fun hh => by simp at hh, fun _ => ⟨rfl, by simpa using hend⟩⟩
          · -- moved
            obtain ⟨cap', arr, h1, h2, h3', h4⟩ := run_append_grown (ty := ty) h hlen (hnew _) (hold _) (by rw [hco.length, hlc]) (by rw [hcn.length, hln]) (by omega) hb
            have hall := hco.append hcn
            have hd := Stp.draw hw (w.drawn + 1)
            have hs := stp_moved hd.wr ho ((cs.drop off).take (len * e') ++ new) arr e (0, 0) (by
                rw [List.length_append, hlc, ← hln, h3', ← Nat.add_mul]; exact Nat.mul_le_mul_right _ h2) (by intro i _ h; simp at h) (fun j c hj => by
              obtain ⟨v, a, b⟩ := hall.get j c hj
              exact ⟨v, h4 j v a, b⟩)
            refine ⟨_, _, _, h1, hd.trans hs, ?_⟩
            simp only [VR]
            exact ⟨w.heap.size, 0, arr.size, 0, cap', by simp [Mu.at], rfl, h2, fun h => by simp at h, fun _ => ⟨rfl, by simp [h3']⟩⟩
      · simp at hr
    · simp at hr
  · rename_i br cs len e' tight
    split at hr
    · rename_i hc
      obtain ⟨ht, rfl, hb⟩ := hc
      simp at hr; obtain ⟨rfl, rfl⟩ := hr
      simp only [VR] at hx
      obtain ⟨b, i, cap, rfl, hcap, htight, hcl, hc⟩ := hx
      obtain ⟨olds, hco, hold⟩ := firstCells_self (P := P) (cap := cap) hcl (imm_cells hw hc)
      have hct := htight ht
      exact append_new (ty := ty) hw h hco hcn hlen hnew hold hcl hln.symm (by omega) hb
    · simp at hr
  · simp at hr

end Go.AM
