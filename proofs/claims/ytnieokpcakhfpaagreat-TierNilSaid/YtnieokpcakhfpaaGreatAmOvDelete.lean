/-
  slices.Delete at packets, in the abstract machine's words.
-/
import Derived.Test.YtnieokpcakhfpaaGreatAmOver
import Derived.Test.YtnieokpcakhfpaaGreatProg
import Derived.Shelf.RegionOpenPlain
import Derived.WalkKit
import Derived.Deep.LoopGhost
import Derived.Deep.RegionLaw
import Derived.Lib.Walk
import Derived.Sort.WalkB12
import Derived.Lib.SliceRun
import Derived.Lib.SlicesDelete
import Derived.Test.YtnieokpcakhfpaaGreatAmOverDel
import Derived.Test.YtnieokpcakhfpaaGreatAmStepsCl
import Derived.Test.YtnieokpcakhfpaaGreatAmOvBase
/-
  slices.Delete at packets: where i < j: the walk of the library's own text.
-/
section
namespace Go.Proofs
open Go.Shelf Go.RowKit Go.Lib Go.Sort

theorem Tryz.cells310 : (Tryz.prog.info? 310).map (·.size) = some 3 := by kernel_rfl

theorem delete_same (b off len cap i : Nat) (w : World) (hi : i ≤ len) (hcap : len ≤ cap) :
    Calls Tryz.prog 281 #[.slice (some ⟨b, off, none⟩) len cap, .int .i64 i, .int .i64 i] w fun e w' => e = .returned (.slice (some ⟨b, off, none⟩) len cap) ∧ w' = w := by
  go_enter Tryz.func281, Tryz.ntmps281
  go_wp2
  all_goals (go_ret; exact ⟨rfl, rfl⟩)

/-- append, as one step of a region that draws, where its run is known. -/
theorem step_append_ran {P : Program} {ops : Array Oper} {o : Oper} {a : Act} {w : World} {K : Act → World → Prop} {Q : Exit → Act → World → Prop} {E : Prop}
    (hg : o.guard = none) (s x : Operand) (t : TypeId) (hop : o.op = Op.call { callee := Callee.builtin Builtin.append, args := #[s, x], argTypes := #[t, t] })
    (sv xv rv : Value) (w' : World) (hs : a.eval s = sv) (hx : a.eval x = xv) (hrun : ∀ ty, (Builtin.append_ #[t, t] ty #[sv, xv]).run P w = .ok rv w')
    (hK : K (a.put o.dst rv) w') :
    if Region.wanted o (yielded ops a.tmps) = true then Oper.wp P o a w K Q else E := by
  have hw : Region.wanted o (yielded ops a.tmps) = true := by simp [Region.wanted, hg]
  rw [if_pos hw]
  unfold Oper.wp
  simp [execOp, hop, resolve, invoke, builtin, hs, hx, hrun, Result.andThen]
  exact hK

set_option maxHeartbeats 4000000 in
set_option maxRecDepth 1000000 in
theorem delete_walk (b off len cap i j : Nat) (w W1 W2 : World) (hlt : i < j) (hj : j ≤ len) (hcap : len ≤ cap)
    (A : Addr) (hA : (if cap = j then some (⟨b, off, none⟩ : Addr) else some ⟨b, off + j * 3, none⟩) = some A)
    (happ : Hid (∀ ty, (Builtin.append_ #[432, 432] ty #[.slice (some ⟨b, off, none⟩) i cap, .slice (some A) (len - j) (cap - j)]).run Tryz.prog w.drew = .ok (.slice (some ⟨b, off, none⟩) (i + (len - j)) cap) W1))
    (hcl : ∀ ty, (Builtin.clear_ #[432] ty #[.slice (some ⟨b, off + (i + (len - j)) * 3, none⟩) (len - (i + (len - j))) (cap - (i + (len - j)))]).run Tryz.prog W1 = .ok (.tuple #[]) W2) :
    Calls Tryz.prog 281 #[.slice (some ⟨b, off, none⟩) len cap, .int .i64 i, .int .i64 j] w fun e w' => e = .returned (.slice (some ⟨b, off, none⟩) (i + (len - j)) cap) ∧ w' = W2 := by
  have heq : i ≠ j := by omega
  have mixed : Tryz.prog.follows .mixedOrders = true := by kernel_rfl
  have hic : i ≤ cap := by omega
  have hjc : j ≤ cap := by omega
  go_enter Tryz.func281, Tryz.ntmps281
  go_wp2_with fail
  go_region_law_o (refine step_append_ran rfl (.tmp 22) (.tmp 25) 432 rfl (.slice (some ⟨b, off, none⟩) i cap) (.slice (some A) (len - j) (cap - j)) (.slice (some ⟨b, off, none⟩) (i + (len - j)) cap) W1 (by simp [Act.eval, Act.put]) (by simp [Act.eval, Act.put]) happ.out ?_)
  go_wp2
  go_ret
  exact ⟨rfl, rfl⟩
end Go.Proofs
end
section
namespace Go.AM

theorem splice_all {cs vs : List AV} {off : Nat} (h : cs.all AV.isCell = true) (h' : vs.all AV.isCell = true) : (splice cs off vs).all AV.isCell = true := by
  simp only [List.all_eq_true, splice, List.mem_append] at *
  rintro x ((hx | hx) | hx)
  · exact h x (List.mem_of_mem_take hx)
  · exact h' x hx
  · exact h x (List.mem_of_mem_drop hx)

theorem vrl_one {μ : Mu} {cs : List AV} {vs : List Value} (h : VRL μ cs vs) (hall : cs.all AV.isCell = true) : ∀ u ∈ vs, u.oneCell' = true := by
  intro u hu
  obtain ⟨j, hj⟩ := List.mem_iff_getElem?.1 hu
  have hlt : j < cs.length := by have := (List.getElem?_eq_some_iff.1 hj).1; rw [h.length] at this; exact this
  obtain ⟨u', hu', hr'⟩ := h.get j _ (List.getElem?_eq_getElem hlt)
  rw [hj] at hu'; simp at hu'; subst hu'
  exact isCell_one hr' (List.all_eq_true.1 hall _ (List.getElem_mem _))

theorem ok_281 : EntryOk Go.Proofs.Tryz.prog 281 (.hspec fun _ => oDel) := by
  intro call hcall H args r H' hr
  refine ⟨callB_ex (by kernel_rfl), fun μ w vs hw hv => ?_⟩
  change oDel H args = some (r, H') at hr
  unfold oDel at hr
  split at hr
  case h_2 => simp at hr
  rename_i o st off len tight i j
  split at hr
  case h_2 => simp at hr
  rename_i cs st' ho
  split at hr
  case isFalse => simp at hr
  rename_i hc
  obtain ⟨rfl, hle, hij, hj, hall⟩ := hc
  simp only [VRL, VR] at hv
  obtain ⟨v, _, rfl, ⟨b, base, n, i', cap, hl, rfl, hcap, htight, h6⟩, x1, _, rfl, rfl, x2, _, rfl, rfl, rfl⟩ := hv
  split at hr
  · rename_i e
    subst e
    simp at hr; obtain ⟨rfl, rfl⟩ := hr
    refine (Go.Proofs.delete_same b i' len cap i w hj hcap).mono ?_
    rintro e w' ⟨rfl, rfl⟩
    exact ⟨μ, _, rfl, by simp only [VR]; exact ⟨b, base, n, i', cap, hl, rfl, hcap, htight, h6⟩, Stp.refl hw⟩
  · rename_i e
    have hlt : i < j := by omega
    simp at hr; obtain ⟨rfl, rfl⟩ := hr
    obtain ⟨rfl, hend⟩ := h6 (by omega)
    obtain ⟨el, hel⟩ := elB_el (P := Go.Proofs.Tryz.prog) (t := 432) (u := 432) (esz := 3) (by kernel_rfl)
    have hw1 := Stp.draw hw (w.drawn + 1)
    obtain ⟨b', base', n', hl', hca⟩ := hw1.wr.cells _ _ _ ho
    rw [hl] at hl'; simp at hl'
    obtain ⟨rfl, rfl, rfl⟩ := hl'
    have hread := row_read (μ := μ) (w := wdraw w (w.drawn + 1)) (b := b) (i := base + off + j * 3) ((cs.drop (off + j * 3)).take ((len - j) * 3)) (fun k c hk => by
      rw [List.getElem?_take] at hk
      split at hk
      · rw [List.getElem?_drop] at hk
        obtain ⟨u, g1, g2⟩ := hca.cell _ _ hk
        exact ⟨u, by rw [show base + off + j * 3 + k = base + (off + j * 3 + k) by omega]; exact g1, g2⟩
      · simp at hk)
    obtain ⟨news, hnl, hnc, hnv⟩ := hread
    have hlc : ((cs.drop (off + j * 3)).take ((len - j) * 3)).length = (len - j) * 3 := by
      rw [List.length_take, List.length_drop]; omega
    have hallm : ((cs.drop (off + j * 3)).take ((len - j) * 3)).all AV.isCell = true := by
      simp only [List.all_eq_true] at hall ⊢
      exact fun x hx => hall x (List.mem_of_mem_drop (List.mem_of_mem_take hx))
    obtain ⟨W1, hst1, hs1⟩ := cells_stored (P := Go.Proofs.Tryz.prog) hw1.wr ho hl (off := off + i * 3) hnv (by rw [hlc]; omega) (vrl_one hnv hallm)
    obtain ⟨A, hA, hsrc⟩ : ∃ A : Addr, (if cap = j then some (⟨b, base + off, none⟩ : Addr) else some ⟨b, base + off + j * 3, none⟩) = some A ∧ ∀ t u, news[t]? = some u → (wdraw w (w.drawn + 1)).cell? (A.add t) = some u := by
      by_cases h : cap = j
      · refine ⟨⟨b, base + off, none⟩, by simp [h], fun t u hu => ?_⟩
        have h0 : news.length = 0 := by rw [hnl, hlc]; omega
        rw [List.length_eq_zero_iff.1 h0] at hu
        simp at hu
      · exact ⟨_, by simp [h], hnc⟩
    have hfc : (Builtin.firstCells 3 (len - j) (.slice (some A) (len - j) (cap - j))).run Go.Proofs.Tryz.prog (wdraw w (w.drawn + 1)) = .ok news.toArray (wdraw w (w.drawn + 1)) :=
      run_firstCells_some (wdraw w (w.drawn + 1)) 3 (len - j) A (len - j) (cap - j) news (by rw [hnl, hlc]) hsrc
    have happ : ∀ ty, (Builtin.append_ #[432, 432] ty #[.slice (some ⟨b, base + off, none⟩) i cap, .slice (some A) (len - j) (cap - j)]).run Go.Proofs.Tryz.prog w.drew = .ok (.slice (some ⟨b, base + off, none⟩) (i + (len - j)) cap) W1 :=
      fun ty => run_append_room hel (fun w0 => by simp [Builtin.lenOf]) hfc (by rw [Nat.add_assoc]; exact hst1) (by omega)
    have hsl : VR (μ.at o st (b, base, n)) (.slice o st (off + (i + (len - j)) * 3) (len - (i + (len - j))) 3 false) (.slice (some ⟨b, base + off + (i + (len - j)) * 3, none⟩) (len - (i + (len - j))) (cap - (i + (len - j)))) := by
      simp only [VR]
      refine ⟨b, base, n, _, _, by simp [Mu.at], rfl, by omega, by simp, fun _ => ⟨by omega, ?_⟩⟩
      rw [Nat.sub_mul]
      have : (i + (len - j)) * 3 ≤ cap * 3 := Nat.mul_le_mul_right _ (by omega)
      omega
    have hcs1 : (splice cs (off + i * 3) ((cs.drop (off + j * 3)).take ((len - j) * 3))).length = cs.length := splice_length (by rw [hlc]; omega)
    have ho1 : (H.set o (.cells (splice cs (off + i * 3) ((cs.drop (off + j * 3)).take ((len - j) * 3))) st)).get o = some (.cells (splice cs (off + i * 3) ((cs.drop (off + j * 3)).take ((len - j) * 3))) st) := by
      rw [Heap.get_set H hw.len _ o o (Heap.get_lt ho)]; simp
    obtain ⟨μ2, W2, hcl, hs2⟩ := clear_sound (P := Go.Proofs.Tryz.prog) (ty := 0) hs1.wr (t := 432) (e := 310) (zero := delZero) Go.Proofs.Tryz.underlying432 (zeroB_zero (by kernel_rfl)) hsl (by omega) ho1 (by rw [hcs1]; omega) rfl rfl
    refine (Go.Proofs.delete_walk b (base + off) len cap i j w W1 W2 hlt hj hcap A hA happ (fun ty => hcl)).mono ?_
    rintro e w' ⟨rfl, rfl⟩
    refine ⟨μ2, _, rfl, ?_, (hw1.trans hs1).trans ?_⟩
    · have hx := hs2.ext.loc o st (b, base, n) (by simp [Mu.at])
      simp only [VR]
      exact ⟨b, base, n, base + off, cap, hx, rfl, by omega, by simp, fun _ => ⟨rfl, hend⟩⟩
    · rw [show len - (i + (len - j)) = j - i by omega] at hs2; exact hs2
end Go.AM
end
