/-
  NodeIdle: what its run answers.
-/
import Derived.Test.YtnieokpcakhfpaaGreatAmNodeLive
import Derived.Test.YtnieokpcakhfpaaGreatAmSym3
set_option maxRecDepth 100000
namespace Go.AM.Idle
attribute [local irreducible] arun execS exec loopN bodyS runBody

def E : Env := ⟨arun tab 60, tab.isPure⟩
def H0 : Heap := ⟨8, [(.cells [(.int .i64 20), (.int .i64 10), (.int .i64 0), (.map 6)] 0),
  (.map []),
  (.cells [(.int .i64 9), (.int .i64 100), .nils] 0),
  (.cells [(.int .i64 9), (.int .i64 100), (.map 3), (.int .i64 0)] 0),
  (.map []),
  (.cells [(.vslice false [(.int .i64 3)] 1 1 false), (.int .i64 5), (.int .i64 9), (.int .i64 100), (.int .i64 4), (.ptr 4 0 0), (.ptr 5 0 0), (.ptr 7 0 0), (.map 1), (.int .i64 0), .nils] 0),
  (.map []),
  (.cells [(.vslice false [(.int .i64 3)] 1 1 false), (.int .i64 5), (.int .i64 9), (.int .i64 100), (.int .i64 4)] 0)]⟩
def P0 : AV := .ptr 2 0 0
def cfg : AV := .agg [.vslice false [.int .i64 3] 1 1 true, .int .i64 5, .int .i64 9, .int .i64 100, .int .i64 4]
theorem new_run : arun tab 60 54 Heap.empty [cfg] = some (.tup [P0, .int .i64 0], H0) := by kernel_rfl
theorem sent_run : arun tab 60 59 H0 [P0] = some (.int .i64 0, H0) := by kernel_rfl
theorem pending_run : arun tab 60 60 H0 [P0] = some (.int .i64 0, H0) := by kernel_rfl

def entry (T : Tab) (f : Nat) : Option AFunc := match T.get f with | some (.code fn) => some fn | _ => none

theorem live_q (H : Heap) : Q.holds E.call (.call 53 H [] (.bool true) H) := by unfold Q.holds; exact live53 H
theorem new_q : Q.holds E.call (.call 54 Heap.empty [cfg] (.tup [P0, .int .i64 0]) H0) := by unfold Q.holds; exact new_run
theorem sent_q : Q.holds E.call (.call 59 H0 [P0] (.int .i64 0) H0) := by unfold Q.holds; exact sent_run
theorem pending_q : Q.holds E.call (.call 60 H0 [P0] (.int .i64 0) H0) := by unfold Q.holds; exact pending_run

/-! Is a number between two others? -/
theorem get141 : tab.get 141 = some (.code c_141) := by kernel_rfl
theorem within_run (d : Nat) (H : Heap) (x a b : Int) : arun tab (d + 1) 141 H [.int .i64 x, .int .i64 a, .int .i64 b] = some (.bool (decide (a ≤ x) && decide (x ≤ b)), H) := by
  refine arun_pure get141 rfl rfl ?_
  by_cases h : a ≤ x
  · have e : binV .geq (.int .i64 x) (.int .i64 a) = some (.bool true) := by
      simp only [binV, intBin, if_true]; simp [h]
    rw [show (decide (a ≤ x) && decide (x ≤ b)) = decide (x ≤ b) by simp [h]]
    have h1 : (bodyS ⟨[], [9]⟩ ⟨arun tab d, tab.isPure⟩ c_141 [.int .i64 x, .int .i64 a, .int .i64 b] Heap.empty [⟨.bool true, none⟩]).map (fun p => (p.1, p.2.1, p.2.2)) = some (.bool (decide (x ≤ b)), Heap.empty, [.bin .geq (.int .i64 x) (.int .i64 a) (.bool true)]) := by kernel_rfl
    exact den_of (bodyS_map h1 (All.cons e (All.nil _))) rfl
  · have e : binV .geq (.int .i64 x) (.int .i64 a) = some (.bool false) := by
      simp only [binV, intBin, if_true]; simp [h]
    rw [show (decide (a ≤ x) && decide (x ≤ b)) = false by simp [h]]
    have h1 : (bodyS ⟨[], [9]⟩ ⟨arun tab d, tab.isPure⟩ c_141 [.int .i64 x, .int .i64 a, .int .i64 b] Heap.empty [⟨.bool false, none⟩]).map (fun p => (p.1, p.2.1, p.2.2)) = some (.bool false, Heap.empty, [.bin .geq (.int .i64 x) (.int .i64 a) (.bool false)]) := by kernel_rfl
    exact den_of (bodyS_map h1 (All.cons e (All.nil _))) rfl

/-! A tick of an idle node. -/
theorem get65 : tab.get 65 = some (.code c_65) := by kernel_rfl
theorem tick_run (x : Int) : arun tab 60 65 H0 [P0, .int .i64 x] = some (.nils, H0) := by
  refine arun_code get65 rfl ?_
  cases h : (decide (0 ≤ x) && decide (x ≤ 1099511627776)) with
  | true =>
    have h1 : (bodyS ⟨[141], []⟩ ⟨arun tab 59, tab.isPure⟩ c_65 [P0, .int .i64 x] H0 [⟨.bool true, none⟩]).map (fun p => (p.1, p.2.1, p.2.2)) = some (.nils, H0, [.call 141 H0 [.int .i64 x, .int .i64 0, .int .i64 1099511627776] (.bool true) H0]) := by kernel_rfl
    exact bodyS_map h1 (All.cons (by simp only [Q.holds]; rw [within_run 58, h]) (All.nil _))
  | false =>
    have h1 : (bodyS ⟨[141], []⟩ ⟨arun tab 59, tab.isPure⟩ c_65 [P0, .int .i64 x] H0 [⟨.bool false, none⟩]).map (fun p => (p.1, p.2.1, p.2.2)) = some (.nils, H0, [.call 141 H0 [.int .i64 x, .int .i64 0, .int .i64 1099511627776] (.bool false) H0]) := by kernel_rfl
    exact bodyS_map h1 (All.cons (by simp only [Q.holds]; rw [within_run 58, h]) (All.nil _))

/-! The body's parts. -/
def sL : ACode → ACode | .seq a _ => a | c => c
def sR : ACode → ACode | .seq _ b => b | c => c
def inL : ACode → ACode | .block _ (.loop c) => c | c => c
def q0 : ACode := sL c_14.body
def q1 : ACode := sL (sR c_14.body)
def q2 : ACode := sL (sR (sR c_14.body))
def q3 : ACode := sL (sR (sR (sR c_14.body)))
def q4 : ACode := sL (sR (sR (sR (sR c_14.body))))
def q5 : ACode := sR (sR (sR (sR (sR c_14.body))))
def qi : ACode := sL q4
def qb : ACode := inL (sR q4)
theorem body_eq : c_14.body = .seq q0 (.seq q1 (.seq q2 (.seq q3 (.seq (.seq qi (.block 0 (.loop qb))) q5)))) := rfl

/-- The list that is handed in. -/
def arg (br : Bool) (xs : List Int) (t : Bool) : AV := .vslice br (xs.map (.int .i64 ·)) xs.length 1 t

/-- More than thirty. -/
theorem long_run {br t : Bool} {cells : List AV} {n : Nat} (hn : 30 < n) : den E c_14 [.vslice br cells n 1 t] = some (.bool true) := by
  have e : binV .gtr (.int .i64 (Int.ofNat n)) (.int .i64 30) = some (.bool true) := by
    simp only [binV, intBin, if_true]
    simp; omega
  have h1 : (bodyS ⟨[53], [8]⟩ E c_14 [.vslice br cells n 1 t] Heap.empty [⟨.bool true, none⟩, ⟨.bool true, none⟩]).map (fun p => (p.1, p.2.1, p.2.2)) = some (.bool true, Heap.empty, [.call 53 Heap.empty [] (.bool true) Heap.empty, .bin .gtr (.int .i64 (Int.ofNat n)) (.int .i64 30) (.bool true)]) := by kernel_rfl
  exact den_of (bodyS_map h1 (All.cons (live_q _) (All.cons e (All.nil _)))) rfl

/-- No list. -/
theorem nil_run : den E c_14 [.nils] = some (.bool true) := by
  have h1 : (bodyS ⟨[53, 54, 59, 60], []⟩ E c_14 [.nils] Heap.empty [⟨.tup [P0, .int .i64 0], some H0⟩, ⟨.int .i64 0, none⟩, ⟨.int .i64 0, none⟩, ⟨.bool true, none⟩]).map (fun p => (p.1, p.2.1, p.2.2)) =
      some (.bool true, H0, [.call 53 H0 [] (.bool true) H0, .call 60 H0 [P0] (.int .i64 0) H0, .call 59 H0 [P0] (.int .i64 0) H0, .call 54 Heap.empty [cfg] (.tup [P0, .int .i64 0]) H0]) := by kernel_rfl
  exact den_of (bodyS_map h1 (All.cons (live_q _) (All.cons pending_q (All.cons sent_q (All.cons new_q (All.nil _)))))) rfl

def at3 (A : Tr) : Bool × AV × AV × AV := (A.depB 6, A.get 0, A.get 3, A.get 5)
def V (br t : Bool) (xs : List Int) (i : Nat) (A : Tr) (H : Heap) : Prop := H = H0 ∧ at3 A = (true, arg br xs t, P0, .int .i64 (Int.ofNat i))
theorem V.tree {br t : Bool} {xs : List Int} {i : Nat} {A : Tr} {H : Heap} (h : V br t xs i A H) : mkT 6 (ovr A.get [(0, arg br xs t), (3, P0), (5, .int .i64 (Int.ofNat i))]) = A ∧ H = H0 := by
  obtain ⟨rfl, h⟩ := h
  simp only [at3, Prod.mk.injEq] at h
  obtain ⟨h1, h2, h3, h4⟩ := h
  exact ⟨mkT_ovr (Tr.depB_dep h1) _ (by simp [h2, h3, h4]), rfl⟩

theorem lss_int (i n : Nat) : binV .lss (.int .i64 (Int.ofNat i)) (.int .i64 (Int.ofNat n)) = some (.bool (decide (i < n))) := by
  simp only [binV, intBin, if_true]; simp
theorem wrap_inc {n : Nat} (h : n < 1000) : IntKind.wrap .i64 (Int.ofNat n + 1) = Int.ofNat (n + 1) := by
  have e : (2 : Nat) ^ 62 = 4611686018427387904 := by decide
  exact wrap_small (n + 1) (by omega)

def slots (f : Nat → AV) (l : AV) (i : Nat) : Tr := mkT 6 (ovr f [(0, l), (3, P0), (5, .int .i64 (Int.ofNat i))])
theorem round_part (f : Nat → AV) (br br' t : Bool) (cells rest : List AV) (n i : Nat) (x : Int) :
    look at3 (execS ⟨[65], [25, 31]⟩ E qb ⟨slots f (.vslice br cells n 1 t) i, H0, [⟨.bool true, none⟩, ⟨.vptr br' (.int .i64 x :: rest), none⟩, ⟨.nils, none⟩], []⟩) =
      some (.normal, H0, (true, .vslice br cells n 1 t, P0, .int .i64 (IntKind.wrap .i64 (Int.ofNat i + 1))),
        [.call 65 H0 [P0, .int .i64 x] .nils H0, .raw H0 (.iaddr 1 (.c (.vslice br cells n 1 t)) (.c (.int .i64 (Int.ofNat i)))) (.vptr br' (.int .i64 x :: rest)) H0,
          .bin .lss (.int .i64 (Int.ofNat i)) (.int .i64 (Int.ofNat n)) (.bool true)]) := by kernel_rfl
theorem end_part (f : Nat → AV) (br t : Bool) (cells : List AV) (n i : Nat) :
    look at3 (execS ⟨[65], [25, 31]⟩ E qb ⟨slots f (.vslice br cells n 1 t) i, H0, [⟨.bool false, none⟩], []⟩) =
      some (.exit 0, H0, (true, .vslice br cells n 1 t, P0, .int .i64 (Int.ofNat i)), [.bin .lss (.int .i64 (Int.ofNat i)) (.int .i64 (Int.ofNat n)) (.bool false)]) := by kernel_rfl

theorem round {br t : Bool} {xs : List Int} (hx : xs.length ≤ 30) (i : Nat) (A : Tr) (H : Heap) (hi : i < xs.length) (h : V br t xs i A H) : ∃ A' H', exec E qb A H = some (.normal, A', H') ∧ V br t xs (i + 1) A' H' := by
  obtain ⟨hA, rfl⟩ := h.tree
  have hd : (xs.map (AV.int .i64 ·)).drop i = .int .i64 xs[i] :: (xs.map (AV.int .i64 ·)).drop (i + 1) := by
    rw [List.drop_eq_getElem_cons (by simp; exact hi)]; simp
  have e1 : Q.holds E.call (.bin .lss (.int .i64 (Int.ofNat i)) (.int .i64 (Int.ofNat xs.length)) (.bool true)) := by
    simp only [Q.holds]; rw [lss_int]; simp [hi]
  have e2 : Q.holds E.call (.raw H0 (.iaddr 1 (.c (arg br xs t)) (.c (.int .i64 (Int.ofNat i)))) (.vptr br (.int .i64 xs[i] :: (xs.map (AV.int .i64 ·)).drop (i + 1))) H0) := by
    simp only [Q.holds, stepOp, s_iaddr, ev, iaddrV, bound, arg, hi, true_and, if_true, Nat.mul_one, hd, lift]
  have e3 : Q.holds E.call (.call 65 H0 [P0, .int .i64 xs[i]] .nils H0) := by unfold Q.holds; exact tick_run _
  obtain ⟨A', h1, h2⟩ := part at3 (round_part A.get br br t (xs.map (.int .i64 ·)) ((xs.map (AV.int .i64 ·)).drop (i + 1)) xs.length i xs[i]) (All.cons e3 (All.cons e2 (All.cons e1 (All.nil _))))
  rw [← hA]
  refine ⟨A', H0, h1, rfl, ?_⟩
  rw [h2, wrap_inc (by omega)]; rfl
theorem last {br t : Bool} {xs : List Int} (A : Tr) (H : Heap) (h : V br t xs xs.length A H) : ∃ A' H', exec E qb A H = some (.exit 0, A', H') ∧ V br t xs xs.length A' H' := by
  obtain ⟨hA, rfl⟩ := h.tree
  have e1 : Q.holds E.call (.bin .lss (.int .i64 (Int.ofNat xs.length)) (.int .i64 (Int.ofNat xs.length)) (.bool false)) := by
    simp only [Q.holds]; rw [lss_int]; simp
  obtain ⟨A', h1, h2⟩ := part at3 (end_part A.get br t (xs.map (.int .i64 ·)) xs.length xs.length) (All.cons e1 (All.nil _))
  rw [← hA]
  exact ⟨A', H0, h1, rfl, h2⟩

theorem head_part (br t : Bool) (cells : List AV) (n : Nat) :
    look at3 (execS ⟨[54], [8]⟩ E (.seq q0 (.seq q1 (.seq q2 (.seq q3 qi)))) ⟨(Tr.blank 6).fill 0 [.vslice br cells n 1 t], Heap.empty, [⟨.bool false, none⟩, ⟨.tup [P0, .int .i64 0], some H0⟩], []⟩) =
      some (.normal, H0, (true, .vslice br cells n 1 t, P0, .int .i64 (Int.ofNat 0)), [.call 54 Heap.empty [cfg] (.tup [P0, .int .i64 0]) H0, .bin .gtr (.int .i64 (Int.ofNat n)) (.int .i64 30) (.bool false)]) := by kernel_rfl
theorem tail_part (f : Nat → AV) (l : AV) (i : Nat) :
    look (fun A => A.get 2) (execS ⟨[59, 60, 53], []⟩ E q5 ⟨slots f l i, H0, [⟨.int .i64 0, none⟩, ⟨.int .i64 0, none⟩, ⟨.bool true, none⟩], []⟩) =
      some (.ret, H0, .bool true, [.call 53 H0 [] (.bool true) H0, .call 60 H0 [P0] (.int .i64 0) H0, .call 59 H0 [P0] (.int .i64 0) H0]) := by kernel_rfl

theorem exec_assoc {a b c d e r : ACode} {A A1 : Tr} {H H1 : Heap} (h : exec E (.seq a (.seq b (.seq c (.seq d e)))) A H = some (.normal, A1, H1)) (f : ACode) :
    exec E (.seq a (.seq b (.seq c (.seq d (.seq (.seq e f) r))))) A H = exec E (.seq f r) A1 H1 := by
  obtain ⟨A2, H2, h1, h⟩ := exec_seq_inv h
  obtain ⟨A3, H3, h2, h⟩ := exec_seq_inv h
  obtain ⟨A4, H4, h3, h⟩ := exec_seq_inv h
  obtain ⟨A5, H5, h4, h5⟩ := exec_seq_inv h
  rw [exec_seq h1, exec_seq h2, exec_seq h3, exec_seq h4]
  simp only [exec, h5]

theorem short_run {br t : Bool} {xs : List Int} (hx : xs.length ≤ 30) : den E c_14 [arg br xs t] = some (.bool true) := by
  have e1 : Q.holds E.call (.bin .gtr (.int .i64 (Int.ofNat xs.length)) (.int .i64 30) (.bool false)) := by
    simp only [Q.holds, binV, intBin, if_true]; simp; omega
  obtain ⟨A1, h1, h2⟩ := part at3 (head_part br t (xs.map (.int .i64 ·)) xs.length) (All.cons new_q (All.cons e1 (All.nil _)))
  obtain ⟨A2, H2, h3, h4⟩ := block_loop (E := E) (c := qb) (id := 0) (I := V br t xs) (k := xs.length) (F := V br t xs xs.length) (by unfold rounds; omega) (round hx) last (A := A1) (H := H0) ⟨rfl, h2⟩
  obtain ⟨hA, rfl⟩ := h4.tree
  obtain ⟨A3, h5, h6⟩ := part (fun A => A.get 2) (tail_part A2.get (arg br xs t) xs.length) (All.cons (live_q _) (All.cons pending_q (All.cons sent_q (All.nil _))))
  rw [show slots A2.get (arg br xs t) xs.length = A2 from hA] at h5
  refine den_of (body_of (A := A3) (H' := H0) (o := .ret) (show 1 ≤ 47 by decide) ?_ (.inr rfl) (show results [.tmp 2] A3 H0 = some (.bool true) by simp only [results, mapO, resOf, h6])) rfl
  rw [body_eq]
  exact (exec_assoc h1 _).trans ((exec_seq h3).trans h5)

theorem run {br t : Bool} (xs : List Int) : den E c_14 [arg br xs t] = some (.bool true) := by
  by_cases h : xs.length ≤ 30
  · exact short_run h
  · exact long_run (by omega)
end Go.AM.Idle
