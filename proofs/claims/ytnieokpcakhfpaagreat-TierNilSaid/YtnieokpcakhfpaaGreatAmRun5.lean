/-
  Runs of code: what the abstract machine says, the model does.
-/
import Derived.Test.YtnieokpcakhfpaaGreatAmDraw
import Derived.Scope
namespace Go.AM

variable {P : Program} {nn : Nat}

def okCode (P : Program) (nn : Nat) : ACode → Code → Bool
  | .skip, c => (match c with | .skip => true | _ => false)
  | .label l, c => (match c with | .label l' => l == l' | _ => false)
  | .region is, c => (match c with | .region _ ops false => okAll P nn ops is | _ => false)
  | .draw is pairs, c => (match c with | .region _ ops true => okDraw P nn ops is pairs | _ => false)
  | .seq a b, c => (match c with | .seq x y => okCode P nn a x && okCode P nn b y | _ => false)
  | .cond o a b, c => (match c with | .cond o' x y => okOpd o' o && okCode P nn a x && okCode P nn b y | _ => false)
  | .block id a, c => (match c with | .block id' x => id == id' && okCode P nn a x | _ => false)
  | .loop a, c => (match c with | .loop x => okCode P nn a x | _ => false)
  | .exit id, c => (match c with | .exit id' => id == id' | _ => false)
  | .ret, c => (match c with | .ret => true | _ => false)
  | .scope a l rest, c => (match c with
    | .scope x => okCode P nn a x && (match findLabel x l with
      | some r => okCode P nn rest r
      | none => false)
    | _ => false)
  | .goto l, c => (match c with | .goto l' => l == l' | _ => false)

def exitOf : Out → Exit
  | .normal => .normal
  | .exit id => .exit id
  | .goto l => .goto l
  | .ret => .ret

/-- What is to be shown of code. -/
def Sound (P : Program) (nn : Nat) (f : Run) (c : Code) : Prop :=
  ∀ {A A' : Tr} {a : Act} {μ : Mu} {H H' : Heap} {w : World} {o : Out}, SR nn μ A a → WR μ H w → f A H = some (o, A', H') → ∀ {Q : Exit → Act → World → Prop},
    (∀ μ' a' w', Stp μ H w μ' H' w' → SR nn μ' A' a' → Q (exitOf o) a' w') → c.wp P Q a w

/-! Loops. -/
def LoopWp (P : Program) (c : Code) (Q : Exit → Act → World → Prop) (a : Act) (w : World) : Prop :=
  ∀ (b : Frame) (k : List Item) (cs : List Frame), ∃ e a' w', Q e a' w' ∧ Arrives P (lone (b.at a (.code c :: .inLoop c :: k)) cs w) b k cs e a' w'
theorem LoopWp.wp {c : Code} {Q : Exit → Act → World → Prop} {a : Act} {w : World} (h : LoopWp P c Q a w) : (Code.loop c).wp P Q a w :=
  fun b k cs => let ⟨e, a', w', q, r⟩ := h b k cs; ⟨e, a', w', q, .of_steps (.one step_loop) r⟩
theorem LoopWp.step {c : Code} {Q : Exit → Act → World → Prop} {a : Act} {w : World} (h : c.wp P (Exit.then (LoopWp P c Q) Q) a w) : LoopWp P c Q a w := by
  intro b k cs
  obtain ⟨e, a₁, w₁, hq, harr⟩ := h b (.inLoop c :: k) cs
  cases e with
  | normal =>
    obtain ⟨e₂, a₂, w₂, hq₂, harr₂⟩ := hq b k cs
    exact ⟨e₂, a₂, w₂, hq₂, .of_steps (Steps.trans harr (.one step_inLoop)) harr₂⟩
  | exit id => exact ⟨_, a₁, w₁, hq, .pass (x := .inLoop c) rfl (fun _ _ => .inl (by simp)) harr⟩
  | goto l => exact ⟨_, a₁, w₁, hq, .pass (x := .inLoop c) rfl (fun _ _ => .inl (by simp)) harr⟩
  | ret => exact ⟨_, a₁, w₁, hq, .pass (x := .inLoop c) rfl (fun _ _ => .inl (by simp)) harr⟩
  | panic ch => exact ⟨_, a₁, w₁, hq, .pass (x := .inLoop c) rfl (fun _ _ => .inl (by simp)) harr⟩
  | outgrown => exact ⟨_, a₁, w₁, hq, .pass (x := .inLoop c) rfl (fun _ _ => .inl (by simp)) harr⟩

theorem then_exit {next : Act → World → Prop} {Q : Exit → Act → World → Prop} {o : Out} (ho : o ≠ .normal) {a : Act} {w : World} (h : Q (exitOf o) a w) : Exit.then next Q (exitOf o) a w := by
  cases o <;> first | exact absurd rfl ho | exact h

theorem loop_sound {f : Run} {c : Code} (hf : Sound P nn f c) : ∀ (n : Nat) {A A' : Tr} {a : Act} {μ : Mu} {H H' : Heap} {w : World} {o : Out}, SR nn μ A a → WR μ H w → loopN f n A H = some (o, A', H') → ∀ {Q : Exit → Act → World → Prop},
    (∀ μ' a' w', Stp μ H w μ' H' w' → SR nn μ' A' a' → Q (exitOf o) a' w') → LoopWp P c Q a w
  | 0, A, A', a, μ, H, H', w, o, hs, hw, hr, Q, hQ => by simp [loopN] at hr
  | n + 1, A, A', a, μ, H, H', w, o, hs, hw, hr, Q, hQ => by
    simp only [loopN] at hr
    split at hr
    · simp at hr
    · rename_i A1 H1 h1
      exact LoopWp.step (hf hs hw h1 fun μ' a' w' g1 g2 => loop_sound hf n g2 g1.wr hr fun μ'' a'' w'' g3 g4 => hQ μ'' a'' w'' (g1.trans g3) g4)
    · rename_i o1 A1 H1 hno h1
      simp at hr
      obtain ⟨rfl, rfl, rfl⟩ := hr
      exact LoopWp.step (hf hs hw h1 fun μ' a' w' g1 g2 => then_exit hno (hQ μ' a' w' g1 g2))

/-! Scopes. -/
def ScopeWp (P : Program) (body c : Code) (Q : Exit → Act → World → Prop) (a : Act) (w : World) : Prop :=
  ∀ (b : Frame) (k : List Item) (cs : List Frame), ∃ e a' w', Q e a' w' ∧ Arrives P (lone (b.at a (.code c :: .inScope body :: k)) cs w) b k cs e a' w'
def ScopeQ (P : Program) (body rest : Code) (l : Nat) (Q : Exit → Act → World → Prop) : Exit → Act → World → Prop
  | .goto l', a, w => l' = l ∧ ScopeWp P body rest Q a w
  | e, a, w => Q e a w
theorem ScopeWp.wp {c : Code} {Q : Exit → Act → World → Prop} {a : Act} {w : World} (h : ScopeWp P c c Q a w) : (Code.scope c).wp P Q a w :=
  fun b k cs => let ⟨e, a', w', q, r⟩ := h b k cs; ⟨e, a', w', q, .of_steps (.one step_scope) r⟩
theorem ScopeWp.step {body c rest : Code} {l : Nat} (hl : findLabel body l = some rest) {Q : Exit → Act → World → Prop} {a : Act} {w : World} (h : c.wp P (ScopeQ P body rest l Q) a w) : ScopeWp P body c Q a w := by
  intro b k cs
  obtain ⟨e, a₁, w₁, hq, harr⟩ := h b (.inScope body :: k) cs
  cases e with
  | normal => exact ⟨.normal, a₁, w₁, hq, Steps.trans harr (.one step_inScope)⟩
  | exit id => exact ⟨.exit id, a₁, w₁, hq, fun k' hk => harr k' (by simp [exitTo, hk])⟩
  | goto l' =>
    obtain ⟨rfl, hq⟩ := hq
    obtain ⟨e₂, a₂, w₂, hq₂, harr₂⟩ := hq b k cs
    exact ⟨e₂, a₂, w₂, hq₂, .of_steps (harr _ (by simp [gotoIn, hl])) harr₂⟩
  | ret => exact ⟨_, a₁, w₁, hq, harr⟩
  | panic ch => exact ⟨_, a₁, w₁, hq, harr⟩
  | outgrown => exact ⟨_, a₁, w₁, hq, harr⟩

theorem scope_sound {fr : Run} {body rest : Code} {l : Nat} (hl : findLabel body l = some rest) (hr : Sound P nn fr rest) : ∀ (n : Nat) {f : Run} {c : Code}, Sound P nn f c →
    ∀ {A A' : Tr} {a : Act} {μ : Mu} {H H' : Heap} {w : World} {o : Out}, SR nn μ A a → WR μ H w → jumpN fr l n (f A H) = some (o, A', H') → ∀ {Q : Exit → Act → World → Prop},
    (∀ μ' a' w', Stp μ H w μ' H' w' → SR nn μ' A' a' → Q (exitOf o) a' w') → ScopeWp P body c Q a w
  | 0, f, c, hf, A, A', a, μ, H, H', w, o, hs, hw, hrun, Q, hQ => by simp [jumpN] at hrun
  | n + 1, f, c, hf, A, A', a, μ, H, H', w, o, hs, hw, hrun, Q, hQ => by
    simp only [jumpN] at hrun
    split at hrun
    · rename_i l' A1 H1 h1
      split at hrun
      · rename_i e
        subst e
        exact ScopeWp.step hl (hf hs hw h1 fun μ' a' w' g1 g2 => ⟨rfl, scope_sound hl hr n hr g2 g1.wr hrun fun μ'' a'' w'' g3 g4 => hQ μ'' a'' w'' (g1.trans g3) g4⟩)
      · simp at hrun
    · rename_i hno
      refine ScopeWp.step hl (hf hs hw hrun fun μ' a' w' g1 g2 => ?_)
      have := hQ μ' a' w' g1 g2
      cases o with
      | goto l' => exact absurd hrun (hno l' A' H')
      | _ => exact this

theorem exec_sound {E : Env} (hcall : CallSound P E.call) (hp : PureOk E.call E.isPure) (hm : P.follows .mixedOrders = true) : ∀ (ac : ACode) (c : Code), okCode P nn ac c = true → Sound P nn (exec E ac) c
  | .skip, c, hok, A, A', a, μ, H, H', w, o, hs, hw, hr, Q, hQ => by
    simp only [okCode] at hok; split at hok
    · simp [exec] at hr; obtain ⟨rfl, rfl, rfl⟩ := hr
      exact wp_skip (hQ μ a w (Stp.refl hw) hs)
    · simp at hok
  | .label l, c, hok, A, A', a, μ, H, H', w, o, hs, hw, hr, Q, hQ => by
    simp only [okCode] at hok; split at hok
    · simp [exec] at hr; obtain ⟨rfl, rfl, rfl⟩ := hr
      exact wp_label (hQ μ a w (Stp.refl hw) hs)
    · simp at hok
  | .region is, c, hok, A, A', a, μ, H, H', w, o, hs, hw, hr, Q, hQ => by
    simp only [okCode] at hok; split at hok
    · simp only [exec] at hr
      split at hr
      · simp at hr
      · rename_i A1 H1 h1
        simp at hr; obtain ⟨rfl, rfl, rfl⟩ := hr
        exact region_wp hcall hok hs hw h1 hQ _
    · simp at hok
  | .draw is pairs, c, hok, A, A', a, μ, H, H', w, o, hs, hw, hr, Q, hQ => by
    simp only [okCode] at hok; split at hok
    · simp only [exec] at hr
      split at hr
      · simp at hr
      · rename_i A1 H1 h1
        split at hr
        · rename_i hpairs
          simp at hr; obtain ⟨rfl, rfl, rfl⟩ := hr
          exact draw_wp hcall hp hm hok hs hw h1 hpairs hQ _
        · simp at hr
    · simp at hok
  | .seq x y, c, hok, A, A', a, μ, H, H', w, o, hs, hw, hr, Q, hQ => by
    simp only [okCode] at hok; split at hok
    · rename_i cx cy
      simp only [Bool.and_eq_true] at hok
      simp only [exec] at hr
      refine wp_seq ?_
      split at hr
      · simp at hr
      · rename_i A1 H1 h1
        exact exec_sound hcall hp hm x cx hok.1 hs hw h1 fun μ' a' w' g1 g2 => exec_sound hcall hp hm y cy hok.2 g2 g1.wr hr fun μ'' a'' w'' g3 g4 => hQ μ'' a'' w'' (g1.trans g3) g4
      · rename_i o1 A1 H1 hno h1
        simp at hr
        obtain ⟨rfl, rfl, rfl⟩ := hr
        exact exec_sound hcall hp hm x cx hok.1 hs hw h1 fun μ' a' w' g1 g2 => then_exit hno (hQ μ' a' w' g1 g2)
    · simp at hok
  | .cond o1 x y, c, hok, A, A', a, μ, H, H', w, o, hs, hw, hr, Q, hQ => by
    simp only [okCode] at hok; split at hok
    · rename_i o' cx cy
      simp only [Bool.and_eq_true] at hok
      obtain ⟨⟨h1, h2⟩, h3⟩ := hok
      have hc := ev_sound hs h1
      simp only [exec] at hr
      split at hr
      · rename_i t ht
        rw [ht] at hc; simp only [VR] at hc
        cases t with
        | true => exact wp_cond_true hc (exec_sound hcall hp hm x cx h2 hs hw (by simpa using hr) hQ)
        | false => exact wp_cond_false hc (exec_sound hcall hp hm y cy h3 hs hw (by simpa using hr) hQ)
      · simp at hr
    · simp at hok
  | .block id x, c, hok, A, A', a, μ, H, H', w, o, hs, hw, hr, Q, hQ => by
    simp only [okCode] at hok; split at hok
    · rename_i id' cx
      simp only [Bool.and_eq_true] at hok
      obtain ⟨h1, h2⟩ := hok
      simp at h1; subst h1
      simp only [exec] at hr
      refine wp_block ?_
      split at hr
      · simp at hr
      · rename_i id1 A1 H1 h1
        split at hr
        · rename_i e
          subst e
          simp at hr; obtain ⟨rfl, rfl, rfl⟩ := hr
          exact exec_sound hcall hp hm x cx h2 hs hw h1 fun μ' a' w' g1 g2 => by
            simp only [exitOf, Exit.inBlock, if_true]; exact hQ μ' a' w' g1 g2
        · rename_i e
          simp at hr; obtain ⟨rfl, rfl, rfl⟩ := hr
          exact exec_sound hcall hp hm x cx h2 hs hw h1 fun μ' a' w' g1 g2 => by
            simp only [exitOf, Exit.inBlock, e, if_false]; exact hQ μ' a' w' g1 g2
      · rename_i o1 A1 H1 hno h1
        simp at hr; obtain ⟨rfl, rfl, rfl⟩ := hr
        exact exec_sound hcall hp hm x cx h2 hs hw h1 fun μ' a' w' g1 g2 => by
          have := hQ μ' a' w' g1 g2
          cases o1 with
          | exit id1 => exact absurd rfl (hno id1)
          | _ => exact this
    · simp at hok
  | .loop x, c, hok, A, A', a, μ, H, H', w, o, hs, hw, hr, Q, hQ => by
    simp only [okCode] at hok; split at hok
    · rename_i cx
      simp only [exec] at hr
      exact (loop_sound (exec_sound hcall hp hm x cx hok) _ hs hw hr hQ).wp
    · simp at hok
  | .exit id, c, hok, A, A', a, μ, H, H', w, o, hs, hw, hr, Q, hQ => by
    simp only [okCode] at hok; split at hok
    · simp at hok; subst hok
      simp [exec] at hr; obtain ⟨rfl, rfl, rfl⟩ := hr
      exact wp_exit (hQ μ a w (Stp.refl hw) hs)
    · simp at hok
  | .ret, c, hok, A, A', a, μ, H, H', w, o, hs, hw, hr, Q, hQ => by
    simp only [okCode] at hok; split at hok
    · simp [exec] at hr; obtain ⟨rfl, rfl, rfl⟩ := hr
      exact wp_ret (hQ μ a w (Stp.refl hw) hs)
    · simp at hok
  | .goto l, c, hok, A, A', a, μ, H, H', w, o, hs, hw, hr, Q, hQ => by
    simp only [okCode] at hok; split at hok
    · simp at hok; subst hok
      simp [exec] at hr; obtain ⟨rfl, rfl, rfl⟩ := hr
      exact wp_goto (hQ μ a w (Stp.refl hw) hs)
    · simp at hok
  | .scope x l rest, c, hok, A, A', a, μ, H, H', w, o, hs, hw, hr, Q, hQ => by
    simp only [okCode] at hok; split at hok
    · rename_i cx
      simp only [Bool.and_eq_true] at hok
      obtain ⟨h1, h2⟩ := hok
      split at h2
      · rename_i r hl
        simp only [exec] at hr
        exact (scope_sound hl (exec_sound hcall hp hm rest r h2) _ (exec_sound hcall hp hm x cx h1) hs hw hr hQ).wp
      · simp at h2
    · simp at hok

end Go.AM
