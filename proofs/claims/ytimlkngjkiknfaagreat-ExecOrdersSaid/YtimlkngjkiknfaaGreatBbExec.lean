/- Code: the check, and that what it runs to is what Go's code runs to. -/
import Derived.Test.YtimlkngjkiknfaaGreatBbRegB
import Derived.Scope
set_option linter.unusedSimpArgs false
set_option linter.unusedVariables false
namespace Go.Proofs.Bb
open Go

def chkC (P : Program) (N : Nat) : Code → ACode → Bool
  | .skip, .skip => true
  | .label _, .skip => true
  | .region _ ops draw, .ins l => chkR P N ops draw l
  | .seq a b, .seq a' b' => chkC P N a a' && chkC P N b b'
  | .cond c a b, .cond x a' b' => chkX c x && chkC P N a a' && chkC P N b b'
  | .block id c, .block id' c' => decide (id = id') && chkC P N c c'
  | .loop c, .loop c' => chkC P N c c'
  | .exit i, .exit j => decide (i = j)
  | .scope c, c' => chkC P N c c'
  | .ret, .ret => true
  | _, _ => false

def exOf : Ex → Exit
  | .nor => .normal
  | .ext i => .exit i
  | .ret => .ret

/-- So many rounds of a loop. -/
def Rounds (P : Program) (c : Code) (Q : Exit → Act → World → Prop) : Nat → Act → World → Prop
  | 0, _, _ => False
  | n + 1, a, w => c.wp P (Exit.then (Rounds P c Q n) Q) a w

theorem wp_rounds {P : Program} {c : Code} {Q : Exit → Act → World → Prop} {a : Act} {w : World} (h : ∃ n, Rounds P c Q n a w) : (Code.loop c).wp P Q a w := by
  intro b k cs
  have key : ∀ n a w, Rounds P c Q n a w →
      ∃ e a' w', Q e a' w' ∧ Arrives P (lone (b.at a (.code c :: .inLoop c :: k)) cs w) b k cs e a' w' := by
    intro n
    induction n with
    | zero => intro a w h; exact h.elim
    | succ n ih =>
      intro a w h
      obtain ⟨e, a₁, w₁, hq, harr⟩ := h b (.inLoop c :: k) cs
      cases e with
      | normal =>
        obtain ⟨e₂, a₂, w₂, hq₂, harr₂⟩ := ih a₁ w₁ hq
        exact ⟨e₂, a₂, w₂, hq₂, .of_steps (Steps.trans harr (.one step_inLoop)) harr₂⟩
      | exit id => exact ⟨_, a₁, w₁, hq, .pass (x := .inLoop c) rfl (fun _ _ => .inl (by simp)) harr⟩
      | goto l => exact ⟨_, a₁, w₁, hq, .pass (x := .inLoop c) rfl (fun _ _ => .inl (by simp)) harr⟩
      | ret => exact ⟨_, a₁, w₁, hq, .pass (x := .inLoop c) rfl (fun _ _ => .inl (by simp)) harr⟩
      | panic ch => exact ⟨_, a₁, w₁, hq, .pass (x := .inLoop c) rfl (fun _ _ => .inl (by simp)) harr⟩
      | outgrown => exact ⟨_, a₁, w₁, hq, .pass (x := .inLoop c) rfl (fun _ _ => .inl (by simp)) harr⟩
  obtain ⟨n, hn⟩ := h
  obtain ⟨e, a', w', hq, harr⟩ := key n a w hn
  exact ⟨e, a', w', hq, .of_steps (.one step_loop) harr⟩

abbrev LoopO := ACode → St → Option (Ex × St)

/-- What a loop's oracle keeps. -/
def LoopW (P : Program) (L : LoopO) : Prop := ∀ N c ac s e s1, chkC P N c ac = true → WF s → L ac s = some (e, s1) → WF s1 ∧ s1.ro = s.ro ∧ s.h.length ≤ s1.h.length ∧ (s.ro = true → s1.h = s.h) ∧ e ≠ .nor

/-- What a loop's oracle says is so. -/
def LoopOK (P : Program) (L : LoopO) (n : Nat) : Prop := ∀ N c ac s e s1, chkC P N c ac = true → L ac s = some (e, s1) → ∀ (cx : Cx) (w : World) (a : Act) (Q : Exit → Act → World → Prop), Rel N s cx w a →
  (∀ cx' w' a', Go1 s cx w s1 cx' w' → Rel N s1 cx' w' a' → Q (exOf e) a' w') → Rounds P c Q n a w

section
variable {P : Program} {C : Orc} {L : LoopO} {N : Nat}

structure KpS (s s1 : St) : Prop where
  f : WF s1
  ro : s1.ro = s.ro
  hl : s.h.length ≤ s1.h.length
  pre : s.ro = true → s1.h = s.h
theorem KpS.refl {s : St} (F : WF s) : KpS s s := ⟨F, rfl, Nat.le_refl _, fun _ => rfl⟩
theorem KpS.trans {s s1 s2 : St} (h : KpS s s1) (k : KpS s1 s2) : KpS s s2 :=
  ⟨k.f, k.ro.trans h.ro, Nat.le_trans h.hl k.hl, fun e => (k.pre (h.ro.trans e)).trans (h.pre e)⟩

theorem stepA_kp (hW : OrcW C) {x : AI} {s s1 : St} (F : WF s) (hok : okI x.i = true) (h : stepA C x s = some s1) : KpS s s1 := by
  have F1 := stepA_wf hW F hok h
  unfold stepA at h
  split at h
  · rename_i v s2 h2
    simp only [Option.some.injEq] at h; subst h
    have K := stepG_kp hW F hok h2
    exact ⟨F1, put_ro.trans K.g.ro, by rw [put_h]; exact K.g.h, fun e => by rw [put_h]; exact K.pre e⟩
  · cases h

theorem runI_kp (hW : OrcW C) : ∀ (l : List AI) (s s1 : St), WF s → (∀ x, x ∈ l → okI x.i = true) → runI C l s = some s1 → KpS s s1 := by
  intro l
  induction l with
  | nil => intro s s1 F _ h; simp only [runI, Option.some.injEq] at h; subst h; exact .refl F
  | cons x l ih =>
    intro s s1 F hok h
    simp only [runI] at h
    split at h
    · rename_i s2 h2
      have K := stepA_kp hW F (hok x (by simp)) h2
      exact K.trans (ih _ _ K.f (fun y hy => hok y (by simp [hy])) h)
    · cases h

theorem chkR_ok {ops : Array Oper} {draw : Bool} {l : List AI} (hc : chkR P N ops draw l = true) : ∀ x, x ∈ l → okI x.i = true := by
  simp only [chkR, Bool.and_eq_true] at hc
  obtain ⟨hl, hget⟩ := chkOs_get _ _ hc.1
  intro y hy
  obtain ⟨j, hj⟩ := List.getElem?_of_mem hy
  have hj2 : j < ops.size := by have := (List.getElem?_eq_some_iff.1 hj).1; simp at hl; omega
  have := hget j ops[j] y (by simp [hj2]) hj
  simp only [chkO, Bool.and_eq_true] at this
  exact this.1.2

theorem exec_kp (hW : OrcW C) (hL : LoopW P L) : ∀ (c : Code) (ac : ACode) (s s1 : St) (e : Ex), chkC P N c ac = true → WF s → exec C L ac s = some (e, s1) → KpS s s1 := by
  intro c
  induction c with
  | skip => intro ac s s1 e hc F h; cases ac <;> first | cases hc | skip
            simp only [exec, Option.some.injEq, Prod.mk.injEq] at h; obtain ⟨rfl, rfl⟩ := h; exact .refl F
  | label l => intro ac s s1 e hc F h; cases ac <;> first | cases hc | skip
               simp only [exec, Option.some.injEq, Prod.mk.injEq] at h; obtain ⟨rfl, rfl⟩ := h; exact .refl F
  | region id ops draw =>
    intro ac s s1 e hc F h
    cases ac <;> first | cases hc | skip
    simp only [exec] at h
    split at h
    · rename_i s2 h2
      simp only [Option.some.injEq, Prod.mk.injEq] at h; obtain ⟨rfl, rfl⟩ := h
      exact runI_kp hW _ _ _ F (chkR_ok hc) h2
    · cases h
  | seq x y ihx ihy =>
    intro ac s s1 e hc F h
    cases ac <;> first | cases hc | skip
    simp only [chkC, Bool.and_eq_true] at hc
    simp only [exec] at h
    split at h
    · rename_i s2 h2
      have K := ihx _ _ _ _ hc.1 F h2
      exact K.trans (ihy _ _ _ _ hc.2 K.f h)
    · exact ihx _ _ _ _ hc.1 F h
  | cond x t f iht ihf =>
    intro ac s s1 e hc F h
    cases ac <;> first | cases hc | skip
    simp only [chkC, Bool.and_eq_true] at hc
    simp only [exec] at h
    split at h
    · split at h
      · exact iht _ _ _ _ hc.1.2 F h
      · exact ihf _ _ _ _ hc.2 F h
    · cases h
  | block id c ih =>
    intro ac s s1 e hc F h
    cases ac <;> first | cases hc | skip
    simp only [chkC, Bool.and_eq_true] at hc
    simp only [exec] at h
    split at h
    · rename_i j s2 h2
      have K := ih _ _ _ _ hc.2 F h2
      split at h
      · simp only [Option.some.injEq, Prod.mk.injEq] at h; obtain ⟨rfl, rfl⟩ := h; exact K
      · simp only [Option.some.injEq, Prod.mk.injEq] at h; obtain ⟨rfl, rfl⟩ := h; exact K
    · exact ih _ _ _ _ hc.2 F h
  | loop c ih =>
    intro ac s s1 e hc F h
    cases ac <;> first | cases hc | skip
    simp only [chkC] at hc
    simp only [exec] at h
    obtain ⟨a1, a2, a3, a4, _⟩ := hL _ _ _ _ _ _ hc F h
    exact ⟨a1, a2, a3, a4⟩
  | rangeFunc f ps x y => intro ac s s1 e hc; cases ac <;> cases hc
  | exit i =>
    intro ac s s1 e hc F h
    cases ac <;> first | cases hc | skip
    simp only [exec, Option.some.injEq, Prod.mk.injEq] at h; obtain ⟨rfl, rfl⟩ := h; exact .refl F
  | scope c ih => intro ac s s1 e hc F h; exact ih ac s s1 e (by simpa [chkC] using hc) F h
  | goto l => intro ac s s1 e hc; cases ac <;> cases hc
  | ret =>
    intro ac s s1 e hc F h
    cases ac <;> first | cases hc | skip
    simp only [exec, Option.some.injEq, Prod.mk.injEq] at h; obtain ⟨rfl, rfl⟩ := h; exact .refl F
  | refuse y => intro ac s s1 e hc; cases ac <;> cases hc

theorem exec_ok (hW : OrcW C) (hC : OrcOK P C) {n : Nat} (hL : LoopOK P L n) (hm : P.follows .mixedOrders = true) : ∀ (c : Code) (ac : ACode) (s s1 : St) (e : Ex), chkC P N c ac = true → exec C L ac s = some (e, s1) → ∀ (cx : Cx) (w : World) (a : Act) (Q : Exit → Act → World → Prop), Rel N s cx w a →
    (∀ cx' w' a', Go1 s cx w s1 cx' w' → Rel N s1 cx' w' a' → Q (exOf e) a' w') → c.wp P Q a w := by
  intro c
  induction c with
  | skip =>
    intro ac s s1 e hc h cx w a Q R hQ
    cases ac <;> first | cases hc | skip
    simp only [exec, Option.some.injEq, Prod.mk.injEq] at h; obtain ⟨rfl, rfl⟩ := h
    exact wp_skip (hQ cx w a (.refl ..) R)
  | label l =>
    intro ac s s1 e hc h cx w a Q R hQ
    cases ac <;> first | cases hc | skip
    simp only [exec, Option.some.injEq, Prod.mk.injEq] at h; obtain ⟨rfl, rfl⟩ := h
    exact wp_label (hQ cx w a (.refl ..) R)
  | region id ops draw =>
    intro ac s s1 e hc h cx w a Q R hQ
    cases ac <;> first | cases hc | skip
    simp only [exec] at h
    split at h
    · rename_i s2 h2
      simp only [Option.some.injEq, Prod.mk.injEq] at h; obtain ⟨rfl, rfl⟩ := h
      exact region_ok hW hC hm hc R h2 hQ
    · cases h
  | seq x y ihx ihy =>
    intro ac s s1 e hc h cx w a Q R hQ
    cases ac <;> first | cases hc | skip
    simp only [chkC, Bool.and_eq_true] at hc
    simp only [exec] at h
    refine wp_seq ?_
    split at h
    · rename_i s2 h2
      refine ihx _ _ _ _ hc.1 h2 cx w a _ R (fun cx' w' a' g r => ?_)
      exact ihy _ _ _ _ hc.2 h cx' w' a' Q r (fun cx2 w2 a2 g2 r2 => hQ cx2 w2 a2 (g.trans g2) r2)
    · rename_i hne
      refine ihx _ _ _ _ hc.1 h cx w a _ R (fun cx' w' a' g r => ?_)
      have := hQ cx' w' a' g r
      cases e with
      | nor => exact absurd h (hne s1)
      | ext i => exact this
      | ret => exact this
  | cond x t f iht ihf =>
    intro ac s s1 e hc h cx w a Q R hQ
    cases ac <;> first | cases hc | skip
    simp only [chkC, Bool.and_eq_true] at hc
    simp only [exec] at h
    split at h
    · rename_i b hb
      have hv := ev_ok R.T hc.1.1
      rw [hb] at hv
      refine wp_cond (bool_inv hv) ?_
      cases b with
      | true => simp only [if_true] at h ⊢; exact iht _ _ _ _ hc.1.2 h cx w a Q R hQ
      | false => simp only [Bool.false_eq_true, if_false] at h ⊢; exact ihf _ _ _ _ hc.2 h cx w a Q R hQ
    · cases h
  | block id c ih =>
    intro ac s s1 e hc h cx w a Q R hQ
    cases ac <;> first | cases hc | skip
    simp only [chkC, Bool.and_eq_true, decide_eq_true_eq] at hc
    obtain ⟨rfl, hc⟩ := hc
    simp only [exec] at h
    refine wp_block ?_
    split at h
    · rename_i j s2 h2
      split at h
      · rename_i hj
        subst hj
        simp only [Option.some.injEq, Prod.mk.injEq] at h; obtain ⟨rfl, rfl⟩ := h
        refine ih _ _ _ _ hc h2 cx w a _ R (fun cx' w' a' g r => ?_)
        simp only [exOf, Exit.inBlock, if_true]
        exact hQ cx' w' a' g r
      · rename_i hj
        simp only [Option.some.injEq, Prod.mk.injEq] at h; obtain ⟨rfl, rfl⟩ := h
        refine ih _ _ _ _ hc h2 cx w a _ R (fun cx' w' a' g r => ?_)
        simp only [exOf, Exit.inBlock, if_neg hj]
        exact hQ cx' w' a' g r
    · rename_i hne
      refine ih _ _ _ _ hc h cx w a _ R (fun cx' w' a' g r => ?_)
      have := hQ cx' w' a' g r
      cases e with
      | nor => exact this
      | ext i => exact absurd h (hne i s1)
      | ret => exact this
  | loop c ih =>
    intro ac s s1 e hc h cx w a Q R hQ
    cases ac <;> first | cases hc | skip
    simp only [chkC] at hc
    simp only [exec] at h
    exact wp_rounds ⟨n, hL _ _ _ _ _ _ hc h cx w a Q R hQ⟩
  | rangeFunc f ps x y => intro ac s s1 e hc; cases ac <;> cases hc
  | exit i =>
    intro ac s s1 e hc h cx w a Q R hQ
    cases ac <;> first | cases hc | skip
    simp only [chkC, decide_eq_true_eq] at hc
    subst hc
    simp only [exec, Option.some.injEq, Prod.mk.injEq] at h; obtain ⟨rfl, rfl⟩ := h
    exact wp_exit (hQ cx w a (.refl ..) R)
  | scope c ih =>
    intro ac s s1 e hc h cx w a Q R hQ
    refine wp_scope_straight ?_
    refine ih ac s s1 e (by simpa [chkC] using hc) h cx w a _ R (fun cx' w' a' g r => ?_)
    have := hQ cx' w' a' g r
    cases e <;> exact this
  | goto l => intro ac s s1 e hc; cases ac <;> cases hc
  | ret =>
    intro ac s s1 e hc h cx w a Q R hQ
    cases ac <;> first | cases hc | skip
    simp only [exec, Option.some.injEq, Prod.mk.injEq] at h; obtain ⟨rfl, rfl⟩ := h
    exact wp_ret (hQ cx w a (.refl ..) R)
  | refuse y => intro ac s s1 e hc; cases ac <;> cases hc
end
end Go.Proofs.Bb
