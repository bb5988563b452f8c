/- What the abstract machine keeps: conversions, appends, stores. -/
import Derived.Test.YtimlkngjkiknfaaGreatBbWf
set_option linter.unusedSimpArgs false
set_option linter.unusedVariables false
namespace Go.Proofs.Bb
open Go

theorem mapS_wf {f : AV → St → Option (AV × St)} {R T : AV → Prop} (hf : ∀ x s y s1, WF s → R x → f x s = some (y, s1) → T y ∧ WF s1) : ∀ (xs ys : List AV) (s s1 : St), WF s → (∀ x, x ∈ xs → R x) → mapS f xs s = some (ys, s1) → (∀ y, y ∈ ys → T y) ∧ WF s1 := by
  intro xs
  induction xs with
  | nil =>
    intro ys s s1 F h0 h
    simp only [mapS, Option.some.injEq, Prod.mk.injEq] at h; obtain ⟨rfl, rfl⟩ := h
    exact ⟨fun y hy => by simp at hy, F⟩
  | cons x xs ih =>
    intro ys s s1 F h0 h
    simp only [mapS] at h
    split at h
    · cases h
    · rename_i y s2 h1
      split at h
      · cases h
      · rename_i ys' s3 h2
        simp only [Option.some.injEq, Prod.mk.injEq] at h; obtain ⟨rfl, rfl⟩ := h
        obtain ⟨a1, a2⟩ := hf x s y s2 F (h0 x (by simp)) h1
        obtain ⟨b1, b2⟩ := ih _ _ _ a2 (fun x hx => h0 x (by simp [hx])) h2
        exact ⟨fun z hz => by rcases List.mem_cons.1 hz with rfl | hz; exact a1; exact b1 z hz, b2⟩

theorem conv_wf {k : Nat} {x y : AV} {s s1 : St} (F : WF s) (hx : WV x) (h : conv k x s = some (y, s1)) : D0 y ∧ WF s1 := by
  unfold conv at h
  split at h
  · rename_i cs
    split at h
    · rename_i cs' s2 h1
      simp only [Option.some.injEq, Prod.mk.injEq] at h; obtain ⟨rfl, rfl⟩ := h
      have hcs : ∀ x, x ∈ cs → W1 x := by
        cases hx with
        | one h => cases h with
          | one h => cases h with
            | dc h => cases h
          | agg h => exact h
      obtain ⟨a1, a2⟩ := mapS_wf (fun x s y s1 F hx h => conv1_wf F hx h) _ _ _ _ F hcs h1
      exact ⟨.agg a1, a2⟩
    · cases h
  · rename_i hna
    have hw : W1 x ∨ (∃ vs, x = .tup vs) := by
      cases hx with
      | one h => cases h with
        | one h => exact .inl h
        | agg h => exact absurd rfl (hna _)
      | tup h => exact .inr ⟨_, rfl⟩
    rcases hw with hw | ⟨vs, rfl⟩
    · obtain ⟨a1, a2⟩ := conv1_wf F hw h
      exact ⟨.one a1, a2⟩
    · simp [conv1, clean1] at h

theorem cells_wf {x : AV} (h : WV x) (ht : notTup x = true) : ∀ c, c ∈ cellsOf x → W1 c := by
  cases h with
  | tup h => cases ht
  | one h =>
    cases h with
    | agg h => exact h
    | one h =>
      intro c hc
      cases x <;> first | (simp only [cellsOf, List.mem_singleton] at hc; subst hc; exact h) | (cases h with | dc h => cases h)
theorem D0.cells {x : AV} (h : D0 x) : ∀ c, c ∈ cellsOf x → DC c := by
  cases h with
  | agg h => exact h
  | one h => 
    intro c hc
    cases h <;> (simp only [cellsOf, List.mem_singleton] at hc; subst hc) <;> constructor <;> assumption

theorem capt_wf {x y : AV} {s s1 : St} (F : WF s) (hx : WV x) (h : capt x s = some (y, s1)) : DC y ∧ WF s1 := by
  unfold capt at h
  split at h
  · rename_i i g e o
    split at h
    · rename_i b hb
      split at h
      · rename_i cs hcs
        split at h
        · rename_i hc
          simp only [Option.some.injEq, Prod.mk.injEq] at h; obtain ⟨rfl, rfl⟩ := h
          have hB := getB_wf F hb
          exact ⟨.ip (fun x hx => (hB cs (List.mem_of_getElem? hcs) x hx).clean (List.all_eq_true.1 hc x hx)), setB_wf F hB⟩
        · cases h
      · cases h
    · cases h
  · split at h
    · rename_i hc
      simp only [Option.some.injEq, Prod.mk.injEq] at h; obtain ⟨rfl, rfl⟩ := h
      refine ⟨?_, F⟩
      cases hx with
      | tup h => simp [clean1] at hc
      | one h => cases h with
        | one h => exact h.clean hc
        | agg h => simp [clean1] at hc
    · cases h

theorem elsOf_wf {hh : Bool} {x : AV} {s : St} {z : Nat} {ys : List (List AV)} (F : WF s) (hx : WV x) (h : elsOf hh s x = some (z, ys)) : ∀ cs, cs ∈ ys → ∀ x, x ∈ cs → DC x := by
  unfold elsOf at h
  split at h
  · simp only [Option.some.injEq, Prod.mk.injEq] at h; obtain ⟨rfl, rfl⟩ := h
    cases hx with
    | one h => cases h with
      | one h => cases h with
        | dc h => cases h with
          | sl h => exact fun cs hcs => h cs (by simp [hcs])
  · rename_i l g z' off len cap
    split at h
    · cases h
    · split at h
      · rename_i b hb
        simp only [Option.some.injEq, Prod.mk.injEq] at h; obtain ⟨rfl, rfl⟩ := h
        have hB := getB_wf F hb
        intro cs hcs x hx'
        have := hB cs (List.mem_of_mem_drop (List.mem_of_mem_take hcs)) x hx'
        cases l with
        | v i =>
          cases hx with
          | one h => cases h with
            | one h => cases h with
              | dc h => cases h
        | a i => exact this
        | h i => exact this
      · cases h
  · cases h

end Go.Proofs.Bb
