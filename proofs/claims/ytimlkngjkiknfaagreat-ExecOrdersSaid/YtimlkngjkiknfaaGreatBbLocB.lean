/- What an instruction looks at, and what it turns: those that touch memory. -/
import Derived.Test.YtimlkngjkiknfaaGreatBbLoc
set_option linter.unusedSimpArgs false
set_option linter.unusedVariables false
namespace Go.Proofs.Bb
open Go

/-- The state with another memory where it is not touched. -/
structure Sim (wv wa wh : Bool) (s s' s1 s1' : St) : Prop where
  t : s1'.t = s'.t
  v : s1'.v = if wv then s1.v else s'.v
  a : s1'.a = if wa then s1.a else s'.a
  h : s1'.h = if wh then s1.h else s'.h
  ro : s1'.ro = s'.ro

section
variable {C : Orc} {d : Nat} {s s' : St} {v : AV} {s1 : St}

/-- What only turns arrays, and looks at them alone, or at the heap as well. -/
theorem conv1_loc {k : Nat} {x y : AV} (ha : s.a = s'.a) (hh : k = 0 ∨ s.h = s'.h) (h : conv1 k x s = some (y, s1)) : conv1 k x s' = some (y, { s' with a := s1.a, h := if k = 1 then s1.h else s'.h }) ∧ s1.v = s.v ∧ (k ≠ 1 → s1.h = s.h) ∧ s1.ro = s.ro ∧ s1.t = s.t := by
  unfold conv1 at h ⊢
  split at h
  · rename_i i g z off len cap
    simp only [getB_a ha]
    split at h
    · rename_i b hb
      try simp only [hb]
      split at h
      · rename_i hk
        have hh : s.h = s'.h := hh.resolve_left (by omega)
        split at h
        · cases h
        · rename_i hf
          simp only [Option.some.injEq, Prod.mk.injEq] at h; obtain ⟨rfl, rfl⟩ := h
          simp only [if_pos hk, if_neg hf, ← hh]
          simp [St.kill, ← ha, ← hh, hk]
      · rename_i hk
        simp only [Option.some.injEq, Prod.mk.injEq] at h; obtain ⟨rfl, rfl⟩ := h
        simp [hk, St.setB, ← ha]
    · cases h
  · rename_i i g z off len cap
    split at h
    · rename_i hk
      have hh : s.h = s'.h := hh.resolve_left (by omega)
      simp only [getB_h hh]
      split at h
      · rename_i b hb
        simp only [Option.some.injEq, Prod.mk.injEq] at h; obtain ⟨rfl, rfl⟩ := h
        simp [hk, hb, ha]
      · cases h
    · rename_i hk
      simp only [Option.some.injEq, Prod.mk.injEq] at h; obtain ⟨rfl, rfl⟩ := h
      simp only [if_neg hk]
      rcases hh with rfl | hh
      · simp [ha]
      · simp [ha, hh]
  · split at h
    · rename_i hc
      simp only [Option.some.injEq, Prod.mk.injEq] at h; obtain ⟨rfl, rfl⟩ := h
      simp only [if_pos hc]
      rcases hh with rfl | hh
      · simp [ha]
      · simp [ha, hh]
    · cases h

theorem mapS_loc {f : AV → St → Option (AV × St)} {k : Nat} (hf : ∀ x y (s s' s1 : St), s.a = s'.a → (k = 0 ∨ s.h = s'.h) → f x s = some (y, s1) → f x s' = some (y, { s' with a := s1.a, h := if k = 1 then s1.h else s'.h }) ∧ s1.v = s.v ∧ (k ≠ 1 → s1.h = s.h) ∧ s1.ro = s.ro ∧ s1.t = s.t) :
    ∀ (xs ys : List AV) (s s' s1 : St), s.a = s'.a → (k = 0 ∨ s.h = s'.h) → mapS f xs s = some (ys, s1) → mapS f xs s' = some (ys, { s' with a := s1.a, h := if k = 1 then s1.h else s'.h }) ∧ s1.v = s.v ∧ (k ≠ 1 → s1.h = s.h) ∧ s1.ro = s.ro ∧ s1.t = s.t := by
  intro xs
  induction xs with
  | nil =>
    intro ys s s' s1 ha hh h
    simp only [mapS, Option.some.injEq, Prod.mk.injEq] at h ⊢; obtain ⟨rfl, rfl⟩ := h
    refine ⟨⟨rfl, ?_⟩, rfl, fun _ => rfl, rfl, rfl⟩
    rcases hh with rfl | hh
    · simp [ha]
    · simp [ha, hh]
  | cons x xs ih =>
    intro ys s s' s1 ha hh h
    simp only [mapS] at h ⊢
    split at h
    · cases h
    · rename_i y s2 h1
      split at h
      · cases h
      · rename_i ys' s3 h2
        simp only [Option.some.injEq, Prod.mk.injEq] at h; obtain ⟨rfl, rfl⟩ := h
        obtain ⟨a1, a2, a3, a4, a5⟩ := hf x y s s' s2 ha hh h1
        rw [a1]
        obtain ⟨b1, b2, b3, b4, b5⟩ := ih ys' s2 { s' with a := s2.a, h := if k = 1 then s2.h else s'.h } s3 rfl (by
          rcases hh with rfl | hh
          · exact .inl rfl
          · right
            by_cases hk : k = 1
            · simp [hk]
            · simp only [if_neg hk]; rw [a3 hk, hh]) h2
        simp only []
        rw [b1]
        refine ⟨?_, b2.trans a2, fun hk => (b3 hk).trans (a3 hk), b4.trans a4, b5.trans a5⟩
        by_cases hk : k = 1 <;> simp [hk]

theorem conv_loc {k : Nat} {x y : AV} (ha : s.a = s'.a) (hh : k = 0 ∨ s.h = s'.h) (h : conv k x s = some (y, s1)) : conv k x s' = some (y, { s' with a := s1.a, h := if k = 1 then s1.h else s'.h }) ∧ s1.v = s.v ∧ (k ≠ 1 → s1.h = s.h) ∧ s1.ro = s.ro ∧ s1.t = s.t := by
  unfold conv at h ⊢
  split at h
  · split at h
    · rename_i cs' s2 h1
      simp only [Option.some.injEq, Prod.mk.injEq] at h; obtain ⟨rfl, rfl⟩ := h
      obtain ⟨a1, a2⟩ := mapS_loc (f := conv1 k) (k := k) (fun x y s s' s1 ha hh h => conv1_loc ha hh h) _ _ _ _ _ ha hh h1
      try simp only []
      rw [a1]
      exact ⟨rfl, a2⟩
    · cases h
  · exact conv1_loc ha hh h

theorem capt_loc {x y : AV} (hv : s.v = s'.v) (h : capt x s = some (y, s1)) : capt x s' = some (y, { s' with v := s1.v }) ∧ s1.a = s.a ∧ s1.h = s.h ∧ s1.ro = s.ro ∧ s1.t = s.t := by
  unfold capt at h ⊢
  split at h
  · rename_i i g e o
    simp only [getB_v (congrFun hv i)]
    split at h
    · rename_i b hb
      try simp only [hb]
      split at h
      · rename_i cs hcs
        split at h
        · rename_i hc
          simp only [Option.some.injEq, Prod.mk.injEq] at h; obtain ⟨rfl, rfl⟩ := h
          simp only [hcs, if_pos hc]
          simp [St.setB, ← hv]
        · cases h
      · cases h
    · cases h
  · split at h
    · rename_i hc
      simp only [Option.some.injEq, Prod.mk.injEq] at h; obtain ⟨rfl, rfl⟩ := h
      simp [hc, hv]
    · cases h

theorem mapC_loc : ∀ (xs ys : List AV) (s s' s1 : St), s.v = s'.v → mapS capt xs s = some (ys, s1) → mapS capt xs s' = some (ys, { s' with v := s1.v }) ∧ s1.a = s.a ∧ s1.h = s.h ∧ s1.ro = s.ro ∧ s1.t = s.t := by
  intro xs
  induction xs with
  | nil =>
    intro ys s s' s1 hv h
    simp only [mapS, Option.some.injEq, Prod.mk.injEq] at h ⊢; obtain ⟨rfl, rfl⟩ := h
    exact ⟨⟨rfl, by simp [hv]⟩, rfl, rfl, rfl, rfl⟩
  | cons x xs ih =>
    intro ys s s' s1 hv h
    simp only [mapS] at h ⊢
    split at h
    · cases h
    · rename_i y s2 h1
      split at h
      · cases h
      · rename_i ys' s3 h2
        simp only [Option.some.injEq, Prod.mk.injEq] at h; obtain ⟨rfl, rfl⟩ := h
        obtain ⟨a1, a2, a3, a4, a5⟩ := capt_loc hv h1
        rw [a1]
        obtain ⟨b1, b2, b3, b4, b5⟩ := ih ys' s2 { s' with v := s2.v } s3 rfl h2
        simp only []
        rw [b1]
        exact ⟨rfl, b2.trans a2, b3.trans a3, b4.trans a4, b5.trans a5⟩

theorem imp1_loc {x : AV} (ha : s.a = s'.a) : (imp1 d x s').1 = (imp1 d x s).1 ∧ (imp1 d x s').2 = { s' with a := (imp1 d x s).2.a } ∧ (imp1 d x s).2.v = s.v ∧ (imp1 d x s).2.h = s.h := by
  cases x <;> simp [imp1, ha]
theorem impL_loc : ∀ (xs : List AV) (d : Nat) (s s' : St), s.a = s'.a → (impL d xs s').1 = (impL d xs s).1 ∧ (impL d xs s').2 = { s' with a := (impL d xs s).2.a } ∧ (impL d xs s).2.v = s.v ∧ (impL d xs s).2.h = s.h := by
  intro xs
  induction xs with
  | nil => intro d s s' ha; simp [impL, ha]
  | cons x xs ih =>
    intro d s s' ha
    obtain ⟨a1, a2, a3, a4⟩ := imp1_loc (d := d) (x := x) ha
    obtain ⟨b1, b2, b3, b4⟩ := ih (d + 1000) (imp1 d x s).2 (imp1 d x s').2 (by rw [a2])
    simp only [impL]
    refine ⟨by rw [a1, b1], ?_, b3.trans a3, b4.trans a4⟩
    rw [b2, a2]
theorem imp_loc {x : AV} (ha : s.a = s'.a) : (imp d x s').1 = (imp d x s).1 ∧ (imp d x s').2 = { s' with a := (imp d x s).2.a } ∧ (imp d x s).2.v = s.v ∧ (imp d x s).2.h = s.h := by
  cases x
  case tup vs =>
    obtain ⟨b1, b2, b3, b4⟩ := impL_loc vs (d + 1000) s s' ha
    simp only [imp]
    exact ⟨by rw [b1], b2, b3, b4⟩
  all_goals exact imp1_loc ha

theorem elsOf_loc {hh : Bool} {x : AV} {p : Nat × List (List AV)} (hx : WV x) (ha : s.a = s'.a) (hhh : hh = true → s.h = s'.h) (h : elsOf hh s x = some p) : elsOf hh s' x = some p := by
  cases x <;> simp only [elsOf] at h ⊢ <;> try exact h
  rename_i l g z off len cap
  have hl := rs_loc hx
  cases l with
  | v i => cases hl
  | a i => simp only [getB_a ha]; exact h
  | h i =>
    cases hh with
    | false => simp [isH] at h
    | true => simp only [getB_h (hhh rfl)]; exact h

theorem appA_loc {hh ro : Bool} {z : Nat} {x : AV} {ys : List (List AV)} (hx : WV x) (ha : s.a = s'.a) (hhh : hh = true → s.h = s'.h) (h : appA hh ro d z s x ys = some (v, s1)) :
    appA hh ro d z s' x ys = some (v, { s' with a := s1.a, h := if hh then s1.h else s'.h }) ∧ s1.v = s.v ∧ (hh = false → s1.h = s.h) := by
  have e0 : { s' with a := s.a, h := if hh then s.h else s'.h } = s' := by
    cases hh with
    | false => simp [ha]
    | true => simp [ha, hhh rfl]
  unfold appA at h ⊢
  split at h
  · split at h
    · rename_i hz
      rw [if_pos hz]
      split at h
      · rename_i hy
        rw [if_pos hy]
        simp only [Option.some.injEq, Prod.mk.injEq] at h; obtain ⟨rfl, rfl⟩ := h
        exact ⟨by rw [e0], rfl, fun _ => rfl⟩
      · rename_i hy
        rw [if_neg hy]
        split at h
        · split at h
          · rename_i hb
            simp only [if_pos hb]
            simp only [Option.some.injEq] at h; cases h
            refine ⟨?_, rfl, fun _ => rfl⟩
            cases hh with
            | false => simp [newA, ha]
            | true => simp [newA, ha, hhh rfl]
          · cases h
        · cases h
    · cases h
  · rename_i l g z' off len cap
    have hl := rs_loc hx
    split at h
    · cases h
    · rename_i hnh
      rw [if_neg hnh]
      have hg : s'.getB l g = s.getB l g := by
        cases l with
        | v i => cases hl
        | a i => exact getB_a ha i g
        | h i =>
          cases hh with
          | false => simp [isH] at hnh
          | true => exact getB_h (hhh rfl) i g
      rw [hg]
      split at h
      · rename_i b hb
        try simp only []
        split at h
        · rename_i hz
          rw [if_pos hz]
          split at h
          · rename_i hy
            rw [if_pos hy]
            simp only [Option.some.injEq, Prod.mk.injEq] at h; obtain ⟨rfl, rfl⟩ := h
            exact ⟨by rw [e0], rfl, fun _ => rfl⟩
          · rename_i hy
            rw [if_neg hy]
            split at h
            · rename_i hc
              rw [if_pos hc]
              split at h
              · cases h
              · rename_i hf
                rw [if_neg hf]
                simp only [Option.some.injEq, Prod.mk.injEq] at h; obtain ⟨rfl, rfl⟩ := h
                cases l with
                | v i => cases hl
                | a i =>
                  refine ⟨?_, rfl, fun _ => rfl⟩
                  cases hh with
                  | false => simp [St.setB, ha]
                  | true => simp [St.setB, ha, hhh rfl]
                | h i =>
                  cases hh with
                  | false => simp [isH] at hnh
                  | true => exact ⟨by simp [St.setB, ha, hhh rfl], rfl, fun h => by cases h⟩
            · rename_i hc
              rw [if_neg hc]
              split at h
              · rename_i hbl
                rw [if_pos hbl]
                split at h
                · rename_i hH
                  rw [if_pos hH]
                  split at h
                  · rename_i hcond
                    rw [if_pos hcond]
                    simp only [Option.some.injEq, Prod.mk.injEq] at h; obtain ⟨rfl, rfl⟩ := h
                    cases hh with
                    | false => rw [hH] at hnh; simp at hnh
                    | true => exact ⟨by simp [ha, hhh rfl], rfl, fun h => by cases h⟩
                  · cases h
                · rename_i hH
                  rw [if_neg hH]
                  cases l with
                  | v i => cases hl
                  | h i => simp [isH] at hH
                  | a i =>
                  split at h
                  · rename_i hex
                    rw [if_pos hex]
                    simp only [Option.some.injEq] at h; cases h
                    refine ⟨?_, rfl, fun _ => rfl⟩
                    cases hh with
                    | false => simp [newA, ha]
                    | true => simp [newA, ha, hhh rfl]
                  · rename_i hex
                    rw [if_neg hex]
                    split at h
                    · rename_i hcond
                      rw [if_pos hcond]
                      simp only [Option.some.injEq] at h; cases h
                      refine ⟨?_, rfl, fun _ => rfl⟩
                      cases hh with
                      | false => simp [newA, St.kill, ha]
                      | true => simp [newA, St.kill, ha, hhh rfl]
                    · cases h
              · cases h
        · cases h
      · cases h
  · cases h

end
end Go.Proofs.Bb
