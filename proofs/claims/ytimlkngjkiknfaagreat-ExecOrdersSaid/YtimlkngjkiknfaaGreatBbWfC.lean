/- What the abstract machine keeps: appends, stores, instructions. -/
import Derived.Test.YtimlkngjkiknfaaGreatBbWfB
set_option linter.unusedSimpArgs false
set_option linter.unusedVariables false
namespace Go.Proofs.Bb
open Go

theorem mem_setEls {b : Blk} {off : Nat} {ys : List (List AV)} {cs : List AV} (h : cs ∈ (setEls b off ys).els) : cs ∈ b.els ∨ cs ∈ ys := by
  simp only [setEls, List.mem_append] at h
  rcases h with (h | h) | h
  · exact .inl (List.mem_of_mem_take h)
  · exact .inr h
  · exact .inl (List.mem_of_mem_drop h)

theorem mem_part {b : Blk} {off len : Nat} {cs : List AV} (h : cs ∈ b.part off len) : cs ∈ b.els := List.mem_of_mem_drop (List.mem_of_mem_take h)

/-- A slice's array is no local variable. -/
theorem rs_loc {l : Loc} {g z off len cap : Nat} (h : WV (.rs l g z off len cap)) : isV l = false := by
  cases h with
  | one h => cases h with
    | one h => cases h with
      | dc h => cases h; rfl
      | rs => rfl

theorem wb_dc {l : Loc} {b : Blk} (h : WB l b) (hl : isV l = false) : ∀ cs, cs ∈ b.els → ∀ x, x ∈ cs → DC x := by
  intro cs hcs x hx
  have := h cs hcs x hx
  rw [hl] at this; exact this
theorem wb_of {l : Loc} {b : Blk} (hl : isV l = false) (h : ∀ cs, cs ∈ b.els → ∀ x, x ∈ cs → DC x) : WB l b := by
  intro cs hcs x hx
  rw [hl]; exact h cs hcs x hx

theorem appA_wf {hh ro : Bool} {d z : Nat} {s s1 : St} {x v : AV} {ys : List (List AV)} (F : WF s) (hx : WV x) (hy : ∀ cs, cs ∈ ys → ∀ x, x ∈ cs → DC x) (h : appA hh ro d z s x ys = some (v, s1)) : WV v ∧ WF s1 := by
  unfold appA at h
  split at h
  · split at h
    · split at h
      · simp only [Option.some.injEq, Prod.mk.injEq] at h; obtain ⟨rfl, rfl⟩ := h; exact ⟨hx, F⟩
      · split at h
        · split at h
          · simp only [Option.some.injEq] at h
            cases h
            refine newA_wf F (fun cs hcs => ?_)
            rcases List.mem_append.1 hcs with hcs | hcs
            · cases hx with
              | one h => cases h with
                | one h => cases h with
                  | dc h => cases h with
                    | sl h => exact h cs (by simp [hcs])
            · exact hy cs hcs
          · cases h
        · cases h
    · cases h
  · rename_i l g z' off len cap
    have hl := rs_loc hx
    split at h
    · cases h
    · split at h
      · rename_i b hb
        have hB := wb_dc (getB_wf F hb) hl
        have happ : ∀ cs, cs ∈ b.part off len ++ ys → ∀ x, x ∈ cs → DC x := fun cs hcs => by
          rcases List.mem_append.1 hcs with hcs | hcs
          · exact hB cs (mem_part hcs)
          · exact hy cs hcs
        split at h
        · split at h
          · simp only [Option.some.injEq, Prod.mk.injEq] at h; obtain ⟨rfl, rfl⟩ := h; exact ⟨hx, F⟩
          · split at h
            · split at h
              · cases h
              · rename_i hz _ _ _
                simp only [Option.some.injEq, Prod.mk.injEq] at h; obtain ⟨rfl, rfl⟩ := h
                refine ⟨?_, setB_wf F (wb_of hl (fun cs hcs => (mem_setEls hcs).elim (hB cs) (hy cs)))⟩
                cases l with
                | v i => cases hl
                | a i => exact .one (.one (.rs ..))
                | h i => exact .one (.one (.dc (.rs ..)))
            · split at h
              · split at h
                · split at h
                  · simp only [Option.some.injEq, Prod.mk.injEq] at h; obtain ⟨rfl, rfl⟩ := h
                    exact ⟨.one (.one (.dc (.rs ..))), F.t, F.v, F.a, (F.h.set (fun b' h => by cases h) (fun es k h => by cases h)).app (WH.one (fun b' h => by cases h; exact happ) (fun es k h => by cases h))⟩
                  · cases h
                · split at h
                  · simp only [Option.some.injEq] at h; cases h
                    exact newA_wf F happ
                  · split at h
                    · simp only [Option.some.injEq] at h; cases h
                      exact newA_wf (kill_wf F) happ
                    · cases h
              · cases h
        · cases h
      · cases h
  · cases h

theorem mem_putc {cs vs : List AV} {o : Nat} {x : AV} (h : x ∈ putc cs o vs) : x ∈ cs ∨ x ∈ vs := by
  simp only [putc, List.mem_append] at h
  rcases h with (h | h) | h
  · exact .inl (List.mem_of_mem_take h)
  · exact .inr h
  · exact .inl (List.mem_of_mem_drop h)

theorem storeA_wf {wd n md : Nat} {a v : AV} {s s1 : St} {ro : Bool} (F : WF s) (hv : WV v) (h : storeA wd n md a v s ro = some s1) : WF s1 := by
  unfold storeA at h
  split at h
  · rename_i l g i o
    split at h
    · cases h
    · split at h
      · cases h
      · rename_i v2 s2 hc
        have key : WF s2 ∧ (notTup v2 = true → ∀ c, c ∈ cellsOf v2 → if isV l then W1 c else DC c) := by
          split at hc
          · rename_i hH
            split at hc
            · cases hc
            · obtain ⟨a1, a2⟩ := conv_wf F hv hc
              refine ⟨a2, fun _ c hcc => ?_⟩
              have := a1.cells c hcc
              cases l with
              | h i => exact this
              | v i => cases hH
              | a i => cases hH
          · split at hc
            · rename_i hcond
              simp only [Option.some.injEq, Prod.mk.injEq] at hc; obtain ⟨rfl, rfl⟩ := hc
              refine ⟨F, fun ht c hcc => ?_⟩
              have hw := cells_wf hv ht c hcc
              cases hV : isV l with
              | true => exact hw
              | false =>
                rw [hV] at hcond
                have : (cellsOf v).all clean1 = true := by simpa using hcond
                exact hw.clean (List.all_eq_true.1 this c hcc)
            · cases hc
        obtain ⟨F2, hk⟩ := key
        split at h
        · rename_i b hb
          split at h
          · cases h
          · split at h
            · rename_i cs hcs
              split at h
              · rename_i hcond
                simp only [Option.some.injEq] at h
                subst h
                have hB := getB_wf F2 hb
                refine setB_wf F2 (fun c hc x hx => ?_)
                rcases List.mem_or_eq_of_mem_set hc with hc | rfl
                · exact hB c hc x hx
                · rcases mem_putc hx with hx | hx
                  · exact hB cs (List.mem_of_getElem? hcs) x hx
                  · exact hk hcond.2.2 x hx
              · cases h
            · cases h
        · cases h
  · cases h

end Go.Proofs.Bb
