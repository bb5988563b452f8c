/- What the abstract machine keeps: every instruction. -/
import Derived.Test.YtimlkngjkiknfaaGreatBbWfD
set_option linter.unusedSimpArgs false
set_option linter.unusedVariables false
namespace Go.Proofs.Bb
open Go

/-- What an oracle keeps. -/
def OrcW (C : Orc) : Prop := ∀ ro f args h v h', C ro f args h = some (v, h') → (∀ x, x ∈ args → D0 x) → WH h →
  OV v ∧ WH h' ∧ h.length ≤ h'.length ∧ (ro = true → h' = h)

theorem wh_dead (n : Nat) : WH (List.replicate n HB.dead) := by
  refine ⟨fun i b h => ?_, fun i es k h => ?_⟩
  · rw [List.getElem?_replicate] at h
    split at h
    · simp at h
    · cases h
  · rw [List.getElem?_replicate] at h
    split at h
    · simp at h
    · cases h
theorem deaden_eq (h : List HB) : deaden h = List.replicate h.length .dead := by
  unfold deaden
  induction h with
  | nil => rfl
  | cons x h ih => simp [ih, List.replicate_succ]
theorem wh_deaden (h : List HB) : WH (deaden h) := by rw [deaden_eq]; exact wh_dead _

theorem imp1_wf {d : Nat} {x : AV} {s : St} (F : WF s) (hx : O0 x) : W0 (imp1 d x s).1 ∧ WF (imp1 d x s).2 ∧ Sm s (imp1 d x s).2 := by
  cases hx with
  | own h => exact ⟨.one (.rs ..), ⟨F.t, F.v, upd_slot F.a (fun b' hb => by cases hb; exact h), F.h⟩, ⟨rfl, rfl, rfl⟩⟩
  | one h =>
    have e : imp1 d x s = (x, s) := by
      cases h with
      | one h => cases h <;> rfl
      | agg h => rfl
    rw [e]
    refine ⟨?_, F, .refl _⟩
    cases h with
    | one h => exact .one (.dc h)
    | agg h => exact .agg (fun x hx => .dc (h x hx))

theorem impL_wf : ∀ (xs : List AV) (d : Nat) (s : St), WF s → (∀ x, x ∈ xs → O0 x) → (∀ y, y ∈ (impL d xs s).1 → W0 y) ∧ WF (impL d xs s).2 ∧ Sm s (impL d xs s).2 := by
  intro xs
  induction xs with
  | nil => intro d s F h; exact ⟨fun y hy => by simp [impL] at hy, F, .refl _⟩
  | cons x xs ih =>
    intro d s F h
    obtain ⟨a1, a2, a3⟩ := imp1_wf (d := d) F (h x (by simp))
    obtain ⟨b1, b2, b3⟩ := ih (d + 1000) _ a2 (fun x hx => h x (by simp [hx]))
    refine ⟨fun y hy => ?_, b2, a3.trans b3⟩
    simp only [impL] at hy
    rcases List.mem_cons.1 hy with rfl | hy
    · exact a1
    · exact b1 y hy

theorem imp_wf {d : Nat} {x : AV} {s : St} (F : WF s) (hx : OV x) : WV (imp d x s).1 ∧ WF (imp d x s).2 ∧ Sm s (imp d x s).2 := by
  cases hx with
  | tup h =>
    obtain ⟨a1, a2, a3⟩ := impL_wf _ (d + 1000) s F h
    exact ⟨.tup a1, a2, a3⟩
  | one h =>
    obtain ⟨a1, a2, a3⟩ := imp1_wf (d := d) F h
    have e : imp d x s = imp1 d x s := by
      cases h with
      | own h => rfl
      | one h => cases h with
        | one h => cases h <;> rfl
        | agg h => rfl
    rw [e]
    exact ⟨.one a1, a2, a3⟩

theorem scal_wv {x : AV} (h : scal x = true) : WV x := by
  cases x
  case tup vs =>
    exact .tup (fun x hx => by
      have := scal0_d0 (List.all_eq_true.1 h x hx)
      cases this with
      | one h => exact .one (.dc h)
      | agg h => exact .agg (fun x hx => .dc (h x hx)))
  all_goals (refine (scal0_d0 ?_).wv; exact h)

theorem O0.dc {x : AV} (h : O0 x) (hc : clean0 x = true) : D0 x := by
  cases h with
  | one h => exact h
  | own h => cases hc
theorem OV.wv {x : AV} (h : OV x) (hc : clean x = true) : WV x := by
  cases h with
  | one h =>
    have : clean0 x = true := by
      cases h with
      | own h => cases hc
      | one h => cases h with
        | one h => cases h <;> exact hc
        | agg h => exact hc
    exact (h.dc this).wv
  | tup h =>
    exact .tup (fun x hx => by
      have := (h x hx).dc (List.all_eq_true.1 hc x hx)
      cases this with
      | one h => exact .one (.dc h)
      | agg h => exact .agg (fun x hx => .dc (h x hx)))

theorem imp1_clean {d : Nat} {x : AV} (h : clean0 x = true) (s : St) : imp1 d x s = (x, s) := by
  cases x <;> first | rfl | cases h
theorem impL_clean : ∀ (xs : List AV) (d : Nat) (s : St), xs.all clean0 = true → impL d xs s = (xs, s) := by
  intro xs
  induction xs with
  | nil => intro d s h; rfl
  | cons x xs ih =>
    intro d s h
    simp only [List.all_cons, Bool.and_eq_true] at h
    simp only [impL, imp1_clean h.1, ih _ _ h.2]
theorem imp_clean {d : Nat} {x : AV} (h : clean x = true) (s : St) : imp d x s = (x, s) := by
  cases x
  case tup vs => simp only [imp, impL_clean _ _ _ (show vs.all clean0 = true from h)]
  all_goals first | rfl | cases h
theorem scal1_clean {x : AV} (h : scal1 x = true) : clean1 x = true := by
  cases x <;> first | rfl | cases h
theorem scal0_clean {x : AV} (h : scal0 x = true) : clean0 x = true := by
  cases x
  case agg cs => exact List.all_eq_true.2 (fun x hx => scal1_clean (List.all_eq_true.1 h x hx))
  all_goals first | rfl | cases h
theorem scal_clean {x : AV} (h : scal x = true) : clean x = true := by
  cases x
  case tup cs => exact List.all_eq_true.2 (fun x hx => scal0_clean (List.all_eq_true.1 h x hx))
  case agg cs => exact scal0_clean (x := .agg cs) h
  all_goals first | rfl | cases h

/-- What a call hands over, and what it sees of the heap. -/
theorem callA_split {C : Orc} {ro : Bool} {md : Mode} {aa : Bool} {d : Nat} {f : FuncId} {args : List AV} {s s1 : St} {v : AV} (h : callA C ro md aa d f args s = some (v, s1)) :
    ∃ vs s2 r h1, (if aa then mapS (conv (if md = .isoh then 2 else 0)) args s else if args.all clean0 then some (args, s) else none) = some (vs, s2) ∧
      (C false f vs (deaden s.h) = some (r, h1) ∧ scal r = true ∧ h1.length = s.h.length ∧ v = r ∧ s1 = s ∨
        md ≠ .isoh ∧ C true f vs s.h = some (r, h1) ∧ scal r = true ∧ v = r ∧ s1 = s ∨
        md ≠ .isoh ∧ C true f vs s.h = some (r, h1) ∧ (v, s1) = imp d r s2 ∨
        md ≠ .isoh ∧ ro = false ∧ C false f vs s.h = some (r, h1) ∧ (v, s1) = imp d r { s2 with h := h1 }) := by
  unfold callA at h
  split at h
  · cases h
  · rename_i vs s2 hc
    have hs2 : aa = false → s2 = s := by
      intro ha
      rw [ha] at hc
      simp only [Bool.false_eq_true, if_false] at hc
      split at hc
      · cases hc; rfl
      · cases hc
    split at h
    · split at h
      · rename_i r h1 hC
        split at h
        · rename_i hs
          simp only [Option.some.injEq, Prod.mk.injEq] at h; obtain ⟨rfl, rfl⟩ := h
          exact ⟨vs, s2, _, h1, hc, .inl ⟨hC, hs.1, hs.2, rfl, rfl⟩⟩
        · cases h
      · cases h
    · split at h
      · rename_i r h1 hC
        split at h
        · rename_i hs
          simp only [Option.some.injEq, Prod.mk.injEq] at h; obtain ⟨rfl, rfl⟩ := h
          exact ⟨vs, s2, _, h1, hc, .inl ⟨hC, hs.1, hs.2, rfl, rfl⟩⟩
        · cases h
      · cases h
    · split at h
      · rename_i r h1 hC
        split at h
        · rename_i hs
          simp only [Option.some.injEq, Prod.mk.injEq] at h; obtain ⟨rfl, rfl⟩ := h
          exact ⟨vs, s2, _, h1, hc, .inr (.inl ⟨by simp, hC, hs, rfl, rfl⟩)⟩
        · split at h
          · simp only [Option.some.injEq] at h
            exact ⟨vs, s2, r, h1, hc, .inr (.inr (.inl ⟨by simp, hC, h.symm⟩))⟩
          · rename_i ha
            split at h
            · rename_i hcl
              simp only [Option.some.injEq, Prod.mk.injEq] at h; obtain ⟨rfl, rfl⟩ := h
              refine ⟨vs, s2, _, h1, hc, .inr (.inr (.inl ⟨by simp, hC, ?_⟩))⟩
              rw [imp_clean hcl, hs2 (by simpa using ha)]
            · cases h
      · cases h
    · split at h
      · cases h
      · rename_i hr
        have hr' : ro = false := by simpa using hr
        split at h
        · rename_i r h1 hC
          split at h
          · rename_i hs
            simp only [Option.some.injEq, Prod.mk.injEq] at h; obtain ⟨rfl, rfl⟩ := h
            refine ⟨vs, s2, _, h1, hc, .inr (.inr (.inr ⟨by simp, hr', hC, ?_⟩))⟩
            rw [imp_clean (scal_clean hs)]
          · split at h
            · simp only [Option.some.injEq] at h
              exact ⟨vs, s2, r, h1, hc, .inr (.inr (.inr ⟨by simp, hr', hC, h.symm⟩))⟩
            · rename_i ha
              split at h
              · rename_i hcl
                simp only [Option.some.injEq, Prod.mk.injEq] at h; obtain ⟨rfl, rfl⟩ := h
                refine ⟨vs, s2, _, h1, hc, .inr (.inr (.inr ⟨by simp, hr', hC, ?_⟩))⟩
                rw [imp_clean hcl, hs2 (by simpa using ha)]
              · cases h
        · cases h

theorem args_wf {md : Mode} {aa : Bool} {args vs : List AV} {s s2 : St} (F : WF s) (ha : ∀ x, x ∈ args → WV x)
    (hc : (if aa then mapS (conv (if md = .isoh then 2 else 0)) args s else if args.all clean0 then some (args, s) else none) = some (vs, s2)) :
    (∀ x, x ∈ vs → D0 x) ∧ WF s2 ∧ Sm s s2 := by
  split at hc
  · obtain ⟨a1, a2⟩ := mapS_wf (fun x s y s1 F hx h => conv_wf F hx h) _ _ _ _ F ha hc
    exact ⟨a1, a2, (mapS_ge (k := True) (fun x s y s1 h => ⟨(conv_ge h).1, fun _ => (conv_ge h).2 (by split <;> simp)⟩) _ _ _ _ hc).2 trivial⟩
  · split at hc
    · rename_i hcl
      simp only [Option.some.injEq, Prod.mk.injEq] at hc; obtain ⟨rfl, rfl⟩ := hc
      exact ⟨fun x hx => clean0_d0 (ha x hx) (List.all_eq_true.1 hcl x hx), F, .refl _⟩
    · cases hc

theorem callA_kp {C : Orc} (hC : OrcW C) {md : Mode} {aa : Bool} {d : Nat} {f : FuncId} {args : List AV} {s s1 : St} {v : AV} (F : WF s) (ha : ∀ x, x ∈ args → WV x)
    (h : callA C s.ro md aa d f args s = some (v, s1)) : Kp s v s1 := by
  obtain ⟨vs, s2, r, h1, hc, hres⟩ := callA_split h
  obtain ⟨hv, F2, S2⟩ := args_wf F ha hc
  rcases hres with ⟨hr, hs, _, rfl, rfl⟩ | ⟨_, hr, hs, rfl, rfl⟩ | ⟨_, hr, he⟩ | ⟨_, hro, hr, he⟩
  · exact .pure F (scal_wv hs)
  · exact .pure F (scal_wv hs)
  · obtain ⟨o1, o2, o3, o4⟩ := hC _ _ _ _ _ _ hr hv F.h
    obtain ⟨a1, a2, a3⟩ := imp_wf (d := d) F2 o1
    have e1 : v = (imp d r s2).1 := congrArg Prod.fst he
    have e2 : s1 = (imp d r s2).2 := congrArg Prod.snd he
    subst e1; subst e2
    exact .sm a2 a1 (S2.trans a3)
  · obtain ⟨o1, o2, o3, o4⟩ := hC _ _ _ _ _ _ hr hv F.h
    obtain ⟨a1, a2, a3⟩ := imp_wf (d := d) (F2.setH o2) o1
    have e1 : v = (imp d r { s2 with h := h1 }).1 := congrArg Prod.fst he
    have e2 : s1 = (imp d r { s2 with h := h1 }).2 := congrArg Prod.snd he
    subst e1; subst e2
    exact .rw a2 a1 ⟨a3.ro.trans S2.ro, a3.t.trans S2.t, by rw [a3.h]; exact o3⟩ hro

section
variable {C : Orc} {d : Nat} {s : St} {v : AV} {s1 : St}

theorem step_kp (hC : OrcW C) {i : I} (F : WF s) (hok : okI i = true) (h : step C s.ro d s i = some (v, s1)) : Kp s v s1 := by
  have ex : ∀ x, x ∈ i.xs → WV (ev s.t x) := fun x hx => ev_wf F (okI_x hok hx)
  have exL : ∀ (l : List X), (∀ x, x ∈ l → x ∈ i.xs) → ∀ y, y ∈ evL s.t l → WV y := by
    intro l hl y hy
    obtain ⟨x, hx, rfl⟩ := List.mem_map.1 hy
    exact ex x (hl x hx)
  cases i with
  | mv x => simp only [step, Option.some.injEq, Prod.mk.injEq] at h; obtain ⟨rfl, rfl⟩ := h; exact .pure F (ex _ (by simp [I.xs]))
  | pick c a b =>
    simp only [step] at h
    split at h
    · simp only [Option.some.injEq, Prod.mk.injEq] at h; obtain ⟨rfl, rfl⟩ := h
      refine .pure F ?_
      split <;> exact ex _ (by simp [I.xs])
    · cases h
  | allocv zero =>
    simp only [step, Option.some.injEq, Prod.mk.injEq] at h; obtain ⟨rfl, rfl⟩ := h
    exact .sm (F.setV (fun cs hcs x hx => by simp at hcs; subst hcs; exact .dc (okI_z hok hx))) (.one (.one (.ptv ..))) ⟨rfl, rfl, rfl⟩
  | alloch zero =>
    simp only [step] at h
    split at h
    · cases h
    · rename_i hr
      simp only [Option.some.injEq, Prod.mk.injEq] at h; obtain ⟨rfl, rfl⟩ := h
      exact .rw (F.setH (F.h.app (WH.one (fun b' h => by cases h; intro cs hcs x hx; simp at hcs; subst hcs; exact okI_z hok hx) (fun es k h => by cases h)))) (wv_dc (.pt ..)) ⟨rfl, rfl, by simp⟩ (by simpa using hr)
  | boxv n x =>
    simp only [step] at h
    split at h
    · rename_i hc
      simp only [Option.some.injEq, Prod.mk.injEq] at h; obtain ⟨rfl, rfl⟩ := h
      exact .sm (F.setV (fun cs hcs y hy => by simp at hcs; subst hcs; exact cells_wf (ex x (by simp [I.xs])) hc.2 y hy)) (.one (.one (.ptv ..))) ⟨rfl, rfl, rfl⟩
    · cases h
  | boxh n keep x =>
    simp only [step] at h
    split at h
    · cases h
    · rename_i hr
      split at h
      · rename_i y s2 hc
        split at h
        · simp only [Option.some.injEq, Prod.mk.injEq] at h; obtain ⟨rfl, rfl⟩ := h
          obtain ⟨a1, a2⟩ := conv_wf F (ex x (by simp [I.xs])) hc
          have g := (conv_ge hc).1
          exact .rw (a2.setH (a2.h.app (WH.one (fun b' h => by cases h; intro cs hcs x hx; simp at hcs; subst hcs; exact a1.cells x hx) (fun es k h => by cases h)))) (wv_dc (.pt ..)) ⟨g.ro, g.t, by have := g.h; simp; omega⟩ (by simpa using hr)
        · cases h
      · cases h
  | build zero parts =>
    simp only [step] at h
    split at h
    · rename_i cs hf
      simp only [Option.some.injEq, Prod.mk.injEq] at h; obtain ⟨rfl, rfl⟩ := h
      refine .pure F (.one (.agg (fillA_wf _ _ _ (fun x hx => .dc (okI_z hok hx)) (fun p hp => ?_) hf)))
      obtain ⟨q, hq, rfl⟩ := List.mem_map.1 hp
      exact ex _ (List.mem_map.2 ⟨q, hq, rfl⟩)
    · cases h
  | bsl z zero n parts =>
    simp only [step] at h
    split at h
    · rename_i hcl
      split at h
      · rename_i els hf
        simp only [Option.some.injEq, Prod.mk.injEq] at h; obtain ⟨rfl, rfl⟩ := h
        refine .pure F (wv_dc (.sl ?_))
        intro cs hcs
        refine fillE_wf _ _ _ (fun cs hcs x hx => ?_) (fun p hp => ?_) hf cs (by simpa using hcs)
        · rw [List.mem_replicate] at hcs; obtain ⟨_, rfl⟩ := hcs; exact okI_z hok hx
        · obtain ⟨q, hq, rfl⟩ := List.mem_map.1 hp
          exact clean0_cells (ex _ (List.mem_map.2 ⟨q, hq, rfl⟩)) (List.all_eq_true.1 hcl q hq)
      · cases h
    · cases h
  | load w n a =>
    simp only [step] at h
    split at h
    · rename_i cs o hE
      have hw := wv_ip (hE ▸ ex a (by simp [I.xs]))
      simp only [Option.map_eq_some_iff, Prod.mk.injEq] at h; obtain ⟨y, hy, rfl, rfl⟩ := h
      exact .pure F (ldc_wf (fun x hx => .dc (hw x hx)) hy)
    · split at h
      · cases h
      · split at h
        · rename_i b hb
          split at h
          · rename_i cs hcs
            simp only [Option.map_eq_some_iff, Prod.mk.injEq] at h; obtain ⟨y, hy, rfl, rfl⟩ := h
            exact .pure F (ldc_wf (wb_w1 (getB_wf F hb) cs (List.mem_of_getElem? hcs)) hy)
          · cases h
        · cases h
    · cases h
  | store w n md a x =>
    simp only [step, Option.map_eq_some_iff, Prod.mk.injEq] at h; obtain ⟨s2, h2, rfl, rfl⟩ := h
    obtain ⟨g1, g2⟩ := storeA_ge h2
    refine ⟨.tup (fun x hx => by simp at hx), storeA_wf F (ex x (by simp [I.xs])) h2, g1, fun hr => (g2 hr).h⟩
  | nilc x =>
    have hx := ex x (by simp [I.xs])
    simp only [step] at h
    split at h
    · rename_i hE; simp only [Option.some.injEq, Prod.mk.injEq] at h; obtain ⟨rfl, rfl⟩ := h; exact .pure F (hE ▸ hx)
    · rename_i hE; simp only [Option.some.injEq, Prod.mk.injEq] at h; obtain ⟨rfl, rfl⟩ := h; exact .pure F (hE ▸ hx)
    · rename_i hE; simp only [Option.some.injEq, Prod.mk.injEq] at h; obtain ⟨rfl, rfl⟩ := h; exact .pure F (hE ▸ hx)
    · cases h
  | bin op x y =>
    simp only [step, Option.map_eq_some_iff, Prod.mk.injEq] at h; obtain ⟨y, hy, rfl, rfl⟩ := h
    exact .pure F (wv_dc (scal_dc (abin_scal hy)))
  | eqv neg ag ks x y =>
    simp only [step, Option.map_eq_some_iff, Prod.mk.injEq] at h; obtain ⟨y, hy, rfl, rfl⟩ := h
    exact .pure F (wv_dc (.bool _))
  | eqn neg fn x y =>
    simp only [step, Option.map_eq_some_iff, Prod.mk.injEq] at h; obtain ⟨y, hy, rfl, rfl⟩ := h
    exact .pure F (wv_dc (.bool _))
  | not x =>
    simp only [step] at h
    split at h
    · simp only [Option.some.injEq, Prod.mk.injEq] at h; obtain ⟨rfl, rfl⟩ := h; exact .pure F (wv_dc (.bool _))
    · cases h
  | convi k x =>
    simp only [step] at h
    split at h
    · simp only [Option.some.injEq, Prod.mk.injEq] at h; obtain ⟨rfl, rfl⟩ := h; exact .pure F wv_ints
    · cases h
  | s2b x =>
    simp only [step] at h
    split at h
    · split at h
      · simp only [Option.some.injEq] at h; cases h
        obtain ⟨a1, a2⟩ := newA_wf (d := d) (z := 1) (len := _) (ex := false) F (els := bytesA _) (fun cs hcs x hx => by
          unfold bytesA at hcs
          obtain ⟨q, hq, rfl⟩ := List.mem_map.1 hcs
          simp at hx; subst hx; exact .int ..)
        exact .sm a2 a1 ⟨rfl, rfl, rfl⟩
      · cases h
    · cases h
  | b2s w x =>
    simp only [step] at h
    split at h
    · split at h
      · simp only [Option.some.injEq, Prod.mk.injEq] at h; obtain ⟨rfl, rfl⟩ := h; exact .pure F (wv_dc (.str _))
      · cases h
    · cases h
  | mkfn f first caps =>
    simp only [step] at h
    split at h
    · rename_i fs s2 h1
      split at h
      · rename_i cs s3 h2
        simp only [Option.some.injEq, Prod.mk.injEq] at h; obtain ⟨rfl, rfl⟩ := h
        obtain ⟨a1, a2⟩ := mapS_wf (fun x s y s1 F hx h => capt_wf F hx h) _ _ _ _ F (exL first (fun x hx => by simp [I.xs, hx])) h1
        obtain ⟨b1, b2⟩ := mapS_wf (fun x s y s1 F hx h => capt_wf F hx h) _ _ _ _ a2 (exL caps (fun x hx => by simp [I.xs, hx])) h2
        have g1 := (mapS_ge (k := True) (fun x s y s1 h => ⟨(capt_sm h).ge, fun _ => capt_sm h⟩) _ _ _ _ h1).2 trivial
        have g2 := (mapS_ge (k := True) (fun x s y s1 h => ⟨(capt_sm h).ge, fun _ => capt_sm h⟩) _ _ _ _ h2).2 trivial
        exact .sm b2 (wv_dc (.fn a1 b1)) (g1.trans g2)
      · cases h
    · cases h
  | mkmap r =>
    simp only [step] at h
    split at h
    · cases h
    · rename_i hr
      have H : WH (s.h ++ [.map [] 0]) := F.h.app (WH.one (fun b' h => by cases h) (fun es k h e he => by cases h; simp at he))
      split at h
      · simp only [Option.some.injEq, Prod.mk.injEq] at h; obtain ⟨rfl, rfl⟩ := h
        exact .rw (F.setH H) (wv_dc (.map _)) ⟨rfl, rfl, by simp⟩ (by simpa using hr)
      · split at h
        · simp only [Option.some.injEq, Prod.mk.injEq] at h; obtain ⟨rfl, rfl⟩ := h
          exact .rw (F.setH H) (wv_dc (.map _)) ⟨rfl, rfl, by simp⟩ (by simpa using hr)
        · cases h
  | mksl z zero l c =>
    simp only [step] at h
    split at h
    · split at h
      · simp only [Option.some.injEq] at h; cases h
        obtain ⟨a1, a2⟩ := newA_wf (d := d) (z := z) (len := _) (ex := true) F (els := List.replicate _ zero) (fun cs hcs x hx => by
          rw [List.mem_replicate] at hcs; obtain ⟨_, rfl⟩ := hcs; exact okI_z hok hx)
        exact .sm a2 a1 ⟨rfl, rfl, rfl⟩
      · cases h
    · cases h
  | slice z x lo hi mx =>
    have hx := ex x (by simp [I.xs])
    simp only [step] at h
    split at h
    · rename_i z' els tl hE
      rw [hE] at hx
      have hw := wv_sl hx
      split at h
      · split at h
        · rename_i t
          split at h
          · simp only [Option.some.injEq, Prod.mk.injEq] at h; obtain ⟨rfl, rfl⟩ := h
            refine .pure F (wv_dc (.sl (fun cs hcs => hw cs ?_)))
            rcases List.mem_append.1 hcs with hcs | hcs
            · simpa using List.mem_of_mem_take (List.mem_of_mem_drop hcs)
            · simpa using List.mem_of_mem_take (List.mem_of_mem_drop hcs)
          · cases h
        · split at h
          · simp only [Option.some.injEq, Prod.mk.injEq] at h; obtain ⟨rfl, rfl⟩ := h
            refine .pure F (wv_dc (.sl (fun cs hcs => hw cs ?_)))
            rcases List.mem_append.1 hcs with hcs | hcs
            · simpa using List.mem_of_mem_take (List.mem_of_mem_drop hcs)
            · split at hcs
              · simpa using List.mem_of_mem_take (List.mem_of_mem_drop hcs)
              · simp at hcs
          · cases h
      · cases h
    · rename_i loc g z' off len cap hE
      rw [hE] at hx
      split at h
      · split at h
        · simp only [Option.some.injEq, Prod.mk.injEq] at h; obtain ⟨rfl, rfl⟩ := h
          refine .pure F ?_
          have hl := rs_loc hx
          cases loc with
          | v i => cases hl
          | a i => exact .one (.one (.rs ..))
          | h i => exact wv_dc (.rs ..)
        · cases h
      · cases h
    · cases h
  | slicestr x lo hi =>
    simp only [step] at h
    split at h
    · split at h
      · simp only [Option.some.injEq, Prod.mk.injEq] at h; obtain ⟨rfl, rfl⟩ := h; exact .pure F (wv_dc (.str _))
      · cases h
    · cases h
  | slicearr z n x lo hi =>
    simp only [step] at h
    split at h
    · rename_i i g e o hE
      split at h
      · rename_i b hb
        split at h
        · rename_i cs hcs
          split at h
          · rename_i hcond
            split at h
            · simp only [Option.some.injEq, Prod.mk.injEq] at h; obtain ⟨rfl, rfl⟩ := h
              have hB := getB_wf F hb
              refine .sm (setB_wf F hB) (wv_dc (.sl (fun c hc y hy => ?_))) (setB_sm rfl)
              simp only [Option.getD_none, List.append_nil, List.mem_map] at hc
              obtain ⟨q, hq, rfl⟩ := hc
              simp at hy; subst hy
              have hm := List.mem_of_mem_drop (List.mem_of_mem_take (List.mem_of_mem_drop hq))
              exact (wb_w1 hB cs (List.mem_of_getElem? hcs) _ hm).clean (List.all_eq_true.1 hcond.2.2 _ hm)
            · cases h
          · cases h
        · cases h
      · cases h
    · cases h
  | faddr x off =>
    have hx := ex x (by simp [I.xs])
    simp only [step] at h
    split at h
    · rename_i hE; rw [hE] at hx
      simp only [Option.some.injEq, Prod.mk.injEq] at h; obtain ⟨rfl, rfl⟩ := h; exact .pure F (wv_pt _ hx)
    · rename_i hE; rw [hE] at hx
      simp only [Option.some.injEq, Prod.mk.injEq] at h; obtain ⟨rfl, rfl⟩ := h; exact .pure F (wv_dc (.ip (wv_ip hx)))
    · cases h
  | fld x off n =>
    have hx := ex x (by simp [I.xs])
    simp only [step] at h
    split at h
    · rename_i hE; rw [hE] at hx
      simp only [Option.map_eq_some_iff, Prod.mk.injEq] at h; obtain ⟨y, hy, rfl, rfl⟩ := h
      exact .pure F (ldc_wf (wv_agg hx) hy)
    · cases h
  | iaddr z x i =>
    have hx := ex x (by simp [I.xs])
    simp only [step] at h
    split at h
    · split at h
      · rename_i hE; rw [hE] at hx
        split at h
        · split at h
          · rename_i cs hcs
            simp only [Option.some.injEq, Prod.mk.injEq] at h; obtain ⟨rfl, rfl⟩ := h
            exact .pure F (wv_dc (.ip (wv_sl hx cs (by simp [List.mem_of_getElem? hcs]))))
          · cases h
        · cases h
      · rename_i l g z' off len cap hE; rw [hE] at hx
        split at h
        · simp only [Option.some.injEq, Prod.mk.injEq] at h; obtain ⟨rfl, rfl⟩ := h
          have hl := rs_loc hx
          cases l with
          | v i => cases hl
          | a i => exact .pure F (.one (.one (.pta ..)))
          | h i => exact .pure F (wv_dc (.pt ..))
        · cases h
      · cases h
    · cases h
  | iaddra z n x i =>
    have hx := ex x (by simp [I.xs])
    simp only [step] at h
    split at h
    · split at h
      · split at h
        · rename_i hE; rw [hE] at hx
          simp only [Option.some.injEq, Prod.mk.injEq] at h; obtain ⟨rfl, rfl⟩ := h; exact .pure F (wv_pt _ hx)
        · rename_i hE; rw [hE] at hx
          simp only [Option.some.injEq, Prod.mk.injEq] at h; obtain ⟨rfl, rfl⟩ := h; exact .pure F (wv_dc (.ip (wv_ip hx)))
        · cases h
      · cases h
    · cases h
  | idx z n m x i =>
    have hx := ex x (by simp [I.xs])
    simp only [step] at h
    split at h
    · rename_i hE _; rw [hE] at hx
      split at h
      · simp only [Option.map_eq_some_iff, Prod.mk.injEq] at h; obtain ⟨y, hy, rfl, rfl⟩ := h
        exact .pure F (ldc_wf (wv_agg hx) hy)
      · cases h
    · cases h
  | idxs x i =>
    simp only [step] at h
    split at h
    · split at h
      · split at h
        · simp only [Option.some.injEq, Prod.mk.injEq] at h; obtain ⟨rfl, rfl⟩ := h; exact .pure F wv_ints
        · cases h
      · cases h
    · cases h
  | lookup ag ks zero m k ok =>
    have hz : D0 zero := zero_d0 (fun x hx => okI_z hok hx)
    have d2 : ∀ (x : AV) (b : Bool), D0 x → WV (.tup [x, .bool b]) := by
      intro x b hx
      refine .tup (fun y hy => ?_)
      simp at hy
      rcases hy with rfl | rfl
      · cases hx with
        | one h => exact .one (.dc h)
        | agg h => exact .agg (fun x hx => .dc (h x hx))
      · exact .one (.dc (.bool _))
    simp only [step] at h
    split at h
    · split at h
      · rename_i es c hr
        split at h
        · rename_i e hf
          simp only [Option.some.injEq, Prod.mk.injEq] at h; obtain ⟨rfl, rfl⟩ := h
          have he := (wh_map F hr e (findK_mem hf)).2
          refine .pure F ?_
          split
          · exact d2 _ _ he
          · exact he.wv
        · simp only [Option.some.injEq, Prod.mk.injEq] at h; obtain ⟨rfl, rfl⟩ := h
          refine .pure F ?_
          split
          · exact d2 _ _ hz
          · exact hz.wv
        · cases h
      · cases h
    · cases h
  | mupd ag ks keep m k x =>
    simp only [step] at h
    split at h
    · cases h
    · rename_i hr
      split at h
      · split at h
        · rename_i v2 s2 hc
          obtain ⟨a1, a2⟩ := conv_wf F (ex x (by simp [I.xs])) hc
          have g := (conv_ge hc).1
          split at h
          · rename_i es c hm
            split at h
            · rename_i hsc
              split at h
              · rename_i i e hf
                simp only [Option.some.injEq, Prod.mk.injEq] at h; obtain ⟨rfl, rfl⟩ := h
                refine .rw (a2.setM (fun e2 he2 => ?_)) (.tup (fun x hx => by simp at hx)) ⟨g.ro, g.t, by simpa using g.h⟩ (by simpa using hr)
                rcases List.mem_or_eq_of_mem_set he2 with he2 | rfl
                · exact wh_map a2 hm e2 he2
                · exact ⟨scal0_d0 hsc, a1⟩
              · simp only [Option.some.injEq, Prod.mk.injEq] at h; obtain ⟨rfl, rfl⟩ := h
                refine .rw (a2.setM (fun e2 he2 => ?_)) (.tup (fun x hx => by simp at hx)) ⟨g.ro, g.t, by simpa using g.h⟩ (by simpa using hr)
                rcases List.mem_append.1 he2 with he2 | he2
                · exact wh_map a2 hm e2 he2
                · simp at he2; subst he2; exact ⟨scal0_d0 hsc, a1⟩
              · cases h
            · cases h
          · cases h
        · cases h
      · cases h
  | ment ag ks zero m k =>
    have hz : D0 zero := zero_d0 (fun x hx => okI_z hok hx)
    have d2 : ∀ (x : AV) (n : Int), D0 x → WV (.tup [x, .int .i64 n]) := by
      intro x b hx
      refine .tup (fun y hy => ?_)
      simp at hy
      rcases hy with rfl | rfl
      · cases hx with
        | one h => exact .one (.dc h)
        | agg h => exact .agg (fun x hx => .dc (h x hx))
      · exact .one (.dc (.int ..))
    simp only [step] at h
    split at h
    · cases h
    · rename_i hr
      split at h
      · split at h
        · rename_i es c hm
          split at h
          · rename_i hsc
            split at h
            · rename_i e hf
              simp only [Option.some.injEq, Prod.mk.injEq] at h; obtain ⟨rfl, rfl⟩ := h
              exact .pure F (d2 _ _ (wh_map F hm e (findK_mem hf)).2)
            · simp only [Option.some.injEq, Prod.mk.injEq] at h; obtain ⟨rfl, rfl⟩ := h
              refine .rw (F.setM (fun e2 he2 => ?_)) (d2 _ _ hz) ⟨rfl, rfl, by simp⟩ (by simpa using hr)
              rcases List.mem_append.1 he2 with he2 | he2
              · exact wh_map F hm e2 he2
              · simp at he2; subst he2; exact ⟨scal0_d0 hsc, hz⟩
            · cases h
          · cases h
        · cases h
      · cases h
  | est keep m b x =>
    simp only [step] at h
    split at h
    · cases h
    · rename_i hr
      split at h
      · split at h
        · rename_i v2 s2 hc
          obtain ⟨a1, a2⟩ := conv_wf F (ex x (by simp [I.xs])) hc
          have g := (conv_ge hc).1
          split at h
          · rename_i es c hm
            split at h
            · rename_i i hi
              split at h
              · rename_i e he
                simp only [Option.some.injEq, Prod.mk.injEq] at h; obtain ⟨rfl, rfl⟩ := h
                refine .rw (a2.setM (fun e2 he2 => ?_)) (.tup (fun x hx => by simp at hx)) ⟨g.ro, g.t, by simpa using g.h⟩ (by simpa using hr)
                rcases List.mem_or_eq_of_mem_set he2 with he2 | rfl
                · exact wh_map a2 hm e2 he2
                · exact ⟨(wh_map a2 hm e (List.mem_of_getElem? he)).1, a1⟩
              · cases h
            · cases h
          · cases h
        · cases h
      · cases h
  | ext x i =>
    have hx := ex x (by simp [I.xs])
    simp only [step] at h
    split at h
    · rename_i vs hE; rw [hE] at hx
      simp only [Option.map_eq_some_iff, Prod.mk.injEq] at h; obtain ⟨y, hy, rfl, rfl⟩ := h
      refine .pure F ?_
      cases hx with
      | one h => cases h with
        | one h => cases h with
          | dc h => cases h
      | tup h => exact .one (h _ (List.mem_of_getElem? hy))
    · cases h
  | call md aa f args =>
    simp only [step] at h
    exact callA_kp hC F (exL args (fun x hx => hx)) h
  | callv md aa f args =>
    simp only [step] at h
    have hf := ex f (by simp [I.xs])
    split at h
    · rename_i g first caps hE
      rw [hE] at hf
      have := hf.dc rfl
      cases this with
      | fn ha hc =>
        refine callA_kp hC F (fun x hx => ?_) h
        rcases List.mem_append.1 hx with hx | hx
        · rcases List.mem_append.1 hx with hx | hx
          · exact wv_dc (ha x hx)
          · exact exL args (fun x hx => by simp [I.xs, hx]) x hx
        · exact wv_dc (hc x hx)
    · cases h
  | len x =>
    simp only [step] at h
    split at h
    · simp only [Option.some.injEq, Prod.mk.injEq] at h; obtain ⟨rfl, rfl⟩ := h; exact .pure F wv_ints
    · simp only [Option.some.injEq, Prod.mk.injEq] at h; obtain ⟨rfl, rfl⟩ := h; exact .pure F wv_ints
    · cases h
  | lens x =>
    simp only [step] at h
    split at h
    · simp only [Option.some.injEq, Prod.mk.injEq] at h; obtain ⟨rfl, rfl⟩ := h; exact .pure F wv_ints
    · cases h
  | lenm x =>
    simp only [step] at h
    split at h
    · split at h
      · simp only [Option.some.injEq, Prod.mk.injEq] at h; obtain ⟨rfl, rfl⟩ := h; exact .pure F wv_ints
      · cases h
    · cases h
  | lena n => simp only [step, Option.some.injEq, Prod.mk.injEq] at h; obtain ⟨rfl, rfl⟩ := h; exact .pure F wv_ints
  | cap x =>
    simp only [step] at h
    split at h
    · simp only [Option.some.injEq, Prod.mk.injEq] at h; obtain ⟨rfl, rfl⟩ := h; exact .pure F wv_ints
    · cases h
  | app hh z x y =>
    simp only [step] at h
    split at h
    · rename_i z' ys he
      split at h
      · obtain ⟨a1, a2⟩ := appA_wf F (ex x (by simp [I.xs])) (elsOf_wf F (ex y (by simp [I.xs])) he) h
        obtain ⟨g1, g2⟩ := appA_ge h
        exact ⟨a1, a2, g1, fun hr => (g2 hr).h⟩
      · cases h
    · cases h
  | apps x y =>
    simp only [step] at h
    split at h
    · obtain ⟨a1, a2⟩ := appA_wf F (ex x (by simp [I.xs])) (fun cs hcs x hx => by
        unfold bytesA at hcs
        obtain ⟨q, hq, rfl⟩ := List.mem_map.1 hcs
        simp at hx; subst hx; exact .int ..) h
      obtain ⟨g1, g2⟩ := appA_ge h
      exact ⟨a1, a2, g1, fun hr => (g2 hr).h⟩
    · cases h
  | appz z zero x n =>
    simp only [step] at h
    split at h
    · split at h
      · obtain ⟨a1, a2⟩ := appA_wf F (ex x (by simp [I.xs])) (fun cs hcs x hx => by
          rw [List.mem_replicate] at hcs; obtain ⟨_, rfl⟩ := hcs; exact okI_z hok hx) h
        obtain ⟨g1, g2⟩ := appA_ge h
        exact ⟨a1, a2, g1, fun hr => (g2 hr).h⟩
      · cases h
    · cases h
  | cpy hh z x y =>
    have hx := ex x (by simp [I.xs])
    simp only [step] at h
    split at h
    · rename_i z' ys he
      have hys : ∀ cs, cs ∈ ys → ∀ x, x ∈ cs → DC x := by
        unfold cpySrc at he
        split at he
        · simp only [Option.some.injEq, Prod.mk.injEq] at he; obtain ⟨rfl, rfl⟩ := he
          intro cs hcs x hx
          unfold bytesA at hcs
          obtain ⟨q, hq, rfl⟩ := List.mem_map.1 hcs
          simp at hx; subst hx; exact .int ..
        · exact elsOf_wf F (ex y (by simp [I.xs])) he
      split at h
      · rename_i l g z'' off len cap hE
        rw [hE] at hx
        have hl := rs_loc hx
        split at h
        · cases h
        · rename_i hnh
          split at h
          · rename_i b hb
            split at h
            · simp only [Option.some.injEq, Prod.mk.injEq] at h; obtain ⟨rfl, rfl⟩ := h
              have hB := wb_dc (getB_wf F hb) hl
              refine ⟨wv_ints, setB_wf F (wb_of hl (fun cs hcs => (mem_setEls hcs).elim (hB cs) (fun h => hys cs (List.mem_of_mem_take h)))), setB_ge, fun hr => ?_⟩
              have hH : isH l = false := by
                cases hv : isH l with
                | false => rfl
                | true => rw [hv, hr] at hnh; simp at hnh
              exact (setB_sm (b := setEls b off (ys.take (Nat.min ys.length len))) (s := s) hH).h
            · cases h
          · cases h
      · split at h
        · simp only [Option.some.injEq, Prod.mk.injEq] at h; obtain ⟨rfl, rfl⟩ := h; exact .pure F wv_ints
        · cases h
      · cases h
    · cases h
  | clr z zero x =>
    simp only [step] at h
    split at h
    · split at h
      · rename_i b hb
        split at h
        · simp only [Option.some.injEq, Prod.mk.injEq] at h; obtain ⟨rfl, rfl⟩ := h
          have hB := wb_dc (getB_wf F hb) rfl
          refine .sm (setB_wf F (wb_of rfl (fun cs hcs => (mem_setEls hcs).elim (hB cs) (fun h => ?_)))) (.tup (fun x hx => by simp at hx)) (setB_sm rfl)
          rw [List.mem_replicate] at h; obtain ⟨_, rfl⟩ := h; exact fun x hx => okI_z hok hx
        · cases h
      · cases h
    · simp only [Option.some.injEq, Prod.mk.injEq] at h; obtain ⟨rfl, rfl⟩ := h; exact .pure F (.tup (fun x hx => by simp at hx))
    · cases h
  | del ag ks m k =>
    simp only [step] at h
    split at h
    · cases h
    · rename_i hr
      split at h
      · split at h
        · rename_i es c hm
          split at h
          · simp only [Option.some.injEq, Prod.mk.injEq] at h; obtain ⟨rfl, rfl⟩ := h
            exact .rw (F.setM (fun e2 he2 => wh_map F hm e2 (List.mem_of_mem_eraseIdx he2))) (.tup (fun x hx => by simp at hx)) ⟨rfl, rfl, by simp⟩ (by simpa using hr)
          · simp only [Option.some.injEq, Prod.mk.injEq] at h; obtain ⟨rfl, rfl⟩ := h; exact .pure F (.tup (fun x hx => by simp at hx))
          · cases h
        · cases h
      · cases h
  | max xs =>
    simp only [step, Option.map_eq_some_iff, Prod.mk.injEq] at h; obtain ⟨y, hy, rfl, rfl⟩ := h
    refine .pure F (wv_dc ?_)
    unfold maxA at hy
    split at hy
    · exact foldI_int _ _ _ hy
    · cases hy
  | min xs =>
    simp only [step, Option.map_eq_some_iff, Prod.mk.injEq] at h; obtain ⟨y, hy, rfl, rfl⟩ := h
    refine .pure F (wv_dc ?_)
    unfold minA at hy
    split at hy
    · exact foldI_int _ _ _ hy
    · cases hy
  | bad => simp only [step] at h; cases h
end

end Go.Proofs.Bb
