/- What an instruction looks at, and what it turns: every instruction. -/
import Derived.Test.YtimlkngjkiknfaaGreatBbLocB
set_option linter.unusedSimpArgs false
set_option linter.unusedVariables false
namespace Go.Proofs.Bb
open Go

theorem mix_a {F : Ft} {s1 s' : St} (h1 : F.wv = .no) (h2 : F.wa = true) (h3 : F.wh = false) : mix F s1 s' = { s' with a := s1.a } := by simp [mix, h1, h2, h3, Sl.has]
theorem mix_h {F : Ft} {s1 s' : St} (h1 : F.wv = .no) (h2 : F.wa = false) (h3 : F.wh = true) : mix F s1 s' = { s' with h := s1.h } := by simp [mix, h1, h2, h3, Sl.has]
theorem mix_ah {F : Ft} {s1 s' : St} (h1 : F.wv = .no) (h2 : F.wa = true) (h3 : F.wh = true) : mix F s1 s' = { s' with a := s1.a, h := s1.h } := by simp [mix, h1, h2, h3, Sl.has]
theorem mix_v {F : Ft} {s1 s' : St} (h1 : F.wv = .all) (h2 : F.wa = false) (h3 : F.wh = false) : mix F s1 s' = { s' with v := s1.v } := by simp [mix, h1, h2, h3, Sl.has]
theorem mix_v1 {F : Ft} {s1 s' : St} {n : Nat} (h1 : F.wv = .one n) (h2 : F.wa = false) (h3 : F.wh = false) : mix F s1 s' = { s' with v := upd s'.v n (s1.v n) } := by
  have e : (fun k => if F.wv.has k = true then s1.v k else s'.v k) = upd s'.v n (s1.v n) := by
    funext k
    simp only [h1, Sl.has, upd]
    by_cases e : k = n
    · subst e; simp
    · simp [e, Ne.symm e]
  simp only [mix, h2, h3, e]
  rfl

section
variable {C : Orc} {d : Nat} {s s' : St} {v : AV} {s1 : St}

theorem callA_loc {md : Mode} {aa : Bool} {f : FuncId} {args : List AV} (hA : aa = true → s.a = s'.a) (hH : s.h = s'.h) (hro : s.ro = s'.ro) (h : callA C s.ro md aa d f args s = some (v, s1)) :
    callA C s'.ro md aa d f args s' = some (v, mix (mdFt aa md) s1 s') := by
  have key : ∀ vs s2, (if aa then mapS (conv (if md = .isoh then 2 else 0)) args s else if args.all clean0 then some (args, s) else none) = some (vs, s2) →
      ∃ s2', (if aa then mapS (conv (if md = .isoh then 2 else 0)) args s' else if args.all clean0 then some (args, s') else none) = some (vs, s2') ∧ s2.h = s.h ∧ s2'.h = s'.h ∧ s2'.t = s'.t ∧ s2'.v = s'.v ∧ s2'.ro = s'.ro ∧ s2'.a = (if aa then s2.a else s'.a) ∧ (aa = false → s2 = s ∧ s2' = s') := by
    intro vs s2 hc
    cases aa with
    | true =>
      simp only [if_true] at hc ⊢
      obtain ⟨a1, a2, a3, a4, a5⟩ := mapS_loc (f := conv (if md = .isoh then 2 else 0)) (k := if md = .isoh then 2 else 0) (fun x y s s' s1 ha hh h => conv_loc ha hh h) _ _ _ _ _ (hA rfl) (.inr hH) hc
      have hk : (if md = Mode.isoh then 2 else 0) ≠ 1 := by split <;> simp
      exact ⟨_, a1, a3 hk, by simp only [if_neg hk], rfl, rfl, rfl, rfl, fun h => by cases h⟩
    | false =>
      simp only [Bool.false_eq_true, if_false] at hc ⊢
      split at hc
      · rename_i hcl
        simp only [Option.some.injEq, Prod.mk.injEq] at hc; obtain ⟨rfl, rfl⟩ := hc
        exact ⟨s', by rw [if_pos hcl], rfl, rfl, rfl, rfl, rfl, rfl, fun _ => ⟨rfl, rfl⟩⟩
      · cases hc
  unfold callA at h ⊢
  split at h
  · cases h
  · rename_i vs s2 hc
    obtain ⟨s2', k1, k2, k3, k4, k5, k6, k7, k8⟩ := key vs s2 hc
    rw [k1]
    try simp only []
    have mxA : ∀ (m : Mode) (x : St), m ≠ .rw → x.a = s2.a → mix (mdFt aa m) x s' = s2' := by
      intro m x hm hx
      obtain ⟨t2, v2, a2, h2, r2⟩ := s2'
      simp only at k3 k4 k5 k6 k7
      subst k3; subst k4; subst k5; subst k6; subst k7
      cases aa <;> cases m <;> simp_all [mix, mdFt, Sl.has]
    have mxR : ∀ (m : Mode) (x : St), m ≠ .rw → (aa = true → x.a = s.a) → mix (mdFt aa m) x s' = s' := by
      intro m x hm hx
      cases aa with
      | false => cases m <;> first | exact absurd rfl hm | rfl
      | true =>
        have := (hx rfl).trans (hA rfl)
        cases m <;> simp_all [mix, mdFt, Sl.has]
    split at h
    · rw [← hH]
      split at h
      · split at h
        · rename_i hcond
          rw [if_pos hcond]
          simp only [Option.some.injEq, Prod.mk.injEq] at h; obtain ⟨rfl, rfl⟩ := h
          rw [mxR _ _ (by simp) (fun _ => rfl)]
        · cases h
      · cases h
    · rw [← hH]
      split at h
      · split at h
        · rename_i hcond
          rw [if_pos hcond]
          simp only [Option.some.injEq, Prod.mk.injEq] at h; obtain ⟨rfl, rfl⟩ := h
          rw [mxR _ _ (by simp) (fun _ => rfl)]
        · cases h
      · cases h
    · rw [← hH]
      split at h
      · split at h
        · rename_i hcond
          rw [if_pos hcond]
          simp only [Option.some.injEq, Prod.mk.injEq] at h; obtain ⟨rfl, rfl⟩ := h
          rw [mxR _ _ (by simp) (fun _ => rfl)]
        · rename_i hns
          rw [if_neg hns]
          split at h
          · rename_i ha
            rw [if_pos ha]
            rw [ha] at k7
            simp only [if_true] at k7
            simp only [Option.some.injEq] at h
            obtain ⟨b1, b2, b3, b4⟩ := imp_loc (d := d) (x := _) (s := s2) (s' := s2') k7.symm
            have e1 := congrArg Prod.fst h
            have e2 := congrArg Prod.snd h
            simp only at e1 e2
            rw [← e1, ← e2]
            refine congrArg some (Prod.ext b1 ?_)
            rw [b2]
            obtain ⟨t2, v2, a2, h2, r2⟩ := s2'
            simp only at k3 k4 k5 k6
            subst k3; subst k4; subst k5; subst k6
            simp [mix, mdFt, Sl.has, ha]
          · rename_i ha
            rw [if_neg ha]
            split at h
            · rename_i hcl
              rw [if_pos hcl]
              simp only [Option.some.injEq, Prod.mk.injEq] at h; obtain ⟨rfl, rfl⟩ := h
              rw [mxR _ _ (by simp) (fun _ => rfl)]
            · cases h
      · cases h
    · split at h
      · cases h
      · rename_i hr
        rw [← hro, if_neg hr, ← hH]
        split at h
        · split at h
          · rename_i hcond
            rw [if_pos hcond]
            simp only [Option.some.injEq, Prod.mk.injEq] at h; obtain ⟨rfl, rfl⟩ := h
            obtain ⟨t2, v2, a2, h2, r2⟩ := s2'
            simp only at k3 k4 k5 k6 k7
            subst k3; subst k4; subst k5; subst k6; subst k7
            cases aa <;> simp [mix, mdFt, Sl.has]
          · rename_i hns
            rw [if_neg hns]
            split at h
            · rename_i ha
              rw [if_pos ha]
              rw [ha] at k7
              simp only [if_true] at k7
              simp only [Option.some.injEq] at h
              rename_i r h1 _
              obtain ⟨b1, b2, b3, b4⟩ := imp_loc (d := d) (x := r) (s := { s2 with h := h1 }) (s' := { s2' with h := h1 }) k7.symm
              have e1 := congrArg Prod.fst h
              have e2 := congrArg Prod.snd h
              simp only at e1 e2
              rw [← e1, ← e2]
              refine congrArg some (Prod.ext b1 ?_)
              rw [b2]
              obtain ⟨t2, v2, a2, h2, r2⟩ := s2'
              simp only at k3 k4 k5 k6
              subst k3; subst k4; subst k5; subst k6
              simp [mix, mdFt, Sl.has, ha, b4]
            · rename_i ha
              rw [if_neg ha]
              split at h
              · rename_i hcl
                rw [if_pos hcl]
                simp only [Option.some.injEq, Prod.mk.injEq] at h; obtain ⟨rfl, rfl⟩ := h
                have ha' : aa = false := by simpa using ha
                simp [mix, mdFt, Sl.has, ha', hro]
              · cases h
        · cases h

theorem storeA_loc {wd n md : Nat} {x y : AV} {ro : Bool} (hag : Agree (ft d (.store wd n md (.c x) (.c y))) s s') (h : storeA wd n md x y s ro = some s1) : storeA wd n md x y s' ro = some (mix (ft d (.store wd n md (.c x) (.c y))) s1 s') := by
  unfold storeA at h ⊢
  split at h
  · rename_i l g i o
    split at h
    · cases h
    · rename_i hloc
      rw [if_neg hloc]
      cases l with
      | v k =>
        have hwd : wd ≠ 1 ∧ wd ≠ 2 ∧ (wd = 0 ∨ wd = k + 3) := by
          simp [locW] at hloc; omega
        obtain ⟨w1, w2, w3⟩ := hwd
        have hv : s.v k = s'.v k := hag.v k (by
          simp only [ft, if_neg w1, if_neg w2, Ft.tv, vSl]
          rcases w3 with rfl | rfl
          · simp [Sl.has]
          · simp [Sl.has])
        simp only [isH, Bool.false_eq_true, if_false] at h ⊢
        split at h
        · cases h
        · rename_i v2 s2 hc
          split at hc
          · rename_i hcl
            simp only [Option.some.injEq, Prod.mk.injEq] at hc; obtain ⟨rfl, rfl⟩ := hc
            rw [if_pos hcl]
            simp only [getB_v hv]
            split at h
            · split at h
              · cases h
              · rename_i hf
                split at h
                · rename_i cs hcs
                  split at h
                  · rename_i hcond
                    simp only [Option.some.injEq] at h; subst h
                    simp only [if_neg hf, if_pos hcond, Option.some.injEq, St.setB]
                    rcases w3 with rfl | rfl
                    · have hvv : s.v = s'.v := funext (fun n => hag.v n (by simp [ft, Ft.tv, vSl, Sl.has]))
                      rw [mix_v (by simp [ft, vSl]) (by simp [ft]) (by simp [ft])]
                      simp [hvv]
                    · rw [mix_v1 (n := k) (by simp [ft, vSl]) (by simp [ft]) (by simp [ft])]
                      simp [upd_eq, hv]
                  · cases h
                · cases h
            · cases h
          · cases hc
      | a k =>
        have hwd : wd = 1 := by simpa [locW] using hloc
        subst hwd
        have ha : s.a = s'.a := hag.a (by simp [ft, Ft.ta])
        simp only [isH, isV, Bool.false_eq_true, if_false, Bool.false_or] at h ⊢
        split at h
        · cases h
        · rename_i v2 s2 hc
          split at hc
          · rename_i hcl
            simp only [Option.some.injEq, Prod.mk.injEq] at hc; obtain ⟨rfl, rfl⟩ := hc
            rw [if_pos hcl]
            simp only [getB_a ha]
            split at h
            · split at h
              · cases h
              · rename_i hf
                split at h
                · rename_i cs hcs
                  split at h
                  · rename_i hcond
                    simp only [Option.some.injEq] at h; subst h
                    simp only [if_neg hf, if_pos hcond, Option.some.injEq, St.setB]
                    rw [mix_a (by simp [ft]) (by simp [ft]) (by simp [ft])]
                    simp [ha]
                  · cases h
                · cases h
            · cases h
          · cases hc
      | h k =>
        have hwd : wd = 2 := by simpa [locW] using hloc
        subst hwd
        have ha : s.a = s'.a := hag.a (by simp [ft, Ft.ta])
        have hh : s.h = s'.h := hag.h (by simp [ft, Ft.th])
        simp only [isH, if_true] at h ⊢
        split at h
        · cases h
        · rename_i v2 s2 hc
          split at hc
          · cases hc
          · rename_i hr
            rw [if_neg hr]
            obtain ⟨c1, c2, c3, c4, c5⟩ := conv_loc (s' := s') ha (.inr hh) hc
            rw [c1]
            have hh2 : s2.h = (if md = 1 then s2.h else s'.h) := by
              by_cases hm : md = 1
              · rw [if_pos hm]
              · rw [if_neg hm, c3 hm, hh]
            simp only [getB_h (s := s2) (s' := { s' with a := s2.a, h := if md = 1 then s2.h else s'.h }) hh2]
            split at h
            · split at h
              · cases h
              · rename_i hf
                split at h
                · rename_i cs hcs
                  split at h
                  · rename_i hcond
                    simp only [Option.some.injEq] at h; subst h
                    simp only [if_neg hf, if_pos hcond, Option.some.injEq, St.setB]
                    rw [mix_ah (by simp [ft]) (by simp [ft]) (by simp [ft])]
                    simp [← hh2]
                  · cases h
                · cases h
            · cases h
  · cases h

theorem step_local {i : I} (F : WF s) (hok : okI i = true) (hag : Agree (ft d i) s s') (hx : ∀ x, x ∈ i.xs → ev s'.t x = ev s.t x) (h : step C s.ro d s i = some (v, s1)) :
    step C s'.ro d s' i = some (v, mix (ft d i) s1 s') := by
  have ex : ∀ x, x ∈ i.xs → WV (ev s.t x) := fun x hx => ev_wf F (okI_x hok hx)
  have pl : ft d i = {} → step C s'.ro d s' i = some (v, s') → step C s'.ro d s' i = some (v, mix (ft d i) s1 s') := by
    intro h1 h2
    rw [h1, mix_no]; exact h2
  cases i with
  | mv x => exact pl rfl (pure_local rfl hx trivial h).1
  | pick c x y => exact pl rfl (pure_local rfl hx trivial h).1
  | nilc x => exact pl rfl (pure_local rfl hx trivial h).1
  | bin op x y => exact pl rfl (pure_local rfl hx trivial h).1
  | eqv neg ag ks x y => exact pl rfl (pure_local rfl hx trivial h).1
  | eqn neg fn x y => exact pl rfl (pure_local rfl hx trivial h).1
  | not x => exact pl rfl (pure_local rfl hx trivial h).1
  | convi k x => exact pl rfl (pure_local rfl hx trivial h).1
  | build zero parts => exact pl rfl (pure_local rfl hx trivial h).1
  | bsl z zero n parts => exact pl rfl (pure_local rfl hx trivial h).1
  | slice z x lo hi mx => exact pl rfl (pure_local rfl hx trivial h).1
  | slicestr x lo hi => exact pl rfl (pure_local rfl hx trivial h).1
  | faddr x off => exact pl rfl (pure_local rfl hx trivial h).1
  | fld x off n => exact pl rfl (pure_local rfl hx trivial h).1
  | iaddr z x i => exact pl rfl (pure_local rfl hx trivial h).1
  | iaddra z n x i => exact pl rfl (pure_local rfl hx trivial h).1
  | idx z n m x i => exact pl rfl (pure_local rfl hx trivial h).1
  | idxs x i => exact pl rfl (pure_local rfl hx trivial h).1
  | ext x i => exact pl rfl (pure_local rfl hx trivial h).1
  | len x => exact pl rfl (pure_local rfl hx trivial h).1
  | lens x => exact pl rfl (pure_local rfl hx trivial h).1
  | lena n => exact pl rfl (pure_local rfl hx trivial h).1
  | cap x => exact pl rfl (pure_local rfl hx trivial h).1
  | max xs => exact pl rfl (pure_local rfl hx trivial h).1
  | min xs => exact pl rfl (pure_local rfl hx trivial h).1
  | bad => cases h
  | allocv zero =>
    have hv := hag.v d (by simp [ft, Ft.tv, Sl.has])
    simp only [step, Option.some.injEq, Prod.mk.injEq] at h ⊢; obtain ⟨rfl, rfl⟩ := h
    rw [mix_v1 (n := d) rfl rfl rfl]
    simp [upd_eq, hv]
  | boxv n x =>
    have hv := hag.v d (by simp [ft, Ft.tv, Sl.has])
    simp only [step, hx x (by simp [I.xs])] at h ⊢
    split at h
    · rename_i hc
      simp only [Option.some.injEq, Prod.mk.injEq] at h; obtain ⟨rfl, rfl⟩ := h
      rw [if_pos hc, mix_v1 (n := d) rfl rfl rfl]
      simp [upd_eq, hv]
    · cases h
  | alloch zero =>
    have hh := hag.h (by simp [ft, Ft.th])
    simp only [step] at h ⊢
    rw [← hag.ro]
    split at h
    · cases h
    · rename_i hr
      rw [if_neg hr]
      simp only [Option.some.injEq, Prod.mk.injEq] at h; obtain ⟨rfl, rfl⟩ := h
      rw [mix_h rfl rfl rfl]
      simp [hh, hag.ro]
  | boxh n keep x =>
    have hh := hag.h (by simp [ft, Ft.th])
    have ha := hag.a (by simp [ft, Ft.ta])
    simp only [step, hx x (by simp [I.xs])] at h ⊢
    rw [← hag.ro]
    split at h
    · cases h
    · rename_i hr
      rw [if_neg hr]
      split at h
      · rename_i y s2 hc
        obtain ⟨c1, c2, c3, c4, c5⟩ := conv_loc (s' := s') ha (.inr hh) hc
        have hh2 : (if (if keep = true then 1 else 0) = 1 then s2.h else s'.h) = s2.h := by
          cases keep with
          | true => rfl
          | false => rw [c3 (by simp), hh]; rfl
        simp only [c1, hh2]
        split at h
        · rename_i hcond
          rw [if_pos hcond]
          simp only [Option.some.injEq, Prod.mk.injEq] at h; obtain ⟨rfl, rfl⟩ := h
          rw [mix_ah rfl rfl rfl]
        · cases h
      · cases h
  | load w n x =>
    have hxx := hx x (by simp [I.xs])
    have hm : mix (ft d (.load w n x)) s1 s' = s' := by
      refine mix_r _ _ ?_ ?_ ?_ <;> (simp only [ft]; split <;> (try split) <;> rfl)
    rw [hm]
    simp only [step, hxx] at h ⊢
    split at h
    · simp only [Option.map_eq_some_iff, Prod.mk.injEq] at h; obtain ⟨u, hu, rfl, rfl⟩ := h
      rw [hu]; rfl
    · rename_i l g i o _
      split at h
      · cases h
      · rename_i hloc
        rw [if_neg hloc]
        have hg : s'.getB l g = s.getB l g := by
          cases l with
          | v k =>
            have hwd : w ≠ 1 ∧ w ≠ 2 ∧ (w = 0 ∨ w = k + 3) := by simp [locW] at hloc; omega
            obtain ⟨w1, w2, w3⟩ := hwd
            refine getB_v (hag.v k ?_) g
            simp only [ft, if_neg w1, if_neg w2, Ft.tv, vSl]
            rcases w3 with rfl | rfl <;> simp [Sl.has]
          | a k =>
            have hwd : w = 1 := by simpa [locW] using hloc
            subst hwd
            exact getB_a (hag.a (by simp [ft, Ft.ta])) k g
          | h k =>
            have hwd : w = 2 := by simpa [locW] using hloc
            subst hwd
            exact getB_h (hag.h (by simp [ft, Ft.th])) k g
        rw [hg]
        split at h
        · split at h
          · simp only [Option.map_eq_some_iff, Prod.mk.injEq] at h; obtain ⟨u, hu, rfl, rfl⟩ := h
            rw [hu]; rfl
          · cases h
        · cases h
    · cases h
  | store w n md x y =>
    simp only [step, hx x (by simp [I.xs]), hx y (by simp [I.xs])] at h ⊢
    rw [← hag.ro]
    simp only [Option.map_eq_some_iff, Prod.mk.injEq] at h; obtain ⟨s2, h2, rfl, rfl⟩ := h
    rw [storeA_loc (d := d) (s' := s') (hag : Agree (ft d (.store w n md (.c (ev s.t x)) (.c (ev s.t y)))) s s') h2]
    rfl
  | s2b x =>
    have ha := hag.a (by simp [ft, Ft.ta])
    simp only [step, hx x (by simp [I.xs])] at h ⊢
    split at h
    · split at h
      · rename_i hc
        rw [if_pos hc]
        simp only [Option.some.injEq] at h; cases h
        rw [mix_a rfl rfl rfl]
        simp [newA, ha]
      · cases h
    · cases h
  | b2s w x =>
    have hm : mix (ft d (.b2s w x)) s1 s' = s' := by
      refine mix_r _ _ ?_ ?_ ?_ <;> (simp only [ft]; split <;> (try split) <;> rfl)
    rw [hm]
    simp only [step, hx x (by simp [I.xs])] at h ⊢
    split at h
    · rename_i z els hsrc
      have hs' : srcOf w s' (ev s.t x) = some (z, els) := by
        have hxw := ex x (by simp [I.xs])
        generalize ev s.t x = q at hsrc hxw
        cases q <;> simp only [srcOf] at hsrc ⊢ <;> try exact hsrc
        all_goals
          split at hsrc
          · cases hsrc
          · rename_i hw
            rw [if_neg hw]
            refine elsOf_loc hxw (hag.a ?_) (fun h1 => hag.h ?_) hsrc
            · simp only [ft, if_neg hw, Ft.ta]; split <;> rfl
            · have : w = 1 := by simpa using h1
              subst this; rfl
      rw [hs']
      simp only []
      split at h
      · simp only [Option.some.injEq, Prod.mk.injEq] at h; obtain ⟨rfl, rfl⟩ := h; rfl
      · cases h
    · cases h
  | mkfn f first caps =>
    have e1 : evL s'.t first = evL s.t first := List.map_congr_left (fun x h => hx x (by simp [I.xs, h]))
    have e2 : evL s'.t caps = evL s.t caps := List.map_congr_left (fun x h => hx x (by simp [I.xs, h]))
    simp only [step, e1, e2] at h ⊢
    by_cases hem : (first.isEmpty && caps.isEmpty) = true
    · simp only [Bool.and_eq_true, List.isEmpty_iff] at hem
      obtain ⟨rfl, rfl⟩ := hem
      simp only [evL, List.map_nil, mapS] at h ⊢
      simp only [Option.some.injEq, Prod.mk.injEq] at h; obtain ⟨rfl, rfl⟩ := h
      rfl
    · have hF : ft d (.mkfn f first caps) = { wv := .all } := by simp only [ft, if_neg hem]
      have hv : s.v = s'.v := funext (fun n => hag.v n (by rw [hF]; rfl))
      rw [hF]
      split at h
      · rename_i fs s2 h1
        split at h
        · rename_i cs s3 h2
          simp only [Option.some.injEq, Prod.mk.injEq] at h; obtain ⟨rfl, rfl⟩ := h
          obtain ⟨a1, a2⟩ := mapC_loc _ _ _ s' _ hv h1
          obtain ⟨b1, b2⟩ := mapC_loc _ _ s2 { s' with v := s2.v } _ rfl h2
          rw [a1]
          simp only [b1]
          rw [mix_v rfl rfl rfl]
        · cases h
      · cases h
  | mkmap r =>
    have hh := hag.h (by simp [ft, Ft.th])
    cases r with
    | none =>
      simp only [step] at h ⊢
      rw [← hag.ro]
      split at h
      · cases h
      · rename_i hr
        rw [if_neg hr]
        simp only [Option.some.injEq, Prod.mk.injEq] at h; obtain ⟨rfl, rfl⟩ := h
        rw [mix_h rfl rfl rfl]
        simp [hh, hag.ro]
    | some x =>
      simp only [step, hx x (by simp [I.xs])] at h ⊢
      rw [← hag.ro]
      split at h
      · cases h
      · rename_i hr
        rw [if_neg hr]
        split at h
        · simp only [Option.some.injEq, Prod.mk.injEq] at h; obtain ⟨rfl, rfl⟩ := h
          rw [mix_h rfl rfl rfl]
          simp [hh, hag.ro]
        · cases h
  | mksl z zero l c =>
    have ha := hag.a (by simp [ft, Ft.ta])
    simp only [step, hx l (by simp [I.xs]), hx c (by simp [I.xs])] at h ⊢
    split at h
    · split at h
      · rename_i hc
        rw [if_pos hc]
        simp only [Option.some.injEq] at h; cases h
        rw [mix_a rfl rfl rfl]
        simp [newA, ha]
      · cases h
    · cases h
  | slicearr z n x lo hi =>
    have hv : s.v = s'.v := funext (fun n => hag.v n rfl)
    have e1 : evO s'.t lo = evO s.t lo := by
      cases lo with
      | none => rfl
      | some y => exact congrArg some (hx y (by simp [I.xs]))
    have e2 : evO s'.t hi = evO s.t hi := by
      cases hi with
      | none => rfl
      | some y => exact congrArg some (hx y (by simp [I.xs]))
    simp only [step, hx x (by simp [I.xs]), e1, e2] at h ⊢
    split at h
    · rename_i i g e o _
      simp only [getB_v (congrFun hv i)]
      split at h
      · split at h
        · split at h
          · rename_i hc
            rw [if_pos hc]
            split at h
            · simp only [Option.some.injEq, Prod.mk.injEq] at h; obtain ⟨rfl, rfl⟩ := h
              rw [mix_v rfl rfl rfl]
              simp [St.setB, hv]
            · cases h
          · cases h
        · cases h
      · cases h
    · cases h
  | lookup ag ks zero m k ok =>
    have hh := hag.h (by simp [ft, Ft.th])
    rw [mix_r _ _ rfl rfl rfl]
    simp only [step, hx m (by simp [I.xs]), hx k (by simp [I.xs]), ← hh] at h ⊢
    split at h
    · split at h
      · split at h
        · simp only [Option.some.injEq, Prod.mk.injEq] at h; obtain ⟨rfl, rfl⟩ := h; rfl
        · simp only [Option.some.injEq, Prod.mk.injEq] at h; obtain ⟨rfl, rfl⟩ := h; rfl
        · cases h
      · cases h
    · cases h
  | lenm x =>
    have hh := hag.h (by simp [ft, Ft.th])
    rw [mix_r _ _ rfl rfl rfl]
    simp only [step, hx x (by simp [I.xs]), ← hh] at h ⊢
    split at h
    · split at h
      · simp only [Option.some.injEq, Prod.mk.injEq] at h; obtain ⟨rfl, rfl⟩ := h; rfl
      · cases h
    · cases h
  | mupd ag ks keep m k x =>
    have hh := hag.h (by simp [ft, Ft.th])
    have ha := hag.a (by simp [ft, Ft.ta])
    simp only [step, hx m (by simp [I.xs]), hx k (by simp [I.xs]), hx x (by simp [I.xs])] at h ⊢
    rw [← hag.ro]
    split at h
    · cases h
    · rename_i hr
      rw [if_neg hr]
      split at h
      · split at h
        · rename_i y s2 hc
          obtain ⟨c1, c2, c3, c4, c5⟩ := conv_loc (s' := s') ha (.inr hh) hc
          have hh2 : (if (if keep = true then 1 else 0) = 1 then s2.h else s'.h) = s2.h := by
            cases keep with
            | true => rfl
            | false => rw [c3 (by simp), hh]; rfl
          simp only [c1, hh2]
          split at h
          · split at h
            · rename_i hsc
              rw [if_pos hsc]
              split at h
              · simp only [Option.some.injEq, Prod.mk.injEq] at h; obtain ⟨rfl, rfl⟩ := h
                rw [mix_ah rfl rfl rfl]
              · simp only [Option.some.injEq, Prod.mk.injEq] at h; obtain ⟨rfl, rfl⟩ := h
                rw [mix_ah rfl rfl rfl]
              · cases h
            · cases h
          · cases h
        · cases h
      · cases h
  | ment ag ks zero m k =>
    have hh := hag.h (by simp [ft, Ft.th])
    simp only [step, hx m (by simp [I.xs]), hx k (by simp [I.xs]), ← hh] at h ⊢
    rw [← hag.ro]
    split at h
    · cases h
    · rename_i hr
      rw [if_neg hr]
      split at h
      · split at h
        · split at h
          · rename_i hsc
            rw [if_pos hsc]
            split at h
            · simp only [Option.some.injEq, Prod.mk.injEq] at h; obtain ⟨rfl, rfl⟩ := h
              rw [mix_h rfl rfl rfl]
              simp [hh]
            · simp only [Option.some.injEq, Prod.mk.injEq] at h; obtain ⟨rfl, rfl⟩ := h
              rw [mix_h rfl rfl rfl]
              simp [hag.ro]
            · cases h
          · cases h
        · cases h
      · cases h
  | est keep m b x =>
    have hh := hag.h (by simp [ft, Ft.th])
    have ha := hag.a (by simp [ft, Ft.ta])
    simp only [step, hx m (by simp [I.xs]), hx b (by simp [I.xs]), hx x (by simp [I.xs])] at h ⊢
    rw [← hag.ro]
    split at h
    · cases h
    · rename_i hr
      rw [if_neg hr]
      split at h
      · split at h
        · rename_i y s2 hc
          obtain ⟨c1, c2, c3, c4, c5⟩ := conv_loc (s' := s') ha (.inr hh) hc
          have hh2 : (if (if keep = true then 1 else 0) = 1 then s2.h else s'.h) = s2.h := by
            cases keep with
            | true => rfl
            | false => rw [c3 (by simp), hh]; rfl
          simp only [c1, hh2]
          split at h
          · split at h
            · split at h
              · simp only [Option.some.injEq, Prod.mk.injEq] at h; obtain ⟨rfl, rfl⟩ := h
                rw [mix_ah rfl rfl rfl]
              · cases h
            · cases h
          · cases h
        · cases h
      · cases h
  | del ag ks m k =>
    have hh := hag.h (by simp [ft, Ft.th])
    simp only [step, hx m (by simp [I.xs]), hx k (by simp [I.xs]), ← hh] at h ⊢
    rw [← hag.ro]
    split at h
    · cases h
    · rename_i hr
      rw [if_neg hr]
      split at h
      · split at h
        · split at h
          · simp only [Option.some.injEq, Prod.mk.injEq] at h; obtain ⟨rfl, rfl⟩ := h
            rw [mix_h rfl rfl rfl]
            simp [hag.ro]
          · simp only [Option.some.injEq, Prod.mk.injEq] at h; obtain ⟨rfl, rfl⟩ := h
            rw [mix_h rfl rfl rfl]
            simp [hh]
          · cases h
        · cases h
      · cases h
  | call md aa f args =>
    have e : evL s'.t args = evL s.t args := List.map_congr_left (fun x h => hx x h)
    simp only [step, e] at h ⊢
    have hH : s.h = s'.h := hag.h (by simp only [ft, Ft.th]; cases md <;> rfl)
    exact callA_loc (fun h => hag.a (by subst h; simp only [ft, Ft.ta]; cases md <;> rfl)) hH hag.ro h
  | callv md aa f args =>
    have e : evL s'.t args = evL s.t args := List.map_congr_left (fun x h => hx x (by simp [I.xs, h]))
    simp only [step, e, hx f (by simp [I.xs])] at h ⊢
    have hH : s.h = s'.h := hag.h (by simp only [ft, Ft.th]; cases md <;> rfl)
    split at h
    · exact callA_loc (fun h => hag.a (by subst h; simp only [ft, Ft.ta]; cases md <;> rfl)) hH hag.ro h
    · cases h
  | app hh z x y =>
    have ha := hag.a (by simp [ft, Ft.ta])
    have hhh : hh = true → s.h = s'.h := fun h => hag.h (by subst h; rfl)
    simp only [step, hx x (by simp [I.xs]), hx y (by simp [I.xs])] at h ⊢
    split at h
    · rename_i z' ys he
      rw [elsOf_loc (ex y (by simp [I.xs])) ha hhh he]
      simp only []
      split at h
      · rename_i hz
        rw [if_pos hz, ← hag.ro]
        obtain ⟨a1, a2, a3⟩ := appA_loc (s' := s') (ex x (by simp [I.xs])) ha hhh h
        rw [a1]
        cases hh with
        | false => rw [mix_a rfl rfl rfl]; simp
        | true => rw [mix_ah rfl rfl rfl]; simp
      · cases h
    · cases h
  | apps x y =>
    have ha := hag.a (by simp [ft, Ft.ta])
    simp only [step, hx x (by simp [I.xs]), hx y (by simp [I.xs])] at h ⊢
    split at h
    · rw [← hag.ro]
      obtain ⟨a1, a2, a3⟩ := appA_loc (s' := s') (ex x (by simp [I.xs])) ha (fun h => by cases h) h
      rw [a1, mix_a rfl rfl rfl]; simp
    · cases h
  | appz z zero x n =>
    have ha := hag.a (by simp [ft, Ft.ta])
    simp only [step, hx x (by simp [I.xs]), hx n (by simp [I.xs])] at h ⊢
    split at h
    · split at h
      · rename_i hc
        rw [if_pos hc, ← hag.ro]
        obtain ⟨a1, a2, a3⟩ := appA_loc (s' := s') (ex x (by simp [I.xs])) ha (fun h => by cases h) h
        rw [a1, mix_a rfl rfl rfl]; simp
      · cases h
    · cases h
  | cpy hh z x y =>
    have ha := hag.a (by simp [ft, Ft.ta])
    have hhh : hh = true → s.h = s'.h := fun h => hag.h (by subst h; rfl)
    have hwx := ex x (by simp [I.xs])
    simp only [step, hx x (by simp [I.xs]), hx y (by simp [I.xs])] at h ⊢
    split at h
    · rename_i z' ys he
      have he' : cpySrc hh s' (ev s.t y) = some (z', ys) := by
        have hyw := ex y (by simp [I.xs])
        generalize ev s.t y = q at he hyw
        cases q <;> simp only [cpySrc] at he ⊢ <;> first | exact he | exact elsOf_loc hyw ha hhh he
      rw [he']
      simp only []
      split at h
      · rename_i l g z'' off len cap hE
        rw [hE] at hwx
        have hl := rs_loc hwx
        split at h
        · cases h
        · rename_i hnh
          rw [← hag.ro, if_neg hnh]
          have hg : s'.getB l g = s.getB l g := by
            cases l with
            | v i => cases hl
            | a i => exact getB_a ha i g
            | h i =>
              cases hh with
              | false => simp [isH] at hnh
              | true => exact getB_h (hhh rfl) i g
          rw [hg]
          split at h
          · split at h
            · rename_i hc
              rw [if_pos hc]
              simp only [Option.some.injEq, Prod.mk.injEq] at h; obtain ⟨rfl, rfl⟩ := h
              cases l with
              | v i => cases hl
              | a i =>
                cases hh with
                | false => rw [mix_a rfl rfl rfl]; simp [St.setB, ha, hag.ro]
                | true => rw [mix_ah rfl rfl rfl]; simp [St.setB, ha, hhh rfl, hag.ro]
              | h i =>
                cases hh with
                | false => simp [isH] at hnh
                | true => rw [mix_ah rfl rfl rfl]; simp [St.setB, ha, hhh rfl, hag.ro]
            · cases h
          · cases h
      · split at h
        · rename_i hc
          rw [if_pos hc]
          simp only [Option.some.injEq, Prod.mk.injEq] at h; obtain ⟨rfl, rfl⟩ := h
          cases hh with
          | false => rw [mix_a rfl rfl rfl]; simp [ha]
          | true => rw [mix_ah rfl rfl rfl]; simp [ha, hhh rfl]
        · cases h
      · cases h
    · cases h
  | clr z zero x =>
    have ha := hag.a (by simp [ft, Ft.ta])
    simp only [step, hx x (by simp [I.xs])] at h ⊢
    split at h
    · rename_i i g z' off len _ _
      simp only [getB_a ha]
      split at h
      · split at h
        · rename_i hc
          rw [if_pos hc]
          simp only [Option.some.injEq, Prod.mk.injEq] at h; obtain ⟨rfl, rfl⟩ := h
          rw [mix_a rfl rfl rfl]; simp [St.setB, ha]
        · cases h
      · cases h
    · simp only [Option.some.injEq, Prod.mk.injEq] at h; obtain ⟨rfl, rfl⟩ := h
      rw [mix_a rfl rfl rfl]; simp [ha]
    · cases h
end
end Go.Proofs.Bb
