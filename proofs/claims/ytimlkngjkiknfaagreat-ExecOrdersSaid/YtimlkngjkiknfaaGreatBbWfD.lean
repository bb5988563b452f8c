/- What the abstract machine keeps: every instruction but calls. -/
import Derived.Test.YtimlkngjkiknfaaGreatBbWfC
set_option linter.unusedSimpArgs false
set_option linter.unusedVariables false
namespace Go.Proofs.Bb
open Go

def scalc : AV → Bool
  | .bool _ | .int _ _ | .str _ | .nilp | .nilm | .nilf | .nili => true
  | .sl _ [] (some []) => true
  | _ => false
theorem scalc_dc {x : AV} (h : scalc x = true) : DC x := by
  unfold scalc at h
  split at h
  · exact .bool _
  · exact .int _ _
  · exact .str _
  · exact .nilp
  · exact .nilm
  · exact .nilf
  · exact .nili
  · exact .sl (fun cs hcs => by simp at hcs)
  · cases h

def okX : X → Bool
  | .c v => scalc v
  | _ => true

def I.xs : I → List X
  | .mv x | .nilc x | .not x | .convi _ x | .s2b x | .b2s _ x | .boxv _ x | .boxh _ _ x | .load _ _ x | .faddr x _ | .fld x _ _ | .ext x _ | .len x | .lens x | .lenm x | .cap x | .clr _ _ x => [x]
  | .pick c a b => [c, a, b]
  | .allocv _ | .alloch _ | .lena _ | .bad => []
  | .build _ ps => ps.map (fun p => p.2.2)
  | .bsl _ _ _ ps => ps.map (fun p => p.2)
  | .store _ _ _ a v => [a, v]
  | .bin _ x y | .eqv _ _ _ x y | .eqn _ _ x y | .mksl _ _ x y | .iaddr _ x y | .iaddra _ _ x y | .idx _ _ _ x y | .idxs x y | .app _ _ x y | .apps x y | .appz _ _ x y | .cpy _ _ x y | .del _ _ x y => [x, y]
  | .mkfn _ a b => a ++ b
  | .mkmap r => r.toList
  | .slice _ x lo hi mx => x :: (lo.toList ++ hi.toList ++ mx.toList)
  | .slicestr x lo hi | .slicearr _ _ x lo hi => x :: (lo.toList ++ hi.toList)
  | .lookup _ _ _ m k _ => [m, k]
  | .mupd _ _ _ m k v => [m, k, v]
  | .ment _ _ _ m k => [m, k]
  | .est _ m s v => [m, s, v]
  | .call _ _ _ xs => xs
  | .callv _ _ f xs => f :: xs
  | .max xs | .min xs => xs
def I.zs : I → List AV
  | .allocv z | .alloch z | .build z _ | .bsl _ z _ _ | .mksl _ z _ _ | .appz _ z _ _ | .clr _ z _ => z
  | .lookup _ _ z _ _ _ | .ment _ _ z _ _ => cellsOf z
  | _ => []
def okI (i : I) : Bool := i.xs.all okX && i.zs.all scalc

theorem ev_wf {s : St} (F : WF s) {x : X} (h : okX x = true) : WV (ev s.t x) := by
  cases x with
  | t n => exact F.t n
  | c v => exact .one (.one (.dc (scalc_dc h)))
  | f f => exact .one (.one (.dc (.fn (fun x hx => by simp at hx) (fun x hx => by simp at hx))))

theorem okI_x {i : I} (h : okI i = true) {x : X} (hx : x ∈ i.xs) : okX x = true := by
  simp only [okI, Bool.and_eq_true] at h
  exact List.all_eq_true.1 h.1 x hx
theorem okI_z {i : I} (h : okI i = true) {x : AV} (hx : x ∈ i.zs) : DC x := by
  simp only [okI, Bool.and_eq_true] at h
  exact scalc_dc (List.all_eq_true.1 h.2 x hx)

theorem wv_dc {x : AV} (h : DC x) : WV x := .one (.one (.dc h))
theorem WV.dc {x : AV} (h : WV x) (hc : clean1 x = true) : DC x := by
  cases h with
  | tup h => cases hc
  | one h => cases h with
    | one h => exact h.clean hc
    | agg h => cases hc
theorem D0.wv {x : AV} (h : D0 x) : WV x := by
  cases h with
  | one h => exact wv_dc h
  | agg h => exact .one (.agg (fun x hx => .dc (h x hx)))
theorem scal_dc {x : AV} (h : scal1 x = true) : DC x := by
  unfold scal1 at h
  split at h
  · exact .bool _
  · exact .int _ _
  · exact .str _
  · exact .nilp
  · exact .nilm
  · exact .nilf
  · exact .nili
  · cases h
theorem wv_sl {z : Nat} {els : List (List AV)} {tl : Option (List (List AV))} (h : WV (.sl z els tl)) : ∀ cs, cs ∈ els ++ tl.getD [] → ∀ x, x ∈ cs → DC x := by
  have := h.dc rfl
  cases this with
  | sl h => exact h
theorem wv_ip {cs : List AV} {o : Nat} (h : WV (.ip cs o)) : ∀ x, x ∈ cs → DC x := by
  have := h.dc rfl
  cases this with
  | ip h => exact h
theorem wv_pt {l : Loc} {g i o : Nat} (o' : Nat) (h : WV (.pt l g i o)) : WV (.pt l g i o') := by
  cases l with
  | v i => exact .one (.one (.ptv ..))
  | a i => exact .one (.one (.pta ..))
  | h i => exact wv_dc (.pt ..)
theorem wv_agg {cs : List AV} (h : WV (.agg cs)) : ∀ x, x ∈ cs → W1 x := by
  cases h with
  | one h => cases h with
    | one h => cases h with
      | dc h => cases h
    | agg h => exact h
theorem wv_ints {n : Int} {k : IntKind} : WV (.int k n) := wv_dc (.int ..)

theorem ldc_wf {cs : List AV} {o : Nat} {n : Option Nat} {v : AV} (hc : ∀ x, x ∈ cs → W1 x) (h : ldc cs o n = some v) : WV v := by
  unfold ldc at h
  split at h
  · exact .one (.one (hc v (List.mem_of_getElem? h)))
  · split at h
    · simp only [Option.some.injEq] at h; subst h
      exact .one (.agg (fun x hx => hc x (List.mem_of_mem_drop (List.mem_of_mem_take hx))))
    · cases h

theorem wb_w1 {l : Loc} {b : Blk} (h : WB l b) : ∀ cs, cs ∈ b.els → ∀ x, x ∈ cs → W1 x := by
  intro cs hcs x hx
  have := h cs hcs x hx
  split at this
  · exact this
  · exact .dc this

/-- What a step leaves as it was. -/
structure Sm (s s1 : St) : Prop where
  ro : s1.ro = s.ro
  t : s1.t = s.t
  h : s1.h = s.h
structure Ge (s s1 : St) : Prop where
  ro : s1.ro = s.ro
  t : s1.t = s.t
  h : s.h.length ≤ s1.h.length
theorem Sm.refl (s : St) : Sm s s := ⟨rfl, rfl, rfl⟩
theorem Sm.ge {s s1 : St} (h : Sm s s1) : Ge s s1 := ⟨h.ro, h.t, by rw [h.h]; exact Nat.le_refl _⟩
theorem Sm.trans {s s1 s2 : St} (h : Sm s s1) (k : Sm s1 s2) : Sm s s2 := ⟨k.ro.trans h.ro, k.t.trans h.t, k.h.trans h.h⟩
theorem Ge.refl (s : St) : Ge s s := ⟨rfl, rfl, Nat.le_refl _⟩
theorem Ge.trans {s s1 s2 : St} (h : Ge s s1) (k : Ge s1 s2) : Ge s s2 := ⟨k.ro.trans h.ro, k.t.trans h.t, Nat.le_trans h.h k.h⟩

theorem setB_ge {s : St} {l : Loc} {b : Blk} : Ge s (s.setB l b) := by
  cases l <;> exact ⟨rfl, rfl, by simp [St.setB]⟩
theorem setB_sm {s : St} {l : Loc} {b : Blk} (h : isH l = false) : Sm s (s.setB l b) := by
  cases l with
  | v i => exact ⟨rfl, rfl, rfl⟩
  | a i => exact ⟨rfl, rfl, rfl⟩
  | h i => cases h
theorem kill_sm {s : St} {l : Loc} (h : isH l = false) : Sm s (s.kill l) := by
  cases l with
  | v i => exact ⟨rfl, rfl, rfl⟩
  | a i => exact ⟨rfl, rfl, rfl⟩
  | h i => cases h
theorem newA_sm {s : St} {d z len : Nat} {els : List (List AV)} {ex : Bool} : Sm s (newA d z s els len ex).2 := ⟨rfl, rfl, rfl⟩

theorem conv1_ge {k : Nat} {x y : AV} {s s1 : St} (h : conv1 k x s = some (y, s1)) : Ge s s1 ∧ (k ≠ 1 → Sm s s1) := by
  unfold conv1 at h
  split at h
  · split at h
    · split at h
      · split at h
        · cases h
        · rename_i hk _
          simp only [Option.some.injEq, Prod.mk.injEq] at h; obtain ⟨rfl, rfl⟩ := h
          exact ⟨⟨rfl, rfl, by simp [St.kill]⟩, fun h => absurd hk h⟩
      · simp only [Option.some.injEq, Prod.mk.injEq] at h; obtain ⟨rfl, rfl⟩ := h
        exact ⟨setB_ge, fun _ => setB_sm rfl⟩
    · cases h
  · split at h
    · split at h
      · simp only [Option.some.injEq, Prod.mk.injEq] at h; obtain ⟨rfl, rfl⟩ := h
        exact ⟨.refl _, fun _ => .refl _⟩
      · cases h
    · simp only [Option.some.injEq, Prod.mk.injEq] at h; obtain ⟨rfl, rfl⟩ := h
      exact ⟨.refl _, fun _ => .refl _⟩
  · split at h
    · simp only [Option.some.injEq, Prod.mk.injEq] at h; obtain ⟨rfl, rfl⟩ := h
      exact ⟨.refl _, fun _ => .refl _⟩
    · cases h

theorem mapS_ge {f : AV → St → Option (AV × St)} {k : Prop} (hf : ∀ x s y s1, f x s = some (y, s1) → Ge s s1 ∧ (k → Sm s s1)) : ∀ (xs ys : List AV) (s s1 : St), mapS f xs s = some (ys, s1) → Ge s s1 ∧ (k → Sm s s1) := by
  intro xs
  induction xs with
  | nil =>
    intro ys s s1 h
    simp only [mapS, Option.some.injEq, Prod.mk.injEq] at h; obtain ⟨rfl, rfl⟩ := h
    exact ⟨.refl _, fun _ => .refl _⟩
  | cons x xs ih =>
    intro ys s s1 h
    simp only [mapS] at h
    split at h
    · cases h
    · rename_i y s2 h1
      split at h
      · cases h
      · rename_i ys' s3 h2
        simp only [Option.some.injEq, Prod.mk.injEq] at h; obtain ⟨rfl, rfl⟩ := h
        obtain ⟨a1, a2⟩ := hf x s y s2 h1
        obtain ⟨b1, b2⟩ := ih _ _ _ h2
        exact ⟨a1.trans b1, fun hk => (a2 hk).trans (b2 hk)⟩

theorem conv_ge {k : Nat} {x y : AV} {s s1 : St} (h : conv k x s = some (y, s1)) : Ge s s1 ∧ (k ≠ 1 → Sm s s1) := by
  unfold conv at h
  split at h
  · split at h
    · rename_i cs' s2 h1
      simp only [Option.some.injEq, Prod.mk.injEq] at h; obtain ⟨rfl, rfl⟩ := h
      exact mapS_ge (fun x s y s1 h => conv1_ge h) _ _ _ _ h1
    · cases h
  · exact conv1_ge h

theorem capt_sm {x y : AV} {s s1 : St} (h : capt x s = some (y, s1)) : Sm s s1 := by
  unfold capt at h
  split at h
  · split at h
    · split at h
      · split at h
        · simp only [Option.some.injEq, Prod.mk.injEq] at h; obtain ⟨rfl, rfl⟩ := h
          exact setB_sm rfl
        · cases h
      · cases h
    · cases h
  · split at h
    · simp only [Option.some.injEq, Prod.mk.injEq] at h; obtain ⟨rfl, rfl⟩ := h
      exact .refl _
    · cases h

theorem appA_ge {hh ro : Bool} {d z : Nat} {s s1 : St} {x v : AV} {ys : List (List AV)} (h : appA hh ro d z s x ys = some (v, s1)) : Ge s s1 ∧ (ro = true → Sm s s1) := by
  unfold appA at h
  split at h
  · split at h
    · split at h
      · simp only [Option.some.injEq, Prod.mk.injEq] at h; obtain ⟨rfl, rfl⟩ := h; exact ⟨.refl _, fun _ => .refl _⟩
      · split at h
        · split at h
          · simp only [Option.some.injEq] at h
            cases h
            exact ⟨⟨rfl, rfl, Nat.le_refl _⟩, fun _ => ⟨rfl, rfl, rfl⟩⟩
          · cases h
        · cases h
    · cases h
  · rename_i l g z' off len cap
    split at h
    · cases h
    · rename_i hnh
      have hl : ro = true → isH l = false := by
        intro hro
        subst hro
        cases hv : isH l with
        | false => rfl
        | true => rw [hv] at hnh; simp at hnh
      split at h
      · rename_i b hb
        split at h
        · split at h
          · simp only [Option.some.injEq, Prod.mk.injEq] at h; obtain ⟨rfl, rfl⟩ := h; exact ⟨.refl _, fun _ => .refl _⟩
          · split at h
            · split at h
              · cases h
              · simp only [Option.some.injEq, Prod.mk.injEq] at h; obtain ⟨rfl, rfl⟩ := h
                exact ⟨setB_ge, fun hr => setB_sm (hl hr)⟩
            · split at h
              · split at h
                · rename_i hH
                  split at h
                  · simp only [Option.some.injEq, Prod.mk.injEq] at h; obtain ⟨rfl, rfl⟩ := h
                    exact ⟨⟨rfl, rfl, by simp⟩, fun hr => by rw [hl hr] at hH; cases hH⟩
                  · cases h
                · rename_i hH
                  have hH' : isH l = false := by simpa using hH
                  split at h
                  · simp only [Option.some.injEq] at h; cases h
                    exact ⟨⟨rfl, rfl, Nat.le_refl _⟩, fun _ => ⟨rfl, rfl, rfl⟩⟩
                  · split at h
                    · simp only [Option.some.injEq] at h; cases h
                      have k := kill_sm (s := s) hH'
                      exact ⟨⟨k.ro, k.t, by show s.h.length ≤ (s.kill l).h.length; rw [k.h]; exact Nat.le_refl _⟩, fun _ => ⟨k.ro, k.t, k.h⟩⟩
                    · cases h
              · cases h
        · cases h
      · cases h
  · cases h

theorem storeA_ge {wd n md : Nat} {a v : AV} {s s1 : St} {ro : Bool} (h : storeA wd n md a v s ro = some s1) : Ge s s1 ∧ (ro = true → Sm s s1) := by
  unfold storeA at h
  split at h
  · rename_i l g i o
    split at h
    · cases h
    · split at h
      · cases h
      · rename_i v2 s2 hc
        have key : Ge s s2 ∧ (ro = true → Sm s s2 ∧ isH l = false) := by
          split at hc
          · rename_i hH
            split at hc
            · cases hc
            · rename_i hr
              exact ⟨(conv_ge hc).1, fun h => absurd h hr⟩
          · rename_i hH
            split at hc
            · simp only [Option.some.injEq, Prod.mk.injEq] at hc; obtain ⟨rfl, rfl⟩ := hc
              exact ⟨.refl _, fun _ => ⟨.refl _, by simpa using hH⟩⟩
            · cases hc
        split at h
        · split at h
          · cases h
          · split at h
            · split at h
              · simp only [Option.some.injEq] at h
                subst h
                exact ⟨key.1.trans setB_ge, fun hr => (key.2 hr).1.trans (setB_sm (key.2 hr).2)⟩
              · cases h
            · cases h
        · cases h
  · cases h

/-- What an instruction keeps. -/
structure Kp (s : St) (v : AV) (s1 : St) : Prop where
  v : WV v
  f : WF s1
  g : Ge s s1
  pre : s.ro = true → s1.h = s.h

theorem Kp.pure {s : St} {v : AV} (F : WF s) (h : WV v) : Kp s v s := ⟨h, F, .refl _, fun _ => rfl⟩
theorem Kp.sm {s s1 : St} {v : AV} (F : WF s1) (h : WV v) (k : Sm s s1) : Kp s v s1 := ⟨h, F, k.ge, fun _ => k.h⟩
theorem Kp.rw {s s1 : St} {v : AV} (F : WF s1) (h : WV v) (k : Ge s s1) (hr : s.ro = false) : Kp s v s1 := ⟨h, F, k, fun h => by rw [hr] at h; cases h⟩

theorem abin_scal {op : BinOp} {x y v : AV} (h : abin op x y = some v) : scal1 v = true := by
  unfold abin at h
  split at h
  · split at h
    · split at h
      · cases h
      · cases h; rfl
    · split at h
      · cases h
      · cases h; rfl
    · split at h
      · split at h <;> first | (cases h; rfl) | (split at h <;> first | (cases h; rfl) | cases h) | cases h
      · cases h
  · split at h
    · cases h; rfl
    · cases h; rfl
    · split at h
      · cases h; rfl
      · cases h
    · cases h
  · cases h

theorem foldI_int {f : Int → Int → Int} {k : IntKind} : ∀ (l : List AV) (n : Int) (v : AV), foldI f k n l = some v → DC v := by
  intro l
  induction l with
  | nil => intro n v h; simp only [foldI, Option.some.injEq] at h; subst h; exact .int ..
  | cons x l ih =>
    intro n v h
    cases x <;> simp only [foldI] at h <;> try cases h
    split at h
    · exact ih _ _ h
    · cases h

theorem fillA_wf : ∀ (ps : List (Nat × Nat × AV)) (cs r : List AV), (∀ x, x ∈ cs → W1 x) → (∀ p, p ∈ ps → WV p.2.2) → fillA cs ps = some r → ∀ x, x ∈ r → W1 x := by
  intro ps
  induction ps with
  | nil => intro cs r hc _ h; simp only [fillA, Option.some.injEq] at h; subst h; exact hc
  | cons p ps ih =>
    obtain ⟨o, n, v⟩ := p
    intro cs r hc hp h
    simp only [fillA] at h
    split at h
    · rename_i hcond
      refine ih _ _ (fun x hx => ?_) (fun p hp' => hp p (by simp [hp'])) h
      rcases mem_putc hx with hx | hx
      · exact hc x hx
      · exact cells_wf (hp (o, n, v) (by simp)) hcond.2.2 x hx
    · cases h

theorem clean0_cells {x : AV} (h : WV x) (hc : clean0 x = true) : ∀ c, c ∈ cellsOf x → DC c := by
  intro c hcc
  cases x <;> simp only [cellsOf, List.mem_singleton] at hcc
  case agg cs =>
    simp only [clean0] at hc
    exact (wv_agg h c hcc).clean (List.all_eq_true.1 hc c hcc)
  all_goals (subst hcc; exact h.dc hc)
theorem clean0_d0 {x : AV} (h : WV x) (hc : clean0 x = true) : D0 x := by
  cases x
  case agg cs =>
    simp only [clean0] at hc
    exact .agg (fun c hcc => (wv_agg h c hcc).clean (List.all_eq_true.1 hc c hcc))
  all_goals exact .one (h.dc hc)

theorem fillE_wf {n : Nat} : ∀ (ps : List (Nat × AV)) (els r : List (List AV)), (∀ cs, cs ∈ els → ∀ x, x ∈ cs → DC x) → (∀ p, p ∈ ps → ∀ c, c ∈ cellsOf p.2 → DC c) → fillE n els ps = some r → ∀ cs, cs ∈ r → ∀ x, x ∈ cs → DC x := by
  intro ps
  induction ps with
  | nil => intro els r hc _ h; simp only [fillE, Option.some.injEq] at h; subst h; exact hc
  | cons p ps ih =>
    obtain ⟨i, v⟩ := p
    intro els r hc hp h
    simp only [fillE] at h
    split at h
    · refine ih _ _ (fun cs hcs x hx => ?_) (fun p hp' => hp p (by simp [hp'])) h
      rcases List.mem_or_eq_of_mem_set hcs with hcs | rfl
      · exact hc cs hcs x hx
      · exact hp (i, v) (by simp) x hx
    · cases h

theorem findE_mem {ag : Bool} {ks : List Kd} {k : AV} : ∀ (es : List Ent) (i j : Nat) (e : Ent), findE ag ks k es i = some (some (j, e)) → e ∈ es := by
  intro es
  induction es with
  | nil => intro i j e h; simp [findE] at h
  | cons x es ih =>
    intro i j e h
    simp only [findE] at h
    split at h
    · simp only [Option.some.injEq, Prod.mk.injEq] at h; rw [← h.2]; simp
    · exact List.mem_cons_of_mem _ (ih _ _ _ h)
    · cases h
theorem findK_mem {ag : Bool} {ks : List Kd} {k : AV} {es : List Ent} {j : Nat} {e : Ent} (h : findK ag ks k es = some (some (j, e))) : e ∈ es := by
  unfold findK at h
  split at h
  · exact findE_mem _ _ _ _ h
  · cases h

theorem WF.setH {s : St} {h : List HB} (F : WF s) (H : WH h) : WF { s with h := h } := ⟨F.t, F.v, F.a, H⟩
theorem WF.setV {s : St} {d g : Nat} {b : Blk} (F : WF s) (h : ∀ cs, cs ∈ b.els → ∀ x, x ∈ cs → W1 x) : WF { s with v := upd s.v d ⟨g, some b⟩ } :=
  ⟨F.t, upd_slot F.v (fun b' hb => by cases hb; exact h), F.a, F.h⟩
theorem scal0_d0 {x : AV} (h : scal0 x = true) : D0 x := by
  cases x
  case agg cs => exact .agg (fun c hc => scal_dc (List.all_eq_true.1 h c hc))
  all_goals exact .one (scal_dc h)
theorem zero_d0 {z : AV} (h : ∀ x, x ∈ cellsOf z → DC x) : D0 z := by
  cases z
  case agg cs => exact .agg h
  all_goals exact .one (h _ (by simp [cellsOf]))
theorem wh_map {s : St} (F : WF s) {r : Nat} {es : List Ent} {c : Nat} (h : s.h[r]? = some (.map es c)) : ∀ e, e ∈ es → D0 e.key ∧ D0 e.val := F.h.map r es c h
theorem WF.setM {s : St} {r c : Nat} {es : List Ent} (F : WF s) (H : ∀ e, e ∈ es → D0 e.key ∧ D0 e.val) : WF { s with h := s.h.set r (.map es c) } :=
  F.setH (F.h.set (fun b' h => by cases h) (fun es k h => by cases h; exact H))

end Go.Proofs.Bb
