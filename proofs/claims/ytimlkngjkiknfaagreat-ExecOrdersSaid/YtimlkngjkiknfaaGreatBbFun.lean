/- Functions: whatever the abstract machine's call comes to is what Go's call comes to. -/
import Derived.Test.YtimlkngjkiknfaaGreatBbRes
set_option linter.unusedSimpArgs false
set_option linter.unusedVariables false
namespace Go.Proofs.Bb
open Go

/-- A result as the code has it: one, or several. -/
inductive RVal : AV → Prop
  | one {x : AV} (h : WV x) : RVal x
  | tup {vs : List AV} (h : ∀ x, x ∈ vs → WV x) : RVal (.tup vs)

theorem RVal.elems {vs : List AV} (h : RVal (.tup vs)) : ∀ x, x ∈ vs → WV x := by
  cases h with
  | tup h => exact h
  | one h =>
    cases h with
    | one h => cases h with
      | one h => cases h with
        | dc h => cases h
    | tup h => exact fun x hx => .one (h x hx)

theorem res1_wf {own : Bool} {x y : AV} {s s1 : St} (F : WF s) (hx : WV x) (h : res1 own x s = some (y, s1)) : O0 y ∧ WF s1 ∧ Sm s s1 := by
  have byConv : ∀ v, WV v → conv 0 v s = some (y, s1) → O0 y ∧ WF s1 ∧ Sm s s1 := fun v hv hc => by
    obtain ⟨a1, a2⟩ := conv_wf F hv hc
    exact ⟨.one a1, a2, (conv_ge hc).2 (by decide)⟩
  unfold res1 at h
  split at h
  · split at h
    · split at h
      · rename_i b hb
        split at h
        · exact byConv _ hx h
        · simp only [Option.some.injEq, Prod.mk.injEq] at h; obtain ⟨rfl, rfl⟩ := h
          exact ⟨.own (getB_wf F hb), kill_wf F, kill_sm rfl⟩
      · cases h
    · exact byConv _ hx h
  · exact byConv _ hx h

theorem res_wf {own : Bool} {x y : AV} {s s1 : St} (F : WF s) (hx : RVal x) (h : res own x s = some (y, s1)) : OV y ∧ WF s1 ∧ Sm s s1 := by
  unfold res at h
  split at h
  · rename_i v vs
    split at h
    · rename_i vs' s2 h1
      split at h
      · rename_i v' s3 h2
        simp only [Option.some.injEq, Prod.mk.injEq] at h; obtain ⟨rfl, rfl⟩ := h
        have he := hx.elems
        obtain ⟨a1, a2⟩ := mapS_wf (fun x s y s1 F hx h => conv_wf F hx h) _ _ _ _ F (fun x hx => he x (by simp [hx])) h1
        have g := (mapS_ge (k := True) (fun x s y s1 h => ⟨(conv_ge h).1, fun _ => (conv_ge h).2 (by decide)⟩) _ _ _ _ h1).2 trivial
        obtain ⟨b1, b2, b3⟩ := res1_wf a2 (he v (by simp)) h2
        exact ⟨.tup (fun x hx => by rcases List.mem_cons.1 hx with rfl | hx; exact b1; exact .one (a1 x hx)), b2, g.trans b3⟩
      · cases h
    · cases h
  · simp only [Option.some.injEq, Prod.mk.injEq] at h; obtain ⟨rfl, rfl⟩ := h
    exact ⟨.tup (fun x hx => by simp at hx), F, .refl _⟩
  · rename_i hn1 hn2
    have hw : WV x := by
      cases hx with
      | one h => exact h
      | @tup vs h => cases vs with
        | nil => exact absurd rfl hn2
        | cons v vs => exact absurd rfl (hn1 v vs)
    obtain ⟨a1, a2, a3⟩ := res1_wf F hw h
    exact ⟨.one a1, a2, a3⟩

theorem rval_wf {s : St} (F : WF s) {r : RV} {v : AV} (h : rval s r = some v) : WV v := by
  unfold rval at h
  split at h
  · simp only [Option.some.injEq] at h; subst h; exact F.t _
  · split at h
    · split at h
      · rename_i b hb
        split at h
        · rename_i cs hcs
          exact ldc_wf (wb_w1 (getB_wf F hb) cs (List.mem_of_getElem? hcs)) h
        · cases h
      · cases h
    · cases h

theorem rvals_wf {s : St} (F : WF s) {l : List RV} {v : AV} (h : rvals s l = some v) : RVal v := by
  have key : ∀ (l : List RV) (vs : List AV), l.mapM (rval s) = some vs → ∀ x, x ∈ vs → WV x := by
    intro l
    induction l with
    | nil => intro vs h x hx; simp at h; subst h; simp at hx
    | cons r l ih =>
      intro vs h x hx
      rw [List.mapM_cons] at h
      simp only [Option.bind_eq_bind, Option.bind_eq_some_iff, Option.pure_def, Option.some.injEq] at h
      obtain ⟨v0, h0, vs', h1, rfl⟩ := h
      rcases List.mem_cons.1 hx with rfl | hx
      · exact rval_wf F h0
      · exact ih _ h1 x hx
  unfold rvals at h
  split at h
  · rename_i v0 hm
    simp only [Option.some.injEq] at h; subst h
    exact .one (key _ _ hm _ (by simp))
  · rename_i vs hne hm
    simp only [Option.some.injEq] at h; subst h
    exact .tup (key _ _ hm)
  · cases h

theorem start_wf {args : List AV} {h : List HB} {ro : Bool} (ha : ∀ x, x ∈ args → D0 x) (H : WH h) : WF (start args h ro) := by
  refine ⟨fun i => ?_, fun i b hb => (by cases hb), fun i b hb => (by cases hb), H⟩
  show WV (args.getD i (.tup []))
  rw [List.getD_eq_getElem?_getD]
  cases hx : args[i]? with
  | none => exact .tup (fun x hx => by simp at hx)
  | some x => exact (ha x (List.mem_of_getElem? hx)).wv

/-- All results. -/
theorem res_ok {own : Bool} {v v' : AV} {s s1 : St} {cx : Cx} {w : World} {u : Value} (M : MR s cx w) (F : WF s) (hw : RVal v) (hv : VR s.sg cx w v u) (h : res own v s = some (v', s1)) :
    ∃ cx', MR (imp 0 v' (start [] s1.h s.ro)).2 cx' w ∧ VR (imp 0 v' (start [] s1.h s.ro)).2.sg cx' w (imp 0 v' (start [] s1.h s.ro)).1 u ∧
      ∀ args h0 cx0 w0, Go1 (start args h0 s.ro) cx0 w0 s cx w → Go1 (start args h0 s.ro) cx0 w0 (imp 0 v' (start [] s1.h s.ro)).2 cx' w := by
  have hO := (res_wf F hw h).1
  unfold res at h
  split at h
  · rename_i x xs
    split at h
    · rename_i xs' s2 h1
      split at h
      · rename_i x' s3 h2
        simp only [Option.some.injEq, Prod.mk.injEq] at h; obtain ⟨rfl, rfl⟩ := h
        have he := hw.elems
        cases hv with
        | @tup _ vs hs hvs =>
        obtain ⟨u0, us, huv⟩ : ∃ u0 us, vs.toList = u0 :: us := by
          cases hvl : vs.toList with
          | nil => have := congrArg List.length hvl; simp at this; simp [this] at hs
          | cons u0 us => exact ⟨u0, us, rfl⟩
        have hget : ∀ (i : Nat) (y : Value), (u0 :: us)[i]? = some y → vs[i]? = some y := fun i y h => by rw [← huv] at h; simpa using h
        obtain ⟨a1, a2⟩ := mapS_wf (fun x s y s1 F hx h => conv_wf F hx h) _ _ _ _ F (fun x hx => he x (by simp [hx])) h1
        have g := (mapS_ge (k := True) (fun x s y s1 h => ⟨(conv_ge h).1, fun _ => (conv_ge h).2 (by decide)⟩) _ _ _ _ h1).2 trivial
        have hlen : us.length = xs.length := by have := congrArg List.length huv; simp at this hs; omega
        obtain ⟨cx2, b1, b2, b3, b4, b5⟩ := mapS_ok (conv_ok (k := 0) (by decide)) xs us s cx w xs' s2 M hlen (fun i y z hy hz => hvs (i + 1) y z (by simpa using hy) (hget (i + 1) z (by simpa using hz))) h1
        obtain ⟨cx', c1, c2, c3, c4⟩ := res1_ok 1000 b2 a2 (he x (by simp)) ((hvs 0 x u0 rfl (hget 0 u0 rfl)).ext b1.ext) h2
        have e : ∀ hh, imp 0 (.tup (x' :: xs')) (start [] hh s.ro) = (.tup ((imp1 1000 x' (start [] hh s2.ro)).1 :: xs'), (imp1 1000 x' (start [] hh s2.ro)).2) := by
          intro hh
          rw [g.ro]
          have hcl : ∀ (l : List AV) (d : Nat) (s : St), (∀ y, y ∈ l → D0 y) → impL d l s = (l, s) := by
            intro l
            induction l with
            | nil => intro d s h; rfl
            | cons y l ih =>
              intro d s h
              have e1 : imp1 d y s = (y, s) := by
                cases h y (by simp) with
                | one h => cases h <;> rfl
                | agg h => rfl
              simp only [impL, e1, ih _ _ (fun z hz => h z (by simp [hz]))]
          simp only [imp, impL, hcl xs' _ _ a1]
        rw [e]
        refine ⟨cx', c1, .tup (by simp; rw [b3]; have := congrArg List.length huv; simp at this; omega) (fun i y z hy hz => ?_), fun args h0 cx0 w0 G => by
          rw [g.ro] at c4 ⊢
          exact c4 args h0 cx0 w0 (G.trans b1)⟩
        have hz' : (u0 :: us)[i]? = some z := by rw [← huv]; simpa using hz
        cases i with
        | zero => simp at hy hz'; subst hy; subst hz'; exact c2
        | succ i =>
          simp at hy hz'
          exact c3 (a1 y (List.mem_of_getElem? hy)) (b4 i y z hy hz')
      · cases h
    · cases h
  · simp only [Option.some.injEq, Prod.mk.injEq] at h; obtain ⟨rfl, rfl⟩ := h
    obtain ⟨d1, d2, d3⟩ := drop_ok (t := start [] s.h s.ro) M F id (fun _ => rfl) (fun l b hb => by
        obtain ⟨i, rfl, hi⟩ := start_cur hb
        have : s.cur (.h i) = some b := by simp [St.cur, hi, blkAt]
        exact ⟨b, this, rfl, rfl, rfl, M.emp _ b this, rfl, rfl⟩) (fun l l' b b' _ _ h => h) rfl rfl (fun l b hb hl => by
        obtain ⟨i, rfl, hi⟩ := start_cur hb; cases hl)
    exact ⟨_, d1, scal_vr (x := .tup []) rfl hv, fun args h0 cx0 w0 G => d3 args h0 s.ro cx0 w0 G⟩
  · rename_i hn1 hn2
    have hwv : WV v := by
      cases hw with
      | one h => exact h
      | @tup vs h => cases vs with
        | nil => exact absurd rfl hn2
        | cons v vs => exact absurd rfl (hn1 v vs)
    obtain ⟨cx', c1, c2, c3, c4⟩ := res1_ok 0 M F hwv hv h
    have e : imp 0 v' (start [] s1.h s.ro) = imp1 0 v' (start [] s1.h s.ro) := by
      cases (res1_wf F hwv h).1 with
      | own h => rfl
      | one h => cases h with
        | one h => cases h <;> rfl
        | agg h => rfl
    rw [e]
    exact ⟨cx', c1, c2, c4⟩

def chkF (P : Program) (f : FuncId) (fn : AFn) : Bool :=
  match P.funcs[f]? with
  | some g => (match g.body with | some c => chkC P g.ntmps c fn.code | none => false) && chkRs P g.results.toList fn.rs && !(g.name == "runtime.NumGoroutine")
  | none => false

section
variable {P : Program} {C : Orc} {L : LoopO}

theorem runF_w (hW : OrcW C) (hL : LoopW P L) {ro : Bool} {f : FuncId} {fn : AFn} (hc : chkF P f fn = true) {args : List AV} {h : List HB} {v : AV} {h' : List HB} (hr : runF C L ro fn args h = some (v, h')) (ha : ∀ x, x ∈ args → D0 x) (H : WH h) :
    OV v ∧ WH h' ∧ h.length ≤ h'.length ∧ (ro = true → h' = h) := by
  unfold chkF at hc
  split at hc
  · rename_i g hg
    simp only [Bool.and_eq_true] at hc
    obtain ⟨⟨hc1, hc2⟩, hc3⟩ := hc
    split at hc1
    · rename_i c hb
      unfold runF at hr
      split at hr
      · split at hr
        · rename_i e s he
          split at hr
          · cases hr
          · rename_i hout
            split at hr
            · rename_i v0 hv0
              split at hr
              · rename_i v1 s1 h1
                simp only [Option.some.injEq, Prod.mk.injEq] at hr; obtain ⟨rfl, rfl⟩ := hr
                have K := exec_kp hW hL c fn.code _ _ _ hc1 (start_wf ha H) he
                obtain ⟨a1, a2, a3⟩ := res_wf K.f (rvals_wf K.f hv0) h1
                refine ⟨a1, a2.h, by rw [a3.h]; exact K.hl, fun e => by rw [a3.h]; exact K.pre e⟩
              · cases hr
            · cases hr
        · cases hr
      · cases hr
    · cases hc1
  · cases hc

theorem runF_ok (hW : OrcW C) (hC : OrcOK P C) (hLW : LoopW P L) {n : Nat} (hL : LoopOK P L n) (hm : P.follows .mixedOrders = true) {ro : Bool} {f : FuncId} {fn : AFn} (hc : chkF P f fn = true) {args : List AV} {h : List HB} {v : AV} {h' : List HB}
    (hr : runF C L ro fn args h = some (v, h')) (ha : ∀ x, x ∈ args → D0 x) (H : WH h) :
    Callable P f ∧ ∀ (cx : Cx) (w : World) (vs : Array Value), MR (start args h ro) cx w → vs.size = args.length →
    (∀ (i : Nat) (x : AV) (u : Value), args[i]? = some x → vs[i]? = some u → VR (start args h ro).sg cx w x u) → Calls P f vs w (CallPost ro args h v h' cx w) := by
  unfold chkF at hc
  split at hc
  · rename_i g hg
    simp only [Bool.and_eq_true, Bool.not_eq_true'] at hc
    obtain ⟨⟨hc1, hc2⟩, hc3⟩ := hc
    split at hc1
    · rename_i c hb
      refine ⟨⟨g, hg, hc3, by simp [hb]⟩, fun cx w vs M hsz hvs => ?_⟩
      unfold runF at hr
      split at hr
      · split at hr
        · rename_i e s he
          split at hr
          · cases hr
          · rename_i hout
            split at hr
            · rename_i v0 hv0
              split at hr
              · rename_i v1 s1 h1
                simp only [Option.some.injEq, Prod.mk.injEq] at hr; obtain ⟨rfl, rfl⟩ := hr
                have F0 := start_wf (ro := ro) ha H
                have K := exec_kp hW hLW c fn.code _ _ _ hc1 F0 he
                have hro : s.ro = ro := K.ro
                refine calls_of_wp hg hb ?_
                refine exec_ok hW hC hL hm c fn.code _ _ _ hc1 he cx w _ _ ⟨M, F0, fun t => ?_, ?_, rfl⟩ (fun cx' w' a' G R => ?_)
                · show VR _ cx w (args.getD t (.tup [])) _
                  rw [List.getD_eq_getElem?_getD]
                  cases hx : args[t]? with
                  | none =>
                    have hlt : args.length ≤ t := by simpa using hx
                    have : (vs ++ Array.replicate (g.ntmps - vs.size) undef).getD t undef = undef := by
                      rw [Array.getD_eq_getD_getElem?, Array.getElem?_append_right (by omega)]
                      rw [Array.getElem?_replicate]
                      split <;> rfl
                    rw [this]
                    exact VR.undef _ _ _
                  | some x =>
                    have hlt : t < vs.size := by have := (List.getElem?_eq_some_iff.1 hx).1; omega
                    have : (vs ++ Array.replicate (g.ntmps - vs.size) undef).getD t undef = vs[t] := by
                      rw [Array.getD_eq_getD_getElem?, Array.getElem?_append_left hlt]
                      simp [hlt]
                    rw [this]
                    exact hvs t x _ hx (Array.getElem?_eq_getElem hlt)
                · simp only [Array.size_append, Array.size_replicate]; omega
                · obtain ⟨u, k1, k2⟩ := results_ok R hc2 hv0
                  obtain ⟨cx2, r1, r2, r3⟩ := res_ok R.M R.F (rvals_wf R.F hv0) k2 h1
                  rw [hro] at r1 r2 r3
                  have fin : bodyPost P g (CallPost ro args h v1 s1.h cx w) .normal a' w' := ⟨R.d, u, k1, cx2, r3 args h cx w G, r1, r2⟩
                  cases e with
                  | nor => exact fin
                  | ret => exact fin
                  | ext i => exact absurd rfl hout
              · cases hr
            · cases hr
        · cases hr
      · cases hr
    · cases hc1
  · cases hc

end

section
variable {P : Program} {F : FuncId → Option AFn} {S : Orc}

theorem lvl_ok (hm : P.follows .mixedOrders = true) (hF : ∀ f fn, F f = some fn → chkF P f fn = true) (hSW : OrcW S) (hS : OrcOK P S) : ∀ n, OrcW (lvl F S n).1 ∧ OrcOK P (lvl F S n).1 ∧ LoopW P (lvl F S n).2 ∧ LoopOK P (lvl F S n).2 n := by
  intro n
  induction n with
  | zero =>
    refine ⟨fun _ _ _ _ _ _ h => ?_, fun _ _ _ _ _ _ h => ?_, fun _ _ _ _ _ _ _ _ h => ?_, fun _ _ _ _ _ _ _ h => ?_⟩ <;> simp [lvl] at h
  | succ n ih =>
    obtain ⟨h1, h2, h3, h4⟩ := ih
    refine ⟨fun ro f args h v h' hr ha H => ?_, fun ro f args h v h' hr ha H => ?_, fun N c ac s e s1 hc W hr => ?_, fun N c ac s e s1 hc hr cx w a Q R hQ => ?_⟩
    · simp only [lvl] at hr
      split at hr
      · rename_i fn hf
        exact runF_w h1 h3 (hF f fn hf) hr ha H
      · exact hSW _ _ _ _ _ _ hr ha H
    · simp only [lvl] at hr
      split at hr
      · rename_i fn hf
        exact runF_ok h1 h2 h3 h4 hm (hF f fn hf) hr ha H
      · exact hS _ _ _ _ _ _ hr ha H
    · simp only [lvl] at hr
      split at hr
      · rename_i s2 he
        have K := exec_kp h1 h3 c ac _ _ _ hc W he
        obtain ⟨a1, a2, a3, a4, a5⟩ := h3 N c ac s2 e s1 hc K.f hr
        have K2 := K.trans ⟨a1, a2, a3, a4⟩
        exact ⟨K2.f, K2.ro, K2.hl, K2.pre, a5⟩
      · rename_i hne
        have K := exec_kp h1 h3 c ac _ _ _ hc W hr
        exact ⟨K.f, K.ro, K.hl, K.pre, fun e => by subst e; exact hne s1 hr⟩
    · simp only [lvl] at hr
      split at hr
      · rename_i s2 he
        exact exec_ok h1 h2 h4 hm c ac _ _ _ hc he cx w a _ R (fun cx' w' a' G R' => h4 N c ac s2 e s1 hc hr cx' w' a' Q R' (fun cx2 w2 a2 G2 R2 => hQ cx2 w2 a2 (G.trans G2) R2))
      · rename_i hne
        refine exec_ok h1 h2 h4 hm c ac _ _ _ hc hr cx w a _ R (fun cx' w' a' G R' => ?_)
        have := hQ cx' w' a' G R'
        cases e with
        | nor => exact absurd hr (hne s1)
        | ext i => exact this
        | ret => exact this
end
end Go.Proofs.Bb
