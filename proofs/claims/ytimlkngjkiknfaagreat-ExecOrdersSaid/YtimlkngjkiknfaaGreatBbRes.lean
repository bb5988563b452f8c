/- Results: what a function's frame leaves behind. -/
import Derived.Test.YtimlkngjkiknfaaGreatBbExec
set_option linter.unusedSimpArgs false
set_option linter.unusedVariables false
namespace Go.Proofs.Bb
open Go

/-- A frame that is left but for what its results hold. -/
theorem drop_ok {s t : St} {cx : Cx} {w : World} (M : MR s cx w) (F : WF s) (φ : Loc → Loc) (hφ : ∀ i, φ (.h i) = .h i)
    (hcur : ∀ l b', t.cur l = some b' → ∃ b, s.cur (φ l) = some b ∧ b'.z = b.z ∧ b'.els = b.els ∧ b'.fz = b.fz ∧ (b'.els = [] → b'.ex = true) ∧ isV (φ l) = false ∧ isH (φ l) = isH l)
    (inj : ∀ l l' b b', t.cur l = some b → t.cur l' = some b' → l ≠ l' → φ l ≠ φ l') (hh : t.h = s.h) (hro : t.ro = s.ro) (hgen : ∀ l b, t.cur l = some b → isH l = false → t.gen l ≠ 0) :
    MR t ⟨fun l => cx.lm (φ l), cx.im⟩ w ∧ (∀ {x v}, D0 x → VR s.sg cx w x v → VR t.sg ⟨fun l => cx.lm (φ l), cx.im⟩ w x v) ∧
      ∀ args h0 ro0 cx0 w0, Go1 (start args h0 ro0) cx0 w0 s cx w → Go1 (start args h0 ro0) cx0 w0 t ⟨fun l => cx.lm (φ l), cx.im⟩ w := by
  have hcurH : ∀ i, t.cur (.h i) = s.cur (.h i) := fun i => by simp [St.cur, hh]
  have mv : ∀ {x v}, D0 x → VR s.sg cx w x v → VR t.sg ⟨fun l => cx.lm (φ l), cx.im⟩ w x v := by
    intro x v hd hv
    refine VR.move0 (σ := s.sg) (σ' := t.sg) (cx := cx) (cx' := ⟨fun l => cx.lm (φ l), cx.im⟩) (fun i => rfl) (by show s.h.length ≤ t.h.length; rw [hh]; exact Nat.le_refl _) (fun i _ bi hbi => ?_) (fun i _ => by show cx.lm (φ (.h i)) = _; rw [hφ]) (fun _ h => h) hv hd
    obtain ⟨b, hb, rfl⟩ := sg_b hbi
    rw [hcurH] at hb
    exact sg_of hb
  have dcS : ∀ l b, isV l = false → s.cur l = some b → ∀ cs, cs ∈ b.els → ∀ x, x ∈ cs → DC x := by
    intro l b hl hb cs hcs x hx
    cases l with
    | v i => cases hl
    | a i => exact F.a i b hb cs hcs x hx
    | h i => exact F.h.blk i b (blkAt_some hb) cs hcs x hx
  have mtt : ∀ r, Mt t ⟨fun l => cx.lm (φ l), cx.im⟩ r → Mt s cx r := by
    intro r hr
    rcases hr with ⟨l, b', h1, h2, h3, h4, h5⟩ | ⟨i, es, c, h1, h2, h3⟩
    · obtain ⟨b, c1, c2, c3, c4, c5, c6, c7⟩ := hcur l b' h1
      exact .inl ⟨φ l, b, c1, by rw [← c4]; exact h2, by rw [← c3]; exact h3, h4, fun e => by rw [← hro]; exact h5 (by rw [← c7]; exact e)⟩
    · exact .inr ⟨i, es, c, by rw [← hh]; exact h1, by rw [← h2]; show _ = cx.lm (φ (.h i)); rw [hφ], by rw [← hro]; exact h3⟩
  refine ⟨⟨fun l b' hb j q x hx => ?_, fun l b' hb => ?_, fun l b' hb hf hne => ?_, fun l b' hb hf hne => ?_, fun l b' hb => ?_, fun l l' b1 b2 hb1 hb2 hf1 hf2 hn1 hn2 hll => ?_, fun i es c hi => ?_, fun i j es c es' c' hi hj hij => ?_, M.ims⟩, mv, ?_⟩
  · obtain ⟨b, c1, c2, c3, c4, c5, c6, c7⟩ := hcur l b' hb
    rw [c3] at hx
    obtain ⟨v, h1, h2, h3⟩ := M.live (φ l) b c1 j q x hx
    obtain ⟨cs, h4, h5⟩ := cellA_of hx
    exact ⟨v, by rw [c2]; exact h1, mv (.one (dcS _ b c6 c1 cs (List.mem_of_getElem? h4) x (List.mem_of_getElem? h5))) h2, h3⟩
  · obtain ⟨b, c1, c2, c3, _⟩ := hcur l b' hb
    rw [c2, c3]; exact M.zs (φ l) b c1
  · obtain ⟨b, c1, c2, c3, c4, _⟩ := hcur l b' hb
    rw [c2, c3]
    exact M.mu (φ l) b c1 (by rw [← c4]; exact hf) (by rw [← c3]; exact hne)
  · obtain ⟨b, c1, c2, c3, c4, _⟩ := hcur l b' hb
    exact M.fz (φ l) b c1 (by rw [← c4]; exact hf) (by rw [← c3]; exact hne)
  · obtain ⟨b, c1, c2, c3, c4, c5, _⟩ := hcur l b' hb
    exact c5
  · obtain ⟨b, c1, c2, c3, c4, _⟩ := hcur l b1 hb1
    obtain ⟨d, d1, d2, d3, d4, _⟩ := hcur l' b2 hb2
    exact M.dis (φ l) (φ l') b d c1 d1 (by rw [← c4]; exact hf1) (by rw [← d4]; exact hf2) (by rw [← c3]; exact hn1) (by rw [← d3]; exact hn2) (inj l l' b1 b2 hb1 hb2 hll)
  · rw [hh] at hi
    obtain ⟨es', h1, h2, h3⟩ := M.maps i es c hi
    refine ⟨es', by show w.heap[cx.lm (φ (.h i))]? = _; rw [hφ]; exact h1, h2, fun j e e' he he' => ?_⟩
    obtain ⟨k1, k2, k3⟩ := h3 j e e' he he'
    obtain ⟨d1, d2⟩ := F.h.map i es c hi e (List.mem_of_getElem? he)
    exact ⟨mv d1 k1, mv d2 k2, k3⟩
  · rw [hh] at hi hj
    show cx.lm (φ (.h i)) ≠ cx.lm (φ (.h j))
    rw [hφ, hφ]
    exact M.mdis i j es c es' c' hi hj hij
  · intro args h0 ro0 cx0 w0 G
    refine ⟨⟨fun l => ?_, by rw [show t.sg.hl = s.sg.hl by simp [St.sg, hh]]; exact G.ext.hl, fun l hg hi bi hb => ?_, fun i hi => ?_, G.ext.im, G.ext.imc, G.ext.room⟩, G.fr, fun r hr => G.own r (mtt r hr), G.imo, G.os, G.tape, G.output, G.size⟩
    · show (start args h0 ro0).gen l ≤ _
      rw [start_gen]; exact Nat.zero_le _
    · obtain ⟨b, hb', rfl⟩ := sg_b hb
      cases l with
      | h i =>
        rw [hcurH] at hb'
        obtain ⟨a1, a2⟩ := G.ext.b (.h i) rfl hi b.bi (sg_of hb')
        exact ⟨a1, by show cx.lm (φ (.h i)) = _; rw [hφ]; exact a2⟩
      | v i =>
        have h2 : (start args h0 ro0).gen (.v i) = t.gen (.v i) := hg
        exact absurd (h2.symm.trans (start_gen ..)) (hgen _ b hb' rfl)
      | a i =>
        have h2 : (start args h0 ro0).gen (.a i) = t.gen (.a i) := hg
        exact absurd (h2.symm.trans (start_gen ..)) (hgen _ b hb' rfl)
    · show cx.lm (φ (.h i)) = _
      rw [hφ]; exact G.ext.lh i hi

theorem start_cur_h (h : List HB) (ro : Bool) (i : Nat) : (start [] h ro).cur (.h i) = blkAt h[i]? := rfl

/-- What one result is, behind the frame. -/
def ResOK (s : St) (cx : Cx) (w : World) (k : Nat) (v' : AV) (h' : List HB) (u : Value) : Prop :=
    ∃ cx', MR (imp1 k v' (start [] h' s.ro)).2 cx' w ∧ VR (imp1 k v' (start [] h' s.ro)).2.sg cx' w (imp1 k v' (start [] h' s.ro)).1 u ∧
      (∀ {x y}, D0 x → VR s.sg cx w x y → VR (imp1 k v' (start [] h' s.ro)).2.sg cx' w x y) ∧
      ∀ args h0 cx0 w0, Go1 (start args h0 s.ro) cx0 w0 s cx w → Go1 (start args h0 s.ro) cx0 w0 (imp1 k v' (start [] h' s.ro)).2 cx' w

theorem res1_conv {v v' : AV} {s s1 : St} {cx : Cx} {w : World} {u : Value} (k : Nat) (M : MR s cx w) (F : WF s) (hw : WV v) (hv : VR s.sg cx w v u) (hc : conv 0 v s = some (v', s1)) : ResOK s cx w k v' s1.h u := by
  obtain ⟨a1, a2⟩ := conv_wf F hw hc
  obtain ⟨cx2, b1, b2, b3, b4⟩ := conv_ok (k := 0) (by decide) s cx w v u v' s1 M hv hc
  have hro : s1.ro = s.ro := (conv_ge hc).1.ro
  have e1 : imp1 k v' (start [] s1.h s.ro) = (v', start [] s1.h s.ro) := by
    cases a1 with
    | one h => cases h <;> rfl
    | agg h => rfl
  obtain ⟨d1, d2, d3⟩ := drop_ok (t := start [] s1.h s.ro) b2 a2 id (fun _ => rfl) (fun l b hb => by
      obtain ⟨i, rfl, hi⟩ := start_cur hb
      have : s1.cur (.h i) = some b := by simp [St.cur, hi, blkAt]
      exact ⟨b, this, rfl, rfl, rfl, b2.emp _ b this, rfl, rfl⟩) (fun l l' b b' _ _ h => h) rfl hro.symm (fun l b hb hl => by
      obtain ⟨i, rfl, hi⟩ := start_cur hb; cases hl)
  unfold ResOK
  rw [e1]
  exact ⟨_, d1, d2 a1 b3, fun hd hy => d2 hd (hy.ext b1.ext), fun args h0 cx0 w0 G => d3 args h0 s.ro cx0 w0 (G.trans b1)⟩

/-- One result. -/
theorem res1_ok {own : Bool} {v v' : AV} {s s1 : St} {cx : Cx} {w : World} {u : Value} (k : Nat) (M : MR s cx w) (F : WF s) (hw : WV v) (hv : VR s.sg cx w v u) (h : res1 own v s = some (v', s1)) : ResOK s cx w k v' s1.h u := by
  unfold res1 at h
  split at h
  · rename_i i g z off len cap
    split at h
    · rename_i hown
      split at h
      · rename_i b hb
        split at h
        · exact res1_conv k M F hw hv h
        · rename_i hcond
          simp only [Bool.or_eq_true, not_or, Bool.not_eq_true, bne_eq_false_iff_eq, Bool.and_eq_true, beq_iff_eq] at hcond hown
          obtain ⟨⟨hfz, hemp⟩, hcap⟩ := hcond
          obtain ⟨_, rfl⟩ := hown
          simp only [Option.some.injEq, Prod.mk.injEq] at h; obtain ⟨rfl, rfl⟩ := h
          obtain ⟨h1, h2⟩ := getB_some hb
          cases hv with
          | @rs _ _ _ _ _ _ c A k1 k2 k3 k4 k5 k6 =>
          obtain ⟨j1, j2, j3, j4⟩ := k6 h2 b.bi (sg_of h1)
          have j1 : b.z = z := j1
          subst j1
          subst hcap
          have hex : b.els = [] → b.ex = true := by
            intro e
            rw [e] at hemp
            simpa using hemp
          let t : St := (imp1 k (.own b.z b.els len) (start [] s.h s.ro)).2
          have ht : t = { start [] s.h s.ro with a := upd (start [] s.h s.ro).a k ⟨1, some ⟨b.z, b.els, b.els.isEmpty, false⟩⟩ } := rfl
          have hcur : ∀ l b', t.cur l = some b' → (l = .a k ∧ b' = ⟨b.z, b.els, b.els.isEmpty, false⟩) ∨ ∃ j, l = .h j ∧ s.cur l = some b' := by
            intro l b' hb'
            cases l with
            | v j => cases hb'
            | h j => exact .inr ⟨j, rfl, hb'⟩
            | a j =>
              rw [ht] at hb'
              simp only [St.cur] at hb'
              by_cases e : j = k
              · subst e; rw [upd_eq] at hb'; simp only [Option.some.injEq] at hb'; exact .inl ⟨rfl, hb'.symm⟩
              · rw [upd_ne _ _ e] at hb'; cases hb'
          obtain ⟨d1, d2, d3⟩ := drop_ok (t := t) M F (fun l => if l = .a k then .a i else l) (fun j => by simp) (fun l b' hb' => by
              rcases hcur l b' hb' with ⟨rfl, rfl⟩ | ⟨j, rfl, hj⟩
              · exact ⟨b, by simpa using h1, rfl, rfl, hfz.symm, fun e => by simpa using e, by simp [isV], by simp [isH]⟩
              · exact ⟨b', by simpa using hj, rfl, rfl, rfl, M.emp _ b' hj, by simp [isV], by simp [isH]⟩)
            (fun l l' b1 b2 hb1 hb2 hne => by
              rcases hcur l b1 hb1 with ⟨rfl, _⟩ | ⟨j, rfl, _⟩ <;> rcases hcur l' b2 hb2 with ⟨rfl, _⟩ | ⟨j', rfl, _⟩
              · exact absurd rfl hne
              · simp
              · simp
              · simpa using hne) rfl rfl (fun l b' hb' hl => by
              rcases hcur l b' hb' with ⟨rfl, rfl⟩ | ⟨j, rfl, hj⟩
              · rw [show t.gen (.a k) = 1 by rw [ht]; simp [St.gen, upd_eq]]; simp
              · cases hl)
          refine ⟨_, d1, ?_, d2, fun args h0 cx0 w0 G => d3 args h0 s.ro cx0 w0 G⟩
          refine .rs k1 k2 k3 ?_ (fun j e => by cases e) (fun hg bi hbi => ?_)
          · show 1 ≤ t.gen (.a k)
            rw [show t.gen (.a k) = 1 by rw [ht]; simp [St.gen, upd_eq]]; exact Nat.le_refl _
          · obtain ⟨b2, hb2, rfl⟩ := sg_b hbi
            rcases hcur _ b2 hb2 with ⟨_, rfl⟩ | ⟨j, e, _⟩
            · refine ⟨rfl, by simp [Blk.bi], fun e => ?_, fun h0 => ?_⟩
              · have he : b.els = [] := by simpa [Blk.bi] using e
                exact j3 (hex he)
              · have := j4 h0
                simpa using this
            · cases e
      · cases h
    · exact res1_conv k M F hw hv h
  · exact res1_conv k M F hw hv h

def chkRV (P : Program) : ResultVar → RV → Bool
  | .tmp t, .tmp u => decide (t = u)
  | .cell a ty, .cell b n => decide (a = b) && decide (nOf P ty = some n)
  | _, _ => false
def chkRs (P : Program) : List ResultVar → List RV → Bool
  | [], [] => true
  | r :: rs, x :: xs => chkRV P r x && chkRs P rs xs
  | _, _ => false

section
variable {P : Program} {N : Nat} {s : St} {cx : Cx} {w : World} {a : Act}

def resOne (tmps : Array Value) : ResultVar → Sem Value
  | .tmp t => pure (tmps.getD t undef)
  | .cell a t => do loadVar t (← asAddr (tmps.getD a undef))

theorem rval_ok {r : ResultVar} {x : RV} {v : AV} (R : Rel N s cx w a) (hc : chkRV P r x = true) (h : rval s x = some v) : ∃ u, (resOne a.tmps r).run P w = .ok u w ∧ VR s.sg cx w v u := by
  unfold chkRV at hc
  split at hc
  · simp only [decide_eq_true_eq] at hc
    subst hc
    simp only [rval, Option.some.injEq] at h
    subst h
    exact ⟨_, rfl, R.T _⟩
  · rename_i p ty q n
    simp only [Bool.and_eq_true, decide_eq_true_eq] at hc
    obtain ⟨rfl, hn⟩ := hc
    simp only [rval] at h
    split at h
    · rename_i l g i o hp
      split at h
      · rename_i b hb
        split at h
        · rename_i cs hcs
          have hT := R.T p
          rw [hp] at hT
          generalize hav : a.tmps.getD p undef = av at hT
          obtain ⟨h1, h2⟩ := getB_some hb
          obtain ⟨fc, hfc⟩ := live_fn R.M h1
          cases hT with
          | @pt _ _ _ _ ad hg hl hpt =>
            have had := hpt h2 b.bi (sg_of h1)
            obtain ⟨u, k1, k2⟩ := load_run (P := P) (w := w) (r := cx.lm l) (q := i * b.z) (cs := cs) (o' := o) (x := v) (σ := s.sg) (cx := cx) (p := ad) (fc i) hn had (fun q x hx => (hfc i q x (cellA_mk hcs hx)).1) (fun q x hx => (hfc i q x (cellA_mk hcs hx)).2.1) (fun q x hx => (hfc i q x (cellA_mk hcs hx)).2.2) h
            refine ⟨u, ?_, k2⟩
            simp only [resOne, hav, asAddr, Sem.run_bind, Sem.run_pure, Result.andThen_ok, k1]
        · cases h
      · cases h
    · cases h
  · cases hc

theorem results_ok {fn : Func} {xs : List RV} {v : AV} (R : Rel N s cx w a) (hc : chkRs P fn.results.toList xs = true) (h : rvals s xs = some v) : ∃ u, (results fn a.tmps).run P w = .ok u w ∧ VR s.sg cx w v u := by
  have e : results fn a.tmps = (do let vs ← fn.results.mapM (resOne a.tmps); pure (if h : vs.size = 1 then vs[0] else .tuple vs)) := by
    unfold results
    congr 1
  have key : ∀ (rs : List ResultVar) (xs : List RV) (vs : List AV), chkRs P rs xs = true → xs.mapM (rval s) = some vs → ∃ us : List Value, us.length = vs.length ∧ us.length = rs.length ∧ (∀ (i : Nat) (r : ResultVar) (u : Value), rs[i]? = some r → us[i]? = some u → (resOne a.tmps r).run P w = .ok u w) ∧ ∀ (i : Nat) (v : AV) (u : Value), vs[i]? = some v → us[i]? = some u → VR s.sg cx w v u := by
    intro rs
    induction rs with
    | nil =>
      intro xs vs hc h
      cases xs with
      | nil => simp at h; subst h; exact ⟨[], rfl, rfl, fun i r u h => by simp at h, fun i r u h => by simp at h⟩
      | cons x xs => cases hc
    | cons r rs ih =>
      intro xs vs hc h
      cases xs with
      | nil => cases hc
      | cons x xs =>
        simp only [chkRs, Bool.and_eq_true] at hc
        rw [List.mapM_cons] at h
        simp only [Option.bind_eq_bind, Option.bind_eq_some_iff, Option.pure_def, Option.some.injEq] at h
        obtain ⟨v0, h0, vs', h1, rfl⟩ := h
        obtain ⟨u0, k1, k2⟩ := rval_ok R hc.1 h0
        obtain ⟨us, l1, l2, l3, l4⟩ := ih xs vs' hc.2 h1
        refine ⟨u0 :: us, by simp [l1], by simp [l2], fun i r' u hr hu => ?_, fun i v u hv hu => ?_⟩
        · cases i with
          | zero => simp at hr hu; subst hr; subst hu; exact k1
          | succ i => exact l3 i r' u (by simpa using hr) (by simpa using hu)
        · cases i with
          | zero => simp at hv hu; subst hv; subst hu; exact k2
          | succ i => exact l4 i v u (by simpa using hv) (by simpa using hu)
  have runL : ∀ (rs : List ResultVar) (us : List Value), us.length = rs.length → (∀ (i : Nat) (r : ResultVar) (u : Value), rs[i]? = some r → us[i]? = some u → (resOne a.tmps r).run P w = .ok u w) → ((rs.toArray.mapM (resOne a.tmps)).run P w = .ok us.toArray w) := by
    intro rs us hl hr
    have hL : (rs.mapM (resOne a.tmps)).run P w = .ok us w := by
      clear hc
      revert us
      induction rs with
      | nil => intro us hl hr; cases us with
        | nil => rfl
        | cons u us => cases hl
      | cons r rs ih =>
        intro us hl hr
        cases us with
        | nil => cases hl
        | cons u us =>
          have h0 := hr 0 r u rfl rfl
          have h1 := ih us (by simpa using hl) (fun i r u h h' => hr (i + 1) r u (by simpa using h) (by simpa using h'))
          simp [List.mapM_cons, Sem.run_bind, h0, h1]
    simp [List.mapM_toArray, hL]
  unfold rvals at h
  split at h
  · rename_i v0 hm
    simp only [Option.some.injEq] at h; subst h
    obtain ⟨us, l1, l2, l3, l4⟩ := key _ _ _ hc hm
    have hrun := runL _ _ l2 l3
    match us, l1 with
    | [u], _ =>
      refine ⟨u, ?_, l4 0 _ u rfl rfl⟩
      rw [e]
      simp only [Array.toArray_toList] at hrun
      simp [Sem.run_bind, hrun]
  · rename_i vs hne hm
    simp only [Option.some.injEq] at h; subst h
    obtain ⟨us, l1, l2, l3, l4⟩ := key _ _ _ hc hm
    have hrun := runL _ _ l2 l3
    have hn1 : us.length ≠ 1 := by
      intro h1
      rw [l1] at h1
      match vs, h1 with
      | [v], _ => exact hne v rfl
    refine ⟨.tuple us.toArray, ?_, .tup (by simp [l1]) (fun i x u hx hu => l4 i x u hx (by simpa using hu))⟩
    rw [e]
    simp only [Array.toArray_toList] at hrun
    simp [Sem.run_bind, hrun, hn1]
  · cases h
end
end Go.Proofs.Bb
