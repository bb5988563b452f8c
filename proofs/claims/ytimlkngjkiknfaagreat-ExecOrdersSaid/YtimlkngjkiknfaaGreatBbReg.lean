/- Regions: in the order of the text, and in any other that is open. -/
import Derived.Test.YtimlkngjkiknfaaGreatBbLocC
set_option linter.unusedSimpArgs false
set_option linter.unusedVariables false
namespace Go.Proofs.Bb
open Go

def xt : X → Option Nat
  | .t n => some n
  | _ => none
def AI.rd (i : AI) : List Nat := i.i.xs.filterMap xt ++ (i.g.map (·.1)).toList
def AI.ft (i : AI) : Ft := Bb.ft (i.d.getD 0) i.i

def slApart : Sl → Sl → Bool
  | .no, _ => true
  | _, .no => true
  | .one a, .one b => a != b
  | _, _ => false
def ftApart (F G : Ft) : Bool :=
  slApart F.wv G.rv && slApart F.wv G.wv && slApart F.rv G.wv && !(F.wa && (G.ra || G.wa)) && !(F.ra && G.wa) && !(F.wh && (G.rh || G.wh)) && !(F.rh && G.wh)
def indep (x y : AI) : Bool :=
  (match x.d with | some d => !y.rd.contains d && y.d != some d | none => true) && (match y.d with | some d => !x.rd.contains d | none => true) && ftApart x.ft y.ft

theorem slApart_spec {a b : Sl} (h : slApart a b = true) (n : Nat) (ha : a.has n = true) : b.has n = false := by
  cases a <;> cases b <;> simp_all [slApart, Sl.has]
  exact fun e => h e.symm
theorem slApart_comm {a b : Sl} (h : slApart a b = true) : slApart b a = true := by
  cases a <;> cases b <;> simp_all [slApart]
  exact fun e => h e.symm

section
variable {C : Orc} {s s' : St} {v : AV} {s1 s2 : St}

theorem ev_rd {i : AI} {x : X} (hx : x ∈ i.i.xs) (h : ∀ n, n ∈ i.rd → s'.t n = s.t n) : ev s'.t x = ev s.t x := by
  cases x with
  | t n => exact h n (by simp only [AI.rd, List.mem_append, List.mem_filterMap]; exact .inl ⟨.t n, hx, rfl⟩)
  | c v => rfl
  | f f => rfl

theorem mix_same {F : Ft} (hag : Agree F s s') : mix F s s' = s' := by
  have e1 : (fun n => if F.wv.has n = true then s.v n else s'.v n) = s'.v := by
    funext n
    split
    · rename_i h; exact hag.v n (by simp [Ft.tv, h])
    · rfl
  have e2 : (if F.wa = true then s.a else s'.a) = s'.a := by
    split
    · rename_i h; exact hag.a (by simp [Ft.ta, h])
    · rfl
  have e3 : (if F.wh = true then s.h else s'.h) = s'.h := by
    split
    · rename_i h; exact hag.h (by simp [Ft.th, h])
    · rfl
  simp only [mix, e1, e2, e3]

theorem stepG_local {i : AI} (F : WF s) (hok : okI i.i = true) (hag : Agree i.ft s s') (ht : ∀ n, n ∈ i.rd → s'.t n = s.t n) (h : stepG C i s = some (v, s1)) : stepG C i s' = some (v, mix i.ft s1 s') := by
  have hw : wantA s'.t i.g = wantA s.t i.g := by
    cases hg : i.g with
    | none => rfl
    | some p =>
      have := ht p.1 (by simp [AI.rd, hg])
      simp only [wantA, this]
  unfold stepG at h ⊢
  rw [hw]
  split at h
  · exact step_local F hok hag (fun x hx => ev_rd hx ht) h
  · simp only [Option.some.injEq, Prod.mk.injEq] at h; obtain ⟨rfl, rfl⟩ := h
    rw [mix_same hag]
  · cases h

theorem stepG_kp (hC : OrcW C) {i : AI} (F : WF s) (hok : okI i.i = true) (h : stepG C i s = some (v, s1)) : Kp s v s1 := by
  unfold stepG at h
  split at h
  · exact step_kp hC F hok h
  · simp only [Option.some.injEq, Prod.mk.injEq] at h; obtain ⟨rfl, rfl⟩ := h
    exact .pure F (.tup (fun x hx => by simp at hx))
  · cases h

theorem agree_refl (F : Ft) (s : St) : Agree F s s := ⟨fun _ _ => rfl, fun _ => rfl, fun _ => rfl, rfl⟩

theorem stepG_only {i : AI} (F : WF s) (hok : okI i.i = true) (h : stepG C i s = some (v, s1)) :
    s1.t = s.t ∧ s1.ro = s.ro ∧ (∀ n, i.ft.wv.has n = false → s1.v n = s.v n) ∧ (i.ft.wa = false → s1.a = s.a) ∧ (i.ft.wh = false → s1.h = s.h) := by
  have h2 := stepG_local (s' := s) F hok (agree_refl _ _) (fun _ _ => rfl) h
  rw [h] at h2
  simp only [Option.some.injEq, Prod.mk.injEq, true_and] at h2
  rw [h2]
  refine ⟨rfl, rfl, fun n hn => ?_, fun ha => ?_, fun hh => ?_⟩
  · simp [mix, hn]
  · simp [mix, ha]
  · simp [mix, hh]

theorem put_wf {d : Option Nat} (F : WF s) (h : WV v) : WF (s.put d v) := by
  cases d with
  | none => exact F
  | some d =>
    refine ⟨fun i => ?_, F.v, F.a, F.h⟩
    show WV (upd s.t d v i)
    by_cases e : i = d
    · subst e; rw [upd_eq]; exact h
    · rw [upd_ne _ _ e]; exact F.t i
theorem put_t {d : Option Nat} {n : Nat} (h : d ≠ some n) : (s.put d v).t n = s.t n := by
  cases d with
  | none => rfl
  | some d => exact upd_ne _ _ (fun e => h (by rw [e]))
theorem put_v {d : Option Nat} : (s.put d v).v = s.v := by cases d <;> rfl
theorem put_a {d : Option Nat} : (s.put d v).a = s.a := by cases d <;> rfl
theorem put_h {d : Option Nat} : (s.put d v).h = s.h := by cases d <;> rfl
theorem put_ro {d : Option Nat} : (s.put d v).ro = s.ro := by cases d <;> rfl

theorem stepA_wf (hC : OrcW C) {i : AI} (F : WF s) (hok : okI i.i = true) (h : stepA C i s = some s1) : WF s1 := by
  unfold stepA at h
  split at h
  · rename_i v s2 h2
    simp only [Option.some.injEq] at h; subst h
    have K := stepG_kp hC F hok h2
    exact put_wf K.f K.v
  · cases h

/-- Two instructions that have nothing to do with one another may change places. -/
theorem swap (hC : OrcW C) {x y : AI} (F : WF s) (okx : okI x.i = true) (oky : okI y.i = true) (hi : indep x y = true) (h1 : stepA C x s = some s1) (h2 : stepA C y s1 = some s2) :
    ∃ s3, stepA C y s = some s3 ∧ stepA C x s3 = some s2 := by
  have F1 := stepA_wf hC F okx h1
  simp only [indep, Bool.and_eq_true] at hi
  obtain ⟨⟨hi1, hi2⟩, hi3⟩ := hi
  simp only [ftApart, Bool.and_eq_true, Bool.not_eq_true'] at hi3
  obtain ⟨⟨⟨⟨⟨⟨p1, p2⟩, p3⟩, p4⟩, p5⟩, p6⟩, p7⟩ := hi3
  unfold stepA at h1 h2
  split at h1
  · rename_i vx sx hx
    split at h2
    · rename_i vy sy hy
      simp only [Option.some.injEq] at h1 h2
      subst h1; subst h2
      obtain ⟨x1, x2, x3, x4, x5⟩ := stepG_only F okx hx
      obtain ⟨y1, y2, y3, y4, y5⟩ := stepG_only F1 oky hy
      have agy : Agree y.ft (sx.put x.d vx) s := by
        refine ⟨fun n hn => ?_, fun ha => ?_, fun hh => ?_, put_ro.trans x2⟩
        · rw [put_v]
          refine x3 n ?_
          cases hw : x.ft.wv.has n with
          | false => rfl
          | true =>
            simp only [Ft.tv, Bool.or_eq_true] at hn
            rcases hn with hn | hn
            · rw [slApart_spec p1 n hw] at hn; cases hn
            · rw [slApart_spec p2 n hw] at hn; cases hn
        · rw [put_a]
          refine x4 ?_
          cases hw : x.ft.wa with
          | false => rfl
          | true => simp only [Ft.ta] at ha; rw [hw, ha] at p4; cases p4
        · rw [put_h]
          refine x5 ?_
          cases hw : x.ft.wh with
          | false => rfl
          | true => simp only [Ft.th] at hh; rw [hw, hh] at p6; cases p6
      have hty : ∀ n, n ∈ y.rd → s.t n = (sx.put x.d vx).t n := by
        intro n hn
        rw [put_t, x1]
        intro e
        rw [e] at hi1
        simp only [Bool.and_eq_true, Bool.not_eq_true'] at hi1
        have := hi1.1
        rw [List.contains_iff_mem.2 hn] at this
        cases this
      have hy' := stepG_local F1 oky agy hty hy
      have agx : Agree x.ft s ((mix y.ft sy s).put y.d vy) := by
        refine ⟨fun n hn => ?_, fun ha => ?_, fun hh => ?_, by rw [put_ro]; rfl⟩
        · rw [put_v]
          show s.v n = if y.ft.wv.has n = true then sy.v n else s.v n
          rw [if_neg]
          intro hw
          simp only [Ft.tv, Bool.or_eq_true] at hn
          rcases hn with hn | hn
          · rw [slApart_spec p3 n hn] at hw; cases hw
          · rw [slApart_spec p2 n hn] at hw; cases hw
        · rw [put_a]
          show s.a = if y.ft.wa = true then sy.a else s.a
          rw [if_neg]
          intro hw
          simp only [Ft.ta, Bool.or_eq_true] at ha
          rcases ha with ha | ha
          · rw [hw, ha] at p5; cases p5
          · rw [hw, ha] at p4; simp at p4
        · rw [put_h]
          show s.h = if y.ft.wh = true then sy.h else s.h
          rw [if_neg]
          intro hw
          simp only [Ft.th, Bool.or_eq_true] at hh
          rcases hh with hh | hh
          · rw [hw, hh] at p7; cases p7
          · rw [hw, hh] at p6; simp at p6
      have htx : ∀ n, n ∈ x.rd → ((mix y.ft sy s).put y.d vy).t n = s.t n := by
        intro n hn
        rw [put_t]
        · rfl
        · intro e
          rw [e] at hi2
          simp only [Bool.not_eq_true'] at hi2
          rw [List.contains_iff_mem.2 hn] at hi2
          cases hi2
      have hx' := stepG_local F okx agx htx hx
      refine ⟨(mix y.ft sy s).put y.d vy, by unfold stepA; rw [hy'], ?_⟩
      unfold stepA
      rw [hx']
      simp only [Option.some.injEq]
      -- the states are the same
      have et : ((mix x.ft sx ((mix y.ft sy s).put y.d vy)).put x.d vx).t = (sy.put y.d vy).t := by
        funext n
        by_cases ex : x.d = some n
        · have ey : y.d ≠ some n := by
            intro e
            rw [ex] at hi1
            simp only [Bool.and_eq_true, bne_iff_ne, ne_eq] at hi1
            exact hi1.2 e
          rw [put_t ey, y1]
          rw [ex]
          simp [St.put, upd_eq]
        · rw [put_t ex]
          show ((mix y.ft sy s).put y.d vy).t n = _
          by_cases ey : y.d = some n
          · rw [ey]; simp [St.put, upd_eq]
          · rw [put_t ey, put_t ey, y1, put_t ex, x1]; rfl
      have ev' : ((mix x.ft sx ((mix y.ft sy s).put y.d vy)).put x.d vx).v = (sy.put y.d vy).v := by
        funext n
        rw [put_v, put_v]
        show (if x.ft.wv.has n = true then sx.v n else ((mix y.ft sy s).put y.d vy).v n) = sy.v n
        rw [put_v]
        show (if x.ft.wv.has n = true then sx.v n else if y.ft.wv.has n = true then sy.v n else s.v n) = sy.v n
        cases hwx : x.ft.wv.has n with
        | true =>
          have := slApart_spec p2 n hwx
          rw [if_pos rfl, y3 n this, put_v]
        | false =>
          rw [if_neg (by simp)]
          cases hwy : y.ft.wv.has n with
          | true => rw [if_pos rfl]
          | false => rw [if_neg (by simp), y3 n hwy, put_v, x3 n hwx]
      have ea : ((mix x.ft sx ((mix y.ft sy s).put y.d vy)).put x.d vx).a = (sy.put y.d vy).a := by
        rw [put_a, put_a]
        show (if x.ft.wa = true then sx.a else ((mix y.ft sy s).put y.d vy).a) = sy.a
        rw [put_a]
        show (if x.ft.wa = true then sx.a else if y.ft.wa = true then sy.a else s.a) = sy.a
        cases hwx : x.ft.wa with
        | true =>
          have : y.ft.wa = false := by
            cases hwy : y.ft.wa with
            | false => rfl
            | true => rw [hwx, hwy] at p4; simp at p4
          rw [if_pos rfl, y4 this, put_a]
        | false =>
          rw [if_neg (by simp)]
          cases hwy : y.ft.wa with
          | true => rw [if_pos rfl]
          | false => rw [if_neg (by simp), y4 hwy, put_a, x4 hwx]
      have eh : ((mix x.ft sx ((mix y.ft sy s).put y.d vy)).put x.d vx).h = (sy.put y.d vy).h := by
        rw [put_h, put_h]
        show (if x.ft.wh = true then sx.h else ((mix y.ft sy s).put y.d vy).h) = sy.h
        rw [put_h]
        show (if x.ft.wh = true then sx.h else if y.ft.wh = true then sy.h else s.h) = sy.h
        cases hwx : x.ft.wh with
        | true =>
          have : y.ft.wh = false := by
            cases hwy : y.ft.wh with
            | false => rfl
            | true => rw [hwx, hwy] at p6; simp at p6
          rw [if_pos rfl, y5 this, put_h]
        | false =>
          rw [if_neg (by simp)]
          cases hwy : y.ft.wh with
          | true => rw [if_pos rfl]
          | false => rw [if_neg (by simp), y5 hwy, put_h, x5 hwx]
      have er : ((mix x.ft sx ((mix y.ft sy s).put y.d vy)).put x.d vx).ro = (sy.put y.d vy).ro := by
        rw [put_ro, put_ro]
        show ((mix y.ft sy s).put y.d vy).ro = sy.ro
        rw [put_ro, y2, put_ro, x2]; rfl
      generalize (mix x.ft sx ((mix y.ft sy s).put y.d vy)).put x.d vx = A at *
      generalize sy.put y.d vy = B at *
      obtain ⟨t1, v1, a1, h1, r1⟩ := A
      obtain ⟨t2, v2, a2, h2, r2⟩ := B
      simp only at et ev' ea eh er
      subst et; subst ev'; subst ea; subst eh; subst er
      rfl
    · cases h2
  · cases h1

/-- Instructions by their places. -/
def runX (C : Orc) (l : List AI) : List Nat → St → Option St
  | [], s => some s
  | i :: is, s => match l[i]? with
    | some x => match stepA C x s with
      | some s => runX C l is s
      | none => none
    | none => none

theorem runX_front (hC : OrcW C) {l : List AI} (hok : ∀ x, x ∈ l → okI x.i = true) {i : Nat} {x : AI} (hi : l[i]? = some x) {sf : St} : ∀ (pre post : List Nat) (s : St), WF s →
    (∀ j y, j ∈ pre → l[j]? = some y → indep y x = true) → runX C l (pre ++ i :: post) s = some sf → runX C l (i :: (pre ++ post)) s = some sf := by
  intro pre
  induction pre with
  | nil => intro post s F h hr; exact hr
  | cons j pre ih =>
    intro post s F h hr
    simp only [List.cons_append, runX] at hr
    split at hr
    · rename_i y hy
      split at hr
      · rename_i s1 h1
        have F1 := stepA_wf hC F (hok y (List.mem_of_getElem? hy)) h1
        have hr' := ih post s1 F1 (fun k z hk hz => h k z (by simp [hk]) hz) hr
        simp only [runX, hi] at hr'
        split at hr'
        · rename_i s2 h2
          obtain ⟨s3, h3, h4⟩ := swap hC F (hok y (List.mem_of_getElem? hy)) (hok x (List.mem_of_getElem? hi)) (h j y (by simp) hy) h1 h2
          simp only [runX, List.cons_append, hi, h3, hy, h4]
          exact hr'
        · cases hr'
      · cases hr
    · cases hr
end
end Go.Proofs.Bb
