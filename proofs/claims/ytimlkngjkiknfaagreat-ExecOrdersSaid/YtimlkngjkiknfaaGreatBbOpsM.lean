/- Values held against each other. -/
import Derived.Test.YtimlkngjkiknfaaGreatBbOpsL
import Derived.ChangeKeysEq
set_option linter.unusedSimpArgs false
set_option linter.unusedVariables false
namespace Go.Proofs.Bb
open Go

section
variable {P : Program} {s : St} {cx : Cx} {w : World} {a : Act} {o : Oper} {Q : Exit → Act → World → Prop} {C : Orc} {ro : Bool} {d : Nat} {v : AV} {s1 : St}

/-- The same on Go's values. -/
def gK : Kd → Value → Value → Option Bool
  | .b, .bool a, .bool b => some (a == b)
  | .i, .int k a, .int k' b => if k = k' then some (a == b) else none
  | .s, .string a, .string b => some (a == b)
  | _, _, _ => none
def gKs : List Kd → List Value → List Value → Option Bool
  | [], [], [] => some true
  | k :: ks, x :: xs, y :: ys => match gK k x y with
    | some true => gKs ks xs ys
    | some false => some false
    | none => none
  | _, _, _ => none

theorem gK_ok {σ : Sg} {k : Kd} {x y : AV} {u v : Value} {r : Bool} (hx : VR σ cx w x u) (hy : VR σ cx w y v) (h : eqK k x y = some r) : gK k u v = some r := by
  unfold eqK at h
  split at h
  · cases hx; cases hy; exact h
  · cases hx; cases hy; exact h
  · cases hx; cases hy; exact h
  · cases h

theorem gKs_ok {σ : Sg} : ∀ (ks : List Kd) (xs ys : List AV) (us vs : List Value) (r : Bool), us.length = xs.length → vs.length = ys.length →
    (∀ (i : Nat) (x : AV) (u : Value), xs[i]? = some x → us[i]? = some u → VR σ cx w x u) → (∀ (i : Nat) (x : AV) (u : Value), ys[i]? = some x → vs[i]? = some u → VR σ cx w x u) →
    eqKs ks xs ys = some r → gKs ks us vs = some r := by
  intro ks
  induction ks with
  | nil =>
    intro xs ys us vs r h1 h2 h3 h4 h
    cases xs <;> cases ys <;> simp [eqKs] at h
    subst h
    simp at h1 h2
    subst h1; subst h2; rfl
  | cons k ks ih =>
    intro xs ys us vs r h1 h2 h3 h4 h
    cases xs with
    | nil => simp [eqKs] at h
    | cons x xs =>
      cases ys with
      | nil => simp [eqKs] at h
      | cons y ys =>
        cases us with
        | nil => simp at h1
        | cons u us =>
          cases vs with
          | nil => simp at h2
          | cons v vs =>
            simp only [eqKs] at h
            have hk : ∀ q, eqK k x y = some q → gK k u v = some q := fun q hq => gK_ok (h3 0 x u rfl rfl) (h4 0 y v rfl rfl) hq
            split at h
            · rename_i he
              simp only [gKs, hk _ he]
              exact ih xs ys us vs r (by simpa using h1) (by simpa using h2) (fun i x u hx hu => h3 (i + 1) x u hx hu) (fun i x u hx hu => h4 (i + 1) x u hx hu) h
            · rename_i he
              simp only [gKs, hk _ he]
              exact h
            · cases h

theorem gKs_append : ∀ (ks ls : List Kd) (us vs : List Value), gKs (ks ++ ls) us vs = match gKs ks (us.take ks.length) (vs.take ks.length) with
    | some true => gKs ls (us.drop ks.length) (vs.drop ks.length)
    | some false => some false
    | none => none := by
  intro ks
  induction ks with
  | nil => intro ls us vs; simp [gKs]
  | cons k ks ih =>
    intro ls us vs
    cases us with
    | nil => simp [gKs]
    | cons u us =>
      cases vs with
      | nil => simp [gKs]
      | cons v vs =>
        simp only [List.cons_append, gKs, List.length_cons, List.take_succ_cons, List.drop_succ_cons]
        cases gK k u v with
        | none => rfl
        | some b =>
          cases b
          · rfl
          · exact ih ls us vs

theorem gKs_len : ∀ (ks : List Kd) (us vs : List Value) (r : Bool), gKs ks us vs = some true → us.length = ks.length ∧ vs.length = ks.length := by
  intro ks
  induction ks with
  | nil => intro us vs r h; cases us <;> cases vs <;> simp [gKs] at h ⊢
  | cons k ks ih =>
    intro us vs r h
    cases us with
    | nil => simp [gKs] at h
    | cons u us =>
      cases vs with
      | nil => simp [gKs] at h
      | cons v vs =>
        simp only [gKs] at h
        split at h
        · obtain ⟨h1, h2⟩ := ih us vs r h
          exact ⟨by simp [h1], by simp [h2]⟩
        · cases h
        · cases h

/-- What equalIn comes to, at a type's two values. -/
def EqAt (P : Program) (w : World) (t : TypeId) (ks : List Kd) (d : Nat) : Prop :=
  ∀ (us vs : List Value) (r : Bool), us.length = ks.length → vs.length = ks.length → gKs ks us vs = some r →
    (nOf P t = some none → ∀ u v, us = [u] → vs = [v] → (Op.equalIn d t u v).run P w = .ok r w) ∧
    (nOf P t = some (some ks.length) → (Op.equalIn d t (.agg us.toArray) (.agg vs.toArray)).run P w = .ok r w)

theorem gK1 {k : Kd} {u v : Value} {r : Bool} (h : gKs [k] [u] [v] = some r) : gK k u v = some r := by
  simp only [gKs] at h
  cases hg : gK k u v with
  | none => simp [hg] at h
  | some b => cases b <;> simp [hg] at h <;> simp [h]

theorem part1 {t : TypeId} {vs : Array Value} {o : Nat} {v : Value} (hn : nOf P t = some none) (h : vs[o]? = some v) : (part t vs o).run P w = .ok v w := by
  simp [part, isAgg_no hn, h]
theorem partN {t : TypeId} {vs : Array Value} {o n : Nat} (hn : nOf P t = some (some n)) : (part t vs o).run P w = .ok (.agg (vs.extract o (o + n))) w := by
  obtain ⟨h1, h2⟩ := nOf_some (w := w) hn
  simp [part, h1, h2]

theorem eqFields_ok {d : Nat} {rec : TypeId → Option (List Kd)} (hrec : ∀ t ks, rec t = some ks → EqAt P w t ks d) (us vs : List Value) :
    ∀ (fs : List Field) (k : Nat) (ks : List Kd) (r : Bool), fldKs P rec fs k = some ks → us.length = k + ks.length → vs.length = k + ks.length → gKs ks (us.drop k) (vs.drop k) = some r →
      (Op.eqFields d us.toArray vs.toArray fs).run P w = .ok r w := by
  intro fs
  induction fs with
  | nil =>
    intro k ks r h h1 h2 hg
    simp only [fldKs, Option.some.injEq] at h
    subst h
    have e1 : us.drop k = [] := List.drop_eq_nil_of_le (by simp at h1; omega)
    have e2 : vs.drop k = [] := List.drop_eq_nil_of_le (by simp at h2; omega)
    rw [e1, e2] at hg
    simp [gKs] at hg
    subst hg
    simp [Op.eqFields]
  | cons f fs ih =>
    intro k ks r h h1 h2 hg
    simp only [fldKs] at h
    split at h
    · rename_i hf
      obtain ⟨hn, hk⟩ := hf
      split at h
      · rename_i ks1 hr
        split at h
        · rename_i hsz
          split at h
          · rename_i ls hl
            simp only [Option.some.injEq] at h
            subst h
            rw [gKs_append] at hg
            simp only [List.length_append] at h1 h2
            have hlu : ((us.drop k).take ks1.length).length = ks1.length := by rw [List.length_take, List.length_drop]; omega
            have hlv : ((vs.drop k).take ks1.length).length = ks1.length := by rw [List.length_take, List.length_drop]; omega
            have hE : ∀ q, gKs ks1 ((us.drop k).take ks1.length) ((vs.drop k).take ks1.length) = some q → ∃ a b, (part f.type us.toArray f.offset).run P w = .ok a w ∧ (part f.type vs.toArray f.offset).run P w = .ok b w ∧ (Op.equalIn d f.type a b).run P w = .ok q w := by
              intro q hq
              obtain ⟨e1, e2⟩ := hrec _ _ hr _ _ q hlu hlv hq
              subst hk
              rcases hsz with ⟨hs1, hs2⟩ | hs
              · have e1 := e1 hs1
                have hu : us[f.offset]? = some (us[f.offset]'(by omega)) := List.getElem?_eq_getElem _
                have hv : vs[f.offset]? = some (vs[f.offset]'(by omega)) := List.getElem?_eq_getElem _
                refine ⟨us[f.offset]'(by omega), vs[f.offset]'(by omega), part1 hs1 (by simp), part1 hs1 (by simp), e1 _ _ ?_ ?_⟩
                · rw [hs2, List.drop_eq_getElem_cons (by omega)]; rfl
                · rw [hs2, List.drop_eq_getElem_cons (by omega)]; rfl
              · refine ⟨_, _, partN hs, partN hs, ?_⟩
                have := e2 hs
                have c1 : ∀ l : List Value, (List.take ks1.length (List.drop f.offset l)).toArray = l.toArray.extract f.offset (f.offset + ks1.length) := by
                  intro l; apply Array.ext'; simp [List.extract_eq_take_drop]
                rw [c1, c1] at this
                exact this
            split at hg
            · rename_i hq
              obtain ⟨a, b, p1, p2, p3⟩ := hE _ hq
              have := ih (k + ks1.length) ls r hl (by omega) (by omega) (by rw [List.drop_drop, List.drop_drop] at hg; exact hg)
              simp [Op.eqFields, hn, p1, p2, p3, this]
            · rename_i hq
              obtain ⟨a, b, p1, p2, p3⟩ := hE _ hq
              cases hg
              simp [Op.eqFields, hn, p1, p2, p3]
            · cases hg
          · cases h
        · cases h
      · cases h
    · cases h

theorem eqItems_ok {d : Nat} {e : TypeId} {k0 : IntKind} (he : P.underlying e = some (.int k0)) (us vs : List Value) : ∀ (m i : Nat) (r : Bool), us.length = i + m → vs.length = i + m → gKs (List.replicate m .i) (us.drop i) (vs.drop i) = some r →
    (Op.eqItems (d + 1) e 1 us.toArray vs.toArray (List.range' i m)).run P w = .ok r w := by
  intro m
  induction m with
  | zero =>
    intro i r h1 h2 h
    have e1 : us.drop i = [] := List.drop_eq_nil_of_le (by omega)
    have e2 : vs.drop i = [] := List.drop_eq_nil_of_le (by omega)
    rw [e1, e2] at h
    simp [gKs] at h
    subst h
    simp [Op.eqItems]
  | succ m ih =>
    intro i r h1 h2 h
    have hn : nOf P e = some none := by simp [nOf, isA, he]
    have hu : us.drop i = us[i]'(by omega) :: us.drop (i + 1) := List.drop_eq_getElem_cons (by omega)
    have hv : vs.drop i = vs[i]'(by omega) :: vs.drop (i + 1) := List.drop_eq_getElem_cons (by omega)
    rw [hu, hv, List.replicate_succ] at h
    simp only [gKs] at h
    have hstep : ∀ q, gK .i (us[i]'(by omega)) (vs[i]'(by omega)) = some q → (Op.equalIn (d + 1) e (us[i]'(by omega)) (vs[i]'(by omega))).run P w = .ok q w := by
      intro q hq
      generalize us[i]'(by omega) = x at hq
      generalize vs[i]'(by omega) = y at hq
      unfold gK at hq
      split at hq
      · rename_i heq; cases heq
      · split at hq
        · rename_i hk; subst hk; simp only [Option.some.injEq] at hq; rw [run_equalIn_int w d e _ _ _ _ he, hq]
        · cases hq
      · rename_i heq; cases heq
      · cases hq
    have px : (part e us.toArray (i * 1)).run P w = .ok (us[i]'(by omega)) w := part1 hn (by simp)
    have py : (part e vs.toArray (i * 1)).run P w = .ok (vs[i]'(by omega)) w := part1 hn (by simp)
    rw [List.range'_succ]
    simp only [Op.eqItems, Sem.run_bind, px, py, Result.andThen_ok]
    split at h
    · rename_i hq
      rw [hstep _ hq]
      have := ih (i + 1) r (by omega) (by omega) h
      simpa using this
    · rename_i hq
      rw [hstep _ hq]
      cases h
      simp
    · cases h

theorem equalIn_ok : ∀ (n : Nat) (t : TypeId) (ks : List Kd), cellKs P n t = some ks → ∀ d, n < d → EqAt P w t ks d := by
  intro n
  induction n with
  | zero => intro t ks h; simp [cellKs] at h
  | succ n ih =>
    intro t ks h d hd us vs r h1 h2 hg
    obtain ⟨d, rfl⟩ : ∃ d', d = d' + 1 := ⟨d - 1, by omega⟩
    simp only [cellKs] at h
    have hno : ∀ {td : TypeDesc}, P.underlying t = some td → (∀ fs, td ≠ .struct fs) → (∀ n e, td ≠ .array n e) → ∀ k, nOf P t ≠ some (some k) := by
      intro td htd h1 h2 k hk
      cases td <;> first | exact absurd rfl (h1 _) | exact absurd rfl (h2 _ _) | simp [nOf, isA, htd] at hk
    split at h
    · rename_i hu
      simp only [Option.some.injEq] at h; subst h
      refine ⟨fun _ u v e1 e2 => ?_, fun hk => absurd hk (hno hu (by simp) (by simp) _)⟩
      subst e1 e2
      have := gK1 hg
      unfold gK at this
      split at this <;> first | (rename_i heq; cases heq) | skip
      · simp only [Option.some.injEq] at this; rw [run_equalIn_bool' w d t _ _ hu, this]
      · cases this
    · rename_i k0 hu
      simp only [Option.some.injEq] at h; subst h
      refine ⟨fun _ u v e1 e2 => ?_, fun hk => absurd hk (hno hu (by simp) (by simp) _)⟩
      subst e1 e2
      have := gK1 hg
      unfold gK at this
      split at this
      · rename_i heq; cases heq
      · split at this
        · rename_i hk; subst hk; simp only [Option.some.injEq] at this; rw [run_equalIn_int w d t _ _ _ _ hu, this]
        · cases this
      · rename_i heq; cases heq
      · cases this
    · rename_i hu
      simp only [Option.some.injEq] at h; subst h
      refine ⟨fun _ u v e1 e2 => ?_, fun hk => absurd hk (hno hu (by simp) (by simp) _)⟩
      subst e1 e2
      have := gK1 hg
      unfold gK at this
      split at this
      · rename_i heq; cases heq
      · rename_i heq; cases heq
      · simp only [Option.some.injEq] at this; rw [run_equalIn_string w d t _ _ hu, ← beq_toListBytes, this]
      · cases this
    · rename_i fs hu
      split at h
      · rename_i hp
        refine ⟨fun hk => by simp [nOf, isA, hu] at hk, fun _ => ?_⟩
        have hf : P.fieldsOf t = fs := by simp [Program.fieldsOf, hu]
        rw [run_equalIn_agg w d t _ _ (by rw [hf]; exact hu) hp, hf]
        exact eqFields_ok (fun t ks h => ih t ks h d (by omega)) us vs fs.toList 0 ks r h (by omega) (by omega) (by simpa using hg)
      · cases h
    · rename_i len e hu
      split at h
      · rename_i k0 he
        split at h
        · rename_i hsz
          simp only [Option.some.injEq] at h; subst h
          refine ⟨fun hk => by simp [nOf, isA, hu] at hk, fun _ => ?_⟩
          obtain ⟨inf, _, _, hrs⟩ := szO_run (P := P) (w := w) hsz
          obtain ⟨d, rfl⟩ : ∃ d', d = d' + 1 := ⟨d - 1, by omega⟩
          have := eqItems_ok (w := w) (d := d) he us vs len 0 r (by simpa using h1) (by simpa using h2) (by simpa using hg)
          obtain ⟨inf, hi, hsi, _⟩ := szO_run (P := P) (w := w) hsz
          rw [run_equalIn_array w _ _ _ hu hi, List.range_eq_range', show P.cellsOf e = 1 by simp [Program.cellsOf, hi, hsi]]
          exact this
        · cases h
      · cases h
    · cases h

/-- Two values of a type held against each other. -/
theorem equal_ok {ag : Bool} {ks : List Kd} {t : TypeId} {x y : AV} {u v : Value} {r : Bool} (h : eqOK P t ag ks = true) (hx : VR s.sg cx w x u) (hy : VR s.sg cx w y v) (he : eqV ag ks x y = some r) :
    (Op.equal t u v).run P w = .ok r w ∧ (ag = true → ∃ us vs, u = .agg us ∧ v = .agg vs ∧ gKs ks us.toList vs.toList = some r ∧ us.size = ks.length ∧ vs.size = ks.length) ∧ (ag = false → ∃ k, ks = [k] ∧ gK k u v = some r) := by
  unfold eqOK at h
  simp only [Bool.and_eq_true, decide_eq_true_eq, Bool.or_eq_true] at h
  obtain ⟨⟨h1, h2⟩, h3⟩ := h
  have hE := equalIn_ok (w := w) 9 t ks h2 Op.maxDepth (by decide)
  unfold eqV at he
  split at he
  · rename_i ca cb
    split at he
    · rename_i hl
      obtain ⟨us, rfl, a1, a2, a3⟩ := agg_inv hx
      obtain ⟨vs, rfl, b1, b2, b3⟩ := agg_inv hy
      have hg := gKs_ok ks ca cb us.toList vs.toList r (by simpa using a1) (by simpa using b1) (fun i x u hx hu => a2 i x u hx (by simpa using hu)) (fun i x u hx hu => b2 i x u hx (by simpa using hu)) he
      have := (hE us.toList vs.toList r (by simpa using a1.trans hl.1) (by simpa using b1.trans hl.2) hg).2 (by simpa using h1)
      exact ⟨this, fun _ => ⟨us, vs, rfl, rfl, hg, a1.trans hl.1, b1.trans hl.2⟩, fun h => absurd h (by simp)⟩
    · cases he
  · have hk := h3.resolve_left (by simp)
    obtain ⟨k, rfl⟩ : ∃ k, ks = [k] := by
      cases ks with
      | nil => simp at hk
      | cons k l => cases l with
        | nil => exact ⟨k, rfl⟩
        | cons _ _ => simp at hk
    have hg := gKs_ok [k] [_] [_] [u] [v] r rfl rfl (fun i x u hx' hu => by cases i with | zero => simp at hx' hu; subst hx'; subst hu; exact hx | succ i => simp at hx') (fun i x u hx' hu => by cases i with | zero => simp at hx' hu; subst hx'; subst hu; exact hy | succ i => simp at hx') he
    have := (hE [u] [v] r rfl rfl hg).1 (by simpa using h1) u v rfl rfl
    exact ⟨this, (fun h => absurd h (by simp)), fun _ => ⟨k, rfl, gK1 hg⟩⟩
  · cases he

theorem eqv_ok {neg ag : Bool} {ks : List Kd} {x y : X} (ho : chkI P o.op (.eqv neg ag ks x y) = true) (M : MR s cx w) (T : TR s cx w a) (h : step C ro d s (.eqv neg ag ks x y) = some (v, s1)) : Post P o a s cx w v s1 Q := by
  simp only [chkI] at ho
  split at ho
  · rename_i op t x' y' u' hop
    simp only [Bool.and_eq_true, Bool.or_eq_true, decide_eq_true_eq] at ho
    obtain ⟨⟨⟨⟨⟨h1, h2⟩, h3⟩, h4⟩, h5⟩, h6⟩ := ho
    simp only [step, Option.map_eq_some_iff, Prod.mk.injEq] at h
    obtain ⟨r, hr, rfl, rfl⟩ := h
    obtain ⟨e1, e2, e3⟩ := equal_ok h4 (ev_ok T h2) (ev_ok T h3) hr
    refine post_pure M (v' := .bool (if neg then !r else r)) ?_ (.bool _)
    have h5' : P.eqGuardType P.depth t = false := by simpa using h5
    cases ag with
    | true =>
      obtain ⟨us, vs, eu, ev, _⟩ := e2 rfl
      rw [eu, ev] at e1
      have hg := run_eqGuard_agg (P := P) w op t x' y' us vs h5'
      have e1' : (Op.equalIn 10000 t (.agg us) (.agg vs)).run P w = .ok r w := e1
      split at h1
      · have : neg = false := by simpa using h1
        subst this
        simp [execOp, hop, eu, ev, hg, run_eql_struct, e1']
      · have : neg = true := h1
        subst this
        simp [execOp, hop, eu, ev, hg, run_neq_struct, e1']
      · cases h1
    | false =>
      obtain ⟨k, hk, hgk⟩ := e3 rfl
      have hb := h6.resolve_left (by simp)
      rw [hk] at hb
      cases hb
      unfold gK at hgk
      split at hgk
      · rename_i ba bb _ eu ev
        rw [eu, ev] at e1
        have hg := eqGuard_no (P := P) (w := w) op t x' y' (.bool ba) (.bool bb) ⟨by simp, by simp⟩
        have hne : ∀ op, (op = .eql ∨ op = .neq) → (binOp op t (.bool ba) (.bool bb)).run P w = .ok (.bool (if op = .neq then !r else r)) w := by
          intro op hop
          rcases hop with rfl | rfl <;> simp [binOp, e1]
        split at h1
        · have : neg = false := by simpa using h1
          subst this
          simp [execOp, hop, eu, ev, hg, hne]
        · have : neg = true := h1
          subst this
          simp [execOp, hop, eu, ev, hg, hne]
        · cases h1
      all_goals first | (rename_i heq _ _; cases heq) | (rename_i heq _; cases heq) | cases hgk
  · cases ho

theorem bin_eq {t : TypeId} {u v : Value} {r : Bool} (hq : (Op.equal t u v).run P w = .ok r w)
    (hs : (∃ p q, u = .pointer p ∧ v = .pointer q) ∨ ((u = .nilFunc ∨ ∃ f a b, u = .func f a b) ∧ (v = .nilFunc ∨ ∃ f a b, v = .func f a b))) :
    (binOp .eql t u v).run P w = .ok (.bool r) w ∧ (binOp .neq t u v).run P w = .ok (.bool (!r)) w ∧ ((∀ a b, u ≠ .agg a ∨ v ≠ .agg b) ∧ (u ≠ .nilIface ∨ v ≠ .nilIface)) := by
  rcases hs with ⟨p, q, rfl, rfl⟩ | ⟨rfl | ⟨f, a, b, rfl⟩, rfl | ⟨g, c, d, rfl⟩⟩ <;>
  exact ⟨by simp only [binOp, Sem.run_bind, hq, Result.andThen_ok, Sem.run_pure], by simp only [binOp, Sem.run_bind, hq, Result.andThen_ok, Sem.run_pure], by simp, by simp⟩

theorem eqN_run {fn : Bool} {t : TypeId} {x y : AV} {u v : Value} {r : Bool} (hP : fn = false → ∃ e, P.underlying t = some (.pointer e)) (hF : fn = true → ∃ e1 e2 e3, P.underlying t = some (.func e1 e2 e3))
    (hx : VR s.sg cx w x u) (hy : VR s.sg cx w y v) (hr : eqN fn x y = some r) (d : Nat) : (Op.equalIn (d + 1) t u v).run P w = .ok r w ∧
    ((∃ p q, u = .pointer p ∧ v = .pointer q) ∨ ((u = .nilFunc ∨ ∃ f a b, u = .func f a b) ∧ (v = .nilFunc ∨ ∃ f a b, v = .func f a b))) := by
  unfold eqN at hr
  split at hr
  · obtain ⟨e, ht⟩ := hP rfl
    cases hx; cases hy; cases hr
    exact ⟨by simp [Op.equalIn, run_underlying ht], .inl ⟨_, _, rfl, rfl⟩⟩
  · obtain ⟨e, ht⟩ := hP rfl
    cases hx; cases hy; cases hr
    exact ⟨by simp [Op.equalIn, run_underlying ht], .inl ⟨_, _, rfl, rfl⟩⟩
  · obtain ⟨e, ht⟩ := hP rfl
    cases hx; cases hy; cases hr
    exact ⟨by simp [Op.equalIn, run_underlying ht], .inl ⟨_, _, rfl, rfl⟩⟩
  · obtain ⟨e, ht⟩ := hP rfl
    cases hx; cases hy; cases hr
    exact ⟨by simp [Op.equalIn, run_underlying ht], .inl ⟨_, _, rfl, rfl⟩⟩
  · obtain ⟨e, ht⟩ := hP rfl
    cases hx; cases hy; cases hr
    exact ⟨by simp [Op.equalIn, run_underlying ht], .inl ⟨_, _, rfl, rfl⟩⟩
  · obtain ⟨f1, f2, f3, ht⟩ := hF rfl
    cases hx; cases hy; cases hr
    exact ⟨by simp [Op.equalIn, run_underlying ht], .inr ⟨.inl rfl, .inl rfl⟩⟩
  · obtain ⟨f1, f2, f3, ht⟩ := hF rfl
    cases hx; cases hy; cases hr
    exact ⟨by simp [Op.equalIn, run_underlying ht], .inr ⟨.inl rfl, .inr ⟨_, _, _, rfl⟩⟩⟩
  · obtain ⟨f1, f2, f3, ht⟩ := hF rfl
    cases hx; cases hy; cases hr
    exact ⟨by simp [Op.equalIn, run_underlying ht], .inr ⟨.inr ⟨_, _, _, rfl⟩, .inl rfl⟩⟩
  · cases hr

theorem eqn_ok {neg fn : Bool} {x y : X} (ho : chkI P o.op (.eqn neg fn x y) = true) (M : MR s cx w) (T : TR s cx w a) (h : step C ro d s (.eqn neg fn x y) = some (v, s1)) : Post P o a s cx w v s1 Q := by
  simp only [chkI] at ho
  split at ho
  · rename_i op t x' y' u' hop
    simp only [Bool.and_eq_true] at ho
    obtain ⟨⟨⟨h1, h2⟩, h3⟩, h4⟩ := ho
    simp only [step, Option.map_eq_some_iff, Prod.mk.injEq] at h
    obtain ⟨r, hr, rfl, rfl⟩ := h
    have hP : fn = false → ∃ e, P.underlying t = some (.pointer e) := fun hf => by
      subst hf
      split at h4
      · rename_i e he; exact ⟨e, he⟩
      · cases h4
      · cases h4
    have hF : fn = true → ∃ e1 e2 e3, P.underlying t = some (.func e1 e2 e3) := fun hf => by
      subst hf
      split at h4
      · cases h4
      · rename_i e1 e2 e3 he; exact ⟨e1, e2, e3, he⟩
      · cases h4
    obtain ⟨q1, q2⟩ := eqN_run hP hF (ev_ok T h2) (ev_ok T h3) hr 9999
    obtain ⟨b1, b2, b3⟩ := bin_eq (t := t) (r := r) q1 q2
    split at h1
    · have : neg = false := by simpa using h1
      subst this
      refine post_pure M (v' := .bool r) ?_ (.bool _)
      simp only [execOp, hop, Sem.run_bind, eqGuard_no (P := P) (w := w) _ t x' y' _ _ b3, b1, Result.andThen_ok, Sem.run_pure]
    · have : neg = true := h1
      subst this
      refine post_pure M (v' := .bool (!r)) ?_ (.bool _)
      simp only [execOp, hop, Sem.run_bind, eqGuard_no (P := P) (w := w) _ t x' y' _ _ b3, b2, Result.andThen_ok, Sem.run_pure]
    · cases h1
  · cases ho

end
end Go.Proofs.Bb
