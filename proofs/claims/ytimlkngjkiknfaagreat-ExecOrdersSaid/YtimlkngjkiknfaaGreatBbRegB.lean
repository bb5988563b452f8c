/- Regions: what the check asks, and that it is enough. -/
import Derived.Test.YtimlkngjkiknfaaGreatBbReg
set_option linter.unusedSimpArgs false
set_option linter.unusedVariables false
namespace Go.Proofs.Bb
open Go

def gOK (ops : Array Oper) (o : Oper) (i : AI) : Bool :=
  match o.guard, i.g with
  | none, none => true
  | some (j, b), some (t, b') => decide (b = b') && decide ((ops[j]?).bind (·.dst) = some t)
  | _, _ => false

def chkO (P : Program) (N : Nat) (ops : Array Oper) (o : Oper) (i : AI) : Bool :=
  decide (o.dst = i.d) && gOK ops o i && chkI P o.op i.i && okI i.i && (match o.dst with | some d => decide (d < N) | none => true)

def chkOs (P : Program) (N : Nat) (ops : Array Oper) : List Oper → List AI → Bool
  | [], [] => true
  | o :: os, i :: is => chkO P N ops o i && chkOs P N ops os is
  | _, _ => false

/-- Which operations come ahead, by bits. -/
def predM (acc : List Nat) : List Edge → Nat → Nat
  | [], m => m
  | e :: es, m => predM acc es (if Region.binds .any e then m ||| (1 <<< e.on) ||| acc.getD e.on 0 else m)
def chkDr (all : List AI) : List Oper → List AI → Nat → List Nat → Bool
  | o :: os, x :: xs, i, M =>
    o.after.toList.all (fun e => !Region.binds .any e || decide (e.on < i)) &&
    (List.range i).all (fun j => (predM M o.after.toList 0).testBit j || (match all[j]? with | some y => indep y x | none => false)) && chkDr all os xs (i + 1) (M ++ [predM M o.after.toList 0])
  | _, _, _, _ => true

def chkR (P : Program) (N : Nat) (ops : Array Oper) (draw : Bool) (l : List AI) : Bool :=
  chkOs P N ops ops.toList l && (!draw || chkDr l ops.toList l 0 [])

/-- One operation comes ahead of another. -/
inductive Desc (ops : Array Oper) : Nat → Nat → Prop
  | step {i : Nat} {o : Oper} {e : Edge} (h : ops[i]? = some o) (he : e ∈ o.after) (hb : Region.binds .any e = true) : Desc ops i e.on
  | trans {i j : Nat} {o : Oper} {e : Edge} (h : ops[i]? = some o) (he : e ∈ o.after) (hb : Region.binds .any e = true) (hd : Desc ops e.on j) : Desc ops i j

theorem predM_spec (acc : List Nat) : ∀ (es : List Edge) (m j : Nat), (predM acc es m).testBit j = true → m.testBit j = true ∨ ∃ e, e ∈ es ∧ Region.binds .any e = true ∧ (e.on = j ∨ (acc.getD e.on 0).testBit j = true) := by
  intro es
  induction es with
  | nil => intro m j h; exact .inl h
  | cons e es ih =>
    intro m j h
    simp only [predM] at h
    rcases ih _ _ h with h | ⟨e', h1, h2, h3⟩
    · split at h
      · rename_i hb
        simp only [Nat.testBit_or, Bool.or_eq_true] at h
        rcases h with (h | h) | h
        · exact .inl h
        · refine .inr ⟨e, by simp, hb, .inl ?_⟩
          rw [Nat.one_shiftLeft, Nat.testBit_two_pow] at h
          simpa using h
        · exact .inr ⟨e, by simp, hb, .inr h⟩
      · exact .inl h
    · exact .inr ⟨e', by simp [h1], h2, h3⟩

/-- What the check of a drawn region says. -/
theorem chkDr_spec {ops : Array Oper} {all : List AI} : ∀ (os : List Oper) (xs : List AI) (i : Nat) (M : List Nat), chkDr all os xs i M = true → M.length = i → xs.length = os.length → (∀ k, k < os.length → ops[i + k]? = os[k]?) →
    (∀ k j, k < i → (M.getD k 0).testBit j = true → Desc ops k j) →
    ∀ k o x, os[k]? = some o → xs[k]? = some x → (∀ e, e ∈ o.after → Region.binds .any e = true → e.on < i + k) ∧ ∀ j, j < i + k → Desc ops (i + k) j ∨ ∃ y, all[j]? = some y ∧ indep y x = true := by
  intro os
  induction os with
  | nil => intro xs i M h hM hl ho hD k o x hk; simp at hk
  | cons o os ih =>
    intro xs i M h hM hl ho hD k o' x' hk hx
    cases xs with
    | nil => simp at hl
    | cons x xs =>
      simp only [chkDr, Bool.and_eq_true] at h
      obtain ⟨⟨h1, h2⟩, h3⟩ := h
      have ho0 : ops[i]? = some o := by have := ho 0 (by simp); simpa using this
      have hd : ∀ j, (predM M o.after.toList 0).testBit j = true → Desc ops i j := by
        intro j hj
        rcases predM_spec M _ _ _ hj with hj | ⟨e, e1, e2, e3⟩
        · simp at hj
        · have he : e ∈ o.after := Array.mem_toList_iff.1 e1
          rcases e3 with rfl | e3
          · exact .step ho0 he e2
          · have hlt : e.on < i := by
              have := List.all_eq_true.1 h1 e e1
              simp only [e2, Bool.not_true, Bool.false_or, decide_eq_true_eq] at this
              exact this
            exact .trans ho0 he e2 (hD _ _ hlt e3)
      cases k with
      | zero =>
        simp only [List.getElem?_cons_zero, Option.some.injEq] at hk hx
        subst hk; subst hx
        refine ⟨fun e he hb => ?_, fun j hj => ?_⟩
        · have := List.all_eq_true.1 h1 e (Array.mem_toList_iff.2 he)
          simp only [hb, Bool.not_true, Bool.false_or, decide_eq_true_eq] at this
          exact this
        · have := List.all_eq_true.1 h2 j (List.mem_range.2 hj)
          simp only [Bool.or_eq_true] at this
          rcases this with h | h
          · exact .inl (hd j h)
          · split at h
            · rename_i y hy; exact .inr ⟨y, hy, h⟩
            · cases h
      | succ k =>
        have := ih xs (i + 1) (M ++ [predM M o.after.toList 0]) h3 (by simp [hM]) (by simpa using hl) (fun k hk => by have := ho (k + 1) (by simpa using hk); rw [show i + 1 + k = i + (k + 1) by omega]; simpa using this)
          (fun k j hk hj => by
            rcases Nat.lt_or_ge k i with hki | hki
            · refine hD k j hki ?_
              rw [List.getD_eq_getElem?_getD, List.getElem?_append_left (by omega), ← List.getD_eq_getElem?_getD] at hj
              exact hj
            · have : k = i := by omega
              subst this
              rw [List.getD_eq_getElem?_getD, List.getElem?_append_right (by omega)] at hj
              simp [hM] at hj
              exact hd j hj) k o' x' (by simpa using hk) (by simpa using hx)
        rw [show i + 1 + k = i + (k + 1) by omega] at this
        exact this

theorem desc_listed {ops : Array Oper} {listed : Array Bool} (hdc : ∀ k o, ops[k]? = some o → listed.getD k false = true → ∀ e, e ∈ o.after → Region.binds .any e = true → listed.getD e.on false = true) {i j : Nat} (h : Desc ops i j) :
    (∀ o, ops[i]? = some o → ∀ e, e ∈ o.after → Region.binds .any e = true → listed.getD e.on false = true) → listed.getD j false = true := by
  induction h with
  | step h he hb => intro hi; exact hi _ h _ he hb
  | trans h he hb hd ih => intro hi; exact ih (fun o ho e' he' hb' => hdc _ o ho (hi _ h _ he hb) e' he' hb')

/-- How the state and the frame stand to one another. -/
structure Rel (N : Nat) (s : St) (cx : Cx) (w : World) (a : Act) : Prop where
  M : MR s cx w
  F : WF s
  T : TR s cx w a
  n : N ≤ a.tmps.size
  d : a.defers = []

section
variable {P : Program} {C : Orc} {N : Nat} {s : St} {cx : Cx} {w : World} {a : Act} {Q : Exit → Act → World → Prop} {v : AV} {s1 : St}

theorem put_mr {d : Option Nat} (M : MR s cx w) : MR (s.put d v) cx w := by
  cases d with
  | none => exact M
  | some d => exact ⟨M.live, M.zs, M.mu, M.fz, M.emp, M.dis, M.maps, M.mdis, M.ims⟩
theorem put_go {s0 : St} {cx0 : Cx} {w0 : World} {d : Option Nat} (G : Go1 s0 cx0 w0 s cx w) : Go1 s0 cx0 w0 (s.put d v) cx w := by
  cases d with
  | none => exact G
  | some d => exact ⟨G.ext, G.fr, G.own, G.imo, G.os, G.tape, G.output, G.size⟩
theorem put_sg {d : Option Nat} : (s.put d v).sg = s.sg := by cases d <;> rfl

theorem put_tr {d : Option Nat} {v' : Value} (T : TR s cx w a) (hv : VR s.sg cx w v v') (hd : ∀ k, d = some k → k < a.tmps.size) : TR (s.put d v) cx w (a.put d v') := by
  intro t
  rw [put_sg]
  cases d with
  | none => exact T t
  | some k =>
    show VR s.sg cx w (upd s.t k v t) ((a.tmps.setIfInBounds k v').getD t undef)
    by_cases e : t = k
    · subst e
      rw [upd_eq]
      have := hd t rfl
      simp [this, hv]
    · rw [upd_ne _ _ e]
      have := T t
      simpa [Array.getElem?_setIfInBounds_ne (Ne.symm e)] using this

theorem wanted_of {ops : Array Oper} {o : Oper} {x : AI} {b : Bool} (T : TR s cx w a) (hg : gOK ops o x = true) (hw : wantA s.t x.g = some b) : Region.wanted o (yielded ops a.tmps) = b := by
  unfold gOK at hg
  split at hg
  · rename_i h1 h2
    rw [h2] at hw
    simp only [wantA, Option.some.injEq] at hw
    subst hw
    simp [Region.wanted, h1]
  · rename_i j bb t b' h1 h2
    simp only [Bool.and_eq_true, decide_eq_true_eq] at hg
    obtain ⟨rfl, hg⟩ := hg
    rw [h2] at hw
    have hT := T t
    have hy : yielded ops a.tmps j = match a.tmps[t]? with | some (.bool c) => some c | _ => none := by
      unfold yielded
      rw [hg]
      rfl
    simp only [Region.wanted, h1, hy]
    simp only [wantA] at hw
    split at hw
    · rename_i c hc
      rw [hc] at hT
      have hb := bool_inv hT
      simp only [Option.some.injEq] at hw
      subst hw
      cases hk : a.tmps[t]? with
      | none => simp [hk, undef] at hb
      | some u =>
        simp [hk] at hb
        subst hb
        simp
    · rename_i hc
      rw [hc] at hT
      obtain ⟨vs, hv, _⟩ := tup_inv hT
      simp only [Option.some.injEq] at hw
      subst hw
      cases hk : a.tmps[t]? with
      | none => simp
      | some u =>
        simp [hk] at hv
        subst hv
        simp
    · cases hw
  · cases hg

theorem op_ok (hW : OrcW C) (hC : OrcOK P C) {ops : Array Oper} {o : Oper} {x : AI} {i : Nat} {K : Act → World → Prop} (hi : ops[i]? = some o) (hc : chkO P N ops o x = true) (R : Rel N s cx w a) (h : stepA C x s = some s1)
    (hK : ∀ cx' w' a', Go1 s cx w s1 cx' w' → Rel N s1 cx' w' a' → K a' w') : wpOp P ops Q i K a w := by
  simp only [chkO, Bool.and_eq_true, decide_eq_true_eq] at hc
  obtain ⟨⟨⟨⟨hd, hg⟩, hI⟩, hok⟩, hN⟩ := hc
  have hN' : ∀ k, x.d = some k → k < a.tmps.size := by
    intro k hk
    rw [hd, hk] at hN
    simp only [decide_eq_true_eq] at hN
    exact Nat.lt_of_lt_of_le hN R.n
  unfold stepA at h
  split at h
  · rename_i v s2 h2
    simp only [Option.some.injEq] at h; subst h
    have Kp := stepG_kp hW R.F hok h2
    have fin : ∀ cx' w' v', Go1 s cx w s2 cx' w' → MR s2 cx' w' → VR s2.sg cx' w' v v' → K (a.put o.dst v') w' := by
      intro cx' w' v' g m r
      rw [hd]
      refine hK cx' w' _ (put_go g) ⟨put_mr m, put_wf Kp.f Kp.v, put_tr (fun t => ?_) r hN', ?_, ?_⟩
      · rw [Kp.g.t]; exact (R.T t).ext g.ext
      · cases x.d with
        | none => exact R.n
        | some k => simpa [Act.put] using R.n
      · cases x.d with
        | none => exact R.d
        | some k => exact R.d
    unfold stepG at h2
    unfold wpOp
    rw [hi]
    split at h2
    · rename_i hw
      simp only [wanted_of R.T hg hw, if_true]
      exact .inl (step_ok hW hC hI hok R.M R.F R.T h2 K (fun v' w' cx' g m r => fin cx' w' v' g m r))
    · rename_i hw
      simp only [wanted_of R.T hg hw, Bool.false_eq_true, if_false]
      simp only [Option.some.injEq, Prod.mk.injEq] at h2; obtain ⟨rfl, rfl⟩ := h2
      exact fin cx w undef (.refl ..) R.M (VR.undef _ _ _)
    · cases h2
  · cases h

theorem chkOs_get {ops : Array Oper} : ∀ (os : List Oper) (l : List AI), chkOs P N ops os l = true → l.length = os.length ∧ ∀ (i : Nat) (o : Oper) (x : AI), os[i]? = some o → l[i]? = some x → chkO P N ops o x = true := by
  intro os
  induction os with
  | nil =>
    intro l h
    cases l with
    | nil => exact ⟨rfl, fun i o x h => by simp at h⟩
    | cons x l => cases h
  | cons o os ih =>
    intro l h
    cases l with
    | nil => cases h
    | cons x l =>
      simp only [chkOs, Bool.and_eq_true] at h
      obtain ⟨h1, h2⟩ := ih l h.2
      refine ⟨by simp [h1], fun i o' x' ho hx => ?_⟩
      cases i with
      | zero => simp at ho hx; subst ho; subst hx; exact h.1
      | succ i => exact h2 i o' x' (by simpa using ho) (by simpa using hx)

theorem ops_ok (hW : OrcW C) (hC : OrcOK P C) {ops : Array Oper} {l : List AI} (hl : l.length = ops.size) (hc : ∀ (i : Nat) (o : Oper) (x : AI), ops[i]? = some o → l[i]? = some x → chkO P N ops o x = true) {sf : St} : ∀ (is : List Nat) (s : St) (cx : Cx) (w : World) (a : Act), Rel N s cx w a → runX C l is s = some sf →
    (∀ cx' w' a', Go1 s cx w sf cx' w' → Rel N sf cx' w' a' → Q .normal a' w') → wpOps P ops Q is a w := by
  intro is
  induction is with
  | nil =>
    intro s cx w a R h hQ
    simp only [runX, Option.some.injEq] at h; subst h
    exact hQ cx w a (.refl ..) R
  | cons i is ih =>
    intro s cx w a R h hQ
    rw [wpOps_cons]
    simp only [runX] at h
    split at h
    · rename_i x hx
      split at h
      · rename_i s1 h1
        have hi : i < ops.size := by have := (List.getElem?_eq_some_iff.1 hx).1; omega
        refine op_ok hW hC (Array.getElem?_eq_getElem hi) (hc i _ x (Array.getElem?_eq_getElem hi) hx) R h1 (fun cx' w' a' g r => ?_)
        exact ih s1 cx' w' a' r h (fun cx2 w2 a2 g2 r2 => hQ cx2 w2 a2 (g.trans g2) r2)
      · cases h
    · cases h

theorem runX_range {l : List AI} : ∀ (m : List AI) (k : Nat) (s : St), (∀ j, j < m.length → l[k + j]? = m[j]?) → runX C l (List.range' k m.length) s = runI C m s := by
  intro m
  induction m with
  | nil => intro k s h; rfl
  | cons x m ih =>
    intro k s h
    have h0 := h 0 (by simp)
    simp only [Nat.add_zero, List.getElem?_cons_zero] at h0
    simp only [List.length_cons, List.range'_succ, runX, runI, h0]
    cases stepA C x s with
    | none => rfl
    | some s1 => exact ih (k + 1) s1 (fun j hj => by have := h (j + 1) (by simpa using hj); rw [show k + 1 + j = k + (j + 1) by omega]; simpa using this)

theorem runX_all {l : List AI} {s : St} : runX C l (List.range l.length) s = runI C l s := by
  rw [List.range_eq_range']
  exact runX_range l 0 s (fun j _ => by simp)

theorem any_ok (hW : OrcW C) (hC : OrcOK P C) {ops : Array Oper} {l : List AI} (hl : l.length = ops.size) (hc : ∀ (i : Nat) (o : Oper) (x : AI), ops[i]? = some o → l[i]? = some x → chkO P N ops o x = true)
    (hd : ∀ (i : Nat) (o : Oper) (x : AI), ops[i]? = some o → l[i]? = some x → (∀ e, e ∈ o.after → Region.binds .any e = true → e.on < i) ∧ ∀ j, j < i → Desc ops i j ∨ ∃ y, l[j]? = some y ∧ indep y x = true) {sf : St} :
    ∀ (fuel : Nat) (listed : Array Bool) (rem : List Nat) (s : St) (cx : Cx) (w : World) (a : Act), rem.length = fuel → rem = (List.range ops.size).filter (fun i => !listed.getD i true) → listed.size = ops.size →
    (∀ k o, ops[k]? = some o → listed.getD k false = true → ∀ e, e ∈ o.after → Region.binds .any e = true → listed.getD e.on false = true) →
    Rel N s cx w a → runX C l rem s = some sf → (∀ cx' w' a', Go1 s cx w sf cx' w' → Rel N sf cx' w' a' → Q .normal a' w') → wpAny P .any ops Q fuel listed a w := by
  have gd : ∀ (listed : Array Bool) k, listed.size = ops.size → k < ops.size → listed.getD k true = listed.getD k false := by
    intro listed k h1 h2
    have : k < listed.size := by omega
    simp [this]
  intro fuel
  induction fuel with
  | zero =>
    intro listed rem s cx w a hr hrem hsz hdc R h hQ
    have hr0 : rem = [] := List.length_eq_zero_iff.1 hr
    have hready : Region.ready .any ops listed = [] := by
      rw [List.eq_nil_iff_forall_not_mem]
      intro i hi
      obtain ⟨h1, o, h2, _⟩ := mem_ready.1 hi
      have : i ∈ rem := by
        rw [hrem, List.mem_filter]
        exact ⟨List.mem_range.2 (Array.getElem?_eq_some_iff.1 h2).1, by rw [h1]; rfl⟩
      rw [hr0] at this; simp at this
    subst hr0
    simp only [runX, Option.some.injEq] at h; subst h
    exact ⟨hready, hQ cx w a (.refl ..) R⟩
  | succ fuel ih =>
    intro listed rem s cx w a hr hrem hsz hdc R h hQ
    have hsort : rem.Pairwise (· < ·) := by rw [hrem]; exact List.pairwise_lt_range.filter _
    have hmem : ∀ i, i ∈ rem ↔ i < ops.size ∧ listed.getD i false = false := by
      intro i
      rw [hrem, List.mem_filter, List.mem_range]
      constructor
      · rintro ⟨h1, h2⟩; exact ⟨h1, by rw [← gd listed i hsz h1]; simpa using h2⟩
      · rintro ⟨h1, h2⟩; exact ⟨h1, by rw [gd listed i hsz h1, h2]; rfl⟩
    refine ⟨fun hnil => ?_, fun i hi => ?_⟩
    · exfalso
      cases hrc : rem with
      | nil => rw [hrc] at hr; simp at hr
      | cons i0 rest =>
        have hi0 := (hmem i0).1 (by rw [hrc]; simp)
        have : i0 ∈ Region.ready .any ops listed := by
          refine mem_ready.2 ⟨by rw [gd listed i0 hsz hi0.1]; exact hi0.2, _, Array.getElem?_eq_getElem hi0.1, fun e he hb => ?_⟩
          have hx : i0 < l.length := by omega
          have hlt := (hd i0 _ _ (Array.getElem?_eq_getElem hi0.1) (List.getElem?_eq_getElem hx)).1 e he hb
          cases hle : listed.getD e.on false with
          | true => rfl
          | false =>
            have hm := (hmem e.on).2 ⟨by omega, hle⟩
            rw [hrc] at hm hsort
            rcases List.mem_cons.1 hm with hm | hm
            · omega
            · have := (List.pairwise_cons.1 hsort).1 _ hm; omega
        rw [hnil] at this; simp at this
    · obtain ⟨h1, o, ho, hall⟩ := mem_ready.1 hi
      have hilt : i < ops.size := (Array.getElem?_eq_some_iff.1 ho).1
      have him : i ∈ rem := (hmem i).2 ⟨hilt, by rw [← gd listed i hsz hilt]; exact h1⟩
      obtain ⟨pre, post, hpp⟩ := List.append_of_mem him
      have hx : i < l.length := by omega
      have hxi := List.getElem?_eq_getElem hx
      generalize hxv : l[i] = x at hxi
      have hpre : ∀ j, j ∈ pre → j < i := by
        intro j hj
        rw [hpp] at hsort
        exact (List.pairwise_append.1 hsort).2.2 j hj i (by simp)
      have hpost : ∀ j, j ∈ post → i < j := by
        intro j hj
        rw [hpp] at hsort
        exact (List.pairwise_cons.1 (List.pairwise_append.1 hsort).2.1).1 j hj
      rw [hpp] at h
      have hok : ∀ y, y ∈ l → okI y.i = true := by
        intro y hy
        obtain ⟨j, hj⟩ := List.getElem?_of_mem hy
        have hj2 : j < ops.size := by have := (List.getElem?_eq_some_iff.1 hj).1; omega
        have := hc j _ y (Array.getElem?_eq_getElem hj2) hj
        simp only [chkO, Bool.and_eq_true] at this
        exact this.1.2
      have hfr := runX_front hW hok hxi pre post s R.F (fun j y hj hy => by
        rcases (hd i o x ho hxi).2 j (hpre j hj) with hD | ⟨y', hy', hin⟩
        · have hlj := desc_listed hdc hD (fun o' ho' e he hb => by rw [ho] at ho'; cases ho'; exact hall e he hb)
          have := ((hmem j).1 (by rw [hpp]; simp [hj])).2
          rw [hlj] at this; cases this
        · rw [hy] at hy'; cases hy'; exact hin) h
      simp only [runX, hxi] at hfr
      split at hfr
      · rename_i s1 hs1
        refine op_ok hW hC ho (hc i o x ho hxi) R hs1 (fun cx' w' a' g r => ?_)
        refine ih (listed.setIfInBounds i true) (pre ++ post) s1 cx' w' a' (by rw [hpp] at hr; simp at hr ⊢; omega) ?_ (by simp [hsz]) ?_ r hfr (fun cx2 w2 a2 g2 r2 => hQ cx2 w2 a2 (g.trans g2) r2)
        · have e1 : (List.range ops.size).filter (fun k => !(listed.setIfInBounds i true).getD k true) = rem.filter (fun k => k != i) := by
            rw [hrem, List.filter_filter]
            refine List.filter_congr (fun k hk => ?_)
            by_cases e : k = i
            · subst e
              have : k < listed.size := by omega
              simp [this]
            · rw [getD_set_ne true (Ne.symm e)]
              simp [e]
          rw [e1, hpp, List.filter_append, List.filter_cons_of_neg (by simp)]
          rw [List.filter_eq_self.2 (fun j hj => by have := hpre j hj; simp; omega), List.filter_eq_self.2 (fun j hj => by have := hpost j hj; simp; omega)]
        · intro k o' ho' hk e he hb
          by_cases ek : k = i
          · subst ek
            rw [ho] at ho'; cases ho'
            exact getD_set_true (hall e he hb)
          · rw [getD_set_ne false (Ne.symm ek)] at hk
            exact getD_set_true (hdc k o' ho' hk e he hb)
      · cases hfr

theorem region_ok (hW : OrcW C) (hC : OrcOK P C) (hm : P.follows .mixedOrders = true) {id : Nat} {ops : Array Oper} {draw : Bool} {l : List AI} (hc : chkR P N ops draw l = true) {sf : St} (R : Rel N s cx w a) (h : runI C l s = some sf)
    (hQ : ∀ cx' w' a', Go1 s cx w sf cx' w' → Rel N sf cx' w' a' → Q .normal a' w') : (Code.region id ops draw).wp P Q a w := by
  simp only [chkR, Bool.and_eq_true] at hc
  obtain ⟨hc1, hc2⟩ := hc
  obtain ⟨hl, hget⟩ := chkOs_get _ _ hc1
  have hl' : l.length = ops.size := by simpa using hl
  have hget' : ∀ (i : Nat) (o : Oper) (x : AI), ops[i]? = some o → l[i]? = some x → chkO P N ops o x = true := fun i o x ho hx => hget i o x (by simpa using ho) hx
  cases draw with
  | false =>
    refine wp_region (ops_ok hW hC hl' hget' (List.range ops.size) s cx w a R ?_ hQ)
    rw [← hl', runX_all]; exact h
  | true =>
    simp only [Bool.not_true, Bool.false_or] at hc2
    have hs := chkDr_spec (ops := ops) (all := l) ops.toList l 0 [] hc2 rfl (by simpa using hl') (fun k hk => by simp) (fun k j hk => by omega)
    refine wp_region_any hm (any_ok hW hC hl' hget' (fun i o x ho hx => ?_) ops.size _ (List.range ops.size) s cx w.drew a (by simp) ?_ (by simp) ?_ ⟨R.M.drew, R.F, fun t => (R.T t).ext Go1.drew.ext, R.n, R.d⟩ ?_ (fun cx' w' a' g r => hQ cx' w' a' (Go1.drew.trans g) r))
    · have := hs i o x (by simpa using ho) hx
      simpa using this
    · rw [List.filter_eq_self.2]
      intro i hi
      have := List.mem_range.1 hi
      simp [this]
    · intro k o ho hk
      have := (Array.getElem?_eq_some_iff.1 ho).1
      simp [this] at hk
    · rw [← hl', runX_all]; exact h
end
end Go.Proofs.Bb
