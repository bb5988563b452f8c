/- New variables, new arrays, parts laid together. -/
import Derived.Test.YtimlkngjkiknfaaGreatBbConv
set_option linter.unusedSimpArgs false
set_option linter.unusedVariables false
namespace Go.Proofs.Bb
open Go

theorem cel_new (w : World) (c : Array Value) (e : TypeId) (p : Nat) : cel (w.alloc (.cells c e)) w.heap.size p = c[p]? := by simp [cel]
theorem room_new (w : World) (c : Array Value) (e : TypeId) (n : Nat) (h : n ≤ c.size) : Room (w.alloc (.cells c e)) w.heap.size n := by
  refine ⟨⟨c, e, (0, 0), by show (w.heap.push _)[w.heap.size]? = _; simp⟩, fun p hp => ⟨?_, by simp⟩⟩
  rw [cel_new, Array.getElem?_eq_getElem (by omega)]; rfl

theorem Laid.alloc {s s' : St} {l : Loc} {b : Blk} (L : Laid s s' l b) {cx : Cx} {w : World} (M : MR s cx w) (c : Array Value) (e : TypeId)
    (hsz : b.els.length * b.z ≤ c.size) (hfz : b.fz = false) (hemp : b.els = [] → b.ex = true) (hz : ∀ cs, cs ∈ b.els → cs.length = b.z)
    (hc : ∀ j q x, cellA b.els j q = some x → ∃ v, c[j * b.z + q]? = some v ∧ VR s.sg cx w x v ∧ v.oneCell' = true) :
    Go1 s cx w s' ⟨updL cx.lm l w.heap.size, cx.im⟩ (w.alloc (.cells c e)) ∧ MR s' ⟨updL cx.lm l w.heap.size, cx.im⟩ (w.alloc (.cells c e)) :=
  L.go M w.heap.size (fun r hr => RowKit.Below.heap_alloc w _ r hr) rfl rfl rfl (by simp) (fun _ => ⟨Nat.le_refl _, room_new w c e _ hsz⟩) hfz hemp hz
    (fun j q x hx => by
      obtain ⟨v, h1, h2, h3⟩ := hc j q x hx
      exact ⟨v, by rw [cel_new]; exact h1, h2, h3⟩)

theorem laidV (s : St) (d : Nat) (b : Blk) : Laid s { s with v := upd s.v d ⟨(s.v d).g + 1, some b⟩ } (.v d) b := by
  refine ⟨fun l' hne => ?_, fun l' hne => ?_, by simp [St.cur, upd], .inl (by simp [St.gen, upd]), fun _ _ _ => Iff.rfl, Nat.le_refl _, rfl⟩
  · cases l' with
    | v j => have : j ≠ d := fun e => hne (e ▸ rfl); simp [St.cur, upd, this]
    | _ => rfl
  · cases l' with
    | v j => have : j ≠ d := fun e => hne (e ▸ rfl); simp [St.gen, upd, this]
    | _ => rfl
theorem laidA (s : St) (d : Nat) (b : Blk) : Laid s { s with a := upd s.a d ⟨(s.a d).g + 1, some b⟩ } (.a d) b := by
  refine ⟨fun l' hne => ?_, fun l' hne => ?_, by simp [St.cur, upd], .inl (by simp [St.gen, upd]), fun _ _ _ => Iff.rfl, Nat.le_refl _, rfl⟩
  · cases l' with
    | a j => have : j ≠ d := fun e => hne (e ▸ rfl); simp [St.cur, upd, this]
    | _ => rfl
  · cases l' with
    | a j => have : j ≠ d := fun e => hne (e ▸ rfl); simp [St.gen, upd, this]
    | _ => rfl
theorem laidH (s : St) (b : Blk) : Laid s { s with h := s.h ++ [.blk b] } (.h s.h.length) b := by
  refine ⟨fun l' hne => ?_, fun l' hne => ?_, by simp [St.cur, blkAt], .inr ⟨_, rfl, Nat.le_refl _⟩, fun i es k => ?_, by simp, rfl⟩
  · cases l' with
    | h j =>
      have hj : j ≠ s.h.length := fun e => hne (e ▸ rfl)
      rcases Nat.lt_or_ge j s.h.length with h | h
      · simp [St.cur, List.getElem?_append_left h]
      · simp only [St.cur, List.getElem?_append_right h]
        rw [List.getElem?_eq_none (by simp; omega), List.getElem?_eq_none h]
    | _ => rfl
  · cases l' <;> rfl
  · rcases Nat.lt_trichotomy i s.h.length with h | h | h
    · simp [List.getElem?_append_left h]
    · subst h; simp
    · simp only [List.getElem?_append_right (Nat.le_of_lt h)]
      rw [List.getElem?_eq_none (by simp; omega), List.getElem?_eq_none (Nat.le_of_lt h)]

section
variable {P : Program} {s : St} {cx : Cx} {w : World} {a : Act} {o : Oper} {Q : Exit → Act → World → Prop} {C : Orc} {ro : Bool} {d : Nat} {v : AV} {s1 : St}

theorem cellA_one {cs : List AV} {j q : Nat} {x : AV} (h : cellA [cs] j q = some x) : j = 0 ∧ cs[q]? = some x := by
  obtain ⟨c, h1, h2⟩ := cellA_of h
  cases j with
  | zero => simp at h1; subst h1; exact ⟨rfl, h2⟩
  | succ j => simp at h1

theorem zeroOK_run {t : TypeId} {zero : List AV} (h : zeroOK P t zero = true) : ∃ z : Value, (zeroValue t).run P w = .ok z w ∧ zero.length = z.cells.size ∧ (∃ i, P.info? t = some i ∧ i.zero = some z) ∧
    ∀ (σ : Sg) (cx : Cx) (w : World) (i : Nat) (x : AV) (u : Value), zero[i]? = some x → z.cells[i]? = some u → VR σ cx w x u ∧ u.oneCell' = true := by
  unfold zeroOK zeroC at h
  cases hi : P.info? t with
  | none => simp [hi] at h
  | some i =>
    cases hz : i.zero with
    | none => simp [hi, hz] at h
    | some z =>
      simp [hi, hz] at h
      obtain ⟨h1, h2⟩ := liftL_ok h
      refine ⟨z, by simp [zeroValue, typeInfo, hi, hz], by simpa using h1, ⟨i, rfl, hz⟩, fun σ cx w i x u hx hu => ⟨lift_ok (h2 i x u hx (by simpa using hu)) _ _ _, lift_one (h2 i x u hx (by simpa using hu))⟩⟩

/-- A pointer to a block that was just laid. -/
theorem pt_new {s' : St} {l : Loc} {b : Blk} (L : Laid s s' l b) {r : Nat} {w' : World} {g : Nat} (hg : s'.gen l = g) (hl : ∀ i, l = .h i → i < s'.h.length) :
    VR s'.sg ⟨updL cx.lm l r, cx.im⟩ w' (.pt l g 0 0) (.pointer (some ⟨r, 0, none⟩)) := by
  refine .pt (by rw [← hg]; exact Nat.le_refl _) hl (fun _ b2 hb2 => ?_)
  obtain ⟨b3, h1, rfl⟩ := sg_b hb2
  simp [updL_eq]

theorem allocv_ok {zero : List AV} (ho : chkI P o.op (.allocv zero) = true) (M : MR s cx w) (T : TR s cx w a) (h : step C ro d s (.allocv zero) = some (v, s1)) : Post P o a s cx w v s1 Q := by
  simp only [chkI] at ho
  split at ho
  · rename_i e hop
    obtain ⟨z, hz, hlen, _, hzv⟩ := zeroOK_run (P := P) (w := w) ho
    simp only [step, Option.some.injEq, Prod.mk.injEq] at h
    obtain ⟨rfl, rfl⟩ := h
    obtain ⟨g1, g2⟩ := (laidV s d ⟨zero.length, [zero], true, false⟩).alloc M z.cells e (by simp [hlen]) rfl (fun h => by simp at h) (fun cs hcs => by simp at hcs; simp [hcs])
      (fun j q x hx => by
        obtain ⟨rfl, hx⟩ := cellA_one hx
        have hlt : q < z.cells.size := by rw [← hlen]; exact (List.getElem?_eq_some_iff.1 hx).1
        exact ⟨z.cells[q], by simp [Array.getElem?_eq_getElem hlt], (hzv _ _ _ q x _ hx (Array.getElem?_eq_getElem hlt)).1, (hzv s.sg cx w q x _ hx (Array.getElem?_eq_getElem hlt)).2⟩)
    refine post_value ?_ g1 g2 (pt_new (laidV s d _) (by simp [St.gen, upd]) (fun i hi => by cases hi))
    simp [execOp, hop, Instr.alloc, hz, newVar, newRow]
  · cases ho

theorem alloch_ok {zero : List AV} (ho : chkI P o.op (.alloch zero) = true) (M : MR s cx w) (T : TR s cx w a) (h : step C ro d s (.alloch zero) = some (v, s1)) : Post P o a s cx w v s1 Q := by
  simp only [chkI] at ho
  split at ho
  · rename_i e hop
    obtain ⟨z, hz, hlen, _, hzv⟩ := zeroOK_run (P := P) (w := w) ho
    simp only [step] at h
    split at h
    · cases h
    · simp only [Option.some.injEq, Prod.mk.injEq] at h
      obtain ⟨rfl, rfl⟩ := h
      obtain ⟨g1, g2⟩ := (laidH s ⟨zero.length, [zero], true, false⟩).alloc M z.cells e (by simp [hlen]) rfl (fun h => by simp at h) (fun cs hcs => by simp at hcs; simp [hcs])
        (fun j q x hx => by
          obtain ⟨rfl, hx⟩ := cellA_one hx
          have hlt : q < z.cells.size := by rw [← hlen]; exact (List.getElem?_eq_some_iff.1 hx).1
          exact ⟨z.cells[q], by simp [Array.getElem?_eq_getElem hlt], (hzv _ _ _ q x _ hx (Array.getElem?_eq_getElem hlt)).1, (hzv s.sg cx w q x _ hx (Array.getElem?_eq_getElem hlt)).2⟩)
      refine post_value ?_ g1 g2 (pt_new (laidH s _) rfl (fun i hi => by cases hi; simp))
      simp [execOp, hop, Instr.alloc, hz, newVar, newRow]
  · cases ho

theorem boxv_ok {n : Nat} {x : X} (ho : chkI P o.op (.boxv n x) = true) (M : MR s cx w) (T : TR s cx w a) (h : step C ro d s (.boxv n x) = some (v, s1)) : Post P o a s cx w v s1 Q := by
  simp only [chkI] at ho
  split at ho
  · rename_i e y hop
    simp only [step] at h
    split at h
    · rename_i hn
      obtain ⟨hn, hnt⟩ := hn
      simp only [Option.some.injEq, Prod.mk.injEq] at h
      obtain ⟨rfl, rfl⟩ := h
      obtain ⟨c1, c2⟩ := cells_ok (ev_ok T ho)
      have c3 := cells_one (ev_ok T ho) hnt
      obtain ⟨g1, g2⟩ := (laidV s d ⟨n, [cellsOf (ev s.t x)], true, false⟩).alloc M (a.eval y).cells e (by simp [c1, hn]) rfl (fun h => by simp at h) (fun cs hcs => by simp at hcs; simp [hcs, hn])
        (fun j q x' hx => by
          obtain ⟨rfl, hx⟩ := cellA_one hx
          have hlt : q < (a.eval y).cells.size := by rw [c1]; exact (List.getElem?_eq_some_iff.1 hx).1
          exact ⟨(a.eval y).cells[q], by simp [Array.getElem?_eq_getElem hlt], c2 q x' _ hx (Array.getElem?_eq_getElem hlt), c3 q _ (Array.getElem?_eq_getElem hlt)⟩)
      refine post_value ?_ g1 g2 (pt_new (laidV s d _) (by simp [St.gen, upd]) (fun i hi => by cases hi))
      simp [execOp, hop, Instr.box, newVar, newRow]
    · cases h
  · cases ho

theorem boxh_ok {n : Nat} {keep : Bool} {x : X} (ho : chkI P o.op (.boxh n keep x) = true) (M : MR s cx w) (T : TR s cx w a) (h : step C ro d s (.boxh n keep x) = some (v, s1)) : Post P o a s cx w v s1 Q := by
  simp only [chkI] at ho
  split at ho
  · rename_i e y hop
    simp only [step] at h
    split at h
    · cases h
    · split at h
      · rename_i y' s2 hconv
        split at h
        · rename_i hn
          obtain ⟨hn, hnt⟩ := hn
          simp only [Option.some.injEq, Prod.mk.injEq] at h
          obtain ⟨rfl, rfl⟩ := h
          obtain ⟨cx2, k1, k2, k3, k4⟩ := conv_ok (k := if keep = true then 1 else 0) (by split <;> decide) s cx w _ _ y' s2 M (ev_ok T ho) hconv
          obtain ⟨c1, c2⟩ := cells_ok k3
          have c3 := cells_one k3 hnt
          obtain ⟨g1, g2⟩ := (laidH s2 ⟨n, [cellsOf y'], true, false⟩).alloc k2 (a.eval y).cells e (by simp [c1, hn]) rfl (fun h => by simp at h) (fun cs hcs => by simp at hcs; simp [hcs, hn])
            (fun j q x' hx => by
              obtain ⟨rfl, hx⟩ := cellA_one hx
              have hlt : q < (a.eval y).cells.size := by rw [c1]; exact (List.getElem?_eq_some_iff.1 hx).1
              exact ⟨(a.eval y).cells[q], by simp [Array.getElem?_eq_getElem hlt], c2 q x' _ hx (Array.getElem?_eq_getElem hlt), c3 q _ (Array.getElem?_eq_getElem hlt)⟩)
          refine post_value ?_ (k1.trans g1) g2 (pt_new (laidH s2 _) rfl (fun i hi => by cases hi; simp))
          simp [execOp, hop, Instr.box, newVar, newRow]
        · cases h
      · cases h
  · cases ho

/-! ### Parts -/

theorem putc_get {cs vs : List AV} {o i : Nat} (h : o + vs.length ≤ cs.length) : (putc cs o vs)[i]? = if o ≤ i ∧ i < o + vs.length then vs[i - o]? else cs[i]? := by
  unfold putc
  rcases Nat.lt_or_ge i o with h1 | h1
  · rw [if_neg (by omega), List.append_assoc, List.getElem?_append_left (by rw [List.length_take]; omega), List.getElem?_take_of_lt h1]
  · rcases Nat.lt_or_ge i (o + vs.length) with h2 | h2
    · rw [if_pos ⟨h1, h2⟩, List.getElem?_append_left (by rw [List.length_append, List.length_take]; omega), List.getElem?_append_right (by rw [List.length_take]; omega), List.length_take, Nat.min_eq_left (by omega)]
    · rw [if_neg (by omega), List.getElem?_append_right (by rw [List.length_append, List.length_take]; omega), List.length_append, List.length_take, Nat.min_eq_left (by omega), List.getElem?_drop]
      congr 1; omega
theorem putc_len {cs vs : List AV} {o : Nat} (h : o + vs.length ≤ cs.length) : (putc cs o vs).length = cs.length := by
  unfold putc; simp only [List.length_append, List.length_take, List.length_drop]; omega

/-- Go's own laying of cells over others. -/
theorem fold_set (vs : List Value) : ∀ (cs : Array Value) (o k : Nat), o + (k + vs.length) ≤ cs.size →
    ((vs.zipIdx k).foldl (fun cs (x : Value × Nat) => cs.setIfInBounds (o + x.2) x.1) cs).size = cs.size ∧
    ∀ i, ((vs.zipIdx k).foldl (fun cs (x : Value × Nat) => cs.setIfInBounds (o + x.2) x.1) cs)[i]? = if o + k ≤ i ∧ i < o + k + vs.length then vs[i - (o + k)]? else cs[i]? := by
  induction vs with
  | nil => intro cs o k _; exact ⟨rfl, fun i => by rw [if_neg (by simp)]; rfl⟩
  | cons v vs ih =>
    intro cs o k hle
    simp only [List.length_cons] at hle
    obtain ⟨h1, h2⟩ := ih (cs.setIfInBounds (o + k) v) o (k + 1) (by simp; omega)
    simp only [List.zipIdx_cons, List.foldl_cons]
    refine ⟨by rw [h1]; simp, fun i => ?_⟩
    rw [h2]
    by_cases hi : i = o + k
    · subst hi
      rw [if_neg (by omega), if_pos (by simp), Nat.sub_self]
      simp [Array.getElem?_setIfInBounds, show o + k < cs.size by omega]
    · by_cases hr : o + (k + 1) ≤ i ∧ i < o + (k + 1) + vs.length
      · rw [if_pos hr, if_pos (by simp; omega)]
        have : i - (o + k) = (i - (o + (k + 1))) + 1 := by omega
        rw [this]; rfl
      · rw [if_neg hr, if_neg (by simp; omega)]
        simp [Array.getElem?_setIfInBounds, Ne.symm hi]

theorem fill_ok {σ : Sg} {place : Nat → Option (Nat × Nat)} : ∀ (os : List (Nat × Operand)) (xs : List (Nat × Nat × X)) (cs : List AV) (vs : Array Value) (r : List AV), fillOK place os xs = true → TR s cx w a →
    vs.size = cs.length → (∀ (i : Nat) (x : AV) (u : Value), cs[i]? = some x → vs[i]? = some u → VR s.sg cx w x u) → (∀ (i : Nat) (u : Value), vs[i]? = some u → u.oneCell' = true) →
    fillA cs (xs.map fun (o, n, x) => (o, n, ev s.t x)) = some r →
    ∃ us, Instr.fill place vs (os.map fun (i, x) => (i, a.eval x)) = some us ∧ us.size = r.length ∧ r.length = cs.length ∧ (∀ (i : Nat) (x : AV) (u : Value), r[i]? = some x → us[i]? = some u → VR s.sg cx w x u) ∧ ∀ (i : Nat) (u : Value), us[i]? = some u → u.oneCell' = true := by
  intro os
  induction os with
  | nil =>
    intro xs cs vs r h T hs hv hv1 hr
    cases xs with
    | nil => simp [fillA] at hr; subst hr; exact ⟨vs, rfl, hs, rfl, hv, hv1⟩
    | cons x xs => simp [fillOK] at h
  | cons p os ih =>
    intro xs cs vs r h T hs hv hv1 hr
    obtain ⟨i, y⟩ := p
    cases xs with
    | nil => simp [fillOK] at h
    | cons q xs =>
      obtain ⟨off, n, x⟩ := q
      simp only [fillOK, Bool.and_eq_true, decide_eq_true_eq] at h
      obtain ⟨⟨h1, h2⟩, h3⟩ := h
      simp only [List.map_cons, fillA] at hr
      split at hr
      · rename_i hn
        obtain ⟨hn, hle, hnt⟩ := hn
        obtain ⟨c1, c2⟩ := cells_ok (ev_ok T h2)
        have c3 := cells_one (ev_ok T h2) hnt
        obtain ⟨f1, f2⟩ := fold_set (a.eval y).cells.toList vs off 0 (by simp; omega)
        have hz : ((a.eval y).cells.zipIdx.foldl (fun cs (c, j) => cs.setIfInBounds (off + j) c) vs) = (((a.eval y).cells.toList.zipIdx 0).foldl (fun cs (x : Value × Nat) => cs.setIfInBounds (off + x.2) x.1) vs) := by
          rw [← Array.foldl_toList, Array.toList_zipIdx]
        obtain ⟨us, e1, e2, e3, e4, e5⟩ := ih xs (putc cs off (cellsOf (ev s.t x))) _ r h3 T (by rw [f1, putc_len (by omega)]; exact hs) (fun j z u hz hu => by
          rw [putc_get (by omega)] at hz
          rw [f2] at hu
          simp only [Array.length_toList, Nat.add_zero] at hu
          split at hz
          · rename_i hin
            rw [if_pos (by omega)] at hu
            exact c2 _ z u hz (by simpa using hu)
          · rename_i hin
            rw [if_neg (by omega)] at hu
            exact hv j z u hz hu) (fun j u hu => by
          rw [f2] at hu
          simp only [Array.length_toList, Nat.add_zero] at hu
          split at hu
          · exact c3 _ u (by simpa using hu)
          · exact hv1 j u hu) hr
        refine ⟨us, ?_, e2, by rw [e3, putc_len (by omega)], e4, e5⟩
        simp only [List.map_cons, Instr.fill, h1]
        have hcond : ¬ (((a.eval y).cells.size ≠ n || decide (off + (a.eval y).cells.size > vs.size)) = true) := by simp; omega
        rw [if_neg hcond, hz]
        exact e1
      · cases hr

theorem build_ok {zero : List AV} {parts : List (Nat × Nat × X)} (ho : chkI P o.op (.build zero parts) = true) (M : MR s cx w) (T : TR s cx w a) (h : step C ro d s (.build zero parts) = some (v, s1)) : Post P o a s cx w v s1 Q := by
  simp only [chkI] at ho
  split at ho
  · rename_i t ps hop
    simp only [Bool.and_eq_true] at ho
    obtain ⟨h1, h2⟩ := ho
    obtain ⟨z, hz, hlen, _, hzv⟩ := zeroOK_run (P := P) (w := w) h1
    simp only [step] at h
    split at h
    · rename_i cs hfill
      simp only [Option.some.injEq, Prod.mk.injEq] at h
      obtain ⟨rfl, rfl⟩ := h
      have fin : ∀ place : Nat → Option (Nat × Nat), fillOK place ps.toList parts = true → ∃ us : Array Value, Instr.fill place z.cells (ps.map fun (i, x) => (i, a.eval x)).toList = some us ∧ VR s.sg cx w (.agg cs) (.agg us) := by
        intro place hp
        obtain ⟨us, e1, e2, e3, e4, e5⟩ := fill_ok (σ := s.sg) ps.toList parts zero z.cells cs hp T hlen.symm (fun i x u hx hu => (hzv _ _ _ i x u hx hu).1)
          (fun i u hu => by
            have hlt : i < zero.length := by rw [hlen]; exact (Array.getElem?_eq_some_iff.1 hu).1
            exact (hzv s.sg cx w i _ u (List.getElem?_eq_getElem hlt) hu).2) hfill
        exact ⟨us, by rw [Array.toList_map]; exact e1, .agg e2 e4 e5⟩
      split at h2
      · rename_i fs hu
        simp only [Bool.and_eq_true, List.all_eq_true] at h2
        obtain ⟨h3, h4⟩ := h2
        obtain ⟨us, e1, e2⟩ := fin _ h4
        refine post_pure M ?_ e2
        have hpl : (fs.mapM fun f => (do pure (f.offset, ← sizeOf f.type) : Sem (Nat × Nat))).run P w = .ok (fs.map fun f => (f.offset, (szO P f.type).getD 0)) w := by
          have : ∀ l : List Field, (∀ f, f ∈ l → (szO P f.type).isSome = true) → (l.mapM fun f => (do pure (f.offset, ← sizeOf f.type) : Sem (Nat × Nat))).run P w = .ok (l.map fun f => (f.offset, (szO P f.type).getD 0)) w := by
            intro l
            induction l with
            | nil => intro _; simp
            | cons f l ih =>
              intro hl
              have hf := hl f (by simp)
              cases hs : szO P f.type with
              | none => simp [hs] at hf
              | some n =>
                obtain ⟨inf, _, _, hr⟩ := szO_run (P := P) (w := w) hs
                have ih := ih (fun g hg => hl g (by simp [hg]))
                simp only [List.mapM_cons, Sem.run_bind, hr, Result.andThen_ok, Sem.run_pure, ih, List.map_cons, hs, Option.getD_some]
          rw [Array.mapM_eq_mapM_toList, Sem.run_map, this fs.toList h3]
          simp only [Result.andThen_ok]
          congr 1
          rw [← Array.toList_inj]; simp
        have hplace : (fun (i : Nat) => (fs.map fun (f : Field) => (f.offset, (szO P f.type).getD 0))[i]?) = fun i => (fs.toList[i]?).bind fun (f : Field) => (szO P f.type).map fun n => (f.offset, n) := by
          funext i
          rw [Array.getElem?_map, Array.getElem?_toList]
          cases hfi : fs[i]? with
          | none => rfl
          | some f =>
            have hf := h3 f (by rw [Array.mem_toList_iff]; exact Array.mem_of_getElem? hfi)
            cases hs : szO P f.type with
            | none => simp [hs] at hf
            | some n => simp [hs]
        have e1' : Instr.fill (fun (i : Nat) => (fs.map fun (f : Field) => (f.offset, (szO P f.type).getD 0))[i]?) z.cells (ps.map fun (i, x) => (i, a.eval x)).toList = some us := by rw [hplace]; exact e1
        simp only [execOp, hop, Instr.build, Sem.run_bind, hz, Result.andThen_ok, underlying, run_program, hu, Sem.run_pure, hpl, e1']
      · rename_i n e hu
        split at h2
        · rename_i sz hs
          obtain ⟨inf, _, _, hrs⟩ := szO_run (P := P) (w := w) hs
          obtain ⟨us, e1, e2⟩ := fin _ h2
          refine post_pure M ?_ e2
          simp only [execOp, hop, Instr.build, Sem.run_bind, hz, Result.andThen_ok, underlying, run_program, hu, Sem.run_pure, hrs, e1]
        · cases h2
      · cases h2
    · cases h
  · cases ho

end
end Go.Proofs.Bb
