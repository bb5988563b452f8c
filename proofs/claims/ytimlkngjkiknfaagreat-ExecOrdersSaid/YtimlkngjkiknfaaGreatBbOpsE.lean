/- Stores. -/
import Derived.Test.YtimlkngjkiknfaaGreatBbOpsD
set_option linter.unusedSimpArgs false
set_option linter.unusedVariables false
namespace Go.Proofs.Bb
open Go

def setCs (w : World) (r : Nat) : Nat → List Value → World
  | _, [] => w
  | p, v :: vs => setCs (w.setCell ⟨r, p, none⟩ v) r (p + 1) vs

theorem setCs_heap (r : Nat) (vs : List Value) : ∀ (w : World) (p q : Nat), q ≠ r → (setCs w r p vs).heap[q]? = w.heap[q]? := by
  induction vs with
  | nil => intro w p q _; rfl
  | cons v vs ih => intro w p q hq; rw [setCs, ih _ _ _ hq]; exact RowKit.Below.heap_setCell w ⟨r, p, none⟩ v q hq
theorem setCs_size (r : Nat) (vs : List Value) : ∀ (w : World) (p : Nat), (setCs w r p vs).heap.size = w.heap.size := by
  induction vs with
  | nil => intro w p; rfl
  | cons v vs ih => intro w p; rw [setCs, ih]; simp
theorem setCs_os (r : Nat) (vs : List Value) : ∀ (w : World) (p : Nat), (setCs w r p vs).os = w.os ∧ (setCs w r p vs).tape = w.tape ∧ (setCs w r p vs).output = w.output := by
  induction vs with
  | nil => intro w p; exact ⟨rfl, rfl, rfl⟩
  | cons v vs ih => intro w p; rw [setCs]; exact ih _ _
theorem setCs_frozen (r : Nat) (vs : List Value) : ∀ (w : World) (p : Nat) (b : Addr), (setCs w r p vs).frozen? b = w.frozen? b := by
  induction vs with
  | nil => intro w p b; rfl
  | cons v vs ih => intro w p b; rw [setCs, ih]; simp
theorem cel_set_other (w : World) (r p : Nat) (v : Value) (q : Nat) (h : q ≠ p) : cel (w.setCell ⟨r, p, none⟩ v) r q = cel w r q :=
  World.cell?_setCell_other _ _ _ _ (fun e => h (by cases e; rfl))
theorem setCs_cel (r : Nat) (vs : List Value) : ∀ (w : World) (p q : Nat), (∀ j, j < vs.length → (cel w r (p + j)).isSome = true) →
    cel (setCs w r p vs) r q = if p ≤ q ∧ q < p + vs.length then vs[q - p]? else cel w r q := by
  induction vs with
  | nil => intro w p q _; rw [if_neg (by simp)]; rfl
  | cons v vs ih =>
    intro w p q h
    have h0 := h 0 (by simp)
    simp only [Nat.add_zero] at h0
    rw [setCs, ih]
    · by_cases hq : q = p
      · subst hq
        rw [if_neg (by omega), if_pos (by simp), Nat.sub_self]
        cases hc : cel w r q with
        | none => simp [hc] at h0
        | some u => exact World.cell?_setCell_same _ _ _ hc
      · rw [cel_set_other _ _ _ _ _ hq]
        by_cases hin : p + 1 ≤ q ∧ q < p + 1 + vs.length
        · rw [if_pos hin, if_pos (by simp; omega)]
          have : q - p = (q - (p + 1)) + 1 := by omega
          rw [this]; rfl
        · rw [if_neg hin, if_neg (by simp; omega)]
    · intro j hj
      rw [cel_set_other _ _ _ _ _ (by omega), show p + 1 + j = p + (j + 1) by omega]
      exact h (j + 1) (by simp; omega)
theorem setCs_kind (r : Nat) (vs : List Value) : ∀ (w : World) (p : Nat), (∃ c e f, w.heap[r]? = some (.cells c e f)) → ∃ c e f, (setCs w r p vs).heap[r]? = some (.cells c e f) := by
  induction vs with
  | nil => intro w p h; exact h
  | cons v vs ih =>
    rintro w p ⟨c, e, f, h⟩
    rw [setCs]
    refine ih _ _ ⟨c.setIfInBounds p v, e, f, ?_⟩
    simp [World.setCell, Array.getElem?_modify, h]
theorem setCs_room {w : World} {r : Nat} {vs : List Value} {p n : Nat} (h : Room w r n) (hv : ∀ j, j < vs.length → (cel w r (p + j)).isSome = true) : Room (setCs w r p vs) r n := by
  refine ⟨setCs_kind r vs w p h.1, fun q hq => ⟨?_, by rw [setCs_frozen]; exact (h.2 q hq).2⟩⟩
  rw [setCs_cel r vs w p q hv]
  split
  · rename_i hin
    rw [List.getElem?_eq_getElem (by omega)]; rfl
  · exact (h.2 q hq).1

theorem run_storeCells (P : Program) (r p : Nat) (vs : List Value) : ∀ (w : World) (i : Nat), (∀ j, j < vs.length → (cel w r (p + i + j)).isSome = true ∧ w.frozen? ⟨r, p + i + j, none⟩ = false) →
    (∀ v, v ∈ vs → v.oneCell' = true) → (storeCells ⟨r, p, none⟩ vs i).run P w = .ok () (setCs w r (p + i) vs) := by
  induction vs with
  | nil => intro w i _ _; rfl
  | cons v vs ih =>
    intro w i h h1
    have h0 := h 0 (by simp)
    simp only [Nat.add_zero] at h0
    simp only [storeCells, Sem.run_bind, add_eq _ _ _ _ rfl, run_store P w _ v _ (h1 v (by simp))]
    cases hc : cel w r (p + i) with
    | none => simp [hc] at h0
    | some u =>
      have hc' : w.cell? ⟨r, p + i, none⟩ = some u := hc
      simp only [hc', h0.2, Bool.false_eq_true, if_false, Result.andThen_ok]
      rw [ih _ (i + 1) (fun j hj => ?_) (fun x hx => h1 x (by simp [hx]))]
      · rw [setCs]; congr 1
      · have := h (j + 1) (by simp; omega)
        rw [show p + (i + 1) + j = p + i + (j + 1) by omega, cel_set_other _ _ _ _ _ (by omega), World.frozen?_setCell]
        exact this

section
variable {P : Program} {s : St} {cx : Cx} {w : World} {a : Act} {o : Oper} {Q : Exit → Act → World → Prop} {C : Orc} {ro : Bool} {d : Nat} {v : AV} {s1 : St}

theorem cellA_set {els : List (List AV)} {i : Nat} {cs' : List AV} {j q : Nat} {x : AV} (h : cellA (els.set i cs') j q = some x) : (j = i ∧ cs'[q]? = some x) ∨ (j ≠ i ∧ cellA els j q = some x) := by
  obtain ⟨c, h1, h2⟩ := cellA_of h
  rw [List.getElem?_set] at h1
  split at h1
  · split at h1
    · cases h1; rename_i e _; exact .inl ⟨e.symm, h2⟩
    · cases h1
  · rename_i e; exact .inr ⟨fun e' => e e'.symm, cellA_mk h1 h2⟩

/-- Cells stored into one element of a live block. -/
theorem store_go (M : MR s cx w) {l : Loc} {g i o' : Nat} {b : Blk} {cs xs : List AV} {us : List Value} (hb : s.getB l g = some b) (hf : b.fz = false) (hw : s.wr l) (hcs : b.els[i]? = some cs)
    (hl : o' + xs.length ≤ cs.length) (hus : us.length = xs.length) (hv : ∀ (j : Nat) (x : AV) (u : Value), xs[j]? = some x → us[j]? = some u → VR s.sg cx w x u ∧ u.oneCell' = true) :
    Go1 s cx w (s.setB l { b with els := b.els.set i (putc cs o' xs) }) cx (setCs w (cx.lm l) (i * b.z + o') us) ∧
      MR (s.setB l { b with els := b.els.set i (putc cs o' xs) }) cx (setCs w (cx.lm l) (i * b.z + o') us) ∧
      (∀ j, j < us.length → (cel w (cx.lm l) (i * b.z + o' + j)).isSome = true ∧ w.frozen? ⟨cx.lm l, i * b.z + o' + j, none⟩ = false) := by
  obtain ⟨h1, h2⟩ := getB_some hb
  have hne : b.els ≠ [] := fun e => by rw [e] at hcs; simp at hcs
  have hi := (List.getElem?_eq_some_iff.1 hcs).1
  have hcl := M.zs l b h1 cs (List.mem_of_getElem? hcs)
  obtain ⟨hm1, hm2⟩ := M.mu l b h1 hf hne
  have hle : i * b.z + b.z ≤ b.els.length * b.z := by
    rw [← Nat.succ_mul]; exact Nat.mul_le_mul_right _ hi
  have hroom : ∀ j, j < us.length → (cel w (cx.lm l) (i * b.z + o' + j)).isSome = true ∧ w.frozen? ⟨cx.lm l, i * b.z + o' + j, none⟩ = false :=
    fun j hj => hm2.2 _ (by omega)
  have T := setB_turned (b' := { b with els := b.els.set i (putc cs o' xs) }) hb (by simp [Blk.bi])
  obtain ⟨g1, g2, g3⟩ := setCs_os (cx.lm l) us w (i * b.z + o')
  have hS := T.store M hf hf hne hw (fun r hr => setCs_heap _ _ _ _ _ hr) g1 g2 g3 (setCs_size _ _ _ _) (fun n hn => setCs_room hn (fun j hj => (hroom j hj).1))
    (fun c hc => by
      rcases List.mem_or_eq_of_mem_set hc with h | h
      · exact M.zs l b h1 c h
      · subst h; rw [putc_len hl]; exact hcl)
    (fun j q x hx => by
      show ∃ v, cel (setCs w (cx.lm l) (i * b.z + o') us) (cx.lm l) (j * b.z + q) = some v ∧ VR s.sg cx w x v ∧ v.oneCell' = true
      rw [setCs_cel _ _ _ _ _ (fun j hj => (hroom j hj).1)]
      rcases cellA_set hx with ⟨rfl, hq⟩ | ⟨hji, hq⟩
      · rw [putc_get hl] at hq
        by_cases hin : o' ≤ q ∧ q < o' + xs.length
        · rw [if_pos hin] at hq
          rw [if_pos (by omega)]
          have hlt : q - o' < us.length := by omega
          refine ⟨us[q - o'], ?_, hv _ x _ hq (List.getElem?_eq_getElem hlt)⟩
          rw [show j * b.z + q - (j * b.z + o') = q - o' by omega]
          exact List.getElem?_eq_getElem hlt
        · rw [if_neg hin] at hq
          rw [if_neg (by omega)]
          exact M.live l b h1 j q x (cellA_mk hcs hq)
      · have hqz : q < b.z := by
          obtain ⟨c, hc1, hc2⟩ := cellA_of hq
          rw [← M.zs l b h1 c (List.mem_of_getElem? hc1)]
          exact (List.getElem?_eq_some_iff.1 hc2).1
        rw [if_neg ?_]
        · exact M.live l b h1 j q x hq
        · intro hin
          rcases Nat.lt_or_gt_of_ne hji with hlt | hgt
          · have : (j + 1) * b.z ≤ i * b.z := Nat.mul_le_mul_right _ hlt
            rw [Nat.succ_mul] at this; omega
          · have : (i + 1) * b.z ≤ j * b.z := Nat.mul_le_mul_right _ hgt
            rw [Nat.succ_mul] at this; omega)
  exact ⟨hS.1, hS.2, hroom⟩

/-- One store, as it is run. -/
theorem storeA_ok {wd n md : Nat} {x y : AV} {u1 u2 : Value} (hmd : md ≠ 2) (hro : s.ro = ro) (M : MR s cx w) (h1 : VR s.sg cx w x u1) (h2 : VR s.sg cx w y u2) (h : storeA wd n md x y s ro = some s1) :
    ∃ (p : Addr) (w' : World) (cx' : Cx), u1 = .pointer (some p) ∧ u2.cells.size = n ∧ (storeCells p u2.cells.toList).run P w = .ok () w' ∧ Go1 s cx w s1 cx' w' ∧ MR s1 cx' w' ∧ s1.t = s.t := by
  unfold storeA at h
  split at h
  · rename_i l g i o'
    split at h
    · cases h
    · have hconv : ∀ y2 s2, (if isH l = true then if ro = true then none else conv md y s else if (isV l || (cellsOf y).all clean1) = true then some (y, s) else none) = some (y2, s2) →
          ∃ cx2, Go1 s cx w s2 cx2 w ∧ MR s2 cx2 w ∧ VR s2.sg cx2 w y2 u2 ∧ s2.t = s.t := by
        intro y2 s2 hc
        split at hc
        · split at hc
          · cases hc
          · exact conv_ok hmd s cx w y u2 y2 s2 M h2 hc
        · split at hc
          · simp only [Option.some.injEq, Prod.mk.injEq] at hc
            obtain ⟨rfl, rfl⟩ := hc
            exact ⟨cx, .refl .., M, h2, rfl⟩
          · cases hc
      split at h
      · cases h
      · rename_i y2 s2 hc
        obtain ⟨cx2, k1, k2, k3, k4⟩ := hconv y2 s2 hc
        split at h
        · rename_i b hb
          split at h
          · cases h
          · rename_i hf
            split at h
            · rename_i cs hcs
              split at h
              · rename_i hcond
                obtain ⟨hn, hle, hone⟩ := hcond
                simp only [Option.some.injEq] at h
                subst h
                have hp := h1.ext k1.ext
                cases hp with
                | @pt _ _ _ _ p hg hl hp =>
                  have hp' := pt_addr (w := w) (.pt hg hl hp) hb
                  obtain ⟨c1, c2⟩ := cells_ok k3
                  have c3 := cells_one k3 hone
                  obtain ⟨r1, r2, r3⟩ := store_go k2 (xs := cellsOf y2) (us := u2.cells.toList) hb (by simpa using hf) (by
                    intro hH
                    rw [if_pos hH] at hc
                    split at hc
                    · cases hc
                    · rename_i hr
                      rw [conv_ro hc, hro]; simpa using hr) hcs (by rw [hn]; exact hle) (by simpa using c1) (fun j x u hx hu => ⟨c2 j x u hx (by simpa using hu), c3 j u (by simpa using hu)⟩)
                  refine ⟨p, _, cx2, rfl, by rw [c1, hn], ?_, k1.trans r1, r2, ?_⟩
                  · subst hp'
                    have := run_storeCells P (cx2.lm l) (i * b.z + o') u2.cells.toList w 0 (fun j hj => r3 j hj) (fun v hv => by
                      obtain ⟨j, hj⟩ := List.mem_iff_getElem?.1 hv
                      exact c3 j v (by simpa using hj))
                    exact this
                  · show (s2.setB l _).t = s.t
                    rw [← k4]; cases l <;> rfl
              · cases h
            · cases h
        · cases h
  · cases h

theorem store_ok {wd n md : Nat} {x y : X} (hro : s.ro = ro) (ho : chkI P o.op (.store wd n md x y) = true) (M : MR s cx w) (T : TR s cx w a) (h : step C ro d s (.store wd n md x y) = some (v, s1)) : Post P o a s cx w v s1 Q := by
  simp only [chkI] at ho
  split at ho
  · rename_i t b u hop
    simp only [Bool.and_eq_true, decide_eq_true_eq] at ho
    obtain ⟨⟨⟨h1, h2⟩, h3⟩, h4⟩ := ho
    obtain ⟨inf, _, _, hrs⟩ := szO_run (P := P) (w := w) h3
    simp only [step, Option.map_eq_some_iff, Prod.mk.injEq] at h
    obtain ⟨s2, hs, rfl, rfl⟩ := h
    obtain ⟨p, w', cx', e1, e2, e3, e4, e5, e6⟩ := storeA_ok (P := P) (by omega) hro M (ev_ok T h1) (ev_ok T h2) hs
    refine post_skip ?_ e4 e5
    simp [execOp, hop, Instr.storeAt, e1, Instr.sureAddr, storeVar, hrs, e2, e3]
  · cases ho

end
end Go.Proofs.Bb
