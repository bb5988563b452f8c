/- append, as an instruction. -/
import Derived.Test.YtimlkngjkiknfaaGreatBbOpsI
set_option linter.unusedSimpArgs false
set_option linter.unusedVariables false
namespace Go.Proofs.Bb
open Go

section
variable {P : Program} {s : St} {cx : Cx} {w : World} {a : Act} {o : Oper} {Q : Exit → Act → World → Prop} {C : Orc} {ro : Bool} {d : Nat} {v : AV} {s1 : St}

/-- A slice over a block that was just laid. -/
theorem laid_rs {s' : St} {l : Loc} {z len cap' r g : Nat} {els : List (List AV)} {ex : Bool} {us : List Value} {w' : World} (L : Laid s s' l ⟨z, els, ex, false⟩) (hg : s'.gen l = g) (hlh : ∀ i, l = .h i → i < s'.h.length)
    (M : MR s cx w) (hF : FL s.sg cx w z els us)
    (hh : ∀ r, r < w.heap.size → w'.heap[r]? = w.heap[r]?) (hos : w'.os = w.os) (htp : w'.tape = w.tape) (hou : w'.output = w.output) (hsz : w.heap.size ≤ w'.heap.size)
    (hr : w.heap.size ≤ r) (hroom : Room w' r (cap' * z)) (hc : ∀ (i : Nat) (u : Value), us[i]? = some u → cel w' r i = some u)
    (hlen : len ≤ els.length) (hcap : els.length ≤ cap') (hex : ex = true → cap' = els.length) (hemp : els = [] → ex = true) :
    ∃ cx', Go1 s cx w s' cx' w' ∧ MR s' cx' w' ∧ VR s'.sg cx' w' (.rs l g z 0 len els.length) (.slice (some ⟨r, 0, none⟩) len cap') := by
  have hle : els.length * z ≤ cap' * z := Nat.mul_le_mul_right _ hcap
  obtain ⟨g1, g2⟩ := L.go M r hh hos htp hou hsz (fun _ => ⟨hr, hroom.le hle⟩) rfl hemp hF.zs (fun j q x hx => by
    obtain ⟨u, h1, h2⟩ := hF.at_ j q x hx
    exact ⟨u, hc _ u h1, h2, hF.one u (List.mem_of_getElem? h1)⟩)
  refine ⟨_, g1, g2, ?_⟩
  refine .rs hlen hcap (fun _ => ⟨_, rfl⟩) (by rw [← hg]; exact Nat.le_refl _) hlh (fun _ b hb => ?_)
  obtain ⟨b2, k1, rfl⟩ := sg_b hb
  rw [L.here] at k1
  cases k1
  refine ⟨rfl, by simp [Blk.bi], fun h => hex h, fun _ => ⟨by simp [updL_eq], ?_⟩⟩
  simp only [updL_eq, Nat.zero_add]
  exact hroom

theorem kill_cur {l x : Loc} {b : Blk} (h : (s.kill l).cur x = some b) : x ≠ l ∧ s.cur x = some b := by
  cases l with
  | v i =>
    cases x with
    | v j =>
      by_cases e : j = i
      · subst e; simp [St.kill, St.cur, upd] at h
      · refine ⟨fun h' => e (by cases h'; rfl), ?_⟩
        simpa [St.kill, St.cur, upd, e] using h
    | a j => exact ⟨by simp, h⟩
    | h j => exact ⟨by simp, h⟩
  | a i =>
    cases x with
    | a j =>
      by_cases e : j = i
      · subst e; simp [St.kill, St.cur, upd] at h
      · refine ⟨fun h' => e (by cases h'; rfl), ?_⟩
        simpa [St.kill, St.cur, upd, e] using h
    | v j => exact ⟨by simp, h⟩
    | h j => exact ⟨by simp, h⟩
  | h i =>
    cases x with
    | h j =>
      simp only [St.kill, St.cur, List.getElem?_set] at h
      by_cases e : i = j
      · subst e
        rw [if_pos rfl] at h
        split at h <;> simp [blkAt] at h
      · rw [if_neg e] at h
        exact ⟨fun h' => e (by cases h'; rfl), h⟩
    | v j => exact ⟨by simp, h⟩
    | a j => exact ⟨by simp, h⟩
theorem kill_gen (l x : Loc) : (s.kill l).gen x = s.gen x := by
  cases l with
  | v i => cases x <;> simp [St.kill, St.gen, upd]; split <;> simp_all
  | a i => cases x <;> simp [St.kill, St.gen, upd]; split <;> simp_all
  | h i => cases x <;> rfl
theorem kill_hl (l : Loc) : (s.kill l).h.length = s.h.length := by
  cases l <;> simp [St.kill]
theorem kill_map (l : Loc) (i : Nat) (es : List Ent) (k : Nat) (h : (s.kill l).h[i]? = some (HB.map es k)) : s.h[i]? = some (HB.map es k) := by
  cases l with
  | v j => exact h
  | a j => exact h
  | h j =>
    simp only [St.kill, List.getElem?_set] at h
    split at h
    · split at h <;> cases h
    · exact h
theorem kill_map' {l : Loc} {b : Blk} (hb : s.cur l = some b) (i : Nat) (es : List Ent) (k : Nat) (h : s.h[i]? = some (HB.map es k)) : (s.kill l).h[i]? = some (HB.map es k) := by
  cases l with
  | v j => exact h
  | a j => exact h
  | h j =>
    simp only [St.kill, List.getElem?_set]
    by_cases e : j = i
    · subst e; simp [St.cur, h, blkAt] at hb
    · rw [if_neg e]; exact h
theorem kill_go (M : MR s cx w) (l : Loc) : Go1 s cx w (s.kill l) cx w ∧ MR (s.kill l) cx w :=
  M.less (fun x b h => (kill_cur h).2) (kill_gen l) (kill_hl l) (kill_map l) (by cases l <;> rfl)

/-- Grown into new memory. -/
theorem grow_new {s' : St} {l : Loc} {z n cap' g : Nat} {els : List (List AV)} {os us : List Value} {zv : Value} {e : TypeId} (L : Laid s s' l ⟨z, els, false, false⟩) (hg : s'.gen l = g) (hlh : ∀ i, l = .h i → i < s'.h.length)
    (M : MR s cx w) (hF : FL s.sg cx w z els (os ++ us)) (hn : els.length = n) (h0 : 0 < n) (hcap : n ≤ cap') (hzc : zv.cells.size = z) :
    ∃ cx', Go1 s cx w s' cx' (w.drew.alloc (.cells (os.toArray ++ (us.toArray ++ Builtin.zeroCells zv.cells (cap' - n))) e)) ∧ MR s' cx' (w.drew.alloc (.cells (os.toArray ++ (us.toArray ++ Builtin.zeroCells zv.cells (cap' - n))) e)) ∧
      VR s'.sg cx' (w.drew.alloc (.cells (os.toArray ++ (us.toArray ++ Builtin.zeroCells zv.cells (cap' - n))) e)) (.rs l g z 0 n n) (.slice (some ⟨w.heap.size, 0, none⟩) n cap') := by
  subst hn
  have hsz : (os.toArray ++ (us.toArray ++ Builtin.zeroCells zv.cells (cap' - els.length))).size = cap' * z := by
    have := hF.len
    simp only [List.length_append] at this
    simp only [Array.size_append, List.size_toArray, Builtin.zeroCells, Array.size_map, Array.size_range, hzc]
    rw [← Nat.add_assoc, this, ← Nat.add_mul]; congr 1; omega
  obtain ⟨cx', g1, g2, g3⟩ := laid_rs (w := w.drew) (w' := w.drew.alloc (.cells (os.toArray ++ (us.toArray ++ Builtin.zeroCells zv.cells (cap' - els.length))) e)) (r := w.heap.size) (cap' := cap') (len := els.length) L hg hlh M.drew (hF.ext Go1.drew.ext)
    (fun r hr => RowKit.Below.heap_alloc w.drew _ r hr) rfl rfl rfl (by simp) (Nat.le_refl _) (room_new w.drew _ e _ (Nat.le_of_eq hsz.symm)) (fun i u hu => by
      have := cel_new w.drew (os.toArray ++ (us.toArray ++ Builtin.zeroCells zv.cells (cap' - els.length))) e i
      rw [show w.drew.heap.size = w.heap.size from rfl] at this
      rw [this, ← Array.append_assoc, Array.getElem?_append_left]
      · simpa using hu
      · have := (List.getElem?_eq_some_iff.1 hu).1; simpa using this)
    (Nat.le_refl _) hcap (fun h => by cases h) (fun h => by subst h; simp at h0)
  exact ⟨cx', Go1.drew.trans g1, g2, g3⟩

/-- Elements stored behind those of a live block, as far as its memory reaches. -/
theorem app_place (M : MR s cx w) {l : Loc} {b : Blk} {len c : Nat} {ys : List (List AV)} {us : List Value} (hb : s.cur l = some b) (hfz : b.fz = false) (hw : s.wr l) (hne : b.els ≠ []) (hlen : len ≤ b.els.length) (hroom : Room w (cx.lm l) (c * b.z))
    (hF : FL s.sg cx w b.z ys us) (hle : len + ys.length ≤ c) (hy : ys ≠ []) :
    (∀ P : Program, (storeCells ⟨cx.lm l, len * b.z, none⟩ us).run P w = .ok () (setCs w (cx.lm l) (len * b.z) us)) ∧
    ∀ (s' : St) (l' : Loc) (g : Nat),
      (∀ x b2, s'.cur x = some b2 → (x = l' ∧ b2 = ⟨b.z, b.els.take len ++ ys, false, false⟩) ∨ (x ≠ l' ∧ x ≠ l ∧ s.cur x = some b2)) → (∀ x, s.gen x ≤ s'.gen x) →
      (s.gen l' < s'.gen l' ∨ ∃ i, l' = .h i ∧ s.h.length ≤ i) → (∀ (i : Nat) (es : List Ent) (k : Nat), s'.h[i]? = some (HB.map es k) ↔ s.h[i]? = some (HB.map es k)) → s.h.length ≤ s'.h.length → s'.ro = s.ro →
      s'.gen l' = g → (∀ i, l' = .h i → i < s'.h.length) → s'.cur l' = some ⟨b.z, b.els.take len ++ ys, false, false⟩ →
      ∃ cx', Go1 s cx w s' cx' (setCs w (cx.lm l) (len * b.z) us) ∧ MR s' cx' (setCs w (cx.lm l) (len * b.z) us) ∧
        VR s'.sg cx' (setCs w (cx.lm l) (len * b.z) us) (.rs l' g b.z 0 (len + ys.length) (len + ys.length)) (.slice (some ⟨cx.lm l, 0, none⟩) (len + ys.length) c) := by
  have htk : (b.els.take len).length = len := by rw [List.length_take]; omega
  have hend : (len + ys.length) * b.z ≤ c * b.z := Nat.mul_le_mul_right _ hle
  rw [Nat.add_mul] at hend
  have hrm : ∀ j, j < us.length → (cel w (cx.lm l) (len * b.z + j)).isSome = true ∧ w.frozen? ⟨cx.lm l, len * b.z + j, none⟩ = false :=
    fun j hj => hroom.2 _ (by rw [hF.len] at hj; omega)
  refine ⟨fun P => run_storeCells P (cx.lm l) (len * b.z) us w 0 (fun j hj => hrm j hj) hF.one, fun s' l' g hcur hgen hup hmap hhl hro hg hlh hhere => ?_⟩
  obtain ⟨g1, g2, g3⟩ := setCs_os (cx.lm l) us w (len * b.z)
  have hmapl : ∀ (i : Nat) (es : List Ent) (k : Nat), s.h[i]? = some (HB.map es k) → Loc.h i ≠ l' := fun i es k h e => by
    subst e
    have := (hmap i es k).2 h
    simp [St.cur, this, blkAt] at hhere
  have hroom' : ∀ n, Room w (cx.lm l) n → Room (setCs w (cx.lm l) (len * b.z) us) (cx.lm l) n := fun n hn => setCs_room hn (fun j hj => (hrm j hj).1)
  have hR : (len + ys.length) * b.z ≤ c * b.z := Nat.mul_le_mul_right _ hle
  obtain ⟨k1, k2⟩ := regrow (l' := l') (b' := ⟨b.z, b.els.take len ++ ys, false, false⟩) M hb hfz hne hw hro hcur hgen hup hmap hhl hmapl (fun r hr => setCs_heap _ _ _ _ _ hr) g1 g2 g3 (setCs_size _ _ _ _) hroom' rfl
    (fun e => by have := congrArg List.length e; simp at this; exact hy this.2)
    (fun cs hcs => by
      rcases List.mem_append.1 hcs with h | h
      · exact M.zs l b hb cs (List.mem_of_mem_take h)
      · exact hF.zs cs h)
    (by rw [List.length_append, htk]; exact hroom' _ (hroom.le hR))
    (fun j q x hx => by
      show ∃ v, cel (setCs w (cx.lm l) (len * b.z) us) (cx.lm l) (j * b.z + q) = some v ∧ VR s.sg cx w x v ∧ v.oneCell' = true
      rw [setCs_cel _ _ _ _ _ (fun j hj => (hrm j hj).1), hF.len]
      have hx : cellA (b.els.take len ++ ys) j q = some x := hx
      rcases Nat.lt_or_ge j len with hj | hj
      · rw [cellA_left (by omega)] at hx
        have hx := (cellA_take hx).2
        have hq := cellA_ltz (M.zs l b hb) hx
        have : (j + 1) * b.z ≤ len * b.z := Nat.mul_le_mul_right _ hj
        rw [Nat.succ_mul] at this
        rw [if_neg (by omega)]
        exact M.live l b hb j q x hx
      · rw [cellA_right (by omega), htk] at hx
        have hq := cellA_ltz hF.zs hx
        have hj2 := cellA_lt hx
        obtain ⟨u, k1, k2⟩ := hF.at_ _ q x hx
        have e1 : (j - len) * b.z = j * b.z - len * b.z := Nat.sub_mul ..
        have e2 : len * b.z ≤ j * b.z := Nat.mul_le_mul_right _ hj
        have e3 : (j + 1) * b.z ≤ (len + ys.length) * b.z := Nat.mul_le_mul_right _ (by omega)
        rw [Nat.succ_mul, Nat.add_mul] at e3
        rw [if_pos (by omega)]
        exact ⟨u, by rw [← k1]; congr 1; omega, k2, hF.one u (List.mem_of_getElem? k1)⟩)
  refine ⟨_, k1, k2, .rs (Nat.le_refl _) hle (fun _ => ⟨_, rfl⟩) (by rw [← hg]; exact Nat.le_refl _) hlh (fun _ bi hbi => ?_)⟩
  obtain ⟨b2, q1, rfl⟩ := sg_b hbi
  rw [hhere] at q1; cases q1
  refine ⟨rfl, by simp [Blk.bi, htk], fun h => by simp [Blk.bi] at h, fun _ => ⟨by simp [updL_eq], ?_⟩⟩
  simp only [updL_eq, Nat.zero_add]
  exact hroom' _ hroom

end
end Go.Proofs.Bb
