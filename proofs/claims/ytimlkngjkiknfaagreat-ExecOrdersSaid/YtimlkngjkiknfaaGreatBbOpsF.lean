/- Arrays: made, filled, copied, appended to. -/
import Derived.Test.YtimlkngjkiknfaaGreatBbOpsE
import Derived.Laws.MakeOwn
import Derived.Lib.ConvBytes
import Derived.Laws.BytesArg
import Derived.Laws.Append
set_option linter.unusedSimpArgs false
set_option linter.unusedVariables false
namespace Go.Proofs.Bb
open Go

/-- A list of elements, laid out cell by cell. -/
structure FL (σ : Sg) (cx : Cx) (w : World) (z : Nat) (ys : List (List AV)) (us : List Value) : Prop where
  len : us.length = ys.length * z
  zs : ∀ cs, cs ∈ ys → cs.length = z
  at_ : ∀ j q x, cellA ys j q = some x → ∃ u, us[j * z + q]? = some u ∧ VR σ cx w x u
  one : ∀ u, u ∈ us → u.oneCell' = true

theorem FL.ext {σ σ' : Sg} {cx cx' : Cx} {w w' : World} {z : Nat} {ys : List (List AV)} {us : List Value} (h : FL σ cx w z ys us) (e : Ext σ cx w σ' cx' w') : FL σ' cx' w' z ys us :=
  ⟨h.len, h.zs, fun j q x hx => by obtain ⟨u, h1, h2⟩ := h.at_ j q x hx; exact ⟨u, h1, h2.ext e⟩, h.one⟩
theorem FL.nil {σ : Sg} {cx : Cx} {w : World} {z : Nat} : FL σ cx w z [] [] := ⟨by simp, fun cs h => by simp at h, fun j q x h => by simp [cellA] at h, fun u h => by simp at h⟩

theorem cellA_lt {els : List (List AV)} {j q : Nat} {x : AV} (h : cellA els j q = some x) : j < els.length := by
  obtain ⟨cs, h1, _⟩ := cellA_of h
  exact (List.getElem?_eq_some_iff.1 h1).1
theorem cellA_ltz {els : List (List AV)} {j q z : Nat} {x : AV} (hz : ∀ cs, cs ∈ els → cs.length = z) (h : cellA els j q = some x) : q < z := by
  obtain ⟨cs, h1, h2⟩ := cellA_of h
  rw [← hz cs (List.mem_of_getElem? h1)]
  exact (List.getElem?_eq_some_iff.1 h2).1
theorem cellA_left {xs ys : List (List AV)} {j q : Nat} (h : j < xs.length) : cellA (xs ++ ys) j q = cellA xs j q := by
  simp [cellA, List.getElem?_append_left h]
theorem cellA_right {xs ys : List (List AV)} {j q : Nat} (h : xs.length ≤ j) : cellA (xs ++ ys) j q = cellA ys (j - xs.length) q := by
  simp [cellA, List.getElem?_append_right h]
theorem cellA_take {xs : List (List AV)} {n j q : Nat} {x : AV} (h : cellA (xs.take n) j q = some x) : j < n ∧ cellA xs j q = some x := by
  obtain ⟨cs, h1, h2⟩ := cellA_of h
  have hlt := (List.getElem?_eq_some_iff.1 h1).1
  rw [List.length_take] at hlt
  rw [List.getElem?_take_of_lt (by omega)] at h1
  exact ⟨by omega, cellA_mk h1 h2⟩
theorem cellA_drop {xs : List (List AV)} {n j q : Nat} {x : AV} (h : cellA (xs.drop n) j q = some x) : cellA xs (n + j) q = some x := by
  obtain ⟨cs, h1, h2⟩ := cellA_of h
  rw [List.getElem?_drop] at h1
  exact cellA_mk h1 h2

theorem FL.append {σ : Sg} {cx : Cx} {w : World} {z : Nat} {ys zs : List (List AV)} {us vs : List Value} (h : FL σ cx w z ys us) (k : FL σ cx w z zs vs) : FL σ cx w z (ys ++ zs) (us ++ vs) := by
  refine ⟨by simp [h.len, k.len, Nat.add_mul], fun cs hcs => ?_, fun j q x hx => ?_, fun u hu => ?_⟩
  · rcases List.mem_append.1 hcs with h' | h'
    · exact h.zs cs h'
    · exact k.zs cs h'
  · rcases Nat.lt_or_ge j ys.length with hj | hj
    · rw [cellA_left hj] at hx
      obtain ⟨u, h1, h2⟩ := h.at_ j q x hx
      exact ⟨u, by rw [List.getElem?_append_left (List.getElem?_eq_some_iff.1 h1).1]; exact h1, h2⟩
    · rw [cellA_right hj] at hx
      obtain ⟨u, h1, h2⟩ := k.at_ _ q x hx
      refine ⟨u, ?_, h2⟩
      have hm : ys.length * z ≤ j * z := Nat.mul_le_mul_right _ hj
      rw [List.getElem?_append_right (by rw [h.len]; omega), h.len]
      rw [← h1]; congr 1; rw [Nat.sub_mul]; omega
  · rcases List.mem_append.1 hu with h' | h'
    · exact h.one u h'
    · exact k.one u h'

section
variable {P : Program} {s : St} {cx : Cx} {w : World} {a : Act} {o : Oper} {Q : Exit → Act → World → Prop} {C : Orc} {ro : Bool} {d : Nat} {v : AV} {s1 : St}

/-- Cells of memory, as a list. -/
theorem mem_list {σ : Sg} {r p z : Nat} {els : List (List AV)} (hz : ∀ cs, cs ∈ els → cs.length = z)
    (h : ∀ j q x, cellA els j q = some x → ∃ u, cel w r (p + (j * z + q)) = some u ∧ VR σ cx w x u ∧ u.oneCell' = true) :
    ∃ us : List Value, FL σ cx w z els us ∧ ∀ i u, us[i]? = some u → cel w r (p + i) = some u := by
  have hex : ∀ i, i < els.length * z → ∃ x, cellA els (i / z) (i % z) = some x ∧ i / z * z + i % z = i ∧ i / z < els.length ∧ i % z < z := by
    intro i hi
    have hz0 : 0 < z := Nat.pos_of_ne_zero (fun h => by subst h; simp at hi)
    have h1 : i / z < els.length := (Nat.div_lt_iff_lt_mul hz0).2 hi
    have h2 : i % z < z := Nat.mod_lt _ hz0
    have h3 := hz _ (List.getElem_mem h1)
    refine ⟨els[i / z][i % z]'(by omega), cellA_mk (List.getElem?_eq_getElem h1) (List.getElem?_eq_getElem (by omega)), ?_, h1, h2⟩
    rw [Nat.mul_comm]; exact Nat.div_add_mod i z
  refine ⟨(List.range (els.length * z)).map fun i => (cel w r (p + i)).getD undef, ⟨by simp, hz, fun j q x hx => ?_, fun u hu => ?_⟩, fun i u hu => ?_⟩
  · have h1 := cellA_lt hx
    have h2 := cellA_ltz hz hx
    obtain ⟨u, k1, k2, k3⟩ := h j q x hx
    have hlt : j * z + q < els.length * z := by
      have : (j + 1) * z ≤ els.length * z := Nat.mul_le_mul_right _ h1
      rw [Nat.succ_mul] at this; omega
    exact ⟨u, by rw [List.getElem?_map, List.getElem?_range hlt]; simp [k1], k2⟩
  · obtain ⟨i, hi, rfl⟩ := List.mem_map.1 hu
    obtain ⟨x, h1, h2, _, _⟩ := hex i (List.mem_range.1 hi)
    obtain ⟨u, k1, k2, k3⟩ := h _ _ x h1
    rw [h2] at k1
    rw [k1]; exact k3
  · have hlt : i < els.length * z := by have := (List.getElem?_eq_some_iff.1 hu).1; simpa using this
    rw [List.getElem?_map, List.getElem?_range hlt] at hu
    obtain ⟨x, h1, h2, _, _⟩ := hex i hlt
    obtain ⟨u', k1, k2, k3⟩ := h _ _ x h1
    rw [h2] at k1
    simp [k1] at hu
    rw [k1, hu]

/-- What a slice that is read holds. -/
theorem src_ok {hh : Bool} {y : AV} {u : Value} {z : Nat} {ys : List (List AV)} (M : MR s cx w) (hv : VR s.sg cx w y u) (h : elsOf hh s y = some (z, ys)) :
    ∃ A c, u = .slice A ys.length c ∧ ∀ n, n ≤ ys.length → ∃ us, (∀ (P : Program) (w2 : World) size, w2.heap = w.heap → (size = z ∨ n = 0) → (Builtin.firstCells size n u).run P w2 = .ok us.toArray w2) ∧ FL s.sg cx w z (ys.take n) us ∧
      (∀ i v, us[i]? = some v → ∃ b, A = some b ∧ w.cell? (b.add i) = some v) := by
  have fin : ∀ (A : Option Addr) (len c r off : Nat) (els : List (List AV)), len = els.length → (∀ cs, cs ∈ els → cs.length = z) → (0 < els.length → A = some ⟨r, off, none⟩) →
      (∀ j q x, cellA els j q = some x → ∃ u, cel w r (off + (j * z + q)) = some u ∧ VR s.sg cx w x u ∧ u.oneCell' = true) →
      ∀ n, n ≤ els.length → ∃ us, (∀ (P : Program) (w2 : World) size, w2.heap = w.heap → (size = z ∨ n = 0) → (Builtin.firstCells size n (.slice A len c)).run P w2 = .ok us.toArray w2) ∧ FL s.sg cx w z (els.take n) us ∧
        (∀ i v, us[i]? = some v → ∃ b, A = some b ∧ w.cell? (b.add i) = some v) := by
    intro A len c r off els hl hz hA hm n hn
    rcases Nat.eq_zero_or_pos n with rfl | h0
    · refine ⟨[], fun P w2 size _ _ => ?_, by simpa using FL.nil, fun i v hi => by simp at hi⟩
      cases A with
      | none => simp [Builtin.firstCells]
      | some b => simp [Builtin.firstCells, loadCells, loadCellsFrom]
    · have hA := hA (by omega)
      subst hA
      obtain ⟨us, k1, k2⟩ := mem_list (w := w) (r := r) (p := off) (z := z) (els := els.take n) (σ := s.sg) (cx := cx) (fun cs hcs => hz cs (List.mem_of_mem_take hcs)) (fun j q x hx => hm j q x (cellA_take hx).2)
      refine ⟨us, fun P w2 size hw2 hsz => ?_, k1, fun i v hi => ⟨_, rfl, by rw [add_eq _ _ _ _ rfl]; exact k2 i v hi⟩⟩
      have hsz' : size = z := hsz.resolve_right (by omega)
      subst hsz'
      refine run_firstCells_some w2 size n ⟨r, off, none⟩ len c us ?_ (fun j v hj => ?_)
      · rw [k1.len, List.length_take, Nat.min_eq_left hn]
      · rw [add_eq _ _ _ _ rfl]
        have := k2 j v hj
        simpa [cel, World.cell?, hw2] using this
  cases hv with
  | @sl z0 els tl A len cap r off fc k1 k2 k3 k4 k5 k6 k7 k8 =>
    simp only [elsOf, Option.some.injEq, Prod.mk.injEq] at h
    obtain ⟨rfl, rfl⟩ := h
    subst k1
    refine ⟨A, cap, rfl, fin A _ cap r off els rfl (fun cs hcs => k5 cs (by simp [hcs])) (fun h0 => (k4 (by simp; omega)).1) (fun j q x hx => ?_)⟩
    have hx' : cellA (els ++ tl.getD []) j q = some x := by rw [cellA_left (cellA_lt hx)]; exact hx
    exact ⟨_, k6 j q x hx', k7 j q x hx', k8 j q x hx'⟩
  | @rs l g z0 off len cap c A k1 k2 k3 k4 k5 k6 =>
    simp only [elsOf] at h
    split at h
    · cases h
    · split at h
      · rename_i b hb
        simp only [Option.some.injEq, Prod.mk.injEq] at h
        obtain ⟨rfl, rfl⟩ := h
        obtain ⟨h1, h2⟩ := getB_some hb
        obtain ⟨j1, j2, j3, j4⟩ := k6 h2 b.bi (sg_of h1)
        have j1 : b.z = z0 := j1
        have j2 : off + cap ≤ b.els.length := j2
        subst j1
        have hlen : (b.part off len).length = len := by simp only [Blk.part, List.length_take, List.length_drop]; omega
        refine ⟨A, c, by rw [hlen], ?_⟩
        refine fin A len c (cx.lm l) (off * b.z) (b.part off len) hlen.symm (fun cs hcs => M.zs _ b h1 cs (List.mem_of_mem_drop (List.mem_of_mem_take hcs))) (fun h0 => (j4 (by omega)).1) (fun j q x hx => ?_)
        have hx' := cellA_drop (cellA_take hx).2
        obtain ⟨u, g1, g2, g3⟩ := M.live l b h1 _ q x hx'
        exact ⟨u, by rw [← g1]; congr 1; rw [Nat.add_mul]; omega, g2, g3⟩
      · cases h
  | _ => simp [elsOf] at h

/-- Elements written into a live block, in place. -/
theorem fill_go (M : MR s cx w) {l : Loc} {g off : Nat} {b : Blk} {ys : List (List AV)} {us : List Value} (hb : s.getB l g = some b) (hf : b.fz = false) (hw : s.wr l) (hy : ys ≠ [])
    (hle : off + ys.length ≤ b.els.length) (hF : FL s.sg cx w b.z ys us) :
    Go1 s cx w (s.setB l (setEls b off ys)) cx (setCs w (cx.lm l) (off * b.z) us) ∧ MR (s.setB l (setEls b off ys)) cx (setCs w (cx.lm l) (off * b.z) us) ∧
      (∀ P : Program, (storeCells ⟨cx.lm l, off * b.z, none⟩ us).run P w = .ok () (setCs w (cx.lm l) (off * b.z) us)) := by
  obtain ⟨h1, h2⟩ := getB_some hb
  have hy0 : 0 < ys.length := List.length_pos_iff.2 hy
  have hne : b.els ≠ [] := fun e => by rw [e] at hle; simp only [List.length_nil] at hle; omega
  obtain ⟨hm1, hm2⟩ := M.mu l b h1 hf hne
  have hend : (off + ys.length) * b.z ≤ b.els.length * b.z := Nat.mul_le_mul_right _ hle
  rw [Nat.add_mul] at hend
  have hroom : ∀ j, j < us.length → (cel w (cx.lm l) (off * b.z + j)).isSome = true ∧ w.frozen? ⟨cx.lm l, off * b.z + j, none⟩ = false :=
    fun j hj => hm2.2 _ (by rw [hF.len] at hj; omega)
  have hlen : (setEls b off ys).els.length = b.els.length := by simp only [setEls, List.length_append, List.length_take, List.length_drop]; omega
  have T := setB_turned (b' := setEls b off ys) hb (by simp [Blk.bi, hlen]; simp [setEls])
  obtain ⟨g1, g2, g3⟩ := setCs_os (cx.lm l) us w (off * b.z)
  have hS := T.store M hf hf hne hw (fun r hr => setCs_heap _ _ _ _ _ hr) g1 g2 g3 (setCs_size _ _ _ _) (fun n hn => setCs_room hn (fun j hj => (hroom j hj).1))
    (fun c hc => by
      simp only [setEls, List.mem_append] at hc
      rcases hc with (hc | hc) | hc
      · exact M.zs l b h1 c (List.mem_of_mem_take hc)
      · exact hF.zs c hc
      · exact M.zs l b h1 c (List.mem_of_mem_drop hc))
    (fun j q x hx => by
      show ∃ v, cel (setCs w (cx.lm l) (off * b.z) us) (cx.lm l) (j * b.z + q) = some v ∧ VR s.sg cx w x v ∧ v.oneCell' = true
      rw [setCs_cel _ _ _ _ _ (fun j hj => (hroom j hj).1)]
      have hx : cellA (b.els.take off ++ ys ++ b.els.drop (off + ys.length)) j q = some x := hx
      have htk : (b.els.take off).length = off := by rw [List.length_take]; omega
      rw [hF.len]
      rcases Nat.lt_or_ge j off with hj | hj
      · rw [List.append_assoc, cellA_left (by omega)] at hx
        have hx := (cellA_take hx).2
        have hq := cellA_ltz (M.zs l b h1) hx
        have : (j + 1) * b.z ≤ off * b.z := Nat.mul_le_mul_right _ hj
        rw [Nat.succ_mul] at this
        rw [if_neg (by omega)]
        exact M.live l b h1 j q x hx
      · rcases Nat.lt_or_ge j (off + ys.length) with hj2 | hj2
        · rw [cellA_left (by rw [List.length_append]; omega), cellA_right (by omega), htk] at hx
          have hq := cellA_ltz hF.zs hx
          obtain ⟨u, k1, k2⟩ := hF.at_ _ q x hx
          have e1 : (j - off) * b.z = j * b.z - off * b.z := Nat.sub_mul ..
          have e2 : off * b.z ≤ j * b.z := Nat.mul_le_mul_right _ hj
          have e3 : (j + 1) * b.z ≤ (off + ys.length) * b.z := Nat.mul_le_mul_right _ hj2
          rw [Nat.succ_mul, Nat.add_mul] at e3
          rw [if_pos (by omega)]
          exact ⟨u, by rw [← k1]; congr 1; omega, k2, hF.one u (List.mem_of_getElem? k1)⟩
        · rw [cellA_right (by rw [List.length_append]; omega), List.length_append, htk] at hx
          have hx := cellA_drop hx
          rw [show off + ys.length + (j - (off + ys.length)) = j by omega] at hx
          have e3 : (off + ys.length) * b.z ≤ j * b.z := Nat.mul_le_mul_right _ hj2
          rw [Nat.add_mul] at e3
          rw [if_neg (by omega)]
          exact M.live l b h1 j q x hx)
  refine ⟨hS.1, hS.2, fun P => ?_⟩
  have := run_storeCells P (cx.lm l) (off * b.z) us w 0 (fun j hj => hroom j hj) hF.one
  exact this

end
end Go.Proofs.Bb
