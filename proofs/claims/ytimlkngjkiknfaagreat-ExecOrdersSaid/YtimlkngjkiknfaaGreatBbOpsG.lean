/- Arrays: made, copied, cleared, appended to. -/
import Derived.Test.YtimlkngjkiknfaaGreatBbOpsF
set_option linter.unusedSimpArgs false
set_option linter.unusedVariables false
namespace Go.Proofs.Bb
open Go

/-- A block that goes on under another slot. -/
theorem regrow {s s' : St} {cx : Cx} {w w' : World} {l l' : Loc} {b b' : Blk} (M : MR s cx w) (h1 : s.cur l = some b) (hf : b.fz = false) (hne : b.els ≠ []) (hw : s.wr l) (hro : s'.ro = s.ro)
    (cur : ∀ x b2, s'.cur x = some b2 → (x = l' ∧ b2 = b') ∨ (x ≠ l' ∧ x ≠ l ∧ s.cur x = some b2)) (gen : ∀ x, s.gen x ≤ s'.gen x)
    (up : s.gen l' < s'.gen l' ∨ ∃ i, l' = .h i ∧ s.h.length ≤ i) (map : ∀ (i : Nat) (es : List Ent) (k : Nat), s'.h[i]? = some (HB.map es k) ↔ s.h[i]? = some (HB.map es k)) (hl : s.h.length ≤ s'.h.length)
    (hmapl : ∀ (i : Nat) (es : List Ent) (k : Nat), s.h[i]? = some (HB.map es k) → Loc.h i ≠ l')
    (hh : ∀ q, q ≠ cx.lm l → w'.heap[q]? = w.heap[q]?) (hos : w'.os = w.os) (htp : w'.tape = w.tape) (hou : w'.output = w.output) (hsz : w'.heap.size = w.heap.size)
    (hroom : ∀ n, Room w (cx.lm l) n → Room w' (cx.lm l) n) (hf' : b'.fz = false) (hne' : b'.els ≠ []) (hz : ∀ cs, cs ∈ b'.els → cs.length = b'.z) (hR : Room w' (cx.lm l) (b'.els.length * b'.z))
    (hc : ∀ j q x, cellA b'.els j q = some x → ∃ v, cel w' (cx.lm l) (j * b'.z + q) = some v ∧ VR s.sg cx w x v ∧ v.oneCell' = true) :
    Go1 s cx w s' ⟨updL cx.lm l' (cx.lm l), cx.im⟩ w' ∧ MR s' ⟨updL cx.lm l' (cx.lm l), cx.im⟩ w' := by
  obtain ⟨hm1, hm2⟩ := M.mu l b h1 hf hne
  have hnim : ∀ r, cx.im r → r ≠ cx.lm l := fun r hr e => hm1 (e ▸ hr)
  have hroomA : ∀ r n, Room w r n → Room w' r n := fun r n hr => by
    by_cases e : r = cx.lm l
    · subst e; exact hroom n hr
    · exact hr.of_heap (hh r e)
  have hnew : ∀ x, s.gen x = s'.gen x → (∀ i, x = .h i → i < s.h.length) → x ≠ l' := fun x e1 e2 e => by
    subst e
    rcases up with h | ⟨i, rfl, h⟩
    · omega
    · have := e2 i rfl; omega
  have hE : Ext s.sg cx w s'.sg ⟨updL cx.lm l' (cx.lm l), cx.im⟩ w' := by
    refine ⟨gen, hl, fun x e1 e2 bi hbi => ?_, fun i hi => ?_, fun _ h => h, fun r hr p v hv => by rw [cel_of_heap (hh r (hnim r hr))]; exact hv, hroomA⟩
    · obtain ⟨b2, k1, rfl⟩ := sg_b hbi
      have hx := hnew x e1 e2
      rcases cur x b2 k1 with ⟨rfl, _⟩ | ⟨k2, k3, k4⟩
      · exact absurd rfl hx
      · exact ⟨sg_of k4, updL_ne _ _ hx⟩
    · have hi : i < s.h.length := hi
      refine updL_ne _ _ (fun e => ?_)
      rcases up with h | ⟨j, h, h'⟩
      · subst e; exact absurd h (Nat.lt_irrefl 0)
      · rw [h] at e; cases e; omega
  have hkind : ∀ (i : Nat) (es : List Ent) (k : Nat), s.h[i]? = some (HB.map es k) → cx.lm (.h i) ≠ cx.lm l := fun i es k h e => by
    obtain ⟨es', k1, _⟩ := M.maps i es k h
    obtain ⟨⟨c, e', f, k2⟩, _⟩ := hm2
    rw [e, k2] at k1; cases k1
  refine ⟨⟨hE, fun r _ hr => hh r (fun e => hr (.inl ⟨l, b, h1, hf, hne, e.symm, hw⟩)), fun r hr => .inl ?_, fun _ h => .inl h, hos, htp, hou, Nat.le_of_eq hsz.symm⟩, ?_⟩
  · rcases hr with ⟨x, b2, k1, k2, k3, k4, k5⟩ | ⟨i, es, c, k1, k2, k5⟩
    · rcases cur x b2 k1 with ⟨rfl, rfl⟩ | ⟨g1, g2, g3⟩
      · exact .inl ⟨l, b, h1, hf, hne, (updL_eq _ _ _).symm.trans k4, hw⟩
      · exact .inl ⟨x, b2, g3, k2, k3, (updL_ne _ _ g1).symm.trans k4, wr_of hro k5⟩
    · have g := (map i es c).1 k1
      exact .inr ⟨i, es, c, g, (updL_ne _ _ (hmapl i es c g)).symm.trans k2, by rw [← hro]; exact k5⟩
  · refine ⟨fun x b2 h j q y hy => ?_, fun x b2 h => ?_, fun x b2 h q2 q3 => ?_, fun x b2 h q2 q3 => ?_, fun x b2 h q2 => ?_, fun l1 l2 b1 b2 g1 g2 f1 f2 e1 e2 hne2 => ?_, fun i es c h => ?_, fun i j es c es' c' g1 g2 hij => ?_, fun r hr => ?_⟩
    · rcases cur x b2 h with ⟨rfl, rfl⟩ | ⟨g1, g2, g3⟩
      · obtain ⟨v, k1, k2, k3⟩ := hc j q y hy
        exact ⟨v, by simp only [updL_eq]; exact k1, k2.ext hE, k3⟩
      · obtain ⟨v, k1, k2, k3⟩ := M.live x b2 g3 j q y hy
        refine ⟨v, ?_, k2.ext hE, k3⟩
        simp only [updL_ne _ _ g1]
        have hn2 : b2.els ≠ [] := fun e0 => by simp [cellA, e0] at hy
        have : cx.lm x ≠ cx.lm l := by
          cases hf2 : b2.fz with
          | false => exact M.dis x l b2 b g3 h1 hf2 hf hn2 hne g2
          | true => exact hnim _ (M.fz x b2 g3 hf2 hn2)
        rw [cel_of_heap (hh _ this)]; exact k1
    · rcases cur x b2 h with ⟨rfl, rfl⟩ | ⟨g1, g2, g3⟩
      · exact hz
      · exact M.zs x b2 g3
    · rcases cur x b2 h with ⟨rfl, rfl⟩ | ⟨g1, g2, g3⟩
      · simp only [updL_eq]; exact ⟨hm1, hR⟩
      · simp only [updL_ne _ _ g1]
        obtain ⟨k1, k2⟩ := M.mu x b2 g3 q2 q3
        exact ⟨k1, hroomA _ _ k2⟩
    · rcases cur x b2 h with ⟨rfl, rfl⟩ | ⟨g1, g2, g3⟩
      · rw [hf'] at q2; cases q2
      · simp only [updL_ne _ _ g1]; exact M.fz x b2 g3 q2 q3
    · rcases cur x b2 h with ⟨rfl, rfl⟩ | ⟨g1, g2, g3⟩
      · exact absurd q2 hne'
      · exact M.emp x b2 g3 q2
    · rcases cur l1 b1 g1 with ⟨rfl, rfl⟩ | ⟨a1, a2, a3⟩
      · rcases cur l2 b2 g2 with ⟨rfl, rfl⟩ | ⟨c1, c2, c3⟩
        · exact absurd rfl hne2
        · simp only [updL_eq, updL_ne _ _ c1]
          exact M.dis l l2 b b2 h1 c3 hf f2 hne e2 (Ne.symm c2)
      · rcases cur l2 b2 g2 with ⟨rfl, rfl⟩ | ⟨c1, c2, c3⟩
        · simp only [updL_eq, updL_ne _ _ a1]
          exact M.dis l1 l b1 b a3 h1 f1 hf e1 hne a2
        · simp only [updL_ne _ _ a1, updL_ne _ _ c1]
          exact M.dis l1 l2 b1 b2 a3 c3 f1 f2 e1 e2 hne2
    · have g := (map i es c).1 h
      obtain ⟨es', k1, k2, k3⟩ := M.maps i es c g
      refine ⟨es', ?_, k2, fun j x y hx hy => by obtain ⟨x1, x2, x3⟩ := k3 j x y hx hy; exact ⟨x1.ext hE, x2.ext hE, x3⟩⟩
      simp only [updL_ne _ _ (hmapl i es c g)]
      rw [hh _ (hkind i es c g)]; exact k1
    · have a1 := (map i es c).1 g1
      have a2 := (map j es' c').1 g2
      simp only [updL_ne _ _ (hmapl i es c a1), updL_ne _ _ (hmapl j es' c' a2)]
      exact M.mdis i j es c es' c' a1 a2 hij
    · obtain ⟨k1, c, e, f, k2⟩ := M.ims r hr
      exact ⟨by omega, c, e, f, by rw [hh r (hnim r hr)]; exact k2⟩

section
variable {P : Program} {s : St} {cx : Cx} {w : World} {a : Act} {o : Oper} {Q : Exit → Act → World → Prop} {C : Orc} {ro : Bool} {d : Nat} {v : AV} {s1 : St}

/-- A new array, out of a list of cells that lie in a block of the world's that nobody holds. -/
theorem newA_go (M : MR s cx w) {z len cap' r : Nat} {els : List (List AV)} {ex : Bool} {us : List Value} {w' : World} (hF : FL s.sg cx w z els us)
    (hh : ∀ r, r < w.heap.size → w'.heap[r]? = w.heap[r]?) (hos : w'.os = w.os) (htp : w'.tape = w.tape) (hou : w'.output = w.output) (hsz : w.heap.size ≤ w'.heap.size)
    (hr : w.heap.size ≤ r) (hroom : Room w' r (cap' * z)) (hc : ∀ (i : Nat) (u : Value), us[i]? = some u → cel w' r i = some u)
    (hlen : len ≤ els.length) (hcap : els.length ≤ cap') (hex : ex = true → cap' = els.length) (hemp : els = [] → ex = true) :
    ∃ cx', Go1 s cx w (newA d z s els len ex).2 cx' w' ∧ MR (newA d z s els len ex).2 cx' w' ∧
      VR (newA d z s els len ex).2.sg cx' w' (newA d z s els len ex).1 (.slice (some ⟨r, 0, none⟩) len cap') := by
  have hle : els.length * z ≤ cap' * z := Nat.mul_le_mul_right _ hcap
  obtain ⟨g1, g2⟩ := (laidA s d ⟨z, els, ex, false⟩).go M r hh hos htp hou hsz (fun _ => ⟨hr, hroom.le hle⟩) rfl hemp hF.zs (fun j q x hx => by
    obtain ⟨u, h1, h2⟩ := hF.at_ j q x hx
    exact ⟨u, hc _ u h1, h2, hF.one u (List.mem_of_getElem? h1)⟩)
  refine ⟨_, g1, g2, ?_⟩
  refine .rs hlen hcap (fun _ => ⟨_, rfl⟩) (by simp [St.sg, St.gen, newA, upd]) (fun i hi => by cases hi) (fun _ b hb => ?_)
  obtain ⟨b2, k1, rfl⟩ := sg_b hb
  have k1' : b2 = ⟨z, els, ex, false⟩ := by
    have := (laidA s d ⟨z, els, ex, false⟩).here
    simp only [newA] at k1
    rw [this] at k1; cases k1; rfl
  subst k1'
  refine ⟨rfl, by simp [Blk.bi], fun h => hex h, fun _ => ⟨by simp [updL_eq], ?_⟩⟩
  simp only [updL_eq, Nat.zero_add]
  exact hroom

/-- A new array, out of a list of cells and what lies behind it. -/
theorem newA_ok (M : MR s cx w) {z len cap' : Nat} {els : List (List AV)} {ex : Bool} {c : Array Value} {e : TypeId} {us : List Value} (hF : FL s.sg cx w z els us)
    (hc : ∀ (i : Nat) (u : Value), us[i]? = some u → c[i]? = some u) (hlen : len ≤ els.length) (hcap : els.length ≤ cap') (hex : ex = true → cap' = els.length) (hemp : els = [] → ex = true) (hsz : cap' * z ≤ c.size) :
    ∃ cx', Go1 s cx w (newA d z s els len ex).2 cx' (w.alloc (.cells c e)) ∧ MR (newA d z s els len ex).2 cx' (w.alloc (.cells c e)) ∧
      VR (newA d z s els len ex).2.sg cx' (w.alloc (.cells c e)) (newA d z s els len ex).1 (.slice (some ⟨w.heap.size, 0, none⟩) len cap') :=
  newA_go M hF (fun r hr => RowKit.Below.heap_alloc w _ r hr) rfl rfl rfl (by simp) (Nat.le_refl _) (room_new w c e _ hsz) (fun i u hu => by rw [cel_new]; exact hc i u hu) hlen hcap hex hemp

theorem map_call1 {c : Call} {b : Builtin} {y x : Operand} {t u : TypeId} (h : c.callee = .builtin b) (h2 : c.args.toList = [y, x]) (h3 : c.argTypes.toList = [t, u]) :
    c = { callee := .builtin b, args := #[y, x], argTypes := #[t, u] } := by
  have h2' : c.args = #[y, x] := by rw [← Array.toList_inj]; exact h2
  have h3' : c.argTypes = #[t, u] := by rw [← Array.toList_inj]; exact h3
  cases c; simp_all

theorem FL.rep {σ : Sg} {z : Nat} {zero : List AV} {zc : List Value} (n : Nat) (hl : zero.length = z) (hs : zc.length = z) (hv : ∀ (i : Nat) (x : AV) (u : Value), zero[i]? = some x → zc[i]? = some u → VR σ cx w x u)
    (h1 : ∀ u, u ∈ zc → u.oneCell' = true) : FL σ cx w z (List.replicate n zero) (List.replicate n zc).flatten := by
  induction n with
  | zero => simpa using FL.nil
  | succ n ih =>
    have h : FL σ cx w z [zero] zc := by
      refine ⟨by simp [hs], fun cs hcs => by simp at hcs; subst hcs; exact hl, fun j q x hx => ?_, h1⟩
      obtain ⟨rfl, hq⟩ := cellA_one hx
      have hlt : q < zc.length := by rw [hs, ← hl]; exact (List.getElem?_eq_some_iff.1 hq).1
      exact ⟨zc[q], by simp [List.getElem?_eq_getElem hlt], hv q x _ hq (List.getElem?_eq_getElem hlt)⟩
    have := h.append ih
    simpa [List.replicate_succ] using this

theorem rep_get {zc : List Value} {z : Nat} (hs : zc.length = z) (n i : Nat) {u : Value} (h : (List.replicate n zc).flatten[i]? = some u) : i < n * z ∧ zc[i % z]? = some u := by
  induction n generalizing i with
  | zero => simp at h
  | succ n ih =>
    simp only [List.replicate_succ, List.flatten_cons] at h
    rcases Nat.lt_or_ge i z with hi | hi
    · rw [List.getElem?_append_left (by omega)] at h
      rw [Nat.mod_eq_of_lt hi]
      have : 1 * z ≤ (n + 1) * z := Nat.mul_le_mul_right _ (by omega)
      exact ⟨by omega, h⟩
    · rw [List.getElem?_append_right (by omega), hs] at h
      obtain ⟨g1, g2⟩ := ih _ h
      rw [Nat.succ_mul]
      refine ⟨by omega, ?_⟩
      have e : i = (i - z) + z := by omega
      rw [e, Nat.add_mod_right]; exact g2

theorem made_get {zc : Array Value} {z : Nat} (hs : zc.size = z) (n i : Nat) {u : Value} (h : (List.replicate n zc.toList).flatten[i]? = some u) : (madeCells zc (n * z))[i]? = some u := by
  obtain ⟨g1, g2⟩ := rep_get (z := z) (by simpa using hs) n i h
  simp only [madeCells]
  rw [Array.getElem?_map, Array.getElem?_range]
  rw [if_pos g1]
  simp only [Option.map_some]
  have hlt : i % zc.size < zc.size := by rw [hs]; have := (List.getElem?_eq_some_iff.1 g2).1; simpa [hs] using this
  have g3 : zc[i % zc.size]? = some u := by rw [hs]; rw [← Array.getElem?_toList]; exact g2
  rw [getElem!_pos zc (i % zc.size) hlt]
  rw [Array.getElem?_eq_getElem hlt] at g3
  exact g3

theorem mksl_ok {z : Nat} {zero : List AV} {l c : X} (ho : chkI P o.op (.mksl z zero l c) = true) (M : MR s cx w) (T : TR s cx w a) (h : step C ro d s (.mksl z zero l c) = some (v, s1)) : Post P o a s cx w v s1 Q := by
  simp only [chkI] at ho
  split at ho
  · rename_i t l' c' hop
    split at ho
    · rename_i e he
      simp only [Bool.and_eq_true, decide_eq_true_eq] at ho
      obtain ⟨⟨⟨⟨⟨h1, h2⟩, h3⟩, h4⟩, h5⟩, h6⟩ := ho
      have hu := elemO_some he
      obtain ⟨zv, hz, hlen, ⟨inf, hi, hiz⟩, hzv⟩ := zeroOK_run (P := P) (w := w) h6
      obtain ⟨inf', hi', hsz, hrs⟩ := szO_run (P := P) (w := w) h3
      rw [hi] at hi'; cases hi'
      have hb : inf.bytes ≤ 32768 := by unfold bytesOK at h5; simp [hi] at h5; exact h5.1
      simp only [step] at h
      split at h
      · rename_i l0 c0 hl hc
        split at h
        · rename_i hbd
          obtain ⟨b1, b2, b3⟩ := hbd
          simp only [Option.some.injEq, Prod.mk.injEq] at h
          obtain ⟨rfl, rfl⟩ := h
          have e1 := int_inv (hl ▸ ev_ok T h1)
          have e2 := int_inv (hc ▸ ev_ok T h2)
          have hbig : (bigLen : Int) = 4294967296 := rfl
          have hbytes : (inf.bytes : Int) * c0 ≤ 281474976710656 := by
            have : (inf.bytes : Int) * c0 ≤ 32768 * 4294967296 := Int.mul_le_mul (by omega) (by omega) (by omega) (by omega)
            omega
          have hrun := run_make (P := P) w t e inf zv hu hi hiz .i64 .i64 l0 c0 b1 b2 hbytes (by omega)
          have hzc : zv.cells.size = z := by rw [← hlen]; exact h4
          have hF := FL.rep (σ := s.sg) (cx := cx) (w := w) c0.toNat h4 (zc := zv.cells.toList) (by simpa using hzc) (fun i x u hx hu => (hzv _ _ _ i x u hx (by simpa using hu)).1)
            (fun u hu => by
              obtain ⟨i, hiu⟩ := List.mem_iff_getElem?.1 hu
              have hlt : i < zero.length := by rw [hlen]; have := (List.getElem?_eq_some_iff.1 hiu).1; simpa using this
              exact (hzv s.sg cx w i _ u (List.getElem?_eq_getElem hlt) (by simpa using hiu)).2)
          obtain ⟨cx', k1, k2, k3⟩ := newA_ok (d := d) (len := l0.toNat) (cap' := c0.toNat) (ex := true) (e := e) M hF (fun i u hiu => made_get hzc _ _ hiu) (by simp; omega) (by simp) (fun _ => by simp) (fun _ => rfl)
            (by rw [size_madeCells]; exact Nat.le_refl _)
          refine post_value ?_ k1 k2 k3
          simp only [execOp, hop, e1, e2, Sem.run_bind, hsz ▸ hrun, Result.andThen_ok, Sem.run_pure]
        · cases h
      · cases h
    · cases ho
  · cases ho

end
end Go.Proofs.Bb
