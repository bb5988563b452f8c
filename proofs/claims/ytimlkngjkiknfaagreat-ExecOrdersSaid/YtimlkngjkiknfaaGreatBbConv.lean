/- Values that leave the frame: freezing, moving to the heap. Nothing of Go's memory turns. -/
import Derived.Test.YtimlkngjkiknfaaGreatBbOpsC
set_option linter.unusedSimpArgs false
set_option linter.unusedVariables false
namespace Go.Proofs.Bb
open Go

theorem blkAt_some {x : Option HB} {b : Blk} (h : blkAt x = some b) : x = some (.blk b) := by
  unfold blkAt at h; split at h
  · cases h; rfl
  · cases h

theorem setB_turned {s : St} {l : Loc} {g : Nat} {b b' : Blk} (hb : s.getB l g = some b) (hbi : b'.bi = b.bi) : Turned s (s.setB l b') l b b' := by
  obtain ⟨h1, h2⟩ := getB_some hb
  cases l with
  | v i =>
    refine ⟨fun l' hne => ?_, fun l' => ?_, h1, by simp [St.setB, St.cur, upd], hbi, fun _ _ _ => Iff.rfl, rfl, rfl⟩
    · cases l' with
      | v j => have : j ≠ i := fun e => hne (e ▸ rfl); simp [St.setB, St.cur, upd, this]
      | _ => rfl
    · cases l' with
      | v j => by_cases e : j = i <;> simp [St.setB, St.gen, upd, e]
      | _ => rfl
  | a i =>
    refine ⟨fun l' hne => ?_, fun l' => ?_, h1, by simp [St.setB, St.cur, upd], hbi, fun _ _ _ => Iff.rfl, rfl, rfl⟩
    · cases l' with
      | a j => have : j ≠ i := fun e => hne (e ▸ rfl); simp [St.setB, St.cur, upd, this]
      | _ => rfl
    · cases l' with
      | a j => by_cases e : j = i <;> simp [St.setB, St.gen, upd, e]
      | _ => rfl
  | h i =>
    have hi := blkAt_some h1
    have hlt := (List.getElem?_eq_some_iff.1 hi).1
    refine ⟨fun l' hne => ?_, fun l' => ?_, h1, ?_, hbi, fun j es k => ?_, by simp [St.setB], rfl⟩
    · cases l' with
      | h j => have : i ≠ j := fun e => hne (e ▸ rfl); simp [St.setB, St.cur, List.getElem?_set, this]
      | _ => rfl
    · cases l' <;> rfl
    · simp [St.setB, St.cur, List.getElem?_set, hlt, blkAt]
    · simp only [St.setB, List.getElem?_set]
      by_cases e : i = j
      · subst e
        have h3 := (List.getElem?_eq_some_iff.1 hi).2
        simp [hlt, h3]
      · simp [e]

theorem kill_less {s : St} {cx : Cx} {w : World} (M : MR s cx w) (i : Nat) : Go1 s cx w (s.kill (.a i)) cx w ∧ MR (s.kill (.a i)) cx w := by
  refine M.less (fun l b h => ?_) (fun l => ?_) rfl (fun _ _ _ h => h) rfl
  · cases l with
    | a j =>
      by_cases e : j = i
      · subst e; simp [St.kill, St.cur, upd] at h
      · simpa [St.kill, St.cur, upd, e] using h
    | _ => exact h
  · cases l with
    | a j => by_cases e : j = i <;> simp [St.kill, St.gen, upd, e]
    | _ => rfl

/-- What a ghost step is. -/
def Ghost (f : AV → St → Option (AV × St)) : Prop := ∀ s cx w x v y s1, MR s cx w → VR s.sg cx w x v → f x s = some (y, s1) →
  ∃ cx', Go1 s cx w s1 cx' w ∧ MR s1 cx' w ∧ VR s1.sg cx' w y v ∧ s1.t = s.t

theorem freeze_rs {s : St} {cx : Cx} {w : World} {i g z off len cap : Nat} {b : Blk} {v : Value} (M : MR s cx w) (hv : VR s.sg cx w (.rs (.a i) g z off len cap) v) (hb : s.getB (.a i) g = some b) :
    ∃ cx', Go1 s cx w (s.setB (.a i) { b with fz := true }) cx' w ∧ MR (s.setB (.a i) { b with fz := true }) cx' w ∧ VR (s.setB (.a i) { b with fz := true }).sg cx' w (.sl z (b.part off len) none) v := by
  obtain ⟨h1, h2⟩ := getB_some hb
  obtain ⟨cx', e1, e2, e3, e4⟩ := (setB_turned (b' := { b with fz := true }) hb rfl).freeze M (fun h => by cases h)
  obtain ⟨fc, hfc⟩ := live_fn M h1
  refine ⟨cx', e3, e4, ?_⟩
  cases hv with
  | @rs _ _ _ _ _ _ c A k1 k2 k3 k4 k5 k6 =>
    obtain ⟨j1, j2, j3, j4⟩ := k6 h2 b.bi (sg_of h1)
    have j1 : b.z = z := j1
    have j2 : off + cap ≤ b.els.length := j2
    subst j1
    have hlen : (b.part off len).length = len := by simp only [Blk.part, List.length_take, List.length_drop]; omega
    have hcut : ∀ j q x, cellA (b.part off len) j q = some x → cellA b.els (off + j) q = some x := by
      intro j q x hx
      obtain ⟨cs, g1, g2⟩ := cellA_of hx
      have hlt := (List.getElem?_eq_some_iff.1 g1).1
      rw [hlen] at hlt
      unfold Blk.part at g1
      rw [List.getElem?_take_of_lt hlt, List.getElem?_drop] at g1
      exact cellA_mk g1 g2
    refine .sl (cx.lm (.a i)) (off * b.z) (fun j q => fc (off + j) q) hlen.symm (by omega) (fun t h => by cases h) (fun h0 => ?_) (fun cs hcs => ?_) (fun j q x hx => ?_) (fun j q x hx => ?_) (fun j q x hx => ?_)
    · simp only [Option.getD_none, List.append_nil, hlen] at h0
      obtain ⟨q1, q2⟩ := j4 (by omega)
      exact ⟨q1, e2 (fun e0 => by rw [e0] at j2; simp at j2; omega)⟩
    · simp only [Option.getD_none, List.append_nil] at hcs
      exact M.zs _ b h1 cs (List.mem_of_mem_drop (List.mem_of_mem_take hcs))
    · simp only [Option.getD_none, List.append_nil] at hx
      have := (hfc _ _ _ (hcut j q x hx)).1
      rw [← this]; congr 1; rw [Nat.add_mul]; omega
    · simp only [Option.getD_none, List.append_nil] at hx
      exact (hfc _ _ _ (hcut j q x hx)).2.1.ext e3.ext
    · simp only [Option.getD_none, List.append_nil] at hx
      exact (hfc _ _ _ (hcut j q x hx)).2.2

theorem cur_append {s : St} {x : HB} {t : Nat → AV} {v a : Nat → Slot} (l : Loc) (hl : ∀ i, l = .h i → i < s.h.length) :
    (St.mk t v a (s.h ++ [x]) s.ro).cur l = (St.mk t v a s.h s.ro).cur l := by
  cases l with
  | h i => have := hl i rfl; simp [St.cur, List.getElem?_append_left this]
  | _ => rfl

/-- An array moved to the heap. -/
theorem move_rs {s : St} {cx : Cx} {w : World} {i g z off len cap : Nat} {b : Blk} {v : Value} (M : MR s cx w) (hv : VR s.sg cx w (.rs (.a i) g z off len cap) v) (hb : s.getB (.a i) g = some b) (hf : b.fz = false) :
    ∃ cx', Go1 s cx w { s.kill (.a i) with h := s.h ++ [.blk b] } cx' w ∧ MR { s.kill (.a i) with h := s.h ++ [.blk b] } cx' w ∧
      VR ({ s.kill (.a i) with h := s.h ++ [.blk b] } : St).sg cx' w (.rs (.h s.h.length) 0 z off len cap) v := by
  obtain ⟨h1, h2⟩ := getB_some hb
  let s1 : St := { s.kill (.a i) with h := s.h ++ [.blk b] }
  let cx' : Cx := ⟨updL cx.lm (.h s.h.length) (cx.lm (.a i)), cx.im⟩
  show ∃ cx', Go1 s cx w s1 cx' w ∧ MR s1 cx' w ∧ VR s1.sg cx' w (.rs (.h s.h.length) 0 z off len cap) v
  have hcur : ∀ l b2, s1.cur l = some b2 → (l = .h s.h.length ∧ b2 = b) ∨ (l ≠ .h s.h.length ∧ l ≠ .a i ∧ s.cur l = some b2) := by
    intro l b2 h
    cases l with
    | v j => exact .inr ⟨by simp, by simp, h⟩
    | a j =>
      by_cases e : j = i
      · subst e; simp [s1, St.kill, St.cur, upd] at h
      · exact .inr ⟨by simp, by simp [e], by simpa [s1, St.kill, St.cur, upd, e] using h⟩
    | h j =>
      rcases Nat.lt_trichotomy j s.h.length with hj | hj | hj
      · exact .inr ⟨by simp; omega, by simp, by simpa [s1, St.cur, List.getElem?_append_left hj] using h⟩
      · subst hj; simp [s1, St.cur, blkAt] at h; exact .inl ⟨rfl, h.symm⟩
      · simp [s1, St.cur, List.getElem?_append_right (Nat.le_of_lt hj)] at h
        rw [List.getElem?_eq_none (by simp; omega)] at h; simp [blkAt] at h
  have hnew : s1.cur (.h s.h.length) = some b := by simp [s1, St.cur, blkAt]
  have hgen : ∀ l, s1.gen l = s.gen l := by
    intro l
    cases l with
    | a j => by_cases e : j = i <;> simp [s1, St.kill, St.gen, upd, e]
    | _ => rfl
  have hmap : ∀ (j : Nat) (es : List Ent) (k : Nat), s1.h[j]? = some (HB.map es k) → s.h[j]? = some (HB.map es k) ∧ j < s.h.length := by
    intro j es k h
    rcases Nat.lt_trichotomy j s.h.length with hj | hj | hj
    · exact ⟨by simpa [s1, List.getElem?_append_left hj] using h, hj⟩
    · subst hj; simp [s1] at h
    · simp [s1, List.getElem?_append_right (Nat.le_of_lt hj)] at h
      rw [List.getElem?_eq_none (by simp; omega)] at h; simp at h
  have hE : Ext s.sg cx w s1.sg cx' w := by
    refine ext_grow (fun l => by rw [hgen]; exact Nat.le_refl _) (by simp [s1]) (fun l _ hl b2 h => ?_) (fun j hj => updL_ne _ _ (by simp; omega)) (fun _ h => h) (fun _ _ => rfl)
    rcases hcur l b2 h with ⟨rfl, rfl⟩ | ⟨e1, e2, e3⟩
    · exact absurd (hl _ rfl) (Nat.lt_irrefl _)
    · exact ⟨⟨b2, e3, rfl⟩, updL_ne _ _ e1⟩
  have hlm : ∀ l b2, s1.cur l = some b2 → ∃ l0, s.cur l0 = some b2 ∧ cx'.lm l = cx.lm l0 ∧ (l = .h s.h.length ∧ l0 = .a i ∨ l ≠ .h s.h.length ∧ l ≠ .a i ∧ l0 = l) := by
    intro l b2 h
    rcases hcur l b2 h with ⟨rfl, rfl⟩ | ⟨e1, e2, e3⟩
    · exact ⟨.a i, h1, updL_eq _ _ _, .inl ⟨rfl, rfl⟩⟩
    · exact ⟨l, e3, updL_ne _ _ e1, .inr ⟨e1, e2, rfl⟩⟩
  have hMt : ∀ r, Mt s1 cx' r → Mt s cx r := by
    rintro r (⟨l, b2, q1, q2, q3, q4, q5⟩ | ⟨j, es, c, q1, q2, q3⟩)
    · obtain ⟨l0, g1, g2, g3⟩ := hlm l b2 q1
      refine .inl ⟨l0, b2, g1, q2, q3, by rw [← g2]; exact q4, ?_⟩
      rcases g3 with ⟨_, rfl⟩ | ⟨_, _, rfl⟩
      · intro h; cases h
      · exact q5
    · obtain ⟨g1, g2⟩ := hmap j es c q1
      exact .inr ⟨j, es, c, g1, by rw [← q2]; exact (updL_ne _ _ (by simp; omega)).symm, q3⟩
  have hM : MR s1 cx' w := by
    refine ⟨fun l b2 h j q x hx => ?_, fun l b2 h => ?_, fun l b2 h q2 q3 => ?_, fun l b2 h q2 q3 => ?_, fun l b2 h q2 => ?_, fun l1 l2 b1 b2 g1 g2 f1 f2 e1 e2 hne => ?_, fun j es c h => ?_, fun j1 j2 es c es' c' g1 g2 hij => ?_, M.ims⟩
    · obtain ⟨l0, g1, g2, _⟩ := hlm l b2 h
      obtain ⟨u, k1, k2, k3⟩ := M.live l0 b2 g1 j q x hx
      exact ⟨u, by rw [g2]; exact k1, k2.ext hE, k3⟩
    · obtain ⟨l0, g1, g2, _⟩ := hlm l b2 h
      exact M.zs l0 b2 g1
    · obtain ⟨l0, g1, g2, _⟩ := hlm l b2 h
      rw [g2]; exact M.mu l0 b2 g1 q2 q3
    · obtain ⟨l0, g1, g2, _⟩ := hlm l b2 h
      rw [g2]; exact M.fz l0 b2 g1 q2 q3
    · obtain ⟨l0, g1, g2, _⟩ := hlm l b2 h
      exact M.emp l0 b2 g1 q2
    · obtain ⟨l10, a1, a2, a3⟩ := hlm l1 b1 g1
      obtain ⟨l20, c1, c2, c3⟩ := hlm l2 b2 g2
      rw [a2, c2]
      refine M.dis l10 l20 b1 b2 a1 c1 f1 f2 e1 e2 (fun e => ?_)
      subst e
      rcases a3 with ⟨rfl, rfl⟩ | ⟨a3, a4, rfl⟩
      · rcases c3 with ⟨rfl, _⟩ | ⟨c3, c4, c5⟩
        · exact hne rfl
        · exact c4 c5.symm
      · rcases c3 with ⟨rfl, c4⟩ | ⟨c3, c4, c5⟩
        · exact a4 c4
        · exact hne c5
    · obtain ⟨g1, g2⟩ := hmap j es c h
      obtain ⟨es', k1, k2, k3⟩ := M.maps j es c g1
      refine ⟨es', ?_, k2, fun a b ha hb hc => by obtain ⟨x1, x2, x3⟩ := k3 a b ha hb hc; exact ⟨x1.ext hE, x2.ext hE, x3⟩⟩
      have : cx'.lm (.h j) = cx.lm (.h j) := updL_ne _ _ (by simp; omega)
      rw [this]; exact k1
    · obtain ⟨a1, a2⟩ := hmap j1 es c g1
      obtain ⟨c1, c2⟩ := hmap j2 es' c' g2
      have e1 : cx'.lm (.h j1) = cx.lm (.h j1) := updL_ne _ _ (by simp; omega)
      have e2 : cx'.lm (.h j2) = cx.lm (.h j2) := updL_ne _ _ (by simp; omega)
      rw [e1, e2]; exact M.mdis j1 j2 es c es' c' a1 c1 hij
  refine ⟨cx', ⟨hE, fun _ _ _ => rfl, fun r hr => .inl (hMt r hr), fun _ h => .inl h, rfl, rfl, rfl, Nat.le_refl _⟩, hM, ?_⟩
  cases hv with
  | @rs _ _ _ _ _ _ c A k1 k2 k3 k4 k5 k6 =>
    refine .rs k1 k2 k3 (Nat.le_refl _) (fun j hj => by cases hj; simp [s1, St.sg]) (fun _ b2 hb2 => ?_)
    obtain ⟨b3, q1, rfl⟩ := sg_b hb2
    rw [hnew] at q1
    cases q1
    have := k6 h2 b.bi (sg_of h1)
    have e1 : cx'.lm (.h s.h.length) = cx.lm (.a i) := updL_eq _ _ _
    rw [e1]; exact this

theorem conv1_ok {k : Nat} (hk : k ≠ 2) : Ghost (conv1 k) := by
  intro s cx w x v y s1 M hv h
  unfold conv1 at h
  split at h
  · rename_i i g z off len cap
    split at h
    · rename_i b hb
      split at h
      · split at h
        · cases h
        · rename_i hf
          simp only [Option.some.injEq, Prod.mk.injEq] at h
          obtain ⟨rfl, rfl⟩ := h
          obtain ⟨cx', e1, e2, e3⟩ := move_rs M hv hb (by simpa using hf)
          exact ⟨cx', e1, e2, e3, rfl⟩
      · simp only [Option.some.injEq, Prod.mk.injEq] at h
        obtain ⟨rfl, rfl⟩ := h
        obtain ⟨cx', e1, e2, e3⟩ := freeze_rs M hv hb
        exact ⟨cx', e1, e2, e3, rfl⟩
    · cases h
  · rw [if_neg hk] at h
    simp only [Option.some.injEq, Prod.mk.injEq] at h
    obtain ⟨rfl, rfl⟩ := h
    exact ⟨cx, .refl .., M, hv, rfl⟩
  · split at h
    · simp only [Option.some.injEq, Prod.mk.injEq] at h
      obtain ⟨rfl, rfl⟩ := h
      exact ⟨cx, .refl .., M, hv, rfl⟩
    · cases h

theorem mapS_ok {f : AV → St → Option (AV × St)} (hf : Ghost f) : ∀ (xs : List AV) (vs : List Value) (s : St) (cx : Cx) (w : World) (ys : List AV) (s1 : St), MR s cx w → vs.length = xs.length →
    (∀ (i : Nat) (x : AV) (v : Value), xs[i]? = some x → vs[i]? = some v → VR s.sg cx w x v) → mapS f xs s = some (ys, s1) →
    ∃ cx', Go1 s cx w s1 cx' w ∧ MR s1 cx' w ∧ ys.length = xs.length ∧ (∀ (i : Nat) (y : AV) (v : Value), ys[i]? = some y → vs[i]? = some v → VR s1.sg cx' w y v) ∧ s1.t = s.t := by
  intro xs
  induction xs with
  | nil =>
    intro vs s cx w ys s1 M hl hv h
    simp only [mapS, Option.some.injEq, Prod.mk.injEq] at h
    obtain ⟨rfl, rfl⟩ := h
    exact ⟨cx, .refl .., M, rfl, fun i y v hy => by simp at hy, rfl⟩
  | cons x xs ih =>
    intro vs s cx w ys s1 M hl hv h
    cases vs with
    | nil => simp at hl
    | cons v vs =>
      simp only [mapS] at h
      split at h
      · cases h
      · rename_i y s2 h1
        split at h
        · cases h
        · rename_i ys' s3 h2
          simp only [Option.some.injEq, Prod.mk.injEq] at h
          obtain ⟨rfl, rfl⟩ := h
          obtain ⟨cx2, a1, a2, a3, a4⟩ := hf s cx w x v y s2 M (hv 0 x v rfl rfl) h1
          obtain ⟨cx3, b1, b2, b3, b4, b5⟩ := ih vs s2 cx2 w ys' s3 a2 (by simpa using hl) (fun i x v hx hv' => (hv (i + 1) x v (by simpa using hx) (by simpa using hv')).ext a1.ext) h2
          refine ⟨cx3, a1.trans b1, b2, by simp [b3], fun i y v hy hv' => ?_, b5.trans a4⟩
          cases i with
          | zero => simp at hy hv'; subst hy; subst hv'; exact a3.ext b1.ext
          | succ i => simp at hy hv'; exact b4 i y v hy hv'

theorem conv_ok {k : Nat} (hk : k ≠ 2) : Ghost (conv k) := by
  intro s cx w x v y s1 M hv h
  unfold conv at h
  split at h
  · rename_i cs
    split at h
    · rename_i cs' s2 h1
      simp only [Option.some.injEq, Prod.mk.injEq] at h
      obtain ⟨rfl, rfl⟩ := h
      obtain ⟨vs, rfl, e2, e3, e4⟩ := agg_inv hv
      obtain ⟨cx', a1, a2, a3, a4, a5⟩ := mapS_ok (conv1_ok hk) cs vs.toList s cx w cs' s2 M (by simpa using e2) (fun i x v hx hv' => e3 i x v hx (by simpa using hv')) h1
      exact ⟨cx', a1, a2, .agg (by omega) (fun i x v hx hv' => a4 i x v hx (by simpa using hv')) e4, a5⟩
    · cases h
  · exact conv1_ok hk s cx w x v y s1 M hv h

theorem capt_ok : Ghost capt := by
  intro s cx w x v y s1 M hv h
  unfold capt at h
  split at h
  · rename_i i g e o
    split at h
    · rename_i b hb
      split at h
      · rename_i cs hcs
        split at h
        · simp only [Option.some.injEq, Prod.mk.injEq] at h
          obtain ⟨rfl, rfl⟩ := h
          obtain ⟨h1, h2⟩ := getB_some hb
          obtain ⟨cx', e1, e2, e3, e4⟩ := (setB_turned (b' := { b with fz := true }) hb rfl).freeze M (fun h => by cases h)
          obtain ⟨fc, hfc⟩ := live_fn M h1
          refine ⟨cx', e3, e4, ?_, rfl⟩
          cases hv with
          | @pt _ _ _ _ p hg hl hp =>
            have hp' := pt_addr (w := w) (.pt hg hl hp) hb
            subst hp'
            exact .ip (cx.lm (.v i)) (e * b.z) (fc e) (e2 (fun e0 => by rw [e0] at hcs; simp at hcs)) (fun q x hq => (hfc e q x (cellA_mk hcs hq)).1) (fun q x hq => (hfc e q x (cellA_mk hcs hq)).2.1.ext e3.ext) (fun q x hq => (hfc e q x (cellA_mk hcs hq)).2.2)
        · cases h
      · cases h
    · cases h
  · split at h
    · simp only [Option.some.injEq, Prod.mk.injEq] at h
      obtain ⟨rfl, rfl⟩ := h
      exact ⟨cx, .refl .., M, hv, rfl⟩
    · cases h

theorem conv1_ro {k : Nat} {x y : AV} {s s1 : St} (h : conv1 k x s = some (y, s1)) : s1.ro = s.ro := by
  unfold conv1 at h
  split at h
  · split at h
    · split at h
      · split at h
        · cases h
        · simp only [Option.some.injEq, Prod.mk.injEq] at h; obtain ⟨rfl, rfl⟩ := h; rfl
      · simp only [Option.some.injEq, Prod.mk.injEq] at h; obtain ⟨rfl, rfl⟩ := h; rfl
    · cases h
  · split at h
    · split at h
      · simp only [Option.some.injEq, Prod.mk.injEq] at h; obtain ⟨rfl, rfl⟩ := h; rfl
      · cases h
    · simp only [Option.some.injEq, Prod.mk.injEq] at h; obtain ⟨rfl, rfl⟩ := h; rfl
  · split at h
    · simp only [Option.some.injEq, Prod.mk.injEq] at h; obtain ⟨rfl, rfl⟩ := h; rfl
    · cases h
theorem mapS_ro {f : AV → St → Option (AV × St)} (hf : ∀ x s y s1, f x s = some (y, s1) → s1.ro = s.ro) : ∀ (xs ys : List AV) (s s1 : St), mapS f xs s = some (ys, s1) → s1.ro = s.ro := by
  intro xs
  induction xs with
  | nil =>
    intro ys s s1 h
    simp only [mapS, Option.some.injEq, Prod.mk.injEq] at h; obtain ⟨rfl, rfl⟩ := h; rfl
  | cons x xs ih =>
    intro ys s s1 h
    simp only [mapS] at h
    split at h
    · cases h
    · rename_i y s2 h1
      split at h
      · cases h
      · rename_i ys' s3 h2
        simp only [Option.some.injEq, Prod.mk.injEq] at h; obtain ⟨rfl, rfl⟩ := h
        exact (ih _ _ _ h2).trans (hf _ _ _ _ h1)
theorem conv_ro {k : Nat} {x y : AV} {s s1 : St} (h : conv k x s = some (y, s1)) : s1.ro = s.ro := by
  unfold conv at h
  split at h
  · split at h
    · rename_i h1
      simp only [Option.some.injEq, Prod.mk.injEq] at h; obtain ⟨rfl, rfl⟩ := h
      exact mapS_ro (fun _ _ _ _ h => conv1_ro h) _ _ _ _ h1
    · cases h
  · exact conv1_ro h
theorem capt_ro {x y : AV} {s s1 : St} (h : capt x s = some (y, s1)) : s1.ro = s.ro := by
  unfold capt at h
  split at h
  · split at h
    · split at h
      · split at h
        · simp only [Option.some.injEq, Prod.mk.injEq] at h; obtain ⟨rfl, rfl⟩ := h; rfl
        · cases h
      · cases h
    · cases h
  · split at h
    · simp only [Option.some.injEq, Prod.mk.injEq] at h; obtain ⟨rfl, rfl⟩ := h; rfl
    · cases h

end Go.Proofs.Bb
