/- A call: what is handed over, what comes back, and the instruction. -/
import Derived.Test.YtimlkngjkiknfaaGreatBbCall
set_option linter.unusedSimpArgs false
set_option linter.unusedVariables false
namespace Go.Proofs.Bb
open Go

/-- All blocks of cells there are: what a call that only computes may hold for unturned. -/
def imMax (w : World) (r : Nat) : Prop := r < w.heap.size ∧ ∃ c e f, w.heap[r]? = some (.cells c e f)
def dSt (n : Nat) : St := start [] (List.replicate n .dead) false

theorem dSt_b (n : Nat) (l : Loc) : (dSt n).sg.b l = none := by
  cases h : (dSt n).sg.b l with
  | none => rfl
  | some bi =>
    obtain ⟨b, hb, _⟩ := sg_b h
    obtain ⟨i, rfl, hi⟩ := start_cur hb
    rw [List.getElem?_replicate] at hi
    split at hi
    · simp at hi
    · cases hi

theorem to_dead {s : St} {cx cx' : Cx} {w : World} {n : Nat} (M : MR s cx w) (hn : s.h.length = n) (hlm : ∀ i, i < n → cx'.lm (.h i) = cx.lm (.h i)) {x : AV} {v : Value} (hd : D0 x) (hv : VR s.sg cx w x v) : VR (dSt n).sg ⟨cx'.lm, imMax w⟩ w x v := by
  refine VR.move0 (σ := s.sg) (σ' := (dSt n).sg) (cx := cx) (cx' := ⟨cx'.lm, imMax w⟩) (fun i => rfl) (by show s.h.length ≤ (List.replicate n HB.dead).length; simp [hn]) (fun i _ bi hbi => ?_) (fun i hi => hlm i (by rw [← hn]; exact hi)) (fun r hr => M.ims r hr) hv hd
  rw [dSt_b] at hbi; cases hbi

theorem tell_rs {s : St} {cx : Cx} {w : World} {l : Loc} {g z off len cap n : Nat} {b : Blk} {v : Value} (M : MR s cx w) (hn : s.h.length = n) (hv : VR s.sg cx w (.rs l g z off len cap) v) (hb : s.getB l g = some b)
    (hd : ∀ cs, cs ∈ b.els → ∀ x, x ∈ cs → DC x) : VR (dSt n).sg ⟨cx.lm, imMax w⟩ w (.sl z (b.part off len) none) v := by
  obtain ⟨h1, h2⟩ := getB_some hb
  obtain ⟨fc, hfc⟩ := live_fn M h1
  cases hv with
  | @rs _ _ _ _ _ _ c A k1 k2 k3 k4 k5 k6 =>
    obtain ⟨j1, j2, j3, j4⟩ := k6 h2 b.bi (sg_of h1)
    have j1 : b.z = z := j1
    have j2 : off + cap ≤ b.els.length := j2
    subst j1
    have hlen : (b.part off len).length = len := by simp only [Blk.part, List.length_take, List.length_drop]; omega
    have hcut : ∀ j q x, cellA (b.part off len) j q = some x → cellA b.els (off + j) q = some x := fun j q x hx => cellA_drop (cellA_take hx).2
    refine .sl (cx.lm l) (off * b.z) (fun j q => fc (off + j) q) hlen.symm (by omega) (fun t h => by cases h) (fun h0 => ?_) (fun cs hcs => ?_) (fun j q x hx => ?_) (fun j q x hx => ?_) (fun j q x hx => ?_)
    · simp only [Option.getD_none, List.append_nil, hlen] at h0
      obtain ⟨q1, q2⟩ := j4 (by omega)
      exact ⟨q1, q2.lt, q2.1⟩
    · simp only [Option.getD_none, List.append_nil] at hcs
      exact M.zs _ b h1 cs (List.mem_of_mem_drop (List.mem_of_mem_take hcs))
    · simp only [Option.getD_none, List.append_nil] at hx
      have := (hfc _ _ _ (hcut j q x hx)).1
      rw [← this]; congr 1; rw [Nat.add_mul]; omega
    · simp only [Option.getD_none, List.append_nil] at hx
      have hx' := hcut j q x hx
      obtain ⟨cs, g1, g2⟩ := cellA_of hx'
      exact to_dead M hn (fun _ _ => rfl) (.one (hd cs (List.mem_of_getElem? g1) x (List.mem_of_getElem? g2))) (hfc _ _ _ hx').2.1
    · simp only [Option.getD_none, List.append_nil] at hx
      exact (hfc _ _ _ (hcut j q x hx)).2.2

/-- What is handed over to a call that only computes. -/
def Ghost2 (n : Nat) (lm : Loc → Nat) (f : AV → St → Option (AV × St)) : Prop := ∀ s cx w x v y s1, WF s → MR s cx w → s.h.length = n → (∀ i, i < n → lm (.h i) = cx.lm (.h i)) → WV x → VR s.sg cx w x v → f x s = some (y, s1) →
  WF s1 ∧ s1.h.length = n ∧ VR (dSt n).sg ⟨lm, imMax w⟩ w y v ∧ ∃ cx', Go1 s cx w s1 cx' w ∧ MR s1 cx' w

theorem dead_lm {n : Nat} {cx cx' : Cx} {w : World} {x : AV} {v : Value} (hlm : ∀ i, i < n → cx'.lm (.h i) = cx.lm (.h i)) (hd : D0 x) (h : VR (dSt n).sg ⟨cx.lm, imMax w⟩ w x v) : VR (dSt n).sg ⟨cx'.lm, imMax w⟩ w x v :=
  VR.move0 (σ := (dSt n).sg) (σ' := (dSt n).sg) (cx := ⟨cx.lm, imMax w⟩) (cx' := ⟨cx'.lm, imMax w⟩) (fun i => rfl) (Nat.le_refl _) (fun i _ bi h => h) (fun i hi => hlm i (by simpa [dSt, St.sg, start] using hi)) (fun r hr => hr) h hd

theorem conv1_ok2 {k n : Nat} (hk : k ≠ 1) {lm : Loc → Nat} : Ghost2 n lm (conv1 k) := by
  intro s cx w x v y s1 F M hn hlm hx hv h
  have hw : W1 x ∨ (¬ ∃ c, clean1 c = true ∧ c = x) := by
    cases hx with
    | tup h => exact .inr (fun ⟨c, hc, e⟩ => by subst e; cases hc)
    | one h => cases h with
      | one h => exact .inl h
      | agg h => exact .inr (fun ⟨c, hc, e⟩ => by subst e; cases hc)
  unfold conv1 at h
  split at h
  · rename_i i g z off len cap
    split at h
    · rename_i b hb
      rw [if_neg hk] at h
      simp only [Option.some.injEq, Prod.mk.injEq] at h; obtain ⟨rfl, rfl⟩ := h
      have hB := getB_wf F hb
      obtain ⟨cx', e1, e2, _⟩ := freeze_rs M hv hb
      refine ⟨setB_wf F hB, hn, ?_, cx', e1, e2⟩
      exact dead_lm (cx := cx) (cx' := ⟨lm, cx.im⟩) hlm (.one (.sl (fun cs hcs x hx => hB cs (List.mem_of_mem_drop (List.mem_of_mem_take (by simpa [Blk.part] using hcs))) x hx))) (tell_rs M hn hv hb hB)
    · cases h
  · rename_i i g z off len cap
    split at h
    · split at h
      · rename_i b hb
        simp only [Option.some.injEq, Prod.mk.injEq] at h; obtain ⟨rfl, rfl⟩ := h
        have hB := getB_wf F hb
        exact ⟨F, hn, dead_lm (cx := cx) (cx' := ⟨lm, cx.im⟩) hlm (.one (.sl (fun cs hcs x hx => hB cs (List.mem_of_mem_drop (List.mem_of_mem_take (by simpa [Blk.part] using hcs))) x hx))) (tell_rs M hn hv hb hB), cx, .refl .., M⟩
      · cases h
    · simp only [Option.some.injEq, Prod.mk.injEq] at h; obtain ⟨rfl, rfl⟩ := h
      exact ⟨F, hn, to_dead (cx' := ⟨lm, cx.im⟩) M hn hlm (.one (.rs ..)) hv, cx, .refl .., M⟩
  · split at h
    · rename_i hc
      simp only [Option.some.injEq, Prod.mk.injEq] at h; obtain ⟨rfl, rfl⟩ := h
      exact ⟨F, hn, to_dead (cx' := ⟨lm, cx.im⟩) M hn hlm (.one (hx.dc hc)) hv, cx, .refl .., M⟩
    · cases h

theorem mapS_ok2 {n : Nat} {lm : Loc → Nat} {f : AV → St → Option (AV × St)} (hf : Ghost2 n lm f) : ∀ (xs : List AV) (vs : List Value) (s : St) (cx : Cx) (w : World) (ys : List AV) (s1 : St), WF s → MR s cx w → s.h.length = n → (∀ i, i < n → lm (.h i) = cx.lm (.h i)) → (∀ x, x ∈ xs → WV x) → vs.length = xs.length →
    (∀ (i : Nat) (x : AV) (v : Value), xs[i]? = some x → vs[i]? = some v → VR s.sg cx w x v) → mapS f xs s = some (ys, s1) →
    WF s1 ∧ s1.h.length = n ∧ ys.length = xs.length ∧ (∀ (i : Nat) (y : AV) (v : Value), ys[i]? = some y → vs[i]? = some v → VR (dSt n).sg ⟨lm, imMax w⟩ w y v) ∧ ∃ cx', Go1 s cx w s1 cx' w ∧ MR s1 cx' w := by
  intro xs
  induction xs with
  | nil =>
    intro vs s cx w ys s1 F M hn hlm hx hl hv h
    simp only [mapS, Option.some.injEq, Prod.mk.injEq] at h
    obtain ⟨rfl, rfl⟩ := h
    exact ⟨F, hn, rfl, fun i y v hy => by simp at hy, cx, .refl .., M⟩
  | cons x xs ih =>
    intro vs s cx w ys s1 F M hn hlm hx hl hv h
    cases vs with
    | nil => simp at hl
    | cons v vs =>
      simp only [mapS] at h
      split at h
      · cases h
      · rename_i y s2 h1
        split at h
        · cases h
        · rename_i ys' s3 h2
          simp only [Option.some.injEq, Prod.mk.injEq] at h
          obtain ⟨rfl, rfl⟩ := h
          obtain ⟨a1, a2, a3, cx2, a4, a5⟩ := hf s cx w x v y s2 F M hn hlm (hx x (by simp)) (hv 0 x v rfl rfl) h1
          obtain ⟨b1, b2, b3, b4, cx3, b5, b6⟩ := ih vs s2 cx2 w ys' s3 a1 a5 a2 (fun i hi => by rw [hlm i hi]; exact (a4.ext.lh i (by rw [← hn] at hi; exact hi)).symm) (fun x hx' => hx x (by simp [hx'])) (by simpa using hl)
            (fun i x v hx hv' => (hv (i + 1) x v (by simpa using hx) (by simpa using hv')).ext a4.ext) h2
          refine ⟨b1, b2, by simp [b3], fun i y v hy hv' => ?_, cx3, a4.trans b5, b6⟩
          cases i with
          | zero => simp at hy hv'; subst hy; subst hv'; exact a3
          | succ i => simp at hy hv'; exact b4 i y v hy hv'

theorem conv_ok2 {k n : Nat} (hk : k ≠ 1) {lm : Loc → Nat} : Ghost2 n lm (conv k) := by
  intro s cx w x v y s1 F M hn hlm hx hv h
  unfold conv at h
  split at h
  · rename_i cs
    split at h
    · rename_i cs' s2 h1
      simp only [Option.some.injEq, Prod.mk.injEq] at h
      obtain ⟨rfl, rfl⟩ := h
      obtain ⟨vs, rfl, e2, e3, e4⟩ := agg_inv hv
      obtain ⟨a1, a2, a3, a4, a5⟩ := mapS_ok2 (conv1_ok2 hk) cs vs.toList s cx w cs' s2 F M hn hlm (fun x hx' => .one (.one (wv_agg hx x hx'))) (by simpa using e2) (fun i x v hx hv' => e3 i x v hx (by simpa using hv')) h1
      exact ⟨a1, a2, .agg (by omega) (fun i x v hx hv' => a4 i x v hx (by simpa using hv')) e4, a5⟩
    · cases h
  · exact conv1_ok2 hk s cx w x v y s1 F M hn hlm hx hv h

/-! ### What comes back -/

structure ImpR (d : Nat) (sB s' sF : St) : Prop where
  none : ∀ k, (s'.a k).b = none → sF.a (d + k) = sB.a (d + k)
  some : ∀ k b, (s'.a k).b = some b → (s'.a k).g = 1 ∧ sF.a (d + k) = ⟨(sB.a (d + k)).g + 1, some b⟩
  low : ∀ j, j < d → sF.a j = sB.a j
  v' : ∀ i, s'.v i = ⟨0, Option.none⟩
  v : sF.v = sB.v
  h : sF.h = sB.h
  ro : sF.ro = sB.ro
  t : sF.t = sB.t

inductive VI (d : Nat) (sB s' : St) : AV → AV → Prop
  | same {x : AV} (h : D0 x) : VI d sB s' x x
  | own (k z len n : Nat) (b : Blk) (h : s'.a k = ⟨1, some b⟩) : VI d sB s' (.rs (.a k) 1 z 0 len n) (.rs (.a (d + k)) ((sB.a (d + k)).g + 1) z 0 len n)

theorem VI.mono {d : Nat} {sB s' s'' : St} {x y : AV} (h : VI d sB s' x y) (hs : ∀ k b, s'.a k = ⟨1, some b⟩ → s''.a k = s'.a k) : VI d sB s'' x y := by
  cases h with
  | same h => exact .same h
  | own k z len n b h => exact .own k z len n b (by rw [hs k b h]; exact h)

theorem imp1_rel {d e : Nat} {sB s' sF : St} {x : AV} (R : ImpR d sB s' sF) (hx : O0 x) (hf : ∀ k, e ≤ k → s'.a k = ⟨0, none⟩) :
    ImpR d sB (imp1 e x s').2 (imp1 (d + e) x sF).2 ∧ VI d sB (imp1 e x s').2 (imp1 e x s').1 (imp1 (d + e) x sF).1 ∧ (∀ k, k ≠ e → (imp1 e x s').2.a k = s'.a k) ∧ (imp1 e x s').2.h = s'.h ∧ (imp1 e x s').2.ro = s'.ro := by
  cases hx with
  | one h =>
    have e1 : ∀ d s, imp1 d x s = (x, s) := by
      intro d s
      cases h with
      | one h => cases h <;> rfl
      | agg h => rfl
    rw [e1, e1]
    exact ⟨R, .same h, fun _ _ => rfl, rfl, rfl⟩
  | @own z len els h =>
    have he := hf e (Nat.le_refl _)
    have hn : sF.a (d + e) = sB.a (d + e) := R.none e (by rw [he])
    refine ⟨⟨fun k hk => ?_, fun k b hk => ?_, fun j hj => ?_, R.v', R.v, R.h, R.ro, R.t⟩, ?_, fun k hk => ?_, rfl, rfl⟩
    · by_cases ek : k = e
      · subst ek; simp [imp1, upd_eq] at hk
      · simp only [imp1] at hk ⊢
        rw [upd_ne _ _ ek] at hk
        rw [upd_ne _ _ (by omega)]
        exact R.none k hk
    · by_cases ek : k = e
      · subst ek
        simp only [imp1, upd_eq] at hk ⊢
        rw [he, hn]
        simp only [Option.some.injEq] at hk
        subst hk
        exact ⟨rfl, rfl⟩
      · simp only [imp1] at hk ⊢
        rw [upd_ne _ _ ek] at hk ⊢
        rw [upd_ne _ _ (by omega)]
        exact R.some k b hk
    · simp only [imp1]
      rw [upd_ne _ _ (by omega)]
      exact R.low j hj
    · simp only [imp1, he, hn]
      exact .own e z len els.length ⟨z, els, els.isEmpty, false⟩ (by simp [upd_eq])
    · simp only [imp1]
      rw [upd_ne _ _ hk]

theorem impL_rel : ∀ (xs : List AV) {d e : Nat} {sB s' sF : St}, ImpR d sB s' sF → (∀ x, x ∈ xs → O0 x) → (∀ k, e ≤ k → s'.a k = ⟨0, none⟩) →
    ImpR d sB (impL e xs s').2 (impL (d + e) xs sF).2 ∧ (impL e xs s').1.length = (impL (d + e) xs sF).1.length ∧ (∀ (i : Nat) (x y : AV), (impL e xs s').1[i]? = some x → (impL (d + e) xs sF).1[i]? = some y → VI d sB (impL e xs s').2 x y) ∧
      (∀ k, k < e → (impL e xs s').2.a k = s'.a k) ∧ (impL e xs s').2.h = s'.h ∧ (impL e xs s').2.ro = s'.ro := by
  intro xs
  induction xs with
  | nil => intro d e sB s' sF R hx hf; exact ⟨R, rfl, fun i x y h => by simp [impL] at h, fun _ _ => rfl, rfl, rfl⟩
  | cons x xs ih =>
    intro d e sB s' sF R hx hf
    obtain ⟨a1, a2, a3, a4, a5⟩ := imp1_rel (d := d) (e := e) R (hx x (by simp)) hf
    obtain ⟨b1, b2, b3, b4, b5, b6⟩ := ih (d := d) (e := e + 1000) a1 (fun x h => hx x (by simp [h])) (fun k hk => by rw [a3 k (by omega)]; exact hf k (by omega))
    simp only [impL, Nat.add_assoc]
    refine ⟨b1, by simpa using b2, fun i y z hy hz => ?_, fun k hk => ?_, b5.trans a4, b6.trans a5⟩
    · cases i with
      | zero =>
        simp at hy hz; subst hy; subst hz
        refine a2.mono (fun k b hk => b4 k ?_)
        rcases Nat.lt_or_ge k (e + 1000) with h | h
        · exact h
        · rw [a3 k (by omega), hf k (by omega)] at hk; cases hk
      | succ i => simp at hy hz; exact b3 i y z hy hz
    · rw [b4 k (by omega), a3 k (by omega)]

/-- The values that come back, as the callee's frame and as the caller's tells them. -/
inductive VIT (d : Nat) (sB s' : St) : AV → AV → Prop
  | one {x y : AV} (h : VI d sB s' x y) : VIT d sB s' x y
  | tup {xs ys : List AV} (hl : xs.length = ys.length) (h : ∀ (i : Nat) (x y : AV), xs[i]? = some x → ys[i]? = some y → VI d sB s' x y) : VIT d sB s' (.tup xs) (.tup ys)

theorem imp_rel {d : Nat} {sB : St} {r : AV} {h : List HB} {ro : Bool} (hr : OV r) (hh : sB.h = h) :
    ImpR d sB (imp 0 r (start [] h ro)).2 (imp d r sB).2 ∧ VIT d sB (imp 0 r (start [] h ro)).2 (imp 0 r (start [] h ro)).1 (imp d r sB).1 ∧ (imp 0 r (start [] h ro)).2.h = h ∧ (imp 0 r (start [] h ro)).2.ro = ro := by
  have R0 : ImpR d sB (start [] h ro) sB := ⟨fun _ _ => rfl, fun k b hk => (by cases hk), fun _ _ => rfl, fun _ => rfl, rfl, rfl, rfl, rfl⟩
  cases hr with
  | one hx =>
    have e1 : ∀ d s, imp d r s = imp1 d r s := by
      intro d s
      cases hx with
      | own h => rfl
      | one h => cases h with
        | one h => cases h <;> rfl
        | agg h => rfl
    obtain ⟨a1, a2, a3, a4, a5⟩ := imp1_rel (d := d) (e := 0) R0 hx (fun _ _ => rfl)
    rw [e1, e1]
    exact ⟨a1, .one a2, a4, a5⟩
  | tup hx =>
    obtain ⟨a1, a2, a3, a4, a5, a6⟩ := impL_rel _ (d := d) (e := 1000) R0 hx (fun _ _ => rfl)
    exact ⟨a1, .tup a2 a3, a5, a6⟩

def psi (d : Nat) (s' : St) : Loc → Option Loc
  | .v _ => none
  | .h i => some (.h i)
  | .a j => if d ≤ j ∧ (s'.a (j - d)).b.isSome = true then some (.a (j - d)) else none

theorem cmb_of {d : Nat} {s1 s' sF : St} {h1 : List HB} {roc : Bool} (R : ImpR d { s1 with h := h1 } s' sF) (hh : s'.h = h1) (hro : s'.ro = roc) (hl : s1.h.length ≤ h1.length) (way : (roc = false ∧ s1.ro = false) ∨ (roc = true ∧ h1 = s1.h)) : Cmb s1 s' sF (psi d s') roc where
  vN _ := rfl
  hp _ := rfl
  old l hl := by
    cases l with
    | v i => exact ⟨by simp [St.cur, R.v], by simp [St.gen, R.v]⟩
    | h i => cases hl
    | a j =>
      have e : sF.a j = s1.a j := by
        simp only [psi] at hl
        split at hl
        · cases hl
        · rename_i hc
          rcases Nat.lt_or_ge j d with hj | hj
          · exact R.low j hj
          · have hb : (s'.a (j - d)).b = none := by
              cases hb : (s'.a (j - d)).b with
              | none => rfl
              | some b => exact absurd ⟨hj, by rw [hb]; rfl⟩ hc
            have := R.none (j - d) hb
            rw [Nat.add_sub_of_le hj] at this
            exact this
      exact ⟨by simp [St.cur, e], by simp [St.gen, e]⟩
  new l l' hl := by
    cases l with
    | v i => cases hl
    | h i => cases hl; simp only [St.cur, hh]; rw [R.h]
    | a j =>
      simp only [psi] at hl
      split at hl
      · rename_i hc
        simp only [Option.some.injEq] at hl
        subst hl
        obtain ⟨b, hb⟩ := Option.isSome_iff_exists.1 hc.2
        have := (R.some (j - d) b hb).2
        rw [Nat.add_sub_of_le hc.1] at this
        simp only [St.cur, this, hb]
      · cases hl
  gA i l' hl := by
    simp only [psi] at hl
    split at hl
    · rename_i hc
      obtain ⟨b, hb⟩ := Option.isSome_iff_exists.1 hc.2
      have := (R.some (i - d) b hb).2
      rw [Nat.add_sub_of_le hc.1] at this
      simp only [St.gen, this]
      omega
    · cases hl
  kA i l' hl := by
    simp only [psi] at hl
    split at hl
    · simp only [Option.some.injEq] at hl; exact ⟨_, hl.symm⟩
    · cases hl
  inj l1 l2 l' h1 h2 := by
    cases l1 with
    | v i => cases h1
    | h i =>
      cases h1
      cases l2 with
      | v i => cases h2
      | h i => cases h2; rfl
      | a j => simp only [psi] at h2; split at h2 <;> simp at h2
    | a i =>
      simp only [psi] at h1
      split at h1
      · rename_i hc1
        simp only [Option.some.injEq] at h1; subst h1
        cases l2 with
        | v i => cases h2
        | h i => simp [psi] at h2
        | a j =>
          simp only [psi] at h2
          split at h2
          · rename_i hc2
            simp at h2
            have := hc1.1
            have := hc2.1
            congr 1
            omega
          · cases h2
      · cases h1
  h := by rw [R.h, hh]
  hl := by rw [R.h]; exact hl
  ro := R.ro
  ro' := hro
  way := by
    rcases way with h | ⟨h, e⟩
    · exact .inl h
    · exact .inr ⟨h, 0, by simp [hh, e]⟩

theorem vi_vr {d : Nat} {s1 s' sF : St} {h1 : List HB} {cx1 cx' : Cx} {w' : World} {x y : AV} {v : Value} (R : ImpR d { s1 with h := h1 } s' sF)
    (mv : ∀ {x v}, D0 x → VR s'.sg cx' w' x v → VR sF.sg ⟨cmbL cx1 cx' (psi d s'), cx'.im⟩ w' x v) (hI : VI d { s1 with h := h1 } s' x y) (hv : VR s'.sg cx' w' x v) : VR sF.sg ⟨cmbL cx1 cx' (psi d s'), cx'.im⟩ w' y v := by
  cases hI with
  | same h => exact mv h hv
  | own k z len n b hk =>
    have hs := (R.some k b (by rw [hk])).2
    cases hv with
    | @rs _ _ _ _ _ _ c A k1 k2 k3 k4 k5 k6 =>
      refine .rs k1 k2 k3 ?_ (fun i e => by cases e) (fun hg bi hb => ?_)
      · show _ ≤ (sF.a (d + k)).g
        rw [hs]; exact Nat.le_refl _
      · have hb' : s'.sg.b (.a k) = some bi := by
          obtain ⟨b2, hb2, rfl⟩ := sg_b hb
          simp only [St.cur, hs] at hb2
          cases hb2
          exact sg_of (by simp [St.cur, hk])
        obtain ⟨a1, a2, a3, a4⟩ := k6 (by show (s'.a k).g = 1; rw [hk]) bi hb'
        have hlm : cmbL cx1 cx' (psi d s') (.a (d + k)) = cx'.lm (.a k) := by
          have : psi d s' (.a (d + k)) = some (.a k) := by
            simp only [psi, Nat.add_sub_cancel_left, hk]
            simp
          simp [cmbL, this]
        show bi.z = z ∧ _ ∧ _ ∧ (_ → A = some ⟨cmbL cx1 cx' (psi d s') (.a (d + k)), _, _⟩ ∧ Room w' (cmbL cx1 cx' (psi d s') (.a (d + k))) _)
        rw [hlm]
        exact ⟨a1, a2, a3, a4⟩

/-! ### The call -/

def Callable (P : Program) (f : FuncId) : Prop := ∃ fn, P.funcs[f]? = some fn ∧ (fn.name == "runtime.NumGoroutine") = false ∧ fn.body.isNone = false

/-- What is so behind a call. -/
def CallPost (ro : Bool) (args : List AV) (h : List HB) (v : AV) (h' : List HB) (cx : Cx) (w : World) : Ending → World → Prop
  | .returned rv, w' => ∃ cx', Go1 (start args h ro) cx w (imp 0 v (start [] h' ro)).2 cx' w' ∧ MR (imp 0 v (start [] h' ro)).2 cx' w' ∧ VR (imp 0 v (start [] h' ro)).2.sg cx' w' (imp 0 v (start [] h' ro)).1 rv
  | _, _ => False

/-- What an oracle says is so. -/
def OrcOK (P : Program) (C : Orc) : Prop := ∀ ro f args h v h', C ro f args h = some (v, h') → (∀ x, x ∈ args → D0 x) → WH h →
  Callable P f ∧ ∀ (cx : Cx) (w : World) (vs : Array Value), MR (start args h ro) cx w → vs.size = args.length →
    (∀ (i : Nat) (x : AV) (u : Value), args[i]? = some x → vs[i]? = some u → VR (start args h ro).sg cx w x u) → Calls P f vs w (CallPost ro args h v h' cx w)

def RetPost (s : St) (cx : Cx) (w : World) (v : AV) (s1 : St) : Ending → World → Prop
  | .returned rv, w' => ∃ cx', Go1 s cx w s1 cx' w' ∧ MR s1 cx' w' ∧ VR s1.sg cx' w' v rv
  | _, _ => False

theorem scal1_vr {σ σ' : Sg} {cx cx' : Cx} {w w' : World} {x : AV} {v : Value} (h : scal1 x = true) (hv : VR σ cx w x v) : VR σ' cx' w' x v := by
  cases hv <;> first | (cases h; done) | constructor
theorem scal0_vr {σ σ' : Sg} {cx cx' : Cx} {w w' : World} {x : AV} {v : Value} (h : scal0 x = true) (hv : VR σ cx w x v) : VR σ' cx' w' x v := by
  cases hv
  case agg cs vs hs h1 h2 => exact .agg hs (fun i x v hx hv => scal1_vr (List.all_eq_true.1 h x (List.mem_of_getElem? hx)) (h1 i x v hx hv)) h2
  all_goals first | (cases h; done) | constructor
theorem scal_vr {σ σ' : Sg} {cx cx' : Cx} {w w' : World} {x : AV} {v : Value} (h : scal x = true) (hv : VR σ cx w x v) : VR σ' cx' w' x v := by
  cases hv
  case tup cs vs hs h1 => exact .tup hs (fun i x v hx hv => scal0_vr (List.all_eq_true.1 h x (List.mem_of_getElem? hx)) (h1 i x v hx hv))
  case agg cs vs hs h1 h2 => exact scal0_vr (x := .agg cs) h (.agg hs h1 h2)
  all_goals first | (cases h; done) | constructor

theorem start_t {h : List HB} {ro : Bool} (i : Nat) : WV ((start [] h ro).t i) := by
  show WV (([] : List AV).getD i (.tup []))
  simp only [List.getD_nil]
  exact .tup (fun x hx => by simp at hx)

theorem callA_ok {P : Program} {C : Orc} (hW : OrcW C) (hC : OrcOK P C) {md : Mode} {aa : Bool} {d : Nat} {f : FuncId} {args : List AV} {us : Array Value} {s s1 : St} {cx : Cx} {w : World} {v : AV} (M : MR s cx w) (F : WF s) (ha : ∀ x, x ∈ args → WV x)
    (hs : us.size = args.length) (hu : ∀ (i : Nat) (x : AV) (u : Value), args[i]? = some x → us[i]? = some u → VR s.sg cx w x u)
    (h : callA C s.ro md aa d f args s = some (v, s1)) : Callable P f ∧ Calls P f us w (RetPost s cx w v s1) := by
  obtain ⟨vs, s2, r, h1, hc, hres⟩ := callA_split h
  obtain ⟨hv, F2, S2⟩ := args_wf F ha hc
  -- what a callee turns that has no live objects
  have quiet : ∀ {roc : Bool} {hp : List HB} {cxi : Cx} {s' : St} {cx' : Cx} {w' : World}, (roc = true ∨ hp = deaden s.h) → Go1 (start vs hp roc) cxi w s' cx' w' → Go1 s cx w s cx w' ∧ MR s cx w' := by
    intro roc hp cxi s' cx' w' hk G
    have nm : ∀ r, ¬ Mt (start vs hp roc) cxi r := by
      intro r hr
      rcases hk with rfl | rfl
      · rcases hr with ⟨l, b, g1, g2, g3, g4, g5⟩ | ⟨i, es, c, g1, g2, g3⟩
        · obtain ⟨i, rfl, hi⟩ := start_cur g1
          have := g5 rfl
          cases this
        · cases g3
      · rcases hr with ⟨l, b, g1, g2, g3, g4, g5⟩ | ⟨i, es, c, g1, g2, g3⟩
        · obtain ⟨i, rfl, hi⟩ := start_cur g1
          rw [deaden_eq, List.getElem?_replicate] at hi; split at hi <;> simp at hi
        · simp only [start] at g1
          rw [deaden_eq, List.getElem?_replicate] at g1; split at g1 <;> simp at g1
    have := keep_mr M 0 (fun r hr => G.fr r hr (nm r)) G.os G.tape G.output G.size
    simpa using this
  rcases hres with ⟨hr, hsc, hlen, rfl, es⟩ | ⟨hmd, hr, hsc, rfl, es⟩ | hres
  · -- only computes
    have es' : s = s1 := es.symm
    subst es'
    have key : vs.length = args.length ∧ ∀ (i : Nat) (x : AV) (u : Value), vs[i]? = some x → us[i]? = some u → VR (dSt s.h.length).sg ⟨cx.lm, imMax w⟩ w x u := by
      split at hc
      · obtain ⟨_, _, a3, a4, _⟩ := mapS_ok2 (n := s.h.length) (lm := cx.lm) (conv_ok2 (by split <;> simp)) args us.toList s cx w vs s2 F M rfl (fun _ _ => rfl) ha (by simpa using hs) (fun i x u hx hu' => hu i x u hx (by simpa using hu')) hc
        exact ⟨a3, fun i x u hx hu' => a4 i x u hx (by simpa using hu')⟩
      · split at hc
        · rename_i hcl
          simp only [Option.some.injEq, Prod.mk.injEq] at hc; obtain ⟨rfl, rfl⟩ := hc
          refine ⟨rfl, fun i x u hx hu' => to_dead M rfl (fun _ _ => rfl) (hv x (List.mem_of_getElem? hx)) (hu i x u hx hu')⟩
        · cases hc
    obtain ⟨k1, k2⟩ := hC _ _ _ _ _ _ hr hv (wh_deaden _)
    have hst : start vs (deaden s.h) false = { dSt s.h.length with t := (start vs (deaden s.h) false).t } := by rw [deaden_eq]; rfl
    have M0 : MR (start vs (deaden s.h) false) ⟨cx.lm, imMax w⟩ w := by
      have hcur : ∀ l b, (start vs (deaden s.h) false).cur l ≠ some b := by
        intro l b hb
        obtain ⟨i, rfl, hi⟩ := start_cur hb
        rw [deaden_eq, List.getElem?_replicate] at hi; split at hi <;> simp at hi
      have hmap : ∀ (i : Nat) (es : List Ent) (c : Nat), (start vs (deaden s.h) false).h[i]? ≠ some (.map es c) := by
        intro i es c hi
        simp only [start] at hi
        rw [deaden_eq, List.getElem?_replicate] at hi; split at hi <;> simp at hi
      exact ⟨fun l b hb => absurd hb (hcur l b), fun l b hb => absurd hb (hcur l b), fun l b hb => absurd hb (hcur l b), fun l b hb => absurd hb (hcur l b), fun l b hb => absurd hb (hcur l b),
        fun l l' b b' hb => absurd hb (hcur l b), fun i es c hi => absurd hi (hmap i es c), fun i j es c es' c' hi => absurd hi (hmap i es c), fun r hr => hr⟩
    have hsg : (start vs (deaden s.h) false).sg = (dSt s.h.length).sg := by rw [hst]; rfl
    refine ⟨k1, (k2 ⟨cx.lm, imMax w⟩ w us M0 (by omega) (fun i x u hx hu' => by rw [hsg]; exact key.2 i x u hx hu')).mono (fun e w' he => ?_)⟩
    cases e with
    | returned rv =>
      obtain ⟨cx', G, M', V⟩ := he
      obtain ⟨q1, q2⟩ := quiet (.inr rfl) G
      rw [imp_clean (scal_clean hsc)] at V
      exact ⟨cx, q1, q2, scal_vr hsc V⟩
    | panicked c => exact he
    | outgrown => exact he
  · have es' : s = s1 := es.symm
    subst es'
    rw [if_neg hmd] at hc
    have key : ∃ cx2, Go1 s cx w s2 cx2 w ∧ MR s2 cx2 w ∧ vs.length = args.length ∧ ∀ (i : Nat) (x : AV) (u : Value), vs[i]? = some x → us[i]? = some u → VR s2.sg cx2 w x u := by
      split at hc
      · obtain ⟨cx2, a1, a2, a3, a4, _⟩ := mapS_ok (conv_ok (k := 0) (by decide)) args us.toList s cx w vs s2 M (by simpa using hs) (fun i x u hx hu' => hu i x u hx (by simpa using hu')) hc
        exact ⟨cx2, a1, a2, a3, fun i x u hx hu' => a4 i x u hx (by simpa using hu')⟩
      · split at hc
        · simp only [Option.some.injEq, Prod.mk.injEq] at hc; obtain ⟨rfl, rfl⟩ := hc
          exact ⟨cx, .refl .., M, rfl, hu⟩
        · cases hc
    obtain ⟨cx2, G2, M2, hl2, V2⟩ := key
    obtain ⟨M0, mv0⟩ := start_mr M2 F2.h vs s.h true (.inl S2.h.symm)
    obtain ⟨k1, k2⟩ := hC _ _ _ _ _ _ hr hv F.h
    refine ⟨k1, (k2 cx2 w us M0 (by omega) (fun i x u hx hu' => mv0 (hv x (List.mem_of_getElem? hx)) (V2 i x u hx hu'))).mono (fun e w' he => ?_)⟩
    cases e with
    | returned rv =>
      obtain ⟨cx', G, M', V⟩ := he
      obtain ⟨q1, q2⟩ := quiet (.inl rfl) G
      rw [imp_clean (scal_clean hsc)] at V
      exact ⟨cx, q1, q2, scal_vr hsc V⟩
    | panicked c => exact he
    | outgrown => exact he
  · have main : ∀ roc, md ≠ .isoh → C roc f vs s.h = some (r, h1) → ((roc = false ∧ s.ro = false) ∨ (roc = true ∧ h1 = s.h)) → (v, s1) = imp d r { s2 with h := h1 } → Callable P f ∧ Calls P f us w (RetPost s cx w v s1) := by
      intro roc hmd hr way he
      rw [if_neg hmd] at hc
      have key : ∃ cx2, Go1 s cx w s2 cx2 w ∧ MR s2 cx2 w ∧ vs.length = args.length ∧ ∀ (i : Nat) (x : AV) (u : Value), vs[i]? = some x → us[i]? = some u → VR s2.sg cx2 w x u := by
        split at hc
        · obtain ⟨cx2, a1, a2, a3, a4, _⟩ := mapS_ok (conv_ok (k := 0) (by decide)) args us.toList s cx w vs s2 M (by simpa using hs) (fun i x u hx hu' => hu i x u hx (by simpa using hu')) hc
          exact ⟨cx2, a1, a2, a3, fun i x u hx hu' => a4 i x u hx (by simpa using hu')⟩
        · split at hc
          · simp only [Option.some.injEq, Prod.mk.injEq] at hc; obtain ⟨rfl, rfl⟩ := hc
            exact ⟨cx, .refl .., M, rfl, hu⟩
          · cases hc
      obtain ⟨cx2, G2, M2, hl2, V2⟩ := key
      obtain ⟨M0, mv0⟩ := start_mr M2 F2.h vs s2.h roc (.inl rfl)
      have hr2 : C roc f vs s2.h = some (r, h1) := by rw [S2.h]; exact hr
      obtain ⟨k1, k2⟩ := hC _ _ _ _ _ _ hr2 hv F2.h
      obtain ⟨o1, o2, o3, o4⟩ := hW _ _ _ _ _ _ hr2 hv F2.h
      obtain ⟨R, T, e3, e4⟩ := imp_rel (d := d) (sB := { s2 with h := h1 }) (h := h1) (ro := roc) o1 rfl
      have e1 : v = (imp d r { s2 with h := h1 }).1 := congrArg Prod.fst he
      have e2 : s1 = (imp d r { s2 with h := h1 }).2 := congrArg Prod.snd he
      have Cm := cmb_of (s1 := s2) R e3 e4 o3 (way.imp (fun h => ⟨h.1, S2.ro.trans h.2⟩) (fun h => ⟨h.1, h.2.trans S2.h.symm⟩))
      have F' : WF (imp 0 r (start [] h1 roc)).2 := (imp_wf (d := 0) (s := start [] h1 roc) ⟨fun i => start_t i, fun i b hb => (by cases hb), fun i b hb => (by cases hb), o2⟩ o1).2.1
      refine ⟨k1, (k2 cx2 w us M0 (by omega) (fun i x u hx hu' => mv0 (hv x (List.mem_of_getElem? hx)) (V2 i x u hx hu'))).mono (fun e w' he => ?_)⟩
      cases e with
      | returned rv =>
        obtain ⟨cx', G, M', V⟩ := he
        obtain ⟨c1, c2, c3⟩ := combine M2 G M' Cm F'
        rw [e1, e2]
        refine ⟨_, G2.trans c1, c2, ?_⟩
        revert V T
        generalize (imp 0 r (start [] h1 roc)).1 = x
        generalize (imp d r { s2 with h := h1 }).1 = y
        intro T V
        cases T with
        | one hI => exact vi_vr R c3 hI V
        | tup hl hI =>
          cases V with
          | tup hs' h' => 
            refine .tup (by omega) (fun i y u hy hu' => ?_)
            have hi : i < _ := (List.getElem?_eq_some_iff.1 hy).1
            rw [← hl] at hi
            exact vi_vr R c3 (hI i _ y (List.getElem?_eq_getElem hi) hy) (h' i _ u (List.getElem?_eq_getElem hi) hu')
      | panicked c => exact he
      | outgrown => exact he
    rcases hres with ⟨hmd, hr, he⟩ | ⟨hmd, hro, hr, he⟩
    · have hh : h1 = s.h := (hW _ _ _ _ _ _ hr hv F.h).2.2.2 rfl
      refine main true hmd hr (.inr ⟨rfl, hh⟩) ?_
      rw [he, hh, ← S2.h]
    · exact main false hmd hr (.inl ⟨rfl, hro⟩) he

end Go.Proofs.Bb
