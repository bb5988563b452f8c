/- Each instruction is what the operation does: those that only compute, and loads. -/
import Derived.Test.YtimlkngjkiknfaaGreatBbMem
import Derived.Test.YtimlkngjkiknfaaGreatBbChk
import Derived.Laws.Cells
import Derived.Laws.Entries
import Derived.Laws.Small
import Derived.Laws.Strings
set_option linter.unusedSimpArgs false
set_option linter.unusedVariables false
namespace Go.Proofs.Bb
open Go

def TR (s : St) (cx : Cx) (w : World) (a : Act) : Prop := ∀ t, VR s.sg cx w (s.t t) (a.tmps.getD t undef)

theorem VR.undef (σ : Sg) (cx : Cx) (w : World) : VR σ cx w (.tup []) Go.undef := .tup rfl (fun i x v h _ => by simp at h)

theorem lift_ok {v : Value} {x : AV} (h : liftOK v x = true) (σ : Sg) (cx : Cx) (w : World) : VR σ cx w x v := by
  unfold liftOK at h
  split at h
  · have := of_decide_eq_true (by simpa using h); subst this; exact .bool _
  · simp only [Bool.and_eq_true, decide_eq_true_eq] at h; obtain ⟨rfl, rfl⟩ := h; exact .int _ _
  · rename_i a b
    have h : a.data = b.data := of_decide_eq_true h
    have : a = b := by cases a; cases b; simp_all
    subst this; exact .str _
  · exact .nilp
  · exact .nilm
  · exact .nilf
  · exact .nili
  · exact .sl 0 0 (fun _ _ => Go.undef) rfl (Nat.le_refl _) (fun t h => by cases h; rfl) (fun h => by simp at h) (fun cs h => by simp at h)
      (fun j q x h => by simp [cellA] at h) (fun j q x h => by simp [cellA] at h) (fun j q x h => by simp [cellA] at h)
  · cases h

theorem lift_one {v : Value} {x : AV} (h : liftOK v x = true) : v.oneCell' = true := by
  unfold liftOK at h; split at h <;> first | rfl | cases h

theorem liftL_ok {vs : List Value} {xs : List AV} (h : liftL vs xs = true) : xs.length = vs.length ∧ ∀ (i : Nat) (x : AV) (v : Value), xs[i]? = some x → vs[i]? = some v → liftOK v x = true := by
  induction vs generalizing xs with
  | nil => cases xs <;> simp_all [liftL]
  | cons v vs ih =>
    cases xs with
    | nil => simp [liftL] at h
    | cons x xs =>
      simp only [liftL, Bool.and_eq_true] at h
      obtain ⟨h1, h2⟩ := ih h.2
      refine ⟨by simp [h1], fun i y u hy hu => ?_⟩
      cases i with
      | zero => simp at hy hu; subst hy; subst hu; exact h.1
      | succ i => simp at hy hu; exact h2 i y u hy hu

section
variable {P : Program} {s : St} {cx : Cx} {w : World} {a : Act}

theorem ev_ok (T : TR s cx w a) {o : Operand} {x : X} (h : chkX o x = true) : VR s.sg cx w (ev s.t x) (a.eval o) := by
  unfold chkX at h
  split at h
  · have := of_decide_eq_true h; subst this; exact T _
  · exact lift_ok h _ _ _
  · have := of_decide_eq_true h; subst this
    exact .fn rfl rfl (fun i x v h _ => by simp at h) (fun i x v h _ => by simp at h)
  · cases h

theorem evL_ok (T : TR s cx w a) {os : List Operand} {xs : List X} (h : chkXs os xs = true) : (evL s.t xs).length = os.length ∧
    ∀ (i : Nat) (x : AV) (v : Value), (evL s.t xs)[i]? = some x → (os.map a.eval)[i]? = some v → VR s.sg cx w x v := by
  induction os generalizing xs with
  | nil => cases xs <;> simp_all [chkXs, evL]
  | cons o os ih =>
    cases xs with
    | nil => simp [chkXs] at h
    | cons x xs =>
      simp only [chkXs, Bool.and_eq_true] at h
      obtain ⟨h1, h2⟩ := ih h.2
      refine ⟨by simpa [evL] using h1, fun i y u hy hu => ?_⟩
      cases i with
      | zero => simp [evL] at hy hu; subst hy; subst hu; exact ev_ok T h.1
      | succ i => simp [evL] at hy hu; exact h2 i y u (by simpa [evL] using hy) (by simpa using hu)

/-- What an instruction's soundness says. -/
def Post (P : Program) (o : Oper) (a : Act) (s : St) (cx : Cx) (w : World) (v : AV) (s1 : St) (Q : Exit → Act → World → Prop) : Prop :=
  ∀ K : Act → World → Prop, (∀ v' w' cx', Go1 s cx w s1 cx' w' → MR s1 cx' w' → VR s1.sg cx' w' v v' → K (a.put o.dst v') w') → o.wp P a w K Q

theorem post_value {o : Oper} {v : AV} {s1 : St} {Q : Exit → Act → World → Prop} {v' : Value} {w' : World} {cx' : Cx}
    (hr : (execOp a.eval o).run P w = .ok (.value v') w') (hg : Go1 s cx w s1 cx' w') (hm : MR s1 cx' w') (hv : VR s1.sg cx' w' v v') : Post P o a s cx w v s1 Q := by
  intro K hK
  unfold Oper.wp
  rw [hr]
  exact hK v' w' cx' hg hm hv
theorem post_skip {o : Oper} {s1 : St} {Q : Exit → Act → World → Prop} {w' : World} {cx' : Cx}
    (hr : (execOp a.eval o).run P w = .ok .skip w') (hg : Go1 s cx w s1 cx' w') (hm : MR s1 cx' w') : Post P o a s cx w (.tup []) s1 Q := by
  intro K hK
  unfold Oper.wp
  rw [hr]
  exact hK _ w' cx' hg hm (VR.undef _ _ _)
theorem post_pure {o : Oper} {v : AV} {Q : Exit → Act → World → Prop} {v' : Value} (M : MR s cx w)
    (hr : (execOp a.eval o).run P w = .ok (.value v') w) (hv : VR s.sg cx w v v') : Post P o a s cx w v s Q :=
  post_value hr (.refl ..) M hv

theorem agg_inv {σ : Sg} {cs : List AV} {v : Value} (h : VR σ cx w (.agg cs) v) : ∃ vs : Array Value, v = .agg vs ∧ vs.size = cs.length ∧
    (∀ (i : Nat) (x : AV) (v : Value), cs[i]? = some x → vs[i]? = some v → VR σ cx w x v) ∧ ∀ (i : Nat) (v : Value), vs[i]? = some v → v.oneCell' = true := by
  cases h with
  | agg hs h h1 => exact ⟨_, rfl, hs, h, h1⟩
theorem tup_inv {σ : Sg} {cs : List AV} {v : Value} (h : VR σ cx w (.tup cs) v) : ∃ vs : Array Value, v = .tuple vs ∧ vs.size = cs.length ∧
    ∀ (i : Nat) (x : AV) (v : Value), cs[i]? = some x → vs[i]? = some v → VR σ cx w x v := by
  cases h with
  | tup hs h => exact ⟨_, rfl, hs, h⟩
theorem int_inv {σ : Sg} {k : IntKind} {n : Int} {v : Value} (h : VR σ cx w (.int k n) v) : v = .int k n := by cases h; rfl
theorem bool_inv {σ : Sg} {b : Bool} {v : Value} (h : VR σ cx w (.bool b) v) : v = .bool b := by cases h; rfl
theorem str_inv {σ : Sg} {b : ByteArray} {v : Value} (h : VR σ cx w (.str b) v) : v = .string b := by cases h; rfl

/-- The cells of a value. -/
theorem cells_ok {σ : Sg} {x : AV} {v : Value} (h : VR σ cx w x v) :
    v.cells.size = (cellsOf x).length ∧ ∀ (i : Nat) (y : AV) (u : Value), (cellsOf x)[i]? = some y → v.cells[i]? = some u → VR σ cx w y u := by
  have one : ∀ {x : AV} {v : Value}, VR σ cx w x v → cellsOf x = [x] → v.cells = #[v] → v.cells.size = (cellsOf x).length ∧
      ∀ (i : Nat) (y : AV) (u : Value), (cellsOf x)[i]? = some y → v.cells[i]? = some u → VR σ cx w y u := by
    intro x v h e1 e2
    rw [e1, e2]
    refine ⟨rfl, fun i y u hy hu => ?_⟩
    cases i with
    | zero => simp at hy hu; subst hy; subst hu; exact h
    | succ i => simp at hy
  cases h with
  | agg hs h h1 => exact ⟨hs, h⟩
  | tup hs h => exact one (.tup hs h) rfl rfl
  | rs h1 h2 h3 h4 h5 h6 => exact one (.rs h1 h2 h3 h4 h5 h6) rfl rfl
  | pt hg hl h => exact one (.pt hg hl h) rfl rfl
  | bool b => exact one (.bool b) rfl rfl
  | int k n => exact one (.int k n) rfl rfl
  | str s => exact one (.str s) rfl rfl
  | nilp => exact one .nilp rfl rfl
  | nilm => exact one .nilm rfl rfl
  | nilf => exact one .nilf rfl rfl
  | nili => exact one .nili rfl rfl
  | sl r off fc h1 h2 h3 h4 h5 h6 h7 h8 => exact one (.sl r off fc h1 h2 h3 h4 h5 h6 h7 h8) rfl rfl
  | ip r p fc h1 h2 h3 h4 => exact one (.ip r p fc h1 h2 h3 h4) rfl rfl
  | map h => exact one (.map h) rfl rfl
  | fn h1 h2 h3 h4 => exact one (.fn h1 h2 h3 h4) rfl rfl

/-- The cells of a value that is no tuple are each of one cell. -/
theorem cells_one {σ : Sg} {x : AV} {v : Value} (h : VR σ cx w x v) (hx : notTup x = true) : ∀ (i : Nat) (u : Value), v.cells[i]? = some u → u.oneCell' = true := by
  intro i u hu
  have one : v.cells = #[v] → v.oneCell' = true → u.oneCell' = true := by
    intro e h
    rw [e] at hu
    cases i with
    | zero => simp at hu; subst hu; exact h
    | succ i => simp at hu
  cases h with
  | agg hs h h1 => exact h1 i u hu
  | tup hs h => simp [notTup] at hx
  | _ => exact one rfl rfl

/-! ### Parts -/
theorem nOf_none {t : TypeId} (h : nOf P t = some none) : ∃ d, P.underlying t = some d ∧ (∀ fs, d ≠ .struct fs) ∧ (∀ n e, d ≠ .array n e) := by
  unfold nOf isA at h
  cases hd : P.underlying t with
  | none => simp [hd] at h
  | some d =>
    refine ⟨d, rfl, fun fs e => ?_, fun n e' e => ?_⟩
    · subst e; simp only [hd] at h; cases hs : szO P t <;> simp [hs] at h
    · subst e; simp only [hd] at h; cases hs : szO P t <;> simp [hs] at h
theorem nOf_some {t : TypeId} {n : Nat} (h : nOf P t = some (some n)) : (isAgg t).run P w = .ok true w ∧ (sizeOf t).run P w = .ok n w := by
  unfold nOf isA at h
  cases hd : P.underlying t with
  | none => simp [hd] at h
  | some d =>
    simp only [hd] at h
    have h1 : (isAgg t).run P w = .ok true w ∧ szO P t = some n := by
      cases d <;> simp at h
      all_goals
        refine ⟨?_, by simpa using h⟩
        simp [isAgg, underlying, hd]
    refine ⟨h1.1, ?_⟩
    have h2 := h1.2
    unfold szO at h2
    cases hi : P.info? t with
    | none => simp [hi] at h2
    | some i => simp [hi] at h2; simp [sizeOf, typeInfo, hi, h2]
theorem isAgg_no {t : TypeId} (h : nOf P t = some none) : (isAgg t).run P w = .ok false w := by
  obtain ⟨d, hd, h1, h2⟩ := nOf_none h
  cases d <;> first | exact absurd rfl (h1 _) | exact absurd rfl (h2 _ _) | simp [isAgg, underlying, hd]

/-- A part of cells. -/
theorem part_ok {σ : Sg} {t : TypeId} {n : Option Nat} {cs : List AV} {vs : Array Value} {o : Nat} {x : AV} (h1c : ∀ (i : Nat) (v : Value), vs[i]? = some v → v.oneCell' = true) (hn : nOf P t = some n)
    (hs : vs.size = cs.length) (hv : ∀ (i : Nat) (x : AV) (v : Value), cs[i]? = some x → vs[i]? = some v → VR σ cx w x v) (hx : ldc cs o n = some x) :
    ∃ v, (part t vs o).run P w = .ok v w ∧ VR σ cx w x v := by
  cases n with
  | none =>
    simp only [ldc] at hx
    have hlt : o < vs.size := by rw [hs]; exact (List.getElem?_eq_some_iff.1 hx).1
    refine ⟨vs[o], ?_, hv o x _ hx (Array.getElem?_eq_getElem hlt)⟩
    simp [part, isAgg_no hn, Array.getElem?_eq_getElem hlt]
  | some n =>
    simp only [ldc] at hx
    split at hx
    · rename_i hle
      cases hx
      obtain ⟨h1, h2⟩ := nOf_some (w := w) hn
      refine ⟨.agg (vs.extract o (o + n)), ?_, .agg ?_ (fun i x v hi hv' => ?_) (fun i v hv' => ?_)⟩
      · simp [part, h1, h2]
      · simp; omega
      · have hin : i < n := by
          have := (List.getElem?_eq_some_iff.1 hi).1
          simp at this; omega
        rw [List.getElem?_take_of_lt hin, List.getElem?_drop] at hi
        rw [Array.getElem?_extract] at hv'
        split at hv'
        · exact hv (o + i) x v hi hv'
        · cases hv'
      · rw [Array.getElem?_extract] at hv'
        split at hv'
        · exact h1c _ v hv'
        · cases hv'
    · cases hx

end
end Go.Proofs.Bb
