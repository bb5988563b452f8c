/- What the abstract machine keeps: nothing that is told by its cells holds a reference into a frame. -/
import Derived.Test.YtimlkngjkiknfaaGreatBbRel
set_option linter.unusedSimpArgs false
set_option linter.unusedVariables false
namespace Go.Proofs.Bb
open Go

/-- One cell, no reference into a frame, to the bottom. -/
inductive DC : AV → Prop
  | bool (b : Bool) : DC (.bool b)
  | int (k : IntKind) (n : Int) : DC (.int k n)
  | str (s : ByteArray) : DC (.str s)
  | nilp : DC .nilp
  | nilm : DC .nilm
  | nilf : DC .nilf
  | nili : DC .nili
  | sl {z : Nat} {els : List (List AV)} {tl : Option (List (List AV))} (h : ∀ cs, cs ∈ els ++ tl.getD [] → ∀ x, x ∈ cs → DC x) : DC (.sl z els tl)
  | ip {cs : List AV} {o : Nat} (h : ∀ x, x ∈ cs → DC x) : DC (.ip cs o)
  | map (b : Nat) : DC (.map b)
  | fn {f : FuncId} {a c : List AV} (ha : ∀ x, x ∈ a → DC x) (hc : ∀ x, x ∈ c → DC x) : DC (.fn f a c)
  | rs (i g z off len cap : Nat) : DC (.rs (.h i) g z off len cap)
  | pt (i g e o : Nat) : DC (.pt (.h i) g e o)

/-- One cell as a frame has it. -/
inductive W1 : AV → Prop
  | dc {x : AV} (h : DC x) : W1 x
  | rs (i g z off len cap : Nat) : W1 (.rs (.a i) g z off len cap)
  | ptv (i g e o : Nat) : W1 (.pt (.v i) g e o)
  | pta (i g e o : Nat) : W1 (.pt (.a i) g e o)

inductive W0 : AV → Prop
  | one {x : AV} (h : W1 x) : W0 x
  | agg {cs : List AV} (h : ∀ x, x ∈ cs → W1 x) : W0 (.agg cs)

inductive WV : AV → Prop
  | one {x : AV} (h : W0 x) : WV x
  | tup {vs : List AV} (h : ∀ x, x ∈ vs → W0 x) : WV (.tup vs)

theorem W1.clean {x : AV} (h : W1 x) (hc : clean1 x = true) : DC x := by
  cases h with
  | dc h => exact h
  | rs => simp [clean1] at hc
  | ptv => simp [clean1] at hc
  | pta => simp [clean1] at hc

/-- What a block may hold. -/
def WB (l : Loc) (b : Blk) : Prop := ∀ cs, cs ∈ b.els → ∀ x, x ∈ cs → (if isV l then W1 x else DC x)

/-- A value of a map, clean. -/
inductive D0 : AV → Prop
  | one {x : AV} (h : DC x) : D0 x
  | agg {cs : List AV} (h : ∀ x, x ∈ cs → DC x) : D0 (.agg cs)

/-- A result. -/
inductive O0 : AV → Prop
  | one {x : AV} (h : D0 x) : O0 x
  | own {z len : Nat} {els : List (List AV)} (h : ∀ cs, cs ∈ els → ∀ x, x ∈ cs → DC x) : O0 (.own z els len)
inductive OV : AV → Prop
  | one {x : AV} (h : O0 x) : OV x
  | tup {vs : List AV} (h : ∀ x, x ∈ vs → O0 x) : OV (.tup vs)

structure WH (h : List HB) : Prop where
  blk : ∀ (i : Nat) (b : Blk), h[i]? = some (.blk b) → ∀ cs, cs ∈ b.els → ∀ x, x ∈ cs → DC x
  map : ∀ (i : Nat) (es : List Ent) (k : Nat), h[i]? = some (.map es k) → ∀ e, e ∈ es → D0 e.key ∧ D0 e.val

structure WF (s : St) : Prop where
  t : ∀ i, WV (s.t i)
  v : ∀ i b, (s.v i).b = some b → ∀ cs, cs ∈ b.els → ∀ x, x ∈ cs → W1 x
  a : ∀ i b, (s.a i).b = some b → ∀ cs, cs ∈ b.els → ∀ x, x ∈ cs → DC x
  h : WH s.h

theorem getB_wf {s : St} {l : Loc} {g : Nat} {b : Blk} (F : WF s) (h : s.getB l g = some b) : WB l b := by
  obtain ⟨h1, _⟩ := getB_some h
  intro cs hcs x hx
  cases l with
  | v i => exact F.v i b h1 cs hcs x hx
  | a i => exact F.a i b h1 cs hcs x hx
  | h i =>
    have : s.h[i]? = some (.blk b) := by
      simp only [St.cur] at h1
      unfold blkAt at h1
      split at h1
      · rename_i heq; cases h1; exact heq
      · cases h1
    exact F.h.blk i b this cs hcs x hx

theorem upd_slot {f : Nat → Slot} {d g : Nat} {ob : Option Blk} {R : AV → Prop} (h : ∀ i b, (f i).b = some b → ∀ cs, cs ∈ b.els → ∀ x, x ∈ cs → R x) (hb : ∀ b, ob = some b → ∀ cs, cs ∈ b.els → ∀ x, x ∈ cs → R x) :
    ∀ i b, ((upd f d ⟨g, ob⟩) i).b = some b → ∀ cs, cs ∈ b.els → ∀ x, x ∈ cs → R x := by
  intro i b hi
  by_cases e : i = d
  · subst e; rw [upd_eq] at hi; exact hb b hi
  · rw [upd_ne _ _ e] at hi; exact h i b hi

theorem WH.set {h : List HB} {i : Nat} {b : HB} (H : WH h) (hb : ∀ b', b = .blk b' → ∀ cs, cs ∈ b'.els → ∀ x, x ∈ cs → DC x) (hm : ∀ es k, b = .map es k → ∀ e, e ∈ es → D0 e.key ∧ D0 e.val) : WH (h.set i b) := by
  refine ⟨fun j b' hj => ?_, fun j es k hj => ?_⟩
  · rw [List.getElem?_set] at hj
    split at hj
    · split at hj
      · exact hb b' (by simpa using hj)
      · cases hj
    · exact H.blk j b' hj
  · rw [List.getElem?_set] at hj
    split at hj
    · split at hj
      · exact hm es k (by simpa using hj)
      · cases hj
    · exact H.map j es k hj

theorem WH.app {h h2 : List HB} (H : WH h) (H2 : WH h2) : WH (h ++ h2) := by
  refine ⟨fun j b' hj => ?_, fun j es k hj => ?_⟩
  · rcases Nat.lt_or_ge j h.length with hl | hl
    · rw [List.getElem?_append_left hl] at hj; exact H.blk j b' hj
    · rw [List.getElem?_append_right hl] at hj; exact H2.blk _ b' hj
  · rcases Nat.lt_or_ge j h.length with hl | hl
    · rw [List.getElem?_append_left hl] at hj; exact H.map j es k hj
    · rw [List.getElem?_append_right hl] at hj; exact H2.map _ es k hj

theorem WH.one {b : HB} (hb : ∀ b', b = .blk b' → ∀ cs, cs ∈ b'.els → ∀ x, x ∈ cs → DC x) (hm : ∀ es k, b = .map es k → ∀ e, e ∈ es → D0 e.key ∧ D0 e.val) : WH [b] := by
  refine ⟨fun j b' hj => ?_, fun j es k hj => ?_⟩
  · cases j with
    | zero => exact hb b' (by simpa using hj)
    | succ j => simp at hj
  · cases j with
    | zero => exact hm es k (by simpa using hj)
    | succ j => simp at hj

theorem setB_wf {s : St} {l : Loc} {b : Blk} (F : WF s) (hb : WB l b) : WF (s.setB l b) := by
  cases l with
  | v i => exact ⟨F.t, upd_slot F.v (fun b' h => by cases h; exact hb), F.a, F.h⟩
  | a i => exact ⟨F.t, F.v, upd_slot F.a (fun b' h => by cases h; exact hb), F.h⟩
  | h i => exact ⟨F.t, F.v, F.a, F.h.set (fun b' h => by cases h; exact hb) (fun es k h => by cases h)⟩

theorem kill_wf {s : St} {l : Loc} (F : WF s) : WF (s.kill l) := by
  cases l with
  | v i => exact ⟨F.t, upd_slot F.v (fun b' h => by cases h), F.a, F.h⟩
  | a i => exact ⟨F.t, F.v, upd_slot F.a (fun b' h => by cases h), F.h⟩
  | h i => exact ⟨F.t, F.v, F.a, F.h.set (fun b' h => by cases h) (fun es k h => by cases h)⟩

theorem newA_wf {s : St} {d z len : Nat} {els : List (List AV)} {ex : Bool} (F : WF s) (h : ∀ cs, cs ∈ els → ∀ x, x ∈ cs → DC x) : WV (newA d z s els len ex).1 ∧ WF (newA d z s els len ex).2 :=
  ⟨.one (.one (.rs ..)), F.t, F.v, upd_slot F.a (fun b' hb => by cases hb; exact h), F.h⟩

/-- What a conversion gives. -/
theorem conv1_wf {k : Nat} {x y : AV} {s s1 : St} (F : WF s) (hx : W1 x) (h : conv1 k x s = some (y, s1)) : DC y ∧ WF s1 := by
  unfold conv1 at h
  split at h
  · rename_i i g z off len cap
    split at h
    · rename_i b hb
      have hB := getB_wf F hb
      split at h
      · split at h
        · cases h
        · simp only [Option.some.injEq, Prod.mk.injEq] at h; obtain ⟨rfl, rfl⟩ := h
          exact ⟨.rs .., F.t, F.v, upd_slot F.a (fun b' h => by cases h), F.h.app (WH.one (fun b' h => by cases h; exact hB) (fun es k h => by cases h))⟩
      · simp only [Option.some.injEq, Prod.mk.injEq] at h; obtain ⟨rfl, rfl⟩ := h
        exact ⟨.sl (fun cs hcs x hx => hB cs (List.mem_of_mem_drop (List.mem_of_mem_take (by simpa [Blk.part] using hcs))) x hx), setB_wf F hB⟩
    · cases h
  · split at h
    · split at h
      · rename_i b hb
        have hB := getB_wf F hb
        simp only [Option.some.injEq, Prod.mk.injEq] at h; obtain ⟨rfl, rfl⟩ := h
        exact ⟨.sl (fun cs hcs x hx => hB cs (List.mem_of_mem_drop (List.mem_of_mem_take (by simpa [Blk.part] using hcs))) x hx), F⟩
      · cases h
    · simp only [Option.some.injEq, Prod.mk.injEq] at h; obtain ⟨rfl, rfl⟩ := h
      exact ⟨.rs .., F⟩
  · split at h
    · rename_i hc
      simp only [Option.some.injEq, Prod.mk.injEq] at h; obtain ⟨rfl, rfl⟩ := h
      exact ⟨hx.clean hc, F⟩
    · cases h

end Go.Proofs.Bb
