/- Calls and loops without a count of steps. -/
import Derived.Test.YtimlkngjkiknfaaGreatBbFun
set_option linter.unusedSimpArgs false
set_option linter.unusedVariables false
namespace Go.Proofs.Bb
open Go

def LeC (C C' : Orc) : Prop := ∀ ro f args h r, C ro f args h = some r → C' ro f args h = some r
def LeL (L L' : LoopO) : Prop := ∀ c s r, L c s = some r → L' c s = some r

section
variable {C C' : Orc} {L L' : LoopO}

theorem callA_mono (hC : LeC C C') {ro : Bool} {md : Mode} {aa : Bool} {d : Nat} {f : FuncId} {args : List AV} {s : St} {r : AV × St} (h : callA C ro md aa d f args s = some r) : callA C' ro md aa d f args s = some r := by
  unfold callA at h ⊢
  split at h
  · cases h
  · rename_i vs s1 hc
    try simp only [hc]
    split at h
    · split at h
      · rename_i r h1 hr; simp only [hC _ _ _ _ _ hr]; exact h
      · cases h
    · split at h
      · rename_i r h1 hr; simp only [hC _ _ _ _ _ hr]; exact h
      · cases h
    · split at h
      · rename_i r h1 hr; simp only [hC _ _ _ _ _ hr]; exact h
      · cases h
    · split at h
      · cases h
      · rename_i hro
        simp only [if_neg hro]
        split at h
        · rename_i r h1 hr; simp only [hC _ _ _ _ _ hr]; exact h
        · cases h

theorem step_mono (hC : LeC C C') {ro : Bool} {d : Nat} {s : St} {i : I} {r : AV × St} (h : step C ro d s i = some r) : step C' ro d s i = some r := by
  cases i with
  | call md aa f args => exact callA_mono hC h
  | callv md aa f args =>
    simp only [step] at h ⊢
    split at h
    · exact callA_mono hC h
    · cases h
  | _ => exact h

theorem stepA_mono (hC : LeC C C') {x : AI} {s s1 : St} (h : stepA C x s = some s1) : stepA C' x s = some s1 := by
  unfold stepA at h ⊢
  split at h
  · rename_i v s2 h2
    have : stepG C' x s = some (v, s2) := by
      unfold stepG at h2 ⊢
      split at h2
      · exact step_mono hC h2
      · exact h2
      · cases h2
    rw [this]; exact h
  · cases h

theorem runI_mono (hC : LeC C C') : ∀ (l : List AI) (s s1 : St), runI C l s = some s1 → runI C' l s = some s1 := by
  intro l
  induction l with
  | nil => intro s s1 h; exact h
  | cons x l ih =>
    intro s s1 h
    simp only [runI] at h ⊢
    split at h
    · rename_i s2 h2
      rw [stepA_mono hC h2]
      exact ih _ _ h
    · cases h

theorem exec_mono (hC : LeC C C') (hL : LeL L L') : ∀ (c : ACode) (s : St) (r : Ex × St), exec C L c s = some r → exec C' L' c s = some r := by
  intro c
  induction c with
  | skip => intro s r h; exact h
  | ins l =>
    intro s r h
    simp only [exec] at h ⊢
    split at h
    · rename_i s1 h1; rw [runI_mono hC _ _ _ h1]; exact h
    · cases h
  | seq a b iha ihb =>
    intro s r h
    simp only [exec] at h ⊢
    split at h
    · rename_i s1 h1; rw [iha _ _ h1]; exact ihb _ _ h
    · rename_i hne
      have := iha _ _ h
      rw [this]
      split
      · rename_i s1 he; cases he; exact absurd h (hne s1)
      · rfl
  | cond x a b iha ihb =>
    intro s r h
    simp only [exec] at h ⊢
    split at h
    · split at h
      · rename_i ht; rw [if_pos ht]; exact iha _ _ h
      · rename_i ht; rw [if_neg ht]; exact ihb _ _ h
    · cases h
  | block id c ih =>
    intro s r h
    simp only [exec] at h ⊢
    split at h
    · rename_i j s1 h1; rw [ih _ _ h1]; exact h
    · rename_i hne
      have := ih _ _ h
      rw [this]
      split
      · rename_i j s1 he; cases he; exact absurd h (hne j s1)
      · rfl
  | loop c ih => intro s r h; exact hL _ _ _ h
  | exit id => intro s r h; exact h
  | ret => intro s r h; exact h

theorem runF_mono (hC : LeC C C') (hL : LeL L L') {ro : Bool} {fn : AFn} {args : List AV} {h : List HB} {r : AV × List HB} (hr : runF C L ro fn args h = some r) : runF C' L' ro fn args h = some r := by
  unfold runF at hr ⊢
  split at hr
  · rename_i hn
    rw [if_pos hn]
    split at hr
    · rename_i e s he; rw [exec_mono hC hL _ _ _ he]; exact hr
    · cases hr
  · cases hr
end

section
variable {F : FuncId → Option AFn} {S : Orc}

theorem lvl_succ : ∀ n, LeC (lvl F S n).1 (lvl F S (n + 1)).1 ∧ LeL (lvl F S n).2 (lvl F S (n + 1)).2 := by
  intro n
  induction n with
  | zero => exact ⟨fun _ _ _ _ _ h => by simp [lvl] at h, fun _ _ _ h => by simp [lvl] at h⟩
  | succ n ih =>
    refine ⟨fun ro f args h r hr => ?_, fun c s r hr => ?_⟩
    · rw [lvl] at hr ⊢
      simp only at hr ⊢
      split at hr
      · rename_i fn hf
        exact runF_mono ih.1 ih.2 hr
      · exact hr
    · rw [lvl] at hr ⊢
      simp only at hr ⊢
      split at hr
      · rename_i s1 h1
        rw [exec_mono ih.1 ih.2 _ _ _ h1]
        exact ih.2 _ _ _ hr
      · rename_i hne
        have := exec_mono ih.1 ih.2 _ _ _ hr
        rw [this]
        split
        · rename_i s1 he; cases he; exact absurd hr (hne s1)
        · rfl

theorem lvl_le {n m : Nat} (h : n ≤ m) : LeC (lvl F S n).1 (lvl F S m).1 ∧ LeL (lvl F S n).2 (lvl F S m).2 := by
  induction h with
  | refl => exact ⟨fun _ _ _ _ _ h => h, fun _ _ _ h => h⟩
  | step h ih =>
    obtain ⟨a1, a2⟩ := lvl_succ (F := F) (S := S) _
    exact ⟨fun ro f args h r hr => a1 _ _ _ _ _ (ih.1 _ _ _ _ _ hr), fun c s r hr => a2 _ _ _ (ih.2 _ _ _ hr)⟩

open Classical in
/-- A call, in as many steps as it takes. -/
noncomputable def callF (F : FuncId → Option AFn) (S : Orc) : Orc := fun ro f args h =>
  if hx : ∃ n, ((lvl F S n).1 ro f args h).isSome = true then (lvl F S (Classical.choose hx)).1 ro f args h else none
open Classical in
/-- A loop, in as many rounds as it takes. -/
noncomputable def loopF (F : FuncId → Option AFn) (S : Orc) : LoopO := fun c s =>
  if hx : ∃ n, ((lvl F S n).2 c s).isSome = true then (lvl F S (Classical.choose hx)).2 c s else none

theorem callF_of {n : Nat} {ro : Bool} {f : FuncId} {args : List AV} {h : List HB} {r : AV × List HB} (hr : (lvl F S n).1 ro f args h = some r) : callF F S ro f args h = some r := by
  have hx : ∃ n, ((lvl F S n).1 ro f args h).isSome = true := ⟨n, by rw [hr]; rfl⟩
  unfold callF
  rw [dif_pos hx]
  have hs := Classical.choose_spec hx
  generalize Classical.choose hx = m at hs
  obtain ⟨r', hr'⟩ := Option.isSome_iff_exists.1 hs
  have h1 := (lvl_le (F := F) (S := S) (Nat.le_max_left n m)).1 _ _ _ _ _ hr
  have h2 := (lvl_le (F := F) (S := S) (Nat.le_max_right n m)).1 _ _ _ _ _ hr'
  rw [h1] at h2
  rw [hr', h2]
theorem callF_ex {ro : Bool} {f : FuncId} {args : List AV} {h : List HB} {r : AV × List HB} (hr : callF F S ro f args h = some r) : ∃ n, (lvl F S n).1 ro f args h = some r := by
  unfold callF at hr
  split at hr
  · exact ⟨_, hr⟩
  · cases hr
theorem loopF_of {n : Nat} {c : ACode} {s : St} {r : Ex × St} (hr : (lvl F S n).2 c s = some r) : loopF F S c s = some r := by
  have hx : ∃ n, ((lvl F S n).2 c s).isSome = true := ⟨n, by rw [hr]; rfl⟩
  unfold loopF
  rw [dif_pos hx]
  have hs := Classical.choose_spec hx
  generalize Classical.choose hx = m at hs
  obtain ⟨r', hr'⟩ := Option.isSome_iff_exists.1 hs
  have h1 := (lvl_le (F := F) (S := S) (Nat.le_max_left n m)).2 _ _ _ hr
  have h2 := (lvl_le (F := F) (S := S) (Nat.le_max_right n m)).2 _ _ _ hr'
  rw [h1] at h2
  rw [hr', h2]
theorem loopF_ex {c : ACode} {s : St} {r : Ex × St} (hr : loopF F S c s = some r) : ∃ n, (lvl F S n).2 c s = some r := by
  unfold loopF at hr
  split at hr
  · exact ⟨_, hr⟩
  · cases hr

theorem callA_lim {ro : Bool} {md : Mode} {aa : Bool} {d : Nat} {f : FuncId} {args : List AV} {s : St} {r : AV × St} (h : callA (callF F S) ro md aa d f args s = some r) : ∃ n, callA (lvl F S n).1 ro md aa d f args s = some r := by
  unfold callA at h
  split at h
  · cases h
  · rename_i vs s1 hc
    split at h
    · split at h
      · rename_i r h1 hr
        obtain ⟨n, hn⟩ := callF_ex hr
        exact ⟨n, by unfold callA; rw [hc]; simp only [hn]; exact h⟩
      · cases h
    · split at h
      · rename_i r h1 hr
        obtain ⟨n, hn⟩ := callF_ex hr
        exact ⟨n, by unfold callA; rw [hc]; simp only [hn]; exact h⟩
      · cases h
    · split at h
      · rename_i r h1 hr
        obtain ⟨n, hn⟩ := callF_ex hr
        exact ⟨n, by unfold callA; rw [hc]; simp only [hn]; exact h⟩
      · cases h
    · split at h
      · cases h
      · rename_i hro
        split at h
        · rename_i r h1 hr
          obtain ⟨n, hn⟩ := callF_ex hr
          exact ⟨n, by unfold callA; rw [hc]; simp only [hn, if_neg hro]; exact h⟩
        · cases h

theorem step_lim {ro : Bool} {d : Nat} {s : St} {i : I} {r : AV × St} (h : step (callF F S) ro d s i = some r) : ∃ n, step (lvl F S n).1 ro d s i = some r := by
  cases i with
  | call md aa f args => exact callA_lim h
  | callv md aa f args =>
    simp only [step] at h ⊢
    split at h
    · exact callA_lim h
    · cases h
  | _ => exact ⟨0, h⟩

theorem stepA_lim {x : AI} {s s1 : St} (h : stepA (callF F S) x s = some s1) : ∃ n, stepA (lvl F S n).1 x s = some s1 := by
  unfold stepA at h
  split at h
  · rename_i v s2 h2
    unfold stepG at h2
    split at h2
    · rename_i hw
      obtain ⟨n, hn⟩ := step_lim h2
      exact ⟨n, by unfold stepA stepG; simp only [hw, hn]; exact h⟩
    · rename_i hw
      simp only [Option.some.injEq, Prod.mk.injEq] at h2; obtain ⟨rfl, rfl⟩ := h2
      exact ⟨0, by unfold stepA stepG; simp only [hw]; exact h⟩
    · cases h2
  · cases h

theorem runI_lim : ∀ (l : List AI) (s s1 : St), runI (callF F S) l s = some s1 → ∃ n, runI (lvl F S n).1 l s = some s1 := by
  intro l
  induction l with
  | nil => intro s s1 h; exact ⟨0, h⟩
  | cons x l ih =>
    intro s s1 h
    simp only [runI] at h
    split at h
    · rename_i s2 h2
      obtain ⟨n, hn⟩ := stepA_lim h2
      obtain ⟨m, hm⟩ := ih _ _ h
      refine ⟨max n m, ?_⟩
      simp only [runI, stepA_mono (lvl_le (Nat.le_max_left n m)).1 hn]
      exact runI_mono (lvl_le (Nat.le_max_right n m)).1 _ _ _ hm
    · cases h

theorem exec_lim : ∀ (c : ACode) (s : St) (r : Ex × St), exec (callF F S) (loopF F S) c s = some r → ∃ n, exec (lvl F S n).1 (lvl F S n).2 c s = some r := by
  intro c
  induction c with
  | skip => intro s r h; exact ⟨0, h⟩
  | ins l =>
    intro s r h
    simp only [exec] at h
    split at h
    · rename_i s1 h1
      obtain ⟨n, hn⟩ := runI_lim _ _ _ h1
      exact ⟨n, by simp only [exec, hn]; exact h⟩
    · cases h
  | seq a b iha ihb =>
    intro s r h
    simp only [exec] at h
    split at h
    · rename_i s1 h1
      obtain ⟨n, hn⟩ := iha _ _ h1
      obtain ⟨m, hm⟩ := ihb _ _ h
      refine ⟨max n m, ?_⟩
      have a1 := lvl_le (F := F) (S := S) (Nat.le_max_left n m)
      have a2 := lvl_le (F := F) (S := S) (Nat.le_max_right n m)
      simp only [exec, exec_mono a1.1 a1.2 _ _ _ hn]
      exact exec_mono a2.1 a2.2 _ _ _ hm
    · rename_i hne
      obtain ⟨n, hn⟩ := iha _ _ h
      refine ⟨n, ?_⟩
      simp only [exec, hn]
      split
      · rename_i s1 he; cases he; exact absurd h (hne s1)
      · rfl
  | cond x a b iha ihb =>
    intro s r h
    simp only [exec] at h
    split at h
    · rename_i t ht
      split at h
      · rename_i h1
        obtain ⟨n, hn⟩ := iha _ _ h
        exact ⟨n, by simp only [exec, ht, if_pos h1]; exact hn⟩
      · rename_i h1
        obtain ⟨n, hn⟩ := ihb _ _ h
        exact ⟨n, by simp only [exec, ht, if_neg h1]; exact hn⟩
    · cases h
  | block id c ih =>
    intro s r h
    simp only [exec] at h
    split at h
    · rename_i j s1 h1
      obtain ⟨n, hn⟩ := ih _ _ h1
      exact ⟨n, by simp only [exec, hn]; exact h⟩
    · rename_i hne
      obtain ⟨n, hn⟩ := ih _ _ h
      refine ⟨n, ?_⟩
      simp only [exec, hn]
      split
      · rename_i j s1 he; cases he; exact absurd h (hne j s1)
      · rfl
  | loop c ih =>
    intro s r h
    obtain ⟨n, hn⟩ := loopF_ex h
    exact ⟨n, hn⟩
  | exit id => intro s r h; exact ⟨0, h⟩
  | ret => intro s r h; exact ⟨0, h⟩

/-- A call is what its code runs to. -/
theorem call_run {ro : Bool} {f : FuncId} {fn : AFn} {args : List AV} {h : List HB} {r : AV × List HB} (hf : F f = some fn) (hr : runF (callF F S) (loopF F S) ro fn args h = some r) : callF F S ro f args h = some r := by
  have : ∃ n, runF (lvl F S n).1 (lvl F S n).2 ro fn args h = some r := by
    unfold runF at hr
    split at hr
    · rename_i hn
      split at hr
      · rename_i e s he
        obtain ⟨n, hn'⟩ := exec_lim _ _ _ he
        exact ⟨n, by unfold runF; rw [if_pos hn, hn']; exact hr⟩
      · cases hr
    · cases hr
  obtain ⟨n, hn⟩ := this
  refine callF_of (n := n + 1) ?_
  simp only [lvl, hf]
  exact hn

theorem loop_next {c : ACode} {s s1 : St} {r : Ex × St} (h1 : exec (callF F S) (loopF F S) c s = some (.nor, s1)) (h2 : loopF F S c s1 = some r) : loopF F S c s = some r := by
  obtain ⟨n, hn⟩ := exec_lim _ _ _ h1
  obtain ⟨m, hm⟩ := loopF_ex h2
  have a1 := lvl_le (F := F) (S := S) (Nat.le_max_left n m)
  have a2 := lvl_le (F := F) (S := S) (Nat.le_max_right n m)
  refine loopF_of (n := max n m + 1) ?_
  simp only [lvl, exec_mono a1.1 a1.2 _ _ _ hn]
  exact a2.2 _ _ _ hm

theorem loop_out {c : ACode} {s s1 : St} {e : Ex} (h1 : exec (callF F S) (loopF F S) c s = some (e, s1)) (he : e ≠ .nor) : loopF F S c s = some (e, s1) := by
  obtain ⟨n, hn⟩ := exec_lim _ _ _ h1
  refine loopF_of (n := n + 1) ?_
  simp only [lvl, hn]
  split
  · rename_i s2 h; simp only [Option.some.injEq, Prod.mk.injEq] at h; exact absurd h.1 he
  · rfl

theorem special {ro : Bool} {f : FuncId} {args : List AV} {h : List HB} {r : AV × List HB} (hf : F f = none) (hr : S ro f args h = some r) : callF F S ro f args h = some r :=
  callF_of (n := 1) (by simp only [lvl, hf]; exact hr)

theorem callF_ok {P : Program} (hm : P.follows .mixedOrders = true) (hF : ∀ f fn, F f = some fn → chkF P f fn = true) (hSW : OrcW S) (hS : OrcOK P S) : OrcW (callF F S) ∧ OrcOK P (callF F S) := by
  refine ⟨fun ro f args h v h' hr => ?_, fun ro f args h v h' hr => ?_⟩
  · obtain ⟨n, hn⟩ := callF_ex hr
    exact (lvl_ok hm hF hSW hS n).1 _ _ _ _ _ _ hn
  · obtain ⟨n, hn⟩ := callF_ex hr
    exact (lvl_ok hm hF hSW hS n).2.1 _ _ _ _ _ _ hn
end
end Go.Proofs.Bb
