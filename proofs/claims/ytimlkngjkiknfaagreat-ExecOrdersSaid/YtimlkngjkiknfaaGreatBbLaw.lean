/- A law's frame: what a call leaves of its arguments, where it turns no old memory. -/
import Derived.Test.YtimlkngjkiknfaaGreatBbLim
import Derived.ProofKit
import Derived.WideKeyArgs
import Derived.OpenShut
set_option linter.unusedSimpArgs false
set_option linter.unusedVariables false
namespace Go.Proofs.Bb
open Go Go.ChangeShapes Go.WideShapes Go.RowKit Go

/-- All old memory is as it was. -/
structure Old (W W' : World) : Prop where
  heap : ∀ i, i < W.heap.size → W'.heap[i]? = W.heap[i]?
  os : W'.os = W.os
  output : W'.output = W.output
  size : W.heap.size ≤ W'.heap.size

theorem Old.sameAt {W W' : World} (h : Old W W') {p : MemPlace} (hp : p.block < W.heap.size) : W.sameAt W' p := by
  cases p with
  | cell b o =>
    show W'.cell? _ = W.cell? _
    have := h.heap b hp
    simp only [World.cell?, this]
  | map b => exact h.heap b hp

theorem Old.kept {W W' : World} (h : Old W W') (may : MemPlace → Prop) : W.keptBut W' may :=
  World.keptBut_mono (may := fun _ => False) (fun _ h => h.elim) (by
    have hr := World.keptBut_refl W (fun _ => False)
    refine ⟨h.os, h.output, fun i hi => ?_⟩
    have := hr.2.2 i hi
    rw [h.heap i hi]
    exact this)

section
variable {H : Type} {enc : TypeId × Value → H} {P : Program}

theorem trodAll_stays (hl : laidOutB P = true) {W W' : World} (h : Old W W') {sp' : Nat → Bool} : ∀ {ts : List TypeId} {vs : List Value} {ds : List (DataW H)} {ps : List MemPlace}, (∀ t, t ∈ ts → P.readableRec t = true ∧ t < P.types.size) →
    DataW.TrodAll enc P W 0 (fun _ => true) true ts vs ds ps → (∀ p, p ∈ ps → sp' p.block = true) → DataW.TrodAll enc P W' 0 sp' true ts vs ds ps := by
  intro ts
  induction ts with
  | nil =>
    intro vs ds ps hr hT hs
    obtain ⟨rfl, rfl, rfl⟩ := trodAll_nil hT
    exact trodAll_mk0
  | cons t ts ih =>
    intro vs ds ps hr hT hs
    have hlt := DataW.TrodAll.lt hT
    obtain ⟨v, vs', d, ds', p, q, rfl, rfl, rfl, h1, h2⟩ := trodAll_cons hT
    obtain ⟨r1, r2⟩ := hr t (by simp)
    exact ⟨p, q, Go.WideElems.Trod_stays hl r1 r2 h1 (fun x hx => h.sameAt (hlt x (by simp [hx]))) (fun x hx => hs x (by simp [hx])), ih (fun t ht => hr t (by simp [ht])) h2 (fun x hx => hs x (by simp [hx])), rfl⟩

/-- The row's post, for a law that answers true. -/
theorem law_post {f : Func} {s : ChangeSpec} {W W' : World} {args : Array Value} {ds : List (DataW H)} {before : List MemPlace} {fresh : Bool} (hl : laidOutB P = true) (hvars : s.vars = []) (hrt : ∃ t, f.resultTypes = #[t] ∧ P.underlying t = some .bool)
    (hr : ∀ t, t ∈ f.params.toList → P.readableRec t = true ∧ t < P.types.size) (hW : DataW.Whole enc P f.params.toList s.vars false W args.toList ds [] before)
    (hres : (s.fn H (ds ++ [])).results = [.lit (.bool true)]) (hargs : (s.fn H (ds ++ [])).args = ds) (hvs : (s.fn H (ds ++ [])).vars = []) (h : Old W W') :
    s.post enc P f false fresh false false W args (.bool true) W' := by
  obtain ⟨t, ht, htb⟩ := hrt
  obtain ⟨p, q, hA, hV, hpq, hfz, hnd⟩ := hW
  have hq : q = [] := by
    rw [hvars] at hV
    exact (trodVars_none hV).2
  subst hq
  rw [List.append_nil] at hpq
  subst hpq
  have hlt := DataW.TrodAll.lt hA
  refine ⟨ds, [], before, [], before, [], ⟨before, [], hA, hV, by simp, hfz, hnd⟩, ?_, ?_, ?_, h.kept _, fun h => by cases h⟩
  · rw [hres, ht]
    exact trodAll_mk1 (shut_bool htb true)
  · rw [hargs]
    exact trodAll_stays hl h hr hA (fun x hx => by simpa using hlt x hx)
  · rw [hvs, hvars]; rfl
end

/-- A call of the abstract machine without objects, over arguments that are only read. -/
theorem law_calls {P : Program} {C : Orc} (hC : OrcOK P C) {f : FuncId} {args : List AV} {h' : List HB} (hr : C false f args [] = some (.bool true, h')) (ha : ∀ x, x ∈ args → D0 x) {W : World} {us : Array Value} (hs : us.size = args.length)
    (hu : ∀ (i : Nat) (x : AV) (u : Value), args[i]? = some x → us[i]? = some u → VR (dSt 0).sg ⟨fun _ => 0, imMax W⟩ W x u) :
    Calls P f us W (fun e W' => e = .returned (.bool true) ∧ Old W W') := by
  obtain ⟨_, hc⟩ := hC _ _ _ _ _ _ hr ha ⟨fun i b h => by simp at h, fun i es k h => by simp at h⟩
  have hcur : ∀ l b, (start args [] false).cur l ≠ some b := by
    intro l b hb
    obtain ⟨i, rfl, hi⟩ := start_cur hb
    simp at hi
  have hmap : ∀ (i : Nat) (es : List Ent) (c : Nat), (start args [] false).h[i]? ≠ some (.map es c) := by
    intro i es c hi
    simp [start] at hi
  have M0 : MR (start args [] false) ⟨fun _ => 0, imMax W⟩ W :=
    ⟨fun l b hb => absurd hb (hcur l b), fun l b hb => absurd hb (hcur l b), fun l b hb => absurd hb (hcur l b), fun l b hb => absurd hb (hcur l b), fun l b hb => absurd hb (hcur l b),
      fun l l' b b' hb => absurd hb (hcur l b), fun i es c hi => absurd hi (hmap i es c), fun i j es c es' c' hi => absurd hi (hmap i es c), fun r hr => hr⟩
  refine (hc ⟨fun _ => 0, imMax W⟩ W us M0 hs hu).mono (fun e W' he => ?_)
  cases e with
  | returned rv =>
    obtain ⟨cx', G, M', V⟩ := he
    refine ⟨?_, fun i hi => G.fr i hi ?_, G.os, G.output, G.size⟩
    · have : rv = .bool true := bool_inv V
      rw [this]
    · intro hm
      rcases hm with ⟨l, b, g1, _⟩ | ⟨i, es, c, g1, _⟩
      · exact hcur l b g1
      · exact hmap i es c g1
  | panicked c => exact he.elim
  | outgrown => exact he.elim

/-- A list of integers, as an argument. -/
def aInts (k : IntKind) (l : List Int) (tl : Option (List (List AV)) := none) : AV := .sl 1 (l.map fun n => [.int k n]) tl

theorem okWide_sl {P : Program} {W : World} {r : Reach} {b0 : Nat} {t e : TypeId} {v : Value} (ht : P.underlying t = some (.slice e)) (hok : Value.okWide P W r b0 t v) : ∃ a n c, v = .slice a n c := by
  unfold Value.okWide at hok
  simp only [ht] at hok
  unfold Cell.okWide at hok
  cases v <;> simp [Cell.ok, ht] at hok <;> exact ⟨_, _, _, rfl⟩

theorem im_of_cell {W : World} {r p : Nat} {v : Value} (h : cel W r p = some v) : imMax W r := by
  refine ⟨cel_lt h, ?_⟩
  unfold cel World.cell? at h
  split at h
  · rename_i c e f hh; exact ⟨c, e, f, hh⟩
  · cases h

theorem cellA_ints {k : IntKind} {l : List Int} {j q : Nat} {x : AV} (h : cellA (l.map fun n => [AV.int k n]) j q = some x) : q = 0 ∧ ∃ n, l[j]? = some n ∧ x = .int k n := by
  obtain ⟨cs, h1, h2⟩ := cellA_of h
  rw [List.getElem?_map] at h1
  simp only [Option.map_eq_some_iff] at h1
  obtain ⟨n, h3, rfl⟩ := h1
  cases q with
  | zero => simp at h2; exact ⟨rfl, n, h3, h2.symm⟩
  | succ q => simp at h2

theorem arg_ints {H : Type} {enc : TypeId × Value → H} {P : Program} {W : World} {t e : TypeId} {k : IntKind} {v : Value} {d : DataW H} {ps : List MemPlace} (ht : P.underlying t = some (.slice e)) (he : P.underlying e = some (.int k)) (hc : P.cellsOf e = 1)
    (hok : Value.okWide P W .any 0 t v) (h : DataW.Trod enc P W 0 (fun _ => true) true t v d ps) : ∃ l : List Int, (∀ n, n ∈ l → (Lit.int k n).wf = true) ∧ VR (dSt 0).sg ⟨fun _ => 0, imMax W⟩ W (aInts k l) v := by
  obtain ⟨a, n, c, rfl⟩ := okWide_sl ht hok
  obtain ⟨fuel, hf⟩ := h
  rcases open_ints ht he hc hf with ⟨h1, _⟩ | ⟨ad, len, cap, zs, h1, _, hlc, _, hzl, _, hcell, hwf⟩
  · simp [Value.cells] at h1
    obtain ⟨rfl, rfl, rfl⟩ := h1
    refine ⟨[], fun n h => by simp at h, .sl 0 0 (fun _ _ => .nilIface) rfl (Nat.le_refl _) (fun t h => by cases h) (fun h0 => by simp at h0) (fun cs h => by simp at h) (fun j q x hx => by simp [cellA] at hx) (fun j q x hx => by simp [cellA] at hx) (fun j q x hx => by simp [cellA] at hx)⟩
  · simp [Value.cells] at h1
    obtain ⟨rfl, rfl, rfl⟩ := h1
    simp only [if_true] at hzl
    refine ⟨zs.take n, fun m hm => hwf m (List.mem_of_mem_take hm), ?_⟩
    rcases Nat.eq_zero_or_pos zs.length with h0 | h0
    · have hn : n = 0 := by omega
      subst hn
      refine .sl 0 0 (fun _ _ => .nilIface) (by simp) hlc (fun t h => by cases h) (fun h0 => by simp at h0) (fun cs h => by simp at h) (fun j q x hx => by simp [cellA] at hx) (fun j q x hx => by simp [cellA] at hx) (fun j q x hx => by simp [cellA] at hx)
    · obtain ⟨b, off, rfl, hat⟩ := ints_at hcell h0
      have key : ∀ j q x, cellA ((zs.take n).map fun m => [AV.int k m]) j q = some x → q = 0 ∧ j < zs.length ∧ x = .int k (zs.getD j 0) := by
        intro j q x hx
        obtain ⟨hq, m, hm, rfl⟩ := cellA_ints hx
        have hj : j < n := by have := (List.getElem?_eq_some_iff.1 hm).1; simp at this; omega
        rw [List.getElem?_take_of_lt hj] at hm
        have hjl := (List.getElem?_eq_some_iff.1 hm).1
        exact ⟨hq, hjl, by rw [List.getD_eq_getElem?_getD, hm]; rfl⟩
      refine .sl b off (fun j q => .int k (zs.getD j 0)) (by simp; omega) hlc (fun t h => by cases h) (fun h1 => ⟨rfl, im_of_cell (p := off + 0) (hat 0 h0)⟩) (fun cs hcs => ?_) (fun j q x hx => ?_) (fun j q x hx => ?_) (fun j q x hx => rfl)
      · simp only [Option.getD_none, List.append_nil, List.mem_map] at hcs
        obtain ⟨m, _, rfl⟩ := hcs
        rfl
      · simp only [Option.getD_none, List.append_nil] at hx
        obtain ⟨rfl, hj, _⟩ := key j q x hx
        show cel W b (off + (j * 1 + 0)) = _
        rw [Nat.mul_one, Nat.add_zero]
        exact hat j hj
      · simp only [Option.getD_none, List.append_nil] at hx
        obtain ⟨rfl, hj, rfl⟩ := key j q x hx
        exact .int _ _

theorem aInts_d0 {k : IntKind} {l : List Int} : D0 (aInts k l) :=
  .one (.sl (fun cs hcs x hx => by
    simp only [Option.getD_none, List.append_nil, List.mem_map] at hcs
    obtain ⟨m, _, rfl⟩ := hcs
    simp at hx; subst hx; exact .int _ _))
end Go.Proofs.Bb
