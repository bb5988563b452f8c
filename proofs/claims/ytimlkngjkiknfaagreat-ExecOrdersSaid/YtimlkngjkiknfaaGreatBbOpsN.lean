/- Maps. -/
import Derived.Test.YtimlkngjkiknfaaGreatBbOpsM
import Derived.MapKept
set_option linter.unusedSimpArgs false
set_option linter.unusedVariables false
namespace Go.Proofs.Bb
open Go

section
variable {P : Program} {s : St} {cx : Cx} {w : World} {a : Act} {o : Oper} {Q : Exit → Act → World → Prop} {C : Orc} {ro : Bool} {d : Nat} {v : AV} {s1 : St}

/-- Entries as Go has them. -/
def ER (σ : Sg) (cx : Cx) (w : World) (es : List Ent) (es' : Array MapEntry) : Prop :=
  es'.size = es.length ∧ ∀ (j : Nat) (e : Ent) (e' : MapEntry), es[j]? = some e → es'[j]? = some e' → VR σ cx w e.key e'.key ∧ VR σ cx w e.val e'.val ∧ e'.born = e.born

theorem ER.ext {σ σ' : Sg} {cx cx' : Cx} {w w' : World} {es : List Ent} {es' : Array MapEntry} (h : ER σ cx w es es') (e : Ext σ cx w σ' cx' w') : ER σ' cx' w' es es' :=
  ⟨h.1, fun j a b ha hb => by obtain ⟨k1, k2, k3⟩ := h.2 j a b ha hb; exact ⟨k1.ext e, k2.ext e, k3⟩⟩

/-- The world with a map's object turned. -/
def setMap (w : World) (r : Nat) (o : Obj) : World := { w with heap := w.heap.setIfInBounds r o }

theorem map_turn (M : MR s cx w) {r : Nat} {es es2 : List Ent} {c c2 : Nat} {es2' : Array MapEntry} (hr : s.h[r]? = some (.map es c)) (hro : s.ro = false) (hv : ER s.sg cx w es2 es2') :
    Go1 s cx w { s with h := s.h.set r (.map es2 c2) } cx (setMap w (cx.lm (.h r)) (.map es2' c2)) ∧ MR { s with h := s.h.set r (.map es2 c2) } cx (setMap w (cx.lm (.h r)) (.map es2' c2)) := by
  obtain ⟨es0, m1, m2, m3⟩ := M.maps r es c hr
  obtain ⟨h1, h2⟩ := MapKept.heap_set (o' := .map es2' c2) m1
  have hlt : r < s.h.length := (List.getElem?_eq_some_iff.1 hr).1
  have hcell : ∀ q p u, cel w q p = some u → q ≠ cx.lm (.h r) := fun q p u hu e => by
    subst e
    simp [cel, World.cell?, m1] at hu
  have hkind : ∀ q, (∃ c e f, w.heap[q]? = some (.cells c e f)) → q ≠ cx.lm (.h r) := fun q ⟨c, e, f, hq⟩ e' => by
    rw [e', m1] at hq; cases hq
  have hcel : ∀ q p u, cel w q p = some u → cel (setMap w (cx.lm (.h r)) (.map es2' c2)) q p = some u := fun q p u hu => by
    rw [cel_of_heap (h2 q (hcell q p u hu))]; exact hu
  have hroom : ∀ q n, Room w q n → Room (setMap w (cx.lm (.h r)) (.map es2' c2)) q n := fun q n hq => hq.of_heap (h2 q (hkind q hq.1))
  have hcur : ∀ l, St.cur { s with h := s.h.set r (.map es2 c2) } l = s.cur l := fun l => by
    cases l with
    | h i =>
      simp only [St.cur, List.getElem?_set]
      by_cases e : r = i
      · subst e; rw [if_pos rfl, if_pos hlt, hr]; rfl
      · rw [if_neg e]
    | v i => rfl
    | a i => rfl
  have hgen : ∀ l, St.gen { s with h := s.h.set r (.map es2 c2) } l = s.gen l := fun l => by cases l <;> rfl
  have hE : Ext s.sg cx w (St.sg { s with h := s.h.set r (.map es2 c2) }) cx (setMap w (cx.lm (.h r)) (.map es2' c2)) := by
    refine ⟨fun l => by show s.gen l ≤ _; rw [← hgen]; exact Nat.le_refl _, by show s.h.length ≤ _; simp [St.sg], fun l _ _ bi hb => ⟨?_, rfl⟩, fun _ _ => rfl, fun _ h => h, fun q _ p u hu => hcel q p u hu, hroom⟩
    obtain ⟨b, k1, rfl⟩ := sg_b hb
    rw [hcur] at k1
    exact sg_of k1
  have hmap : ∀ (i : Nat) (es3 : List Ent) (k : Nat), (s.h.set r (.map es2 c2))[i]? = some (HB.map es3 k) → (i = r ∧ es3 = es2 ∧ k = c2) ∨ (i ≠ r ∧ s.h[i]? = some (HB.map es3 k)) := fun i es3 k h => by
    rw [List.getElem?_set] at h
    by_cases e : r = i
    · subst e; rw [if_pos rfl, if_pos hlt] at h; cases h; exact .inl ⟨rfl, rfl, rfl⟩
    · rw [if_neg e] at h; exact .inr ⟨fun e' => e e'.symm, h⟩
  refine ⟨⟨hE, fun q hq hm => h2 q (fun e => hm (.inr ⟨r, es, c, hr, e.symm, hro⟩)), fun q hq => .inl ?_, fun _ h => .inl h, rfl, rfl, rfl, by simp [setMap]⟩, ?_⟩
  · rcases hq with ⟨l, b, k1, k2, k3, k4, k5⟩ | ⟨i, es3, k, k1, k2, _⟩
    · rw [hcur] at k1; exact .inl ⟨l, b, k1, k2, k3, k4, k5⟩
    · rcases hmap i es3 k k1 with ⟨rfl, _, _⟩ | ⟨_, k3⟩
      · exact .inr ⟨i, es, c, hr, k2, hro⟩
      · exact .inr ⟨i, es3, k, k3, k2, hro⟩
  · refine ⟨fun l b h j q x hx => ?_, fun l b h => M.zs l b (by rw [hcur] at h; exact h), fun l b h q1 q2 => ?_, fun l b h => M.fz l b (by rw [hcur] at h; exact h), fun l b h => M.emp l b (by rw [hcur] at h; exact h),
      fun l l' b b' h h' => M.dis l l' b b' (by rw [hcur] at h; exact h) (by rw [hcur] at h'; exact h'), fun i es3 k h => ?_, fun i j es3 k es3' k' g1 g2 hij => ?_, fun q hq => ?_⟩
    · rw [hcur] at h
      obtain ⟨u, k1, k2, k3⟩ := M.live l b h j q x hx
      exact ⟨u, hcel _ _ _ k1, k2.ext hE, k3⟩
    · rw [hcur] at h
      obtain ⟨k1, k2⟩ := M.mu l b h q1 q2
      exact ⟨k1, hroom _ _ k2⟩
    · rcases hmap i es3 k h with ⟨rfl, rfl, rfl⟩ | ⟨k1, k2⟩
      · exact ⟨es2', h1, (hv.ext hE).1, (hv.ext hE).2⟩
      · obtain ⟨es4, g1, g2, g3⟩ := M.maps i es3 k k2
        refine ⟨es4, by rw [show (setMap w (cx.lm (.h r)) (.map es2' c2)).heap[cx.lm (.h i)]? = w.heap[cx.lm (.h i)]? from h2 _ (M.mdis i r es3 k es c k2 hr k1)]; exact g1, g2, fun j a b ha hb => ?_⟩
        obtain ⟨x1, x2, x3⟩ := g3 j a b ha hb
        exact ⟨x1.ext hE, x2.ext hE, x3⟩
    · have f1 : ∃ e k, s.h[i]? = some (HB.map e k) := by
        rcases hmap i es3 k g1 with ⟨rfl, _, _⟩ | ⟨_, k2⟩
        · exact ⟨_, _, hr⟩
        · exact ⟨_, _, k2⟩
      have f2 : ∃ e k, s.h[j]? = some (HB.map e k) := by
        rcases hmap j es3' k' g2 with ⟨rfl, _, _⟩ | ⟨_, k2⟩
        · exact ⟨_, _, hr⟩
        · exact ⟨_, _, k2⟩
      obtain ⟨_, _, f1⟩ := f1
      obtain ⟨_, _, f2⟩ := f2
      exact M.mdis i j _ _ _ _ f1 f2 hij
    · obtain ⟨k1, k2⟩ := M.ims q hq
      refine ⟨by simp [setMap]; exact k1, ?_⟩
      rw [show (setMap w (cx.lm (.h r)) (.map es2' c2)).heap[q]? = w.heap[q]? from h2 q (hkind q k2)]; exact k2

/-- A new map. -/
theorem map_new (M : MR s cx w) : ∃ cx', Go1 s cx w { s with h := s.h ++ [.map [] 0] } cx' (w.alloc (.map #[] 0)) ∧ MR { s with h := s.h ++ [.map [] 0] } cx' (w.alloc (.map #[] 0)) ∧ cx'.lm (.h s.h.length) = w.heap.size := by
  let cx' : Cx := ⟨updL cx.lm (.h s.h.length) w.heap.size, cx.im⟩
  obtain ⟨hn, hh⟩ := MapKept.heap_alloc w (.map #[] 0)
  have hcur : ∀ l b, St.cur { s with h := s.h ++ [.map [] 0] } l = some b → s.cur l = some b ∧ l ≠ .h s.h.length := fun l b h => by
    cases l with
    | h i =>
      rcases Nat.lt_trichotomy i s.h.length with hj | hj | hj
      · exact ⟨by simpa [St.cur, List.getElem?_append_left hj] using h, by simp; omega⟩
      · subst hj; simp [St.cur, blkAt] at h
      · simp only [St.cur, List.getElem?_append_right (Nat.le_of_lt hj)] at h
        rw [List.getElem?_eq_none (by simp; omega)] at h; simp [blkAt] at h
    | v i => exact ⟨h, by simp⟩
    | a i => exact ⟨h, by simp⟩
  have hmap : ∀ (i : Nat) (es : List Ent) (k : Nat), (s.h ++ [.map [] 0])[i]? = some (HB.map es k) → (i = s.h.length ∧ es = [] ∧ k = 0) ∨ (i < s.h.length ∧ s.h[i]? = some (HB.map es k)) := fun i es k h => by
    rcases Nat.lt_trichotomy i s.h.length with hj | hj | hj
    · exact .inr ⟨hj, by simpa [List.getElem?_append_left hj] using h⟩
    · subst hj; simp at h; exact .inl ⟨rfl, h.1, h.2.symm⟩
    · simp only [List.getElem?_append_right (Nat.le_of_lt hj)] at h
      rw [List.getElem?_eq_none (by simp; omega)] at h; simp at h
  have hgen : ∀ l, St.gen { s with h := s.h ++ [.map [] 0] } l = s.gen l := fun l => by cases l <;> rfl
  have hE : Ext s.sg cx w (St.sg { s with h := s.h ++ [.map [] 0] }) cx' (w.alloc (.map #[] 0)) :=
    ext_grow (fun l => by rw [hgen]; exact Nat.le_refl _) (by simp) (fun l _ _ b h => ⟨⟨b, (hcur l b h).1, rfl⟩, updL_ne _ _ (hcur l b h).2⟩) (fun i hi => updL_ne _ _ (by simp; omega)) (fun _ h => h) hh
  have hml : ∀ (i : Nat) (es : List Ent) (k : Nat), s.h[i]? = some (HB.map es k) → cx.lm (.h i) < w.heap.size := fun i es k h => by
    obtain ⟨es', k1, _⟩ := M.maps i es k h
    exact (Array.getElem?_eq_some_iff.1 k1).1
  have hlm : ∀ i, i < s.h.length → cx'.lm (.h i) = cx.lm (.h i) := fun i hi => updL_ne _ _ (by simp; omega)
  refine ⟨cx', ⟨hE, fun q hq _ => hh q hq, fun q hq => ?_, fun _ h => .inl h, rfl, rfl, rfl, by simp⟩, ?_, updL_eq _ _ _⟩
  · rcases hq with ⟨l, b, k1, k2, k3, k4, k5⟩ | ⟨i, es, k, k1, k2, k5⟩
    · obtain ⟨g1, g2⟩ := hcur l b k1
      exact .inl (.inl ⟨l, b, g1, k2, k3, by rw [← k4]; exact (updL_ne _ _ g2).symm, k5⟩)
    · rcases hmap i es k k1 with ⟨rfl, _, _⟩ | ⟨g1, g2⟩
      · right; rw [← k2]; exact Nat.le_of_eq (updL_eq _ _ _).symm
      · exact .inl (.inr ⟨i, es, k, g2, by rw [← k2, hlm i g1], k5⟩)
  · have hN : cx'.lm (.h s.h.length) = w.heap.size := updL_eq _ _ _
    have hlt : ∀ l b, s.cur l = some b → l ≠ .h s.h.length → cx'.lm l = cx.lm l := fun l b h hne => updL_ne _ _ hne
    refine ⟨fun l b h j q x hx => ?_, fun l b h => M.zs l b (hcur l b h).1, fun l b h q1 q2 => ?_, fun l b h q1 q2 => ?_, fun l b h => M.emp l b (hcur l b h).1,
      fun l l' b b' h h' => ?_, fun i es3 k h => ?_, fun i j es3 k es3' k' g1 g2 hij => ?_, fun q hq => ?_⟩
    · obtain ⟨g1, g2⟩ := hcur l b h
      obtain ⟨u, k1, k2, k3⟩ := M.live l b g1 j q x hx
      exact ⟨u, by rw [hlt l b g1 g2, cel_of_heap (hh _ (cel_lt k1))]; exact k1, k2.ext hE, k3⟩
    · obtain ⟨g1, g2⟩ := hcur l b h
      obtain ⟨k1, k2⟩ := M.mu l b g1 q1 q2
      rw [hlt l b g1 g2]
      exact ⟨k1, k2.of_heap (hh _ k2.lt)⟩
    · obtain ⟨g1, g2⟩ := hcur l b h
      rw [hlt l b g1 g2]
      exact M.fz l b g1 q1 q2
    · obtain ⟨g1, g2⟩ := hcur l b h
      obtain ⟨g3, g4⟩ := hcur l' b' h'
      rw [hlt l b g1 g2, hlt l' b' g3 g4]
      exact M.dis l l' b b' g1 g3
    · rcases hmap i es3 k h with ⟨rfl, rfl, rfl⟩ | ⟨k1, k2⟩
      · exact ⟨#[], by rw [hN]; exact hn, rfl, fun j a b ha => by simp at ha⟩
      · obtain ⟨es4, g1, g2, g3⟩ := M.maps i es3 k k2
        refine ⟨es4, by rw [hlm i k1, hh _ (hml i _ _ k2)]; exact g1, g2, fun j a b ha hb => ?_⟩
        obtain ⟨x1, x2, x3⟩ := g3 j a b ha hb
        exact ⟨x1.ext hE, x2.ext hE, x3⟩
    · rcases hmap i es3 k g1 with ⟨rfl, _, _⟩ | ⟨f1, f2⟩
      · rcases hmap j es3' k' g2 with ⟨rfl, _, _⟩ | ⟨f3, f4⟩
        · exact absurd rfl hij
        · rw [hN, hlm j f3]
          have := hml j _ _ f4; omega
      · rcases hmap j es3' k' g2 with ⟨rfl, _, _⟩ | ⟨f3, f4⟩
        · rw [hN, hlm i f1]
          have := hml i _ _ f2; omega
        · rw [hlm i f1, hlm j f3]
          exact M.mdis i j _ _ _ _ f2 f4 hij
    · obtain ⟨k1, c, e, f, k2⟩ := M.ims q hq
      exact ⟨by simp; omega, c, e, f, by rw [hh q k1]; exact k2⟩

/-! ### Keys -/
theorem gK_i {u v : Value} {r : Bool} (h : gK .i u v = some r) : ∃ k a b, u = .int k a ∧ v = .int k b ∧ (a == b) = r := by
  unfold gK at h
  split at h
  · rename_i heq; cases heq
  · split at h
    · rename_i e; subst e; exact ⟨_, _, _, rfl, rfl, by simpa using h⟩
    · cases h
  · rename_i heq; cases heq
  · cases h

theorem gKs_int : ∀ (n : Nat) (us vs : List Value), gKs (List.replicate n .i) us vs = some true → us = vs ∧ ∀ u, u ∈ us → ∃ k m, u = .int k m := by
  intro n
  induction n with
  | zero => intro us vs h; cases us <;> cases vs <;> simp [gKs] at h ⊢
  | succ n ih =>
    intro us vs h
    cases us with
    | nil => simp [List.replicate_succ, gKs] at h
    | cons u us =>
      cases vs with
      | nil => simp [List.replicate_succ, gKs] at h
      | cons v vs =>
        simp only [List.replicate_succ, gKs] at h
        split at h
        · rename_i hk
          obtain ⟨rfl, h2⟩ := ih us vs h
          unfold gK at hk
          split at hk
          · rename_i heq; cases heq
          · split at hk
            · rename_i e; subst e
              simp at hk; subst hk
              exact ⟨rfl, fun u hu => by rcases List.mem_cons.1 hu with rfl | hu; exact ⟨_, _, rfl⟩; exact h2 u hu⟩
            · cases hk
          · rename_i heq; cases heq
          · cases hk
        · cases h
        · cases h

theorem sameBits_ints (us : List Value) (h : ∀ u, u ∈ us → ∃ k m, u = .int k m) (n : Nat) : Instr.sameBits (n + 1) (.agg us.toArray) (.agg us.toArray) = true := by
  simp only [Instr.sameBits, beq_self_eq_true, Bool.true_and]
  rw [List.all_eq_true]
  intro x hx
  obtain ⟨i, hi⟩ := List.mem_iff_getElem?.1 hx
  rw [List.getElem?_zip_eq_some] at hi
  obtain ⟨h1, h2⟩ := hi
  have : x.1 = x.2 := by rw [h1] at h2; exact Option.some.inj h2
  obtain ⟨k, m, e⟩ := h x.1 (List.mem_of_getElem? (by simpa using h1))
  obtain ⟨x1, x2⟩ := x
  simp only at this e
  subst this; subst e
  simp [Instr.sameBits]

/-- What a key's type is. -/
theorem keyOK_eq {kt : TypeId} {ag : Bool} {ks : List Kd} (h : keyOK P kt ag ks = true) : eqOK P kt ag ks = true ∧ ks = List.replicate ks.length .i ∧
    ((ag = false ∧ ∃ k, P.underlying kt = some (.int k)) ∨ (ag = true ∧ ∃ fs, P.underlying kt = some (.struct fs) ∧ ∀ f, f ∈ fs.toList → ∃ k, P.underlying f.type = some (.int k))) := by
  unfold keyOK at h
  simp only [Bool.and_eq_true] at h
  obtain ⟨⟨h1, h2⟩, h3⟩ := h
  refine ⟨h1, ?_, ?_⟩
  · apply List.eq_replicate_iff.2 ⟨rfl, fun k hk => ?_⟩
    have := List.all_eq_true.1 h2 k hk
    simpa using this
  · split at h3
    · rename_i k hk
      exact .inl ⟨by simpa using h3, k, hk⟩
    · rename_i fs hfs
      simp only [Bool.and_eq_true] at h3
      refine .inr ⟨h3.1, fs, hfs, fun f hf => ?_⟩
      have := List.all_eq_true.1 h3.2 f hf
      split at this
      · rename_i k hk; exact ⟨k, hk⟩
      · cases this
    · cases h3

theorem fld_off {rec : TypeId → Option (List Kd)} : ∀ (fs : List Field) (k : Nat) (ks : List Kd), fldKs P rec fs k = some ks → (∀ f, f ∈ fs → ∃ k, P.underlying f.type = some (.int k)) → ∀ f, f ∈ fs → f.offset < k + ks.length := by
  intro fs
  induction fs with
  | nil => intro k ks h hi f hf; simp at hf
  | cons g fs ih =>
    intro k ks h hi f hf
    simp only [fldKs] at h
    split at h
    · rename_i hg
      split at h
      · rename_i ks1 hr
        split at h
        · rename_i hsz
          split at h
          · rename_i ls hl
            simp only [Option.some.injEq] at h
            subst h
            have h1 : ks1.length = 1 := by
              obtain ⟨k0, hk0⟩ := hi g (by simp)
              rcases hsz with ⟨_, h⟩ | h
              · exact h
              · simp [nOf, isA, hk0] at h
            rw [List.length_append]
            rcases List.mem_cons.1 hf with rfl | hf
            · omega
            · have := ih _ _ hl (fun f hf => hi f (by simp [hf])) f hf
              omega
          · cases h
        · cases h
      · cases h
    · cases h

/-- A key may be looked up. -/
theorem check_ok {kt : TypeId} {ag : Bool} {ks : List Kd} {x : AV} {u : Value} (h : keyOK P kt ag ks = true) (hx : VR s.sg cx w x u) (hk : keyA ag ks x = true) (em : Bool) : (Instr.checkKey em 10000 kt u).run P w = .ok () w := by
  obtain ⟨h1, h2, h3⟩ := keyOK_eq h
  have hint : ∀ (n : Nat) (t : TypeId) (k0 : IntKind) (v : Value), P.underlying t = some (.int k0) → (Instr.checkKey em (n + 1) t v).run P w = .ok () w := by
    intro n t k0 v ht
    unfold Instr.checkKey
    simp only [Sem.run_bind, run_underlying ht, Result.andThen]
    cases v <;> simp
  rcases h3 with ⟨rfl, k, hu⟩ | ⟨rfl, fs, hu, hi⟩
  · exact hint 9999 kt k u hu
  · unfold keyA at hk
    split at hk
    · rename_i cs
      simp only [Bool.and_eq_true, decide_eq_true_eq] at hk
      obtain ⟨us, rfl, a1, a2, a3⟩ := agg_inv hx
      unfold eqOK at h1
      simp only [Bool.and_eq_true, decide_eq_true_eq] at h1
      have hks := h1.1.2
      simp only [cellKs, hu] at hks
      split at hks
      · have hoff := fld_off fs.toList 0 ks hks hi
        have hsz : us.size = ks.length := a1.trans hk.1
        show (Instr.checkKey em (9999 + 1) kt (.agg us)).run P w = .ok () w
        unfold Instr.checkKey
        simp only [Sem.run_bind, run_underlying hu, Result.andThen]
        rw [← Array.forIn_toList]
        have hm : ∀ f, f ∈ fs.toList → (∃ k, P.underlying f.type = some (.int k)) ∧ f.offset < us.size := fun f hf => ⟨hi f hf, by have := hoff f hf; omega⟩
        clear hks hu
        generalize fs.toList = fl at hm
        induction fl with
        | nil => simp
        | cons f fl ih =>
          obtain ⟨⟨k0, hk0⟩, hlt⟩ := hm f (by simp)
          have hp : (part f.type us f.offset).run P w = .ok (us[f.offset]'hlt) w := part1 (by simp [nOf, isA, hk0]) (Array.getElem?_eq_getElem hlt)
          have hc := hint 9998 f.type k0 (us[f.offset]'hlt) hk0
          have ih' := ih (fun g hg => hm g (by simp [hg]))
          simp only [List.forIn_cons, Sem.run_bind]
          by_cases hn : f.name ≠ "_"
          · rw [if_pos hn]
            simp only [Sem.run_bind, hp, hc, Result.andThen, Sem.run_pure]
            exact ih'
          · rw [if_neg hn]
            simp only [Result.andThen, Sem.run_pure]
            exact ih'
      · cases hks
    · rename_i heq; cases heq
    · cases hk

theorem find_ok {kt : TypeId} {ag : Bool} {ks : List Kd} {x : AV} {u : Value} (h : keyOK P kt ag ks = true) (hx : VR s.sg cx w x u) :
    ∀ (es : List Ent) (es' : List MapEntry) (i : Nat) (res : Option (Nat × Ent)), es'.length = es.length → (∀ (j : Nat) (e : Ent) (e' : MapEntry), es[j]? = some e → es'[j]? = some e' → VR s.sg cx w e.key e'.key) →
      findE ag ks x es i = some res → ∃ res', (Instr.findAsking kt u es' i).run P w = .ok res' w ∧ (∀ k0, P.underlying kt = some (.int k0) → Instr.findNow (.int k0) u es' i = some res') ∧
        (match res with
          | none => res' = none
          | some (j, e) => ∃ m e', j = i + m ∧ es[m]? = some e ∧ es'[m]? = some e' ∧ res' = some (j, e'.val) ∧ eqV ag ks x e.key = some true) := by
  obtain ⟨h1, h2, h3⟩ := keyOK_eq h
  intro es
  induction es with
  | nil =>
    intro es' i res hl hv hf
    cases es' with
    | nil =>
      simp only [findE, Option.some.injEq] at hf
      subst hf
      exact ⟨none, by simp [Instr.findAsking], fun k0 _ => by simp [Instr.findNow], rfl⟩
    | cons _ _ => simp at hl
  | cons e es ih =>
    intro es' i res hl hv hf
    cases es' with
    | nil => simp at hl
    | cons e' es' =>
      have hv0 := hv 0 e e' rfl rfl
      simp only [findE] at hf
      have hnow : ∀ r k0, eqV ag ks x e.key = some r → P.underlying kt = some (.int k0) → Instr.sameNow (.int k0) u e'.key = some r := by
        intro r k0 hr hk0
        obtain ⟨_, q2, q3⟩ := equal_ok (P := P) (w := w) h1 hx hv0 hr
        have hag : ag = false := by
          rcases h3 with ⟨h, _⟩ | ⟨_, fs, hfs, _⟩
          · exact h
          · rw [hk0] at hfs; cases hfs
        obtain ⟨k, hk, hg⟩ := q3 hag
        rw [hk] at h2
        have : k = .i := by simpa using h2
        subst this
        obtain ⟨k, a, b, e1, e2, e3⟩ := gK_i hg
        rw [e1, e2, ← e3]
        simp [Instr.sameNow]
      split at hf
      · rename_i hr
        simp only [Option.some.injEq] at hf
        subst hf
        obtain ⟨q1, _, _⟩ := equal_ok (P := P) (w := w) h1 hx hv0 hr
        refine ⟨some (i, e'.val), by simp only [Instr.findAsking, Sem.run_bind, q1, Result.andThen_ok, if_true, Sem.run_pure], fun k0 hk0 => by simp only [Instr.findNow, hnow _ k0 hr hk0], 0, e', rfl, rfl, rfl, rfl, hr⟩
      · rename_i hr
        obtain ⟨q1, _, _⟩ := equal_ok (P := P) (w := w) h1 hx hv0 hr
        obtain ⟨res', g1, g2, g3⟩ := ih es' (i + 1) res (by simpa using hl) (fun j a b ha hb => hv (j + 1) a b ha hb) hf
        refine ⟨res', by simp only [Instr.findAsking, Sem.run_bind, q1, Result.andThen_ok, Bool.false_eq_true, if_false, g1], fun k0 hk0 => by simp only [Instr.findNow, hnow _ k0 hr hk0, g2 k0 hk0], ?_⟩
        cases res with
        | none => exact g3
        | some p =>
          obtain ⟨j, e2⟩ := p
          obtain ⟨m, e2', k1, k2, k3, k4, k5⟩ := g3
          exact ⟨m + 1, e2', by omega, k2, k3, k4, k5⟩
      · cases hf

/-- What findKey comes to. -/
theorem findKey_ok {kt : TypeId} {ag : Bool} {ks : List Kd} {x : AV} {u : Value} {es : List Ent} {es' : Array MapEntry} {res : Option (Nat × Ent)} (h : keyOK P kt ag ks = true) (hx : VR s.sg cx w x u) (hE : ER s.sg cx w es es')
    (hf : findK ag ks x es = some res) : (∀ em, (Instr.checkKey em 10000 kt u).run P w = .ok () w) ∧
      (match res with
        | none => (Instr.findKey kt u es'.toList).run P w = .ok none w
        | some (j, e) => ∃ e', es[j]? = some e ∧ es'[j]? = some e' ∧ (Instr.findKey kt u es'.toList).run P w = .ok (some (j, e'.val)) w ∧ e'.key = u ∧ Instr.sameBits 10000 u u = true) := by
  unfold findK at hf
  split at hf
  · rename_i hk
    obtain ⟨h1, h2, h3⟩ := keyOK_eq h
    obtain ⟨res', g1, g2, g3⟩ := find_ok h hx es es'.toList 0 res (by simpa using hE.1) (fun j e e' he he' => (hE.2 j e e' he (by simpa using he')).1) hf
    have hrun : (Instr.findKey kt u es'.toList).run P w = .ok res' w := by
      rcases h3 with ⟨_, k, hu⟩ | ⟨_, fs, hu, _⟩
      · simp [Instr.findKey, run_underlying hu, g2 k hu]
      · cases hes : es'.toList with
        | nil =>
          rw [hes] at g1
          simp only [Instr.findAsking, Sem.run_pure] at g1
          cases g1
          simp [Instr.findKey, run_underlying hu, Instr.findNow]
        | cons e0 l =>
          rw [hes] at g1
          have : Instr.findNow (.struct fs) u (e0 :: l) 0 = none := by simp [Instr.findNow, Instr.sameNow]
          simp [Instr.findKey, run_underlying hu, this, g1]
    refine ⟨check_ok h hx hk, ?_⟩
    cases res with
    | none =>
      have g3 : res' = none := g3
      rw [g3] at hrun; exact hrun
    | some p =>
      obtain ⟨j, e⟩ := p
      obtain ⟨m, e', k1, k2, k3, k4, k5⟩ := g3
      have : j = m := by omega
      subst this
      have k3' : es'[j]? = some e' := by simpa using k3
      obtain ⟨q1, q2, q3⟩ := equal_ok (P := P) (w := w) h1 hx (hE.2 j e e' k2 k3').1 k5
      have hkey : e'.key = u ∧ Instr.sameBits 10000 u u = true := by
        rcases h3 with ⟨hag, _⟩ | ⟨hag, _⟩
        · obtain ⟨k, hk1, hg⟩ := q3 hag
          rw [hk1] at h2
          have : k = .i := by simpa using h2
          subst this
          have hg' : gKs (List.replicate 1 .i) [u] [e'.key] = some true := by simp [List.replicate_succ, gKs, hg]
          obtain ⟨r1, r2⟩ := gKs_int 1 [u] [e'.key] hg'
          obtain ⟨k, m, e0⟩ := r2 u (by simp)
          simp only [List.cons.injEq, and_true] at r1
          exact ⟨r1.symm, by rw [e0]; simp [Instr.sameBits]⟩
        · obtain ⟨us, vs, e1, e2, hg, l1, l2⟩ := q2 hag
          rw [h2] at hg
          obtain ⟨r1, r2⟩ := gKs_int _ _ _ hg
          have : us = vs := by apply Array.ext'; exact r1
          subst this
          refine ⟨by rw [e1, e2], ?_⟩
          rw [e1]
          have := sameBits_ints us.toList r2 9999
          simpa using this
      exact ⟨e', k2, k3', by rw [k4] at hrun; exact hrun, hkey⟩
  · cases hf

end
end Go.Proofs.Bb
