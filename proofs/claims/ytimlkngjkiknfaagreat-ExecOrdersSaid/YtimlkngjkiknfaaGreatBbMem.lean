/- How the relation is kept where memory turns: a new block, a store, a freezing. -/
import Derived.Test.YtimlkngjkiknfaaGreatBbRel
namespace Go.Proofs.Bb
open Go

theorem sg_b {s : St} {l : Loc} {bi : BI} (h : s.sg.b l = some bi) : ∃ b, s.cur l = some b ∧ b.bi = bi := by
  simpa [St.sg] using h
theorem sg_of {s : St} {l : Loc} {b : Blk} (h : s.cur l = some b) : s.sg.b l = some b.bi := by simp [St.sg, h]

theorem cel_lt {w : World} {r p : Nat} {v : Value} (h : cel w r p = some v) : r < w.heap.size := World.block_lt_of_cell? _ _ h
theorem cel_of_heap {w w' : World} {r : Nat} (h : w'.heap[r]? = w.heap[r]?) (p : Nat) : cel w' r p = cel w r p := by
  simp [cel, World.cell?, h]
theorem froz_of_heap {w w' : World} {r : Nat} (h : w'.heap[r]? = w.heap[r]?) (p : Nat) : w'.frozen? ⟨r, p, none⟩ = w.frozen? ⟨r, p, none⟩ := by
  simp [World.frozen?, h]
theorem Room.lt {w : World} {r n : Nat} (h : Room w r n) : r < w.heap.size := by
  obtain ⟨⟨c, e, f, h⟩, _⟩ := h
  exact (Array.getElem?_eq_some_iff.1 h).1
theorem Room.of_heap {w w' : World} {r n : Nat} (h : Room w r n) (e : w'.heap[r]? = w.heap[r]?) : Room w' r n :=
  ⟨by rw [e]; exact h.1, fun p hp => ⟨by rw [cel_of_heap e]; exact (h.2 p hp).1, by rw [froz_of_heap e]; exact (h.2 p hp).2⟩⟩
theorem Room.le {w : World} {r n m : Nat} (h : Room w r n) (hm : m ≤ n) : Room w r m := ⟨h.1, fun p hp => h.2 p (by omega)⟩

/-- What a step that leaves all old blocks as they were asks. -/
theorem ext_grow {s s' : St} {cx cx' : Cx} {w w' : World} (hg : ∀ l, s.gen l ≤ s'.gen l) (hl : s.h.length ≤ s'.h.length)
    (hb : ∀ l, s.gen l = s'.gen l → (∀ i, l = .h i → i < s.h.length) → ∀ b, s'.cur l = some b → (∃ b0, s.cur l = some b0 ∧ b0.bi = b.bi) ∧ cx'.lm l = cx.lm l)
    (hlh : ∀ i, i < s.h.length → cx'.lm (.h i) = cx.lm (.h i)) (him : ∀ r, cx.im r → cx'.im r)
    (hh : ∀ r, r < w.heap.size → w'.heap[r]? = w.heap[r]?) : Ext s.sg cx w s'.sg cx' w' where
  g := hg
  hl := hl
  b l h1 h2 bi h3 := by
    obtain ⟨b, h4, rfl⟩ := sg_b h3
    obtain ⟨⟨b0, h5, h6⟩, h7⟩ := hb l h1 h2 b h4
    exact ⟨by rw [sg_of h5, h6], h7⟩
  lh := hlh
  im := him
  imc r hr p v hv := by rw [cel_of_heap (hh r (cel_lt hv))]; exact hv
  room r n hr := hr.of_heap (hh r hr.lt)

def updL (f : Loc → Nat) (l : Loc) (r : Nat) : Loc → Nat := fun x => if x = l then r else f x
theorem updL_eq (f : Loc → Nat) (l : Loc) (r : Nat) : updL f l r l = r := by simp [updL]
theorem updL_ne (f : Loc → Nat) {l x : Loc} (r : Nat) (h : x ≠ l) : updL f l r x = f x := by simp [updL, h]

/-- A slot that is laid anew over a block that nobody holds. -/
structure Laid (s s' : St) (l : Loc) (b : Blk) : Prop where
  cur : ∀ l', l' ≠ l → s'.cur l' = s.cur l'
  gen : ∀ l', l' ≠ l → s'.gen l' = s.gen l'
  here : s'.cur l = some b
  up : s.gen l < s'.gen l ∨ ∃ i, l = .h i ∧ s.h.length ≤ i
  map : ∀ (i : Nat) (es : List Ent) (k : Nat), s'.h[i]? = some (HB.map es k) ↔ s.h[i]? = some (HB.map es k)
  hl : s.h.length ≤ s'.h.length
  ro : s'.ro = s.ro

theorem wr_of {s s' : St} (h : s'.ro = s.ro) {l : Loc} (k : s'.wr l) : s.wr l := fun e => by rw [← h]; exact k e

theorem Laid.go {s s' : St} {l : Loc} {b : Blk} (L : Laid s s' l b) {cx : Cx} {w w' : World} (M : MR s cx w) (r : Nat)
    (hh : ∀ r, r < w.heap.size → w'.heap[r]? = w.heap[r]?) (hos : w'.os = w.os) (htp : w'.tape = w.tape) (hou : w'.output = w.output) (hsz : w.heap.size ≤ w'.heap.size)
    (hr : b.els ≠ [] → w.heap.size ≤ r ∧ Room w' r (b.els.length * b.z)) (hfz : b.fz = false) (hemp : b.els = [] → b.ex = true) (hz : ∀ cs, cs ∈ b.els → cs.length = b.z)
    (hc : ∀ j q x, cellA b.els j q = some x → ∃ v, cel w' r (j * b.z + q) = some v ∧ VR s.sg cx w x v ∧ v.oneCell' = true) :
    Go1 s cx w s' ⟨updL cx.lm l r, cx.im⟩ w' ∧ MR s' ⟨updL cx.lm l r, cx.im⟩ w' := by
  have hgen : ∀ l', s.gen l' ≤ s'.gen l' := fun l' => by
    by_cases e : l' = l
    · subst e
      rcases L.up with h | ⟨i, rfl, _⟩
      · omega
      · exact Nat.le_refl 0
    · rw [L.gen l' e]; exact Nat.le_refl _
  have hne : ∀ l', s.gen l' = s'.gen l' → (∀ i, l' = .h i → i < s.h.length) → l' ≠ l := fun l' h1 h2 e => by
    subst e
    rcases L.up with h | ⟨i, rfl, h⟩
    · omega
    · have := h2 i rfl; omega
  have hE : Ext s.sg cx w s'.sg ⟨updL cx.lm l r, cx.im⟩ w' := by
    refine ext_grow hgen L.hl (fun l' h1 h2 b' h3 => ?_) (fun i hi => ?_) (fun _ h => h) hh
    · have e := hne l' h1 h2
      rw [L.cur l' e] at h3
      exact ⟨⟨b', h3, rfl⟩, updL_ne _ _ e⟩
    · refine updL_ne _ _ (fun e => ?_)
      rcases L.up with h | ⟨j, h, h'⟩
      · subst e; exact absurd h (Nat.lt_irrefl 0)
      · rw [h] at e; cases e; omega
  have hcur : ∀ l' b', s'.cur l' = some b' → (l' = l ∧ b' = b) ∨ (l' ≠ l ∧ s.cur l' = some b') := fun l' b' h => by
    by_cases e : l' = l
    · subst e; rw [L.here] at h; cases h; exact .inl ⟨rfl, rfl⟩
    · rw [L.cur l' e] at h; exact .inr ⟨e, h⟩
  have hmapl : ∀ (i : Nat) (es : List Ent) (k : Nat), s.h[i]? = some (HB.map es k) → Loc.h i ≠ l := fun i es k h e => by
    have h2 : s'.cur (.h i) = none := by simp [St.cur, (L.map i es k).2 h, blkAt]
    rw [e, L.here] at h2; cases h2
  refine ⟨⟨hE, fun q hq _ => hh q hq, fun q hq => ?_, fun _ h => .inl h, hos, htp, hou, hsz⟩, ?_⟩
  · rcases hq with ⟨l', b', h1, h2, h3, h4, h4w⟩ | ⟨i, es, c, h1, h2, h2w⟩
    · rcases hcur l' b' h1 with ⟨rfl, rfl⟩ | ⟨e, h5⟩
      · have h4' : r = q := (updL_eq _ _ _).symm.trans h4
        exact .inr (h4' ▸ (hr h3).1)
      · have h4' : cx.lm l' = q := (updL_ne _ _ e).symm.trans h4
        exact .inl (.inl ⟨l', b', h5, h2, h3, h4', wr_of L.ro h4w⟩)
    · have h3 := (L.map i es c).1 h1
      have h2' : cx.lm (.h i) = q := (updL_ne _ _ (hmapl i es c h3)).symm.trans h2
      exact .inl (.inr ⟨i, es, c, h3, h2', by rw [← L.ro]; exact h2w⟩)
  · refine ⟨fun l' b' h j q x hx => ?_, fun l' b' h => ?_, fun l' b' h h2 h3 => ?_, fun l' b' h h2 h3 => ?_, fun l' b' h h2 => ?_, fun l1 l2 b1 b2 h1 h2 f1 f2 e1 e2 hne2 => ?_, fun i es c h => ?_, fun i j es c es' c' h1 h2 hij => ?_, fun q hq => ?_⟩
    · rcases hcur l' b' h with ⟨rfl, rfl⟩ | ⟨e, h5⟩
      · obtain ⟨v, h6, h7, h8⟩ := hc j q x hx
        exact ⟨v, by simp only [updL_eq]; exact h6, h7.ext hE, h8⟩
      · obtain ⟨v, h6, h7, h8⟩ := M.live l' b' h5 j q x hx
        refine ⟨v, ?_, h7.ext hE, h8⟩
        simp only [updL_ne _ _ e]
        rw [cel_of_heap (hh _ (cel_lt h6))]; exact h6
    · rcases hcur l' b' h with ⟨rfl, rfl⟩ | ⟨e, h5⟩
      · exact hz
      · exact M.zs l' b' h5
    · rcases hcur l' b' h with ⟨rfl, rfl⟩ | ⟨e, h5⟩
      · simp only [updL_eq]
        refine ⟨fun hi => ?_, (hr h3).2⟩
        have := (M.ims r hi).1
        have := (hr h3).1
        omega
      · simp only [updL_ne _ _ e]
        obtain ⟨k1, k3⟩ := M.mu l' b' h5 h2 h3
        exact ⟨k1, k3.of_heap (hh _ k3.lt)⟩
    · rcases hcur l' b' h with ⟨rfl, rfl⟩ | ⟨e, h5⟩
      · rw [hfz] at h2; cases h2
      · simp only [updL_ne _ _ e]
        exact M.fz l' b' h5 h2 h3
    · rcases hcur l' b' h with ⟨rfl, rfl⟩ | ⟨e, h5⟩
      · exact hemp h2
      · exact M.emp l' b' h5 h2
    · rcases hcur l1 b1 h1 with ⟨rfl, rfl⟩ | ⟨n1, h1'⟩
      · rcases hcur l2 b2 h2 with ⟨rfl, rfl⟩ | ⟨n2, h2'⟩
        · exact absurd rfl hne2
        · simp only [updL_eq, updL_ne _ _ n2]
          have := (M.mu l2 b2 h2' f2 e2).2.lt
          have := (hr e1).1
          omega
      · rcases hcur l2 b2 h2 with ⟨rfl, rfl⟩ | ⟨n2, h2'⟩
        · simp only [updL_eq, updL_ne _ _ n1]
          have := (M.mu l1 b1 h1' f1 e1).2.lt
          have := (hr e2).1
          omega
        · simp only [updL_ne _ _ n1, updL_ne _ _ n2]
          exact M.dis l1 l2 b1 b2 h1' h2' f1 f2 e1 e2 hne2
    · have h3 := (L.map i es c).1 h
      obtain ⟨es', h4, h5, h6⟩ := M.maps i es c h3
      refine ⟨es', ?_, h5, fun j a b ha hb => ?_⟩
      · simp only [updL_ne _ _ (hmapl i es c h3)]
        have hlt : cx.lm (.h i) < w.heap.size := by
          rcases Nat.lt_or_ge (cx.lm (.h i)) w.heap.size with h' | h'
          · exact h'
          · rw [Array.getElem?_eq_none h'] at h4; cases h4
        rw [hh _ hlt]; exact h4
      · obtain ⟨k1, k2, k3⟩ := h6 j a b ha hb
        exact ⟨k1.ext hE, k2.ext hE, k3⟩
    · have h1' := (L.map i es c).1 h1
      have h2' := (L.map j es' c').1 h2
      simp only [updL_ne _ _ (hmapl i es c h1'), updL_ne _ _ (hmapl j es' c' h2')]
      exact M.mdis i j es c es' c' h1' h2' hij
    · obtain ⟨k1, c, e, f, k2⟩ := M.ims q hq
      exact ⟨Nat.lt_of_lt_of_le k1 hsz, c, e, f, by rw [hh q k1]; exact k2⟩

/-- A slot that is given up. -/
theorem MR.less {s s' : St} {cx : Cx} {w : World} (M : MR s cx w) (hcur : ∀ l b, s'.cur l = some b → s.cur l = some b) (hgen : ∀ l, s'.gen l = s.gen l)
    (hl : s'.h.length = s.h.length) (hmap : ∀ (i : Nat) (es : List Ent) (k : Nat), s'.h[i]? = some (HB.map es k) → s.h[i]? = some (HB.map es k)) (hro : s'.ro = s.ro) : Go1 s cx w s' cx w ∧ MR s' cx w := by
  have hE : Ext s.sg cx w s'.sg cx w := ext_grow (fun l => by rw [hgen]; exact Nat.le_refl _) (by omega) (fun l _ _ b h => ⟨⟨b, hcur l b h, rfl⟩, rfl⟩) (fun _ _ => rfl) (fun _ h => h) (fun _ _ => rfl)
  refine ⟨⟨hE, fun _ _ _ => rfl, fun r hr => ?_, fun _ h => .inl h, rfl, rfl, rfl, Nat.le_refl _⟩, ?_⟩
  · rcases hr with ⟨l, b, h1, h2, h3, h4, h5⟩ | ⟨i, es, c, h1, h2, h3⟩
    · exact .inl (.inl ⟨l, b, hcur l b h1, h2, h3, h4, wr_of hro h5⟩)
    · exact .inl (.inr ⟨i, es, c, hmap i es c h1, h2, by rw [← hro]; exact h3⟩)
  · exact ⟨fun l b h j q x hx => by obtain ⟨v, h1, h2, h3⟩ := M.live l b (hcur l b h) j q x hx; exact ⟨v, h1, h2.ext hE, h3⟩, fun l b h => M.zs l b (hcur l b h), fun l b h => M.mu l b (hcur l b h),
      fun l b h => M.fz l b (hcur l b h), fun l b h => M.emp l b (hcur l b h), fun l l' b b' h h' => M.dis l l' b b' (hcur l b h) (hcur l' b' h'),
      fun i es c h => by
        obtain ⟨es', h1, h2, h3⟩ := M.maps i es c (hmap i es c h)
        exact ⟨es', h1, h2, fun j a b ha hb => by obtain ⟨k1, k2, k3⟩ := h3 j a b ha hb; exact ⟨k1.ext hE, k2.ext hE, k3⟩⟩,
      fun i j es c es' c' h h' => M.mdis i j es c es' c' (hmap i es c h) (hmap j es' c' h'), M.ims⟩

/-- One slot's contents turn, in place. -/
structure Turned (s s' : St) (l : Loc) (b b' : Blk) : Prop where
  cur : ∀ l', l' ≠ l → s'.cur l' = s.cur l'
  gen : ∀ l', s'.gen l' = s.gen l'
  was : s.cur l = some b
  here : s'.cur l = some b'
  bi : b'.bi = b.bi
  map : ∀ (i : Nat) (es : List Ent) (k : Nat), s'.h[i]? = some (HB.map es k) ↔ s.h[i]? = some (HB.map es k)
  hl : s'.h.length = s.h.length
  ro : s'.ro = s.ro

theorem Turned.ext {s s' : St} {l : Loc} {b b' : Blk} (T : Turned s s' l b b') {cx cx' : Cx} {w w' : World} (hlm : cx'.lm = cx.lm) (him : ∀ r, cx.im r → cx'.im r)
    (hc : ∀ r, cx.im r → ∀ p v, cel w r p = some v → cel w' r p = some v) (hroom : ∀ r n, Room w r n → Room w' r n) : Ext s.sg cx w s'.sg cx' w' where
  g l' := by rw [show s'.sg.g l' = s.sg.g l' from T.gen l']; exact Nat.le_refl _
  hl := Nat.le_of_eq T.hl.symm
  b l' _ _ bi h := by
    obtain ⟨b2, h2, rfl⟩ := sg_b h
    by_cases e : l' = l
    · subst e; rw [T.here] at h2; cases h2; exact ⟨by rw [sg_of T.was, T.bi], by rw [hlm]⟩
    · rw [T.cur l' e] at h2; exact ⟨sg_of h2, by rw [hlm]⟩
  lh _ _ := by rw [hlm]
  im := him
  imc := hc
  room := hroom

theorem Turned.store {s s' : St} {l : Loc} {b b' : Blk} (T : Turned s s' l b b') {cx : Cx} {w w' : World} (M : MR s cx w) (hf : b.fz = false) (hf' : b'.fz = false)
    (hne : b.els ≠ []) (hw : s.wr l)
    (hh : ∀ r, r ≠ cx.lm l → w'.heap[r]? = w.heap[r]?) (hos : w'.os = w.os) (htp : w'.tape = w.tape) (hou : w'.output = w.output) (hsz : w'.heap.size = w.heap.size)
    (hroom : ∀ n, Room w (cx.lm l) n → Room w' (cx.lm l) n) (hz : ∀ cs, cs ∈ b'.els → cs.length = b'.z)
    (hc : ∀ j q x, cellA b'.els j q = some x → ∃ v, cel w' (cx.lm l) (j * b'.z + q) = some v ∧ VR s.sg cx w x v ∧ v.oneCell' = true) :
    Go1 s cx w s' cx w' ∧ MR s' cx w' := by
  have hnim : ∀ r, cx.im r → r ≠ cx.lm l := fun r hr e => (M.mu l b T.was hf hne).1 (e ▸ hr)
  have hlen : b'.els.length = b.els.length := congrArg BI.n T.bi
  have hzz : b'.z = b.z := congrArg BI.z T.bi
  have hne' : b'.els ≠ [] := fun e => hne (List.length_eq_zero_iff.1 (by rw [← hlen, e]; rfl))
  have hE : Ext s.sg cx w s'.sg cx w' := T.ext rfl (fun _ h => h) (fun r hr p v hv => by rw [cel_of_heap (hh r (hnim r hr))]; exact hv)
    (fun r n hr => by
      by_cases e : r = cx.lm l
      · subst e; exact hroom n hr
      · exact hr.of_heap (hh r e))
  have hcur : ∀ l' b2, s'.cur l' = some b2 → (l' = l ∧ b2 = b') ∨ (l' ≠ l ∧ s.cur l' = some b2) := fun l' b2 h => by
    by_cases e : l' = l
    · subst e; rw [T.here] at h; cases h; exact .inl ⟨rfl, rfl⟩
    · rw [T.cur l' e] at h; exact .inr ⟨e, h⟩
  obtain ⟨hm1, hm2⟩ := M.mu l b T.was hf hne
  have hmapl : ∀ (i : Nat) (es : List Ent) (k : Nat), s.h[i]? = some (HB.map es k) → cx.lm (.h i) ≠ cx.lm l := fun i es k h e => by
    obtain ⟨es', h1, _⟩ := M.maps i es k h
    obtain ⟨⟨c, e', f, h2⟩, _⟩ := hm2
    rw [e, h2] at h1; cases h1
  refine ⟨⟨hE, fun r _ hr => hh r (fun e => hr (.inl ⟨l, b, T.was, hf, hne, e.symm, hw⟩)), fun r hr => .inl ?_, fun _ h => .inl h, hos, htp, hou, Nat.le_of_eq hsz.symm⟩, ?_⟩
  · rcases hr with ⟨l', b2, h1, h2, h3, h4, h4w⟩ | ⟨i, es, c, h1, h2, h2w⟩
    · rcases hcur l' b2 h1 with ⟨rfl, rfl⟩ | ⟨e, h5⟩
      · exact .inl ⟨_, b, T.was, hf, hne, h4, hw⟩
      · exact .inl ⟨l', b2, h5, h2, h3, h4, wr_of T.ro h4w⟩
    · exact .inr ⟨i, es, c, (T.map i es c).1 h1, h2, by rw [← T.ro]; exact h2w⟩
  · refine ⟨fun l' b2 h j q x hx => ?_, fun l' b2 h => ?_, fun l' b2 h h2 h3 => ?_, fun l' b2 h h2 h3 => ?_, fun l' b2 h h2 => ?_, fun l1 l2 b1 b2 h1 h2 f1 f2 e1 e2 hne2 => ?_, fun i es c h => ?_, fun i j es c es' c' h1 h2 hij => ?_, fun q hq => ?_⟩
    · rcases hcur l' b2 h with ⟨rfl, rfl⟩ | ⟨e, h5⟩
      · obtain ⟨v, h6, h7, h8⟩ := hc j q x hx
        exact ⟨v, h6, h7.ext hE, h8⟩
      · obtain ⟨v, h6, h7, h8⟩ := M.live l' b2 h5 j q x hx
        refine ⟨v, ?_, h7.ext hE, h8⟩
        have hn2 : b2.els ≠ [] := fun e0 => by simp [cellA, e0] at hx
        have hne3 : cx.lm l' ≠ cx.lm l := by
          cases hf2 : b2.fz with
          | false => exact M.dis l' l b2 b h5 T.was hf2 hf hn2 hne e
          | true => exact hnim _ (M.fz l' b2 h5 hf2 hn2)
        rw [cel_of_heap (hh _ hne3)]; exact h6
    · rcases hcur l' b2 h with ⟨rfl, rfl⟩ | ⟨e, h5⟩
      · exact hz
      · exact M.zs l' b2 h5
    · rcases hcur l' b2 h with ⟨rfl, rfl⟩ | ⟨e, h5⟩
      · exact ⟨hm1, by rw [hlen, hzz]; exact hroom _ hm2⟩
      · obtain ⟨k1, k3⟩ := M.mu l' b2 h5 h2 h3
        exact ⟨k1, k3.of_heap (hh _ (M.dis l' l b2 b h5 T.was h2 hf h3 hne e))⟩
    · rcases hcur l' b2 h with ⟨rfl, rfl⟩ | ⟨e, h5⟩
      · rw [hf'] at h2; cases h2
      · exact M.fz l' b2 h5 h2 h3
    · rcases hcur l' b2 h with ⟨rfl, rfl⟩ | ⟨e, h5⟩
      · exact absurd h2 hne'
      · exact M.emp l' b2 h5 h2
    · rcases hcur l1 b1 h1 with ⟨rfl, rfl⟩ | ⟨n1, h1'⟩
      · rcases hcur l2 b2 h2 with ⟨rfl, rfl⟩ | ⟨n2, h2'⟩
        · exact absurd rfl hne2
        · exact M.dis _ l2 b b2 T.was h2' hf f2 hne e2 hne2
      · rcases hcur l2 b2 h2 with ⟨rfl, rfl⟩ | ⟨n2, h2'⟩
        · exact M.dis l1 _ b1 b h1' T.was f1 hf e1 hne hne2
        · exact M.dis l1 l2 b1 b2 h1' h2' f1 f2 e1 e2 hne2
    · have h3 := (T.map i es c).1 h
      obtain ⟨es', h4, h5, h6⟩ := M.maps i es c h3
      refine ⟨es', by rw [hh _ (hmapl i es c h3)]; exact h4, h5, fun j a b ha hb => ?_⟩
      obtain ⟨k1, k2, k3⟩ := h6 j a b ha hb
      exact ⟨k1.ext hE, k2.ext hE, k3⟩
    · exact M.mdis i j es c es' c' ((T.map i es c).1 h1) ((T.map j es' c').1 h2) hij
    · obtain ⟨k1, c, e, f, k2⟩ := M.ims q hq
      exact ⟨by omega, c, e, f, by rw [hh q (hnim q hq)]; exact k2⟩

/-- A slot is frozen. -/
theorem Turned.freeze {s s' : St} {l : Loc} {b : Blk} (T : Turned s s' l b { b with fz := true }) {cx : Cx} {w : World} (M : MR s cx w) (hw : s.wr l) :
    ∃ cx' : Cx, cx'.lm = cx.lm ∧ (b.els ≠ [] → cx'.im (cx.lm l)) ∧ Go1 s cx w s' cx' w ∧ MR s' cx' w := by
  cases hf : b.fz with
  | true =>
    have hb : ({ b with fz := true } : Blk) = b := by cases b; simp_all
    have hcur : ∀ l', s'.cur l' = s.cur l' := fun l' => by
      by_cases e : l' = l
      · subst e; rw [T.here, T.was, hb]
      · exact T.cur l' e
    have h := M.less (s' := s') (fun l' b' h => by rw [← hcur]; exact h) T.gen T.hl (fun i es k h => (T.map i es k).1 h) T.ro
    exact ⟨cx, rfl, fun hn => M.fz l b T.was hf hn, h.1, h.2⟩
  | false =>
    by_cases hn : b.els = []
    · have hE : Ext s.sg cx w s'.sg cx w := T.ext rfl (fun _ h => h) (fun _ _ _ _ h => h) (fun _ _ h => h)
      have hcur : ∀ l' b2, s'.cur l' = some b2 → (l' = l ∧ b2 = { b with fz := true }) ∨ (l' ≠ l ∧ s.cur l' = some b2) := fun l' b2 h => by
        by_cases e : l' = l
        · subst e; rw [T.here] at h; cases h; exact .inl ⟨rfl, rfl⟩
        · rw [T.cur l' e] at h; exact .inr ⟨e, h⟩
      refine ⟨cx, rfl, fun h => absurd hn h, ⟨hE, fun _ _ _ => rfl, fun r hr => .inl ?_, fun _ h => .inl h, rfl, rfl, rfl, Nat.le_refl _⟩, ?_⟩
      · rcases hr with ⟨l', b2, h1, h2, h3, h4, h4w⟩ | ⟨i, es, c, h1, h2, h2w⟩
        · rcases hcur l' b2 h1 with ⟨rfl, rfl⟩ | ⟨e, h5⟩
          · exact absurd hn h3
          · exact .inl ⟨l', b2, h5, h2, h3, h4, wr_of T.ro h4w⟩
        · exact .inr ⟨i, es, c, (T.map i es c).1 h1, h2, by rw [← T.ro]; exact h2w⟩
      · refine ⟨fun l' b2 h j q x hx => ?_, fun l' b2 h => ?_, fun l' b2 h h2 h3 => ?_, fun l' b2 h h2 h3 => ?_, fun l' b2 h h2 => ?_, fun l1 l2 b1 b2 h1 h2 f1 f2 e1 e2 hne2 => ?_, fun i es c h => ?_, fun i j es c es' c' h1 h2 hij => ?_, M.ims⟩
        · rcases hcur l' b2 h with ⟨rfl, rfl⟩ | ⟨e, h5⟩
          · simp [cellA, hn] at hx
          · obtain ⟨v, h6, h7, h8⟩ := M.live l' b2 h5 j q x hx
            exact ⟨v, h6, h7.ext hE, h8⟩
        · rcases hcur l' b2 h with ⟨rfl, rfl⟩ | ⟨e, h5⟩
          · exact M.zs _ b T.was
          · exact M.zs l' b2 h5
        · rcases hcur l' b2 h with ⟨rfl, rfl⟩ | ⟨e, h5⟩
          · cases h2
          · exact M.mu l' b2 h5 h2 h3
        · rcases hcur l' b2 h with ⟨rfl, rfl⟩ | ⟨e, h5⟩
          · exact absurd hn h3
          · exact M.fz l' b2 h5 h2 h3
        · rcases hcur l' b2 h with ⟨rfl, rfl⟩ | ⟨e, h5⟩
          · exact M.emp _ b T.was hn
          · exact M.emp l' b2 h5 h2
        · rcases hcur l1 b1 h1 with ⟨rfl, rfl⟩ | ⟨n1, h1'⟩
          · cases f1
          · rcases hcur l2 b2 h2 with ⟨rfl, rfl⟩ | ⟨n2, h2'⟩
            · cases f2
            · exact M.dis l1 l2 b1 b2 h1' h2' f1 f2 e1 e2 hne2
        · obtain ⟨es', h4, h5, h6⟩ := M.maps i es c ((T.map i es c).1 h)
          exact ⟨es', h4, h5, fun j a b ha hb => by obtain ⟨k1, k2, k3⟩ := h6 j a b ha hb; exact ⟨k1.ext hE, k2.ext hE, k3⟩⟩
        · exact M.mdis i j es c es' c' ((T.map i es c).1 h1) ((T.map j es' c').1 h2) hij
    · let cx' : Cx := ⟨cx.lm, fun r => cx.im r ∨ r = cx.lm l⟩
      have hE : Ext s.sg cx w s'.sg cx' w := T.ext rfl (fun _ h => .inl h) (fun _ _ _ _ h => h) (fun _ _ h => h)
      have hcur : ∀ l' b2, s'.cur l' = some b2 → (l' = l ∧ b2 = { b with fz := true }) ∨ (l' ≠ l ∧ s.cur l' = some b2) := fun l' b2 h => by
        by_cases e : l' = l
        · subst e; rw [T.here] at h; cases h; exact .inl ⟨rfl, rfl⟩
        · rw [T.cur l' e] at h; exact .inr ⟨e, h⟩
      obtain ⟨hm1, hm2⟩ := M.mu l b T.was hf hn
      refine ⟨cx', rfl, fun _ => .inr rfl, ⟨hE, fun _ _ _ => rfl, fun r hr => .inl ?_, fun r hr => hr.imp id (fun e => .inl (.inl ⟨l, b, T.was, hf, hn, e.symm, hw⟩)), rfl, rfl, rfl, Nat.le_refl _⟩, ?_⟩
      · rcases hr with ⟨l', b2, h1, h2, h3, h4, h4w⟩ | ⟨i, es, c, h1, h2, h2w⟩
        · rcases hcur l' b2 h1 with ⟨rfl, rfl⟩ | ⟨e, h5⟩
          · cases h2
          · exact .inl ⟨l', b2, h5, h2, h3, h4, wr_of T.ro h4w⟩
        · exact .inr ⟨i, es, c, (T.map i es c).1 h1, h2, by rw [← T.ro]; exact h2w⟩
      · refine ⟨fun l' b2 h j q x hx => ?_, fun l' b2 h => ?_, fun l' b2 h h2 h3 => ?_, fun l' b2 h h2 h3 => ?_, fun l' b2 h h2 => ?_, fun l1 l2 b1 b2 h1 h2 f1 f2 e1 e2 hne2 => ?_, fun i es c h => ?_, fun i j es c es' c' h1 h2 hij => ?_, fun q hq => ?_⟩
        · rcases hcur l' b2 h with ⟨rfl, rfl⟩ | ⟨e, h5⟩
          · obtain ⟨v, h6, h7, h8⟩ := M.live _ b T.was j q x hx
            exact ⟨v, h6, h7.ext hE, h8⟩
          · obtain ⟨v, h6, h7, h8⟩ := M.live l' b2 h5 j q x hx
            exact ⟨v, h6, h7.ext hE, h8⟩
        · rcases hcur l' b2 h with ⟨rfl, rfl⟩ | ⟨e, h5⟩
          · exact M.zs _ b T.was
          · exact M.zs l' b2 h5
        · rcases hcur l' b2 h with ⟨rfl, rfl⟩ | ⟨e, h5⟩
          · cases h2
          · obtain ⟨k1, k3⟩ := M.mu l' b2 h5 h2 h3
            refine ⟨fun hi => ?_, k3⟩
            rcases hi with hi | hi
            · exact k1 hi
            · exact M.dis l' l b2 b h5 T.was h2 hf h3 hn e hi
        · rcases hcur l' b2 h with ⟨rfl, rfl⟩ | ⟨e, h5⟩
          · exact .inr rfl
          · exact .inl (M.fz l' b2 h5 h2 h3)
        · rcases hcur l' b2 h with ⟨rfl, rfl⟩ | ⟨e, h5⟩
          · exact absurd h2 hn
          · exact M.emp l' b2 h5 h2
        · rcases hcur l1 b1 h1 with ⟨rfl, rfl⟩ | ⟨n1, h1'⟩
          · cases f1
          · rcases hcur l2 b2 h2 with ⟨rfl, rfl⟩ | ⟨n2, h2'⟩
            · cases f2
            · exact M.dis l1 l2 b1 b2 h1' h2' f1 f2 e1 e2 hne2
        · obtain ⟨es', h4, h5, h6⟩ := M.maps i es c ((T.map i es c).1 h)
          exact ⟨es', h4, h5, fun j a b ha hb => by obtain ⟨k1, k2, k3⟩ := h6 j a b ha hb; exact ⟨k1.ext hE, k2.ext hE, k3⟩⟩
        · exact M.mdis i j es c es' c' ((T.map i es c).1 h1) ((T.map j es' c').1 h2) hij
        · rcases hq with hq | rfl
          · exact M.ims q hq
          · exact ⟨hm2.lt, hm2.1⟩

end Go.Proofs.Bb
