/- A call: what the callee sees of the caller's frame, and what comes back. -/
import Derived.Test.YtimlkngjkiknfaaGreatBbWfE
import Derived.Test.YtimlkngjkiknfaaGreatBbOpsO
set_option linter.unusedSimpArgs false
set_option linter.unusedVariables false
namespace Go.Proofs.Bb
open Go

/-- What is clean to the bottom stands in another frame as well. -/
theorem VR.move {σ σ' : Sg} {cx cx' : Cx} {w : World} (hg : ∀ i, σ'.g (.h i) = σ.g (.h i)) (hl : σ.hl ≤ σ'.hl)
    (hb : ∀ i, i < σ.hl → ∀ bi, σ'.b (.h i) = some bi → σ.b (.h i) = some bi)
    (hlm : ∀ i, i < σ.hl → cx'.lm (.h i) = cx.lm (.h i)) (him : ∀ r, cx.im r → cx'.im r) {x : AV} {v : Value} (h : VR σ cx w x v) : DC x → VR σ' cx' w x v := by
  induction h with
  | bool b => exact fun _ => .bool b
  | int k n => exact fun _ => .int k n
  | str s => exact fun _ => .str s
  | nilp => exact fun _ => .nilp
  | nilm => exact fun _ => .nilm
  | nilf => exact fun _ => .nilf
  | nili => exact fun _ => .nili
  | @sl z els tl a len cap r off fc hlen hcap htl ha hz hc hv h1 ih =>
    intro hd
    cases hd with
    | sl hd =>
      refine .sl r off fc hlen hcap htl (fun h0 => ⟨(ha h0).1, him r (ha h0).2⟩) hz hc (fun j q x hx => ih j q x hx ?_) h1
      obtain ⟨cs, h2, h3⟩ := cellA_of hx
      exact hd cs (List.mem_of_getElem? h2) x (List.mem_of_getElem? h3)
  | @rs l g z off len cap c a hlen hcap ha hg' hl' h =>
    intro hd
    cases hd with
    | rs i =>
      refine .rs hlen hcap ha (by rw [hg]; exact hg') (fun j e => Nat.lt_of_lt_of_le (hl' j e) hl) (fun e b hb' => ?_)
      rw [hg] at e
      obtain ⟨a1, a2, a3, a4⟩ := h e b (hb i (hl' i rfl) b hb')
      rw [hlm i (hl' i rfl)]
      exact ⟨a1, a2, a3, a4⟩
  | @pt l g i o p hg' hl' h =>
    intro hd
    cases hd with
    | pt i =>
      refine .pt (by rw [hg]; exact hg') (fun j e => Nat.lt_of_lt_of_le (hl' j e) hl) (fun e b hb' => ?_)
      rw [hg] at e
      rw [hlm _ (hl' _ rfl)]
      exact h e b (hb _ (hl' _ rfl) b hb')
  | ip r p fc hr hc hv h1 ih =>
    intro hd
    cases hd with
    | ip hd => exact .ip r p fc (him r hr) hc (fun q x hx => ih q x hx (hd x (List.mem_of_getElem? hx))) h1
  | @map b h =>
    intro _
    have := VR.map (σ := σ') (cx := cx') (w := w) (b := b) (Nat.lt_of_lt_of_le h hl)
    rwa [hlm b h] at this
  | fn ha hc hva hvc iha ihc =>
    intro hd
    cases hd with
    | fn da dc => exact .fn ha hc (fun i x v h1 h2 => iha i x v h1 h2 (da x (List.mem_of_getElem? h1))) (fun i x v h1 h2 => ihc i x v h1 h2 (dc x (List.mem_of_getElem? h1)))
  | agg hs h h1 ih => intro hd; cases hd
  | tup hs h ih => intro hd; cases hd

theorem VR.move0 {σ σ' : Sg} {cx cx' : Cx} {w : World} (hg : ∀ i, σ'.g (.h i) = σ.g (.h i)) (hl : σ.hl ≤ σ'.hl)
    (hb : ∀ i, i < σ.hl → ∀ bi, σ'.b (.h i) = some bi → σ.b (.h i) = some bi)
    (hlm : ∀ i, i < σ.hl → cx'.lm (.h i) = cx.lm (.h i)) (him : ∀ r, cx.im r → cx'.im r) {x : AV} {v : Value} (h : VR σ cx w x v) (hd : D0 x) : VR σ' cx' w x v := by
  cases hd with
  | one hd => exact h.move hg hl hb hlm him hd
  | @agg cs hd =>
    cases h with
    | agg hs h h1 => exact .agg hs (fun i x v hx hv => (h i x v hx hv).move hg hl hb hlm him (hd x (List.mem_of_getElem? hx))) h1

/-- A state without a frame. -/
def NF (s : St) : Prop := ∀ i, s.v i = ⟨0, none⟩ ∧ s.a i = ⟨0, none⟩
theorem start_nf (args : List AV) (h : List HB) (ro : Bool) : NF (start args h ro) := fun _ => ⟨rfl, rfl⟩
theorem start_gen (args : List AV) (h : List HB) (ro : Bool) (l : Loc) : (start args h ro).gen l = 0 := by cases l <;> rfl
theorem start_cur {args : List AV} {h : List HB} {ro : Bool} {l : Loc} {b : Blk} (hb : (start args h ro).cur l = some b) : ∃ i, l = .h i ∧ h[i]? = some (.blk b) := by
  cases l with
  | v i => cases hb
  | a i => cases hb
  | h i => exact ⟨i, rfl, blkAt_some hb⟩
theorem gen_h (s : St) (i : Nat) : s.gen (.h i) = 0 := rfl

/-- What the callee sees. -/
theorem start_mr {s : St} {cx : Cx} {w : World} (M : MR s cx w) (H : WH s.h) (args : List AV) (h : List HB) (ro : Bool) (hh : h = s.h ∨ h = deaden s.h) :
    MR (start args h ro) cx w ∧ ∀ {x v}, D0 x → VR s.sg cx w x v → VR (start args h ro).sg cx w x v := by
  have hlen : h.length = s.h.length := by rcases hh with rfl | rfl <;> simp [deaden]
  have hcur : ∀ (i : Nat) (b : Blk), h[i]? = some (HB.blk b) → s.cur (.h i) = some b ∧ s.h[i]? = some (.blk b) := by
    intro i b hb
    rcases hh with rfl | rfl
    · exact ⟨by simp [St.cur, hb, blkAt], hb⟩
    · rw [deaden_eq, List.getElem?_replicate] at hb; split at hb <;> cases hb
  have hmap : ∀ (i : Nat) (es : List Ent) (c : Nat), h[i]? = some (HB.map es c) → s.h[i]? = some (.map es c) := by
    intro i es c hb
    rcases hh with rfl | rfl
    · exact hb
    · rw [deaden_eq, List.getElem?_replicate] at hb; split at hb <;> cases hb
  have mv : ∀ {x v}, D0 x → VR s.sg cx w x v → VR (start args h ro).sg cx w x v := by
    intro x v hd hv
    refine VR.move0 (σ := s.sg) (σ' := (start args h ro).sg) (cx := cx) (cx' := cx) (fun i => rfl) (Nat.le_of_eq hlen.symm) (fun i _ bi hbi => ?_) (fun _ _ => rfl) (fun _ h => h) hv hd
    obtain ⟨b, hb, rfl⟩ := sg_b hbi
    obtain ⟨j, e, hj⟩ := start_cur hb
    cases e
    exact sg_of (hcur i b hj).1
  refine ⟨?_, mv⟩
  refine ⟨fun l b hb j q x hx => ?_, fun l b hb => ?_, fun l b hb => ?_, fun l b hb => ?_, fun l b hb => ?_, fun l l' b b' hb hb' => ?_, fun i es c hi => ?_, fun i j es c es' c' hi hj => ?_, M.ims⟩
  · obtain ⟨i, rfl, hi⟩ := start_cur hb
    obtain ⟨v, h1, h2, h3⟩ := M.live _ b (hcur i b hi).1 j q x hx
    obtain ⟨cs, h4, h5⟩ := cellA_of hx
    exact ⟨v, h1, mv (.one (H.blk i b (hcur i b hi).2 cs (List.mem_of_getElem? h4) x (List.mem_of_getElem? h5))) h2, h3⟩
  · obtain ⟨i, rfl, hi⟩ := start_cur hb; exact M.zs _ b (hcur i b hi).1
  · obtain ⟨i, rfl, hi⟩ := start_cur hb; exact M.mu _ b (hcur i b hi).1
  · obtain ⟨i, rfl, hi⟩ := start_cur hb; exact M.fz _ b (hcur i b hi).1
  · obtain ⟨i, rfl, hi⟩ := start_cur hb; exact M.emp _ b (hcur i b hi).1
  · obtain ⟨i, rfl, hi⟩ := start_cur hb
    obtain ⟨i', rfl, hi'⟩ := start_cur hb'
    exact M.dis _ _ b b' (hcur i b hi).1 (hcur i' b' hi').1
  · have hi' := hmap i es c hi
    obtain ⟨es', h1, h2, h3⟩ := M.maps i es c hi'
    refine ⟨es', h1, h2, fun j e e' he he' => ?_⟩
    obtain ⟨k1, k2, k3⟩ := h3 j e e' he he'
    obtain ⟨d1, d2⟩ := H.map i es c hi' e (List.mem_of_getElem? he)
    exact ⟨mv d1 k1, mv d2 k2, k3⟩
  · exact M.mdis i j es c es' c' (hmap i es c hi) (hmap j es' c' hj)

theorem dead_get {h : List HB} {n i : Nat} {x : HB} (hx : (h ++ List.replicate n .dead)[i]? = some x) (hd : x ≠ .dead) : h[i]? = some x := by
  rcases Nat.lt_or_ge i h.length with hl | hl
  · rwa [List.getElem?_append_left hl] at hx
  · rw [List.getElem?_append_right hl, List.getElem?_replicate] at hx
    split at hx
    · simp only [Option.some.injEq] at hx; exact absurd hx.symm hd
    · cases hx

/-- A call that only computes: what was there is there. -/
theorem keep_mr {s : St} {cx : Cx} {w w' : World} (M : MR s cx w) (n : Nat) (hh : ∀ r, r < w.heap.size → w'.heap[r]? = w.heap[r]?) (hos : w'.os = w.os) (htp : w'.tape = w.tape) (hou : w'.output = w.output) (hsz : w.heap.size ≤ w'.heap.size) :
    Go1 s cx w { s with h := s.h ++ List.replicate n .dead } cx w' ∧ MR { s with h := s.h ++ List.replicate n .dead } cx w' := by
  have hcur : ∀ l b, ({ s with h := s.h ++ List.replicate n .dead } : St).cur l = some b → s.cur l = some b := by
    intro l b hb
    cases l with
    | v i => exact hb
    | a i => exact hb
    | h i =>
      have := dead_get (blkAt_some hb) (by simp)
      simp [St.cur, this, blkAt]
  have hmap : ∀ (i : Nat) (es : List Ent) (c : Nat), (s.h ++ List.replicate n .dead)[i]? = some (HB.map es c) → s.h[i]? = some (.map es c) := fun i es c hi => dead_get hi (by simp)
  have hgen : ∀ l, ({ s with h := s.h ++ List.replicate n .dead } : St).gen l = s.gen l := fun l => by cases l <;> rfl
  have E : Ext s.sg cx w ({ s with h := s.h ++ List.replicate n .dead } : St).sg cx w' :=
    ext_grow (fun l => by rw [hgen]; exact Nat.le_refl _) (by simp) (fun l _ _ b hb => ⟨⟨b, hcur l b hb, rfl⟩, rfl⟩) (fun _ _ => rfl) (fun _ h => h) hh
  refine ⟨⟨E, fun r hr _ => hh r hr, fun r hr => ?_, fun r hr => .inl hr, hos, htp, hou, hsz⟩, ?_⟩
  · rcases hr with ⟨l, b, h1, h2, h3, h4, h5⟩ | ⟨i, es, c, h1, h2, h3⟩
    · exact .inl (.inl ⟨l, b, hcur l b h1, h2, h3, h4, h5⟩)
    · exact .inl (.inr ⟨i, es, c, hmap i es c h1, h2, h3⟩)
  · refine ⟨fun l b hb j q x hx => ?_, fun l b hb => M.zs l b (hcur l b hb), fun l b hb hf hne => ?_, fun l b hb => M.fz l b (hcur l b hb), fun l b hb => M.emp l b (hcur l b hb),
      fun l l' b b' hb hb' => M.dis l l' b b' (hcur l b hb) (hcur l' b' hb'), fun i es c hi => ?_, fun i j es c es' c' hi hj => M.mdis i j es c es' c' (hmap i es c hi) (hmap j es' c' hj), fun r hr => ?_⟩
    · obtain ⟨v, h1, h2, h3⟩ := M.live l b (hcur l b hb) j q x hx
      exact ⟨v, by rw [cel_of_heap (hh _ (cel_lt h1))]; exact h1, h2.ext E, h3⟩
    · obtain ⟨a1, a2⟩ := M.mu l b (hcur l b hb) hf hne
      exact ⟨a1, a2.of_heap (hh _ a2.lt)⟩
    · obtain ⟨es', h1, h2, h3⟩ := M.maps i es c (hmap i es c hi)
      exact ⟨es', by rw [hh _ (Array.getElem?_eq_some_iff.1 h1).1]; exact h1, h2, fun j e e' he he' => by obtain ⟨k1, k2, k3⟩ := h3 j e e' he he'; exact ⟨k1.ext E, k2.ext E, k3⟩⟩
    · obtain ⟨a1, a2⟩ := M.ims r hr
      exact ⟨Nat.lt_of_lt_of_le a1 hsz, by rw [hh r a1]; exact a2⟩

/-- How the state behind a call is put together: of the caller's slots, and of those that come back. -/
structure Cmb (s1 s' s2 : St) (ψ : Loc → Option Loc) (roc : Bool) : Prop where
  vN : ∀ i, ψ (.v i) = none
  hp : ∀ i, ψ (.h i) = some (.h i)
  old : ∀ l, ψ l = none → s2.cur l = s1.cur l ∧ s2.gen l = s1.gen l
  new : ∀ l l', ψ l = some l' → s2.cur l = s'.cur l'
  gA : ∀ i l', ψ (.a i) = some l' → s1.gen (.a i) < s2.gen (.a i)
  kA : ∀ i l', ψ (.a i) = some l' → ∃ k, l' = .a k
  inj : ∀ l1 l2 l', ψ l1 = some l' → ψ l2 = some l' → l1 = l2
  h : s2.h = s'.h
  hl : s1.h.length ≤ s2.h.length
  ro : s2.ro = s1.ro
  ro' : s'.ro = roc
  way : (roc = false ∧ s1.ro = false) ∨ (roc = true ∧ ∃ n, s'.h = s1.h ++ List.replicate n .dead)

def cmbL (cx1 cx' : Cx) (ψ : Loc → Option Loc) (l : Loc) : Nat :=
  match ψ l with
  | some l' => cx'.lm l'
  | none => cx1.lm l

theorem cells_map {w : World} {r n : Nat} {es : Array MapEntry} {c : Nat} (h : Room w r n) (hm : w.heap[r]? = some (.map es c)) : False := by
  obtain ⟨⟨a, b, f, e⟩, _⟩ := h
  rw [hm] at e; cases e

theorem combine {s1 s' s2 : St} {cx1 cx' : Cx} {w w' : World} {ψ : Loc → Option Loc} {vs : List AV} {roc : Bool} (M : MR s1 cx1 w) (G : Go1 (start vs s1.h roc) cx1 w s' cx' w') (M' : MR s' cx' w')
    (C : Cmb s1 s' s2 ψ roc) (F' : WF s') :
    Go1 s1 cx1 w s2 ⟨cmbL cx1 cx' ψ, cx'.im⟩ w' ∧ MR s2 ⟨cmbL cx1 cx' ψ, cx'.im⟩ w' ∧ ∀ {x v}, D0 x → VR s'.sg cx' w' x v → VR s2.sg ⟨cmbL cx1 cx' ψ, cx'.im⟩ w' x v := by
  have scur : ∀ (i : Nat) (b : Blk), (start vs s1.h roc).cur (.h i) = some b → s1.cur (.h i) = some b := fun i b h => h
  -- what the callee may turn
  have mt : ∀ r, Mt (start vs s1.h roc) cx1 r → s1.ro = false ∧ roc = false ∧ ((∃ i b, s1.cur (.h i) = some b ∧ b.fz = false ∧ b.els ≠ [] ∧ cx1.lm (.h i) = r) ∨
      ∃ i es c, s1.h[i]? = some (.map es c) ∧ cx1.lm (.h i) = r) := by
    intro r hr
    rcases C.way with ⟨rfl, hro⟩ | ⟨rfl, _⟩
    · rcases hr with ⟨l, b, h1, h2, h3, h4, h5⟩ | ⟨i, es, c, h1, h2, h3⟩
      · obtain ⟨i, rfl, hi⟩ := start_cur h1
        exact ⟨hro, rfl, .inl ⟨i, b, scur i b h1, h2, h3, h4⟩⟩
      · exact ⟨hro, rfl, .inr ⟨i, es, c, h1, h2⟩⟩
    · exfalso
      rcases hr with ⟨l, b, h1, h2, h3, h4, h5⟩ | ⟨i, es, c, h1, h2, h3⟩
      · obtain ⟨i, rfl, hi⟩ := start_cur h1
        have := h5 rfl
        cases this
      · cases h3
  have mts : ∀ r, Mt (start vs s1.h roc) cx1 r → Mt s1 cx1 r := by
    intro r hr
    obtain ⟨hro, _, h⟩ := mt r hr
    rcases h with ⟨i, b, h1, h2, h3, h4⟩ | ⟨i, es, c, h1, h2⟩
    · exact .inl ⟨_, b, h1, h2, h3, h4, fun _ => hro⟩
    · exact .inr ⟨i, es, c, h1, h2, hro⟩
  -- a block of the caller's frame stays
  have lt1 : ∀ l b, s1.cur l = some b → b.els ≠ [] → cx1.lm l < w.heap.size := by
    intro l b hb hne
    cases hf : b.fz with
    | false => exact (M.mu l b hb hf hne).2.lt
    | true => exact (M.ims _ (M.fz l b hb hf hne)).1
  have nh : ∀ l, ψ l = none → isH l = false := by
    intro l h
    cases l with
    | v i => rfl
    | a i => rfl
    | h i => rw [C.hp] at h; cases h
  have stay : ∀ l b, ψ l = none → s1.cur l = some b → b.els ≠ [] → ¬ Mt (start vs s1.h roc) cx1 (cx1.lm l) := by
    intro l b hψ hb hne hr
    have hnl := nh l hψ
    rcases (mt _ hr).2.2 with ⟨i, b', h1, h2, h3, h4⟩ | ⟨i, es, c, h1, h2⟩
    · cases hf : b.fz with
      | false => exact M.dis _ _ b' b h1 hb h2 hf h3 hne (fun e => by rw [← e] at hnl; cases hnl) h4
      | true => exact (M.mu _ b' h1 h2 h3).1 (h4 ▸ M.fz l b hb hf hne)
    · obtain ⟨es', h7, _⟩ := M.maps i es c h1
      rw [h2] at h7
      cases hf : b.fz with
      | false => exact cells_map (M.mu l b hb hf hne).2 h7
      | true =>
        obtain ⟨_, a, e, f, h8⟩ := M.ims _ (M.fz l b hb hf hne)
        rw [h7] at h8; cases h8
  have same : ∀ l b, ψ l = none → s1.cur l = some b → b.els ≠ [] → w'.heap[cx1.lm l]? = w.heap[cx1.lm l]? := fun l b hψ hb hne => G.fr _ (lt1 l b hb hne) (stay l b hψ hb hne)
  have curN : ∀ l b, ψ l = none → s2.cur l = some b → s1.cur l = some b ∧ cmbL cx1 cx' ψ l = cx1.lm l := by
    intro l b hψ hb
    rw [(C.old _ hψ).1] at hb
    exact ⟨hb, by simp [cmbL, hψ]⟩
  have lmS : ∀ l l', ψ l = some l' → cmbL cx1 cx' ψ l = cx'.lm l' := by
    intro l l' h
    simp [cmbL, h]
  have lmH : ∀ i, cmbL cx1 cx' ψ (.h i) = cx'.lm (.h i) := fun i => lmS _ _ (C.hp i)
  have noV : ∀ l l', ψ l = some l' → isV l' = false := by
    intro l l' h
    cases l with
    | v i => rw [C.vN] at h; cases h
    | a i => obtain ⟨k, rfl⟩ := C.kA i l' h; rfl
    | h i => rw [C.hp] at h; cases h; rfl
  have E : Ext s1.sg cx1 w s2.sg ⟨cmbL cx1 cx' ψ, cx'.im⟩ w' := by
    refine ⟨fun l => ?_, C.hl, fun l hg hi bi hb => ?_, fun i hi => (lmH i).trans (G.ext.lh i hi), G.ext.im, G.ext.imc, G.ext.room⟩
    · show s1.gen l ≤ s2.gen l
      cases hψ : ψ l with
      | none => exact Nat.le_of_eq (C.old _ hψ).2.symm
      | some l' => cases l with
        | v i => rw [C.vN] at hψ; cases hψ
        | a i => exact Nat.le_of_lt (C.gA i l' hψ)
        | h i => exact Nat.le_refl _
    · obtain ⟨b, h2, rfl⟩ := sg_b hb
      cases hψ : ψ l with
      | none =>
        obtain ⟨a1, a2⟩ := curN l b hψ h2
        exact ⟨sg_of a1, a2⟩
      | some l' =>
        cases l with
        | v i => rw [C.vN] at hψ; cases hψ
        | a i =>
          have h3 : s1.gen (.a i) = s2.gen (.a i) := hg
          have := C.gA i l' hψ
          omega
        | h i =>
          rw [C.new _ _ (C.hp i)] at h2
          obtain ⟨a1, a2⟩ := G.ext.b (.h i) rfl (fun j e => by cases e; exact hi i rfl) b.bi (sg_of h2)
          exact ⟨a1, (lmH i).trans a2⟩
  have mv : ∀ {x v}, D0 x → VR s'.sg cx' w' x v → VR s2.sg ⟨cmbL cx1 cx' ψ, cx'.im⟩ w' x v := by
    intro x v hd hv
    refine VR.move0 (σ := s'.sg) (σ' := s2.sg) (cx := cx') (cx' := ⟨cmbL cx1 cx' ψ, cx'.im⟩) (fun i => rfl) (Nat.le_of_eq (by show s'.h.length = s2.h.length; rw [C.h])) (fun i hi bi hbi => ?_) (fun i _ => lmH i) (fun _ h => h) hv hd
    obtain ⟨b, hb, rfl⟩ := sg_b hbi
    rw [C.new _ _ (C.hp i)] at hb
    exact sg_of hb
  have dcS : ∀ l b, isV l = false → s'.cur l = some b → ∀ cs, cs ∈ b.els → ∀ x, x ∈ cs → DC x := by
    intro l b hl hb cs hcs x hx
    cases l with
    | v i => cases hl
    | a i => exact F'.a i b hb cs hcs x hx
    | h i => exact F'.h.blk i b (blkAt_some hb) cs hcs x hx
  -- in a callee that only reads the heap is as it was
  have hro : roc = true → ∀ i b, s'.cur (.h i) = some b → s1.cur (.h i) = some b ∧ cx'.lm (.h i) = cx1.lm (.h i) := by
    intro hr i b hb
    rcases C.way with ⟨e, _⟩ | ⟨_, n, hn⟩
    · rw [e] at hr; cases hr
    · have h1 := blkAt_some hb
      rw [hn] at h1
      have h2 := dead_get h1 (by simp)
      exact ⟨by simp [St.cur, h2, blkAt], G.ext.lh i (List.getElem?_eq_some_iff.1 h2).1⟩
  have hroM : roc = true → ∀ (i : Nat) (es : List Ent) (c : Nat), s'.h[i]? = some (.map es c) → s1.h[i]? = some (.map es c) ∧ cx'.lm (.h i) = cx1.lm (.h i) := by
    intro hr i es c hb
    rcases C.way with ⟨e, _⟩ | ⟨_, n, hn⟩
    · rw [e] at hr; cases hr
    · rw [hn] at hb
      have h2 := dead_get hb (by simp)
      exact ⟨h2, G.ext.lh i (List.getElem?_eq_some_iff.1 h2).1⟩
  -- a block that comes back is none of the caller's frame
  have apart : ∀ l1 l1' l2 b1 b2, ψ l1 = some l1' → ψ l2 = none → s'.cur l1' = some b1 → s1.cur l2 = some b2 → b1.fz = false → b2.fz = false → b1.els ≠ [] → b2.els ≠ [] → cx'.lm l1' ≠ cx1.lm l2 := by
    intro l1 l1' l2 b1 b2 h1 h2 hb1 hb2 hf1 hf2 hn1 hn2 e
    have hl2 := nh l2 h2
    by_cases hw : s'.wr l1'
    · rcases G.own _ (.inl ⟨l1', b1, hb1, hf1, hn1, rfl, hw⟩) with hm | hm
      · rw [e] at hm; exact stay l2 b2 h2 hb2 hn2 hm
      · rw [e] at hm; have := lt1 l2 b2 hb2 hn2; omega
    · cases l1' with
      | v i => exact hw (fun h => by cases h)
      | a i => exact hw (fun h => by cases h)
      | h i =>
        have hr : roc = true := by
          cases hr : roc with
          | true => rfl
          | false => exact absurd (fun _ => by rw [C.ro']; exact hr) hw
        obtain ⟨a1, a2⟩ := hro hr i b1 hb1
        rw [a2] at e
        exact M.dis _ _ b1 b2 a1 hb2 hf1 hf2 hn1 hn2 (fun e => by rw [← e] at hl2; cases hl2) e
  have nim : ∀ l b, ψ l = none → s1.cur l = some b → b.fz = false → b.els ≠ [] → ¬ cx'.im (cx1.lm l) := by
    intro l b hψ hb hf hne hi
    rcases G.imo _ hi with h | h | h
    · exact (M.mu l b hb hf hne).1 h
    · exact stay l b hψ hb hne h
    · have := lt1 l b hb hne; omega
  refine ⟨⟨E, fun r hr hm => G.fr r hr (fun h => hm (mts r h)), fun r hr => ?_, fun r hr => ?_, G.os, G.tape, G.output, G.size⟩, ?_, mv⟩
  · rcases hr with ⟨l, b, h1, h2, h3, h4, h5⟩ | ⟨i, es, c, h1, h2, h3⟩
    · cases hψ : ψ l with
      | none =>
        obtain ⟨a1, a2⟩ := curN l b hψ h1
        exact .inl (.inl ⟨l, b, a1, h2, h3, by rw [← h4]; exact a2.symm, fun e => by rw [← C.ro]; exact h5 e⟩)
      | some l' =>
        rw [C.new l l' hψ] at h1
        have h4' : cx'.lm l' = r := by rw [← h4]; exact (lmS l l' hψ).symm
        by_cases hw : s'.wr l'
        · rcases G.own r (.inl ⟨l', b, h1, h2, h3, h4', hw⟩) with h | h
          · exact .inl (mts r h)
          · exact .inr h
        · cases l' with
          | v i => exact absurd (fun h => by cases h) hw
          | a i => exact absurd (fun h => by cases h) hw
          | h i =>
            have hr : roc = true := by
              cases hr : roc with
              | true => rfl
              | false => exact absurd (fun _ => by rw [C.ro']; exact hr) hw
            obtain ⟨a1, a2⟩ := hro hr i b h1
            have hl : l = .h i := C.inj _ _ _ hψ (C.hp i)
            subst hl
            exact .inl (.inl ⟨_, b, a1, h2, h3, by rw [← a2]; exact h4', fun e => by rw [← C.ro]; exact h5 e⟩)
    · have h1' : s'.h[i]? = some (.map es c) := by rw [← C.h]; exact h1
      have h2' : cx'.lm (.h i) = r := by rw [← h2]; exact (lmH i).symm
      have h3' : s1.ro = false := by rw [← C.ro]; exact h3
      cases hr : roc with
      | false =>
        rcases G.own r (.inr ⟨i, es, c, h1', h2', by rw [C.ro']; exact hr⟩) with h | h
        · exact .inl (mts r h)
        · exact .inr h
      | true =>
        obtain ⟨a1, a2⟩ := hroM hr i es c h1'
        exact .inl (.inr ⟨i, es, c, a1, by rw [← a2]; exact h2', h3'⟩)
  · rcases G.imo r hr with h | h | h
    · exact .inl h
    · exact .inr (.inl (mts r h))
    · exact .inr (.inr h)
  · refine ⟨fun l b hb j q x hx => ?_, fun l b hb => ?_, fun l b hb hf hne => ?_, fun l b hb hf hne => ?_, fun l b hb => ?_, fun l l2 b b2 hb hb2 hf hf2 hn hn2 hll => ?_, fun i es c hi => ?_, fun i j es c es' c' hi hj hij => ?_, M'.ims⟩
    · cases hψ : ψ l with
      | none =>
        obtain ⟨a1, a2⟩ := curN l b hψ hb
        obtain ⟨v, h1, h2, h3⟩ := M.live l b a1 j q x hx
        have hne : b.els ≠ [] := by intro e; rw [e] at hx; simp [cellA] at hx
        refine ⟨v, ?_, h2.ext E, h3⟩
        show cel w' (cmbL cx1 cx' ψ l) _ = _
        rw [a2, cel_of_heap (same l b hψ a1 hne)]
        exact h1
      | some l' =>
        rw [C.new l l' hψ] at hb
        obtain ⟨v, h1, h2, h3⟩ := M'.live l' b hb j q x hx
        obtain ⟨cs, h4, h5⟩ := cellA_of hx
        refine ⟨v, ?_, mv (.one (dcS l' b (noV l l' hψ) hb cs (List.mem_of_getElem? h4) x (List.mem_of_getElem? h5))) h2, h3⟩
        show cel w' (cmbL cx1 cx' ψ l) _ = _
        rw [lmS l l' hψ]
        exact h1
    · cases hψ : ψ l with
      | none => exact M.zs l b (curN l b hψ hb).1
      | some l' => rw [C.new l l' hψ] at hb; exact M'.zs l' b hb
    · show ¬ cx'.im (cmbL cx1 cx' ψ l) ∧ Room w' (cmbL cx1 cx' ψ l) _
      cases hψ : ψ l with
      | none =>
        obtain ⟨a1, a2⟩ := curN l b hψ hb
        rw [a2]
        exact ⟨nim l b hψ a1 hf hne, (M.mu l b a1 hf hne).2.of_heap (same l b hψ a1 hne)⟩
      | some l' => rw [C.new l l' hψ] at hb; rw [lmS l l' hψ]; exact M'.mu l' b hb hf hne
    · show cx'.im (cmbL cx1 cx' ψ l)
      cases hψ : ψ l with
      | none =>
        obtain ⟨a1, a2⟩ := curN l b hψ hb
        rw [a2]; exact G.ext.im _ (M.fz l b a1 hf hne)
      | some l' => rw [C.new l l' hψ] at hb; rw [lmS l l' hψ]; exact M'.fz l' b hb hf hne
    · cases hψ : ψ l with
      | none => exact M.emp l b (curN l b hψ hb).1
      | some l' => rw [C.new l l' hψ] at hb; exact M'.emp l' b hb
    · show cmbL cx1 cx' ψ l ≠ cmbL cx1 cx' ψ l2
      cases hψ : ψ l with
      | none =>
        obtain ⟨a1, a2⟩ := curN l b hψ hb
        rw [a2]
        cases hψ2 : ψ l2 with
        | none =>
          obtain ⟨c1, c2⟩ := curN l2 b2 hψ2 hb2
          rw [c2]; exact M.dis l l2 b b2 a1 c1 hf hf2 hn hn2 hll
        | some l2' =>
          rw [C.new l2 l2' hψ2] at hb2
          rw [lmS l2 l2' hψ2]
          exact fun e => apart l2 l2' l b2 b hψ2 hψ hb2 a1 hf2 hf hn2 hn e.symm
      | some l' =>
        rw [C.new l l' hψ] at hb
        rw [lmS l l' hψ]
        cases hψ2 : ψ l2 with
        | none =>
          obtain ⟨c1, c2⟩ := curN l2 b2 hψ2 hb2
          rw [c2]; exact apart l l' l2 b b2 hψ hψ2 hb c1 hf hf2 hn hn2
        | some l2' =>
          rw [C.new l2 l2' hψ2] at hb2
          rw [lmS l2 l2' hψ2]
          exact M'.dis l' l2' b b2 hb hb2 hf hf2 hn hn2 (fun e => hll (C.inj l l2 l' hψ (e ▸ hψ2)))
    · rw [C.h] at hi
      obtain ⟨es', h1, h2, h3⟩ := M'.maps i es c hi
      refine ⟨es', ?_, h2, fun j e e' he he' => ?_⟩
      · show w'.heap[cmbL cx1 cx' ψ (.h i)]? = _
        rw [lmH]; exact h1
      · obtain ⟨k1, k2, k3⟩ := h3 j e e' he he'
        obtain ⟨d1, d2⟩ := F'.h.map i es c hi e (List.mem_of_getElem? he)
        exact ⟨mv d1 k1, mv d2 k2, k3⟩
    · rw [C.h] at hi hj
      show cmbL cx1 cx' ψ (.h i) ≠ cmbL cx1 cx' ψ (.h j)
      rw [lmH, lmH]
      exact M'.mdis i j es c es' c' hi hj hij

end Go.Proofs.Bb
