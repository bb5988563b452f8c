/- Addresses of elements, parts laid together, loads, the greatest and the least. -/
import Derived.Test.YtimlkngjkiknfaaGreatBbOpsB
set_option linter.unusedSimpArgs false
set_option linter.unusedVariables false
namespace Go.Proofs.Bb
open Go
section
variable {P : Program} {s : St} {cx : Cx} {w : World} {a : Act} {o : Oper} {Q : Exit → Act → World → Prop} {C : Orc} {ro : Bool} {d : Nat} {v : AV} {s1 : St}

theorem iaddr_ok {z : Nat} {x i : X} (ho : chkI P o.op (.iaddr z x i) = true) (M : MR s cx w) (T : TR s cx w a) (h : step C ro d s (.iaddr z x i) = some (v, s1)) : Post P o a s cx w v s1 Q := by
  simp only [chkI] at ho
  split at ho
  · rename_i t y j hop
    split at ho
    · rename_i e he
      simp only [Bool.and_eq_true, decide_eq_true_eq] at ho
      obtain ⟨⟨h1, h2⟩, h5⟩ := ho
      have hu := elemO_some he
      obtain ⟨inf, hi1, hsz, hrs⟩ := szO_run (P := P) (w := w) h5
      simp only [step] at h
      split at h
      · rename_i k n hn
        have en := int_inv (hn ▸ ev_ok T h2)
        have hr : ∀ A len c, a.eval y = .slice (some A) len c → 0 ≤ n → n < (len : Int) →
            (execOp a.eval o).run P w = .ok (.value (.pointer (some (A.add (n.toNat * z))))) w := by
          intro A len c e1 g0 g1
          simp [execOp, hop, Instr.indexAt, asIntOf, underlying, hu, e1, en, g0, g1, hrs]
        have hv := ev_ok T h1
        generalize hy : a.eval y = u at hv hr
        split at h
        · rename_i z' els tl hx
          rw [hx] at hv
          cases hv with
          | @sl _ _ _ A len cap r off fc k1 k2 k3 k4 k5 k6 k7 k8 =>
            subst k1
            split at h
            · rename_i hz
              obtain ⟨rfl, hn0⟩ := hz
              split at h
              · rename_i cs hcs
                simp only [Option.some.injEq, Prod.mk.injEq] at h
                obtain ⟨rfl, rfl⟩ := h
                have hlt := (List.getElem?_eq_some_iff.1 hcs).1
                obtain ⟨g1, g2⟩ := k4 (by simp; omega)
                subst g1
                have hcs' : (els ++ tl.getD [])[n.toNat]? = some cs := by rw [List.getElem?_append_left hlt]; exact hcs
                have := VR.ip (σ := s.sg) (cx := cx) (w := w) (cs := cs) (o := 0) r (off + n.toNat * z') (fc n.toNat) g2
                  (fun q x hq => by rw [Nat.add_assoc]; exact k6 _ _ _ (cellA_mk hcs' hq)) (fun q x hq => k7 _ _ _ (cellA_mk hcs' hq)) (fun q x hq => k8 _ _ _ (cellA_mk hcs' hq))
                refine post_pure M (hr _ _ _ rfl hn0 (by omega)) ?_
                rw [add_eq _ _ _ _ rfl]
                exact this
              · cases h
            · cases h
        · rename_i l g z' off len cap hx
          rw [hx] at hv
          split at h
          · rename_i hz
            obtain ⟨rfl, hn0, hn1⟩ := hz
            simp only [Option.some.injEq, Prod.mk.injEq] at h
            obtain ⟨rfl, rfl⟩ := h
            cases hv with
            | @rs _ _ _ _ _ _ c A k1 k2 k3 k4 k5 k6 =>
              obtain ⟨p, rfl⟩ := k3 (by omega)
              refine post_pure M (hr _ _ _ rfl hn0 hn1) (.pt k4 k5 (fun eg b hb => ?_))
              obtain ⟨j1, j2, j3, j4⟩ := k6 eg b hb
              obtain ⟨q1, q2⟩ := j4 (by omega)
              cases q1
              rw [add_eq _ _ _ _ rfl, j1, Nat.add_mul]; rfl
          · cases h
        · cases h
      · cases h
    · cases ho
  · cases ho

theorem iaddra_ok {z n : Nat} {x i : X} (ho : chkI P o.op (.iaddra z n x i) = true) (M : MR s cx w) (T : TR s cx w a) (h : step C ro d s (.iaddra z n x i) = some (v, s1)) : Post P o a s cx w v s1 Q := by
  simp only [chkI] at ho
  split at ho
  · rename_i t y j hop
    split at ho
    · rename_i m e he
      simp only [Bool.and_eq_true, decide_eq_true_eq] at ho
      obtain ⟨⟨⟨h1, h2⟩, h5⟩, rfl⟩ := ho
      have hu := arrO_some he
      obtain ⟨inf, hi1, hsz, hrs⟩ := szO_run (P := P) (w := w) h5
      simp only [step] at h
      split at h
      · rename_i k n hn
        have en := int_inv (hn ▸ ev_ok T h2)
        split at h
        · rename_i hb
          have hr : ∀ A, a.eval y = .pointer (some A) → (execOp a.eval o).run P w = .ok (.value (.pointer (some (A.add (n.toNat * z))))) w := by
            intro A e1
            simp [execOp, hop, Instr.indexAt, asIntOf, underlying, hu, e1, en, hb, hrs, Instr.sureAddr]
          have hv := ev_ok T h1
          generalize hy : a.eval y = u at hv hr
          split at h
          · rename_i l g e0 o0 hx
            rw [hx] at hv
            simp only [Option.some.injEq, Prod.mk.injEq] at h
            obtain ⟨rfl, rfl⟩ := h
            cases hv with
            | @pt _ _ _ _ p hg hl hp =>
              refine post_pure M (hr p rfl) (.pt hg hl (fun eg b hb => ?_))
              rw [add_eq _ _ _ _ (hp eg b hb), Nat.add_assoc]
          · rename_i cs o0 hx
            rw [hx] at hv
            simp only [Option.some.injEq, Prod.mk.injEq] at h
            obtain ⟨rfl, rfl⟩ := h
            cases hv with
            | @ip _ _ r p fc k1 k2 k3 k4 =>
              have := VR.ip (σ := s.sg) (cx := cx) (w := w) (o := o0 + n.toNat * z) r p fc k1 k2 k3 k4
              refine post_pure M (hr _ rfl) ?_
              rw [add_eq _ _ _ _ rfl, Nat.add_assoc]
              exact this
          · cases h
        · cases h
      · cases h
    · cases ho
  · cases ho

/-! ### A load -/

theorem load_run {t : TypeId} {n : Option Nat} {p : Addr} {r q : Nat} {cs : List AV} {o' : Nat} {x : AV} {σ : Sg} (fc : Nat → Value) (hn : nOf P t = some n) (hp : p = ⟨r, q + o', none⟩)
    (hc : ∀ (i : Nat) (x : AV), cs[i]? = some x → cel w r (q + i) = some (fc i)) (hv : ∀ (i : Nat) (x : AV), cs[i]? = some x → VR σ cx w x (fc i)) (h1c : ∀ (i : Nat) (x : AV), cs[i]? = some x → (fc i).oneCell' = true) (hx : ldc cs o' n = some x) :
    ∃ u, (loadVar t p).run P w = .ok u w ∧ VR σ cx w x u := by
  subst hp
  cases n with
  | none =>
    simp only [ldc] at hx
    have h1 := hc _ _ hx
    exact ⟨_, by simp only [cel] at h1; simp [loadVar, isAgg_no hn, h1], hv _ _ hx⟩
  | some n =>
    simp only [ldc] at hx
    split at hx
    · rename_i hle
      cases hx
      obtain ⟨g1, g2⟩ := nOf_some (w := w) hn
      have hl : ((List.range n).map fun i => fc (o' + i)).length = n := by simp
      have hload := run_loadCells_list (P := P) w ⟨r, q + o', none⟩ ((List.range n).map fun i => fc (o' + i)) (fun j u hj => by
        have hlt : j < n := by have := (List.getElem?_eq_some_iff.1 hj).1; simpa using this
        rw [List.getElem?_map, List.getElem?_range hlt] at hj
        simp only [Option.map_some, Option.some.injEq] at hj
        subst hj
        rw [add_eq _ _ _ _ rfl]
        have hlt2 : o' + j < cs.length := by omega
        have := hc (o' + j) _ (List.getElem?_eq_getElem hlt2)
        rw [Nat.add_assoc]; exact this)
      rw [hl] at hload
      refine ⟨.agg ((List.range n).map fun i => fc (o' + i)).toArray, by simp [loadVar, g1, g2, hload], .agg (by simp; omega) (fun i y u hi hu => ?_) (fun i u hu => ?_)⟩
      · have hlt : i < n := by have := (List.getElem?_eq_some_iff.1 hi).1; simp at this; omega
        rw [List.getElem?_take_of_lt hlt, List.getElem?_drop] at hi
        simp only [List.getElem?_toArray, List.getElem?_map, List.getElem?_range hlt, Option.map_some, Option.some.injEq] at hu
        subst hu
        exact hv _ _ hi
      · have hlt : i < n := by have := (Array.getElem?_eq_some_iff.1 hu).1; simpa using this
        simp only [List.getElem?_toArray, List.getElem?_map, List.getElem?_range hlt, Option.map_some, Option.some.injEq] at hu
        subst hu
        exact h1c _ _ (List.getElem?_eq_getElem (by omega))
    · cases hx

theorem pt_addr {l : Loc} {g i o' : Nat} {p : Addr} {b : Blk} (hv : VR s.sg cx w (.pt l g i o') (.pointer (some p))) (hb : s.getB l g = some b) : p = ⟨cx.lm l, i * b.z + o', none⟩ := by
  obtain ⟨h1, h2⟩ := getB_some hb
  cases hv with
  | pt hg hl hp => exact hp h2 b.bi (sg_of h1)

/-- What a live block holds, as a function. -/
theorem live_fn (M : MR s cx w) {l : Loc} {b : Blk} (hb : s.cur l = some b) : ∃ fc : Nat → Nat → Value, ∀ j q x, cellA b.els j q = some x → cel w (cx.lm l) (j * b.z + q) = some (fc j q) ∧ VR s.sg cx w x (fc j q) ∧ (fc j q).oneCell' = true := by
  refine ⟨fun j q => (cel w (cx.lm l) (j * b.z + q)).getD undef, fun j q x hx => ?_⟩
  obtain ⟨v, h1, h2, h3⟩ := M.live l b hb j q x hx
  simp only [h1, Option.getD_some]
  exact ⟨trivial, h2, h3⟩

theorem load_ok {wd : Nat} {n : Option Nat} {x : X} (ho : chkI P o.op (.load wd n x) = true) (M : MR s cx w) (T : TR s cx w a) (h : step C ro d s (.load wd n x) = some (v, s1)) : Post P o a s cx w v s1 Q := by
  simp only [chkI] at ho
  split at ho
  · rename_i t y hop
    simp only [Bool.and_eq_true, decide_eq_true_eq] at ho
    obtain ⟨h1, h2⟩ := ho
    have hr : ∀ p u, a.eval y = .pointer (some p) → (loadVar t p).run P w = .ok u w → (execOp a.eval o).run P w = .ok (.value u) w := by
      intro p u e1 e2
      simp [execOp, hop, Instr.loadAt, e1, Instr.sureAddr, e2]
    have hv := ev_ok T h1
    generalize hy : a.eval y = u at hv hr
    simp only [step] at h
    split at h
    · rename_i cs o' hx
      rw [hx] at hv
      simp only [Option.map_eq_some_iff, Prod.mk.injEq] at h
      obtain ⟨r, hr', rfl, rfl⟩ := h
      cases hv with
      | @ip _ _ r p fc k1 k2 k3 k4 =>
        obtain ⟨u, g1, g2⟩ := load_run (P := P) fc h2 rfl k2 k3 k4 hr'
        exact post_pure M (hr _ _ rfl g1) g2
    · rename_i l g i o' hx
      rw [hx] at hv
      split at h
      · cases h
      · split at h
        · rename_i b hb
          split at h
          · rename_i cs hcs
            simp only [Option.map_eq_some_iff, Prod.mk.injEq] at h
            obtain ⟨r, hr', rfl, rfl⟩ := h
            obtain ⟨fc, hfc⟩ := live_fn M (getB_some hb).1
            cases hv with
            | @pt _ _ _ _ p hg hl hp =>
              have hp' := pt_addr (w := w) (.pt hg hl hp) hb
              obtain ⟨u, g1, g2⟩ := load_run (P := P) (fc i) h2 hp' (fun q x hq => (hfc i q x (cellA_mk hcs hq)).1) (fun q x hq => (hfc i q x (cellA_mk hcs hq)).2.1) (fun q x hq => (hfc i q x (cellA_mk hcs hq)).2.2) hr'
              exact post_pure M (hr _ _ rfl g1) g2
          · cases h
        · cases h
    · cases h
  · cases ho

/-! ### max, min -/

theorem map_args (T : TR s cx w a) {args : Array Operand} {xs : List X} (h : chkXs args.toList xs = true) : ∃ us : List Value, (args.map a.eval).toList = us ∧ us.length = (evL s.t xs).length ∧
    ∀ (i : Nat) (x : AV) (u : Value), (evL s.t xs)[i]? = some x → us[i]? = some u → VR s.sg cx w x u := by
  obtain ⟨h1, h2⟩ := evL_ok T h
  refine ⟨_, rfl, by simp [h1], fun i x u hx hu => h2 i x u hx ?_⟩
  simpa using hu

theorem foldInt {f : Int → Int → Int} {g : Value → Value → Sem Value} (hg : ∀ k x y, (g (Value.int k x) (Value.int k y)).run P w = .ok (Value.int k (f x y)) w) :
    ∀ (rest : List AV) (us : List Value) (k : IntKind) (n : Int) (r : AV), us.length = rest.length → (∀ (i : Nat) (x : AV) (u : Value), rest[i]? = some x → us[i]? = some u → VR s.sg cx w x u) →
      foldI f k n rest = some r → ∃ u, (us.foldlM g (Value.int k n)).run P w = .ok u w ∧ VR s.sg cx w r u := by
  intro rest
  induction rest with
  | nil =>
    intro us k n r hl _ h
    have : us = [] := List.length_eq_zero_iff.1 (by simpa using hl)
    subst this
    simp only [foldI, Option.some.injEq] at h
    subst h
    exact ⟨_, by simp, .int _ _⟩
  | cons y rest ih =>
    intro us k n r hl hv h
    cases us with
    | nil => simp at hl
    | cons u us =>
      have h0 := hv 0 y u rfl rfl
      cases y with
      | int k' m =>
        simp only [foldI] at h
        split at h
        · rename_i hk
          subst hk
          have e := int_inv h0
          subst e
          obtain ⟨u', g1, g2⟩ := ih us k (f n m) r (by simpa using hl) (fun i x u hx hu => hv (i + 1) x u (by simpa using hx) (by simpa using hu)) h
          exact ⟨u', by simp [List.foldlM_cons, hg, g1], g2⟩
        · cases h
      | _ => simp [foldI] at h

theorem max_ok {xs : List X} (ho : chkI P o.op (.max xs) = true) (M : MR s cx w) (T : TR s cx w a) (h : step C ro d s (.max xs) = some (v, s1)) : Post P o a s cx w v s1 Q := by
  simp only [chkI] at ho
  split at ho
  · rename_i c hop
    split at ho
    · rename_i hc
      simp only [step, Option.map_eq_some_iff, Prod.mk.injEq] at h
      obtain ⟨r, hr, rfl, rfl⟩ := h
      obtain ⟨us, e1, e2, e3⟩ := map_args T ho
      unfold maxA at hr
      split at hr
      · rename_i k n rest hxs
        rw [hxs] at e2 e3
        cases us with
        | nil => simp at e2
        | cons u us =>
          have e := int_inv (e3 0 _ u rfl rfl)
          subst e
          obtain ⟨u', g1, g2⟩ := foldInt (P := P) (f := fun x y => if y > x then y else x) (g := Builtin.max2) (fun k x y => by simp [Builtin.max2]) rest us k n r (by simpa using e2)
            (fun i x u hx hu => e3 (i + 1) x u (by simpa using hx) (by simpa using hu)) hr
          refine post_pure M ?_ g2
          simp only [Array.toList_map] at e1
          simp [execOp, hop, resolve, hc, invoke, builtin, Builtin.max_, e1, g1]
      · cases hr
    · cases ho
  · cases ho

theorem min_ok {xs : List X} (ho : chkI P o.op (.min xs) = true) (M : MR s cx w) (T : TR s cx w a) (h : step C ro d s (.min xs) = some (v, s1)) : Post P o a s cx w v s1 Q := by
  simp only [chkI] at ho
  split at ho
  · rename_i c hop
    split at ho
    · rename_i hc
      simp only [step, Option.map_eq_some_iff, Prod.mk.injEq] at h
      obtain ⟨r, hr, rfl, rfl⟩ := h
      obtain ⟨us, e1, e2, e3⟩ := map_args T ho
      unfold minA at hr
      split at hr
      · rename_i k n rest hxs
        rw [hxs] at e2 e3
        cases us with
        | nil => simp at e2
        | cons u us =>
          have e := int_inv (e3 0 _ u rfl rfl)
          subst e
          obtain ⟨u', g1, g2⟩ := foldInt (P := P) (f := fun x y => if y < x then y else x) (g := Builtin.min2) (fun k x y => by simp [Builtin.min2]) rest us k n r (by simpa using e2)
            (fun i x u hx hu => e3 (i + 1) x u (by simpa using hx) (by simpa using hu)) hr
          refine post_pure M ?_ g2
          simp only [Array.toList_map] at e1
          simp [execOp, hop, resolve, hc, invoke, builtin, Builtin.min_, e1, g1]
      · cases hr
    · cases ho
  · cases ho

end
end Go.Proofs.Bb
