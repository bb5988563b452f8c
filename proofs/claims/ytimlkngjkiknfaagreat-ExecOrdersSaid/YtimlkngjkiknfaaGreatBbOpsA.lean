/- The instructions that only compute. -/
import Derived.Test.YtimlkngjkiknfaaGreatBbOps
set_option linter.unusedSimpArgs false
set_option linter.unusedVariables false
namespace Go.Proofs.Bb
open Go
section
variable {P : Program} {s : St} {cx : Cx} {w : World} {a : Act} {o : Oper} {Q : Exit → Act → World → Prop} {C : Orc} {ro : Bool} {d : Nat} {v : AV} {s1 : St}

theorem mv_ok {x : X} (ho : chkI P o.op (.mv x) = true) (M : MR s cx w) (T : TR s cx w a) (h : step C ro d s (.mv x) = some (v, s1)) : Post P o a s cx w v s1 Q := by
  simp only [step, Option.some.injEq, Prod.mk.injEq] at h
  obtain ⟨rfl, rfl⟩ := h
  simp only [chkI] at ho
  split at ho
  · rename_i y hop
    exact post_pure M (by simp [execOp, hop]) (ev_ok T ho)
  · rename_i y hop
    exact post_pure M (by simp [execOp, hop]) (ev_ok T ho)
  · cases ho

theorem pick_ok {c x y : X} (ho : chkI P o.op (.pick c x y) = true) (M : MR s cx w) (T : TR s cx w a) (h : step C ro d s (.pick c x y) = some (v, s1)) : Post P o a s cx w v s1 Q := by
  simp only [step] at h
  split at h
  · rename_i t hc
    simp only [Option.some.injEq, Prod.mk.injEq] at h
    obtain ⟨rfl, rfl⟩ := h
    simp only [chkI] at ho
    split at ho
    · rename_i c' a' b' hop
      simp only [Bool.and_eq_true] at ho
      obtain ⟨⟨h1, h2⟩, h3⟩ := ho
      have e := bool_inv (hc ▸ ev_ok T h1)
      have hv : VR s.sg cx w (if t = true then ev s.t x else ev s.t y) (if t = true then a.eval a' else a.eval b') := by
        cases t
        · exact ev_ok T h3
        · exact ev_ok T h2
      refine post_pure M ?_ hv
      simp [execOp, hop, e, asBool]
    · cases ho
  · cases h

theorem not_ok {x : X} (ho : chkI P o.op (.not x) = true) (M : MR s cx w) (T : TR s cx w a) (h : step C ro d s (.not x) = some (v, s1)) : Post P o a s cx w v s1 Q := by
  simp only [step] at h
  split at h
  · rename_i t hc
    simp only [Option.some.injEq, Prod.mk.injEq] at h
    obtain ⟨rfl, rfl⟩ := h
    simp only [chkI] at ho
    split at ho
    · rename_i ty y hop
      have e := bool_inv (hc ▸ ev_ok T ho)
      exact post_pure M (by simp [execOp, hop, e, Op.unary]) (.bool _)
    · cases ho
  · cases h

theorem convi_ok {k : IntKind} {x : X} (ho : chkI P o.op (.convi k x) = true) (M : MR s cx w) (T : TR s cx w a) (h : step C ro d s (.convi k x) = some (v, s1)) : Post P o a s cx w v s1 Q := by
  simp only [step] at h
  split at h
  · rename_i k0 n hc
    simp only [Option.some.injEq, Prod.mk.injEq] at h
    obtain ⟨rfl, rfl⟩ := h
    simp only [chkI] at ho
    split at ho
    · rename_i t u y hop
      simp only [Bool.and_eq_true] at ho
      obtain ⟨h1, h2⟩ := ho
      split at h2
      · rename_i k1 k2 hs hd
        have hk := of_decide_eq_true h2
        subst hk
        have e := int_inv (hc ▸ ev_ok T h1)
        refine post_pure M ?_ (.int _ _)
        simp [execOp, hop, e, convert, underlying, hs, hd, Conv.intToInt]
      · cases h2
    · cases ho
  · cases h

theorem ext_ok {x : X} {i : Nat} (ho : chkI P o.op (.ext x i) = true) (M : MR s cx w) (T : TR s cx w a) (h : step C ro d s (.ext x i) = some (v, s1)) : Post P o a s cx w v s1 Q := by
  simp only [step] at h
  split at h
  · rename_i vs hc
    simp only [Option.map_eq_some_iff, Prod.mk.injEq] at h
    obtain ⟨y, hy, rfl, rfl⟩ := h
    simp only [chkI] at ho
    split at ho
    · rename_i y' j hop
      simp only [Bool.and_eq_true, decide_eq_true_eq] at ho
      obtain ⟨h1, rfl⟩ := ho
      obtain ⟨us, e, hs, hu⟩ := tup_inv (hc ▸ ev_ok T h1)
      have hlt : i < us.size := by rw [hs]; exact (List.getElem?_eq_some_iff.1 hy).1
      refine post_pure (v' := us[i]) M ?_ (hu i y _ hy (Array.getElem?_eq_getElem hlt))
      simp [execOp, hop, e, Instr.extract, Array.getElem?_eq_getElem hlt]
    · cases ho
  · cases h

theorem nilc_ok {x : X} (ho : chkI P o.op (.nilc x) = true) (M : MR s cx w) (T : TR s cx w a) (h : step C ro d s (.nilc x) = some (v, s1)) : Post P o a s cx w v s1 Q := by
  simp only [chkI] at ho
  split at ho
  · rename_i y hop
    have hv := ev_ok T ho
    have hr : ∀ u, a.eval y = u → u ≠ .pointer none → u ≠ .nilIface → u ≠ .nilFunc → (∀ m f c, u ≠ .func (.method m) f c) → (execOp a.eval o).run P w = .ok (.value u) w := by
      intro u e h1 h2 h3 h4
      simp only [execOp, hop, e]
      rfl
    generalize hu : a.eval y = u at hv
    have hr := hr u hu
    simp only [step] at h
    split at h
    · rename_i l g i off hc
      simp only [Option.some.injEq, Prod.mk.injEq] at h
      obtain ⟨rfl, rfl⟩ := h
      rw [hc] at hv
      refine post_pure M (hr ?_ ?_ ?_ ?_) hv <;> (cases hv; simp)
    · rename_i cs off hc
      simp only [Option.some.injEq, Prod.mk.injEq] at h
      obtain ⟨rfl, rfl⟩ := h
      rw [hc] at hv
      refine post_pure M (hr ?_ ?_ ?_ ?_) hv <;> (cases hv; simp)
    · rename_i f c1 c2 hc
      simp only [Option.some.injEq, Prod.mk.injEq] at h
      obtain ⟨rfl, rfl⟩ := h
      rw [hc] at hv
      refine post_pure M (hr ?_ ?_ ?_ ?_) hv <;> (cases hv; simp)
    · cases h
  · cases ho

theorem szO_run {t : TypeId} {n : Nat} (h : szO P t = some n) : ∃ i, P.info? t = some i ∧ i.size = n ∧ (sizeOf t).run P w = .ok n w := by
  unfold szO at h
  cases hi : P.info? t with
  | none => simp [hi] at h
  | some i => simp [hi] at h; exact ⟨i, rfl, h, by simp [sizeOf, typeInfo, hi, h]⟩

theorem add_eq (p : Addr) (n : Nat) (r q : Nat) (h : p = ⟨r, q, none⟩) : p.add n = ⟨r, q + n, none⟩ := by
  subst h; unfold Addr.add; split <;> simp_all

theorem faddr_ok {x : X} {off : Nat} (ho : chkI P o.op (.faddr x off) = true) (M : MR s cx w) (T : TR s cx w a) (h : step C ro d s (.faddr x off) = some (v, s1)) : Post P o a s cx w v s1 Q := by
  simp only [chkI] at ho
  split at ho
  · rename_i t y f hop
    split at ho
    · rename_i fs hf
      split at ho
      · rename_i fd hfd
        simp only [Bool.and_eq_true, decide_eq_true_eq] at ho
        obtain ⟨⟨h1, rfl⟩, h2⟩ := ho
        split at h2
        · rename_i n hn
          have h2 := of_decide_eq_true h2
          obtain ⟨inf, hi, hsz, hrs⟩ := szO_run (P := P) (w := w) hn
          have hund : ∃ fs', P.underlying t = some (.struct fs') ∧ fs'[f]? = some fd := by
            unfold fldO at hf
            split at hf
            · rename_i fs' hund
              cases hf
              exact ⟨fs', hund, by rw [← Array.getElem?_toList]; exact hfd⟩
            · cases hf
          obtain ⟨fs', hund, hfd'⟩ := hund
          have hr : ∀ p, a.eval y = .pointer (some p) → (execOp a.eval o).run P w = .ok (.value (.pointer (some (p.add fd.offset)))) w := by
            intro p e
            have hne : ¬ n = 0 := by omega
            simp [execOp, hop, e, Instr.fieldAt, underlying, hund, hfd', Instr.sureAddr, fieldPlace, hrs, hne]
          have hv := ev_ok T h1
          generalize hu : a.eval y = u at hv hr
          simp only [step] at h
          split at h
          · rename_i l g i off hc
            simp only [Option.some.injEq, Prod.mk.injEq] at h
            obtain ⟨rfl, rfl⟩ := h
            rw [hc] at hv
            cases hv with
            | @pt _ _ _ _ p hg hl hp =>
              refine post_pure M (hr p rfl) (.pt hg hl (fun e b hb => ?_))
              rw [add_eq _ _ _ _ (hp e b hb), Nat.add_assoc]
          · rename_i cs off hc
            simp only [Option.some.injEq, Prod.mk.injEq] at h
            obtain ⟨rfl, rfl⟩ := h
            rw [hc] at hv
            cases hv with
            | @ip _ _ r p fc k1 k2 k3 k4 =>
              have := VR.ip (σ := s.sg) (cx := cx) (w := w) (o := off + fd.offset) r p fc k1 k2 k3 k4
              refine post_pure M (hr _ rfl) ?_
              rw [add_eq _ _ _ _ rfl, Nat.add_assoc]
              exact this
          · cases h
        · cases h2
      · cases ho
    · cases ho
  · cases ho

theorem fld_ok {x : X} {off : Nat} {n : Option Nat} (ho : chkI P o.op (.fld x off n) = true) (M : MR s cx w) (T : TR s cx w a) (h : step C ro d s (.fld x off n) = some (v, s1)) : Post P o a s cx w v s1 Q := by
  simp only [step] at h
  split at h
  · rename_i cs hc
    simp only [Option.map_eq_some_iff, Prod.mk.injEq] at h
    obtain ⟨y, hy, rfl, rfl⟩ := h
    simp only [chkI] at ho
    split at ho
    · rename_i t y' f hop
      split at ho
      · rename_i fs hf
        split at ho
        · rename_i fd hfd
          simp only [Bool.and_eq_true, decide_eq_true_eq] at ho
          obtain ⟨⟨h1, rfl⟩, h2⟩ := ho
          obtain ⟨us, e, hs, hu, hu1⟩ := agg_inv (hc ▸ ev_ok T h1)
          obtain ⟨u, hr, hv⟩ := part_ok (P := P) (w := w) hu1 h2 hs hu hy
          unfold fldO at hf
          split at hf
          · rename_i fs' hund
            cases hf
            have hfd' : fs'[f]? = some fd := by rw [← Array.getElem?_toList]; exact hfd
            refine post_pure M ?_ hv
            simp [execOp, hop, e, Instr.field, underlying, hund, hfd', asAgg, hr]
          · cases hf
        · cases ho
      · cases ho
    · cases ho
  · cases h

theorem idx_ok {z n : Nat} {m : Option Nat} {x i : X} (ho : chkI P o.op (.idx z n m x i) = true) (M : MR s cx w) (T : TR s cx w a) (h : step C ro d s (.idx z n m x i) = some (v, s1)) : Post P o a s cx w v s1 Q := by
  simp only [step] at h
  split at h
  · rename_i cs k i' hc hi
    split at h
    · rename_i hb
      simp only [Option.map_eq_some_iff, Prod.mk.injEq] at h
      obtain ⟨y, hy, rfl, rfl⟩ := h
      simp only [chkI] at ho
      split at ho
      · rename_i t y' j hop
        split at ho
        · rename_i k' e hf
          simp only [Bool.and_eq_true, decide_eq_true_eq] at ho
          obtain ⟨⟨⟨⟨h1, h2⟩, h3⟩, rfl⟩, h4⟩ := ho
          obtain ⟨us, eq, hs, hu, hu1⟩ := agg_inv (hc ▸ ev_ok T h1)
          have ei := int_inv (hi ▸ ev_ok T h2)
          obtain ⟨u, hr, hv⟩ := part_ok (P := P) (w := w) hu1 h4 hs hu hy
          unfold arrO at hf
          split at hf
          · rename_i n' e' hund
            simp only [Option.some.injEq, Prod.mk.injEq] at hf
            obtain ⟨rfl, rfl⟩ := hf
            unfold szO at h3
            cases hinf : P.info? e' with
            | none => simp [hinf] at h3
            | some inf =>
              simp [hinf] at h3
              refine post_pure M ?_ hv
              simp [execOp, hop, eq, ei, Instr.index, asIntOf, underlying, hund, sizeOf, typeInfo, hinf, h3, hb, hr]
          · cases hf
        · cases ho
      · cases ho
    · cases h
  · cases h

theorem idxs_ok {x i : X} (ho : chkI P o.op (.idxs x i) = true) (M : MR s cx w) (T : TR s cx w a) (h : step C ro d s (.idxs x i) = some (v, s1)) : Post P o a s cx w v s1 Q := by
  simp only [step] at h
  split at h
  · rename_i b k i' hc hi
    split at h
    · rename_i hb
      split at h
      · rename_i c hcc
        simp only [Option.some.injEq, Prod.mk.injEq] at h
        obtain ⟨rfl, rfl⟩ := h
        simp only [chkI] at ho
        split at ho
        · rename_i t y' j hop
          simp only [Bool.and_eq_true] at ho
          obtain ⟨⟨h1, h2⟩, h3⟩ := ho
          split at h3
          · rename_i hund
            have e1 := str_inv (hc ▸ ev_ok T h1)
            have e2 := int_inv (hi ▸ ev_ok T h2)
            refine post_pure M ?_ (.int _ _)
            simp [execOp, hop, e1, e2, Instr.index, asIntOf, underlying, hund, hb, hcc]
          · cases h3
        · cases ho
      · cases h
    · cases h
  · cases h

theorem eqGuard_no (op : BinOp) (t : TypeId) (x y : Operand) (u v : Value) (h : (∀ a b, u ≠ .agg a ∨ v ≠ .agg b) ∧ (u ≠ .nilIface ∨ v ≠ .nilIface)) : (eqGuard op t x y u v).run P w = .ok () w := by
  cases u with
  | agg a =>
    cases v with
    | agg b => exact absurd rfl ((h.1 a b).resolve_right (by simp))
    | _ => cases op <;> simp [eqGuard]
  | nilIface =>
    cases v with
    | nilIface => exact absurd rfl (h.2.resolve_right (by simp))
    | _ => cases op <;> simp [eqGuard]
  | _ => cases op <;> simp [eqGuard]

theorem abin_run {op : BinOp} {x y r : AV} {t : TypeId} {u1 u2 : Value} (hr : abin op x y = some r) (h1 : VR s.sg cx w x u1) (h2 : VR s.sg cx w y u2)
    (ht : binOK P op t = true) : ∃ r', (binOp op t u1 u2).run P w = .ok r' w ∧ VR s.sg cx w r r' ∧ (∀ a b, u1 ≠ .agg a ∨ u2 ≠ .agg b) ∧ (u1 ≠ .nilIface ∨ u2 ≠ .nilIface) := by
  unfold abin at hr
  split at hr
  · rename_i k n k' m
    have e1 := int_inv h1
    have e2 := int_inv h2
    subst e1 e2
    refine (fun ⟨r', p⟩ => ⟨r', p.1, p.2, by simp, by simp⟩ : (∃ r', (binOp op t (.int k n) (.int k' m)).run P w = .ok r' w ∧ VR s.sg cx w r r') → _) ?_
    split at hr
    · split at hr
      · cases hr
      · rename_i hm; cases hr; exact ⟨_, by simp [binOp, Op.shift, hm], .int _ _⟩
    · split at hr
      · cases hr
      · rename_i hm; cases hr; exact ⟨_, by simp [binOp, Op.shift, hm], .int _ _⟩
    · rename_i ns1 ns2
      split at hr
      · rename_i hk
        subst hk
        have hb : ∀ z, (match op with
            | .add | .sub | .mul => Op.intArith op k n m
            | .quo | .rem => Op.intDiv op k n m
            | .and | .or | .xor | .andNot => Op.intBits op k n m
            | _ => Op.intCmp op n m) = z → binOp op t (.int k n) (.int k m) = z := by
          intro z hz
          cases op <;> first | (exact absurd rfl ns1) | (exact absurd rfl ns2) | (simpa [binOp] using hz)
        cases op <;> simp only [Option.some.injEq, reduceCtorEq] at hr
        case quo =>
          split at hr
          · cases hr
          · rename_i hm; cases hr; exact ⟨_, by rw [hb _ rfl]; simp [Op.intDiv, hm], .int _ _⟩
        case rem =>
          split at hr
          · cases hr
          · rename_i hm; cases hr; exact ⟨_, by rw [hb _ rfl]; simp [Op.intDiv, hm], .int _ _⟩
        all_goals subst hr
        all_goals first
          | exact ⟨_, by rw [hb _ rfl]; simp [Op.intArith, Op.intBits, Op.intCmp]; rfl, .int _ _⟩
          | exact ⟨_, by rw [hb _ rfl]; simp [Op.intArith, Op.intBits, Op.intCmp], .int _ _⟩
          | exact ⟨_, by rw [hb _ rfl]; simp [Op.intArith, Op.intBits, Op.intCmp], .bool _⟩
      · cases hr
  · rename_i p q
    have e1 := str_inv h1
    have e2 := str_inv h2
    subst e1 e2
    refine (fun ⟨r', p⟩ => ⟨r', p.1, p.2, by simp, by simp⟩ : (∃ r', (binOp op t (.string p) (.string q)).run P w = .ok r' w ∧ VR s.sg cx w r r') → _) ?_
    split at hr
    · cases hr; exact ⟨_, by simp [binOp, Op.stringOp], .bool _⟩
    · cases hr; exact ⟨_, by simp [binOp, Op.stringOp], .bool _⟩
    · split at hr
      · rename_i hsz
        cases hr
        refine ⟨_, ?_, .str _⟩
        have : ¬ (((p.size + q.size : Nat) : Int) > IntKind.i64.max) := by
          have : IntKind.i64.max = 9223372036854775807 := rfl
          rw [this]; have : (2:Nat)^62 = 4611686018427387904 := rfl; omega
        simp only [binOp, Op.stringOp]
        rw [if_neg this]; rfl
      · cases hr
    · cases hr
  · cases hr

theorem bin_ok {op : BinOp} {x y : X} (ho : chkI P o.op (.bin op x y) = true) (M : MR s cx w) (T : TR s cx w a) (h : step C ro d s (.bin op x y) = some (v, s1)) : Post P o a s cx w v s1 Q := by
  simp only [chkI] at ho
  split at ho
  · rename_i op' t x' y' ty hop
    simp only [Bool.and_eq_true, decide_eq_true_eq] at ho
    obtain ⟨⟨⟨rfl, h1⟩, h2⟩, h3⟩ := ho
    simp only [step, Option.map_eq_some_iff, Prod.mk.injEq] at h
    obtain ⟨r, hr, rfl, rfl⟩ := h
    obtain ⟨r', k1, k2, k3, k4⟩ := abin_run (P := P) hr (ev_ok T h1) (ev_ok T h2) h3
    have hg := eqGuard_no (P := P) (w := w) op' t x' y' _ _ ⟨k3, k4⟩
    refine post_pure M ?_ k2
    simp only [execOp, hop, Sem.run_bind, hg, Result.andThen_ok, k1, Sem.run_pure]
  · cases ho

theorem callee_b {c : Call} {b : Builtin} {y : Operand} {t : TypeId} (h : c.callee = .builtin b) (h2 : c.args.toList = [y]) (h3 : c.argTypes.toList = [t]) :
    c = { callee := .builtin b, args := #[y], argTypes := #[t] } := by
  have h2' : c.args = #[y] := by rw [← Array.toList_inj]; exact h2
  have h3' : c.argTypes = #[t] := by rw [← Array.toList_inj]; exact h3
  cases c; simp_all

theorem elemO_some {t e : TypeId} (h : elemO P t = some e) : P.underlying t = some (.slice e) := by
  unfold elemO at h; split at h
  · cases h; assumption
  · cases h
theorem arrO_some {t e : TypeId} {n : Nat} (h : arrO P t = some (n, e)) : P.underlying t = some (.array n e) := by
  unfold arrO at h; split at h
  · cases h; assumption
  · cases h
theorem mapO_some {t k e : TypeId} (h : mapO P t = some (k, e)) : P.underlying t = some (.map k e) := by
  unfold mapO at h; split at h
  · cases h; assumption
  · cases h

theorem len_ok {x : X} (ho : chkI P o.op (.len x) = true) (M : MR s cx w) (T : TR s cx w a) (h : step C ro d s (.len x) = some (v, s1)) : Post P o a s cx w v s1 Q := by
  simp only [chkI] at ho
  split at ho
  · rename_i c hop
    split at ho
    · rename_i y t hc h2 h3
      have hcc := callee_b hc h2 h3
      simp only [Bool.and_eq_true] at ho
      obtain ⟨h1, h4⟩ := ho
      cases he : elemO P t with
      | none => simp [he] at h4
      | some e =>
        have hu := elemO_some he
        have hr : ∀ A n m, a.eval y = .slice A n m → (execOp a.eval o).run P w = .ok (.value (.int .i64 n)) w := by
          intro A n m e1
          simp [execOp, hop, hcc, resolve, invoke, builtin, Builtin.len_, e1, underlying, hu, goInt]
        have hv := ev_ok T h1
        simp only [step] at h
        split at h
        · rename_i z els tl hx
          simp only [Option.some.injEq, Prod.mk.injEq] at h
          obtain ⟨rfl, rfl⟩ := h
          rw [hx] at hv
          generalize hu' : a.eval y = u at hv hr
          cases hv with
          | sl r off fc k1 k2 k3 k4 k5 k6 k7 k8 => subst k1; exact post_pure M (hr _ _ _ rfl) (.int _ _)
        · rename_i l g z off len cap hx
          simp only [Option.some.injEq, Prod.mk.injEq] at h
          obtain ⟨rfl, rfl⟩ := h
          rw [hx] at hv
          generalize hu' : a.eval y = u at hv hr
          cases hv with
          | rs k1 k2 k3 k4 k5 k6 => exact post_pure M (hr _ _ _ rfl) (.int _ _)
        · cases h
    · cases ho
  · cases ho

theorem lens_ok {x : X} (ho : chkI P o.op (.lens x) = true) (M : MR s cx w) (T : TR s cx w a) (h : step C ro d s (.lens x) = some (v, s1)) : Post P o a s cx w v s1 Q := by
  simp only [chkI] at ho
  split at ho
  · rename_i c hop
    split at ho
    · rename_i y t hc h2 h3
      have hcc := callee_b hc h2 h3
      simp only [Bool.and_eq_true] at ho
      obtain ⟨h1, h4⟩ := ho
      split at h4
      · rename_i hu
        simp only [step] at h
        split at h
        · rename_i b hx
          simp only [Option.some.injEq, Prod.mk.injEq] at h
          obtain ⟨rfl, rfl⟩ := h
          have e1 := str_inv (hx ▸ ev_ok T h1)
          refine post_pure M ?_ (.int _ _)
          simp [execOp, hop, hcc, resolve, invoke, builtin, Builtin.len_, e1, underlying, hu, goInt]
        · cases h
      · cases h4
    · cases ho
  · cases ho

theorem lena_ok {n : Nat} (ho : chkI P o.op (.lena n) = true) (M : MR s cx w) (h : step C ro d s (.lena n) = some (v, s1)) : Post P o a s cx w v s1 Q := by
  simp only [step, Option.some.injEq, Prod.mk.injEq] at h
  obtain ⟨rfl, rfl⟩ := h
  simp only [chkI] at ho
  split at ho
  · rename_i c hop
    split at ho
    · rename_i y t hc h2 h3
      have hcc := callee_b hc h2 h3
      refine post_pure M ?_ (.int _ _)
      split at ho
      · rename_i m e ha
        have := of_decide_eq_true ho
        subst this
        have hu := arrO_some ha
        simp [execOp, hop, hcc, resolve, invoke, builtin, Builtin.len_, underlying, hu, goInt]
      · split at ho
        · rename_i a' hp
          split at ho
          · rename_i m e ha
            have := of_decide_eq_true ho
            subst this
            have hu := arrO_some ha
            simp [execOp, hop, hcc, resolve, invoke, builtin, Builtin.len_, underlying, hp, hu, goInt]
          · cases ho
        · cases ho
    · cases ho
  · cases ho

theorem cap_ok {x : X} (ho : chkI P o.op (.cap x) = true) (M : MR s cx w) (T : TR s cx w a) (h : step C ro d s (.cap x) = some (v, s1)) : Post P o a s cx w v s1 Q := by
  simp only [chkI] at ho
  split at ho
  · rename_i c hop
    split at ho
    · rename_i y t hc h2 h3
      have hcc := callee_b hc h2 h3
      simp only [Bool.and_eq_true] at ho
      obtain ⟨h1, h4⟩ := ho
      cases he : elemO P t with
      | none => simp [he] at h4
      | some e =>
        have hu := elemO_some he
        have hv := ev_ok T h1
        simp only [step] at h
        split at h
        · rename_i z els tl hx
          simp only [Option.some.injEq, Prod.mk.injEq] at h
          obtain ⟨rfl, rfl⟩ := h
          rw [hx] at hv
          generalize hu' : a.eval y = u at hv
          cases hv with
          | sl r off fc k1 k2 k3 k4 k5 k6 k7 k8 =>
            have := k3 _ rfl
            subst k1 this
            refine post_pure M ?_ (.int _ _)
            simp [execOp, hop, hcc, resolve, invoke, builtin, Builtin.cap_, hu', underlying, hu, goInt]
        · cases h
    · cases ho
  · cases ho

end
end Go.Proofs.Bb
