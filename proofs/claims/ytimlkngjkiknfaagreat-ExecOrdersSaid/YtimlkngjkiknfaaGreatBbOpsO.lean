/- Maps: the instructions. -/
import Derived.Test.YtimlkngjkiknfaaGreatBbOpsN
set_option linter.unusedSimpArgs false
set_option linter.unusedVariables false
namespace Go.Proofs.Bb
open Go

section
variable {P : Program} {s : St} {cx : Cx} {w : World} {a : Act} {o : Oper} {Q : Exit → Act → World → Prop} {C : Orc} {ro : Bool} {d : Nat} {v : AV} {s1 : St}

theorem VR.tup0 (σ : Sg) (cx : Cx) (w : World) : VR σ cx w (.tup []) (.tuple #[]) := .tup rfl (fun i x v h _ => by simp at h)
theorem VR.tup2 {σ : Sg} {x y : AV} {u v : Value} (h : VR σ cx w x u) (k : VR σ cx w y v) : VR σ cx w (.tup [x, y]) (.tuple #[u, v]) :=
  .tup rfl (fun i z r hz hr => by
    match i with
    | 0 => simp at hz hr; subst hz; subst hr; exact h
    | 1 => simp at hz hr; subst hz; subst hr; exact k
    | i + 2 => simp at hz)

/-- A type's zero value. -/
theorem zero_val {e : TypeId} {zero : AV} (h : (match (P.info? e).bind (·.zero) with
    | some v => (match v, zero with | .agg cs, .agg xs => liftL cs.toList xs | v, x => liftOK v x)
    | none => false) = true) : ∃ z, (∀ w, (zeroValue e).run P w = .ok z w) ∧ ∀ σ cx w, VR σ cx w zero z := by
  cases hi : P.info? e with
  | none => simp [hi] at h
  | some i =>
    cases hz : i.zero with
    | none => simp [hi, hz] at h
    | some z =>
      simp only [hi, hz, Option.bind_some] at h
      refine ⟨z, fun w => by simp [zeroValue, typeInfo, hi, hz], fun σ cx w => ?_⟩
      split at h
      · obtain ⟨h1, h2⟩ := liftL_ok h
        exact .agg (by simpa using h1.symm) (fun i x v hx hv => lift_ok (h2 i x v hx (by simpa using hv)) _ _ _) (fun i v hv => by
          have hlt : i < _ := (Array.getElem?_eq_some_iff.1 hv).1
          rename_i cs xs
          have hlt' : i < xs.length := by rw [h1]; simpa using hlt
          exact lift_one (h2 i _ v (List.getElem?_eq_getElem hlt') (by simpa using hv)))
      · exact lift_ok h _ _ _

theorem mapO_inv {t kt e : TypeId} (h : mapO P t = some (kt, e)) : P.underlying t = some (.map kt e) := mapO_some h

theorem map_inv {σ : Sg} {r : Nat} {v : Value} (h : VR σ cx w (.map r) v) : v = .map (some (cx.lm (.h r))) := by cases h; rfl

theorem mkmap_ok {r : Option X} (ho : chkI P o.op (.mkmap r) = true) (M : MR s cx w) (T : TR s cx w a) (h : step C ro d s (.mkmap r) = some (v, s1)) : Post P o a s cx w v s1 Q := by
  simp only [chkI] at ho
  split at ho
  · rename_i t r' hop
    simp only [Bool.and_eq_true] at ho
    obtain ⟨h1, h2⟩ := ho
    cases hm : mapO P t with
    | none => simp [hm] at h2
    | some p =>
      obtain ⟨kt, e⟩ := p
      have hu := mapO_inv hm
      simp only [step] at h
      split at h
      · cases h
      · obtain ⟨cx', g1, g2, g3⟩ := map_new M
        have hv : VR (St.sg { s with h := s.h ++ [.map [] 0] }) cx' (w.alloc (.map #[] 0)) (.map s.h.length) (.map (some w.heap.size)) := by
          rw [← g3]; exact .map (by simp [St.sg])
        cases r with
        | none =>
          cases r' with
          | some y => simp [chkXo] at h1
          | none =>
            simp only [Option.some.injEq, Prod.mk.injEq] at h
            obtain ⟨rfl, rfl⟩ := h
            refine post_value (v' := .map (some w.heap.size)) ?_ g1 g2 hv
            simp [execOp, hop, Instr.makeMap]
        | some x =>
          cases r' with
          | none => simp [chkXo] at h1
          | some y =>
            have hx := ev_ok T (show chkX y x = true from h1)
            simp only at h
            split at h
            · rename_i k n hk
              rw [hk] at hx
              have := int_inv hx
              simp only [Option.some.injEq, Prod.mk.injEq] at h
              obtain ⟨rfl, rfl⟩ := h
              refine post_value (v' := .map (some w.heap.size)) ?_ g1 g2 hv
              simp [execOp, hop, Instr.makeMap, run_underlying hu, this, asInt, asIntOf]
            · cases h
  · cases ho

theorem lookup_ok {ag ok : Bool} {ks : List Kd} {zero : AV} {m k : X} (ho : chkI P o.op (.lookup ag ks zero m k ok) = true) (M : MR s cx w) (T : TR s cx w a) (h : step C ro d s (.lookup ag ks zero m k ok) = some (v, s1)) : Post P o a s cx w v s1 Q := by
  simp only [chkI] at ho
  split at ho
  · rename_i t m' k' ok' hop
    split at ho
    · rename_i kt e hm
      simp only [Bool.and_eq_true, decide_eq_true_eq] at ho
      obtain ⟨⟨⟨⟨h1, h2⟩, rfl⟩, h4⟩, h5⟩ := ho
      have hu := mapO_inv hm
      obtain ⟨z, hz1, hz2⟩ := zero_val h5
      simp only [step] at h
      split at h
      · rename_i r hr
        split at h
        · rename_i es c hes
          have hmv := map_inv (hr ▸ ev_ok T h1)
          obtain ⟨es', m1, m2, m3⟩ := M.maps r es c hes
          have hg := MapKept.run_getObj_map (P := P) m1
          have hk := ev_ok T h2
          split at h
          · rename_i i e0 hf
            simp only [Option.some.injEq, Prod.mk.injEq] at h
            obtain ⟨rfl, rfl⟩ := h
            obtain ⟨c1, e', f1, f2, f3, f4, f5⟩ := findKey_ok h4 hk ⟨m2, m3⟩ hf
            obtain ⟨_, hv, _⟩ := m3 i e0 e' f1 f2
            cases ok with
            | true =>
              refine post_pure M (v' := .tuple #[e'.val, .bool true]) ?_ (hv.tup2 (.bool _))
              simp only [execOp, hop, Instr.lookup, Sem.run_bind, run_underlying hu, hmv, hg, Result.andThen_ok, Sem.run_pure, c1, f3, if_true]
            | false =>
              refine post_pure M (v' := e'.val) ?_ hv
              simp only [execOp, hop, Instr.lookup, Sem.run_bind, run_underlying hu, hmv, hg, Result.andThen_ok, Sem.run_pure, c1, f3, Bool.false_eq_true, if_false]
          · rename_i hf
            simp only [Option.some.injEq, Prod.mk.injEq] at h
            obtain ⟨rfl, rfl⟩ := h
            obtain ⟨c1, f3⟩ := findKey_ok h4 hk ⟨m2, m3⟩ hf
            have f3 : (Instr.findKey kt (a.eval k') es'.toList).run P w = .ok none w := f3
            cases ok with
            | true =>
              refine post_pure M (v' := .tuple #[z, .bool false]) ?_ ((hz2 _ _ _).tup2 (.bool _))
              simp only [execOp, hop, Instr.lookup, Sem.run_bind, run_underlying hu, hmv, hg, Result.andThen_ok, Sem.run_pure, c1, f3, if_true, hz1]
            | false =>
              refine post_pure M (v' := z) ?_ (hz2 _ _ _)
              simp only [execOp, hop, Instr.lookup, Sem.run_bind, run_underlying hu, hmv, hg, Result.andThen_ok, Sem.run_pure, c1, f3, Bool.false_eq_true, if_false, hz1]
          · cases h
        · cases h
      · cases h
    · cases ho
  · cases ho

theorem lenm_ok {x : X} (ho : chkI P o.op (.lenm x) = true) (M : MR s cx w) (T : TR s cx w a) (h : step C ro d s (.lenm x) = some (v, s1)) : Post P o a s cx w v s1 Q := by
  simp only [chkI] at ho
  split at ho
  · rename_i c hop
    split at ho
    · rename_i y t hc h2 h3
      have hcc := callee_b hc h2 h3
      simp only [Bool.and_eq_true] at ho
      obtain ⟨h1, h4⟩ := ho
      cases hm : mapO P t with
      | none => simp [hm] at h4
      | some p =>
        obtain ⟨kt, e⟩ := p
        have hu := mapO_inv hm
        simp only [step] at h
        split at h
        · rename_i r hr
          split at h
          · rename_i es c hes
            have hmv := map_inv (hr ▸ ev_ok T h1)
            obtain ⟨es', m1, m2, m3⟩ := M.maps r es c hes
            have hg := MapKept.run_getObj_map (P := P) m1
            simp only [Option.some.injEq, Prod.mk.injEq] at h
            obtain ⟨rfl, rfl⟩ := h
            refine post_pure M ?_ (.int _ _)
            simp [execOp, hop, hcc, resolve, invoke, builtin, Builtin.len_, run_underlying hu, hmv, hg, goInt, m2]
          · cases h
        · cases h
    · cases ho
  · cases ho

theorem ER.set {σ : Sg} {es : List Ent} {es' : Array MapEntry} {i : Nat} {e e2 : Ent} {e' : MapEntry} {f : MapEntry → MapEntry} (h : ER σ cx w es es') (he : es[i]? = some e) (he' : es'[i]? = some e')
    (h1 : VR σ cx w e2.key (f e').key) (h2 : VR σ cx w e2.val (f e').val) (h3 : (f e').born = e2.born) : ER σ cx w (es.set i e2) (es'.modify i f) := by
  refine ⟨by simp [h.1], fun j x x' hx hx' => ?_⟩
  rw [List.getElem?_set] at hx
  rw [Array.getElem?_modify] at hx'
  by_cases e0 : i = j
  · subst e0
    have hlt := (List.getElem?_eq_some_iff.1 he).1
    rw [if_pos rfl, if_pos hlt] at hx
    rw [if_pos rfl, he'] at hx'
    cases hx; cases hx'
    exact ⟨h1, h2, h3⟩
  · rw [if_neg e0] at hx hx'
    exact h.2 j x x' hx hx'
theorem ER.push {σ : Sg} {es : List Ent} {es' : Array MapEntry} {e : Ent} {e' : MapEntry} (h : ER σ cx w es es') (h1 : VR σ cx w e.key e'.key) (h2 : VR σ cx w e.val e'.val) (h3 : e'.born = e.born) : ER σ cx w (es ++ [e]) (es'.push e') := by
  refine ⟨by simp [h.1], fun j x x' hx hx' => ?_⟩
  rcases Nat.lt_trichotomy j es.length with hj | hj | hj
  · rw [List.getElem?_append_left hj] at hx
    rw [Array.getElem?_push, if_neg (by rw [h.1]; omega)] at hx'
    exact h.2 j x x' hx hx'
  · subst hj
    simp at hx
    rw [Array.getElem?_push, if_pos h.1.symm] at hx'
    cases hx'; subst hx
    exact ⟨h1, h2, h3⟩
  · rw [List.getElem?_eq_none (by simp; omega)] at hx; cases hx

theorem keyStays {u : Value} (h : Instr.sameBits 10000 u u = true) : (Instr.keyThatStays u u).run P w = .ok u w := by
  simp only [Instr.keyThatStays, h, if_true, Sem.run_pure]

theorem mupd_ok {ag keep : Bool} {ks : List Kd} {m k x : X} (hro : s.ro = ro) (ho : chkI P o.op (.mupd ag ks keep m k x) = true) (M : MR s cx w) (T : TR s cx w a) (h : step C ro d s (.mupd ag ks keep m k x) = some (v, s1)) : Post P o a s cx w v s1 Q := by
  simp only [chkI] at ho
  have main : ∀ t m' k' x', (match mapO P t with | some (kt, _) => chkX m' m && chkX k' k && chkX x' x && keyOK P kt ag ks | none => false) = true →
      ∃ w' cx', (Instr.mapUpdate t (a.eval m') (a.eval k') (a.eval x')).run P w = .ok () w' ∧ Go1 s cx w s1 cx' w' ∧ MR s1 cx' w' ∧ v = .tup [] := by
    intro t m' k' x' ho
    split at ho
    · rename_i kt e hm
      simp only [Bool.and_eq_true] at ho
      obtain ⟨⟨⟨h1, h2⟩, h3⟩, h4⟩ := ho
      have hu := mapO_inv hm
      simp only [step] at h
      split at h
      · cases h
      · rename_i hr00
        have hr0 : s.ro = false := by rw [hro]; simpa using hr00
        split at h
        · rename_i r hr
          split at h
          · rename_i y s2 hcv
            obtain ⟨cx2, g1, g2, g3, g4⟩ := conv_ok (by cases keep <;> simp) s cx w _ _ y s2 M (ev_ok T h3) hcv
            split at h
            · rename_i es c hes
              split at h
              · have hmv := map_inv ((hr ▸ ev_ok T h1).ext g1.ext)
                obtain ⟨es', m1, m2, m3⟩ := g2.maps r es c hes
                have hg := MapKept.run_getObj_map (P := P) m1
                have hk := (ev_ok T h2).ext g1.ext
                split at h
                · rename_i i e0 hf
                  simp only [Option.some.injEq, Prod.mk.injEq] at h
                  obtain ⟨rfl, rfl⟩ := h
                  obtain ⟨c1, e', f1, f2, f3, f4, f5⟩ := findKey_ok h4 hk ⟨m2, m3⟩ hf
                  obtain ⟨q1, q2, q3⟩ := m3 i e0 e' f1 f2
                  have hE : ER s2.sg cx2 w (es.set i { e0 with key := ev s.t k, val := y }) (es'.modify i fun e => { e with key := a.eval k', val := a.eval x' }) :=
                    ER.set ⟨m2, m3⟩ f1 f2 hk g3 q3
                  obtain ⟨t1, t2⟩ := map_turn (c2 := c) g2 hes ((conv_ro hcv).trans hr0) hE
                  refine ⟨_, cx2, ?_, g1.trans t1, t2, rfl⟩
                  have hst := MapKept.run_setObj_map (P := P) (.map (es'.modify i fun e => { e with key := a.eval k', val := a.eval x' }) c) m1
                  have hky : (((es'[i]?).map (·.key)).getD (a.eval k')) = a.eval k' := by rw [f2]; simp [f4]
                  simp only [Instr.mapUpdate, Sem.run_bind, run_underlying hu, hmv, hg, Result.andThen_ok, c1, f3, hky, keyStays f5]
                  exact hst
                · rename_i hf
                  simp only [Option.some.injEq, Prod.mk.injEq] at h
                  obtain ⟨rfl, rfl⟩ := h
                  obtain ⟨c1, f3⟩ := findKey_ok h4 hk ⟨m2, m3⟩ hf
                  have f3 : (Instr.findKey kt (a.eval k') es'.toList).run P w = .ok none w := f3
                  have hE : ER s2.sg cx2 w (es ++ [⟨ev s.t k, y, c⟩]) (es'.push { key := a.eval k', val := a.eval x', born := c }) := ER.push ⟨m2, m3⟩ hk g3 rfl
                  obtain ⟨t1, t2⟩ := map_turn (c2 := c + 1) g2 hes ((conv_ro hcv).trans hr0) hE
                  refine ⟨_, cx2, ?_, g1.trans t1, t2, rfl⟩
                  have hst := MapKept.run_setObj_map (P := P) (.map (es'.push { key := a.eval k', val := a.eval x', born := c }) (c + 1)) m1
                  simp only [Instr.mapUpdate, Sem.run_bind, run_underlying hu, hmv, hg, Result.andThen_ok, c1, f3]
                  exact hst
                · cases h
              · cases h
            · cases h
          · cases h
        · cases h
    · cases ho
  split at ho
  · rename_i t m' k' x' hop
    obtain ⟨w', cx', r1, r2, r3, rfl⟩ := main _ _ _ _ ho
    refine post_skip ?_ r2 r3
    simp [execOp, hop, r1]
  · rename_i t m' k' x' hop
    obtain ⟨w', cx', r1, r2, r3, rfl⟩ := main _ _ _ _ ho
    refine post_skip ?_ r2 r3
    simp [execOp, hop, r1]
  · cases ho

theorem del_ok {ag : Bool} {ks : List Kd} {m k : X} (hro : s.ro = ro) (ho : chkI P o.op (.del ag ks m k) = true) (M : MR s cx w) (T : TR s cx w a) (h : step C ro d s (.del ag ks m k) = some (v, s1)) : Post P o a s cx w v s1 Q := by
  simp only [chkI] at ho
  split at ho
  · rename_i c hop
    split at ho
    · rename_i m' k' t ts hc h2 h3
      have hcc := map_call2 hc h2 h3
      split at ho
      · rename_i kt e hm
        simp only [Bool.and_eq_true] at ho
        obtain ⟨⟨h1, h2'⟩, h4⟩ := ho
        have hu := mapO_inv hm
        simp only [step] at h
        split at h
        · cases h
        · rename_i hr00
          have hr0 : s.ro = false := by rw [hro]; simpa using hr00
          split at h
          · rename_i r hr
            split at h
            · rename_i es cl hes
              have hmv := map_inv (hr ▸ ev_ok T h1)
              obtain ⟨es', m1, m2, m3⟩ := M.maps r es cl hes
              have hg := MapKept.run_getObj_map (P := P) m1
              have hk := ev_ok T h2'
              split at h
              · rename_i i e0 hf
                simp only [Option.some.injEq, Prod.mk.injEq] at h
                obtain ⟨rfl, rfl⟩ := h
                obtain ⟨c1, e', f1, f2, f3, f4, f5⟩ := findKey_ok h4 hk ⟨m2, m3⟩ hf
                have hlt := (List.getElem?_eq_some_iff.1 f1).1
                have hE : ER s.sg cx w (es.eraseIdx i) (es'.eraseIdxIfInBounds i) := by
                  have hl : (es'.eraseIdxIfInBounds i).toList = es'.toList.eraseIdx i := by simp
                  refine ⟨?_, fun j x x' hx hx' => ?_⟩
                  · rw [← Array.length_toList, hl, List.length_eraseIdx, List.length_eraseIdx, Array.length_toList, m2]
                  · rw [← Array.getElem?_toList, hl] at hx'
                    rw [List.getElem?_eraseIdx] at hx hx'
                    split at hx
                    · rename_i hj; rw [if_pos hj] at hx'; exact m3 j x x' hx (by simpa using hx')
                    · rename_i hj; rw [if_neg hj] at hx'; exact m3 _ x x' hx (by simpa using hx')
                obtain ⟨t1, t2⟩ := map_turn (c2 := cl) M hes hr0 hE
                refine post_value (v' := .tuple #[]) ?_ t1 t2 (VR.tup0 _ _ _)
                have hst := MapKept.run_setObj_map (P := P) (.map (es'.eraseIdxIfInBounds i) cl) m1
                have hdel : (Builtin.delete_ (t :: ts).toArray o.type #[a.eval m', a.eval k']).run P w = .ok (.tuple #[]) (setMap w (cx.lm (.h r)) (.map (es'.eraseIdxIfInBounds i) cl)) := by
                  simp only [Builtin.delete_, List.getElem?_toArray, List.getElem?_cons_zero, List.getElem?_cons_succ, Sem.run_bind, run_underlying hu, hmv, hg, Result.andThen_ok, c1, f3, hst, Sem.run_pure]
                  rfl
                simp [execOp, hop, hcc, resolve, invoke, builtin, hdel]
              · rename_i hf
                simp only [Option.some.injEq, Prod.mk.injEq] at h
                obtain ⟨rfl, rfl⟩ := h
                obtain ⟨c1, f3⟩ := findKey_ok h4 hk ⟨m2, m3⟩ hf
                have f3 : (Instr.findKey kt (a.eval k') es'.toList).run P w = .ok none w := f3
                have hset : s.h.set r (.map es cl) = s.h := by
                  apply List.ext_getElem?
                  intro j
                  rw [List.getElem?_set]
                  by_cases e0 : r = j
                  · subst e0; rw [if_pos rfl, if_pos (List.getElem?_eq_some_iff.1 hes).1, hes]
                  · rw [if_neg e0]
                obtain ⟨t1, t2⟩ := map_turn (c2 := cl) M hes hr0 ⟨m2, m3⟩
                rw [hset] at t1 t2
                refine post_value (v' := .tuple #[]) ?_ t1 t2 (VR.tup0 _ _ _)
                have hst := MapKept.run_setObj_map (P := P) (.map es' cl) m1
                have hdel : (Builtin.delete_ (t :: ts).toArray o.type #[a.eval m', a.eval k']).run P w = .ok (.tuple #[]) (setMap w (cx.lm (.h r)) (.map es' cl)) := by
                  simp only [Builtin.delete_, List.getElem?_toArray, List.getElem?_cons_zero, List.getElem?_cons_succ, Sem.run_bind, run_underlying hu, hmv, hg, Result.andThen_ok, c1, f3, hst, Sem.run_pure]
                  rfl
                simp [execOp, hop, hcc, resolve, invoke, builtin, hdel]
              · cases h
            · cases h
          · cases h
      · cases ho
    · cases ho
  · cases ho

theorem ment_ok {ag : Bool} {ks : List Kd} {zero : AV} {m k : X} (hro : s.ro = ro) (ho : chkI P o.op (.ment ag ks zero m k) = true) (M : MR s cx w) (T : TR s cx w a) (h : step C ro d s (.ment ag ks zero m k) = some (v, s1)) : Post P o a s cx w v s1 Q := by
  simp only [chkI] at ho
  split at ho
  · rename_i t m' k' hop
    split at ho
    · rename_i kt e hm
      simp only [Bool.and_eq_true] at ho
      obtain ⟨⟨⟨h1, h2⟩, h4⟩, h5⟩ := ho
      have hu := mapO_inv hm
      obtain ⟨z, hz1, hz2⟩ := zero_val h5
      simp only [step] at h
      split at h
      · cases h
      · rename_i hr00
        have hr0 : s.ro = false := by rw [hro]; simpa using hr00
        split at h
        · rename_i r hr
          split at h
          · rename_i es c hes
            split at h
            · have hmv := map_inv (hr ▸ ev_ok T h1)
              obtain ⟨es', m1, m2, m3⟩ := M.maps r es c hes
              have hg := MapKept.run_getObj_map (P := P) m1
              have hk := ev_ok T h2
              split at h
              · rename_i i e0 hf
                simp only [Option.some.injEq, Prod.mk.injEq] at h
                obtain ⟨rfl, rfl⟩ := h
                obtain ⟨c1, e', f1, f2, f3, f4, f5⟩ := findKey_ok h4 hk ⟨m2, m3⟩ hf
                obtain ⟨q1, q2, q3⟩ := m3 i e0 e' f1 f2
                have hset : s.h.set r (.map es c) = s.h := by
                  apply List.ext_getElem?
                  intro j
                  rw [List.getElem?_set]
                  by_cases e0 : r = j
                  · subst e0; rw [if_pos rfl, if_pos (List.getElem?_eq_some_iff.1 hes).1, hes]
                  · rw [if_neg e0]
                have hes0 : es.set i e0 = es := by
                  apply List.ext_getElem?
                  intro j
                  rw [List.getElem?_set]
                  by_cases e1 : i = j
                  · subst e1; rw [if_pos rfl, if_pos (List.getElem?_eq_some_iff.1 f1).1, f1]
                  · rw [if_neg e1]
                have hE : ER s.sg cx w es (es'.modify i fun e => { e with key := a.eval k' }) := by
                  have := ER.set (f := fun e => { e with key := a.eval k' }) (e2 := e0) ⟨m2, m3⟩ f1 f2 (by rw [← f4]; exact q1) q2 q3
                  rw [hes0] at this; exact this
                obtain ⟨t1, t2⟩ := map_turn (c2 := c) M hes hr0 hE
                rw [hset] at t1 t2
                refine post_value (v' := .tuple #[e'.val, goInt e'.born]) ?_ t1 t2 (VR.tup2 (q2.ext t1.ext) (by rw [q3]; exact .int _ _))
                have hst := MapKept.run_setObj_map (P := P) (.map (es'.modify i fun e => { e with key := a.eval k' }) c) m1
                have hky : (((es'[i]?).map (·.key)).getD (a.eval k')) = a.eval k' := by rw [f2]; simp [f4]
                have hbn : (((es'[i]?).map fun x => (x.born : Int)).getD 0) = e'.born := by rw [f2]; rfl
                simp only [execOp, hop, Instr.mapEntry, Sem.run_bind, run_underlying hu, hmv, hg, Result.andThen_ok, c1, f3, hky, keyStays f5, hst, hbn, Sem.run_pure]
                rfl
              · rename_i hf
                simp only [Option.some.injEq, Prod.mk.injEq] at h
                obtain ⟨rfl, rfl⟩ := h
                obtain ⟨c1, f3⟩ := findKey_ok h4 hk ⟨m2, m3⟩ hf
                have f3 : (Instr.findKey kt (a.eval k') es'.toList).run P w = .ok none w := f3
                have hE : ER s.sg cx w (es ++ [⟨ev s.t k, zero, c⟩]) (es'.push { key := a.eval k', val := z, born := c }) := ER.push ⟨m2, m3⟩ hk (hz2 _ _ _) rfl
                obtain ⟨t1, t2⟩ := map_turn (c2 := c + 1) M hes hr0 hE
                refine post_value (v' := .tuple #[z, goInt c]) ?_ t1 t2 (VR.tup2 (hz2 _ _ _) (.int _ _))
                have hst := MapKept.run_setObj_map (P := P) (.map (es'.push { key := a.eval k', val := z, born := c }) (c + 1)) m1
                simp only [execOp, hop, Instr.mapEntry, Sem.run_bind, run_underlying hu, hmv, hg, Result.andThen_ok, c1, f3, hz1, hst, Sem.run_pure]
                rfl
              · cases h
            · cases h
          · cases h
        · cases h
    · cases ho
  · cases ho

theorem est_ok {keep : Bool} {m b x : X} (hro : s.ro = ro) (ho : chkI P o.op (.est keep m b x) = true) (M : MR s cx w) (T : TR s cx w a) (h : step C ro d s (.est keep m b x) = some (v, s1)) : Post P o a s cx w v s1 Q := by
  simp only [chkI] at ho
  split at ho
  · rename_i t m' b' x' hop
    simp only [Bool.and_eq_true] at ho
    obtain ⟨⟨h1, h2⟩, h3⟩ := ho
    simp only [step] at h
    split at h
    · cases h
    · rename_i hr00
      have hr0 : s.ro = false := by rw [hro]; simpa using hr00
      split at h
      · rename_i r kk n hr hb
        split at h
        · rename_i y s2 hcv
          obtain ⟨cx2, g1, g2, g3, g4⟩ := conv_ok (by cases keep <;> simp) s cx w _ _ y s2 M (ev_ok T h3) hcv
          split at h
          · rename_i es c hes
            have hmv := map_inv ((hr ▸ ev_ok T h1).ext g1.ext)
            have hbv := int_inv (hb ▸ ev_ok T h2)
            obtain ⟨es', m1, m2, m3⟩ := g2.maps r es c hes
            have hg := MapKept.run_getObj_map (P := P) m1
            have hfind : es'.findIdx? (fun e => (e.born : Int) == n) = es.findIdx? (fun e => (e.born : Int) == n) := by
              rw [show es'.findIdx? (fun e => (e.born : Int) == n) = es'.toList.findIdx? (fun e => (e.born : Int) == n) by cases es'; simp]
              have : ∀ (l : List Ent) (l' : List MapEntry), l'.length = l.length → (∀ (j : Nat) (e : Ent) (e' : MapEntry), l[j]? = some e → l'[j]? = some e' → e'.born = e.born) → l'.findIdx? (fun e => (e.born : Int) == n) = l.findIdx? (fun e => (e.born : Int) == n) := by
                intro l
                induction l with
                | nil => intro l' hl _; cases l' <;> simp at hl ⊢
                | cons e l ih =>
                  intro l' hl hv
                  cases l' with
                  | nil => simp at hl
                  | cons e' l' =>
                    have := hv 0 e e' rfl rfl
                    simp only [List.findIdx?_cons, this]
                    rw [ih l' (by simpa using hl) (fun j a b ha hb => hv (j + 1) a b ha hb)]
              exact this es es'.toList (by simpa using m2) (fun j e e' he he' => (m3 j e e' he (by simpa using he')).2.2)
            split at h
            · rename_i i hi
              split at h
              · rename_i e0 he0
                simp only [Option.some.injEq, Prod.mk.injEq] at h
                obtain ⟨rfl, rfl⟩ := h
                have hlt : i < es'.size := by rw [m2]; exact (List.getElem?_eq_some_iff.1 he0).1
                have f2 : es'[i]? = some es'[i] := Array.getElem?_eq_getElem hlt
                obtain ⟨q1, q2, q3⟩ := m3 i e0 _ he0 f2
                have hE : ER s2.sg cx2 w (es.set i { e0 with val := y }) (es'.modify i fun e => { e with val := a.eval x' }) := ER.set ⟨m2, m3⟩ he0 f2 q1 g3 q3
                obtain ⟨t1, t2⟩ := map_turn (c2 := c) g2 hes ((conv_ro hcv).trans hr0) hE
                refine post_skip ?_ (g1.trans t1) t2
                have hst := MapKept.run_setObj_map (P := P) (.map (es'.modify i fun e => { e with val := a.eval x' }) c) m1
                have hes2 : (Instr.entryStore t (a.eval m') (a.eval b') (a.eval x')).run P w = .ok () (setMap w (cx2.lm (.h r)) (.map (es'.modify i fun e => { e with val := a.eval x' }) c)) := by
                  simp only [Instr.entryStore, Sem.run_bind, hmv, hbv, hg, Result.andThen_ok, asInt, asIntOf, Sem.run_pure, hfind, hi]
                  exact hst
                simp [execOp, hop, hes2]
              · cases h
            · cases h
          · cases h
        · cases h
      · cases h
  · cases ho

end
end Go.Proofs.Bb
