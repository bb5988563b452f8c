/- append: the instructions. -/
import Derived.Test.YtimlkngjkiknfaaGreatBbOpsJ
set_option linter.unusedSimpArgs false
set_option linter.unusedVariables false
namespace Go.Proofs.Bb
open Go

section
variable {P : Program} {s : St} {cx : Cx} {w : World} {a : Act} {o : Oper} {Q : Exit → Act → World → Prop} {C : Orc} {ro : Bool} {d : Nat} {v : AV} {s1 : St}

theorem grown_ge (w : World) (need old : Nat) (e : TypeId) : need ≤ grownCap w need old e := by
  unfold grownCap Question.cut; exact Nat.le_add_right _ _

theorem take_part (b : Blk) (len : Nat) : b.part 0 len = b.els.take len := by simp [Blk.part]

theorem appA_ok {hh : Bool} {z : Nat} {t u ty e : TypeId} {inf : TypeInfo} {zv xv X : Value} {x : AV} {ys : List (List AV)} {us : List Value}
    (hu : P.underlying t = some (.slice e)) (hi : P.info? e = some inf) (hz : inf.zero = some zv) (hsz : inf.size = z) (hzc : zv.cells.size = z) (hb : inf.bytes ≤ 32768)
    (hro : s.ro = ro) (M : MR s cx w) (hX : VR s.sg cx w x X) (S : AppSrc P w u inf zv xv ys.length us) (hF : FL s.sg cx w z ys us) (h : appA hh ro d z s x ys = some (v, s1)) :
    ∃ v' w' cx', (Builtin.append_ #[t, u] ty #[X, xv]).run P w = .ok v' w' ∧ Go1 s cx w s1 cx' w' ∧ MR s1 cx' w' ∧ VR s1.sg cx' w' v v' := by
  subst hsz
  have none_ : ∀ A len cap, X = .slice A len cap → len ≤ cap → ys = [] → (Builtin.append_ #[t, u] ty #[X, xv]).run P w = .ok X w := by
    intro A len cap e1 hle e2
    subst e1 e2
    have hus : us = [] := by have := hF.len; exact List.length_eq_zero_iff.1 (by simpa using this)
    subst hus
    exact append_in (n := 0) (us := []) hu hi hz hb S hle (by cases A <;> rfl)
  unfold appA at h
  split at h
  · rename_i z' els tl
    split at h
    · rename_i hzz
      split at h
      · rename_i hy
        simp only [Option.some.injEq, Prod.mk.injEq] at h
        obtain ⟨rfl, rfl⟩ := h
        cases hX with
        | @sl _ _ _ A len cap r off fc k1 k2 k3 k4 k5 k6 k7 k8 =>
          exact ⟨_, w, cx, none_ A len cap rfl k2 hy, .refl .., M, .sl r off fc k1 k2 k3 k4 k5 k6 k7 k8⟩
      · rename_i hy
        split at h
        · split at h
          · rename_i hbig
            simp only [Option.some.injEq] at h
            have hy0 : 0 < ys.length := List.length_pos_iff.2 hy
            have hel : elsOf hh s (.sl z' els (some [])) = some (z', els) := rfl
            obtain ⟨A, c, e1, e2⟩ := src_ok M hX hel
            obtain ⟨os, f1, f2, f3⟩ := e2 els.length (Nat.le_refl _)
            rw [List.take_length] at f2
            have hcap : c = els.length := by
              cases hX with
              | @sl _ _ _ A len cap r off fc k1 k2 k3 k4 k5 k6 k7 k8 =>
                cases e1
                have := k3 [] rfl
                simpa using this
            subst hcap
            have hF2 : FL s.sg cx w inf.size els os := by
              rcases hzz with rfl | rfl
              · exact f2
              · have := f2.len; simp at this; subst this; exact FL.nil
            have hrun := append_new (ty := ty) (base := A) (sLen := els.length) (sCap := els.length) hu hi hz hb S (by omega) hbig
              (fun w2 hw => by rw [← e1]; exact f1 P w2 inf.size hw (hzz.imp Eq.symm (fun e => by simp [e])))
            obtain ⟨cx', g1, g2, g3⟩ := grow_new (g := (s.a d).g + 1) (cap' := grownCap w (els.length + ys.length) els.length e) (zv := zv) (e := e) (laidA s d ⟨inf.size, els ++ ys, false, false⟩) (by simp [St.gen, upd]) (fun i hi => by cases hi) M (hF2.append hF)
              (by rw [List.length_append]) (by omega) (grown_ge _ _ _ _) hzc
            cases h
            refine ⟨_, _, cx', by rw [e1]; exact hrun, g1, g2, ?_⟩
            rw [List.length_append]
            exact g3
          · cases h
        · cases h
    · cases h
  · rename_i l g z' off len cap
    split at h
    · cases h
    · rename_i hwr
      have hw : s.wr l := fun hH => by rw [hH] at hwr; rw [hro]; simpa using (by simpa using hwr : _ ∧ _).2
      split at h
      · rename_i b hgb
        split at h
        · rename_i hzz
          subst hzz
          obtain ⟨h1, h2⟩ := getB_some hgb
          have hX0 := hX
          cases hX with
          | @rs _ _ _ _ _ _ c A k1 k2 k3 k4 k5 k6 =>
            obtain ⟨j1, j2, j3, j4⟩ := k6 h2 b.bi (sg_of h1)
            have j1 : b.z = inf.size := j1
            have j2 : off + cap ≤ b.els.length := j2
            have j3 : b.ex = true → c = cap := j3
            split at h
            · rename_i hy
              simp only [Option.some.injEq, Prod.mk.injEq] at h
              obtain ⟨rfl, rfl⟩ := h
              exact ⟨_, w, cx, none_ A len c rfl (by omega) hy, .refl .., M, hX0⟩
            · rename_i hy
              have hy0 : 0 < ys.length := List.length_pos_iff.2 hy
              have hFb : FL s.sg cx w b.z ys us := by rw [j1]; exact hF
              split at h
              · rename_i hle
                split at h
                · cases h
                · rename_i hfz
                  simp only [Option.some.injEq, Prod.mk.injEq] at h
                  obtain ⟨rfl, rfl⟩ := h
                  obtain ⟨j5, j6⟩ := j4 (by omega)
                  obtain ⟨g1, g2, g3⟩ := fill_go M (off := off + len) hgb (by simpa using hfz) hw hy (by omega) hFb
                  refine ⟨.slice A (len + ys.length) c, _, cx, append_in (w' := setCs w (cx.lm l) ((off + len) * b.z) us) hu hi hz hb S (by omega) ?_, g1, g2, ?_⟩
                  · subst j5
                    show (storeCells _ us).run P w = _
                    rw [add_eq _ _ _ _ rfl, ← j1, ← Nat.add_mul]
                    exact g3 P
                  · have hX1 := hX0.ext g1.ext
                    cases hX1 with
                    | rs q1 q2 q3 q4 q5 q6 => exact .rs hle q2 q3 q4 q5 q6
              · rename_i hgt
                split at h
                · rename_i hbig
                  have hhB : elsOf true s (.rs l g inf.size off len cap) = some (inf.size, b.part off len) := by simp [elsOf, hgb]
                  obtain ⟨A', c', e1, e2⟩ := src_ok M hX0 hhB
                  simp only [Value.slice.injEq] at e1
                  obtain ⟨rfl, e1, rfl⟩ := e1
                  have hpl : (b.part off len).length = len := by simp only [Blk.part, List.length_take, List.length_drop]; omega
                  obtain ⟨os, f1, f2, f3⟩ := e2 len (by rw [hpl]; exact Nat.le_refl _)
                  have f2' : FL s.sg cx w inf.size (b.part off len) os := by
                    have : (b.part off len).take len = b.part off len := by rw [List.take_of_length_le (by omega)]
                    rw [this] at f2; exact f2
                  have hrunN : c < len + ys.length → _ := fun hc => append_new (ty := ty) (base := A) (sLen := len) (sCap := c) hu hi hz hb S hc hbig (fun w2 hw => f1 P w2 inf.size hw (.inl rfl))
                  have hdone : ∀ {s' : St} {l' : Loc} {g' : Nat} {els' : List (List AV)}, els' = b.part off len ++ ys → (b.ex = false → off = 0 ∧ b.fz = false) →
                      (∀ (i : Nat), l' = .h i → i < s'.h.length) → s'.gen l' = g' → s'.cur l' = some ⟨inf.size, els', false, false⟩ →
                      (b.ex = true → Laid s s' l' ⟨inf.size, els', false, false⟩) → (b.ex = false → Laid (s.kill l) s' l' ⟨inf.size, els', false, false⟩) →
                      ∃ v' w' cx', (Builtin.append_ #[t, u] ty #[.slice A len c, xv]).run P w = .ok v' w' ∧ Go1 s cx w s' cx' w' ∧ MR s' cx' w' ∧ VR s'.sg cx' w' (.rs l' g' inf.size 0 (len + ys.length) (len + ys.length)) v' := by
                    intro s' l' g' els' he hoff hlh hgen hhere hL1 hL2
                    subst he
                    cases hex : b.ex with
                    | true =>
                      have hcc := j3 hex
                      obtain ⟨cx', g1, g2, g3⟩ := grow_new (cap' := grownCap w (len + ys.length) c e) (zv := zv) (e := e) (hL1 hex) hgen hlh M (f2'.append hF) (by rw [List.length_append, hpl]) (by omega) (grown_ge _ _ _ _) hzc
                      exact ⟨_, _, cx', hrunN (by omega), g1, g2, g3⟩
                    | false =>
                      obtain ⟨ho, hf⟩ := hoff hex
                      have L := hL2 hex
                      subst ho
                      have hne : b.els ≠ [] := fun e0 => by have := M.emp l b h1 e0; rw [hex] at this; cases this
                      rcases Nat.lt_or_ge c (len + ys.length) with hc | hc
                      · obtain ⟨q1, q2⟩ := kill_go M l
                        obtain ⟨cx', g1, g2, g3⟩ := grow_new (cap' := grownCap w (len + ys.length) c e) (zv := zv) (e := e) L hgen hlh q2 ((f2'.append hF).ext q1.ext) (by rw [List.length_append, hpl]) (by omega) (grown_ge _ _ _ _) hzc
                        exact ⟨_, _, cx', hrunN hc, q1.trans g1, g2, g3⟩
                      · obtain ⟨j5, j6⟩ := j4 (by omega)
                        rw [Nat.zero_mul] at j5
                        rw [Nat.zero_add, ← j1] at j6
                        obtain ⟨p1, p2⟩ := app_place M h1 hf hw hne (len := len) (c := c) (by omega) j6 hFb hc hy
                        rw [take_part] at hhere L
                        rw [← j1] at hhere L ⊢
                        obtain ⟨cx', g1, g2, g3⟩ := p2 s' l' g' (fun x b2 hx => by
                            by_cases ex : x = l'
                            · subst ex; rw [hhere] at hx; cases hx; exact .inl ⟨rfl, rfl⟩
                            · rw [L.cur x ex] at hx
                              exact .inr ⟨ex, kill_cur hx⟩)
                          (fun x => by
                            rw [← kill_gen (s := s) l x]
                            by_cases ex : x = l'
                            · subst ex
                              rcases L.up with h' | ⟨i, e1, e2⟩
                              · exact Nat.le_of_lt h'
                              · subst e1; exact Nat.zero_le _
                            · rw [L.gen x ex]; exact Nat.le_refl _)
                          (by
                            rcases L.up with h' | ⟨i, e1, e2⟩
                            · left; rw [kill_gen] at h'; exact h'
                            · right; rw [kill_hl] at e2; exact ⟨i, e1, e2⟩)
                          (fun i es k => (L.map i es k).trans ⟨kill_map l i es k, kill_map' h1 i es k⟩)
                          (by rw [← kill_hl (s := s) l]; exact L.hl) (L.ro.trans (by cases l <;> rfl)) hgen hlh hhere
                        refine ⟨.slice A (len + ys.length) c, _, cx', append_in hu hi hz hb S hc ?_, g1, g2, by rw [j5]; exact g3⟩
                        subst j5
                        show (storeCells _ us).run P w = _
                        rw [add_eq _ _ _ _ rfl, ← j1, Nat.zero_add]
                        exact p1 P
                  split at h
                  · rename_i hH
                    split at h
                    · rename_i hcond
                      obtain ⟨ce, co, cf⟩ := hcond
                      simp only [Option.some.injEq, Prod.mk.injEq] at h
                      obtain ⟨rfl, rfl⟩ := h
                      cases l with
                      | h i =>
                        have hkl : (s.kill (.h i)).h.length = s.h.length := kill_hl _
                        refine hdone rfl (fun _ => ⟨co, cf⟩) (fun j hj => by cases hj; simp) rfl ?_ (fun hex => by rw [ce] at hex; cases hex) (fun _ => ?_)
                        · have := (laidH (s.kill (.h i)) ⟨inf.size, b.part off len ++ ys, false, false⟩).here
                          rw [hkl] at this; exact this
                        · have := laidH (s.kill (.h i)) ⟨inf.size, b.part off len ++ ys, false, false⟩
                          rw [hkl] at this; exact this
                      | v i => cases hH
                      | a i => cases hH
                    · cases h
                  · split at h
                    · rename_i hex
                      simp only [Option.some.injEq] at h
                      cases h
                      have := hdone (s' := (newA d inf.size s (b.part off len ++ ys) (len + ys.length) false).2) (l' := .a d) (g' := (s.a d).g + 1) rfl (fun h' => by rw [hex] at h'; cases h') (fun i hi => by cases hi) (by simp [newA, St.gen, upd]) (laidA s d _).here (fun _ => laidA s d _) (fun h' => by rw [hex] at h'; cases h')
                      rw [List.length_append, hpl]
                      exact this
                    · rename_i hex
                      split at h
                      · rename_i hcond
                        simp only [Option.some.injEq] at h
                        cases h
                        have hge : (s.kill l).gen (.a d) = s.gen (.a d) := kill_gen _ _
                        have := hdone (s' := (newA d inf.size (s.kill l) (b.part off len ++ ys) (len + ys.length) false).2) (l' := .a d) (g' := ((s.kill l).a d).g + 1) rfl (fun _ => hcond) (fun i hi => by cases hi) (by simp [newA, St.gen, upd]) (laidA (s.kill l) d _).here (fun h' => absurd h' hex) (fun _ => laidA (s.kill l) d _)
                        rw [List.length_append, hpl]
                        exact this
                      · cases h
                · cases h
        · cases h
      · cases h
  · cases h

theorem zlen_some {e : TypeId} {z : Nat} (h : zlen P e z = true) : ∃ i zv, P.info? e = some i ∧ i.zero = some zv ∧ zv.cells.size = z := by
  unfold zlen zeroC at h
  cases hi : P.info? e with
  | none => simp [hi] at h
  | some i =>
    cases hz : i.zero with
    | none => simp [hi, hz] at h
    | some zv => simp [hi, hz] at h; exact ⟨i, zv, rfl, hz, h⟩

theorem bytes_le {e : TypeId} {i : TypeInfo} (h : bytesOK P e = true) (hi : P.info? e = some i) : i.bytes ≤ 32768 := by
  unfold bytesOK at h; simp [hi] at h; exact h.1

theorem app_ok {hh : Bool} {z : Nat} {x y : X} (hro : s.ro = ro) (ho : chkI P o.op (.app hh z x y) = true) (M : MR s cx w) (T : TR s cx w a) (h : step C ro d s (.app hh z x y) = some (v, s1)) : Post P o a s cx w v s1 Q := by
  simp only [chkI] at ho
  split at ho
  · rename_i c hop
    split at ho
    · rename_i s' x' t u hc h2 h3
      have hcc := map_call2 hc h2 h3
      split at ho
      · rename_i e he
        simp only [Bool.and_eq_true, decide_eq_true_eq] at ho
        obtain ⟨⟨⟨⟨⟨ho1, ho2⟩, ho3⟩, ho4⟩, ho5⟩, ho6⟩ := ho
        have hu := elemO_some he
        obtain ⟨inf, hi, hsz, hrs⟩ := szO_run (P := P) (w := w) ho4
        obtain ⟨inf', zv, hi', hz, hzc⟩ := zlen_some ho6
        rw [hi] at hi'; cases hi'
        simp only [step] at h
        split at h
        · rename_i z' ys hsrc
          split at h
          · rename_i hzz
            obtain ⟨A, c', e1, e2⟩ := src_ok M (ev_ok T ho2) hsrc
            obtain ⟨us, f1, f2, f3⟩ := e2 ys.length (Nat.le_refl _)
            rw [List.take_length] at f2
            have hF : FL s.sg cx w z ys us := by
              rcases hzz with rfl | rfl
              · exact f2
              · have := f2.len; simp at this; subst this; exact FL.nil
            cases hue : elemO P u with
            | none => simp [hue] at ho3
            | some eu =>
              have S : AppSrc P w u inf zv (a.eval x') ys.length us := .inl ⟨.inl ⟨eu, elemO_some hue⟩, fun w2 => by rw [e1]; rfl, fun w2 hw => f1 P w2 inf.size hw (hzz.imp (fun e => by rw [hsz, e]) (fun e => by simp [e]))⟩
              obtain ⟨v', w', cx', r1, r2, r3, r4⟩ := appA_ok (ty := o.type) hu hi hz hsz hzc (bytes_le ho5 hi) hro M (ev_ok T ho1) S hF h
              refine post_value ?_ r2 r3 r4
              simp [execOp, hop, hcc, resolve, invoke, builtin, r1]
          · cases h
        · cases h
      · cases ho
    · cases ho
  · cases ho

theorem apps_ok {x y : X} (hro : s.ro = ro) (ho : chkI P o.op (.apps x y) = true) (M : MR s cx w) (T : TR s cx w a) (h : step C ro d s (.apps x y) = some (v, s1)) : Post P o a s cx w v s1 Q := by
  simp only [chkI] at ho
  split at ho
  · rename_i c hop
    split at ho
    · rename_i s' x' t u hc h2 h3
      have hcc := map_call2 hc h2 h3
      split at ho
      · rename_i e he
        simp only [Bool.and_eq_true, decide_eq_true_eq] at ho
        obtain ⟨⟨⟨⟨⟨ho1, ho2⟩, ho3⟩, ho4⟩, ho5⟩, ho6⟩ := ho
        have hu := elemO_some he
        obtain ⟨inf, hi, hsz, hrs⟩ := szO_run (P := P) (w := w) ho4
        obtain ⟨inf', zv, hi', hz, hzc⟩ := zlen_some ho6
        rw [hi] at hi'; cases hi'
        split at ho3
        · rename_i hus
          simp only [step] at h
          split at h
          · rename_i b hb
            have hS := src_str (hb ▸ ev_ok T ho2)
            obtain ⟨us, f1, f2⟩ := hS.first (bytesA b).length (Nat.le_refl _)
            rw [List.take_length] at f2
            have S : AppSrc P w u inf zv (a.eval x') (bytesA b).length us := .inl ⟨.inr hus, hS.len P, fun w2 hw => f1 P w2 inf.size hw (.inl hsz)⟩
            obtain ⟨v', w', cx', r1, r2, r3, r4⟩ := appA_ok (ty := o.type) hu hi hz hsz hzc (bytes_le ho5 hi) hro M (ev_ok T ho1) S f2 h
            refine post_value ?_ r2 r3 r4
            simp [execOp, hop, hcc, resolve, invoke, builtin, r1]
          · cases h
        · cases ho3
      · cases ho
    · cases ho
  · cases ho

theorem zeros_list {zv : Value} {z : Nat} (hzc : zv.cells.size = z) (n : Nat) : (Builtin.zeroCells zv.cells n).toList = (List.replicate n zv.cells.toList).flatten := by
  have hfl : (List.replicate n zv.cells.toList).flatten.length = n * z := by simp [List.length_flatten, hzc]
  apply List.ext_getElem?
  intro i
  rw [Builtin.zeroCells]
  rcases Nat.lt_or_ge i (n * z) with hi | hi
  · have hl2 : i < (List.replicate n zv.cells.toList).flatten.length := by omega
    obtain ⟨q1, q2⟩ := rep_get (z := z) (zc := zv.cells.toList) (by simpa using hzc) n i (List.getElem?_eq_getElem hl2)
    rw [List.getElem?_eq_getElem hl2]
    rw [Array.getElem?_toList, Array.getElem?_map, Array.getElem?_range, if_pos (by rw [hzc]; exact hi)]
    simp only [Option.map_some]
    have hlt : i % zv.cells.size < zv.cells.size := by rw [hzc]; have := (List.getElem?_eq_some_iff.1 q2).1; simpa [hzc] using this
    rw [getElem!_pos zv.cells _ hlt]
    have q3 : zv.cells[i % zv.cells.size]? = some ((List.replicate n zv.cells.toList).flatten[i]) := by rw [hzc, ← Array.getElem?_toList]; exact q2
    rw [Array.getElem?_eq_getElem hlt] at q3
    exact q3
  · have hl3 : (List.replicate n zv.cells.toList).flatten.length ≤ i := by omega
    rw [List.getElem?_eq_none hl3, List.getElem?_eq_none (by simp [hzc]; omega)]

theorem appz_ok {z : Nat} {zero : List AV} {x y : X} (hro : s.ro = ro) (ho : chkI P o.op (.appz z zero x y) = true) (M : MR s cx w) (T : TR s cx w a) (h : step C ro d s (.appz z zero x y) = some (v, s1)) : Post P o a s cx w v s1 Q := by
  simp only [chkI] at ho
  split at ho
  · rename_i c hop
    split at ho
    · rename_i s' x' t u hc h2 h3
      have hcc := map_call2 hc h2 h3
      split at ho
      · rename_i e he
        simp only [Bool.and_eq_true, decide_eq_true_eq] at ho
        obtain ⟨⟨⟨⟨⟨⟨ho1, ho2⟩, ho3⟩, ho4⟩, ho5⟩, ho6⟩, ho7⟩ := ho
        have hu := elemO_some he
        obtain ⟨inf, hi, hsz, hrs⟩ := szO_run (P := P) (w := w) ho4
        obtain ⟨zv, hzr, hlen, ⟨inf', hi', hz⟩, hzv⟩ := zeroOK_run (P := P) (w := w) ho6
        rw [hi] at hi'; cases hi'
        have hzc : zv.cells.size = z := by rw [← hlen]; exact ho7
        split at ho3
        · rename_i k hus
          simp only [step] at h
          split at h
          · rename_i n hn
            split at h
            · rename_i hnb
              have e1 := int_inv (hn ▸ ev_ok T ho2)
              have hbig : bigLen = 4294967296 := rfl
              have hF := FL.rep (σ := s.sg) (cx := cx) (w := w) n.toNat ho7 (zc := zv.cells.toList) (by simpa using hzc) (fun i x u hx hu => (hzv _ _ _ i x u hx (by simpa using hu)).1)
                (fun u hu => by
                  obtain ⟨i, hiu⟩ := List.mem_iff_getElem?.1 hu
                  have hlt : i < zero.length := by rw [hlen]; have := (List.getElem?_eq_some_iff.1 hiu).1; simpa using this
                  exact (hzv s.sg cx w i _ u (List.getElem?_eq_getElem hlt) (by simpa using hiu)).2)
              have hnn : ((n.toNat : Nat) : Int) = n := by omega
              have S : AppSrc P w u inf zv (a.eval x') (List.replicate n.toNat zero).length (List.replicate n.toNat zv.cells.toList).flatten := by
                rw [List.length_replicate]
                refine .inr ⟨⟨k, hus⟩, by rw [e1, hnn], by omega, (zeros_list hzc _).symm, fun h0 => ?_⟩
                have := hF.len
                rw [List.length_replicate, ← hsz, h0] at this
                exact List.length_eq_zero_iff.1 this
              obtain ⟨v', w', cx', r1, r2, r3, r4⟩ := appA_ok (ty := o.type) hu hi hz hsz hzc (bytes_le ho5 hi) hro M (ev_ok T ho1) S hF h
              refine post_value ?_ r2 r3 r4
              simp [execOp, hop, hcc, resolve, invoke, builtin, r1]
            · cases h
          · cases h
        · cases ho3
      · cases ho
    · cases ho
  · cases ho

end
end Go.Proofs.Bb
