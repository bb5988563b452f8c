/- Arrays: copied, cleared, read as strings. -/
import Derived.Test.YtimlkngjkiknfaaGreatBbOpsG
set_option linter.unusedSimpArgs false
set_option linter.unusedVariables false
namespace Go.Proofs.Bb
open Go

section
variable {P : Program} {s : St} {cx : Cx} {w : World} {a : Act} {o : Oper} {Q : Exit → Act → World → Prop} {C : Orc} {ro : Bool} {d : Nat} {v : AV} {s1 : St}

theorem map_call2 {c : Call} {b : Builtin} {y x : Operand} {t : TypeId} {ts : List TypeId} (h : c.callee = .builtin b) (h2 : c.args.toList = [y, x]) (h3 : c.argTypes.toList = t :: ts) :
    c = { callee := .builtin b, args := #[y, x], argTypes := (t :: ts).toArray } := by
  have h2' : c.args = #[y, x] := by rw [← Array.toList_inj]; exact h2
  have h3' : c.argTypes = (t :: ts).toArray := by rw [← Array.toList_inj]; exact h3
  cases c; simp_all

/-- A string's bytes as elements. -/
theorem FL.str {σ : Sg} (b : ByteArray) (n : Nat) (hn : n ≤ b.size) : FL σ cx w 1 ((bytesA b).take n) ((b.extract 0 n).data.map fun c => Value.int .u8 c.toNat).toList := by
  have hsz : b.size = b.data.toList.length := by rw [Array.length_toList]; rfl
  have hlen : ((bytesA b).take n).length = n := by simp only [bytesA, List.length_take, List.length_map]; omega
  have hd : (b.extract 0 n).data.toList = b.data.toList.take n := by
    rw [ByteArray.data_extract]; simp
  refine ⟨?_, fun cs hcs => ?_, fun j q x hx => ?_, fun u hu => ?_⟩
  · rw [hlen]; simp only [Array.toList_map, List.length_map, hd, List.length_take]; omega
  · have hcs := List.mem_of_mem_take hcs
    simp only [bytesA, List.mem_map] at hcs
    obtain ⟨c, _, rfl⟩ := hcs; rfl
  · obtain ⟨hj, hx⟩ := cellA_take hx
    obtain ⟨cs, h1, h2⟩ := cellA_of hx
    simp only [bytesA, List.getElem?_map, Option.map_eq_some_iff] at h1
    obtain ⟨c, h1, rfl⟩ := h1
    cases q with
    | zero =>
      simp at h2; subst h2
      refine ⟨.int .u8 c.toNat, ?_, .int _ _⟩
      simp only [Array.toList_map, hd, List.getElem?_map, Nat.mul_one, Nat.add_zero]
      rw [List.getElem?_take_of_lt hj, h1]; rfl
    | succ q => simp at h2
  · simp only [Array.toList_map, List.mem_map] at hu
    obtain ⟨c, _, rfl⟩ := hu; rfl

/-- What is copied, or appended: elements of a slice or bytes of a string. -/
structure Src (σ : Sg) (cx : Cx) (w : World) (z : Nat) (ys : List (List AV)) (x : Value) : Prop where
  len : ∀ (P : Program) (w2 : World), (Builtin.lenOf x).run P w2 = .ok ys.length w2
  first : ∀ n, n ≤ ys.length → ∃ us : List Value, (∀ (P : Program) (w2 : World) size, w2.heap = w.heap → (size = z ∨ n = 0) → (Builtin.firstCells size n x).run P w2 = .ok us.toArray w2) ∧ FL σ cx w z (ys.take n) us

theorem src_sl {hh : Bool} {y : AV} {u : Value} {z : Nat} {ys : List (List AV)} (M : MR s cx w) (hv : VR s.sg cx w y u) (h : elsOf hh s y = some (z, ys)) : Src s.sg cx w z ys u := by
  obtain ⟨A, c, rfl, h2⟩ := src_ok M hv h
  refine ⟨fun P w2 => rfl, fun n hn => ?_⟩
  obtain ⟨us, k1, k2, _⟩ := h2 n hn
  exact ⟨us, k1, k2⟩

theorem src_str {b : ByteArray} {u : Value} (hv : VR s.sg cx w (.str b) u) : Src s.sg cx w 1 (bytesA b) u := by
  have := str_inv hv
  subst this
  have hlen : (bytesA b).length = b.size := by rw [bytesA, List.length_map, Array.length_toList]; rfl
  refine ⟨fun P w2 => by rw [hlen]; rfl, fun n hn => ⟨_, fun P w2 size _ _ => ?_, FL.str b n (by omega)⟩⟩
  simp only [Builtin.firstCells, Sem.run_pure]

theorem setEls_nil (b : Blk) (off : Nat) : setEls b off [] = b := by
  cases b; simp [setEls]

theorem setB_same (M : MR s cx w) {l : Loc} {g : Nat} {b : Blk} (hb : s.getB l g = some b) : Go1 s cx w (s.setB l b) cx w ∧ MR (s.setB l b) cx w := by
  have T := setB_turned (b' := b) hb rfl
  refine M.less (fun l' b' h => ?_) T.gen T.hl (fun i es k h => (T.map i es k).1 h) T.ro
  by_cases e : l' = l
  · subst e; rw [T.here] at h; rw [T.was]; exact h
  · rw [T.cur l' e] at h; exact h

theorem cpy_ok {hh : Bool} {z : Nat} {x y : X} (hro : s.ro = ro) (ho : chkI P o.op (.cpy hh z x y) = true) (M : MR s cx w) (T : TR s cx w a) (h : step C ro d s (.cpy hh z x y) = some (v, s1)) : Post P o a s cx w v s1 Q := by
  simp only [chkI] at ho
  split at ho
  · rename_i c hop
    split at ho
    · rename_i d' s' t ts hc h2 h3
      have hcc := map_call2 hc h2 h3
      split at ho
      · rename_i e he
        simp only [Bool.and_eq_true, decide_eq_true_eq] at ho
        obtain ⟨⟨ho1, ho2⟩, ho3⟩ := ho
        have hu := elemO_some he
        obtain ⟨inf, hi, hsz, hrs⟩ := szO_run (P := P) (w := w) ho3
        simp only [step] at h
        split at h
        · rename_i z' ys hsrc
          have hS : Src s.sg cx w z' ys (a.eval s') := by
            unfold cpySrc at hsrc
            split at hsrc
            · rename_i b hb
              simp only [Option.some.injEq, Prod.mk.injEq] at hsrc
              obtain ⟨rfl, rfl⟩ := hsrc
              exact src_str (hb ▸ ev_ok T ho2)
            · exact src_sl M (ev_ok T ho2) hsrc
          have hlen := hS.len P w
          have hrun : ∀ A dl dc us w', a.eval d' = .slice A dl dc → (Builtin.firstCells z (Nat.min ys.length dl) (a.eval s')).run P w = .ok us w → (match A with | some q => (storeCells q us.toList).run P w | none => .ok () w) = .ok () w' →
              (execOp a.eval o).run P w = .ok (.value (goInt (Nat.min ys.length dl : Nat))) w' := by
            intro A dl dc us w' e1 e2 e3
            have hrs' : (sizeOf e).run P w = .ok z w := hrs
            cases A with
            | none => cases e3; simp [execOp, hop, hcc, resolve, invoke, builtin, Builtin.copy_, e1, underlying, hu, hlen, hrs', e2]
            | some q =>
              have e3 : (storeCells q us.toList).run P w = .ok () w' := e3
              simp [execOp, hop, hcc, resolve, invoke, builtin, Builtin.copy_, e1, underlying, hu, hlen, hrs', e2, e3]
          split at h
          · rename_i l g z'' off len cap hx
            split at h
            · cases h
            · rename_i hwr
              have hw : s.wr l := fun hH => by rw [hH] at hwr; rw [hro]; simpa using (by simpa using hwr : _ ∧ _).2
              split at h
              · rename_i b hb
                split at h
                · rename_i hcond
                  obtain ⟨hz1, hz2, hfz⟩ := hcond
                  subst hz1
                  simp only [Option.some.injEq, Prod.mk.injEq] at h
                  obtain ⟨rfl, rfl⟩ := h
                  have hv := hx ▸ ev_ok T ho1
                  generalize hev : a.eval d' = dv at hv
                  cases hv with
                  | @rs _ _ _ _ _ _ c A k1 k2 k3 k4 k5 k6 =>
                    obtain ⟨h1, h2⟩ := getB_some hb
                    obtain ⟨j1, j2, j3, j4⟩ := k6 h2 b.bi (sg_of h1)
                    have j1 : b.z = z'' := j1
                    have j2 : off + cap ≤ b.els.length := j2
                    subst j1
                    obtain ⟨us, f1, f2⟩ := hS.first (Nat.min ys.length len) (Nat.min_le_left _ _)
                    have hml : Nat.min ys.length len ≤ len := Nat.min_le_right _ _
                    have hmy : Nat.min ys.length len ≤ ys.length := Nat.min_le_left _ _
                    rcases Nat.eq_zero_or_pos (Nat.min ys.length len) with h0 | h0
                    · have hz0 : ys.take (Nat.min ys.length len) = [] := by rw [h0]; rfl
                      rw [hz0, setEls_nil]
                      obtain ⟨g1, g2⟩ := setB_same M hb
                      have hus : us = [] := by
                        have := f2.len; rw [hz0] at this
                        exact List.length_eq_zero_iff.1 (by simpa using this)
                      refine post_value (hrun A len c us.toArray w hev (f1 P w _ rfl (.inr h0)) ?_) g1 g2 (.int _ _)
                      subst hus
                      cases A <;> rfl
                    · have hc0 : 0 < c := by omega
                      obtain ⟨j5, j6⟩ := j4 hc0
                      have hzz : z' = b.z := hz2.resolve_right (fun e => by subst e; simp at h0)
                      subst hzz
                      have htl : (ys.take (Nat.min ys.length len)).length = Nat.min ys.length len := by rw [List.length_take]; omega
                      obtain ⟨g1, g2, g3⟩ := fill_go M (off := off) hb hfz hw (fun e => by rw [e] at htl; simp at htl; omega) (by rw [htl]; omega) f2
                      refine post_value (hrun A len c us.toArray _ hev (f1 P w _ rfl (.inl rfl)) ?_) g1 g2 (.int _ _)
                      rw [j5]
                      exact g3 P
                · cases h
              · cases h
          · rename_i zz els tl hx
            split at h
            · rename_i hcond
              simp only [Option.some.injEq, Prod.mk.injEq] at h
              obtain ⟨rfl, rfl⟩ := h
              have hv := hx ▸ ev_ok T ho1
              generalize hev : a.eval d' = dv at hv
              cases hv with
              | @sl _ _ _ A len cap r off fc k1 k2 k3 k4 k5 k6 k7 k8 =>
                have h0 : Nat.min ys.length len = 0 := by
                  subst k1
                  rcases hcond with e | e
                  · subst e; simp
                  · subst e; simp
                obtain ⟨us, f1, f2⟩ := hS.first 0 (Nat.zero_le _)
                have hus : us = [] := by
                  have := f2.len
                  exact List.length_eq_zero_iff.1 (by simpa using this)
                subst hus
                have := hrun A len cap #[] w hev (by rw [h0]; exact f1 P w _ rfl (.inr rfl)) (by cases A <;> rfl)
                rw [h0] at this
                exact post_value this (.refl ..) M (.int _ _)
            · cases h
          · cases h
        · cases h
      · cases ho
    · cases ho
  · cases ho

theorem clr_ok {z : Nat} {zero : List AV} {x : X} (ho : chkI P o.op (.clr z zero x) = true) (M : MR s cx w) (T : TR s cx w a) (h : step C ro d s (.clr z zero x) = some (v, s1)) : Post P o a s cx w v s1 Q := by
  simp only [chkI] at ho
  split at ho
  · rename_i c hop
    split at ho
    · rename_i y t hc h2 h3
      have hcc := callee_b hc h2 h3
      split at ho
      · rename_i e he
        simp only [Bool.and_eq_true, decide_eq_true_eq] at ho
        obtain ⟨⟨⟨ho1, ho2⟩, ho3⟩, ho4⟩ := ho
        have hu := elemO_some he
        obtain ⟨zv, hz, hlen, ⟨inf, hi, hiz⟩, hzv⟩ := zeroOK_run (P := P) (w := w) ho3
        have htup : ∀ σ cx w, VR σ cx w (.tup []) (.tuple #[]) := fun σ cx w => .tup rfl (fun i x v h _ => by simp at h)
        simp only [step] at h
        split at h
        · rename_i i g z' off len cap hx
          split at h
          · rename_i b hb
            split at h
            · rename_i hcond
              obtain ⟨rfl, hfz⟩ := hcond
              simp only [Option.some.injEq, Prod.mk.injEq] at h
              obtain ⟨rfl, rfl⟩ := h
              have hv := hx ▸ ev_ok T ho1
              generalize hev : a.eval y = dv at hv
              cases hv with
              | @rs _ _ _ _ _ _ c A k1 k2 k3 k4 k5 k6 =>
                obtain ⟨h1, h2⟩ := getB_some hb
                obtain ⟨j1, j2, j3, j4⟩ := k6 h2 b.bi (sg_of h1)
                have j1 : b.z = z' := j1
                have j2 : off + cap ≤ b.els.length := j2
                subst j1
                rcases Nat.eq_zero_or_pos len with rfl | h0
                · have : List.replicate 0 zero = [] := rfl
                  rw [this, setEls_nil]
                  obtain ⟨g1, g2⟩ := setB_same M hb
                  refine post_value (v' := .tuple #[]) ?_ g1 g2 (htup _ _ _)
                  cases A <;> simp [execOp, hop, hcc, resolve, invoke, builtin, Builtin.clear_, hev, underlying, hu]
                · have hc0 : 0 < c := by omega
                  obtain ⟨j5, j6⟩ := j4 hc0
                  have hzc : zv.cells.size = b.z := by rw [← hlen]; exact ho4
                  have hF := FL.rep (σ := s.sg) (cx := cx) (w := w) len ho4 (zc := zv.cells.toList) (by simpa using hzc) (fun i x u hx hu => (hzv _ _ _ i x u hx (by simpa using hu)).1)
                    (fun u hu => by
                      obtain ⟨i, hiu⟩ := List.mem_iff_getElem?.1 hu
                      have hlt : i < zero.length := by rw [hlen]; have := (List.getElem?_eq_some_iff.1 hiu).1; simpa using this
                      exact (hzv s.sg cx w i _ u (List.getElem?_eq_getElem hlt) (by simpa using hiu)).2)
                  have hcells : (Builtin.zeroCells zv.cells len).toList = (List.replicate len zv.cells.toList).flatten := by
                    apply List.ext_getElem?
                    intro i
                    rw [Builtin.zeroCells]
                    rcases Nat.lt_or_ge i (len * b.z) with hi | hi
                    · have hl2 : i < (List.replicate len zv.cells.toList).flatten.length := by have := hF.len; rw [this]; simpa using hi
                      obtain ⟨q1, q2⟩ := rep_get (z := b.z) (zc := zv.cells.toList) (by simpa using hzc) len i (List.getElem?_eq_getElem hl2)
                      rw [List.getElem?_eq_getElem hl2]
                      rw [Array.getElem?_toList, Array.getElem?_map, Array.getElem?_range, if_pos (by rw [hzc]; exact hi)]
                      simp only [Option.map_some]
                      have hlt : i % zv.cells.size < zv.cells.size := by rw [hzc]; have := (List.getElem?_eq_some_iff.1 q2).1; simpa [hzc] using this
                      rw [getElem!_pos zv.cells _ hlt]
                      have q3 : zv.cells[i % zv.cells.size]? = some ((List.replicate len zv.cells.toList).flatten[i]) := by rw [hzc, ← Array.getElem?_toList]; exact q2
                      rw [Array.getElem?_eq_getElem hlt] at q3
                      exact q3
                    · have hl3 : (List.replicate len zv.cells.toList).flatten.length ≤ i := by have := hF.len; rw [this]; simpa using hi
                      rw [List.getElem?_eq_none hl3, List.getElem?_eq_none (by simp [hzc]; omega)]
                  obtain ⟨g1, g2, g3⟩ := fill_go M (off := off) hb hfz (fun h => by cases h) (fun e => by have := congrArg List.length e; simp at this; omega) (by simp; omega) hF
                  refine post_value (v' := .tuple #[]) ?_ g1 g2 (htup _ _ _)
                  subst j5
                  have hne : len ≠ 0 := by omega
                  obtain ⟨n, rfl⟩ : ∃ n, len = n + 1 := ⟨len - 1, by omega⟩
                  have g3 := g3 P
                  rw [← hcells] at g3
                  simp [execOp, hop, hcc, resolve, invoke, builtin, Builtin.clear_, hev, underlying, hu, hz, g3]
                  rw [hcells]
            · cases h
          · cases h
        · rename_i zz tl hx
          simp only [Option.some.injEq, Prod.mk.injEq] at h
          obtain ⟨rfl, rfl⟩ := h
          have hv := hx ▸ ev_ok T ho1
          generalize hev : a.eval y = dv at hv
          cases hv with
          | @sl _ _ _ A len cap r off fc k1 k2 k3 k4 k5 k6 k7 k8 =>
            simp at k1
            subst k1
            refine post_value (v' := .tuple #[]) ?_ (.refl ..) M (htup _ _ _)
            cases A <;> simp [execOp, hop, hcc, resolve, invoke, builtin, Builtin.clear_, hev, underlying, hu]
        · cases h
      · cases ho
    · cases ho
  · cases ho

/-- Bytes of a slice, as a string. -/
theorem unbyte_ok {σ : Sg} : ∀ (els : List (List AV)) (us : List Value) (l : List UInt8), FL σ cx w 1 els us → unbyteA els = some l →
    ∃ ns : List Int, us = ns.map (Value.int .u8) ∧ l = ns.map fun n => UInt8.ofNat n.toNat
  | [], us, l, hF, h => by
    have := hF.len
    simp at this
    subst this
    simp only [unbyteA, Option.some.injEq] at h
    exact ⟨[], rfl, by simp [← h]⟩
  | cs :: els, us, l, hF, h => by
    unfold unbyteA at h
    split at h
    · rename_i heq; cases heq
    · rename_i n rest heq
      cases heq
      split at h
      · rename_i l' hl'
        simp only [Option.some.injEq] at h
        subst h
        obtain ⟨u, h1, h2⟩ := hF.at_ 0 0 _ rfl
        have := int_inv h2
        subst this
        cases us with
        | nil => simp at h1
        | cons u us =>
          simp at h1
          subst h1
          have hF' : FL σ cx w 1 els us := by
            refine ⟨by have := hF.len; simpa using this, fun cs hcs => hF.zs cs (by simp [hcs]), fun j q x hx => ?_, fun u hu => hF.one u (by simp [hu])⟩
            obtain ⟨v, k1, k2⟩ := hF.at_ (j + 1) q x (by simpa [cellA] using hx)
            refine ⟨v, ?_, k2⟩
            rw [← k1, show (j + 1) * 1 + q = (j * 1 + q) + 1 by omega]; rfl
          obtain ⟨ns, e1, e2⟩ := unbyte_ok els us l' hF' hl'
          exact ⟨n :: ns, by simp [e1], by simp [e2]⟩
      · cases h
    · cases h

theorem srcOf_els {wd : Nat} {x : AV} {p : Nat × List (List AV)} (h : srcOf wd s x = some p) : ∃ hh, elsOf hh s x = some p := by
  cases x <;> simp only [srcOf] at h
  case sl z els tl => exact ⟨false, h⟩
  all_goals (split at h <;> first | cases h | exact ⟨_, h⟩)

theorem b2s_ok {wd : Nat} {x : X} (ho : chkI P o.op (.b2s wd x) = true) (M : MR s cx w) (T : TR s cx w a) (h : step C ro d s (.b2s wd x) = some (v, s1)) : Post P o a s cx w v s1 Q := by
  simp only [chkI] at ho
  split at ho
  · rename_i sT dT y hop
    simp only [Bool.and_eq_true] at ho
    obtain ⟨ho1, ho2⟩ := ho
    split at ho2
    · rename_i e hs hd
      split at ho2
      · rename_i he
        simp only [step] at h
        split at h
        · rename_i zz els hels
          split at h
          · rename_i l hl
            simp only [Option.some.injEq, Prod.mk.injEq] at h
            obtain ⟨rfl, rfl⟩ := h
            obtain ⟨hh, hels⟩ := srcOf_els hels
            obtain ⟨A, c, e1, e2⟩ := src_ok M (ev_ok T ho1) hels
            obtain ⟨us, f1, f2, f3⟩ := e2 els.length (Nat.le_refl _)
            rw [List.take_length] at f2
            have hzz : zz = 1 ∨ els = [] := by
              cases els with
              | nil => exact .inr rfl
              | cons cs rest =>
                left
                have := f2.zs cs (by simp)
                unfold unbyteA at hl
                split at hl
                · rename_i heq; cases heq
                · rename_i heq; cases heq; simpa using this.symm
                · cases hl
            have hF : FL s.sg cx w 1 els us := by
              rcases hzz with rfl | rfl
              · exact f2
              · have := f2.len; simp at this; subst this; exact FL.nil
            obtain ⟨ns, rfl, rfl⟩ := unbyte_ok els us l hF hl
            refine post_pure M (v' := .string _) ?_ (.str _)
            simp only [execOp, hop, Sem.run_bind, e1]
            rw [run_convert_bytes_string w sT dT e _ _ _ hs he hd]
            have hfc := f1 P w zz rfl (.inl rfl)
            cases A with
            | none =>
              have hns : ns = [] := by
                cases ns with
                | nil => rfl
                | cons n ns => obtain ⟨b, hb, _⟩ := f3 0 _ rfl; cases hb
              subst hns
              simp [Conv.bytesToString, ByteArray.empty, ByteArray.emptyWithCapacity]
              rfl
            | some q =>
              have hfc1 := f1 P w 1 rfl (hzz.imp Eq.symm (fun e => by simp [e]))
              have hld : (loadCells q els.length).run P w = .ok (ns.map (Value.int .u8)).toArray w := by
                rw [e1] at hfc1
                simpa [Builtin.firstCells] using hfc1
              rw [run_bytesToString w q els.length c ns hld, foldl_push_bytes]
              simp [ByteArray.empty, ByteArray.emptyWithCapacity]
              rfl
          · cases h
        · cases h
      · cases ho2
    · cases ho2
  · cases ho

end
end Go.Proofs.Bb
