/- Slices built of parts, slices of a local array, function values. -/
import Derived.Test.YtimlkngjkiknfaaGreatBbOpsK
set_option linter.unusedSimpArgs false
set_option linter.unusedVariables false
namespace Go.Proofs.Bb
open Go

section
variable {P : Program} {s : St} {cx : Cx} {w : World} {a : Act} {o : Oper} {Q : Exit → Act → World → Prop} {C : Orc} {ro : Bool} {d : Nat} {v : AV} {s1 : St}

/-- A block that nobody will write. -/
theorem im_new (M : MR s cx w) (c : Array Value) (e : TypeId) :
    Go1 s cx w s ⟨cx.lm, fun r => cx.im r ∨ r = w.heap.size⟩ (w.alloc (.cells c e)) ∧ MR s ⟨cx.lm, fun r => cx.im r ∨ r = w.heap.size⟩ (w.alloc (.cells c e)) := by
  have hh : ∀ r, r < w.heap.size → (w.alloc (.cells c e)).heap[r]? = w.heap[r]? := fun r hr => RowKit.Below.heap_alloc w _ r hr
  have hE : Ext s.sg cx w s.sg ⟨cx.lm, fun r => cx.im r ∨ r = w.heap.size⟩ (w.alloc (.cells c e)) :=
    ext_grow (fun _ => Nat.le_refl _) (Nat.le_refl _) (fun l _ _ b h => ⟨⟨b, h, rfl⟩, rfl⟩) (fun _ _ => rfl) (fun _ h => .inl h) hh
  refine ⟨⟨hE, fun r hr _ => hh r hr, fun r hr => .inl hr, fun r hr => hr.imp id (fun e => .inr (Nat.le_of_eq e.symm)), rfl, rfl, rfl, by simp⟩, ?_⟩
  refine ⟨fun l b h j q x hx => ?_, M.zs, fun l b h h2 h3 => ?_, fun l b h h2 h3 => .inl (M.fz l b h h2 h3), M.emp, M.dis, fun i es k h => ?_, M.mdis, fun r hr => ?_⟩
  · obtain ⟨v, h1, h2, h3⟩ := M.live l b h j q x hx
    exact ⟨v, by rw [cel_of_heap (hh _ (cel_lt h1))]; exact h1, h2.ext hE, h3⟩
  · obtain ⟨h4, h5⟩ := M.mu l b h h2 h3
    refine ⟨fun h6 => ?_, h5.of_heap (hh _ h5.lt)⟩
    rcases h6 with h6 | h6
    · exact h4 h6
    · have h6 : cx.lm l = w.heap.size := h6
      have := h5.lt; omega
  · obtain ⟨es', h1, h2, h3⟩ := M.maps i es k h
    have hlt : cx.lm (.h i) < w.heap.size := by
      rcases Nat.lt_or_ge (cx.lm (.h i)) w.heap.size with h' | h'
      · exact h'
      · rw [Array.getElem?_eq_none h'] at h1; cases h1
    exact ⟨es', by rw [hh _ hlt]; exact h1, h2, fun j a b ha hb => by obtain ⟨k1, k2, k3⟩ := h3 j a b ha hb; exact ⟨k1.ext hE, k2.ext hE, k3⟩⟩
  · rcases hr with hr | rfl
    · obtain ⟨k1, c', e', f', k2⟩ := M.ims r hr
      exact ⟨by simp; omega, c', e', f', by rw [hh r k1]; exact k2⟩
    · exact ⟨by simp, (room_new w c e 0 (Nat.zero_le _)).1⟩

/-- One element of a flattened list is another. -/
theorem FL.set {σ : Sg} {z i : Nat} {els : List (List AV)} {us vs xs : List Value} {cs : List AV} (hF : FL σ cx w z els us) (hi : i < els.length) (hcs : cs.length = z) (hx : xs.length = z)
    (hv : ∀ (j : Nat) (x : AV) (u : Value), cs[j]? = some x → xs[j]? = some u → VR σ cx w x u) (h1 : ∀ u, u ∈ xs → u.oneCell' = true)
    (hl : vs.length = us.length) (hg : ∀ j, vs[j]? = if i * z ≤ j ∧ j < i * z + z then xs[j - i * z]? else us[j]?) : FL σ cx w z (els.set i cs) vs := by
  refine ⟨by rw [hl, hF.len, List.length_set], fun c hc => ?_, fun j q x hx' => ?_, fun u hu => ?_⟩
  · rcases List.mem_or_eq_of_mem_set hc with h | h
    · exact hF.zs c h
    · subst h; exact hcs
  · rcases cellA_set hx' with ⟨rfl, hq⟩ | ⟨hji, hq⟩
    · have hqz : q < z := by rw [← hcs]; exact (List.getElem?_eq_some_iff.1 hq).1
      refine ⟨xs[q]'(by omega), ?_, hv q x _ hq (List.getElem?_eq_getElem (by omega))⟩
      rw [hg, if_pos (by omega), show j * z + q - j * z = q by omega]
      exact List.getElem?_eq_getElem (by omega)
    · have hqz := cellA_ltz hF.zs hq
      obtain ⟨u, k1, k2⟩ := hF.at_ j q x hq
      refine ⟨u, ?_, k2⟩
      rw [hg, if_neg ?_]; exact k1
      intro hin
      rcases Nat.lt_or_gt_of_ne hji with hlt | hgt
      · have : (j + 1) * z ≤ i * z := Nat.mul_le_mul_right _ hlt
        rw [Nat.succ_mul] at this; omega
      · have : (i + 1) * z ≤ j * z := Nat.mul_le_mul_right _ hgt
        rw [Nat.succ_mul] at this; omega
  · obtain ⟨j, hj⟩ := List.mem_iff_getElem?.1 hu
    rw [hg] at hj
    split at hj
    · exact h1 u (List.mem_of_getElem? hj)
    · exact hF.one u (List.mem_of_getElem? hj)

theorem fillE_ok {z : Nat} : ∀ (os : List (Nat × Operand)) (xs : List (Nat × X)) (els : List (List AV)) (vs : Array Value) (r : List (List AV)), fillEOK os xs = true → TR s cx w a →
    FL s.sg cx w z els vs.toList → fillE z els (xs.map fun (i, x) => (i, ev s.t x)) = some r →
    ∃ us, Instr.fill (fun i => some (i * z, z)) vs (os.map fun (i, x) => (i, a.eval x)) = some us ∧ FL s.sg cx w z r us.toList ∧ r.length = els.length := by
  intro os
  induction os with
  | nil =>
    intro xs els vs r h T hF hr
    cases xs with
    | nil => simp [fillE] at hr; subst hr; exact ⟨vs, rfl, hF, rfl⟩
    | cons x xs => simp [fillEOK] at h
  | cons p os ih =>
    intro xs els vs r h T hF hr
    obtain ⟨i, y⟩ := p
    cases xs with
    | nil => simp [fillEOK] at h
    | cons q xs =>
      obtain ⟨i', x⟩ := q
      simp only [fillEOK, Bool.and_eq_true, decide_eq_true_eq] at h
      obtain ⟨⟨rfl, h2⟩, h3⟩ := h
      simp only [List.map_cons, fillE] at hr
      split at hr
      · rename_i hn
        obtain ⟨hn, hle, hnt⟩ := hn
        obtain ⟨c1, c2⟩ := cells_ok (ev_ok T h2)
        have c3 := cells_one (ev_ok T h2) hnt
        have hvl : vs.size = els.length * z := by simpa using hF.len
        have hend : i * z + z ≤ els.length * z := by rw [← Nat.succ_mul]; exact Nat.mul_le_mul_right _ hle
        obtain ⟨f1, f2⟩ := fold_set (a.eval y).cells.toList vs (i * z) 0 (by simp; omega)
        have hz : ((a.eval y).cells.zipIdx.foldl (fun cs (c, j) => cs.setIfInBounds (i * z + j) c) vs) = (((a.eval y).cells.toList.zipIdx 0).foldl (fun cs (x : Value × Nat) => cs.setIfInBounds (i * z + x.2) x.1) vs) := by
          rw [← Array.foldl_toList, Array.toList_zipIdx]
        have hF' : FL s.sg cx w z (els.set i (cellsOf (ev s.t x))) (((a.eval y).cells.toList.zipIdx 0).foldl (fun cs (x : Value × Nat) => cs.setIfInBounds (i * z + x.2) x.1) vs).toList := by
          refine hF.set (xs := (a.eval y).cells.toList) hle hn (by simpa using c1.trans hn) (fun j x u hx hu => c2 j x u hx (by simpa using hu)) (fun u hu => ?_) (by simpa using f1) (fun j => ?_)
          · obtain ⟨j, hj⟩ := List.mem_iff_getElem?.1 hu
            exact c3 j u (by simpa using hj)
          · have := f2 j
            simp only [Array.length_toList, Nat.add_zero] at this
            rw [Array.getElem?_toList, this, c1, hn]
            split <;> simp
        obtain ⟨us, e1, e2, e3⟩ := ih xs (els.set i (cellsOf (ev s.t x))) _ r h3 T hF' hr
        refine ⟨us, ?_, e2, by rw [e3, List.length_set]⟩
        simp only [List.map_cons, Instr.fill]
        have hcond : ¬ (((a.eval y).cells.size ≠ z || decide (i * z + (a.eval y).cells.size > vs.size)) = true) := by simp; omega
        rw [if_neg hcond, hz]
        exact e1
      · cases hr

theorem bsl_ok {z n : Nat} {zero : List AV} {parts : List (Nat × X)} (ho : chkI P o.op (.bsl z zero n parts) = true) (M : MR s cx w) (T : TR s cx w a) (h : step C ro d s (.bsl z zero n parts) = some (v, s1)) : Post P o a s cx w v s1 Q := by
  simp only [chkI] at ho
  split at ho
  · rename_i t m ps hop
    split at ho
    · rename_i e he
      simp only [Bool.and_eq_true, decide_eq_true_eq] at ho
      obtain ⟨⟨⟨⟨⟨⟨rfl, ho2⟩, ho3⟩, ho4⟩, ho5⟩, ho6⟩, ho7⟩ := ho
      have hu := elemO_some he
      obtain ⟨inf, hi, hsz, hrs⟩ := szO_run (P := P) (w := w) ho2
      obtain ⟨zv, hzr, hlen, _, hzv⟩ := zeroOK_run (P := P) (w := w) ho5
      have hzc : zv.cells.size = z := by rw [← hlen]; exact ho6
      simp only [step] at h
      split at h
      · split at h
        · rename_i els hels
          simp only [Option.some.injEq, Prod.mk.injEq] at h
          obtain ⟨rfl, rfl⟩ := h
          have hF0 := FL.rep (σ := s.sg) (cx := cx) (w := w) m ho6 (zc := zv.cells.toList) (by simpa using hzc) (fun i x u hx hu => (hzv _ _ _ i x u hx (by simpa using hu)).1)
            (fun u hu => by
              obtain ⟨i, hiu⟩ := List.mem_iff_getElem?.1 hu
              have hlt : i < zero.length := by rw [hlen]; have := (List.getElem?_eq_some_iff.1 hiu).1; simpa using this
              exact (hzv s.sg cx w i _ u (List.getElem?_eq_getElem hlt) (by simpa using hiu)).2)
          rw [← zeros_list hzc] at hF0
          obtain ⟨us, f1, f2, f3⟩ := fillE_ok ps.toList parts _ _ els ho7 T hF0 hels
          rw [List.length_replicate] at f3
          have hrun : (execOp a.eval o).run P w = .ok (.value (.slice (some ⟨w.heap.size, 0, none⟩) m m)) (w.alloc (.cells us e)) := by
            have h24 : ¬ (16777216 < m * z) := by omega
            have hfill : ∀ zz : Array Value, (m * z = 0 ∨ zz = zv.cells) → Instr.fill (fun i => some (i * z, z)) ((Array.range (m * z)).map (fun x => zz[x % zz.size]!)) (ps.map fun x => (x.1, a.eval x.2)).toList = some us := by
              intro zz hzz
              have : (Array.range (m * z)).map (fun x => zz[x % zz.size]!) = Builtin.zeroCells zv.cells m := by
                rcases hzz with h0 | rfl
                · simp [Builtin.zeroCells, hzc, h0]
                · simp [Builtin.zeroCells, hzc]
              rw [this, ← f1]; congr 1
              simp
            by_cases h0 : m * z = 0
            · have := hfill #[] (.inl h0)
              have hE : ∀ f : Nat → Value, Array.map f (Array.range 0) = #[] := fun f => by apply Array.ext'; simp
              rw [h0, hE] at this
              simp only [Array.toList_map] at this
              simp [execOp, hop, Instr.buildSlice, underlying, hu, hrs, h0, hE, this, newRow]
            · have := hfill zv.cells (.inr rfl)
              simp only [Array.toList_map] at this
              simp [execOp, hop, Instr.buildSlice, underlying, hu, hrs, h24, h0, hzr, this, newRow]
          obtain ⟨g1, g2⟩ := im_new M us e
          have f2' := f2.ext g1.ext
          refine post_value hrun g1 g2 (.sl w.heap.size 0 (fun j q => us[j * z + q]?.getD undef) f3.symm (Nat.le_refl _) (fun t ht => by cases ht; rfl) (fun _ => ⟨rfl, .inr rfl⟩) (fun cs hcs => f2.zs cs (by simpa using hcs)) (fun j q x hx => ?_) (fun j q x hx => ?_) (fun j q x hx => ?_))
          all_goals
            have hx : cellA els j q = some x := by simpa using hx
            obtain ⟨u, k1, k2⟩ := f2'.at_ j q x hx
            have k1 : us[j * z + q]? = some u := by simpa using k1
          · rw [cel_new, Nat.zero_add, k1]; rfl
          · rw [k1]; exact k2
          · rw [k1]; exact f2.one u (by simpa using Array.mem_of_getElem? k1)
        · cases h
      · cases h
    · cases ho
  · cases ho

theorem mkfn_ok {f : FuncId} {first caps : List X} (ho : chkI P o.op (.mkfn f first caps) = true) (M : MR s cx w) (T : TR s cx w a) (h : step C ro d s (.mkfn f first caps) = some (v, s1)) : Post P o a s cx w v s1 Q := by
  simp only [chkI] at ho
  split at ho
  · rename_i g x y hop
    simp only [Bool.and_eq_true, decide_eq_true_eq] at ho
    obtain ⟨⟨rfl, ho2⟩, ho3⟩ := ho
    simp only [step] at h
    split at h
    · rename_i first' s2 h1
      split at h
      · rename_i caps' s3 h2
        simp only [Option.some.injEq, Prod.mk.injEq] at h
        obtain ⟨rfl, rfl⟩ := h
        obtain ⟨a1, a2⟩ := evL_ok T ho2
        obtain ⟨b1, b2⟩ := evL_ok T ho3
        obtain ⟨cx2, c1, c2, c3, c4, c5⟩ := mapS_ok capt_ok _ (x.toList.map a.eval) s cx w _ s2 M (by simpa using a1.symm) a2 h1
        obtain ⟨cx3, d1, d2, d3, d4, d5⟩ := mapS_ok capt_ok _ (y.toList.map a.eval) s2 cx2 w _ s3 c2 (by simpa using b1.symm) (fun i x v hx hv => (b2 i x v hx hv).ext c1.ext) h2
        refine post_value (v' := .func (.func f) (x.map a.eval) (y.map a.eval)) ?_ (c1.trans d1) d2 (.fn ?_ ?_ (fun i z v hz hv => ?_) (fun i z v hz hv => ?_))
        · simp [execOp, hop, Instr.makeFunc]
        · rw [c3, a1]; simp
        · rw [d3, b1]; simp
        · exact (c4 i z v hz (by simpa using hv)).ext d1.ext
        · exact d4 i z v hz (by simpa using hv)
      · cases h
    · cases h
  · cases ho

theorem slicearr_ok {z n : Nat} {x : X} {lo hi : Option X} (ho : chkI P o.op (.slicearr z n x lo hi) = true) (M : MR s cx w) (T : TR s cx w a) (h : step C ro d s (.slicearr z n x lo hi) = some (v, s1)) : Post P o a s cx w v s1 Q := by
  simp only [chkI] at ho
  split at ho
  · rename_i t y lo' hi' hop
    split at ho
    · rename_i m e he
      simp only [Bool.and_eq_true, decide_eq_true_eq] at ho
      obtain ⟨⟨⟨⟨h1, h2⟩, h3⟩, rfl⟩, h5⟩ := ho
      have hu := arrO_some he
      obtain ⟨inf, hi1, hsz, hrs⟩ := szO_run (P := P) (w := w) h5
      simp only [step] at h
      split at h
      · rename_i i g j o' hx
        split at h
        · rename_i b hb
          split at h
          · rename_i cs hcs
            split at h
            · rename_i hcond
              obtain ⟨rfl, hle, hcl⟩ := hcond
              split at h
              · rename_i l hh mm hcut
                simp only [Option.some.injEq, Prod.mk.injEq] at h
                obtain ⟨rfl, rfl⟩ := h
                obtain ⟨hbd, b1, b2, b3, b4⟩ := cutB_run (P := P) false hcut (Nat.le_refl _) (Nat.le_refl _) (evO_ok T h2) (evO_ok T h3) (show VRo s.sg cx w none none from trivial)
                have hm := b4 rfl
                subst hm
                simp only [Option.isSome_none, Bool.false_eq_true, if_false] at hbd
                obtain ⟨q1, q2⟩ := getB_some hb
                have hv := hx ▸ ev_ok T h1
                generalize hev : a.eval y = dv at hv
                cases hv with
                | @pt _ _ _ _ p hg hl hp =>
                  have hp' := pt_addr (w := w) (.pt hg hl hp) hb
                  subst hp'
                  obtain ⟨cx', e1, e2, e3, e4⟩ := (setB_turned (b' := { b with fz := true }) hb rfl).freeze M (fun h => by cases h)
                  obtain ⟨fc, hfc⟩ := live_fn M q1
                  have hcell : ∀ k q x, cellA ((((cs.drop o').take hh).drop l).map fun c => [c]) k q = some x → q = 0 ∧ k < hh - l ∧ cellA b.els j (o' + l + k) = some x := by
                    intro k q x hx
                    obtain ⟨c, k1, k2⟩ := cellA_of hx
                    rw [List.getElem?_map] at k1
                    obtain ⟨c', k3, rfl⟩ := Option.map_eq_some_iff.1 k1
                    have hlt := (List.getElem?_eq_some_iff.1 k3).1
                    rw [List.length_drop, List.length_take] at hlt
                    rw [List.getElem?_drop, List.getElem?_take_of_lt (by omega), List.getElem?_drop] at k3
                    cases q with
                    | zero =>
                      simp at k2; subst k2
                      exact ⟨rfl, by omega, cellA_mk hcs (by rw [← k3]; congr 1; omega)⟩
                    | succ q => simp at k2
                  have hne : b.els ≠ [] := fun e0 => by rw [e0] at hcs; simp at hcs
                  have hsz1 : inf.size = 1 := hsz
                  refine post_value (v' := .slice (some (if mm = l then ⟨cx.lm (.v i), j * b.z + o', none⟩ else (⟨cx.lm (.v i), j * b.z + o', none⟩ : Addr).add (l * 1))) (hh - l) (mm - l)) ?_ e3 e4
                    (.sl (cx.lm (.v i)) (if mm = l then j * b.z + o' else j * b.z + o' + l) (fun k _ => fc j (o' + l + k)) (by rw [List.length_map, List.length_drop, List.length_take, List.length_drop]; omega) (by omega) (fun t h => by cases h) (fun h0 => ⟨?_, e2 hne⟩) (fun c hc => ?_) (fun k q x hx => ?_) (fun k q x hx => ?_) (fun k q x hx => ?_))
                  · simp [execOp, hop, Instr.sliceAt, Instr.sureAddr, underlying, hu, hev, hbd, hrs]
                  · congr 1
                    split
                    · rfl
                    · rw [add_eq _ _ _ _ rfl, Nat.mul_one]
                  · simp only [Option.getD_none, List.append_nil, List.mem_map] at hc
                    obtain ⟨c', _, rfl⟩ := hc; rfl
                  · simp only [Option.getD_none, List.append_nil] at hx
                    obtain ⟨rfl, k1, k2⟩ := hcell k q x hx
                    rw [if_neg (by omega)]
                    rw [← (hfc _ _ _ k2).1]; congr 1; omega
                  · simp only [Option.getD_none, List.append_nil] at hx
                    obtain ⟨rfl, k1, k2⟩ := hcell k q x hx
                    exact (hfc _ _ _ k2).2.1.ext e3.ext
                  · simp only [Option.getD_none, List.append_nil] at hx
                    obtain ⟨rfl, k1, k2⟩ := hcell k q x hx
                    exact (hfc _ _ _ k2).2.2
              · cases h
            · cases h
          · cases h
        · cases h
      · cases h
    · cases ho
  · cases ho

end
end Go.Proofs.Bb
