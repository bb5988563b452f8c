/- Cuts, addresses of elements, parts laid together, loads. -/
import Derived.Test.YtimlkngjkiknfaaGreatBbOpsA
set_option linter.unusedSimpArgs false
set_option linter.unusedVariables false
namespace Go.Proofs.Bb
open Go
section
variable {P : Program} {s : St} {cx : Cx} {w : World} {a : Act} {o : Oper} {Q : Exit → Act → World → Prop} {C : Orc} {ro : Bool} {d : Nat} {v : AV} {s1 : St}

def VRo (σ : Sg) (cx : Cx) (w : World) : Option AV → Option Value → Prop
  | none, none => True
  | some x, some v => VR σ cx w x v
  | _, _ => False

theorem evO_ok (T : TR s cx w a) {y : Option Operand} {x : Option X} (h : chkXo y x = true) : VRo s.sg cx w (evO s.t x) (y.map a.eval) := by
  cases y <;> cases x <;> simp_all [chkXo, evO, VRo]
  exact ev_ok T h

theorem asI_inv {σ : Sg} {x : AV} {u : Value} {n : Int} (h : asI x = some n) (hv : VR σ cx w x u) : ∃ k, u = .int k n := by
  unfold asI at h
  split at h
  · cases h; exact ⟨_, int_inv hv⟩
  · cases h

theorem bound_run {σ : Sg} {x : AV} {u : Value} {n : Int} {y : Nat} {code : BoundsCode} (h : asI x = some n) (hv : VR σ cx w x u) (h0 : 0 ≤ n) (h1 : n ≤ y) :
    (Instr.sliceBound u y code).run P w = .ok n.toNat w := by
  obtain ⟨k, rfl⟩ := asI_inv h hv
  simp [Instr.sliceBound, asIntOf, h0, h1]

theorem cutB_run {σ : Sg} {len cap cap' l hh m : Nat} {lo hi mx : Option AV} {lo' hi' mx' : Option Value} (isS : Bool) (hcut : cutB len cap lo hi mx = some (l, hh, m)) (hc : cap ≤ cap') (hlc : len ≤ cap)
    (h1 : VRo σ cx w lo lo') (h2 : VRo σ cx w hi hi') (h3 : VRo σ cx w mx mx') :
    (Instr.sliceBounds isS len cap' lo' hi' mx').run P w = .ok (l, hh, if mx.isSome then m else cap') w ∧ l ≤ hh ∧ hh ≤ m ∧ m ≤ cap ∧ (mx = none → m = cap) := by
  unfold cutB at hcut
  cases mx with
  | none =>
    cases mx' with
    | some _ => exact h3.elim
    | none =>
      simp only at hcut
      rw [if_pos ⟨by omega, Int.le_refl _⟩] at hcut
      cases hi with
      | none =>
        cases hi' with
        | some _ => exact h2.elim
        | none =>
          simp only [Option.isSome_none, Bool.false_eq_true, if_false] at hcut
          rw [if_pos ⟨by omega, by omega⟩] at hcut
          cases lo with
          | none =>
            cases lo' with
            | some _ => exact h1.elim
            | none =>
              simp only at hcut
              rw [if_pos ⟨by omega, by omega⟩] at hcut
              simp only [Option.some.injEq, Prod.mk.injEq] at hcut
              obtain ⟨rfl, rfl, rfl⟩ := hcut
              exact ⟨by simp [Instr.sliceBounds], by omega, by omega, by omega, fun _ => by omega⟩
          | some lo =>
            cases lo' with
            | none => exact h1.elim
            | some lo' =>
              simp only at hcut
              cases ha : asI lo with
              | none => simp [ha] at hcut
              | some n =>
                simp only [ha] at hcut
                split at hcut
                · rename_i hn
                  simp only [Option.some.injEq, Prod.mk.injEq] at hcut
                  obtain ⟨rfl, rfl, rfl⟩ := hcut
                  have hb := bound_run (P := P) (y := len) (code := .sliceB) ha h1 hn.1 (by omega)
                  exact ⟨by simp [Instr.sliceBounds, hb], by omega, by omega, by omega, fun _ => by omega⟩
                · cases hcut
      | some hi =>
        cases hi' with
        | none => exact h2.elim
        | some hi' =>
          simp only at hcut
          cases hah : asI hi with
          | none => simp [hah] at hcut
          | some nh =>
            simp only [hah] at hcut
            split at hcut
            · rename_i hnh
              have hbh : ∀ code, (Instr.sliceBound hi' cap' code).run P w = .ok nh.toNat w := fun code => bound_run hah h2 hnh.1 (by omega)
              cases lo with
              | none =>
                cases lo' with
                | some _ => exact h1.elim
                | none =>
                  simp only at hcut
                  rw [if_pos ⟨by omega, by omega⟩] at hcut
                  simp only [Option.some.injEq, Prod.mk.injEq] at hcut
                  obtain ⟨rfl, rfl, rfl⟩ := hcut
                  exact ⟨by simp [Instr.sliceBounds, hbh], by omega, by omega, by omega, fun _ => by omega⟩
              | some lo =>
                cases lo' with
                | none => exact h1.elim
                | some lo' =>
                  simp only at hcut
                  cases ha : asI lo with
                  | none => simp [ha] at hcut
                  | some n =>
                    simp only [ha] at hcut
                    split at hcut
                    · rename_i hn
                      simp only [Option.some.injEq, Prod.mk.injEq] at hcut
                      obtain ⟨rfl, rfl, rfl⟩ := hcut
                      have hb := bound_run (P := P) (y := nh.toNat) (code := .sliceB) ha h1 hn.1 (by omega)
                      exact ⟨by simp [Instr.sliceBounds, hbh, hb], by omega, by omega, by omega, fun _ => by omega⟩
                    · cases hcut
            · cases hcut
  | some mx =>
    cases mx' with
    | none => exact h3.elim
    | some mx' =>
      simp only at hcut
      cases ham : asI mx with
      | none => simp [ham] at hcut
      | some nm =>
        simp only [ham] at hcut
        split at hcut
        · rename_i hnm
          have hbm : ∀ code, (Instr.sliceBound mx' cap' code).run P w = .ok nm.toNat w := fun code => bound_run ham h3 hnm.1 (by omega)
          cases hi with
          | none => simp at hcut
          | some hi =>
            cases hi' with
            | none => exact h2.elim
            | some hi' =>
              simp only at hcut
              cases hah : asI hi with
              | none => simp [hah] at hcut
              | some nh =>
                simp only [hah] at hcut
                split at hcut
                · rename_i hnh
                  have hbh : ∀ code, (Instr.sliceBound hi' nm.toNat code).run P w = .ok nh.toNat w := fun code => bound_run hah h2 hnh.1 (by omega)
                  cases lo with
                  | none =>
                    cases lo' with
                    | some _ => exact h1.elim
                    | none =>
                      simp only at hcut
                      rw [if_pos ⟨by omega, by omega⟩] at hcut
                      simp only [Option.some.injEq, Prod.mk.injEq] at hcut
                      obtain ⟨rfl, rfl, rfl⟩ := hcut
                      exact ⟨by simp [Instr.sliceBounds, hbm, hbh], by omega, by omega, by omega, fun h => by cases h⟩
                  | some lo =>
                    cases lo' with
                    | none => exact h1.elim
                    | some lo' =>
                      simp only at hcut
                      cases ha : asI lo with
                      | none => simp [ha] at hcut
                      | some n =>
                        simp only [ha] at hcut
                        split at hcut
                        · rename_i hn
                          simp only [Option.some.injEq, Prod.mk.injEq] at hcut
                          obtain ⟨rfl, rfl, rfl⟩ := hcut
                          have hb := bound_run (P := P) (y := nh.toNat) (code := .slice3C) ha h1 hn.1 (by omega)
                          exact ⟨by simp [Instr.sliceBounds, hbm, hbh, hb], by omega, by omega, by omega, fun h => by cases h⟩
                        · cases hcut
                · cases hcut
        · cases hcut

theorem slicestr_ok {x : X} {lo hi : Option X} (ho : chkI P o.op (.slicestr x lo hi) = true) (M : MR s cx w) (T : TR s cx w a) (h : step C ro d s (.slicestr x lo hi) = some (v, s1)) : Post P o a s cx w v s1 Q := by
  simp only [chkI] at ho
  split at ho
  · rename_i t y lo' hi' hop
    simp only [Bool.and_eq_true] at ho
    obtain ⟨⟨⟨h1, h2⟩, h3⟩, h4⟩ := ho
    split at h4
    · rename_i hu
      simp only [step] at h
      split at h
      · rename_i b hx
        split at h
        · rename_i l hh m hcut
          simp only [Option.some.injEq, Prod.mk.injEq] at h
          obtain ⟨rfl, rfl⟩ := h
          have e1 := str_inv (hx ▸ ev_ok T h1)
          obtain ⟨hb, _⟩ := cutB_run (P := P) false hcut (Nat.le_refl _) (Nat.le_refl _) (evO_ok T h2) (evO_ok T h3) (mx' := none) trivial
          refine post_pure M ?_ (.str _)
          simp [execOp, hop, Instr.sliceAt, Instr.slice, underlying, hu, e1, hb]
        · cases h
      · cases h
    · cases h4
  · cases ho

theorem cellA_of {els : List (List AV)} {j q : Nat} {x : AV} (h : cellA els j q = some x) : ∃ cs, els[j]? = some cs ∧ cs[q]? = some x := by
  unfold cellA at h
  cases hj : els[j]? with
  | none => simp [hj] at h
  | some cs => exact ⟨cs, rfl, by simpa [hj] using h⟩
theorem cellA_mk {els : List (List AV)} {j q : Nat} {x : AV} {cs : List AV} (h : els[j]? = some cs) (hq : cs[q]? = some x) : cellA els j q = some x := by simp [cellA, h, hq]

/-- A cut of a list: cells. -/
theorem cellA_cut {els : List (List AV)} {l h j q : Nat} {x : AV} (hx : cellA ((els.take h).drop l) j q = some x) : cellA els (l + j) q = some x := by
  obtain ⟨cs, h1, h2⟩ := cellA_of hx
  rw [List.getElem?_drop] at h1
  have hlt : l + j < h := by
    have := (List.getElem?_eq_some_iff.1 h1).1
    simp at this; omega
  rw [List.getElem?_take_of_lt hlt] at h1
  exact cellA_mk h1 h2

theorem addr_le (p : Addr) (n r off : Nat) (h : p = ⟨r, off, none⟩) : p.add n = ⟨r, off + n, none⟩ := add_eq p n r off h

theorem slice_ok {z : Nat} {x : X} {lo hi mx : Option X} (ho : chkI P o.op (.slice z x lo hi mx) = true) (M : MR s cx w) (T : TR s cx w a) (h : step C ro d s (.slice z x lo hi mx) = some (v, s1)) : Post P o a s cx w v s1 Q := by
  simp only [chkI] at ho
  split at ho
  · rename_i t y lo' hi' mx' hop
    split at ho
    · rename_i e he
      simp only [Bool.and_eq_true, decide_eq_true_eq] at ho
      obtain ⟨⟨⟨⟨h1, h2⟩, h3⟩, h4⟩, h5⟩ := ho
      have hu := elemO_some he
      obtain ⟨inf, hi1, hsz, hrs⟩ := szO_run (P := P) (w := w) h5
      have hr : ∀ A n c l hh m, a.eval y = .slice A n c → (Instr.sliceBounds true n c (lo'.map a.eval) (hi'.map a.eval) (mx'.map a.eval)).run P w = .ok (l, hh, m) w →
          (execOp a.eval o).run P w = .ok (.value (.slice (if m = l then A else A.map (·.add (l * z))) (hh - l) (m - l))) w := by
        intro A n c l hh m e1 hb
        simp [execOp, hop, Instr.sliceAt, Instr.slice, underlying, hu, e1, hb, hrs]
      have hv := ev_ok T h1
      generalize hy : a.eval y = u at hv hr
      simp only [step] at h
      split at h
      · rename_i z' els tl hx
        rw [hx] at hv
        cases hv with
        | @sl _ _ _ A len cap r off fc k1 k2 k3 k4 k5 k6 k7 k8 =>
          subst k1
          split at h
          · rename_i hz
            split at h
            · rename_i tt
              have hcap := k3 tt rfl
              subst hcap
              split at h
              · rename_i l hh m hcut
                simp only [Option.some.injEq, Prod.mk.injEq] at h
                obtain ⟨rfl, rfl⟩ := h
                obtain ⟨hb, b1, b2, b3, b4⟩ := cutB_run (P := P) true hcut (Nat.le_refl _) (by omega) (evO_ok T h2) (evO_ok T h3) (evO_ok T h4)
                have hm : (if (evO s.t mx).isSome = true then m else els.length + tt.length) = m := by
                  split
                  · rfl
                  · rename_i hn
                    cases hmx : evO s.t mx with
                    | none => exact (b4 hmx).symm
                    | some _ => simp [hmx] at hn
                rw [hm] at hb
                have hlen : (els ++ tt).length = els.length + tt.length := by simp
                refine post_pure M (hr _ _ _ l hh m rfl hb) ?_
                simp only [Option.getD_some] at k4 k5 k6 k7 k8
                have hcat : List.drop l (List.take hh (els ++ tt)) ++ List.drop hh (List.take m (els ++ tt)) = List.drop l (List.take m (els ++ tt)) := by
                  have e1 : List.take hh (List.take m (els ++ tt)) = List.take hh (els ++ tt) := by rw [List.take_take, Nat.min_eq_left b2]
                  conv => rhs; rw [← List.take_append_drop hh (List.take m (els ++ tt)), e1]
                  rw [List.drop_append_of_le_length (by rw [List.length_take]; omega)]
                refine .sl r (if m = l then off else off + l * z) (fun j q => fc (l + j) q) (by rw [List.length_drop, List.length_take]; omega) (by omega) (fun t' ht => ?_) (fun h0 => ?_) (fun cs hcs => ?_) (fun j q x hx' => ?_) (fun j q x hx' => ?_) (fun j q x hx' => ?_)
                · cases ht; rw [List.length_drop, List.length_take]; omega
                · simp only [Option.getD_some, hcat] at h0
                  rw [List.length_drop, List.length_take] at h0
                  obtain ⟨g1, g2⟩ := k4 (by omega)
                  rw [if_neg (by omega), if_neg (by omega), g1]
                  exact ⟨by simp only [Option.map_some]; rw [add_eq _ _ _ _ rfl], g2⟩
                · simp only [Option.getD_some, hcat] at hcs
                  exact k5 cs (List.mem_of_mem_take (List.mem_of_mem_drop hcs))
                · simp only [Option.getD_some, hcat] at hx'
                  have hc' := cellA_cut hx'
                  have := k6 _ _ _ hc'
                  obtain ⟨cs, hcs, hq⟩ := cellA_of hx'
                  have hlt := (List.getElem?_eq_some_iff.1 hcs).1
                  rw [List.length_drop, List.length_take] at hlt
                  rw [if_neg (by omega)]
                  have hz2 : z' = z := by
                    rcases hz with hz | ⟨hz, hz2⟩
                    · exact hz
                    · subst hz
                      have : tt = [] := by simpa using hz2
                      subst this
                      simp at hlt
                  subst hz2
                  rw [← this]; congr 1; rw [Nat.add_mul]; omega
                · simp only [Option.getD_some, hcat] at hx'
                  exact k7 _ _ _ (cellA_cut hx')
                · simp only [Option.getD_some, hcat] at hx'
                  exact k8 _ _ _ (cellA_cut hx')
              · cases h
            · split at h
              · rename_i l hh m hcut
                simp only [Option.some.injEq, Prod.mk.injEq] at h
                obtain ⟨rfl, rfl⟩ := h
                obtain ⟨hb, b1, b2, b3, b4⟩ := cutB_run (P := P) true hcut k2 (Nat.le_refl _) (evO_ok T h2) (evO_ok T h3) (evO_ok T h4)
                refine post_pure M (hr _ _ _ l hh _ rfl hb) ?_
                simp only [Option.getD_none, List.append_nil] at k4 k5 k6 k7 k8
                have hz2 : els ≠ [] → z' = z := by
                  intro hne
                  rcases hz with hz | ⟨hz, hz2⟩
                  · exact hz
                  · exact absurd hz hne
                cases mx with
                | none =>
                  simp only [Option.isSome_none, Bool.false_eq_true, if_false]
                  have hmx : evO s.t none = none := rfl
                  rw [hmx] at b4
                  have b5 := b4 rfl
                  simp only [hmx, Option.isSome_none, Bool.false_eq_true, if_false]
                  refine .sl r (if cap = l then off else off + l * z) (fun j q => fc (l + j) q) (by rw [List.length_drop, List.length_take]; omega) (by omega) (fun t' ht => by cases ht) (fun h0 => ?_) (fun cs hcs => ?_) (fun j q x hx' => ?_) (fun j q x hx' => ?_) (fun j q x hx' => ?_)
                  · simp only [Option.getD_none, List.append_nil] at h0
                    rw [List.length_drop, List.length_take] at h0
                    obtain ⟨g1, g2⟩ := k4 (by omega)
                    rw [if_neg (by omega), if_neg (by omega), g1]
                    exact ⟨by simp only [Option.map_some]; rw [add_eq _ _ _ _ rfl], g2⟩
                  · simp only [Option.getD_none, List.append_nil] at hcs
                    exact k5 cs (List.mem_of_mem_take (List.mem_of_mem_drop hcs))
                  · simp only [Option.getD_none, List.append_nil] at hx'
                    have hc' := cellA_cut hx'
                    have := k6 _ _ _ hc'
                    have hne : els ≠ [] := fun e0 => by simp [cellA, e0] at hc'
                    have hzz := hz2 hne
                    subst hzz
                    obtain ⟨cs, hcs, hq⟩ := cellA_of hx'
                    have hlt := (List.getElem?_eq_some_iff.1 hcs).1
                    rw [List.length_drop, List.length_take] at hlt
                    rw [if_neg (by omega)]
                    rw [← this]; congr 1; rw [Nat.add_mul]; omega
                  · simp only [Option.getD_none, List.append_nil] at hx'
                    exact k7 _ _ _ (cellA_cut hx')
                  · simp only [Option.getD_none, List.append_nil] at hx'
                    exact k8 _ _ _ (cellA_cut hx')
                | some mv =>
                  have hmx : (evO s.t (some mv)).isSome = true := rfl
                  simp only [Option.isSome_some, hmx, if_true]
                  have hcat : List.drop l (List.take hh els) ++ List.drop hh (List.take m els) = List.drop l (List.take m els) := by
                    have e1 : List.take hh (List.take m els) = List.take hh els := by rw [List.take_take, Nat.min_eq_left b2]
                    conv => rhs; rw [← List.take_append_drop hh (List.take m els), e1]
                    rw [List.drop_append_of_le_length (by rw [List.length_take]; omega)]
                  refine .sl r (off + l * z) (fun j q => fc (l + j) q) (by rw [List.length_drop, List.length_take]; omega) (by omega) (fun t' ht => ?_) (fun h0 => ?_) (fun cs hcs => ?_) (fun j q x hx' => ?_) (fun j q x hx' => ?_) (fun j q x hx' => ?_)
                  · cases ht; rw [List.length_drop, List.length_take]; omega
                  · simp only [Option.getD_some, hcat] at h0
                    rw [List.length_drop, List.length_take] at h0
                    obtain ⟨g1, g2⟩ := k4 (by omega)
                    rw [if_neg (by omega), g1]
                    exact ⟨by simp only [Option.map_some]; rw [add_eq _ _ _ _ rfl], g2⟩
                  · simp only [Option.getD_some, hcat] at hcs
                    exact k5 cs (List.mem_of_mem_take (List.mem_of_mem_drop hcs))
                  · simp only [Option.getD_some, hcat] at hx'
                    have hc' := cellA_cut hx'
                    have := k6 _ _ _ hc'
                    have hne : els ≠ [] := fun e0 => by simp [cellA, e0] at hc'
                    have hzz := hz2 hne
                    subst hzz
                    rw [← this]; congr 1; rw [Nat.add_mul]; omega
                  · simp only [Option.getD_some, hcat] at hx'
                    exact k7 _ _ _ (cellA_cut hx')
                  · simp only [Option.getD_some, hcat] at hx'
                    exact k8 _ _ _ (cellA_cut hx')
              · cases h
          · cases h
      · rename_i l0 g z' off len cap hx
        rw [hx] at hv
        split at h
        · rename_i hz
          obtain ⟨rfl, hmx⟩ := hz
          have hmx' : mx' = none := by
            cases mx' with
            | none => rfl
            | some _ => cases mx <;> simp [chkXo] at h4 hmx
          subst hmx'
          split at h
          · rename_i l hh m hcut
            simp only [Option.some.injEq, Prod.mk.injEq] at h
            obtain ⟨rfl, rfl⟩ := h
            cases hv with
            | @rs _ _ _ _ _ _ c A k1 k2 k3 k4 k5 k6 =>
              obtain ⟨hb, b1, b2, b3, b4⟩ := cutB_run (P := P) true hcut k2 k1 (evO_ok T h2) (evO_ok T h3) (mx' := none) trivial
              have b5 := b4 rfl
              subst b5
              simp only [Option.isSome_none, Bool.false_eq_true, if_false] at hb
              refine post_pure M (hr _ _ _ l hh c rfl hb) (.rs (by omega) (by omega) (fun h0 => ?_) k4 k5 (fun eg b hbb => ?_))
              · obtain ⟨p, rfl⟩ := k3 (by omega)
                split
                · exact ⟨p, rfl⟩
                · exact ⟨_, rfl⟩
              · obtain ⟨j1, j2, j3, j4⟩ := k6 eg b hbb
                refine ⟨j1, by omega, fun hx2 => by have := j3 hx2; omega, fun h0 => ?_⟩
                obtain ⟨q1, q2⟩ := j4 (by omega)
                rw [if_neg (by omega), q1]
                refine ⟨by simp only [Option.map_some]; rw [add_eq _ _ _ _ rfl, Nat.add_mul], ?_⟩
                have : off + l + (c - l) = off + c := by omega
                rw [this]; exact q2
          · cases h
        · cases h
      · cases h
    · cases ho
  · cases ho

end
end Go.Proofs.Bb
