/- ExecOrders: whatever the input, the call returns true and each argument reads behind it as it read before. No condition. -/
import Derived.Test.YtimlkngjkiknfaaGreatRows
import Derived.Test.YtimlkngjkiknfaaGreatOoE
import Derived.Test.YtimlkngjkiknfaaGreatOoJ
import Derived.ProofKit
namespace Go.Proofs.YtimlkngjkiknfaaGreat
open Go.ChangeShapes Go.WideShapes Go.ChangeAt Go.RowKit Go.Proofs.Bb

theorem Tryz.cells3 : Tryz.prog.cellsOf 3 = 1 := by kernel_rfl

/-- The machine's calls are the program's. -/
theorem orc : OrcOK Tryz.prog (callF Oo.F Oo.S0) :=
  (callF_ok Oo.mixed Oo.chkF_all (fun _ _ _ _ _ _ h => by cases h) (fun _ _ _ _ _ _ h => by cases h)).2

set_option maxRecDepth 100000 in
theorem f_lifted (os : Os) (started : os.Started) (H : Type) (enc : TypeId × Value → H) :
    ReturnsInHanded {} Tryz.checked os 3 .any (Rows.execOrdersSpec.pre6 enc Tryz.prog Tryz.f3 Rows.execOrdersRow.domain false) (Rows.execOrdersSpec.post enc Tryz.prog Tryz.f3 false true false false) := by
  refine returnsInHanded_of_change (C := Tryz.checked) Tryz.own started (by kernel_rfl) Tryz.func3
    (ChangeSpec.witness6 (enc := enc) (C := Tryz.checked) false ⟨#[], #[.slice none 0 0], []⟩ 8 (by kernel_rfl) (by kernel_rfl) (by kernel_rfl) (by kernel_rfl)) ?_
  intro W base args ds gs before hval0 hW hcnd _
  have hval : ∀ (j : Nat) t v, Tryz.f3.params[j]? = some t → args[j]? = some v → Value.okWide Tryz.prog W .any base t v := hval0
  have hW' := hW
  obtain ⟨p, q, hA0, hV, rfl, hfz, hnd⟩ := hW
  have hA : DataW.TrodAll enc Tryz.prog W 0 (fun _ => true) true Tryz.f3.params.toList args.toList ds p := hA0
  rw [Tryz.params3] at hA hval
  obtain ⟨v0, d0, rfl, rfl, h0⟩ := trodAll_one hA
  obtain ⟨rfl, rfl⟩ := trodVars_none hV
  obtain ⟨l, hwf, hv⟩ := arg_ints Tryz.underlying22 Tryz.underlying3 Tryz.cells3 (hval 0 22 v0 rfl rfl) h0
  obtain ⟨h', hr⟩ := Oo.law l (fun k hk => by have := hwf k hk; simp [Lit.wf, IntKind.min, IntKind.max, IntKind.signed, IntKind.bits] at this; omega)
  refine (law_calls orc hr (fun x hx => by simp at hx; subst hx; exact aInts_d0) (us := #[v0]) (by simp) (fun i x u hx hu => by
    cases i with
    | zero => simp at hx hu; subst hx; subst hu; exact hv
    | succ i => simp at hx)).mono fun e W' ⟨he, hold⟩ => ?_
  subst he
  exact ⟨_, rfl, law_post Tryz.laidOut rfl ⟨4, by kernel_rfl, Tryz.underlying4⟩ (fun t ht => by rw [Tryz.params3] at ht; simp at ht; subst ht; exact ⟨by kernel_rfl, by decide +kernel⟩) hW' rfl rfl rfl hold⟩

theorem inPlace_ : (Rows.execOrdersRow.inPlace == Tryz.prog.inPlace 3) = true := by kernel_rfl
theorem unfollowed_ : (Rows.execOrdersRow.unfollowed == Tryz.prog.unfollowed 3) = true := by kernel_rfl
theorem recurses_ : (Rows.execOrdersRow.recurses == Tryz.prog.recurses 3) = true := by kernel_rfl
theorem named_ : (Rows.execOrdersRow.named == Tryz.prog.varsNamed 3) = true := by kernel_rfl
theorem funcNamed_ : Tryz.prog.funcNamed Rows.execOrdersRow.func = some 3 := by kernel_rfl

/-- The row's closed facts. -/
theorem joined_ : joinedFacts Tryz.prog 3 Tryz.f3 Rows.execOrdersSpec Rows.execOrdersRow = true :=
  joined_of (by kernel_rfl) Tryz.laidOut Tryz.rowed (by kernel_rfl) (by kernel_rfl) (by kernel_rfl) Tryz.stopsNone (by kernel_rfl) Tryz.stopKnobsNone
    inPlace_ unfollowed_ recurses_ named_ (by kernel_rfl) (by kernel_rfl) (by kernel_rfl) (by kernel_rfl) (by kernel_rfl) (by kernel_rfl) (by kernel_rfl)
    (by kernel_rfl) (by kernel_rfl) Tryz.plainK (by kernel_rfl) Tryz.heard Tryz.enter Tryz.lifts Tryz.makes (by kernel_rfl) (by kernel_rfl) (by kernel_rfl) (by kernel_rfl)

theorem holds : Rows.ExecOrdersSaid :=
  OpenClaim.holds_of_wide 3 Tryz.f3 rfl rfl rfl rfl rfl rfl rfl ⟨rfl, rfl, rfl, rfl, rfl⟩ rfl rfl rfl rfl rfl funcNamed_ Tryz.func3 joined_
    (of_decide_eq_true (by kernel_rfl)) (by unfold Func.isWrapper; first | (rw [if_pos (by decide +kernel)]; kernel_rfl) | (rw [if_neg (by decide +kernel)]; exact ⟨rfl, rfl⟩))
    (fun os started H enc _ => f_lifted os started H enc)

#print axioms holds
end Go.Proofs.YtimlkngjkiknfaaGreat
