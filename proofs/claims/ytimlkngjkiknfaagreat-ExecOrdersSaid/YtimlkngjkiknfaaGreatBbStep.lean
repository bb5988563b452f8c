/- Every instruction is what its operation does. -/
import Derived.Test.YtimlkngjkiknfaaGreatBbCallB
set_option linter.unusedSimpArgs false
set_option linter.unusedVariables false
namespace Go.Proofs.Bb
open Go

section
variable {P : Program} {s : St} {cx : Cx} {w : World} {a : Act} {o : Oper} {Q : Exit → Act → World → Prop} {C : Orc} {d : Nat} {v : AV} {s1 : St}

theorem callFunc_run {f : FuncId} {us : Array Value} (h : Callable P f) : (callFunc f us).run P w = .ok (.enter f us) w := by
  obtain ⟨fn, h1, h2, h3⟩ := h
  simp only [callFunc, program, Sem.run_bind, Sem.run, Result.andThen_ok, h1, h2, h3, Bool.false_eq_true, if_false, Sem.run_pure]

theorem call_post {f : FuncId} {us : Array Value} (hr : (execOp a.eval o).run P w = .ok (.enter f us) w) (h : Calls P f us w (RetPost s cx w v s1)) : Post P o a s cx w v s1 Q := by
  intro K hK
  unfold Oper.wp
  rw [hr, Oper.upon_enter]
  refine h.mono (fun e w' he => ?_)
  cases e with
  | returned rv =>
    obtain ⟨cx', h1, h2, h3⟩ := he
    exact hK rv w' cx' h1 h2 h3
  | panicked c => exact he.elim
  | outgrown => exact he.elim

theorem call_ok (hW : OrcW C) (hC : OrcOK P C) {md : Mode} {aa : Bool} {f : FuncId} {args : List X} (ho : chkI P o.op (.call md aa f args) = true) (hok : okI (.call md aa f args) = true) (M : MR s cx w) (F : WF s) (T : TR s cx w a) (h : step C s.ro d s (.call md aa f args) = some (v, s1)) : Post P o a s cx w v s1 Q := by
  simp only [chkI] at ho
  split at ho
  · rename_i c hop
    split at ho
    · rename_i g hcal
      simp only [Bool.and_eq_true, decide_eq_true_eq] at ho
      obtain ⟨rfl, ho⟩ := ho
      simp only [step] at h
      obtain ⟨us, h1, h2, h3⟩ := map_args T ho
      have hus : (c.args.map a.eval) = us.toArray := by rw [← h1]
      have hW' : ∀ x, x ∈ evL s.t args → WV x := by
        intro y hy
        obtain ⟨x, hx, rfl⟩ := List.mem_map.1 hy
        exact ev_wf F (okI_x hok hx)
      obtain ⟨k1, k2⟩ := callA_ok (us := us.toArray) hW hC M F hW' (by simpa using h2) (fun i x u hx hu => h3 i x u hx (by simpa using hu)) h
      refine call_post ?_ k2
      simp [execOp, hop, resolve, hcal, Sem.run_bind, Act.eval, Deferred.ofValue, invoke, hus, callFunc_run k1]
    · cases ho
  · cases ho

theorem callv_ok (hW : OrcW C) (hC : OrcOK P C) {md : Mode} {aa : Bool} {f : X} {args : List X} (ho : chkI P o.op (.callv md aa f args) = true) (hok : okI (.callv md aa f args) = true) (M : MR s cx w) (F : WF s) (T : TR s cx w a) (h : step C s.ro d s (.callv md aa f args) = some (v, s1)) : Post P o a s cx w v s1 Q := by
  simp only [chkI] at ho
  split at ho
  · rename_i c hop
    split at ho
    · rename_i g hcal
      simp only [Bool.and_eq_true] at ho
      obtain ⟨hof, ho⟩ := ho
      simp only [step] at h
      split at h
      · rename_i f' first caps hE
        have hv := ev_ok T hof
        rw [hE] at hv
        obtain ⟨us, h1, h2, h3⟩ := map_args T ho
        have hus : (c.args.map a.eval) = us.toArray := by rw [← h1]
        have hW' : ∀ x, x ∈ evL s.t args → WV x := by
          intro y hy
          obtain ⟨x, hx, rfl⟩ := List.mem_map.1 hy
          exact ev_wf F (okI_x hok (by simp [I.xs, hx]))
        have hwf := ev_wf F (okI_x hok (x := f) (by simp [I.xs]))
        rw [hE] at hwf
        have hdc := hwf.dc rfl
        generalize hef : a.eval g = fv at hv
        cases hv with
        | @fn _ _ _ va vc ha hc hva hvc =>
        cases hdc with
        | fn da dc =>
        obtain ⟨k1, k2⟩ := callA_ok (us := va ++ us.toArray ++ vc) hW hC M F (fun x hx => by
            rcases List.mem_append.1 hx with hx | hx
            · rcases List.mem_append.1 hx with hx | hx
              · exact wv_dc (da x hx)
              · exact hW' x hx
            · exact wv_dc (dc x hx)) (by simp [ha, hc, h2]) (fun i x u hx hu => by
            have e1 : (first ++ evL s.t args ++ caps) = (first ++ evL s.t args) ++ caps := rfl
            rcases Nat.lt_or_ge i (first ++ evL s.t args).length with hi | hi
            · rw [List.getElem?_append_left hi] at hx
              have hi' : i < (va ++ us.toArray).size := by simp [ha, h2]; simpa using hi
              rw [Array.getElem?_append_left hi'] at hu
              rcases Nat.lt_or_ge i first.length with hj | hj
              · rw [List.getElem?_append_left hj] at hx
                rw [Array.getElem?_append_left (by rw [ha]; exact hj)] at hu
                exact hva i x u hx hu
              · rw [List.getElem?_append_right hj] at hx
                rw [Array.getElem?_append_right (by rw [ha]; exact hj), ha] at hu
                exact h3 _ x u hx (by simpa using hu)
            · rw [List.getElem?_append_right hi] at hx
              have hi' : (va ++ us.toArray).size ≤ i := by simp [ha, h2]; simpa using hi
              rw [Array.getElem?_append_right hi'] at hu
              have e2 : (va ++ us.toArray).size = (first ++ evL s.t args).length := by simp [ha, h2]
              rw [e2] at hu
              exact hvc _ x u hx hu) h
        refine call_post ?_ k2
        simp [execOp, hop, resolve, hcal, Sem.run_bind, hef, Deferred.ofValue, invoke, hus, callFunc_run k1]
      · cases h
    · cases ho
  · cases ho

theorem step_ok (hW : OrcW C) (hC : OrcOK P C) {i : I} (ho : chkI P o.op i = true) (hok : okI i = true) (M : MR s cx w) (F : WF s) (T : TR s cx w a) (h : step C s.ro d s i = some (v, s1)) : Post P o a s cx w v s1 Q := by
  cases i with
  | mv x => exact mv_ok ho M T h
  | pick c x y => exact pick_ok ho M T h
  | allocv zero => exact allocv_ok ho M T h
  | alloch zero => exact alloch_ok ho M T h
  | boxv n x => exact boxv_ok ho M T h
  | boxh n keep x => exact boxh_ok ho M T h
  | build zero parts => exact build_ok ho M T h
  | bsl z zero n parts => exact bsl_ok ho M T h
  | load wd n x => exact load_ok ho M T h
  | store wd n md x y => exact store_ok rfl ho M T h
  | nilc x => exact nilc_ok ho M T h
  | bin op x y => exact bin_ok ho M T h
  | eqv neg ag ks x y => exact eqv_ok ho M T h
  | eqn neg fn x y => exact eqn_ok ho M T h
  | not x => exact not_ok ho M T h
  | convi k x => exact convi_ok ho M T h
  | s2b x => simp [chkI] at ho
  | b2s wd x => exact b2s_ok ho M T h
  | mkfn f first caps => exact mkfn_ok ho M T h
  | mkmap r => exact mkmap_ok ho M T h
  | mksl z zero l c => exact mksl_ok ho M T h
  | slice z x lo hi mx => exact slice_ok ho M T h
  | slicestr x lo hi => exact slicestr_ok ho M T h
  | slicearr z n x lo hi => exact slicearr_ok ho M T h
  | faddr x off => exact faddr_ok ho M T h
  | fld x off n => exact fld_ok ho M T h
  | iaddr z x i => exact iaddr_ok ho M T h
  | iaddra z n x i => exact iaddra_ok ho M T h
  | idx z n m x i => exact idx_ok ho M T h
  | idxs x i => exact idxs_ok ho M T h
  | lookup ag ks zero m k ok => exact lookup_ok ho M T h
  | mupd ag ks keep m k x => exact mupd_ok rfl ho M T h
  | ment ag ks zero m k => exact ment_ok rfl ho M T h
  | est keep m b x => exact est_ok rfl ho M T h
  | ext x i => exact ext_ok ho M T h
  | call md aa f args => exact call_ok hW hC ho hok M F T h
  | callv md aa f args => exact callv_ok hW hC ho hok M F T h
  | len x => exact len_ok ho M T h
  | lens x => exact lens_ok ho M T h
  | lenm x => exact lenm_ok ho M T h
  | lena n => exact lena_ok ho M h
  | cap x => exact cap_ok ho M T h
  | app hh z x y => exact app_ok rfl ho M T h
  | apps x y => exact apps_ok rfl ho M T h
  | appz z zero x y => exact appz_ok rfl ho M T h
  | cpy hh z x y => exact cpy_ok rfl ho M T h
  | clr z zero x => exact clr_ok ho M T h
  | del ag ks m k => exact del_ok rfl ho M T h
  | max xs => exact max_ok ho M T h
  | min xs => exact min_ok ho M T h
  | bad => cases h
end
end Go.Proofs.Bb
