/- Numbers within bounds, as the law makes them. -/
import Derived.Test.YtimlkngjkiknfaaGreatOoK
set_option linter.unusedSimpArgs false
set_option maxRecDepth 100000
namespace Go.Proofs.Bb.Oo
open Go Go.Proofs
def S0 : Orc := fun _ _ _ _ => none
theorem F18 : F 18 = some c18 := rfl
theorem F20 : F 20 = some c20 := rfl
set_option maxHeartbeats 1000000

theorem wrap64 {n : Int} (h1 : -2 ^ 63 ≤ n) (h2 : n < 2 ^ 63) : IntKind.i64.wrap n = n := by
  simp [IntKind.wrap, IntKind.signed, IntKind.bits]
  split <;> omega

theorem tmod_neg {k n : Int} (hn : 0 < n) (h : k.tmod n < 0) : k.tmod n + n = k % n := by
  have h1 := Int.tmod_eq_emod (a := k) (b := n)
  have h2 := Int.emod_nonneg k (show n ≠ 0 by omega)
  split at h1 <;> omega
theorem tmod_pos {k n : Int} (hn : 0 < n) (h : ¬ k.tmod n < 0) : k.tmod n = k % n := by
  have h1 := Int.tmod_eq_emod (a := k) (b := n)
  have h2 := Int.emod_lt_of_pos k hn
  split at h1 <;> omega

theorem within_eq (ro : Bool) (k n : Int) (h : List HB) (hn : 0 < n) (hn2 : n < 2 ^ 62) : callF F S0 ro 18 [.int .i64 k, .int .i64 n] h = some (.int .i64 (k % n), h) := by
  refine call_run F18 ?_
  have hn0 : n ≠ 0 := by omega
  have h1 := Int.emod_lt_of_pos k hn
  have h2 := Int.emod_nonneg k hn0
  by_cases hk : k.tmod n < 0
  · have e : IntKind.i64.wrap (k.tmod n + n) = k % n := by
      rw [tmod_neg hn hk, wrap64 (by omega) (by omega)]
    simp [runF, c18, exec, runI, stepA, stepG, step, wantA, ev, abin, St.put, upd, start, hn0, hk, Ex.out, rvals, rval, res, res1, conv, conv1, clean1, e]
  · have hk' : ¬ k % n < 0 := by omega
    simp [runF, c18, exec, runI, stepA, stepG, step, wantA, ev, abin, St.put, upd, start, hn0, hk', Ex.out, rvals, rval, res, res1, conv, conv1, clean1, tmod_pos hn hk]

theorem tdiv_range {k d : Int} (hd : 0 < d) (hk1 : -2 ^ 63 ≤ k) (hk2 : k < 2 ^ 63) : -2 ^ 63 ≤ k.tdiv d ∧ k.tdiv d < 2 ^ 63 := by
  have h1 := Int.natAbs_tdiv k d
  have h2 : (k.tdiv d).natAbs ≤ k.natAbs := by rw [h1]; exact Nat.div_le_self _ _
  clear h1
  have h3 : k < 0 → k.tdiv d ≤ 0 := by
    intro h
    have := Int.tdiv_nonneg (a := -k) (b := d) (by omega) (by omega)
    rw [Int.neg_tdiv] at this
    omega
  omega

theorem digit_eq (ro : Bool) (k d n : Int) (h : List HB) (hd : 0 < d) (hk1 : -2 ^ 63 ≤ k) (hk2 : k < 2 ^ 63) (hn : 0 < n) (hn2 : n < 2 ^ 62) : callF F S0 ro 20 [.int .i64 k, .int .i64 d, .int .i64 n] h = some (.int .i64 (k.tdiv d % n), h) := by
  refine call_run F20 ?_
  have hd0 : d ≠ 0 := by omega
  have hr := tdiv_range hd hk1 hk2
  have e : IntKind.i64.wrap (k.tdiv d) = k.tdiv d := wrap64 hr.1 hr.2
  simp [runF, c20, exec, runI, stepA, stepG, step, wantA, ev, evL, abin, St.put, upd, start, hd0, Ex.out, rvals, rval, res, res1, conv, conv1, clean1, clean0, e, callA, scal, scal0, scal1, within_eq _ _ _ _ hn hn2, deaden]
end Go.Proofs.Bb.Oo
