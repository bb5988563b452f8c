/- A round of the law's loop, command by command. -/
import Derived.Test.YtimlkngjkiknfaaGreatOoD
set_option linter.unusedSimpArgs false
set_option maxRecDepth 100000
set_option maxHeartbeats 4000000
namespace Go.Proofs.Bb.Oo
open Go Go.Proofs
theorem r_a0f {s : St} {l : List Int} {i : Nat} {k : Int} {g3 c1 c2 : Nat} (h0 : s.t 0 = aInts .i64 l) (hi : l[i]? = some k) (hk1 : -2 ^ 63 ≤ k) (hk2 : k < 2 ^ 63) (h3 : s.t 3 = .pt (.v 3) g3 0 0) (h4 : s.t 4 = .pt (.h 23) 0 0 0) (h6 : s.t 6 = .bool false) (h7 : s.t 7 = .int .i64 i)
    (hv : s.v 3 = ⟨g3, some ⟨13, [cfgL], true, false⟩⟩) (hh : s.h = H (.map [] c1) (.map [] c2) (.map [] 0)) (hro : s.ro = false) (hm : k % 6 = 0) (hd : k.tdiv 6 % 2 = 0) :
    ∃ s1, exec (callF F S0) (loopF F S0) bb s = some (.nor, s1) ∧ s1.t 0 = s.t 0 ∧ s1.t 3 = s.t 3 ∧ s1.t 4 = s.t 4 ∧ s1.t 6 = .bool false ∧ s1.t 7 = s.t 7 ∧ s1.v 3 = s.v 3 ∧ s1.h = H (.map [] c1) (.map [] c2) (.map [] 0) ∧ s1.ro = false := by
  obtain ⟨t, v, a, h, ro⟩ := s
  simp only at h0 h3 h4 h6 h7 hv hh hro
  subst hh; subst hro
  have e1 := within_eq false k 6 (deaden (H (.map [] c1) (.map [] c2) (.map [] 0))) (by decide) (by decide)
  have e2 := digit_eq false k 6 2 (deaden (H (.map [] c1) (.map [] c2) (.map [] 0))) (by decide) hk1 hk2 (by decide) (by decide)
  rw [hm] at e1
  rw [hd] at e2
  have e3 := callF_of (order0 (.map [] c1) (.map [] c2) (.map [] 0))
  have e4 := callF_of (do_a0f c1 c2)
  have e7 := callF_of (stateA c1 c2)
  simp only [doA, askL, ask6, ask16, okL, exL, fnOf, tl, cfgL, Bool.false_eq_true, if_false, if_true] at e3 e4
  have hl : (l.map fun n => [AV.int IntKind.i64 n])[i]? = some [.int .i64 k] := by rw [List.getElem?_map, hi]; rfl
  simp [bb, p1, p2, body, c3, exec, runI, stepA, stepG, step, wantA, ev, evL, St.put, upd, h0, h3, h4, h6, h7, hv, aInts, hl, ldc, callA, scal, scal0, scal1, clean0, clean1, conv, conv1, mapS, abin, imp, imp1, storeA, locW, isH, isV, St.getB, St.setB, cellsOf, notTup, putc, fillE, fillA, eqV, eqKs, eqK, cfgL, deaden_len, u16w0, u16w1, u16w2, u16w3, u16w4, u16w5, e1, e2, e3, e4, e7]
theorem r_a0t {s : St} {l : List Int} {i : Nat} {k : Int} {g3 c1 c2 : Nat} (h0 : s.t 0 = aInts .i64 l) (hi : l[i]? = some k) (hk1 : -2 ^ 63 ≤ k) (hk2 : k < 2 ^ 63) (h3 : s.t 3 = .pt (.v 3) g3 0 0) (h4 : s.t 4 = .pt (.h 23) 0 0 0) (h6 : s.t 6 = .bool false) (h7 : s.t 7 = .int .i64 i)
    (hv : s.v 3 = ⟨g3, some ⟨13, [cfgL], true, false⟩⟩) (hh : s.h = H (.map [] c1) (.map [] c2) (.map [] 0)) (hro : s.ro = false) (hm : k % 6 = 0) (hd : k.tdiv 6 % 2 = 1) :
    ∃ s1, exec (callF F S0) (loopF F S0) bb s = some (.nor, s1) ∧ s1.t 0 = s.t 0 ∧ s1.t 3 = s.t 3 ∧ s1.t 4 = s.t 4 ∧ s1.t 6 = .bool false ∧ s1.t 7 = s.t 7 ∧ s1.v 3 = s.v 3 ∧ s1.h = H (.map [] c1) (.map [] c2) (.map [] 0) ∧ s1.ro = false := by
  obtain ⟨t, v, a, h, ro⟩ := s
  simp only at h0 h3 h4 h6 h7 hv hh hro
  subst hh; subst hro
  have e1 := within_eq false k 6 (deaden (H (.map [] c1) (.map [] c2) (.map [] 0))) (by decide) (by decide)
  have e2 := digit_eq false k 6 2 (deaden (H (.map [] c1) (.map [] c2) (.map [] 0))) (by decide) hk1 hk2 (by decide) (by decide)
  rw [hm] at e1
  rw [hd] at e2
  have e3 := callF_of (order0 (.map [] c1) (.map [] c2) (.map [] 0))
  have e4 := callF_of (do_a0t c1 c2)
  have e7 := callF_of (stateA c1 c2)
  simp only [doA, askL, ask6, ask16, okL, exL, fnOf, tl, cfgL, Bool.false_eq_true, if_false, if_true] at e3 e4
  have hl : (l.map fun n => [AV.int IntKind.i64 n])[i]? = some [.int .i64 k] := by rw [List.getElem?_map, hi]; rfl
  simp [bb, p1, p2, body, c3, exec, runI, stepA, stepG, step, wantA, ev, evL, St.put, upd, h0, h3, h4, h6, h7, hv, aInts, hl, ldc, callA, scal, scal0, scal1, clean0, clean1, conv, conv1, mapS, abin, imp, imp1, storeA, locW, isH, isV, St.getB, St.setB, cellsOf, notTup, putc, fillE, fillA, eqV, eqKs, eqK, cfgL, deaden_len, u16w0, u16w1, u16w2, u16w3, u16w4, u16w5, e1, e2, e3, e4, e7]
theorem r_a1f {s : St} {l : List Int} {i : Nat} {k : Int} {g3 c1 c2 : Nat} (h0 : s.t 0 = aInts .i64 l) (hi : l[i]? = some k) (hk1 : -2 ^ 63 ≤ k) (hk2 : k < 2 ^ 63) (h3 : s.t 3 = .pt (.v 3) g3 0 0) (h4 : s.t 4 = .pt (.h 23) 0 0 0) (h6 : s.t 6 = .bool false) (h7 : s.t 7 = .int .i64 i)
    (hv : s.v 3 = ⟨g3, some ⟨13, [cfgL], true, false⟩⟩) (hh : s.h = H (.map [] c1) (.map [] c2) (.map [] 0)) (hro : s.ro = false) (hm : k % 6 = 1) (hd : k.tdiv 6 % 2 = 0) :
    ∃ s1, exec (callF F S0) (loopF F S0) bb s = some (.nor, s1) ∧ s1.t 0 = s.t 0 ∧ s1.t 3 = s.t 3 ∧ s1.t 4 = s.t 4 ∧ s1.t 6 = .bool true ∧ s1.t 7 = s.t 7 ∧ s1.v 3 = s.v 3 ∧ s1.h = H (vw c1 (c1 + 1)) (lf c2 (c2 + 1)) (se 1 0 0 1) ∧ s1.ro = false := by
  obtain ⟨t, v, a, h, ro⟩ := s
  simp only at h0 h3 h4 h6 h7 hv hh hro
  subst hh; subst hro
  have e1 := within_eq false k 6 (deaden (H (.map [] c1) (.map [] c2) (.map [] 0))) (by decide) (by decide)
  have e2 := digit_eq false k 6 2 (deaden (H (.map [] c1) (.map [] c2) (.map [] 0))) (by decide) hk1 hk2 (by decide) (by decide)
  rw [hm] at e1
  rw [hd] at e2
  have e3 := callF_of (order1 (.map [] c1) (.map [] c2) (.map [] 0))
  have e4 := callF_of (do_a1f c1 c2)
  have e5 := callF_of (echoF (vw c1 (c1 + 1)) (lf c2 (c2 + 1)) (se 1 0 0 1))
  have e6 := callF_of (sameF (vw c1 (c1 + 1)) (lf c2 (c2 + 1)) (se 1 0 0 1))
  have e7 := callF_of (stateO c1 (c1 + 1) c2 (c2 + 1) 0 1)
  simp only [doA, askL, ask6, ask16, okL, exL, fnOf, tl, cfgL, Bool.false_eq_true, if_false, if_true] at e3 e4 e5 e6
  have hl : (l.map fun n => [AV.int IntKind.i64 n])[i]? = some [.int .i64 k] := by rw [List.getElem?_map, hi]; rfl
  simp [bb, p1, p2, body, c3, exec, runI, stepA, stepG, step, wantA, ev, evL, St.put, upd, h0, h3, h4, h6, h7, hv, aInts, hl, ldc, callA, scal, scal0, scal1, clean0, clean1, conv, conv1, mapS, abin, imp, imp1, storeA, locW, isH, isV, St.getB, St.setB, cellsOf, notTup, putc, fillE, fillA, eqV, eqKs, eqK, cfgL, deaden_len, u16w0, u16w1, u16w2, u16w3, u16w4, u16w5, e1, e2, e3, e4, e5, e6, e7]
theorem r_a1t {s : St} {l : List Int} {i : Nat} {k : Int} {g3 c1 c2 : Nat} (h0 : s.t 0 = aInts .i64 l) (hi : l[i]? = some k) (hk1 : -2 ^ 63 ≤ k) (hk2 : k < 2 ^ 63) (h3 : s.t 3 = .pt (.v 3) g3 0 0) (h4 : s.t 4 = .pt (.h 23) 0 0 0) (h6 : s.t 6 = .bool false) (h7 : s.t 7 = .int .i64 i)
    (hv : s.v 3 = ⟨g3, some ⟨13, [cfgL], true, false⟩⟩) (hh : s.h = H (.map [] c1) (.map [] c2) (.map [] 0)) (hro : s.ro = false) (hm : k % 6 = 1) (hd : k.tdiv 6 % 2 = 1) :
    ∃ s1, exec (callF F S0) (loopF F S0) bb s = some (.nor, s1) ∧ s1.t 0 = s.t 0 ∧ s1.t 3 = s.t 3 ∧ s1.t 4 = s.t 4 ∧ s1.t 6 = .bool true ∧ s1.t 7 = s.t 7 ∧ s1.v 3 = s.v 3 ∧ s1.h = H (vw c1 (c1 + 1)) (lf c2 (c2 + 1)) (se 1 0 0 1) ∧ s1.ro = false := by
  obtain ⟨t, v, a, h, ro⟩ := s
  simp only at h0 h3 h4 h6 h7 hv hh hro
  subst hh; subst hro
  have e1 := within_eq false k 6 (deaden (H (.map [] c1) (.map [] c2) (.map [] 0))) (by decide) (by decide)
  have e2 := digit_eq false k 6 2 (deaden (H (.map [] c1) (.map [] c2) (.map [] 0))) (by decide) hk1 hk2 (by decide) (by decide)
  rw [hm] at e1
  rw [hd] at e2
  have e3 := callF_of (order1 (.map [] c1) (.map [] c2) (.map [] 0))
  have e4 := callF_of (do_a1t c1 c2)
  have e5 := callF_of (echoT (vw c1 (c1 + 1)) (lf c2 (c2 + 1)) (se 1 0 0 1))
  have e6 := callF_of (sameT (vw c1 (c1 + 1)) (lf c2 (c2 + 1)) (se 1 0 0 1))
  have e7 := callF_of (stateO c1 (c1 + 1) c2 (c2 + 1) 0 1)
  simp only [doA, askL, ask6, ask16, okL, exL, fnOf, tl, cfgL, Bool.false_eq_true, if_false, if_true] at e3 e4 e5 e6
  have hl : (l.map fun n => [AV.int IntKind.i64 n])[i]? = some [.int .i64 k] := by rw [List.getElem?_map, hi]; rfl
  simp [bb, p1, p2, body, c3, exec, runI, stepA, stepG, step, wantA, ev, evL, St.put, upd, h0, h3, h4, h6, h7, hv, aInts, hl, ldc, callA, scal, scal0, scal1, clean0, clean1, conv, conv1, mapS, abin, imp, imp1, storeA, locW, isH, isV, St.getB, St.setB, cellsOf, notTup, putc, fillE, fillA, eqV, eqKs, eqK, cfgL, deaden_len, u16w0, u16w1, u16w2, u16w3, u16w4, u16w5, e1, e2, e3, e4, e5, e6, e7]
theorem r_a2f {s : St} {l : List Int} {i : Nat} {k : Int} {g3 c1 c2 : Nat} (h0 : s.t 0 = aInts .i64 l) (hi : l[i]? = some k) (hk1 : -2 ^ 63 ≤ k) (hk2 : k < 2 ^ 63) (h3 : s.t 3 = .pt (.v 3) g3 0 0) (h4 : s.t 4 = .pt (.h 23) 0 0 0) (h6 : s.t 6 = .bool false) (h7 : s.t 7 = .int .i64 i)
    (hv : s.v 3 = ⟨g3, some ⟨13, [cfgL], true, false⟩⟩) (hh : s.h = H (.map [] c1) (.map [] c2) (.map [] 0)) (hro : s.ro = false) (hm : k % 6 = 2) (hd : k.tdiv 6 % 2 = 0) :
    ∃ s1, exec (callF F S0) (loopF F S0) bb s = some (.nor, s1) ∧ s1.t 0 = s.t 0 ∧ s1.t 3 = s.t 3 ∧ s1.t 4 = s.t 4 ∧ s1.t 6 = .bool false ∧ s1.t 7 = s.t 7 ∧ s1.v 3 = s.v 3 ∧ s1.h = H (.map [] c1) (.map [] c2) (.map [] 0) ∧ s1.ro = false := by
  obtain ⟨t, v, a, h, ro⟩ := s
  simp only at h0 h3 h4 h6 h7 hv hh hro
  subst hh; subst hro
  have e1 := within_eq false k 6 (deaden (H (.map [] c1) (.map [] c2) (.map [] 0))) (by decide) (by decide)
  have e2 := digit_eq false k 6 2 (deaden (H (.map [] c1) (.map [] c2) (.map [] 0))) (by decide) hk1 hk2 (by decide) (by decide)
  rw [hm] at e1
  rw [hd] at e2
  have e3 := callF_of (order2 (.map [] c1) (.map [] c2) (.map [] 0))
  have e4 := callF_of (do_a2f c1 c2)
  have e7 := callF_of (stateA c1 c2)
  simp only [doA, askL, ask6, ask16, okL, exL, fnOf, tl, cfgL, Bool.false_eq_true, if_false, if_true] at e3 e4
  have hl : (l.map fun n => [AV.int IntKind.i64 n])[i]? = some [.int .i64 k] := by rw [List.getElem?_map, hi]; rfl
  simp [bb, p1, p2, body, c3, exec, runI, stepA, stepG, step, wantA, ev, evL, St.put, upd, h0, h3, h4, h6, h7, hv, aInts, hl, ldc, callA, scal, scal0, scal1, clean0, clean1, conv, conv1, mapS, abin, imp, imp1, storeA, locW, isH, isV, St.getB, St.setB, cellsOf, notTup, putc, fillE, fillA, eqV, eqKs, eqK, cfgL, deaden_len, u16w0, u16w1, u16w2, u16w3, u16w4, u16w5, e1, e2, e3, e4, e7]
theorem r_a2t {s : St} {l : List Int} {i : Nat} {k : Int} {g3 c1 c2 : Nat} (h0 : s.t 0 = aInts .i64 l) (hi : l[i]? = some k) (hk1 : -2 ^ 63 ≤ k) (hk2 : k < 2 ^ 63) (h3 : s.t 3 = .pt (.v 3) g3 0 0) (h4 : s.t 4 = .pt (.h 23) 0 0 0) (h6 : s.t 6 = .bool false) (h7 : s.t 7 = .int .i64 i)
    (hv : s.v 3 = ⟨g3, some ⟨13, [cfgL], true, false⟩⟩) (hh : s.h = H (.map [] c1) (.map [] c2) (.map [] 0)) (hro : s.ro = false) (hm : k % 6 = 2) (hd : k.tdiv 6 % 2 = 1) :
    ∃ s1, exec (callF F S0) (loopF F S0) bb s = some (.nor, s1) ∧ s1.t 0 = s.t 0 ∧ s1.t 3 = s.t 3 ∧ s1.t 4 = s.t 4 ∧ s1.t 6 = .bool false ∧ s1.t 7 = s.t 7 ∧ s1.v 3 = s.v 3 ∧ s1.h = H (.map [] c1) (.map [] c2) (.map [] 0) ∧ s1.ro = false := by
  obtain ⟨t, v, a, h, ro⟩ := s
  simp only at h0 h3 h4 h6 h7 hv hh hro
  subst hh; subst hro
  have e1 := within_eq false k 6 (deaden (H (.map [] c1) (.map [] c2) (.map [] 0))) (by decide) (by decide)
  have e2 := digit_eq false k 6 2 (deaden (H (.map [] c1) (.map [] c2) (.map [] 0))) (by decide) hk1 hk2 (by decide) (by decide)
  rw [hm] at e1
  rw [hd] at e2
  have e3 := callF_of (order2 (.map [] c1) (.map [] c2) (.map [] 0))
  have e4 := callF_of (do_a2t c1 c2)
  have e7 := callF_of (stateA c1 c2)
  simp only [doA, askL, ask6, ask16, okL, exL, fnOf, tl, cfgL, Bool.false_eq_true, if_false, if_true] at e3 e4
  have hl : (l.map fun n => [AV.int IntKind.i64 n])[i]? = some [.int .i64 k] := by rw [List.getElem?_map, hi]; rfl
  simp [bb, p1, p2, body, c3, exec, runI, stepA, stepG, step, wantA, ev, evL, St.put, upd, h0, h3, h4, h6, h7, hv, aInts, hl, ldc, callA, scal, scal0, scal1, clean0, clean1, conv, conv1, mapS, abin, imp, imp1, storeA, locW, isH, isV, St.getB, St.setB, cellsOf, notTup, putc, fillE, fillA, eqV, eqKs, eqK, cfgL, deaden_len, u16w0, u16w1, u16w2, u16w3, u16w4, u16w5, e1, e2, e3, e4, e7]
theorem r_a3f {s : St} {l : List Int} {i : Nat} {k : Int} {g3 c1 c2 : Nat} (h0 : s.t 0 = aInts .i64 l) (hi : l[i]? = some k) (hk1 : -2 ^ 63 ≤ k) (hk2 : k < 2 ^ 63) (h3 : s.t 3 = .pt (.v 3) g3 0 0) (h4 : s.t 4 = .pt (.h 23) 0 0 0) (h6 : s.t 6 = .bool false) (h7 : s.t 7 = .int .i64 i)
    (hv : s.v 3 = ⟨g3, some ⟨13, [cfgL], true, false⟩⟩) (hh : s.h = H (.map [] c1) (.map [] c2) (.map [] 0)) (hro : s.ro = false) (hm : k % 6 = 3) (hd : k.tdiv 6 % 2 = 0) :
    ∃ s1, exec (callF F S0) (loopF F S0) bb s = some (.nor, s1) ∧ s1.t 0 = s.t 0 ∧ s1.t 3 = s.t 3 ∧ s1.t 4 = s.t 4 ∧ s1.t 6 = .bool false ∧ s1.t 7 = s.t 7 ∧ s1.v 3 = s.v 3 ∧ s1.h = H (.map [] c1) (.map [] c2) (.map [] 0) ∧ s1.ro = false := by
  obtain ⟨t, v, a, h, ro⟩ := s
  simp only at h0 h3 h4 h6 h7 hv hh hro
  subst hh; subst hro
  have e1 := within_eq false k 6 (deaden (H (.map [] c1) (.map [] c2) (.map [] 0))) (by decide) (by decide)
  have e2 := digit_eq false k 6 2 (deaden (H (.map [] c1) (.map [] c2) (.map [] 0))) (by decide) hk1 hk2 (by decide) (by decide)
  rw [hm] at e1
  rw [hd] at e2
  have e3 := callF_of (order3 (.map [] c1) (.map [] c2) (.map [] 0))
  have e4 := callF_of (do_a3f c1 c2)
  have e7 := callF_of (stateA c1 c2)
  simp only [doA, askL, ask6, ask16, okL, exL, fnOf, tl, cfgL, Bool.false_eq_true, if_false, if_true] at e3 e4
  have hl : (l.map fun n => [AV.int IntKind.i64 n])[i]? = some [.int .i64 k] := by rw [List.getElem?_map, hi]; rfl
  simp [bb, p1, p2, body, c3, exec, runI, stepA, stepG, step, wantA, ev, evL, St.put, upd, h0, h3, h4, h6, h7, hv, aInts, hl, ldc, callA, scal, scal0, scal1, clean0, clean1, conv, conv1, mapS, abin, imp, imp1, storeA, locW, isH, isV, St.getB, St.setB, cellsOf, notTup, putc, fillE, fillA, eqV, eqKs, eqK, cfgL, deaden_len, u16w0, u16w1, u16w2, u16w3, u16w4, u16w5, e1, e2, e3, e4, e7]
theorem r_a3t {s : St} {l : List Int} {i : Nat} {k : Int} {g3 c1 c2 : Nat} (h0 : s.t 0 = aInts .i64 l) (hi : l[i]? = some k) (hk1 : -2 ^ 63 ≤ k) (hk2 : k < 2 ^ 63) (h3 : s.t 3 = .pt (.v 3) g3 0 0) (h4 : s.t 4 = .pt (.h 23) 0 0 0) (h6 : s.t 6 = .bool false) (h7 : s.t 7 = .int .i64 i)
    (hv : s.v 3 = ⟨g3, some ⟨13, [cfgL], true, false⟩⟩) (hh : s.h = H (.map [] c1) (.map [] c2) (.map [] 0)) (hro : s.ro = false) (hm : k % 6 = 3) (hd : k.tdiv 6 % 2 = 1) :
    ∃ s1, exec (callF F S0) (loopF F S0) bb s = some (.nor, s1) ∧ s1.t 0 = s.t 0 ∧ s1.t 3 = s.t 3 ∧ s1.t 4 = s.t 4 ∧ s1.t 6 = .bool false ∧ s1.t 7 = s.t 7 ∧ s1.v 3 = s.v 3 ∧ s1.h = H (.map [] c1) (.map [] c2) (.map [] 0) ∧ s1.ro = false := by
  obtain ⟨t, v, a, h, ro⟩ := s
  simp only at h0 h3 h4 h6 h7 hv hh hro
  subst hh; subst hro
  have e1 := within_eq false k 6 (deaden (H (.map [] c1) (.map [] c2) (.map [] 0))) (by decide) (by decide)
  have e2 := digit_eq false k 6 2 (deaden (H (.map [] c1) (.map [] c2) (.map [] 0))) (by decide) hk1 hk2 (by decide) (by decide)
  rw [hm] at e1
  rw [hd] at e2
  have e3 := callF_of (order3 (.map [] c1) (.map [] c2) (.map [] 0))
  have e4 := callF_of (do_a3t c1 c2)
  have e7 := callF_of (stateA c1 c2)
  simp only [doA, askL, ask6, ask16, okL, exL, fnOf, tl, cfgL, Bool.false_eq_true, if_false, if_true] at e3 e4
  have hl : (l.map fun n => [AV.int IntKind.i64 n])[i]? = some [.int .i64 k] := by rw [List.getElem?_map, hi]; rfl
  simp [bb, p1, p2, body, c3, exec, runI, stepA, stepG, step, wantA, ev, evL, St.put, upd, h0, h3, h4, h6, h7, hv, aInts, hl, ldc, callA, scal, scal0, scal1, clean0, clean1, conv, conv1, mapS, abin, imp, imp1, storeA, locW, isH, isV, St.getB, St.setB, cellsOf, notTup, putc, fillE, fillA, eqV, eqKs, eqK, cfgL, deaden_len, u16w0, u16w1, u16w2, u16w3, u16w4, u16w5, e1, e2, e3, e4, e7]
theorem r_a4f {s : St} {l : List Int} {i : Nat} {k : Int} {g3 c1 c2 : Nat} (h0 : s.t 0 = aInts .i64 l) (hi : l[i]? = some k) (hk1 : -2 ^ 63 ≤ k) (hk2 : k < 2 ^ 63) (h3 : s.t 3 = .pt (.v 3) g3 0 0) (h4 : s.t 4 = .pt (.h 23) 0 0 0) (h6 : s.t 6 = .bool false) (h7 : s.t 7 = .int .i64 i)
    (hv : s.v 3 = ⟨g3, some ⟨13, [cfgL], true, false⟩⟩) (hh : s.h = H (.map [] c1) (.map [] c2) (.map [] 0)) (hro : s.ro = false) (hm : k % 6 = 4) (hd : k.tdiv 6 % 2 = 0) :
    ∃ s1, exec (callF F S0) (loopF F S0) bb s = some (.nor, s1) ∧ s1.t 0 = s.t 0 ∧ s1.t 3 = s.t 3 ∧ s1.t 4 = s.t 4 ∧ s1.t 6 = .bool false ∧ s1.t 7 = s.t 7 ∧ s1.v 3 = s.v 3 ∧ s1.h = H (.map [] c1) (.map [] c2) (.map [] 0) ∧ s1.ro = false := by
  obtain ⟨t, v, a, h, ro⟩ := s
  simp only at h0 h3 h4 h6 h7 hv hh hro
  subst hh; subst hro
  have e1 := within_eq false k 6 (deaden (H (.map [] c1) (.map [] c2) (.map [] 0))) (by decide) (by decide)
  have e2 := digit_eq false k 6 2 (deaden (H (.map [] c1) (.map [] c2) (.map [] 0))) (by decide) hk1 hk2 (by decide) (by decide)
  rw [hm] at e1
  rw [hd] at e2
  have e3 := callF_of (order4 (.map [] c1) (.map [] c2) (.map [] 0))
  have e4 := callF_of (do_a4f c1 c2)
  have e7 := callF_of (stateA c1 c2)
  simp only [doA, askL, ask6, ask16, okL, exL, fnOf, tl, cfgL, Bool.false_eq_true, if_false, if_true] at e3 e4
  have hl : (l.map fun n => [AV.int IntKind.i64 n])[i]? = some [.int .i64 k] := by rw [List.getElem?_map, hi]; rfl
  simp [bb, p1, p2, body, c3, exec, runI, stepA, stepG, step, wantA, ev, evL, St.put, upd, h0, h3, h4, h6, h7, hv, aInts, hl, ldc, callA, scal, scal0, scal1, clean0, clean1, conv, conv1, mapS, abin, imp, imp1, storeA, locW, isH, isV, St.getB, St.setB, cellsOf, notTup, putc, fillE, fillA, eqV, eqKs, eqK, cfgL, deaden_len, u16w0, u16w1, u16w2, u16w3, u16w4, u16w5, e1, e2, e3, e4, e7]
theorem r_a4t {s : St} {l : List Int} {i : Nat} {k : Int} {g3 c1 c2 : Nat} (h0 : s.t 0 = aInts .i64 l) (hi : l[i]? = some k) (hk1 : -2 ^ 63 ≤ k) (hk2 : k < 2 ^ 63) (h3 : s.t 3 = .pt (.v 3) g3 0 0) (h4 : s.t 4 = .pt (.h 23) 0 0 0) (h6 : s.t 6 = .bool false) (h7 : s.t 7 = .int .i64 i)
    (hv : s.v 3 = ⟨g3, some ⟨13, [cfgL], true, false⟩⟩) (hh : s.h = H (.map [] c1) (.map [] c2) (.map [] 0)) (hro : s.ro = false) (hm : k % 6 = 4) (hd : k.tdiv 6 % 2 = 1) :
    ∃ s1, exec (callF F S0) (loopF F S0) bb s = some (.nor, s1) ∧ s1.t 0 = s.t 0 ∧ s1.t 3 = s.t 3 ∧ s1.t 4 = s.t 4 ∧ s1.t 6 = .bool false ∧ s1.t 7 = s.t 7 ∧ s1.v 3 = s.v 3 ∧ s1.h = H (.map [] c1) (.map [] c2) (.map [] 0) ∧ s1.ro = false := by
  obtain ⟨t, v, a, h, ro⟩ := s
  simp only at h0 h3 h4 h6 h7 hv hh hro
  subst hh; subst hro
  have e1 := within_eq false k 6 (deaden (H (.map [] c1) (.map [] c2) (.map [] 0))) (by decide) (by decide)
  have e2 := digit_eq false k 6 2 (deaden (H (.map [] c1) (.map [] c2) (.map [] 0))) (by decide) hk1 hk2 (by decide) (by decide)
  rw [hm] at e1
  rw [hd] at e2
  have e3 := callF_of (order4 (.map [] c1) (.map [] c2) (.map [] 0))
  have e4 := callF_of (do_a4t c1 c2)
  have e7 := callF_of (stateA c1 c2)
  simp only [doA, askL, ask6, ask16, okL, exL, fnOf, tl, cfgL, Bool.false_eq_true, if_false, if_true] at e3 e4
  have hl : (l.map fun n => [AV.int IntKind.i64 n])[i]? = some [.int .i64 k] := by rw [List.getElem?_map, hi]; rfl
  simp [bb, p1, p2, body, c3, exec, runI, stepA, stepG, step, wantA, ev, evL, St.put, upd, h0, h3, h4, h6, h7, hv, aInts, hl, ldc, callA, scal, scal0, scal1, clean0, clean1, conv, conv1, mapS, abin, imp, imp1, storeA, locW, isH, isV, St.getB, St.setB, cellsOf, notTup, putc, fillE, fillA, eqV, eqKs, eqK, cfgL, deaden_len, u16w0, u16w1, u16w2, u16w3, u16w4, u16w5, e1, e2, e3, e4, e7]
theorem r_a5f {s : St} {l : List Int} {i : Nat} {k : Int} {g3 c1 c2 : Nat} (h0 : s.t 0 = aInts .i64 l) (hi : l[i]? = some k) (hk1 : -2 ^ 63 ≤ k) (hk2 : k < 2 ^ 63) (h3 : s.t 3 = .pt (.v 3) g3 0 0) (h4 : s.t 4 = .pt (.h 23) 0 0 0) (h6 : s.t 6 = .bool false) (h7 : s.t 7 = .int .i64 i)
    (hv : s.v 3 = ⟨g3, some ⟨13, [cfgL], true, false⟩⟩) (hh : s.h = H (.map [] c1) (.map [] c2) (.map [] 0)) (hro : s.ro = false) (hm : k % 6 = 5) (hd : k.tdiv 6 % 2 = 0) :
    ∃ s1, exec (callF F S0) (loopF F S0) bb s = some (.nor, s1) ∧ s1.t 0 = s.t 0 ∧ s1.t 3 = s.t 3 ∧ s1.t 4 = s.t 4 ∧ s1.t 6 = .bool false ∧ s1.t 7 = s.t 7 ∧ s1.v 3 = s.v 3 ∧ s1.h = H (.map [] c1) (.map [] c2) (.map [] 0) ∧ s1.ro = false := by
  obtain ⟨t, v, a, h, ro⟩ := s
  simp only at h0 h3 h4 h6 h7 hv hh hro
  subst hh; subst hro
  have e1 := within_eq false k 6 (deaden (H (.map [] c1) (.map [] c2) (.map [] 0))) (by decide) (by decide)
  have e2 := digit_eq false k 6 2 (deaden (H (.map [] c1) (.map [] c2) (.map [] 0))) (by decide) hk1 hk2 (by decide) (by decide)
  rw [hm] at e1
  rw [hd] at e2
  have e3 := callF_of (order5 (.map [] c1) (.map [] c2) (.map [] 0))
  have e4 := callF_of (do_a5f c1 c2)
  have e7 := callF_of (stateA c1 c2)
  simp only [doA, askL, ask6, ask16, okL, exL, fnOf, tl, cfgL, Bool.false_eq_true, if_false, if_true] at e3 e4
  have hl : (l.map fun n => [AV.int IntKind.i64 n])[i]? = some [.int .i64 k] := by rw [List.getElem?_map, hi]; rfl
  simp [bb, p1, p2, body, c3, exec, runI, stepA, stepG, step, wantA, ev, evL, St.put, upd, h0, h3, h4, h6, h7, hv, aInts, hl, ldc, callA, scal, scal0, scal1, clean0, clean1, conv, conv1, mapS, abin, imp, imp1, storeA, locW, isH, isV, St.getB, St.setB, cellsOf, notTup, putc, fillE, fillA, eqV, eqKs, eqK, cfgL, deaden_len, u16w0, u16w1, u16w2, u16w3, u16w4, u16w5, e1, e2, e3, e4, e7]
theorem r_a5t {s : St} {l : List Int} {i : Nat} {k : Int} {g3 c1 c2 : Nat} (h0 : s.t 0 = aInts .i64 l) (hi : l[i]? = some k) (hk1 : -2 ^ 63 ≤ k) (hk2 : k < 2 ^ 63) (h3 : s.t 3 = .pt (.v 3) g3 0 0) (h4 : s.t 4 = .pt (.h 23) 0 0 0) (h6 : s.t 6 = .bool false) (h7 : s.t 7 = .int .i64 i)
    (hv : s.v 3 = ⟨g3, some ⟨13, [cfgL], true, false⟩⟩) (hh : s.h = H (.map [] c1) (.map [] c2) (.map [] 0)) (hro : s.ro = false) (hm : k % 6 = 5) (hd : k.tdiv 6 % 2 = 1) :
    ∃ s1, exec (callF F S0) (loopF F S0) bb s = some (.nor, s1) ∧ s1.t 0 = s.t 0 ∧ s1.t 3 = s.t 3 ∧ s1.t 4 = s.t 4 ∧ s1.t 6 = .bool false ∧ s1.t 7 = s.t 7 ∧ s1.v 3 = s.v 3 ∧ s1.h = H (.map [] c1) (.map [] c2) (.map [] 0) ∧ s1.ro = false := by
  obtain ⟨t, v, a, h, ro⟩ := s
  simp only at h0 h3 h4 h6 h7 hv hh hro
  subst hh; subst hro
  have e1 := within_eq false k 6 (deaden (H (.map [] c1) (.map [] c2) (.map [] 0))) (by decide) (by decide)
  have e2 := digit_eq false k 6 2 (deaden (H (.map [] c1) (.map [] c2) (.map [] 0))) (by decide) hk1 hk2 (by decide) (by decide)
  rw [hm] at e1
  rw [hd] at e2
  have e3 := callF_of (order5 (.map [] c1) (.map [] c2) (.map [] 0))
  have e4 := callF_of (do_a5t c1 c2)
  have e7 := callF_of (stateA c1 c2)
  simp only [doA, askL, ask6, ask16, okL, exL, fnOf, tl, cfgL, Bool.false_eq_true, if_false, if_true] at e3 e4
  have hl : (l.map fun n => [AV.int IntKind.i64 n])[i]? = some [.int .i64 k] := by rw [List.getElem?_map, hi]; rfl
  simp [bb, p1, p2, body, c3, exec, runI, stepA, stepG, step, wantA, ev, evL, St.put, upd, h0, h3, h4, h6, h7, hv, aInts, hl, ldc, callA, scal, scal0, scal1, clean0, clean1, conv, conv1, mapS, abin, imp, imp1, storeA, locW, isH, isV, St.getB, St.setB, cellsOf, notTup, putc, fillE, fillA, eqV, eqKs, eqK, cfgL, deaden_len, u16w0, u16w1, u16w2, u16w3, u16w4, u16w5, e1, e2, e3, e4, e7]
end Go.Proofs.Bb.Oo
