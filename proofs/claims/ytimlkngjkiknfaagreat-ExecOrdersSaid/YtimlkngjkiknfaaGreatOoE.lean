/- The law's loop, and the law: it answers true. -/
import Derived.Test.YtimlkngjkiknfaaGreatOoRa
import Derived.Test.YtimlkngjkiknfaaGreatOoRb
import Derived.Test.YtimlkngjkiknfaaGreatOoRo
set_option linter.unusedSimpArgs false
set_option maxRecDepth 100000
set_option maxHeartbeats 4000000
namespace Go.Proofs.Bb.Oo
open Go Go.Proofs

/-- How the sessions stand: none open, at first or behind a transaction, or one. -/
def SH : Bool → List HB → Prop
  | false, h => (∃ c1 c2, h = H (.map [] c1) (.map [] c2) (.map [] 0)) ∨ ∃ c1 c2 b c r, h = H (.map [] c1) (.map [] c2) (se 0 r b c)
  | true, h => ∃ b1 c1 b2 c2 b c, h = H (vw b1 c1) (lf b2 c2) (se 1 0 b c)

theorem SHa (c1 c2) : SH false (H (.map [] c1) (.map [] c2) (.map [] 0)) := Or.inl ⟨c1, c2, rfl⟩
theorem SHb (c1 c2 b c r) : SH false (H (.map [] c1) (.map [] c2) (se 0 r b c)) := Or.inr ⟨c1, c2, b, c, r, rfl⟩
theorem SHo (b1 c1 b2 c2 b c) : SH true (H (vw b1 c1) (lf b2 c2) (se 1 0 b c)) := ⟨b1, c1, b2, c2, b, c, rfl⟩

structure Inv (s : St) (l : List Int) (g3 : Nat) (i : Nat) : Prop where
  t0 : s.t 0 = aInts .i64 l
  t3 : s.t 3 = .pt (.v 3) g3 0 0
  t4 : s.t 4 = .pt (.h 23) 0 0 0
  t6 : ∃ op, s.t 6 = .bool op ∧ SH op s.h
  t7 : s.t 7 = .int .i64 i
  v3 : s.v 3 = ⟨g3, some ⟨13, [cfgL], true, false⟩⟩
  ro : s.ro = false

theorem mod6 (k : Int) : k % 6 = 0 ∨ k % 6 = 1 ∨ k % 6 = 2 ∨ k % 6 = 3 ∨ k % 6 = 4 ∨ k % 6 = 5 := by omega
theorem mod2 (k : Int) : k % 2 = 0 ∨ k % 2 = 1 := by omega

theorem round {s : St} {l : List Int} {g3 i : Nat} {k : Int} (I : Inv s l g3 i) (hi : l[i]? = some k) (hk1 : -2 ^ 63 ≤ k) (hk2 : k < 2 ^ 63) :
    ∃ s1, exec (callF F S0) (loopF F S0) bb s = some (.nor, s1) ∧ Inv s1 l g3 i := by
  obtain ⟨h0, h3, h4, ⟨op, h6, hS⟩, h7, hv, hro⟩ := I
  have fin : ∀ {op1 : Bool} {h1 : List HB}, SH op1 h1 → (∃ s1, exec (callF F S0) (loopF F S0) bb s = some (.nor, s1) ∧ s1.t 0 = s.t 0 ∧ s1.t 3 = s.t 3 ∧ s1.t 4 = s.t 4 ∧ s1.t 6 = .bool op1 ∧ s1.t 7 = s.t 7 ∧ s1.v 3 = s.v 3 ∧ s1.h = h1 ∧ s1.ro = false) →
      ∃ s1, exec (callF F S0) (loopF F S0) bb s = some (.nor, s1) ∧ Inv s1 l g3 i := by
    rintro op1 h1 hS1 ⟨s1, e, a0, a3, a4, a6, a7, av, ah, ar⟩
    exact ⟨s1, e, a0.trans h0, a3.trans h3, a4.trans h4, ⟨op1, a6, by rw [ah]; exact hS1⟩, a7.trans h7, av.trans hv, ar⟩
  cases op with
  | false =>
    rcases hS with ⟨c1, c2, hh⟩ | ⟨c1, c2, b, c, r, hh⟩
    · rcases mod6 k with m | m | m | m | m | m <;> rcases mod2 (k.tdiv 6) with d | d
      · exact fin (SHa _ _) (r_a0f h0 hi hk1 hk2 h3 h4 h6 h7 hv hh hro m d)
      · exact fin (SHa _ _) (r_a0t h0 hi hk1 hk2 h3 h4 h6 h7 hv hh hro m d)
      · exact fin (SHo _ _ _ _ _ _) (r_a1f h0 hi hk1 hk2 h3 h4 h6 h7 hv hh hro m d)
      · exact fin (SHo _ _ _ _ _ _) (r_a1t h0 hi hk1 hk2 h3 h4 h6 h7 hv hh hro m d)
      · exact fin (SHa _ _) (r_a2f h0 hi hk1 hk2 h3 h4 h6 h7 hv hh hro m d)
      · exact fin (SHa _ _) (r_a2t h0 hi hk1 hk2 h3 h4 h6 h7 hv hh hro m d)
      · exact fin (SHa _ _) (r_a3f h0 hi hk1 hk2 h3 h4 h6 h7 hv hh hro m d)
      · exact fin (SHa _ _) (r_a3t h0 hi hk1 hk2 h3 h4 h6 h7 hv hh hro m d)
      · exact fin (SHa _ _) (r_a4f h0 hi hk1 hk2 h3 h4 h6 h7 hv hh hro m d)
      · exact fin (SHa _ _) (r_a4t h0 hi hk1 hk2 h3 h4 h6 h7 hv hh hro m d)
      · exact fin (SHa _ _) (r_a5f h0 hi hk1 hk2 h3 h4 h6 h7 hv hh hro m d)
      · exact fin (SHa _ _) (r_a5t h0 hi hk1 hk2 h3 h4 h6 h7 hv hh hro m d)
    · rcases mod6 k with m | m | m | m | m | m <;> rcases mod2 (k.tdiv 6) with d | d
      · exact fin (SHb _ _ _ _ _) (r_b0f h0 hi hk1 hk2 h3 h4 h6 h7 hv hh hro m d)
      · exact fin (SHb _ _ _ _ _) (r_b0t h0 hi hk1 hk2 h3 h4 h6 h7 hv hh hro m d)
      · exact fin (SHo _ _ _ _ _ _) (r_b1f h0 hi hk1 hk2 h3 h4 h6 h7 hv hh hro m d)
      · exact fin (SHo _ _ _ _ _ _) (r_b1t h0 hi hk1 hk2 h3 h4 h6 h7 hv hh hro m d)
      · exact fin (SHb _ _ _ _ _) (r_b2f h0 hi hk1 hk2 h3 h4 h6 h7 hv hh hro m d)
      · exact fin (SHb _ _ _ _ _) (r_b2t h0 hi hk1 hk2 h3 h4 h6 h7 hv hh hro m d)
      · exact fin (SHb _ _ _ _ _) (r_b3f h0 hi hk1 hk2 h3 h4 h6 h7 hv hh hro m d)
      · exact fin (SHb _ _ _ _ _) (r_b3t h0 hi hk1 hk2 h3 h4 h6 h7 hv hh hro m d)
      · exact fin (SHb _ _ _ _ _) (r_b4f h0 hi hk1 hk2 h3 h4 h6 h7 hv hh hro m d)
      · exact fin (SHb _ _ _ _ _) (r_b4t h0 hi hk1 hk2 h3 h4 h6 h7 hv hh hro m d)
      · exact fin (SHb _ _ _ _ _) (r_b5f h0 hi hk1 hk2 h3 h4 h6 h7 hv hh hro m d)
      · exact fin (SHb _ _ _ _ _) (r_b5t h0 hi hk1 hk2 h3 h4 h6 h7 hv hh hro m d)
  | true =>
    obtain ⟨b1, c1, b2, c2, b, c, hh⟩ := hS
    rcases mod6 k with m | m | m | m | m | m <;> rcases mod2 (k.tdiv 6) with d | d
    · exact fin (SHo _ _ _ _ _ _) (r_o0f h0 hi hk1 hk2 h3 h4 h6 h7 hv hh hro m d)
    · exact fin (SHo _ _ _ _ _ _) (r_o0t h0 hi hk1 hk2 h3 h4 h6 h7 hv hh hro m d)
    · exact fin (SHo _ _ _ _ _ _) (r_o1f h0 hi hk1 hk2 h3 h4 h6 h7 hv hh hro m d)
    · exact fin (SHo _ _ _ _ _ _) (r_o1t h0 hi hk1 hk2 h3 h4 h6 h7 hv hh hro m d)
    · exact fin (SHb _ _ _ _ _) (r_o2f h0 hi hk1 hk2 h3 h4 h6 h7 hv hh hro m d)
    · exact fin (SHb _ _ _ _ _) (r_o2t h0 hi hk1 hk2 h3 h4 h6 h7 hv hh hro m d)
    · exact fin (SHb _ _ _ _ _) (r_o3f h0 hi hk1 hk2 h3 h4 h6 h7 hv hh hro m d)
    · exact fin (SHb _ _ _ _ _) (r_o3t h0 hi hk1 hk2 h3 h4 h6 h7 hv hh hro m d)
    · exact fin (SHo _ _ _ _ _ _) (r_o4f h0 hi hk1 hk2 h3 h4 h6 h7 hv hh hro m d)
    · exact fin (SHo _ _ _ _ _ _) (r_o4t h0 hi hk1 hk2 h3 h4 h6 h7 hv hh hro m d)
    · exact fin (SHo _ _ _ _ _ _) (r_o5f h0 hi hk1 hk2 h3 h4 h6 h7 hv hh hro m d)
    · exact fin (SHo _ _ _ _ _ _) (r_o5t h0 hi hk1 hk2 h3 h4 h6 h7 hv hh hro m d)

theorem wrapN {n : Nat} (h : n ≤ 2 ^ 32) : IntKind.i64.wrap (n : Int) = n := wrap64 (by omega) (by omega)

theorem loop_ok {l : List Int} (hl : l.length ≤ 30) (hr : ∀ k, k ∈ l → -2 ^ 63 ≤ k ∧ k < 2 ^ 63) (g3 : Nat) : ∀ (n i : Nat) (s : St), n + i = l.length → Inv s l g3 i → ∃ s1, loopF F S0 body s = some (.ext 0, s1) ∧ Inv s1 l g3 l.length := by
  intro n
  induction n with
  | zero =>
    intro i s hn I
    have hi : i = l.length := by omega
    subst hi
    refine ⟨_, loop_out (e := .ext 0) (s1 := ?_) ?_ (by simp), ?_⟩
    · exact { s with t := upd (upd (upd (upd s.t 28 (.int .i64 l.length)) 29 (aInts .i64 l)) 30 (.int .i64 l.length)) 31 (.bool false) }
    · rw [body_eq]
      refine ex_seq_out ?_ (by simp)
      simp [p1, p2, body, c3, exec, runI, stepA, stepG, step, wantA, ev, St.put, upd, I.t0, I.t7, aInts, abin]
    · exact ⟨by simp [upd, I.t0], by simp [upd, I.t3], by simp [upd, I.t4], by obtain ⟨op, a, b⟩ := I.t6; exact ⟨op, by simp [upd, a], b⟩, by simp [upd, I.t7], I.v3, I.ro⟩
  | succ n ih =>
    intro i s hn I
    have hi : i < l.length := by omega
    have hg := List.getElem?_eq_getElem hi
    obtain ⟨k1, k2⟩ := hr _ (List.getElem_mem hi)
    have I1 : Inv { s with t := upd (upd (upd (upd s.t 28 (.int .i64 i)) 29 (aInts .i64 l)) 30 (.int .i64 l.length)) 31 (.bool true) } l g3 i :=
      ⟨by simp [upd, I.t0], by simp [upd, I.t3], by simp [upd, I.t4], by obtain ⟨op, a, b⟩ := I.t6; exact ⟨op, by simp [upd, a], b⟩, by simp [upd, I.t7], I.v3, I.ro⟩
    obtain ⟨s1, e1, J⟩ := round I1 hg k1 k2
    have I2 : Inv { s1 with t := upd (upd (upd s1.t 32 (.int .i64 i)) 33 (.int .i64 (i + 1 : Nat))) 7 (.int .i64 (i + 1 : Nat)) } l g3 (i + 1) :=
      ⟨by simp [upd, J.t0], by simp [upd, J.t3], by simp [upd, J.t4], by obtain ⟨op, a, b⟩ := J.t6; exact ⟨op, by simp [upd, a], b⟩, by simp [upd], J.v3, J.ro⟩
    obtain ⟨s2, e2, K⟩ := ih (i + 1) _ (by omega) I2
    refine ⟨s2, loop_next ?_ e2, K⟩
    rw [body_eq]
    refine ex_seq (s1 := { s with t := upd (upd (upd (upd s.t 28 (.int .i64 i)) 29 (aInts .i64 l)) 30 (.int .i64 l.length)) 31 (.bool true) }) ?_ (ex_seq (ex_block e1) ?_)
    · simp [p1, p2, body, c3, exec, runI, stepA, stepG, step, wantA, ev, St.put, upd, I.t0, I.t7, aInts, abin, hi]
    · have hw : IntKind.i64.wrap ((i : Int) + 1) = ((i + 1 : Nat) : Int) := by rw [← wrapN (n := i + 1) (by omega)]; rfl
      simp [inc, p1, p2, body, c3, exec, runI, stepA, stepG, step, wantA, ev, St.put, upd, J.t7, abin, hw]

/-! ### Ahead of the loop, and behind it -/

def HA : List HB := (H (.map [] 0) (.map [] 0) (.map [] 0)).take 12
theorem awakeE : (lvl F S0 100).1 false 15 [] [] = some (.bool true, HA) := by kernel_rfl
theorem wideE : (lvl F S0 100).1 true 16 [] HA = some (.agg cfgL, HA) := by kernel_rfl
theorem sessE : (lvl F S0 100).1 false 17 [.agg cfgL] HA = some (.tup [.pt (.h 23) 0 0 0, .pt (.h 15) 0 0 0], H (.map [] 0) (.map [] 0) (.map [] 0)) := by kernel_rfl
theorem engE (m18 m20 m22) : (lvl F S0 100).1 true 25 [.pt (.h 23) 0 0 0] (H m18 m20 m22) = some (.pt (.h 19) 0 0 0, H m18 m20 m22) := by kernel_rfl
theorem stoE (m18 m20 m22) : (lvl F S0 100).1 true 26 [.pt (.h 19) 0 0 0] (H m18 m20 m22) = some (.pt (.h 17) 0 0 0, H m18 m20 m22) := by kernel_rfl
theorem lasE (m18 m20 m22) : (lvl F S0 100).1 true 27 [.pt (.h 17) 0 0 0] (H m18 m20 m22) = some (.int .u64 0, H m18 m20 m22) := by kernel_rfl

theorem SH_H {op : Bool} {h : List HB} (hS : SH op h) : ∃ m18 m20 m22, h = H m18 m20 m22 := by
  cases op with
  | false =>
    rcases hS with ⟨c1, c2, rfl⟩ | ⟨c1, c2, b, c, r, rfl⟩
    · exact ⟨_, _, _, rfl⟩
    · exact ⟨_, _, _, rfl⟩
  | true => obtain ⟨b1, c1, b2, c2, b, c, rfl⟩ := hS; exact ⟨_, _, _, rfl⟩

theorem F3 : F 3 = some c3 := rfl

theorem exec_assoc {C : Orc} {L : LoopO} (a b c : ACode) (s : St) : exec C L (.seq (.seq a b) c) s = exec C L (.seq a (.seq b c)) s := by
  simp only [exec]
  cases h : exec C L a s with
  | none => rfl
  | some r =>
    obtain ⟨e, s1⟩ := r
    cases e <;> rfl

theorem seq_congr {C : Orc} {L : LoopO} {a b b' : ACode} (h : ∀ s, exec C L b s = exec C L b' s) (s : St) : exec C L (.seq a b) s = exec C L (.seq a b') s := by
  simp only [exec, h]

def pre : ACode := .seq (p1 c3.code) (.seq (p1 (p2 c3.code)) (.seq (p1 (p2 (p2 c3.code))) (.seq (p1 (p2 (p2 (p2 c3.code)))) (.seq (p1 (p2 (p2 (p2 (p2 c3.code))))) (.seq (p1 (p2 (p2 (p2 (p2 (p2 c3.code))))))
  (p1 (p1 (p2 (p2 (p2 (p2 (p2 (p2 c3.code)))))))))))))
def tail : ACode := p2 (p2 (p2 (p2 (p2 (p2 (p2 c3.code))))))
theorem code_run {C : Orc} {L : LoopO} {s s1 s2 : St} {r : Ex × St} (h1 : exec C L pre s = some (.nor, s1)) (h2 : exec C L (.block 0 (.loop body)) s1 = some (.nor, s2)) (h3 : exec C L tail s2 = some r) : exec C L c3.code s = some r := by
  have h : exec C L (.seq pre (.seq (.block 0 (.loop body)) tail)) s = some r := ex_seq h1 (ex_seq h2 h3)
  rw [code_eq, ← h]
  unfold pre tail
  symm
  rw [exec_assoc]; refine seq_congr (fun s => ?_) s
  rw [exec_assoc]; refine seq_congr (fun s => ?_) s
  rw [exec_assoc]; refine seq_congr (fun s => ?_) s
  rw [exec_assoc]; refine seq_congr (fun s => ?_) s
  rw [exec_assoc]; refine seq_congr (fun s => ?_) s
  rw [exec_assoc]; refine seq_congr (fun s => ?_) s
  rw [exec_assoc]

theorem law (l : List Int) (hr : ∀ k, k ∈ l → -2 ^ 63 ≤ k ∧ k < 2 ^ 63) : ∃ h', callF F S0 false 3 [aInts .i64 l] [] = some (.bool true, h') := by
  have e15 := callF_of awakeE
  by_cases hl : (30 : Int) < (l.length : Int)
  · refine ⟨HA, call_run F3 ?_⟩
    simp [runF, c3, exec, runI, stepA, stepG, step, wantA, ev, evL, St.put, upd, start, aInts, abin, hl, callA, e15, scal, scal0, scal1, Ex.out, rvals, rval, res, res1, conv, conv1, clean1]
  · have hl' : l.length ≤ 30 := by omega
    have e16 := callF_of wideE
    have e17 := callF_of sessE
    simp only [cfgL] at e16 e17
    have h1 : ∃ s1, exec (callF F S0) (loopF F S0) pre (start [aInts .i64 l] [] false) = some (.nor, s1) ∧ Inv s1 l 1 0 := by
      simp [pre, p1, p2, c3, exec, runI, stepA, stepG, step, wantA, ev, evL, St.put, upd, start, aInts, abin, hl, callA, e15, e16, e17, scal, scal0, scal1, clean, clean0, clean1, conv, conv1, mapS, imp, imp1, impL, storeA, locW, isH, isV, St.getB, St.setB, cellsOf, notTup, putc, ldc, eqN]
      exact ⟨by simp [upd, aInts], by simp [upd], by simp [upd], ⟨false, by simp [upd], .inl ⟨0, 0, rfl⟩⟩, by simp [upd], by simp [upd, cfgL], rfl⟩
    obtain ⟨s1, g1, I⟩ := h1
    obtain ⟨s2, g2, K⟩ := loop_ok hl' hr 1 l.length 0 s1 (by omega) I
    obtain ⟨op, k6, kS⟩ := K.t6
    obtain ⟨m18, m20, m22, kh⟩ := SH_H kS
    have e25 := callF_of (engE m18 m20 m22)
    have e26 := callF_of (stoE m18 m20 m22)
    have e27 := callF_of (lasE m18 m20 m22)
    have h3 : ∃ s3, exec (callF F S0) (loopF F S0) tail s2 = some (.ret, s3) ∧ s3.t 2 = .bool true := by
      simp [tail, p1, p2, c3, exec, runI, stepA, stepG, step, wantA, ev, evL, St.put, upd, abin, K.t4, K.ro, kh, callA, e25, e26, e27, scal, scal0, scal1, clean, clean0, clean1]
    obtain ⟨s3, g3, k3⟩ := h3
    have hx := code_run g1 (ex_block_x (id := 0) g2) g3
    refine ⟨s3.h, call_run F3 ?_⟩
    have hlen : ([aInts IntKind.i64 l].length = c3.n) := rfl
    unfold runF
    rw [if_pos hlen, hx]
    simp [Ex.out, rvals, rval, c3, k3, res, res1, conv, conv1, clean1]
end Go.Proofs.Bb.Oo
