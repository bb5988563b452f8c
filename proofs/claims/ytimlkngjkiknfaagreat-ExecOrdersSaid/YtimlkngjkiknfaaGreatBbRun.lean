/- Running code piece by piece. -/
import Derived.Test.YtimlkngjkiknfaaGreatBbLim
set_option linter.unusedSimpArgs false
set_option linter.unusedVariables false
namespace Go.Proofs.Bb
open Go

section
variable {C : Orc} {L : LoopO} {a b : ACode} {s s1 : St} {e : Ex}
theorem ex_seq {r : Ex × St} (h1 : exec C L a s = some (.nor, s1)) (h2 : exec C L b s1 = some r) : exec C L (.seq a b) s = some r := by
  simp only [exec, h1]; exact h2
theorem ex_seq_out (h1 : exec C L a s = some (e, s1)) (he : e ≠ .nor) : exec C L (.seq a b) s = some (e, s1) := by
  simp only [exec, h1]
  cases e with
  | nor => exact absurd rfl he
  | ext i => rfl
  | ret => rfl
theorem ex_block {id : Nat} (h : exec C L a s = some (.nor, s1)) : exec C L (.block id a) s = some (.nor, s1) := by
  simp only [exec, h]
theorem ex_block_x {id : Nat} (h : exec C L a s = some (.ext id, s1)) : exec C L (.block id a) s = some (.nor, s1) := by
  simp only [exec, h, if_true]
theorem ex_block_ret {id : Nat} (h : exec C L a s = some (.ret, s1)) : exec C L (.block id a) s = some (.ret, s1) := by
  simp only [exec, h]
theorem ex_cond_t {x : X} {r : Ex × St} (h : ev s.t x = .bool true) (h2 : exec C L a s = some r) : exec C L (.cond x a b) s = some r := by
  simp only [exec, h, if_true]; exact h2
theorem ex_cond_f {x : X} {r : Ex × St} (h : ev s.t x = .bool false) (h2 : exec C L b s = some r) : exec C L (.cond x a b) s = some r := by
  simp only [exec, h, Bool.false_eq_true, if_false]; exact h2
theorem ex_loop {r : Ex × St} (h : L a s = some r) : exec C L (.loop a) s = some r := h
end

theorem upd_same {α : Type} (f : Nat → α) (k : Nat) : upd f k (f k) = f := by
  funext i
  unfold upd
  split
  · rename_i h; rw [h]
  · rfl

/-- The parts of code. -/
def p1 : ACode → ACode
  | .seq a _ => a
  | .block _ c => c
  | .loop c => c
  | .cond _ a _ => a
  | c => c
def p2 : ACode → ACode
  | .seq _ b => b
  | .cond _ _ b => b
  | c => c

section
variable {F : FuncId → Option AFn} {S : Orc} {n : Nat} {c : ACode} {s : St} {r : Ex × St}
theorem lvl_lim : LeC (lvl F S n).1 (callF F S) ∧ LeL (lvl F S n).2 (loopF F S) := ⟨fun _ _ _ _ _ h => callF_of h, fun _ _ _ h => loopF_of h⟩
theorem exec_of (h : exec (lvl F S n).1 (lvl F S n).2 c s = some r) : exec (callF F S) (loopF F S) c s = some r := exec_mono lvl_lim.1 lvl_lim.2 _ _ _ h
end
end Go.Proofs.Bb
