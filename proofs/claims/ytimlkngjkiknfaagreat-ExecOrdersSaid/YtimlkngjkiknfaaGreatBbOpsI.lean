/- append. -/
import Derived.Test.YtimlkngjkiknfaaGreatBbOpsH
import Derived.Laws.BitsLemmas
set_option linter.unusedSimpArgs false
set_option linter.unusedVariables false
namespace Go.Proofs.Bb
open Go

section
variable {P : Program} {s : St} {cx : Cx} {w : World} {a : Act} {o : Oper} {Q : Exit → Act → World → Prop} {C : Orc} {ro : Bool} {d : Nat} {v : AV} {s1 : St}

/-- What append's second argument comes to. -/
def AppSrc (P : Program) (w : World) (u : TypeId) (inf : TypeInfo) (zv x : Value) (n : Nat) (us : List Value) : Prop :=
  (((∃ e, P.underlying u = some (.slice e)) ∨ P.underlying u = some .string) ∧ (∀ w2, (Builtin.lenOf x).run P w2 = .ok n w2) ∧ (∀ w2 : World, w2.heap = w.heap → (Builtin.firstCells inf.size n x).run P w2 = .ok us.toArray w2)) ∨
    ((∃ k, P.underlying u = some (.int k)) ∧ x = .int .i64 n ∧ n ≤ bigLen ∧ us = (Builtin.zeroCells zv.cells n).toList ∧ (n * inf.size = 0 → us = []))

theorem wrap_len {n : Nat} (h : n ≤ bigLen) : IntKind.i64.wrap (n : Int) = n := by
  have hb : bigLen = 4294967296 := rfl
  rw [IntKind.wrap_i64]; omega

set_option maxHeartbeats 1000000 in
theorem append_in {t u ty e : TypeId} {inf : TypeInfo} {zv x : Value} {base : Option Addr} {sLen sCap n : Nat} {us : List Value} {w' : World} (hu : P.underlying t = some (.slice e)) (hi : P.info? e = some inf) (hz : inf.zero = some zv)
    (hb : inf.bytes ≤ 32768) (S : AppSrc P w u inf zv x n us) (hle : sLen + n ≤ sCap) (hst : (match base with | some q => (storeCells (q.add (sLen * inf.size)) us).run P w | none => .ok () w) = .ok () w') :
    (Builtin.append_ #[t, u] ty #[.slice base sLen sCap, x]).run P w = .ok (.slice base (sLen + n) sCap) w' := by
  have hbig : bigLen = 4294967296 := rfl
  rcases S with ⟨⟨e', h1⟩ | h1, h3, h4⟩ | ⟨⟨k, h1⟩, h2, h3, h4, h5⟩
  · have h4' := h4 w rfl
    cases base with
    | none =>
      cases hst
      simp [Builtin.append_, run_underlying hu, run_underlying h1, sizeOf, typeInfo, zeroValue, hi, hz, h3, h4', hle]
    | some q =>
      have hst : (storeCells (q.add (sLen * inf.size)) us).run P w = .ok () w' := hst
      simp [Builtin.append_, run_underlying hu, run_underlying h1, sizeOf, typeInfo, zeroValue, hi, hz, h3, h4', hle, hst]
  · have h4' := h4 w rfl
    cases base with
    | none =>
      cases hst
      simp [Builtin.append_, run_underlying hu, run_underlying h1, sizeOf, typeInfo, zeroValue, hi, hz, h3, h4', hle]
    | some q =>
      have hst : (storeCells (q.add (sLen * inf.size)) us).run P w = .ok () w' := hst
      simp [Builtin.append_, run_underlying hu, run_underlying h1, sizeOf, typeInfo, zeroValue, hi, hz, h3, h4', hle, hst]
  · subst h2
    have hw := wrap_len h3
    have hn : ¬ ((n : Int) < 0) := by omega
    have hm : n * inf.bytes ≤ 4294967296 * 32768 := Nat.mul_le_mul (by omega) hb
    have h48 : ¬ (281474976710656 < (n : Int) * (inf.bytes : Int)) := by
      rw [← Int.natCast_mul]; omega
    cases base with
    | none =>
      cases hst
      by_cases h0 : n * inf.size = 0
      · simp [Builtin.append_, run_underlying hu, run_underlying h1, sizeOf, typeInfo, hi, asInt, asIntOf, hw, hn, h48, hle, h0]
      · simp [Builtin.append_, run_underlying hu, run_underlying h1, sizeOf, typeInfo, hi, hz, zeroValue, asInt, asIntOf, hw, hn, h48, hle, h0]
    | some q =>
      have hst : (storeCells (q.add (sLen * inf.size)) us).run P w = .ok () w' := hst
      by_cases h0 : n * inf.size = 0
      · rw [h5 h0] at hst
        simp [Builtin.append_, run_underlying hu, run_underlying h1, sizeOf, typeInfo, hi, asInt, asIntOf, hw, hn, h48, hle, h0, hst]
      · rw [h4] at hst
        simp [Builtin.append_, run_underlying hu, run_underlying h1, sizeOf, typeInfo, hi, hz, zeroValue, asInt, asIntOf, hw, hn, h48, hle, h0, hst]

set_option maxHeartbeats 1000000 in
theorem append_new {t u ty e : TypeId} {inf : TypeInfo} {zv x : Value} {base : Option Addr} {sLen sCap n : Nat} {us os : List Value} (hu : P.underlying t = some (.slice e)) (hi : P.info? e = some inf) (hz : inf.zero = some zv)
    (hb : inf.bytes ≤ 32768) (S : AppSrc P w u inf zv x n us) (hg : sCap < sLen + n) (hneed : sLen + n ≤ bigLen)
    (hold : ∀ w2 : World, w2.heap = w.heap → (Builtin.firstCells inf.size sLen (.slice base sLen sCap)).run P w2 = .ok os.toArray w2) :
    (Builtin.append_ #[t, u] ty #[.slice base sLen sCap, x]).run P w = .ok (.slice (some ⟨w.heap.size, 0, none⟩) (sLen + n) (grownCap w (sLen + n) sCap e))
      (w.drew.alloc (.cells (os.toArray ++ (us.toArray ++ Builtin.zeroCells zv.cells (grownCap w (sLen + n) sCap e - (sLen + n)))) e)) := by
  have hbig : bigLen = 4294967296 := rfl
  have hn : ¬ (sLen + n ≤ sCap) := by omega
  have h63' : ¬ (9223372036854775807 < ((sLen : Int) + (n : Int))) := by omega
  have h48' : ¬ (281474976710656 < Builtin.nextslicecap (sLen + n) sCap * inf.bytes) := by
    have := growslice_fits (bytes := inf.bytes) hg (by have : (sLen + n) * inf.bytes ≤ 4294967296 * 32768 := Nat.mul_le_mul (by omega) hb; omega)
    omega
  have hfo := hold w.drew rfl
  rcases S with ⟨⟨e', h1⟩ | h1, h3, h4⟩ | ⟨⟨k, h1⟩, h2, h3, h4, h5⟩
  · have hf := h4 w.drew rfl
    simp [Builtin.append_, run_underlying hu, run_underlying h1, sizeOf, typeInfo, zeroValue, hi, hz, h3, hn, h63', h48', Question.forced, hf, hfo, newRow, grownCap]
  · have hf := h4 w.drew rfl
    simp [Builtin.append_, run_underlying hu, run_underlying h1, sizeOf, typeInfo, zeroValue, hi, hz, h3, hn, h63', h48', Question.forced, hf, hfo, newRow, grownCap]
  · subst h2
    have hw := wrap_len h3
    have hn0 : ¬ ((n : Int) < 0) := by omega
    have hm : n * inf.bytes ≤ 4294967296 * 32768 := Nat.mul_le_mul (by omega) hb
    have h48 : ¬ (281474976710656 < (n : Int) * (inf.bytes : Int)) := by
      rw [← Int.natCast_mul]; omega
    by_cases h0 : n * inf.size = 0
    · rw [h5 h0]
      simp [Builtin.append_, run_underlying hu, run_underlying h1, sizeOf, typeInfo, hi, hz, zeroValue, asInt, asIntOf, hw, hn0, h48, hn, h63', h48', Question.forced, hfo, newRow, grownCap, h0]
    · rw [h4]
      simp [Builtin.append_, run_underlying hu, run_underlying h1, sizeOf, typeInfo, hi, hz, zeroValue, asInt, asIntOf, hw, hn0, h48, hn, h63', h48', Question.forced, hfo, newRow, grownCap, h0]

end
end Go.Proofs.Bb
