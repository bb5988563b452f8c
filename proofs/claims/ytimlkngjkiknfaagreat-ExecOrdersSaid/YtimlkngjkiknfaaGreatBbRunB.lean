/- What a clean value is to a call. -/
import Derived.Test.YtimlkngjkiknfaaGreatBbRun
set_option linter.unusedSimpArgs false
set_option linter.unusedVariables false
namespace Go.Proofs.Bb
open Go

theorem conv1_id {x : AV} (h : clean1 x = true) (s : St) : conv1 0 x s = some (x, s) := by
  unfold conv1
  split
  · cases h
  · rw [if_neg (by decide)]
  · rw [if_pos h]
theorem mapS_id {f : AV → St → Option (AV × St)} : ∀ (xs : List AV) (s : St), (∀ x, x ∈ xs → f x s = some (x, s)) → mapS f xs s = some (xs, s) := by
  intro xs
  induction xs with
  | nil => intro s h; rfl
  | cons x xs ih => intro s h; simp only [mapS, h x (by simp), ih s (fun y hy => h y (by simp [hy]))]
theorem conv_id {x : AV} (h : clean0 x = true) (s : St) : conv 0 x s = some (x, s) := by
  cases x
  case agg cs =>
    simp only [conv, mapS_id cs s (fun x hx => conv1_id (List.all_eq_true.1 h x hx) s)]
  all_goals (simp only [conv]; exact conv1_id (by simpa [clean0] using h) s)
theorem args_id {xs : List AV} (h : xs.all clean0 = true) (s : St) : mapS (conv 0) xs s = some (xs, s) := mapS_id xs s (fun x hx => conv_id (List.all_eq_true.1 h x hx) s)


end Go.Proofs.Bb
