/- What is handed in, as data; the statements' arguments. -/
import Derived.Test.YtmkolmgpcmceaaaN5
namespace Go.Proofs.Ytmkolmgpcmceaaa
open Go.Eng
set_option linter.unusedSimpArgs false
set_option maxRecDepth 10000

theorem arg_fence (ds : List D) : argC Try.prog 24 ds = (true, ds.map .d) := by
  unfold argC; rw [show isStruct Try.prog 24 = true from by kernel_rfl]
theorem arg_int (ds : List D) : argC Try.prog 3 ds = (false, ds.map .d) := by
  unfold argC; rw [show isStruct Try.prog 3 = false from by kernel_rfl]

theorem read_int {ds : List D} (h : shpG tys 6 3 ds) : ∃ n : Int, ds = [dI n] ∧ -9223372036854775808 ≤ n ∧ n ≤ 9223372036854775807 := h

theorem read_fence {ds : List D} (h : shpG tys 6 24 ds) : ∃ (n : Int) (l : List No), ds = [dI n, nosD l] := by
  simp -dsimp -implicitDefEqProofs only [shpG, tileG, go_sem] at h
  obtain ⟨_, _, ⟨n, rfl, _⟩, rfl, _, _, ⟨rows, rfl, _, hr⟩, rfl, rfl⟩ := h
  obtain ⟨l, rfl, _⟩ := rows_map (cells := No.cells) (ok := fun _ => True) fun r hr' => by
    obtain ⟨_, _, ⟨a, rfl, _⟩, rfl, _, _, ⟨b, rfl, _⟩, rfl, rfl⟩ := hr r hr'
    exact ⟨⟨a, b⟩, rfl, trivial⟩
  exact ⟨n, l, rfl⟩

theorem filter_len (p : No → Bool) (l : List No) : (l.filter p).length ≤ l.length := List.length_filter_le ..
end Go.Proofs.Ytmkolmgpcmceaaa
