/- Of any fence and time whether it may be, and what is left of it, is what the document says: the row 'NonceChecksSaid', for every input. -/
import Derived.Test.YtmkolmgpcmceaaaL1
namespace Go.Proofs.Ytmkolmgpcmceaaa
open Go.Eng
set_option linter.unusedSimpArgs false
set_option maxRecDepth 10000

theorem arg_fence (ds : List D) : argC Try.prog 24 ds = (true, ds.map .d) := by
  unfold argC; rw [show isStruct Try.prog 24 = true from by kernel_rfl]
theorem arg_int (ds : List D) : argC Try.prog 3 ds = (false, ds.map .d) := by
  unfold argC; rw [show isStruct Try.prog 3 = false from by kernel_rfl]

theorem read_int {ds : List D} (h : shpG tys 6 3 ds) : ∃ n : Int, ds = [dI n] ∧ -9223372036854775808 ≤ n ∧ n ≤ 9223372036854775807 := h

theorem read_fence {ds : List D} (h : shpG tys 6 24 ds) : ∃ (n : Int) (l : List No), ds = [dI n, nosD l] := by
  simp -dsimp -implicitDefEqProofs only [shpG, tileG, go_sem] at h
  obtain ⟨_, _, ⟨n, rfl, _⟩, rfl, _, _, ⟨rows, rfl, _, hr⟩, rfl, rfl⟩ := h
  obtain ⟨l, rfl, _⟩ := rows_map (cells := No.cells) (ok := fun _ => True) fun r hr' => by
    obtain ⟨_, _, ⟨a, rfl, _⟩, rfl, _, _, ⟨b, rfl, _⟩, rfl, rfl⟩ := hr r hr'
    exact ⟨⟨a, b⟩, rfl, trivial⟩
  exact ⟨n, l, rfl⟩

theorem nonceChecks_read (x0 x1 : List D) (h0 : shpG tys 6 24 x0) (h1 : shpG tys 6 3 x1) : Meets Try.prog 3 [argC Try.prog 24 x0, argC Try.prog 3 x1] (rOne (vB true)) := by
  obtain ⟨n, l, rfl⟩ := read_fence h0
  obtain ⟨now, rfl, _⟩ := read_int h1
  rw [arg_fence, arg_int]
  exact checks_ok n l now
section
open Go.ChangeShapes Go.WideShapes Go.ChangeAt Go.RowKit
set_option maxRecDepth 100000 in
theorem nonceChecks_lifted (os : Os) (started : os.Started) (H : Type) (enc : TypeId × Value → H) :
    ReturnsInHanded {} Try.checked os 3 .any (Rows.nonceChecksSpec.pre6 enc Try.prog Try.f3 Rows.nonceChecksRow.domain false) (Rows.nonceChecksSpec.post enc Try.prog Try.f3 false true false false) := by
  refine returnsInHanded_of_change (C := Try.checked) own started (by kernel_rfl) Try.func3
    (ChangeSpec.witness6 (enc := enc) (C := Try.checked) false ⟨#[], #[.agg #[.int .i64 0, .slice none 0 0], .int .i64 0], []⟩ 8 (by kernel_rfl) (by kernel_rfl) (by kernel_rfl) (by kernel_rfl)) ?_
  exact row_ok (C := Try.checked) 6 4 laidOut (by kernel_rfl) rfl (by kernel_rfl) rfl (fun ds h => match ds, h with | [_, _], _ => rfl) fun dss h => match dss, h with
    | [x0, x1], .cons h0 (.cons h1 .nil) => nonceChecks_read x0 x1 (shp_table tysOk _ _ _ h0) (shp_table tysOk _ _ _ h1)
theorem nonceChecks_holds : Rows.NonceChecksSaid :=
  OpenClaim.holds_of_wide 3 Try.f3 rfl rfl rfl rfl rfl rfl rfl ⟨rfl, rfl, rfl, rfl, rfl⟩ rfl rfl rfl rfl rfl (by kernel_rfl) Try.func3 (by kernel_rfl)
    (of_decide_eq_true (by kernel_rfl)) (by unfold Func.isWrapper; rw [if_neg (of_decide_eq_false (by kernel_rfl))]; exact ⟨rfl, rfl⟩)
    (fun os started H enc _ => nonceChecks_lifted os started H enc)
end
end Go.Proofs.Ytmkolmgpcmceaaa
