/- BudgetWhole: several rules are spent, or none. -/
import Derived.Test.YtfidbkmogileiaaBD
namespace Go.Proofs.Ytfidbkmogileiaa
open Go.Eng
set_option linter.unusedSimpArgs false
set_option maxRecDepth 10000

theorem budgetWhole_read (x0 x1 x2 x3 x4 : List D) (h0 : shpG tys 6 22 x0) (h1 : shpG tys 6 41 x1) (h2 : shpG tys 6 42 x2) (h3 : shpG tys 6 3 x3) (h4 : shpG tys 6 3 x4) : Meets Try.prog 10 [argC Try.prog 22 x0, argC Try.prog 41 x1, argC Try.prog 42 x2, argC Try.prog 3 x3, argC Try.prog 3 x4] (rOne (vB true)) := by
  obtain ⟨l, rfl⟩ := read_spents h0
  obtain ⟨rs, rfl⟩ := read_rules h1
  obtain ⟨l2, rfl⟩ := read_ints h2
  obtain ⟨a, rfl, _⟩ := read_int h3
  obtain ⟨now, rfl, _⟩ := read_int h4
  rw [arg_spents, arg_rules, arg_ints, arg_int, arg_int]
  exact whole_ok l rs l2 a now
section
open Go.ChangeShapes Go.WideShapes Go.ChangeAt Go.RowKit
set_option maxRecDepth 100000 in
theorem budgetWhole_lifted (os : Os) (started : os.Started) (H : Type) (enc : TypeId × Value → H) :
    ReturnsInHanded {} Try.checked os 10 .any (Rows.budgetWholeSpec.pre6 enc Try.prog Try.f10 Rows.budgetWholeRow.domain false) (Rows.budgetWholeSpec.post enc Try.prog Try.f10 false true false false) := by
  refine returnsInHanded_of_change (C := Try.checked) own started (by kernel_rfl) Try.func10
    (ChangeSpec.witness6 (enc := enc) (C := Try.checked) false ⟨#[], #[.slice none 0 0, .slice none 0 0, .slice none 0 0, .int .i64 0, .int .i64 0], []⟩ 8 (by kernel_rfl) (by kernel_rfl) (by kernel_rfl) (by kernel_rfl)) ?_
  exact row_ok (C := Try.checked) 6 4 laidOut (by kernel_rfl) rfl (by kernel_rfl) rfl (fun ds h => match ds, h with | [_, _, _, _, _], _ => rfl) fun dss h => match dss, h with
    | [x0, x1, x2, x3, x4], .cons h0 (.cons h1 (.cons h2 (.cons h3 (.cons h4 .nil)))) => budgetWhole_read x0 x1 x2 x3 x4 (shp_table tysOk _ _ _ h0) (shp_table tysOk _ _ _ h1) (shp_table tysOk _ _ _ h2) (shp_table tysOk _ _ _ h3) (shp_table tysOk _ _ _ h4)
theorem budgetWhole_holds : Rows.BudgetWholeSaid :=
  OpenClaim.holds_of_wide 10 Try.f10 rfl rfl rfl rfl rfl rfl rfl ⟨rfl, rfl, rfl, rfl, rfl⟩ rfl rfl rfl rfl rfl (by kernel_rfl) Try.func10 (by kernel_rfl)
    (of_decide_eq_true (by kernel_rfl)) (by unfold Func.isWrapper; rw [if_neg (of_decide_eq_false (by kernel_rfl))]; exact ⟨rfl, rfl⟩)
    (fun os started H enc _ => budgetWhole_lifted os started H enc)
end
end Go.Proofs.Ytfidbkmogileiaa
