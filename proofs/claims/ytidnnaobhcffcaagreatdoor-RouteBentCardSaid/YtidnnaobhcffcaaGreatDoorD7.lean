/- RouteBent: who is redirected. -/
import Derived.Test.YtidnnaobhcffcaaGreatDoorRL
import Derived.Test.YtidnnaobhcffcaaGreatDoorTie
import Derived.Test.YtidnnaobhcffcaaGreatDoorCards
import Derived.LaidMore
import Derived.Lay
import Derived.SevenTiedAt
import Derived.Stop.Joined
namespace Go.Proofs.YtidnnaobhcffcaaGreatDoor
open Go.Eng
set_option linter.unusedSimpArgs false
set_option maxRecDepth 10000

theorem routeBent_read (x0 x1 x2 : List D) (h0 : shpG tys 10 26 x0) (h1 : shpG tys 10 3 x1) (h2 : shpG tys 10 3 x2) : Meets Tryz.prog 9 [argC Tryz.prog 26 x0, argC Tryz.prog 3 x1, argC Tryz.prog 3 x2] (rOne (vB true)) := by
  obtain ⟨n, rfl, hk, hw⟩ := read_net h0
  obtain ⟨a, rfl, _⟩ := read_int h1
  obtain ⟨b, rfl, _⟩ := read_int h2
  rw [arg_net, arg_int, arg_int]
  exact rbent13_ok n a b hk hw
section
open Go.ChangeShapes Go.WideShapes Go.ChangeAt Go.RowKit
set_option maxRecDepth 100000 in
theorem routeBent_lifted (os : Os) (started : os.Started) (H : Type) (enc : TypeId × Value → H) :
    ReturnsInHanded {} Tryz.checked os 9 .any (fun w args => (Rows.routeBentSpec.pre enc Tryz.prog Tryz.f9 Rows.routeBentRow.domain false w args ∧ laidMetH Tryz.prog Rows.routeBentRow.laid w) ∧ sizedMet enc Tryz.prog Tryz.f9 (OpenSpec.ofChange Rows.routeBentSpec) false w args)
      (Rows.routeBentSpec.post enc Tryz.prog Tryz.f9 false true false false) := by
  refine returnsInHanded_of_change_and (C := Tryz.checked) (X := fun w _ => laidMetH Tryz.prog Rows.routeBentRow.laid w) (fun _ _ _ hh h => h.of_heap hh) own started (by kernel_rfl) Tryz.func9
    (ChangeSpec.witness_shaped (enc := enc) (C := Tryz.checked) (os := os) (X := fun w _ => laidMetH Tryz.prog Rows.routeBentRow.laid w) false (World.laidAll Tryz.prog os Rows.routeBentRow.laid) #[.agg #[.slice none 0 0, .int .i64 0, .slice none 0 0, .slice none 0 0], .int .i64 0, .int .i64 0] 8 (World.laidAll_os _ _ _)
      (World.shaped_of_ZipB (by kernel_rfl) (by kernel_rfl)) (by kernel_rfl) (by kernel_rfl) (by kernel_rfl)
      (by rw [MakeChecks.laidMetH_plain _ _ _ (by kernel_rfl)]; exact laidMet_laidAll _ (by kernel_rfl) (by kernel_rfl))) ?_
  intro W base args ds gs before hval hW hc _ _ ha
  exact row_ok (C := Tryz.checked) (fn := Tryz.f9) 10 4 laidOut (by kernel_rfl) rfl (by kernel_rfl) rfl (fun ds h => match ds, h with | [_, _, _], _ => rfl) (fun dss h => match dss, h with
    | [x0, x1, x2], .cons h0 (.cons h1 (.cons h2 .nil)) => routeBent_read x0 x1 x2 (shp_table tysOk _ _ _ h0) (shp_table tysOk _ _ _ h1) (shp_table tysOk _ _ _ h2)) W base args ds gs before hval hW hc ha
theorem routeBent_row : Rows.RouteBentSaid :=
  OpenClaim.holds_of_wide 9 Tryz.f9 rfl rfl rfl rfl rfl rfl rfl ⟨rfl, rfl, rfl, rfl, rfl⟩ rfl rfl rfl rfl rfl (by kernel_rfl) Tryz.func9 (by kernel_rfl)
    (of_decide_eq_true (by kernel_rfl)) (by unfold Func.isWrapper; rw [if_neg (of_decide_eq_false (by kernel_rfl))]; exact ⟨rfl, rfl⟩)
    (fun os started H enc _ => routeBent_lifted os started H enc)
theorem routeBent_holds : Rows.RouteBentCardSaid :=
  Claim7.holds_tied_plain_at .later [] [.data, .pinned] true (true, "f5fd5b9b466ede9e656422598668a67c1c3f71662cc623c55b73799e56c894ca") false routeBent_row (fun _ h => by cases h) (by kernel_rfl) (fun _ h => by cases h) routeBent_row_tie rfl ⟨rfl, rfl⟩ (by kernel_rfl) rfl
    (fun f fn hf hfn => by
      obtain rfl : f = 9 := Option.some.inj ((show Tryz.prog.funcNamed "greatseal/greatseallaw13.RouteBent" = some 9 by kernel_rfl).symm.trans hf) |>.symm
      obtain rfl : fn = Tryz.f9 := (Option.some.inj (Tryz.func9.symm.trans hfn)).symm
      exact ⟨by kernel_rfl, fun j t ht => by
        rw [Tryz.params9] at ht
        have hm : t ∈ [26, 3, 3] := by simpa using Array.mem_of_getElem? ht
        have hall : ([26, 3, 3].all fun u => !Tryz.prog.wantsStandIn u) = true := by kernel_rfl
        exact (show Tryz.prog.wantsStandIn t = false by simpa using List.all_eq_true.1 hall t hm)⟩)
    (by kernel_rfl)
end
end Go.Proofs.YtidnnaobhcffcaaGreatDoor
