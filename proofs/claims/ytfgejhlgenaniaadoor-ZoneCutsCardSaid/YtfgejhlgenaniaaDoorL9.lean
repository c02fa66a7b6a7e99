/- ZoneCuts: a name that is under a cut is a cut's, whatever is asked for; no name is, if there is none above it. -/
import Derived.Test.YtfgejhlgenaniaaDoorK9
import Derived.Test.YtfgejhlgenaniaaDoorTie
import Derived.Test.YtfgejhlgenaniaaDoorCards
import Derived.LaidMore
import Derived.Lay
import Derived.SevenTiedAt
import Derived.Stop.Joined
namespace Go.Proofs.YtfgejhlgenaniaaDoor
open Go.Eng
set_option linter.unusedSimpArgs false
set_option maxRecDepth 10000

theorem zoneCuts_read (x0 x1 x2 : List D) (h0 : shpG tys 6 24 x0) (h1 : shpG tys 6 9 x1) (h2 : shpG tys 6 3 x2) : Meets Tryd.prog 6 [argC Tryd.prog 24 x0, argC Tryd.prog 9 x1, argC Tryd.prog 3 x2] (rOne (vB true)) := by
  obtain ⟨z, rfl⟩ := read_zone h0
  obtain ⟨n, rfl⟩ := read_str h1
  obtain ⟨k, rfl, hk1, hk2⟩ := read_int h2
  rw [arg_zone, arg_str, arg_int]
  exact zcuts_ok z.A z.R n k
section
open Go.ChangeShapes Go.WideShapes Go.ChangeAt Go.RowKit
set_option maxRecDepth 100000 in
theorem zoneCuts_lifted (os : Os) (started : os.Started) (H : Type) (enc : TypeId × Value → H) :
    ReturnsInHanded {} Tryd.checked os 6 .any (fun w args => (Rows.zoneCutsSpec.pre enc Tryd.prog Tryd.f6 Rows.zoneCutsRow.domain false w args ∧ laidMetH Tryd.prog Rows.zoneCutsRow.laid w) ∧ sizedMet enc Tryd.prog Tryd.f6 (OpenSpec.ofChange Rows.zoneCutsSpec) false w args)
      (Rows.zoneCutsSpec.post enc Tryd.prog Tryd.f6 false true false false) := by
  refine returnsInHanded_of_change_and (C := Tryd.checked) (X := fun w _ => laidMetH Tryd.prog Rows.zoneCutsRow.laid w) (fun _ _ _ hh h => h.of_heap hh) own started (by kernel_rfl) Tryd.func6
    (ChangeSpec.witness_shaped (enc := enc) (C := Tryd.checked) (os := os) (X := fun w _ => laidMetH Tryd.prog Rows.zoneCutsRow.laid w) false (World.laidAll Tryd.prog os Rows.zoneCutsRow.laid) #[.agg #[.string ByteArray.empty, .slice none 0 0], .string ByteArray.empty, .int .i64 0] 8 (World.laidAll_os _ _ _)
      (World.shaped_of_ZipB (by kernel_rfl) (by kernel_rfl)) (by kernel_rfl) (by kernel_rfl) (by kernel_rfl)
      (by rw [MakeChecks.laidMetH_plain _ _ _ (by kernel_rfl)]; exact laidMet_laidAll _ (by kernel_rfl) (by kernel_rfl))) ?_
  intro W base args ds gs before hval hW hc _ _ ha
  exact row_ok (C := Tryd.checked) (fn := Tryd.f6) 6 4 laidOut (by kernel_rfl) rfl (by kernel_rfl) rfl (fun ds h => match ds, h with | [_, _, _], _ => rfl) (fun dss h => match dss, h with
    | [x0, x1, x2], .cons h0 (.cons h1 (.cons h2 .nil)) => zoneCuts_read x0 x1 x2 (shp_table tysOk _ _ _ h0) (shp_table tysOk _ _ _ h1) (shp_table tysOk _ _ _ h2)) W base args ds gs before hval hW hc ha
theorem zoneCuts_row : Rows.ZoneCutsSaid :=
  OpenClaim.holds_of_wide 6 Tryd.f6 rfl rfl rfl rfl rfl rfl rfl ⟨rfl, rfl, rfl, rfl, rfl⟩ rfl rfl rfl rfl rfl (by kernel_rfl) Tryd.func6 (by kernel_rfl)
    (of_decide_eq_true (by kernel_rfl)) (by unfold Func.isWrapper; rw [if_neg (of_decide_eq_false (by kernel_rfl))]; exact ⟨rfl, rfl⟩)
    (fun os started H enc _ => zoneCuts_lifted os started H enc)
theorem zoneCuts_holds : Rows.ZoneCutsCardSaid :=
  Claim7.holds_tied_plain_at .later [] [.data, .pinned] true (true, "f7e9c2d7efd9e7f59fb7a1b9058089352cb35e6da7b7d649023d6c096646bcaa") false zoneCuts_row (fun _ h => by cases h) (by kernel_rfl) (fun _ h => by cases h) zoneCuts_row_tie rfl ⟨rfl, rfl⟩ (by kernel_rfl) rfl
    (fun f fn hf hfn => by
      obtain rfl : f = 6 := Option.some.inj ((show Tryd.prog.funcNamed "greatseal/greatseallaw12.ZoneCuts" = some 6 by kernel_rfl).symm.trans hf) |>.symm
      obtain rfl : fn = Tryd.f6 := (Option.some.inj (Tryd.func6.symm.trans hfn)).symm
      exact ⟨by kernel_rfl, fun j t ht => by
        rw [Tryd.params6] at ht
        have hm : t ∈ [24, 9, 3] := by simpa using Array.mem_of_getElem? ht
        have hall : ([24, 9, 3].all fun u => !Tryd.prog.wantsStandIn u) = true := by kernel_rfl
        exact (show Tryd.prog.wantsStandIn t = false by simpa using List.all_eq_true.1 hall t hm)⟩)
    (by kernel_rfl)
end
end Go.Proofs.YtfgejhlgenaniaaDoor
