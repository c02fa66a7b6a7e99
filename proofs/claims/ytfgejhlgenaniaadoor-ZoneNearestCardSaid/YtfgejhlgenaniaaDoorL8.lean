/- ZoneNearest: the zone that knows most of a name is one of those that it is under, and none of the others that it is under lies below it. -/
import Derived.Test.YtfgejhlgenaniaaDoorK8
import Derived.Test.YtfgejhlgenaniaaDoorTie
import Derived.Test.YtfgejhlgenaniaaDoorCards
import Derived.LaidMore
import Derived.Lay
import Derived.SevenTiedAt
import Derived.Stop.Joined
namespace Go.Proofs.YtfgejhlgenaniaaDoor
open Go.Eng
set_option linter.unusedSimpArgs false
set_option maxRecDepth 10000

theorem zoneNearest_read (x0 x1 : List D) (h0 : shpG tys 6 34 x0) (h1 : shpG tys 6 9 x1) : Meets Tryd.prog 8 [argC Tryd.prog 34 x0, argC Tryd.prog 9 x1] (rOne (vB true)) := by
  obtain ⟨l, rfl⟩ := read_zones h0
  obtain ⟨n, rfl⟩ := read_str h1
  rw [arg_zones, arg_str]
  exact near_ok l n
section
open Go.ChangeShapes Go.WideShapes Go.ChangeAt Go.RowKit
set_option maxRecDepth 100000 in
theorem zoneNearest_lifted (os : Os) (started : os.Started) (H : Type) (enc : TypeId × Value → H) :
    ReturnsInHanded {} Tryd.checked os 8 .any (fun w args => (Rows.zoneNearestSpec.pre enc Tryd.prog Tryd.f8 Rows.zoneNearestRow.domain false w args ∧ laidMetH Tryd.prog Rows.zoneNearestRow.laid w) ∧ sizedMet enc Tryd.prog Tryd.f8 (OpenSpec.ofChange Rows.zoneNearestSpec) false w args)
      (Rows.zoneNearestSpec.post enc Tryd.prog Tryd.f8 false true false false) := by
  refine returnsInHanded_of_change_and (C := Tryd.checked) (X := fun w _ => laidMetH Tryd.prog Rows.zoneNearestRow.laid w) (fun _ _ _ hh h => h.of_heap hh) own started (by kernel_rfl) Tryd.func8
    (ChangeSpec.witness_shaped (enc := enc) (C := Tryd.checked) (os := os) (X := fun w _ => laidMetH Tryd.prog Rows.zoneNearestRow.laid w) false (World.laidAll Tryd.prog os Rows.zoneNearestRow.laid) #[.slice none 0 0, .string ByteArray.empty] 8 (World.laidAll_os _ _ _)
      (World.shaped_of_ZipB (by kernel_rfl) (by kernel_rfl)) (by kernel_rfl) (by kernel_rfl) (by kernel_rfl)
      (by rw [MakeChecks.laidMetH_plain _ _ _ (by kernel_rfl)]; exact laidMet_laidAll _ (by kernel_rfl) (by kernel_rfl))) ?_
  intro W base args ds gs before hval hW hc _ _ ha
  exact row_ok (C := Tryd.checked) (fn := Tryd.f8) 6 4 laidOut (by kernel_rfl) rfl (by kernel_rfl) rfl (fun ds h => match ds, h with | [_, _], _ => rfl) (fun dss h => match dss, h with
    | [x0, x1], .cons h0 (.cons h1 .nil) => zoneNearest_read x0 x1 (shp_table tysOk _ _ _ h0) (shp_table tysOk _ _ _ h1)) W base args ds gs before hval hW hc ha
theorem zoneNearest_row : Rows.ZoneNearestSaid :=
  OpenClaim.holds_of_wide 8 Tryd.f8 rfl rfl rfl rfl rfl rfl rfl ⟨rfl, rfl, rfl, rfl, rfl⟩ rfl rfl rfl rfl rfl (by kernel_rfl) Tryd.func8 (by kernel_rfl)
    (of_decide_eq_true (by kernel_rfl)) (by unfold Func.isWrapper; rw [if_neg (of_decide_eq_false (by kernel_rfl))]; exact ⟨rfl, rfl⟩)
    (fun os started H enc _ => zoneNearest_lifted os started H enc)
theorem zoneNearest_holds : Rows.ZoneNearestCardSaid :=
  Claim7.holds_tied_plain_at .later [] [.data, .pinned] true (true, "f7e9c2d7efd9e7f59fb7a1b9058089352cb35e6da7b7d649023d6c096646bcaa") false zoneNearest_row (fun _ h => by cases h) (by kernel_rfl) (fun _ h => by cases h) zoneNearest_row_tie rfl ⟨rfl, rfl⟩ (by kernel_rfl) rfl
    (fun f fn hf hfn => by
      obtain rfl : f = 8 := Option.some.inj ((show Tryd.prog.funcNamed "greatseal/greatseallaw12.ZoneNearest" = some 8 by kernel_rfl).symm.trans hf) |>.symm
      obtain rfl : fn = Tryd.f8 := (Option.some.inj (Tryd.func8.symm.trans hfn)).symm
      exact ⟨by kernel_rfl, fun j t ht => by
        rw [Tryd.params8] at ht
        have hm : t ∈ [34, 9] := by simpa using Array.mem_of_getElem? ht
        have hall : ([34, 9].all fun u => !Tryd.prog.wantsStandIn u) = true := by kernel_rfl
        exact (show Tryd.prog.wantsStandIn t = false by simpa using List.all_eq_true.1 hall t hm)⟩)
    (by kernel_rfl)
end
end Go.Proofs.YtfgejhlgenaniaaDoor
