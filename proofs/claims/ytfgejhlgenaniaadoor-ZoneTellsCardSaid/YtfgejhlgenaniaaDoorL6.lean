/- ZoneTells: what is put is told, unless a cut hides it, and dropped it is told no longer; the zone stays one. -/
import Derived.Test.YtfgejhlgenaniaaDoorK6
import Derived.Test.YtfgejhlgenaniaaDoorTie
import Derived.Test.YtfgejhlgenaniaaDoorCards
import Derived.LaidMore
import Derived.Lay
import Derived.SevenTiedAt
import Derived.Stop.Joined
namespace Go.Proofs.YtfgejhlgenaniaaDoor
open Go.Eng
set_option linter.unusedSimpArgs false
set_option maxRecDepth 10000

theorem zoneTells_read (x0 x1 : List D) (h0 : shpG tys 6 24 x0) (h1 : shpG tys 6 39 x1) : Meets Tryd.prog 10 [argC Tryd.prog 24 x0, argC Tryd.prog 39 x1] (rOne (vB true)) := by
  obtain ⟨z, rfl⟩ := read_zone h0
  obtain ⟨r, rfl⟩ := read_rec h1
  rw [arg_zone, arg_rec]
  exact ztells_ok z.A z.R r
section
open Go.ChangeShapes Go.WideShapes Go.ChangeAt Go.RowKit
set_option maxRecDepth 100000 in
theorem zoneTells_lifted (os : Os) (started : os.Started) (H : Type) (enc : TypeId × Value → H) :
    ReturnsInHanded {} Tryd.checked os 10 .any (fun w args => (Rows.zoneTellsSpec.pre enc Tryd.prog Tryd.f10 Rows.zoneTellsRow.domain false w args ∧ laidMetH Tryd.prog Rows.zoneTellsRow.laid w) ∧ sizedMet enc Tryd.prog Tryd.f10 (OpenSpec.ofChange Rows.zoneTellsSpec) false w args)
      (Rows.zoneTellsSpec.post enc Tryd.prog Tryd.f10 false true false false) := by
  refine returnsInHanded_of_change_and (C := Tryd.checked) (X := fun w _ => laidMetH Tryd.prog Rows.zoneTellsRow.laid w) (fun _ _ _ hh h => h.of_heap hh) own started (by kernel_rfl) Tryd.func10
    (ChangeSpec.witness_shaped (enc := enc) (C := Tryd.checked) (os := os) (X := fun w _ => laidMetH Tryd.prog Rows.zoneTellsRow.laid w) false (World.laidAll Tryd.prog os Rows.zoneTellsRow.laid) #[.agg #[.string ByteArray.empty, .slice none 0 0], .agg #[.string ByteArray.empty, .int .i64 0, .string ByteArray.empty, .int .i64 0]] 8 (World.laidAll_os _ _ _)
      (World.shaped_of_ZipB (by kernel_rfl) (by kernel_rfl)) (by kernel_rfl) (by kernel_rfl) (by kernel_rfl)
      (by rw [MakeChecks.laidMetH_plain _ _ _ (by kernel_rfl)]; exact laidMet_laidAll _ (by kernel_rfl) (by kernel_rfl))) ?_
  intro W base args ds gs before hval hW hc _ _ ha
  exact row_ok (C := Tryd.checked) (fn := Tryd.f10) 6 4 laidOut (by kernel_rfl) rfl (by kernel_rfl) rfl (fun ds h => match ds, h with | [_, _], _ => rfl) (fun dss h => match dss, h with
    | [x0, x1], .cons h0 (.cons h1 .nil) => zoneTells_read x0 x1 (shp_table tysOk _ _ _ h0) (shp_table tysOk _ _ _ h1)) W base args ds gs before hval hW hc ha
theorem zoneTells_row : Rows.ZoneTellsSaid :=
  OpenClaim.holds_of_wide 10 Tryd.f10 rfl rfl rfl rfl rfl rfl rfl ⟨rfl, rfl, rfl, rfl, rfl⟩ rfl rfl rfl rfl rfl (by kernel_rfl) Tryd.func10 (by kernel_rfl)
    (of_decide_eq_true (by kernel_rfl)) (by unfold Func.isWrapper; rw [if_neg (of_decide_eq_false (by kernel_rfl))]; exact ⟨rfl, rfl⟩)
    (fun os started H enc _ => zoneTells_lifted os started H enc)
theorem zoneTells_holds : Rows.ZoneTellsCardSaid :=
  Claim7.holds_tied_plain_at .later [] [.data, .pinned] true (true, "f7e9c2d7efd9e7f59fb7a1b9058089352cb35e6da7b7d649023d6c096646bcaa") false zoneTells_row (fun _ h => by cases h) (by kernel_rfl) (fun _ h => by cases h) zoneTells_row_tie rfl ⟨rfl, rfl⟩ (by kernel_rfl) rfl
    (fun f fn hf hfn => by
      obtain rfl : f = 10 := Option.some.inj ((show Tryd.prog.funcNamed "greatseal/greatseallaw12.ZoneTells" = some 10 by kernel_rfl).symm.trans hf) |>.symm
      obtain rfl : fn = Tryd.f10 := (Option.some.inj (Tryd.func10.symm.trans hfn)).symm
      exact ⟨by kernel_rfl, fun j t ht => by
        rw [Tryd.params10] at ht
        have hm : t ∈ [24, 39] := by simpa using Array.mem_of_getElem? ht
        have hall : ([24, 39].all fun u => !Tryd.prog.wantsStandIn u) = true := by kernel_rfl
        exact (show Tryd.prog.wantsStandIn t = false by simpa using List.all_eq_true.1 hall t hm)⟩)
    (by kernel_rfl)
end
end Go.Proofs.YtfgejhlgenaniaaDoor
