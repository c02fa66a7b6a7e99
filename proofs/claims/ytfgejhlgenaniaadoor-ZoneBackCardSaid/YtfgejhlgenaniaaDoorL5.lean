/- ZoneBack: what is dropped and put again makes the zone that it was; put again as it is it changes nothing. -/
import Derived.Test.YtfgejhlgenaniaaDoorK5
import Derived.Test.YtfgejhlgenaniaaDoorTie
import Derived.Test.YtfgejhlgenaniaaDoorCards
import Derived.LaidMore
import Derived.Lay
import Derived.SevenTiedAt
import Derived.Stop.Joined
namespace Go.Proofs.YtfgejhlgenaniaaDoor
open Go.Eng
set_option linter.unusedSimpArgs false
set_option maxRecDepth 10000

theorem zoneBack_read (x0 x1 : List D) (h0 : shpG tys 6 24 x0) (h1 : shpG tys 6 5 x1) : Meets Tryd.prog 11 [argC Tryd.prog 24 x0, argC Tryd.prog 5 x1] (rOne (vB true)) := by
  obtain ⟨z, rfl⟩ := read_zone h0
  obtain ⟨k, hk, rfl⟩ := read_u8 h1
  rw [arg_zone, arg_u8]
  exact zback_ok z.A z.R k hk
section
open Go.ChangeShapes Go.WideShapes Go.ChangeAt Go.RowKit
set_option maxRecDepth 100000 in
theorem zoneBack_lifted (os : Os) (started : os.Started) (H : Type) (enc : TypeId × Value → H) :
    ReturnsInHanded {} Tryd.checked os 11 .any (fun w args => (Rows.zoneBackSpec.pre enc Tryd.prog Tryd.f11 Rows.zoneBackRow.domain false w args ∧ laidMetH Tryd.prog Rows.zoneBackRow.laid w) ∧ sizedMet enc Tryd.prog Tryd.f11 (OpenSpec.ofChange Rows.zoneBackSpec) false w args)
      (Rows.zoneBackSpec.post enc Tryd.prog Tryd.f11 false true false false) := by
  refine returnsInHanded_of_change_and (C := Tryd.checked) (X := fun w _ => laidMetH Tryd.prog Rows.zoneBackRow.laid w) (fun _ _ _ hh h => h.of_heap hh) own started (by kernel_rfl) Tryd.func11
    (ChangeSpec.witness_shaped (enc := enc) (C := Tryd.checked) (os := os) (X := fun w _ => laidMetH Tryd.prog Rows.zoneBackRow.laid w) false (World.laidAll Tryd.prog os Rows.zoneBackRow.laid) #[.agg #[.string ByteArray.empty, .slice none 0 0], .int .u8 0] 8 (World.laidAll_os _ _ _)
      (World.shaped_of_ZipB (by kernel_rfl) (by kernel_rfl)) (by kernel_rfl) (by kernel_rfl) (by kernel_rfl)
      (by rw [MakeChecks.laidMetH_plain _ _ _ (by kernel_rfl)]; exact laidMet_laidAll _ (by kernel_rfl) (by kernel_rfl))) ?_
  intro W base args ds gs before hval hW hc _ _ ha
  exact row_ok (C := Tryd.checked) (fn := Tryd.f11) 6 4 laidOut (by kernel_rfl) rfl (by kernel_rfl) rfl (fun ds h => match ds, h with | [_, _], _ => rfl) (fun dss h => match dss, h with
    | [x0, x1], .cons h0 (.cons h1 .nil) => zoneBack_read x0 x1 (shp_table tysOk _ _ _ h0) (shp_table tysOk _ _ _ h1)) W base args ds gs before hval hW hc ha
theorem zoneBack_row : Rows.ZoneBackSaid :=
  OpenClaim.holds_of_wide 11 Tryd.f11 rfl rfl rfl rfl rfl rfl rfl ⟨rfl, rfl, rfl, rfl, rfl⟩ rfl rfl rfl rfl rfl (by kernel_rfl) Tryd.func11 (by kernel_rfl)
    (of_decide_eq_true (by kernel_rfl)) (by unfold Func.isWrapper; rw [if_neg (of_decide_eq_false (by kernel_rfl))]; exact ⟨rfl, rfl⟩)
    (fun os started H enc _ => zoneBack_lifted os started H enc)
theorem zoneBack_holds : Rows.ZoneBackCardSaid :=
  Claim7.holds_tied_plain_at .later [] [.data, .pinned] true (true, "f7e9c2d7efd9e7f59fb7a1b9058089352cb35e6da7b7d649023d6c096646bcaa") false zoneBack_row (fun _ h => by cases h) (by kernel_rfl) (fun _ h => by cases h) zoneBack_row_tie rfl ⟨rfl, rfl⟩ (by kernel_rfl) rfl
    (fun f fn hf hfn => by
      obtain rfl : f = 11 := Option.some.inj ((show Tryd.prog.funcNamed "greatseal/greatseallaw12.ZoneBack" = some 11 by kernel_rfl).symm.trans hf) |>.symm
      obtain rfl : fn = Tryd.f11 := (Option.some.inj (Tryd.func11.symm.trans hfn)).symm
      exact ⟨by kernel_rfl, fun j t ht => by
        rw [Tryd.params11] at ht
        have hm : t ∈ [24, 5] := by simpa using Array.mem_of_getElem? ht
        have hall : ([24, 5].all fun u => !Tryd.prog.wantsStandIn u) = true := by kernel_rfl
        exact (show Tryd.prog.wantsStandIn t = false by simpa using List.all_eq_true.1 hall t hm)⟩)
    (by kernel_rfl)
end
end Go.Proofs.YtfgejhlgenaniaaDoor
