/- VantageAlike: who is not redirected votes as the straight view has it. -/
import Derived.Test.YtolpobgfcokoaaaGreatDoorVQ
import Derived.Test.YtolpobgfcokoaaaGreatDoorTie
import Derived.Test.YtolpobgfcokoaaaGreatDoorCards
import Derived.LaidMore
import Derived.Lay
import Derived.SevenTiedAt
import Derived.Stop.Joined
namespace Go.Proofs.YtolpobgfcokoaaaGreatDoor
open Go.Eng
set_option linter.unusedSimpArgs false
set_option maxRecDepth 10000

theorem vantageAlike_read (x0 x1 x2 x3 x4 : List D) (h0 : shpG tys 10 26 x0) (h1 : shpG tys 10 3 x1) (h2 : shpG tys 10 9 x2) (h3 : shpG tys 10 9 x3) (h4 : shpG tys 10 9 x4) : Meets Tryz.prog 11 [argC Tryz.prog 26 x0, argC Tryz.prog 3 x1, argC Tryz.prog 9 x2, argC Tryz.prog 9 x3, argC Tryz.prog 9 x4] (rOne (vB true)) := by
  obtain ⟨x0, rfl, k0, w0⟩ := read_net h0
  obtain ⟨x1, rfl, _⟩ := read_int h1
  obtain ⟨x2, rfl⟩ := read_str h2
  obtain ⟨x3, rfl⟩ := read_str h3
  obtain ⟨x4, rfl⟩ := read_str h4
  rw [arg_net, arg_int, arg_str, arg_str, arg_str]
  exact valike_ok x0 x1 x2 x3 x4 k0 w0
section
open Go.ChangeShapes Go.WideShapes Go.ChangeAt Go.RowKit
set_option maxRecDepth 100000 in
theorem vantageAlike_lifted (os : Os) (started : os.Started) (H : Type) (enc : TypeId × Value → H) :
    ReturnsInHanded {} Tryz.checked os 11 .any (fun w args => (Rows.vantageAlikeSpec.pre enc Tryz.prog Tryz.f11 Rows.vantageAlikeRow.domain false w args ∧ laidMetH Tryz.prog Rows.vantageAlikeRow.laid w) ∧ sizedMet enc Tryz.prog Tryz.f11 (OpenSpec.ofChange Rows.vantageAlikeSpec) false w args)
      (Rows.vantageAlikeSpec.post enc Tryz.prog Tryz.f11 false true false false) := by
  refine returnsInHanded_of_change_and (C := Tryz.checked) (X := fun w _ => laidMetH Tryz.prog Rows.vantageAlikeRow.laid w) (fun _ _ _ hh h => h.of_heap hh) own started (by kernel_rfl) Tryz.func11
    (ChangeSpec.witness_shaped (enc := enc) (C := Tryz.checked) (os := os) (X := fun w _ => laidMetH Tryz.prog Rows.vantageAlikeRow.laid w) false (World.laidAll Tryz.prog os Rows.vantageAlikeRow.laid) #[.agg #[.slice none 0 0, .int .i64 0, .slice none 0 0, .slice none 0 0], .int .i64 0, .string ByteArray.empty, .string ByteArray.empty, .string ByteArray.empty] 8 (World.laidAll_os _ _ _)
      (World.shaped_of_ZipB (by kernel_rfl) (by kernel_rfl)) (by kernel_rfl) (by kernel_rfl) (by kernel_rfl)
      (by rw [MakeChecks.laidMetH_plain _ _ _ (by kernel_rfl)]; exact laidMet_laidAll _ (by kernel_rfl) (by kernel_rfl))) ?_
  intro W base args ds gs before hval hW hc _ _ ha
  exact row_ok (C := Tryz.checked) (fn := Tryz.f11) 10 4 laidOut (by kernel_rfl) rfl (by kernel_rfl) rfl (fun ds h => match ds, h with | [_, _, _, _, _], _ => rfl) (fun dss h => match dss, h with
    | [x0, x1, x2, x3, x4], .cons h0 (.cons h1 (.cons h2 (.cons h3 (.cons h4 .nil)))) => vantageAlike_read x0 x1 x2 x3 x4 (shp_table tysOk _ _ _ h0) (shp_table tysOk _ _ _ h1) (shp_table tysOk _ _ _ h2) (shp_table tysOk _ _ _ h3) (shp_table tysOk _ _ _ h4)) W base args ds gs before hval hW hc ha
theorem vantageAlike_row : Rows.VantageAlikeSaid :=
  OpenClaim.holds_of_wide 11 Tryz.f11 rfl rfl rfl rfl rfl rfl rfl ⟨rfl, rfl, rfl, rfl, rfl⟩ rfl rfl rfl rfl rfl (by kernel_rfl) Tryz.func11 (by kernel_rfl)
    (of_decide_eq_true (by kernel_rfl)) (by unfold Func.isWrapper; rw [if_neg (of_decide_eq_false (by kernel_rfl))]; exact ⟨rfl, rfl⟩)
    (fun os started H enc _ => vantageAlike_lifted os started H enc)
theorem vantageAlike_holds : Rows.VantageAlikeCardSaid :=
  Claim7.holds_tied_plain_at .later [] [.data, .pinned] true (true, "31872b3da7f18569cc9c268a9c4dab670074c5febffd4b770c937a9d39879647") false vantageAlike_row (fun _ h => by cases h) (by kernel_rfl) (fun _ h => by cases h) vantageAlike_row_tie rfl ⟨rfl, rfl⟩ (by kernel_rfl) rfl
    (fun f fn hf hfn => by
      obtain rfl : f = 11 := Option.some.inj ((show Tryz.prog.funcNamed "greatseal/greatseallaw23.VantageAlike" = some 11 by kernel_rfl).symm.trans hf) |>.symm
      obtain rfl : fn = Tryz.f11 := (Option.some.inj (Tryz.func11.symm.trans hfn)).symm
      exact ⟨by kernel_rfl, fun j t ht => by
        rw [Tryz.params11] at ht
        have hm : t ∈ [26, 3, 9, 9, 9] := by simpa using Array.mem_of_getElem? ht
        have hall : ([26, 3, 9, 9, 9].all fun u => !Tryz.prog.wantsStandIn u) = true := by kernel_rfl
        exact (show Tryz.prog.wantsStandIn t = false by simpa using List.all_eq_true.1 hall t hm)⟩)
    (by kernel_rfl)
end
end Go.Proofs.YtolpobgfcokoaaaGreatDoor
