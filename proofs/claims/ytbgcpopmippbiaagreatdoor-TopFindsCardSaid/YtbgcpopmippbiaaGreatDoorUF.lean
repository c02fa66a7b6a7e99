/- TopFinds: what stands in a name's zone is found from each vantage point that is not redirected. -/
import Derived.Test.YtbgcpopmippbiaaGreatDoorUE
import Derived.Test.YtbgcpopmippbiaaGreatDoorTie
import Derived.Test.YtbgcpopmippbiaaGreatDoorCards
import Derived.LaidMore
import Derived.Lay
import Derived.SevenTiedAt
import Derived.Stop.Joined
namespace Go.Proofs.YtbgcpopmippbiaaGreatDoor
open Go.Eng
set_option linter.unusedSimpArgs false
set_option maxRecDepth 10000

theorem topFinds_read (x0 x1 x2 x3 x4 : List D) (h0 : shpG tys 10 9 x0) (h1 : shpG tys 10 9 x1) (h2 : shpG tys 10 22 x2) (h3 : shpG tys 10 3 x3) (h4 : shpG tys 10 3 x4) (k0 : strB Tryz.prog 9 x0) (k1 : strB Tryz.prog 9 x1) (k2 : strB Tryz.prog 22 x2) (k3 : strB Tryz.prog 3 x3) (k4 : strB Tryz.prog 3 x4) : Meets Tryz.prog 4 [argC Tryz.prog 9 x0, argC Tryz.prog 9 x1, argC Tryz.prog 22 x2, argC Tryz.prog 3 x3, argC Tryz.prog 3 x4] (rOne (vB true)) := by
  obtain ⟨nm, rfl⟩ := read_str h0
  obtain ⟨value, rfl, hv⟩ := read_strL h1
  obtain ⟨fakes, rfl⟩ := read_recsT h2
  obtain ⟨seen, rfl, _⟩ := read_int h3
  obtain ⟨bent, rfl, _⟩ := read_int h4
  rw [arg_str, arg_str, arg_recsT, arg_int, arg_int]
  exact topFinds_ok nm value fakes seen bent hv
section
open Go.ChangeShapes Go.WideShapes Go.ChangeAt Go.RowKit
set_option maxRecDepth 100000 in
theorem topFinds_lifted (os : Os) (started : os.Started) (H : Type) (enc : TypeId × Value → H) :
    ReturnsInHanded {} Tryz.checked os 4 .any (fun w args => (Rows.topFindsSpec.pre enc Tryz.prog Tryz.f4 Rows.topFindsRow.domain false w args ∧ laidMetH Tryz.prog Rows.topFindsRow.laid w) ∧ sizedMet enc Tryz.prog Tryz.f4 (OpenSpec.ofChange Rows.topFindsSpec) false w args)
      (Rows.topFindsSpec.post enc Tryz.prog Tryz.f4 false true false false) := by
  refine returnsInHanded_of_change_and (C := Tryz.checked) (X := fun w _ => laidMetH Tryz.prog Rows.topFindsRow.laid w) (fun _ _ _ hh h => h.of_heap hh) own started (by kernel_rfl) Tryz.func4
    (ChangeSpec.witness_shaped (enc := enc) (C := Tryz.checked) (os := os) (X := fun w _ => laidMetH Tryz.prog Rows.topFindsRow.laid w) false (kindsW os Rows.topFindsRow.laid) #[.string ByteArray.empty, .string ByteArray.empty, .slice none 0 0, .int .i64 0, .int .i64 0] 8 (kindsW_os _ _)
      (door_shaped os _) (by kernel_rfl) (by kernel_rfl) (by kernel_rfl)
      (by rw [show Rows.topFindsRow.laid = Rows.topFindsRow.laid from rfl]; exact door_met os _)) ?_
  intro W base args ds gs before hval hW hc hz hL _
  exact row_okL (C := Tryz.checked) (fn := Tryz.f4) 10 4 laidOut (by kernel_rfl) rfl (by kernel_rfl) rfl (fun ds h => match ds, h with | [_, _, _, _, _], _ => rfl) (fun dss h h' => match dss, h, h' with
    | [x0, x1, x2, x3, x4], .cons h0 (.cons h1 (.cons h2 (.cons h3 (.cons h4 .nil)))), .cons k0 (.cons k1 (.cons k2 (.cons k3 (.cons k4 .nil)))) => topFinds_read x0 x1 x2 x3 x4 (shp_table tysOk _ _ _ h0) (shp_table tysOk _ _ _ h1) (shp_table tysOk _ _ _ h2) (shp_table tysOk _ _ _ h3) (shp_table tysOk _ _ _ h4) k0 k1 k2 k3 k4) W base args ds gs before hval hW hc hz (door_lay (show laidMetH Tryz.prog Rows.topFindsRow.laid W from hL))
theorem andB {a b : Bool} (h : a = true) (h' : b = true) : (a && b) = true := by rw [h, h']; rfl
theorem topFinds_j0 : (Rows.topFindsRow.wf (OpenSpec.ofChange Rows.topFindsSpec)) = true := by kernel_rfl
theorem topFinds_j1 : (laidOutB Tryz.checked.prog) = true := by kernel_rfl
theorem topFinds_j2 : (mapsRowed Tryz.checked.prog) = true := by kernel_rfl
theorem topFinds_j3 : (Tryz.f4.params.all (Tryz.checked.prog.readableRec ·)) = true := by kernel_rfl
theorem topFinds_j4 : (namedTie Tryz.checked.prog Rows.topFindsRow.named Rows.topFindsSpec.vars) = true := by kernel_rfl
theorem topFinds_j5 : ((Rows.topFindsRow.stops == [])) = true := by kernel_rfl
theorem topFinds_j6 : ((Tryz.checked.prog.stops == [])) = true := by kernel_rfl
theorem topFinds_j7 : ((Rows.topFindsRow.knobs == [])) = true := by kernel_rfl
theorem topFinds_j8 : ((Tryz.checked.prog.stopKnobs == [])) = true := by kernel_rfl
theorem topFinds_j9 : ((Rows.topFindsRow.inPlace == Tryz.checked.prog.inPlace 4)) = true := by kernel_rfl
theorem topFinds_j10 : ((Rows.topFindsRow.unfollowed == Tryz.checked.prog.unfollowed 4)) = true := by kernel_rfl
theorem topFinds_j11 : ((Rows.topFindsRow.recurses == Tryz.checked.prog.recurses 4)) = true := by kernel_rfl
theorem topFinds_j12 : ((Rows.topFindsRow.named == Tryz.checked.prog.varsNamed 4)) = true := by kernel_rfl
theorem topFinds_j13 : ((Rows.topFindsRow.maps == (Tryz.f4.params.toList ++ Rows.topFindsSpec.plain.varTypes Tryz.checked.prog).any (Tryz.checked.prog.mapsRec ·))) = true := by kernel_rfl
theorem topFinds_j14 : ((Rows.topFindsRow.ifaces == (Tryz.f4.params.toList ++ Rows.topFindsSpec.plain.varTypes Tryz.checked.prog).any (Tryz.checked.prog.ifacesRec ·))) = true := by kernel_rfl
theorem topFinds_j15 : ((Rows.topFindsRow.mapsOut == Tryz.checked.prog.mapsAmong Tryz.f4.resultTypes.toList)) = true := by kernel_rfl
theorem topFinds_j16 : ((Rows.topFindsRow.loops == (Tryz.f4.params.toList ++ Rows.topFindsSpec.plain.varTypes Tryz.checked.prog).any (Tryz.checked.prog.loopsFrom ·))) = true := by kernel_rfl
theorem topFinds_j17 : ((Rows.topFindsRow.wideKeys == (Tryz.f4.params.toList ++ Rows.topFindsSpec.plain.varTypes Tryz.checked.prog ++ Tryz.f4.resultTypes.toList).any (Tryz.checked.prog.wideKeysFrom ·))) = true := by kernel_rfl
theorem topFinds_j18 : (Rows.topFindsSpec.vars.all (Tryz.checked.prog.varReadable ·)) = true := by kernel_rfl
theorem topFinds_j19 : (Tryz.f4.resultTypes.all (fun t => Tryz.checked.prog.readableRec t && decide (t < Tryz.checked.prog.types.size))) = true := by kernel_rfl
theorem topFinds_j20 : ((Rows.topFindsRow.ifacesOut == Tryz.f4.resultTypes.toList.any (Tryz.checked.prog.ifacesRec ·))) = true := by kernel_rfl
theorem topFinds_j21 : ((Rows.topFindsRow.loopsOut == Tryz.f4.resultTypes.toList.any (Tryz.checked.prog.loopsFrom ·))) = true := by kernel_rfl
theorem topFinds_j22 : ((Rows.topFindsRow.plainKeys == Tryz.checked.prog.plainKeys)) = true := by kernel_rfl
theorem topFinds_j23 : (Rows.topFindsRow.shortTexts.isNone) = true := by kernel_rfl
theorem topFinds_j24 : (Tryz.checked.prog.stopsHeard) = true := by kernel_rfl
theorem topFinds_j25 : (Tryz.checked.prog.mayEnter) = true := by kernel_rfl
theorem topFinds_j26 : ((Rows.topFindsRow.lifted == Tryz.checked.prog.liftsFinal)) = true := by kernel_rfl
theorem topFinds_j27 : ((Tryz.checked.prog.make == some Rows.topFindsRow.make)) = true := by kernel_rfl
theorem topFinds_j28 : ((Rows.topFindsRow.kinds == (if Rows.topFindsRow.domain.isEmpty then [] else Tryz.f4.params.toList.map fun t => match Tryz.checked.prog.underlying t with | some (.int k) => some k | _ => none))) = true := by kernel_rfl
theorem topFinds_j29 : ((Rows.topFindsRow.pinned == Rows.topFindsRow.pinnedBy)) = true := by kernel_rfl
theorem topFinds_j30 : ((Rows.topFindsRow.veiled == (Tryz.f4.params.toList ++ Rows.topFindsSpec.plain.varTypes Tryz.checked.prog ++ Tryz.f4.resultTypes.toList).any (Tryz.checked.prog.veiledRec ·))) = true := by kernel_rfl
theorem topFinds_j31 : (Rows.topFindsRow.veiledFits Tryz.checked.prog Tryz.f4.params.toList (Tryz.f4.params.toList ++ Rows.topFindsSpec.plain.varTypes Tryz.checked.prog ++ Tryz.f4.resultTypes.toList)) = true := by kernel_rfl
theorem topFinds_closed : joinedFacts Tryz.checked.prog 4 Tryz.f4 Rows.topFindsSpec Rows.topFindsRow = true := by
  unfold joinedFacts
  exact andB (andB (andB (andB (andB (andB (andB (andB (andB (andB (andB (andB (andB (andB (andB (andB (andB (andB (andB (andB (andB (andB (andB (andB (andB (andB (andB (andB (andB (andB (andB (topFinds_j0) topFinds_j1) topFinds_j2) topFinds_j3) topFinds_j4) topFinds_j5) topFinds_j6) topFinds_j7) topFinds_j8) topFinds_j9) topFinds_j10) topFinds_j11) topFinds_j12) topFinds_j13) topFinds_j14) topFinds_j15) topFinds_j16) topFinds_j17) topFinds_j18) topFinds_j19) topFinds_j20) topFinds_j21) topFinds_j22) topFinds_j23) topFinds_j24) topFinds_j25) topFinds_j26) topFinds_j27) topFinds_j28) topFinds_j29) topFinds_j30) topFinds_j31
theorem topFinds_named : Tryz.checked.prog.funcNamed Rows.topFindsRow.func = some 4 := by kernel_rfl
theorem topFinds_inst : Tryz.f4.isInstance Tryz.checked.prog Rows.topFindsRow.origin Rows.topFindsRow.targs := of_decide_eq_true (by kernel_rfl)
theorem topFinds_wrap : Tryz.f4.isWrapper Tryz.checked.prog Rows.topFindsRow.wrapper Rows.topFindsRow.mainSum := by unfold Func.isWrapper; rw [if_neg (of_decide_eq_false (by kernel_rfl))]; exact ⟨rfl, rfl⟩
theorem topFinds_row : Rows.TopFindsSaid :=
  OpenClaim.holds_of_wide 4 Tryz.f4 rfl rfl rfl rfl rfl rfl rfl ⟨rfl, rfl, rfl, rfl, rfl⟩ rfl rfl rfl rfl rfl topFinds_named Tryz.func4 topFinds_closed topFinds_inst topFinds_wrap
    (fun os started H enc _ => topFinds_lifted os started H enc)
theorem topFinds_holds : Rows.TopFindsCardSaid :=
  Claim7.holds_tied_plain_at .later [] [.data, .data, .data, .data, .sentinel, .sentinel, .funcsDeep, .pinned] true (true, "0e4dfb5bfdcc2535c937e972ddf4e82fe279008eee388371dca17def0d6f3d05") true topFinds_row (fun _ h => by cases h) (by kernel_rfl) (fun _ h => by cases h) topFinds_row_tie rfl ⟨rfl, rfl⟩ (by kernel_rfl) rfl
    (fun f fn hf hfn => by
      obtain rfl : f = 4 := Option.some.inj ((show Tryz.prog.funcNamed "greatseal/greatsealtop.TopFinds" = some 4 by kernel_rfl).symm.trans hf) |>.symm
      obtain rfl : fn = Tryz.f4 := (Option.some.inj (Tryz.func4.symm.trans hfn)).symm
      exact ⟨by kernel_rfl, fun j t ht => by
        rw [Tryz.params4] at ht
        have hm : t ∈ [9, 9, 22, 3, 3] := by simpa using Array.mem_of_getElem? ht
        have hall : ([9, 9, 22, 3, 3].all fun u => !Tryz.prog.wantsStandIn u) = true := by kernel_rfl
        exact (show Tryz.prog.wantsStandIn t = false by simpa using List.all_eq_true.1 hall t hm)⟩)
    (by kernel_rfl)
end
end Go.Proofs.YtbgcpopmippbiaaGreatDoor
