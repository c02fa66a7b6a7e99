/- TopPath: a chain is right if and only if the pattern allows the name and the leaf is between its dates; what is built is so. -/
import Derived.Test.YtijfncaphfaijaaGreatDoorQH
import Derived.Test.YtijfncaphfaijaaGreatDoorTie
import Derived.Test.YtijfncaphfaijaaGreatDoorCards
import Derived.LaidMore
import Derived.Lay
import Derived.SevenTiedAt
import Derived.Stop.Joined
namespace Go.Proofs.YtijfncaphfaijaaGreatDoor
open Go.Eng
set_option linter.unusedSimpArgs false
set_option maxRecDepth 10000

theorem topPath_read (x0 x1 x2 x3 : List D) (h0 : shpG tys 10 22 x0) (h1 : shpG tys 10 9 x1) (h2 : shpG tys 10 9 x2) (h3 : shpG tys 10 3 x3) (k0 : strB Tryz.prog 22 x0) (k1 : strB Tryz.prog 9 x1) (k2 : strB Tryz.prog 9 x2) (k3 : strB Tryz.prog 3 x3) : Meets Tryz.prog 4 [argC Tryz.prog 22 x0, argC Tryz.prog 9 x1, argC Tryz.prog 9 x2, argC Tryz.prog 3 x3] (rOne (vB true)) := by
  obtain ⟨seed, rfl⟩ := read_byT h0
  obtain ⟨name, rfl⟩ := read_strT h1
  obtain ⟨pat, rfl⟩ := read_strT h2
  obtain ⟨now, rfl⟩ := read_intT h3
  rw [arg_byT, arg_strT, arg_strT, arg_intT]
  exact topPath_ok seed name pat now
section
open Go.ChangeShapes Go.WideShapes Go.ChangeAt Go.RowKit
set_option maxRecDepth 100000 in
theorem topPath_lifted (os : Os) (started : os.Started) (H : Type) (enc : TypeId × Value → H) :
    ReturnsInHanded {} Tryz.checked os 4 .any (fun w args => (Rows.topPathSpec.pre enc Tryz.prog Tryz.f4 Rows.topPathRow.domain false w args ∧ laidMetH Tryz.prog Rows.topPathRow.laid w) ∧ sizedMet enc Tryz.prog Tryz.f4 (OpenSpec.ofChange Rows.topPathSpec) false w args)
      (Rows.topPathSpec.post enc Tryz.prog Tryz.f4 false true false false) := by
  refine returnsInHanded_of_change_and (C := Tryz.checked) (X := fun w _ => laidMetH Tryz.prog Rows.topPathRow.laid w) (fun _ _ _ hh h => h.of_heap hh) own started (by kernel_rfl) Tryz.func4
    (ChangeSpec.witness_shaped (enc := enc) (C := Tryz.checked) (os := os) (X := fun w _ => laidMetH Tryz.prog Rows.topPathRow.laid w) false (kindsW os Rows.topCrewRow.laid) #[.slice none 0 0, .string ByteArray.empty, .string ByteArray.empty, .int .i64 0] 8 (kindsW_os _ _)
      (door_shaped os _) (by kernel_rfl) (by kernel_rfl) (by kernel_rfl)
      (by rw [show Rows.topPathRow.laid = Rows.topCrewRow.laid from rfl]; exact door_met os _)) ?_
  intro W base args ds gs before hval hW hc hz hL _
  exact row_okL (C := Tryz.checked) (fn := Tryz.f4) 10 4 laidOut (by kernel_rfl) rfl (by kernel_rfl) rfl (fun ds h => match ds, h with | [_, _, _, _], _ => rfl) (fun dss h h' => match dss, h, h' with
    | [x0, x1, x2, x3], .cons h0 (.cons h1 (.cons h2 (.cons h3 .nil))), .cons k0 (.cons k1 (.cons k2 (.cons k3 .nil))) => topPath_read x0 x1 x2 x3 (shp_table tysOk _ _ _ h0) (shp_table tysOk _ _ _ h1) (shp_table tysOk _ _ _ h2) (shp_table tysOk _ _ _ h3) k0 k1 k2 k3) W base args ds gs before hval hW hc hz (door_lay (show laidMetH Tryz.prog Rows.topCrewRow.laid W from hL))
theorem andB {a b : Bool} (h : a = true) (h' : b = true) : (a && b) = true := by rw [h, h']; rfl
theorem topPath_j0 : (Rows.topPathRow.wf (OpenSpec.ofChange Rows.topPathSpec)) = true := by kernel_rfl
theorem topPath_j1 : (laidOutB Tryz.checked.prog) = true := by kernel_rfl
theorem topPath_j2 : (mapsRowed Tryz.checked.prog) = true := by kernel_rfl
theorem topPath_j3 : (Tryz.f4.params.all (Tryz.checked.prog.readableRec ·)) = true := by kernel_rfl
theorem topPath_j4 : (namedTie Tryz.checked.prog Rows.topPathRow.named Rows.topPathSpec.vars) = true := by kernel_rfl
theorem topPath_j5 : ((Rows.topPathRow.stops == [])) = true := by kernel_rfl
theorem topPath_j6 : ((Tryz.checked.prog.stops == [])) = true := by kernel_rfl
theorem topPath_j7 : ((Rows.topPathRow.knobs == [])) = true := by kernel_rfl
theorem topPath_j8 : ((Tryz.checked.prog.stopKnobs == [])) = true := by kernel_rfl
theorem topPath_j9 : ((Rows.topPathRow.inPlace == Tryz.checked.prog.inPlace 4)) = true := by kernel_rfl
theorem topPath_j10 : ((Rows.topPathRow.unfollowed == Tryz.checked.prog.unfollowed 4)) = true := by kernel_rfl
theorem topPath_j11 : ((Rows.topPathRow.recurses == Tryz.checked.prog.recurses 4)) = true := by kernel_rfl
theorem topPath_j12 : ((Rows.topPathRow.named == Tryz.checked.prog.varsNamed 4)) = true := by kernel_rfl
theorem topPath_j13 : ((Rows.topPathRow.maps == (Tryz.f4.params.toList ++ Rows.topPathSpec.plain.varTypes Tryz.checked.prog).any (Tryz.checked.prog.mapsRec ·))) = true := by kernel_rfl
theorem topPath_j14 : ((Rows.topPathRow.ifaces == (Tryz.f4.params.toList ++ Rows.topPathSpec.plain.varTypes Tryz.checked.prog).any (Tryz.checked.prog.ifacesRec ·))) = true := by kernel_rfl
theorem topPath_j15 : ((Rows.topPathRow.mapsOut == Tryz.checked.prog.mapsAmong Tryz.f4.resultTypes.toList)) = true := by kernel_rfl
theorem topPath_j16 : ((Rows.topPathRow.loops == (Tryz.f4.params.toList ++ Rows.topPathSpec.plain.varTypes Tryz.checked.prog).any (Tryz.checked.prog.loopsFrom ·))) = true := by kernel_rfl
theorem topPath_j17 : ((Rows.topPathRow.wideKeys == (Tryz.f4.params.toList ++ Rows.topPathSpec.plain.varTypes Tryz.checked.prog ++ Tryz.f4.resultTypes.toList).any (Tryz.checked.prog.wideKeysFrom ·))) = true := by kernel_rfl
theorem topPath_j18 : (Rows.topPathSpec.vars.all (Tryz.checked.prog.varReadable ·)) = true := by kernel_rfl
theorem topPath_j19 : (Tryz.f4.resultTypes.all (fun t => Tryz.checked.prog.readableRec t && decide (t < Tryz.checked.prog.types.size))) = true := by kernel_rfl
theorem topPath_j20 : ((Rows.topPathRow.ifacesOut == Tryz.f4.resultTypes.toList.any (Tryz.checked.prog.ifacesRec ·))) = true := by kernel_rfl
theorem topPath_j21 : ((Rows.topPathRow.loopsOut == Tryz.f4.resultTypes.toList.any (Tryz.checked.prog.loopsFrom ·))) = true := by kernel_rfl
theorem topPath_j22 : ((Rows.topPathRow.plainKeys == Tryz.checked.prog.plainKeys)) = true := by kernel_rfl
theorem topPath_j23 : (Rows.topPathRow.shortTexts.isNone) = true := by kernel_rfl
theorem topPath_j24 : (Tryz.checked.prog.stopsHeard) = true := by kernel_rfl
theorem topPath_j25 : (Tryz.checked.prog.mayEnter) = true := by kernel_rfl
theorem topPath_j26 : ((Rows.topPathRow.lifted == Tryz.checked.prog.liftsFinal)) = true := by kernel_rfl
theorem topPath_j27 : ((Tryz.checked.prog.make == some Rows.topPathRow.make)) = true := by kernel_rfl
theorem topPath_j28 : ((Rows.topPathRow.kinds == (if Rows.topPathRow.domain.isEmpty then [] else Tryz.f4.params.toList.map fun t => match Tryz.checked.prog.underlying t with | some (.int k) => some k | _ => none))) = true := by kernel_rfl
theorem topPath_j29 : ((Rows.topPathRow.pinned == Rows.topPathRow.pinnedBy)) = true := by kernel_rfl
theorem topPath_j30 : ((Rows.topPathRow.veiled == (Tryz.f4.params.toList ++ Rows.topPathSpec.plain.varTypes Tryz.checked.prog ++ Tryz.f4.resultTypes.toList).any (Tryz.checked.prog.veiledRec ·))) = true := by kernel_rfl
theorem topPath_j31 : (Rows.topPathRow.veiledFits Tryz.checked.prog Tryz.f4.params.toList (Tryz.f4.params.toList ++ Rows.topPathSpec.plain.varTypes Tryz.checked.prog ++ Tryz.f4.resultTypes.toList)) = true := by kernel_rfl
theorem topPath_closed : joinedFacts Tryz.checked.prog 4 Tryz.f4 Rows.topPathSpec Rows.topPathRow = true := by
  unfold joinedFacts
  exact andB (andB (andB (andB (andB (andB (andB (andB (andB (andB (andB (andB (andB (andB (andB (andB (andB (andB (andB (andB (andB (andB (andB (andB (andB (andB (andB (andB (andB (andB (andB (topPath_j0) topPath_j1) topPath_j2) topPath_j3) topPath_j4) topPath_j5) topPath_j6) topPath_j7) topPath_j8) topPath_j9) topPath_j10) topPath_j11) topPath_j12) topPath_j13) topPath_j14) topPath_j15) topPath_j16) topPath_j17) topPath_j18) topPath_j19) topPath_j20) topPath_j21) topPath_j22) topPath_j23) topPath_j24) topPath_j25) topPath_j26) topPath_j27) topPath_j28) topPath_j29) topPath_j30) topPath_j31
theorem topPath_named : Tryz.checked.prog.funcNamed Rows.topPathRow.func = some 4 := by kernel_rfl
theorem topPath_inst : Tryz.f4.isInstance Tryz.checked.prog Rows.topPathRow.origin Rows.topPathRow.targs := of_decide_eq_true (by kernel_rfl)
theorem topPath_wrap : Tryz.f4.isWrapper Tryz.checked.prog Rows.topPathRow.wrapper Rows.topPathRow.mainSum := by unfold Func.isWrapper; rw [if_neg (of_decide_eq_false (by kernel_rfl))]; exact ⟨rfl, rfl⟩
theorem topPath_row : Rows.TopPathSaid :=
  OpenClaim.holds_of_wide 4 Tryz.f4 rfl rfl rfl rfl rfl rfl rfl ⟨rfl, rfl, rfl, rfl, rfl⟩ rfl rfl rfl rfl rfl topPath_named Tryz.func4 topPath_closed topPath_inst topPath_wrap
    (fun os started H enc _ => topPath_lifted os started H enc)
theorem topPath_holds : Rows.TopPathCardSaid :=
  Claim7.holds_tied_plain_at .later [] [.data, .data, .data, .data, .sentinel, .sentinel, .funcsDeep, .pinned] true (true, "8ed7975a11d4062c657a7eaad76548e5ca5a87d3517188a811360051f00d747e") true topPath_row (fun _ h => by cases h) (by kernel_rfl) (fun _ h => by cases h) topPath_row_tie rfl ⟨rfl, rfl⟩ (by kernel_rfl) rfl
    (fun f fn hf hfn => by
      obtain rfl : f = 4 := Option.some.inj ((show Tryz.prog.funcNamed "greatseal/greatsealtop.TopPath" = some 4 by kernel_rfl).symm.trans hf) |>.symm
      obtain rfl : fn = Tryz.f4 := (Option.some.inj (Tryz.func4.symm.trans hfn)).symm
      exact ⟨by kernel_rfl, fun j t ht => by
        rw [Tryz.params4] at ht
        have hm : t ∈ [22, 9, 9, 3] := by simpa using Array.mem_of_getElem? ht
        have hall : ([22, 9, 9, 3].all fun u => !Tryz.prog.wantsStandIn u) = true := by kernel_rfl
        exact (show Tryz.prog.wantsStandIn t = false by simpa using List.all_eq_true.1 hall t hm)⟩)
    (by kernel_rfl)
end
end Go.Proofs.YtijfncaphfaijaaGreatDoor
