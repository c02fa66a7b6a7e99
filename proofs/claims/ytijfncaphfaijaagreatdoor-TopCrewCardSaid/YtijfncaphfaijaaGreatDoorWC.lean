/- TopCrew: whoever of a crew signs, if they are enough: what they sign together is checked as one signer's, by the crew's key. -/
import Derived.Test.YtijfncaphfaijaaGreatDoorCL
import Derived.Test.YtijfncaphfaijaaGreatDoorTie
import Derived.Test.YtijfncaphfaijaaGreatDoorCards
import Derived.LaidMore
import Derived.Lay
import Derived.SevenTiedAt
import Derived.Stop.Joined
namespace Go.Proofs.YtijfncaphfaijaaGreatDoor
open Go.Eng
set_option linter.unusedSimpArgs false
set_option maxRecDepth 10000

theorem topCrew_read (x0 x1 x2 x3 x4 x5 : List D) (h0 : shpG tys 10 22 x0) (h1 : shpG tys 10 3 x1) (h2 : shpG tys 10 3 x2) (h3 : shpG tys 10 23 x3) (h4 : shpG tys 10 3 x4) (h5 : shpG tys 10 22 x5) (k0 : strB Tryz.prog 22 x0) (k1 : strB Tryz.prog 3 x1) (k2 : strB Tryz.prog 3 x2) (k3 : strB Tryz.prog 23 x3) (k4 : strB Tryz.prog 3 x4) (k5 : strB Tryz.prog 22 x5) : Meets Tryz.prog 3 [argC Tryz.prog 22 x0, argC Tryz.prog 3 x1, argC Tryz.prog 3 x2, argC Tryz.prog 23 x3, argC Tryz.prog 3 x4, argC Tryz.prog 22 x5] (rOne (vB true)) := by
  obtain ⟨seed, rfl⟩ := read_byT h0
  obtain ⟨t, rfl⟩ := read_intT h1
  obtain ⟨n, rfl⟩ := read_intT h2
  obtain ⟨pick, rfl⟩ := read_insT h3
  obtain ⟨ses, rfl⟩ := read_intT h4
  obtain ⟨msg, rfl⟩ := read_byT h5
  rw [arg_byT, arg_intT, arg_intT, arg_insT, arg_intT, arg_byT]
  exact topCrew_ok seed t n pick ses msg
section
open Go.ChangeShapes Go.WideShapes Go.ChangeAt Go.RowKit
set_option maxRecDepth 100000 in
theorem topCrew_lifted (os : Os) (started : os.Started) (H : Type) (enc : TypeId × Value → H) :
    ReturnsInHanded {} Tryz.checked os 3 .any (fun w args => (Rows.topCrewSpec.pre enc Tryz.prog Tryz.f3 Rows.topCrewRow.domain false w args ∧ laidMetH Tryz.prog Rows.topCrewRow.laid w) ∧ sizedMet enc Tryz.prog Tryz.f3 (OpenSpec.ofChange Rows.topCrewSpec) false w args)
      (Rows.topCrewSpec.post enc Tryz.prog Tryz.f3 false true false false) := by
  refine returnsInHanded_of_change_and (C := Tryz.checked) (X := fun w _ => laidMetH Tryz.prog Rows.topCrewRow.laid w) (fun _ _ _ hh h => h.of_heap hh) own started (by kernel_rfl) Tryz.func3
    (ChangeSpec.witness_shaped (enc := enc) (C := Tryz.checked) (os := os) (X := fun w _ => laidMetH Tryz.prog Rows.topCrewRow.laid w) false (kindsW os Rows.topCrewRow.laid) #[.slice none 0 0, .int .i64 0, .int .i64 0, .slice none 0 0, .int .i64 0, .slice none 0 0] 8 (kindsW_os _ _)
      (door_shaped os _) (by kernel_rfl) (by kernel_rfl) (by kernel_rfl)
      (by rw [show Rows.topCrewRow.laid = Rows.topCrewRow.laid from rfl]; exact door_met os _)) ?_
  intro W base args ds gs before hval hW hc hz hL _
  exact row_okL (C := Tryz.checked) (fn := Tryz.f3) 10 4 laidOut (by kernel_rfl) rfl (by kernel_rfl) rfl (fun ds h => match ds, h with | [_, _, _, _, _, _], _ => rfl) (fun dss h h' => match dss, h, h' with
    | [x0, x1, x2, x3, x4, x5], .cons h0 (.cons h1 (.cons h2 (.cons h3 (.cons h4 (.cons h5 .nil))))), .cons k0 (.cons k1 (.cons k2 (.cons k3 (.cons k4 (.cons k5 .nil))))) => topCrew_read x0 x1 x2 x3 x4 x5 (shp_table tysOk _ _ _ h0) (shp_table tysOk _ _ _ h1) (shp_table tysOk _ _ _ h2) (shp_table tysOk _ _ _ h3) (shp_table tysOk _ _ _ h4) (shp_table tysOk _ _ _ h5) k0 k1 k2 k3 k4 k5) W base args ds gs before hval hW hc hz (door_lay (show laidMetH Tryz.prog Rows.topCrewRow.laid W from hL))
theorem andB {a b : Bool} (h : a = true) (h' : b = true) : (a && b) = true := by rw [h, h']; rfl
theorem topCrew_j0 : (Rows.topCrewRow.wf (OpenSpec.ofChange Rows.topCrewSpec)) = true := by kernel_rfl
theorem topCrew_j1 : (laidOutB Tryz.checked.prog) = true := by kernel_rfl
theorem topCrew_j2 : (mapsRowed Tryz.checked.prog) = true := by kernel_rfl
theorem topCrew_j3 : (Tryz.f3.params.all (Tryz.checked.prog.readableRec ·)) = true := by kernel_rfl
theorem topCrew_j4 : (namedTie Tryz.checked.prog Rows.topCrewRow.named Rows.topCrewSpec.vars) = true := by kernel_rfl
theorem topCrew_j5 : ((Rows.topCrewRow.stops == [])) = true := by kernel_rfl
theorem topCrew_j6 : ((Tryz.checked.prog.stops == [])) = true := by kernel_rfl
theorem topCrew_j7 : ((Rows.topCrewRow.knobs == [])) = true := by kernel_rfl
theorem topCrew_j8 : ((Tryz.checked.prog.stopKnobs == [])) = true := by kernel_rfl
theorem topCrew_j9 : ((Rows.topCrewRow.inPlace == Tryz.checked.prog.inPlace 3)) = true := by kernel_rfl
theorem topCrew_j10 : ((Rows.topCrewRow.unfollowed == Tryz.checked.prog.unfollowed 3)) = true := by kernel_rfl
theorem topCrew_j11 : ((Rows.topCrewRow.recurses == Tryz.checked.prog.recurses 3)) = true := by kernel_rfl
theorem topCrew_j12 : ((Rows.topCrewRow.named == Tryz.checked.prog.varsNamed 3)) = true := by kernel_rfl
theorem topCrew_j13 : ((Rows.topCrewRow.maps == (Tryz.f3.params.toList ++ Rows.topCrewSpec.plain.varTypes Tryz.checked.prog).any (Tryz.checked.prog.mapsRec ·))) = true := by kernel_rfl
theorem topCrew_j14 : ((Rows.topCrewRow.ifaces == (Tryz.f3.params.toList ++ Rows.topCrewSpec.plain.varTypes Tryz.checked.prog).any (Tryz.checked.prog.ifacesRec ·))) = true := by kernel_rfl
theorem topCrew_j15 : ((Rows.topCrewRow.mapsOut == Tryz.checked.prog.mapsAmong Tryz.f3.resultTypes.toList)) = true := by kernel_rfl
theorem topCrew_j16 : ((Rows.topCrewRow.loops == (Tryz.f3.params.toList ++ Rows.topCrewSpec.plain.varTypes Tryz.checked.prog).any (Tryz.checked.prog.loopsFrom ·))) = true := by kernel_rfl
theorem topCrew_j17 : ((Rows.topCrewRow.wideKeys == (Tryz.f3.params.toList ++ Rows.topCrewSpec.plain.varTypes Tryz.checked.prog ++ Tryz.f3.resultTypes.toList).any (Tryz.checked.prog.wideKeysFrom ·))) = true := by kernel_rfl
theorem topCrew_j18 : (Rows.topCrewSpec.vars.all (Tryz.checked.prog.varReadable ·)) = true := by kernel_rfl
theorem topCrew_j19 : (Tryz.f3.resultTypes.all (fun t => Tryz.checked.prog.readableRec t && decide (t < Tryz.checked.prog.types.size))) = true := by kernel_rfl
theorem topCrew_j20 : ((Rows.topCrewRow.ifacesOut == Tryz.f3.resultTypes.toList.any (Tryz.checked.prog.ifacesRec ·))) = true := by kernel_rfl
theorem topCrew_j21 : ((Rows.topCrewRow.loopsOut == Tryz.f3.resultTypes.toList.any (Tryz.checked.prog.loopsFrom ·))) = true := by kernel_rfl
theorem topCrew_j22 : ((Rows.topCrewRow.plainKeys == Tryz.checked.prog.plainKeys)) = true := by kernel_rfl
theorem topCrew_j23 : (Rows.topCrewRow.shortTexts.isNone) = true := by kernel_rfl
theorem topCrew_j24 : (Tryz.checked.prog.stopsHeard) = true := by kernel_rfl
theorem topCrew_j25 : (Tryz.checked.prog.mayEnter) = true := by kernel_rfl
theorem topCrew_j26 : ((Rows.topCrewRow.lifted == Tryz.checked.prog.liftsFinal)) = true := by kernel_rfl
theorem topCrew_j27 : ((Tryz.checked.prog.make == some Rows.topCrewRow.make)) = true := by kernel_rfl
theorem topCrew_j28 : ((Rows.topCrewRow.kinds == (if Rows.topCrewRow.domain.isEmpty then [] else Tryz.f3.params.toList.map fun t => match Tryz.checked.prog.underlying t with | some (.int k) => some k | _ => none))) = true := by kernel_rfl
theorem topCrew_j29 : ((Rows.topCrewRow.pinned == Rows.topCrewRow.pinnedBy)) = true := by kernel_rfl
theorem topCrew_j30 : ((Rows.topCrewRow.veiled == (Tryz.f3.params.toList ++ Rows.topCrewSpec.plain.varTypes Tryz.checked.prog ++ Tryz.f3.resultTypes.toList).any (Tryz.checked.prog.veiledRec ·))) = true := by kernel_rfl
theorem topCrew_j31 : (Rows.topCrewRow.veiledFits Tryz.checked.prog Tryz.f3.params.toList (Tryz.f3.params.toList ++ Rows.topCrewSpec.plain.varTypes Tryz.checked.prog ++ Tryz.f3.resultTypes.toList)) = true := by kernel_rfl
theorem topCrew_closed : joinedFacts Tryz.checked.prog 3 Tryz.f3 Rows.topCrewSpec Rows.topCrewRow = true := by
  unfold joinedFacts
  exact andB (andB (andB (andB (andB (andB (andB (andB (andB (andB (andB (andB (andB (andB (andB (andB (andB (andB (andB (andB (andB (andB (andB (andB (andB (andB (andB (andB (andB (andB (andB (topCrew_j0) topCrew_j1) topCrew_j2) topCrew_j3) topCrew_j4) topCrew_j5) topCrew_j6) topCrew_j7) topCrew_j8) topCrew_j9) topCrew_j10) topCrew_j11) topCrew_j12) topCrew_j13) topCrew_j14) topCrew_j15) topCrew_j16) topCrew_j17) topCrew_j18) topCrew_j19) topCrew_j20) topCrew_j21) topCrew_j22) topCrew_j23) topCrew_j24) topCrew_j25) topCrew_j26) topCrew_j27) topCrew_j28) topCrew_j29) topCrew_j30) topCrew_j31
theorem topCrew_named : Tryz.checked.prog.funcNamed Rows.topCrewRow.func = some 3 := by kernel_rfl
theorem topCrew_inst : Tryz.f3.isInstance Tryz.checked.prog Rows.topCrewRow.origin Rows.topCrewRow.targs := of_decide_eq_true (by kernel_rfl)
theorem topCrew_wrap : Tryz.f3.isWrapper Tryz.checked.prog Rows.topCrewRow.wrapper Rows.topCrewRow.mainSum := by unfold Func.isWrapper; rw [if_neg (of_decide_eq_false (by kernel_rfl))]; exact ⟨rfl, rfl⟩
theorem topCrew_row : Rows.TopCrewSaid :=
  OpenClaim.holds_of_wide 3 Tryz.f3 rfl rfl rfl rfl rfl rfl rfl ⟨rfl, rfl, rfl, rfl, rfl⟩ rfl rfl rfl rfl rfl topCrew_named Tryz.func3 topCrew_closed topCrew_inst topCrew_wrap
    (fun os started H enc _ => topCrew_lifted os started H enc)
theorem topCrew_holds : Rows.TopCrewCardSaid :=
  Claim7.holds_tied_plain_at .later [] [.data, .data, .data, .data, .sentinel, .sentinel, .funcsDeep, .pinned] true (true, "8ed7975a11d4062c657a7eaad76548e5ca5a87d3517188a811360051f00d747e") true topCrew_row (fun _ h => by cases h) (by kernel_rfl) (fun _ h => by cases h) topCrew_row_tie rfl ⟨rfl, rfl⟩ (by kernel_rfl) rfl
    (fun f fn hf hfn => by
      obtain rfl : f = 3 := Option.some.inj ((show Tryz.prog.funcNamed "greatseal/greatsealtop.TopCrew" = some 3 by kernel_rfl).symm.trans hf) |>.symm
      obtain rfl : fn = Tryz.f3 := (Option.some.inj (Tryz.func3.symm.trans hfn)).symm
      exact ⟨by kernel_rfl, fun j t ht => by
        rw [Tryz.params3] at ht
        have hm : t ∈ [22, 3, 3, 23, 3, 22] := by simpa using Array.mem_of_getElem? ht
        have hall : ([22, 3, 3, 23, 3, 22].all fun u => !Tryz.prog.wantsStandIn u) = true := by kernel_rfl
        exact (show Tryz.prog.wantsStandIn t = false by simpa using List.all_eq_true.1 hall t hm)⟩)
    (by kernel_rfl)
end
end Go.Proofs.YtijfncaphfaijaaGreatDoor
