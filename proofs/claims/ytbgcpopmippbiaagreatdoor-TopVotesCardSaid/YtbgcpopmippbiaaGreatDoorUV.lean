/- TopVotes: the adversary has no more votes than points that it redirects. -/
import Derived.Test.YtbgcpopmippbiaaGreatDoorUG
import Derived.Test.YtbgcpopmippbiaaGreatDoorTie
import Derived.Test.YtbgcpopmippbiaaGreatDoorCards
import Derived.LaidMore
import Derived.Lay
import Derived.SevenTiedAt
import Derived.Stop.Joined
namespace Go.Proofs.YtbgcpopmippbiaaGreatDoor
open Go.Eng
set_option linter.unusedSimpArgs false
set_option maxRecDepth 10000

theorem topVotes_read (x0 x1 x2 x3 x4 x5 : List D) (h0 : shpG tys 10 9 x0) (h1 : shpG tys 10 9 x1) (h2 : shpG tys 10 4 x2) (h3 : shpG tys 10 22 x3) (h4 : shpG tys 10 3 x4) (h5 : shpG tys 10 3 x5) (k0 : strB Tryz.prog 9 x0) (k1 : strB Tryz.prog 9 x1) (k2 : strB Tryz.prog 4 x2) (k3 : strB Tryz.prog 22 x3) (k4 : strB Tryz.prog 3 x4) (k5 : strB Tryz.prog 3 x5) : Meets Tryz.prog 3 [argC Tryz.prog 9 x0, argC Tryz.prog 9 x1, argC Tryz.prog 4 x2, argC Tryz.prog 22 x3, argC Tryz.prog 3 x4, argC Tryz.prog 3 x5] (rOne (vB true)) := by
  obtain ⟨nm, rfl⟩ := read_str h0
  obtain ⟨tok, rfl⟩ := read_str h1
  obtain ⟨there, rfl⟩ := read_boolT h2
  obtain ⟨fakes, rfl⟩ := read_recsT h3
  obtain ⟨seen, rfl, _⟩ := read_int h4
  obtain ⟨bent, rfl, _⟩ := read_int h5
  have hn := k0 (by kernel_rfl) _ rfl
  rw [arg_str, arg_str, arg_boolT, arg_recsT, arg_int, arg_int]
  exact topVotes_ok nm tok there fakes seen bent hn
section
open Go.ChangeShapes Go.WideShapes Go.ChangeAt Go.RowKit
set_option maxRecDepth 100000 in
theorem topVotes_lifted (os : Os) (started : os.Started) (H : Type) (enc : TypeId × Value → H) :
    ReturnsInHanded {} Tryz.checked os 3 .any (fun w args => (Rows.topVotesSpec.pre enc Tryz.prog Tryz.f3 Rows.topVotesRow.domain false w args ∧ laidMetH Tryz.prog Rows.topVotesRow.laid w) ∧ sizedMet enc Tryz.prog Tryz.f3 (OpenSpec.ofChange Rows.topVotesSpec) false w args)
      (Rows.topVotesSpec.post enc Tryz.prog Tryz.f3 false true false false) := by
  refine returnsInHanded_of_change_and (C := Tryz.checked) (X := fun w _ => laidMetH Tryz.prog Rows.topVotesRow.laid w) (fun _ _ _ hh h => h.of_heap hh) own started (by kernel_rfl) Tryz.func3
    (ChangeSpec.witness_shaped (enc := enc) (C := Tryz.checked) (os := os) (X := fun w _ => laidMetH Tryz.prog Rows.topVotesRow.laid w) false (kindsW os Rows.topFindsRow.laid) #[.string ByteArray.empty, .string ByteArray.empty, .bool false, .slice none 0 0, .int .i64 0, .int .i64 0] 8 (kindsW_os _ _)
      (door_shaped os _) (by kernel_rfl) (by kernel_rfl) (by kernel_rfl)
      (by rw [show Rows.topVotesRow.laid = Rows.topFindsRow.laid from rfl]; exact door_met os _)) ?_
  intro W base args ds gs before hval hW hc hz hL _
  exact row_okL (C := Tryz.checked) (fn := Tryz.f3) 10 4 laidOut (by kernel_rfl) rfl (by kernel_rfl) rfl (fun ds h => match ds, h with | [_, _, _, _, _, _], _ => rfl) (fun dss h h' => match dss, h, h' with
    | [x0, x1, x2, x3, x4, x5], .cons h0 (.cons h1 (.cons h2 (.cons h3 (.cons h4 (.cons h5 .nil))))), .cons k0 (.cons k1 (.cons k2 (.cons k3 (.cons k4 (.cons k5 .nil))))) => topVotes_read x0 x1 x2 x3 x4 x5 (shp_table tysOk _ _ _ h0) (shp_table tysOk _ _ _ h1) (shp_table tysOk _ _ _ h2) (shp_table tysOk _ _ _ h3) (shp_table tysOk _ _ _ h4) (shp_table tysOk _ _ _ h5) k0 k1 k2 k3 k4 k5) W base args ds gs before hval hW hc hz (door_lay (show laidMetH Tryz.prog Rows.topFindsRow.laid W from hL))
theorem andB {a b : Bool} (h : a = true) (h' : b = true) : (a && b) = true := by rw [h, h']; rfl
theorem topVotes_j0 : (Rows.topVotesRow.wf (OpenSpec.ofChange Rows.topVotesSpec)) = true := by kernel_rfl
theorem topVotes_j1 : (laidOutB Tryz.checked.prog) = true := by kernel_rfl
theorem topVotes_j2 : (mapsRowed Tryz.checked.prog) = true := by kernel_rfl
theorem topVotes_j3 : (Tryz.f3.params.all (Tryz.checked.prog.readableRec ·)) = true := by kernel_rfl
theorem topVotes_j4 : (namedTie Tryz.checked.prog Rows.topVotesRow.named Rows.topVotesSpec.vars) = true := by kernel_rfl
theorem topVotes_j5 : ((Rows.topVotesRow.stops == [])) = true := by kernel_rfl
theorem topVotes_j6 : ((Tryz.checked.prog.stops == [])) = true := by kernel_rfl
theorem topVotes_j7 : ((Rows.topVotesRow.knobs == [])) = true := by kernel_rfl
theorem topVotes_j8 : ((Tryz.checked.prog.stopKnobs == [])) = true := by kernel_rfl
theorem topVotes_j9 : ((Rows.topVotesRow.inPlace == Tryz.checked.prog.inPlace 3)) = true := by kernel_rfl
theorem topVotes_j10 : ((Rows.topVotesRow.unfollowed == Tryz.checked.prog.unfollowed 3)) = true := by kernel_rfl
theorem topVotes_j11 : ((Rows.topVotesRow.recurses == Tryz.checked.prog.recurses 3)) = true := by kernel_rfl
theorem topVotes_j12 : ((Rows.topVotesRow.named == Tryz.checked.prog.varsNamed 3)) = true := by kernel_rfl
theorem topVotes_j13 : ((Rows.topVotesRow.maps == (Tryz.f3.params.toList ++ Rows.topVotesSpec.plain.varTypes Tryz.checked.prog).any (Tryz.checked.prog.mapsRec ·))) = true := by kernel_rfl
theorem topVotes_j14 : ((Rows.topVotesRow.ifaces == (Tryz.f3.params.toList ++ Rows.topVotesSpec.plain.varTypes Tryz.checked.prog).any (Tryz.checked.prog.ifacesRec ·))) = true := by kernel_rfl
theorem topVotes_j15 : ((Rows.topVotesRow.mapsOut == Tryz.checked.prog.mapsAmong Tryz.f3.resultTypes.toList)) = true := by kernel_rfl
theorem topVotes_j16 : ((Rows.topVotesRow.loops == (Tryz.f3.params.toList ++ Rows.topVotesSpec.plain.varTypes Tryz.checked.prog).any (Tryz.checked.prog.loopsFrom ·))) = true := by kernel_rfl
theorem topVotes_j17 : ((Rows.topVotesRow.wideKeys == (Tryz.f3.params.toList ++ Rows.topVotesSpec.plain.varTypes Tryz.checked.prog ++ Tryz.f3.resultTypes.toList).any (Tryz.checked.prog.wideKeysFrom ·))) = true := by kernel_rfl
theorem topVotes_j18 : (Rows.topVotesSpec.vars.all (Tryz.checked.prog.varReadable ·)) = true := by kernel_rfl
theorem topVotes_j19 : (Tryz.f3.resultTypes.all (fun t => Tryz.checked.prog.readableRec t && decide (t < Tryz.checked.prog.types.size))) = true := by kernel_rfl
theorem topVotes_j20 : ((Rows.topVotesRow.ifacesOut == Tryz.f3.resultTypes.toList.any (Tryz.checked.prog.ifacesRec ·))) = true := by kernel_rfl
theorem topVotes_j21 : ((Rows.topVotesRow.loopsOut == Tryz.f3.resultTypes.toList.any (Tryz.checked.prog.loopsFrom ·))) = true := by kernel_rfl
theorem topVotes_j22 : ((Rows.topVotesRow.plainKeys == Tryz.checked.prog.plainKeys)) = true := by kernel_rfl
theorem topVotes_j23 : (Rows.topVotesRow.shortTexts.isNone) = true := by kernel_rfl
theorem topVotes_j24 : (Tryz.checked.prog.stopsHeard) = true := by kernel_rfl
theorem topVotes_j25 : (Tryz.checked.prog.mayEnter) = true := by kernel_rfl
theorem topVotes_j26 : ((Rows.topVotesRow.lifted == Tryz.checked.prog.liftsFinal)) = true := by kernel_rfl
theorem topVotes_j27 : ((Tryz.checked.prog.make == some Rows.topVotesRow.make)) = true := by kernel_rfl
theorem topVotes_j28 : ((Rows.topVotesRow.kinds == (if Rows.topVotesRow.domain.isEmpty then [] else Tryz.f3.params.toList.map fun t => match Tryz.checked.prog.underlying t with | some (.int k) => some k | _ => none))) = true := by kernel_rfl
theorem topVotes_j29 : ((Rows.topVotesRow.pinned == Rows.topVotesRow.pinnedBy)) = true := by kernel_rfl
theorem topVotes_j30 : ((Rows.topVotesRow.veiled == (Tryz.f3.params.toList ++ Rows.topVotesSpec.plain.varTypes Tryz.checked.prog ++ Tryz.f3.resultTypes.toList).any (Tryz.checked.prog.veiledRec ·))) = true := by kernel_rfl
theorem topVotes_j31 : (Rows.topVotesRow.veiledFits Tryz.checked.prog Tryz.f3.params.toList (Tryz.f3.params.toList ++ Rows.topVotesSpec.plain.varTypes Tryz.checked.prog ++ Tryz.f3.resultTypes.toList)) = true := by kernel_rfl
theorem topVotes_closed : joinedFacts Tryz.checked.prog 3 Tryz.f3 Rows.topVotesSpec Rows.topVotesRow = true := by
  unfold joinedFacts
  exact andB (andB (andB (andB (andB (andB (andB (andB (andB (andB (andB (andB (andB (andB (andB (andB (andB (andB (andB (andB (andB (andB (andB (andB (andB (andB (andB (andB (andB (andB (andB (topVotes_j0) topVotes_j1) topVotes_j2) topVotes_j3) topVotes_j4) topVotes_j5) topVotes_j6) topVotes_j7) topVotes_j8) topVotes_j9) topVotes_j10) topVotes_j11) topVotes_j12) topVotes_j13) topVotes_j14) topVotes_j15) topVotes_j16) topVotes_j17) topVotes_j18) topVotes_j19) topVotes_j20) topVotes_j21) topVotes_j22) topVotes_j23) topVotes_j24) topVotes_j25) topVotes_j26) topVotes_j27) topVotes_j28) topVotes_j29) topVotes_j30) topVotes_j31
theorem topVotes_named : Tryz.checked.prog.funcNamed Rows.topVotesRow.func = some 3 := by kernel_rfl
theorem topVotes_inst : Tryz.f3.isInstance Tryz.checked.prog Rows.topVotesRow.origin Rows.topVotesRow.targs := of_decide_eq_true (by kernel_rfl)
theorem topVotes_wrap : Tryz.f3.isWrapper Tryz.checked.prog Rows.topVotesRow.wrapper Rows.topVotesRow.mainSum := by unfold Func.isWrapper; rw [if_neg (of_decide_eq_false (by kernel_rfl))]; exact ⟨rfl, rfl⟩
theorem topVotes_row : Rows.TopVotesSaid :=
  OpenClaim.holds_of_wide 3 Tryz.f3 rfl rfl rfl rfl rfl rfl rfl ⟨rfl, rfl, rfl, rfl, rfl⟩ rfl rfl rfl rfl rfl topVotes_named Tryz.func3 topVotes_closed topVotes_inst topVotes_wrap
    (fun os started H enc _ => topVotes_lifted os started H enc)
theorem topVotes_holds : Rows.TopVotesCardSaid :=
  Claim7.holds_tied_plain_at .later [] [.data, .data, .data, .data, .sentinel, .sentinel, .funcsDeep, .pinned] true (true, "0e4dfb5bfdcc2535c937e972ddf4e82fe279008eee388371dca17def0d6f3d05") true topVotes_row (fun _ h => by cases h) (by kernel_rfl) (fun _ h => by cases h) topVotes_row_tie rfl ⟨rfl, rfl⟩ (by kernel_rfl) rfl
    (fun f fn hf hfn => by
      obtain rfl : f = 3 := Option.some.inj ((show Tryz.prog.funcNamed "greatseal/greatsealtop.TopVotes" = some 3 by kernel_rfl).symm.trans hf) |>.symm
      obtain rfl : fn = Tryz.f3 := (Option.some.inj (Tryz.func3.symm.trans hfn)).symm
      exact ⟨by kernel_rfl, fun j t ht => by
        rw [Tryz.params3] at ht
        have hm : t ∈ [9, 9, 4, 22, 3, 3] := by simpa using Array.mem_of_getElem? ht
        have hall : ([9, 9, 4, 22, 3, 3].all fun u => !Tryz.prog.wantsStandIn u) = true := by kernel_rfl
        exact (show Tryz.prog.wantsStandIn t = false by simpa using List.all_eq_true.1 hall t hm)⟩)
    (by kernel_rfl)
end
end Go.Proofs.YtbgcpopmippbiaaGreatDoor
