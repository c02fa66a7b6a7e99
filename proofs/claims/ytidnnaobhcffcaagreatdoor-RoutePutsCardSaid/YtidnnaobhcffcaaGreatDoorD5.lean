/- RoutePuts: what is put is there. -/
import Derived.Test.YtidnnaobhcffcaaGreatDoorRK
import Derived.Test.YtidnnaobhcffcaaGreatDoorTie
import Derived.Test.YtidnnaobhcffcaaGreatDoorCards
import Derived.LaidMore
import Derived.Lay
import Derived.SevenTiedAt
import Derived.Stop.Joined
namespace Go.Proofs.YtidnnaobhcffcaaGreatDoor
open Go.Eng
set_option linter.unusedSimpArgs false
set_option maxRecDepth 10000

theorem read_zone {ds : List D} (h : shpG tys 10 44 ds) : ∃ z : Zn, ds = z.cells := by
  simp -dsimp -implicitDefEqProofs only [shpG, tileG, go_sem] at h
  obtain ⟨_, _, ⟨s, rfl, _⟩, rfl, _, _, ⟨rr, rfl, _, hrr⟩, rfl, rfl⟩ := h
  obtain ⟨n, rfl⟩ := bytes_all s
  obtain ⟨R, rfl⟩ := read_rows (cells := Rec.cells) fun r hr => by
    obtain ⟨_, _, ⟨a, rfl, _⟩, rfl, _, _, ⟨b, rfl, _⟩, rfl, _, _, ⟨c, rfl, _⟩, rfl, _, _, ⟨d, rfl, _⟩, rfl, rfl⟩ := hrr r hr
    obtain ⟨l, rfl⟩ := bytes_all a
    obtain ⟨m, rfl⟩ := bytes_all c
    exact ⟨⟨l, b, m, d⟩, rfl⟩
  exact ⟨⟨n, R⟩, rfl⟩
theorem routePuts_read (x0 x1 x2 x3 : List D) (h0 : shpG tys 10 26 x0) (h1 : shpG tys 10 3 x1) (h2 : shpG tys 10 44 x2) (h3 : shpG tys 10 3 x3) : Meets Tryz.prog 8 [argC Tryz.prog 26 x0, argC Tryz.prog 3 x1, argC Tryz.prog 44 x2, argC Tryz.prog 3 x3] (rOne (vB true)) := by
  obtain ⟨n, rfl, hk, hw⟩ := read_net h0
  obtain ⟨a, rfl, _⟩ := read_int h1
  obtain ⟨z, rfl⟩ := read_zone h2
  obtain ⟨b, rfl, _⟩ := read_int h3
  rw [arg_net, arg_int, arg_zone, arg_int]
  exact rputs13_ok n a z b hk hw
section
open Go.ChangeShapes Go.WideShapes Go.ChangeAt Go.RowKit
set_option maxRecDepth 100000 in
theorem routePuts_lifted (os : Os) (started : os.Started) (H : Type) (enc : TypeId × Value → H) :
    ReturnsInHanded {} Tryz.checked os 8 .any (fun w args => (Rows.routePutsSpec.pre enc Tryz.prog Tryz.f8 Rows.routePutsRow.domain false w args ∧ laidMetH Tryz.prog Rows.routePutsRow.laid w) ∧ sizedMet enc Tryz.prog Tryz.f8 (OpenSpec.ofChange Rows.routePutsSpec) false w args)
      (Rows.routePutsSpec.post enc Tryz.prog Tryz.f8 false true false false) := by
  refine returnsInHanded_of_change_and (C := Tryz.checked) (X := fun w _ => laidMetH Tryz.prog Rows.routePutsRow.laid w) (fun _ _ _ hh h => h.of_heap hh) own started (by kernel_rfl) Tryz.func8
    (ChangeSpec.witness_shaped (enc := enc) (C := Tryz.checked) (os := os) (X := fun w _ => laidMetH Tryz.prog Rows.routePutsRow.laid w) false (World.laidAll Tryz.prog os Rows.routePutsRow.laid) #[.agg #[.slice none 0 0, .int .i64 0, .slice none 0 0, .slice none 0 0], .int .i64 0, .agg #[.string ByteArray.empty, .slice none 0 0], .int .i64 0] 8 (World.laidAll_os _ _ _)
      (World.shaped_of_ZipB (by kernel_rfl) (by kernel_rfl)) (by kernel_rfl) (by kernel_rfl) (by kernel_rfl)
      (by rw [MakeChecks.laidMetH_plain _ _ _ (by kernel_rfl)]; exact laidMet_laidAll _ (by kernel_rfl) (by kernel_rfl))) ?_
  intro W base args ds gs before hval hW hc _ _ ha
  exact row_ok (C := Tryz.checked) (fn := Tryz.f8) 10 4 laidOut (by kernel_rfl) rfl (by kernel_rfl) rfl (fun ds h => match ds, h with | [_, _, _, _], _ => rfl) (fun dss h => match dss, h with
    | [x0, x1, x2, x3], .cons h0 (.cons h1 (.cons h2 (.cons h3 .nil))) => routePuts_read x0 x1 x2 x3 (shp_table tysOk _ _ _ h0) (shp_table tysOk _ _ _ h1) (shp_table tysOk _ _ _ h2) (shp_table tysOk _ _ _ h3)) W base args ds gs before hval hW hc ha
theorem routePuts_row : Rows.RoutePutsSaid :=
  OpenClaim.holds_of_wide 8 Tryz.f8 rfl rfl rfl rfl rfl rfl rfl ⟨rfl, rfl, rfl, rfl, rfl⟩ rfl rfl rfl rfl rfl (by kernel_rfl) Tryz.func8 (by kernel_rfl)
    (of_decide_eq_true (by kernel_rfl)) (by unfold Func.isWrapper; rw [if_neg (of_decide_eq_false (by kernel_rfl))]; exact ⟨rfl, rfl⟩)
    (fun os started H enc _ => routePuts_lifted os started H enc)
theorem routePuts_holds : Rows.RoutePutsCardSaid :=
  Claim7.holds_tied_plain_at .later [] [.data, .pinned] true (true, "f5fd5b9b466ede9e656422598668a67c1c3f71662cc623c55b73799e56c894ca") false routePuts_row (fun _ h => by cases h) (by kernel_rfl) (fun _ h => by cases h) routePuts_row_tie rfl ⟨rfl, rfl⟩ (by kernel_rfl) rfl
    (fun f fn hf hfn => by
      obtain rfl : f = 8 := Option.some.inj ((show Tryz.prog.funcNamed "greatseal/greatseallaw13.RoutePuts" = some 8 by kernel_rfl).symm.trans hf) |>.symm
      obtain rfl : fn = Tryz.f8 := (Option.some.inj (Tryz.func8.symm.trans hfn)).symm
      exact ⟨by kernel_rfl, fun j t ht => by
        rw [Tryz.params8] at ht
        have hm : t ∈ [26, 3, 44, 3] := by simpa using Array.mem_of_getElem? ht
        have hall : ([26, 3, 44, 3].all fun u => !Tryz.prog.wantsStandIn u) = true := by kernel_rfl
        exact (show Tryz.prog.wantsStandIn t = false by simpa using List.all_eq_true.1 hall t hm)⟩)
    (by kernel_rfl)
end
end Go.Proofs.YtidnnaobhcffcaaGreatDoor
