
/- The frame for a row that lists a table of functions: sizes, what is laid. Readers of arguments, of the row of TopPath. -/
import Derived.Test.YtijfncaphfaijaaGreatDoorQG
import Derived.Test.YtijfncaphfaijaaGreatDoorRows
import Derived.Lay
import Derived.LaidMore
namespace Go.Proofs.YtijfncaphfaijaaGreatDoor
open Go.Eng Go.ChangeShapes Go.WideShapes Go.ChangeAt Go.RowKit
set_option linter.unusedSimpArgs false
set_option maxRecDepth 10000

/-- A string's bytes are within reach. -/
def strB (P : Program) (t : TypeId) (ds : List D) : Prop := P.underlying t = some .string → ∀ s : ByteArray, ds = [.v (.string s)] → s.size ≤ reachBytes
section
variable {H : Type} {enc : TypeId × Value → H} {P : Program} {w : World} {spare : Nat → Bool} {held : Bool}
theorem strB_of {F : Nat} {t : TypeId} {cs : List Value} {d : DataW H} {p : List MemPlace} {S : Nat → Prop} {x : List D} (h1 : DataW.trod enc P w 0 spare held F t cs = some (d, p)) (h2 : All2 (Rep w S) x cs) (hw : ∀ n ∈ d.weights P t, n ≤ reachBytes) : strB P t x := by
  intro ht s hx
  subst hx
  cases h2 with
  | cons h3 h4 =>
    cases h4
    cases h3
    cases F with
    | zero => simp [DataW.trod] at h1
    | succ F =>
      simp only [DataW.trod, ht] at h1
      split at h1
      · cases h1
        have := hw _ (List.mem_singleton.2 rfl)
        simpa using this
      · cases h1
theorem trodAll_comps2 {n : Nat} {r : Reach} {base : Nat} : ∀ (ts : List TypeId) (vs : List Value) (ds : List (DataW H)) (ps : List MemPlace), (∀ t ∈ ts, plainT P n t = true) → DataW.TrodAll enc P w 0 spare held ts vs ds ps →
    (∀ (j : Nat) t v, ts[j]? = some t → vs[j]? = some v → Value.okWide P w r base t v) → (∀ m ∈ DataW.weightsEach P ts ds, m ≤ reachBytes) →
    ∃ dss, All2 (shp P n) ts dss ∧ All2 (strB P) ts dss ∧ Comps w (fun b => b < w.heap.size) (List.zipWith (argC P) ts dss) vs []
  | [], vs, ds, ps, _, h, _, _ => by
    obtain ⟨rfl, _, _⟩ := trodAll_nil h
    exact ⟨[], .nil, .nil, .nil⟩
  | t :: ts, vs, ds, ps, hp, h, hv, hw => by
    obtain ⟨v, vs', d, ds', p, q, rfl, rfl, rfl, ⟨F, h1⟩, h2⟩ := trodAll_cons h
    have hw1 : ∀ m ∈ d.weights P t, m ≤ reachBytes := fun m hm => hw m (by simp [DataW.weightsEach, hm])
    obtain ⟨dss, h3, h3', h4⟩ := trodAll_comps2 ts vs' ds' q (fun t' ht => hp t' (by simp [ht])) h2 (fun j t' v' ht hv' => hv (j + 1) t' v' (by simpa using ht) (by simpa using hv')) (fun m hm => hw m (by simp [DataW.weightsEach, hm]))
    have hpt := hp t (by simp)
    obtain ⟨x, h5, h6, h7⟩ := trod_rep n F t _ _ hpt h1
    have hok := hv 0 t v rfl rfl
    refine ⟨x :: dss, .cons h5 h3, .cons (strB_of h1 h6 hw1) h3', ?_⟩
    simp only [List.zipWith_cons_cons, argC]
    cases hs : isStruct P t with
    | true =>
      obtain ⟨cs, rfl⟩ := okWide_agg hs hok
      have h8 : All2 (Rep w fun b => b < w.heap.size) x cs.toList := h6
      have := Comps.agg (CVs.of_rep h8) h4
      simpa using this
    | false =>
      have h8 := okWide_one hpt hs hok
      rw [h8] at h6
      match x, h6 with
      | [y], .cons h9 .nil => exact Comps.one (.d h9 .nil) h4
end
/-- A row that says 'true', and that the input reads as it did, from the contract: what is laid is given for each world. -/
theorem row_okL {H : Type} {enc : TypeId × Value → H} {C : Checked} {f : FuncId} {fn : Func} {s : ChangeSpec} {conds : List PathCond} (n : Nat) (tb : TypeId) (hl : laidOutB C.prog = true)
    (hts : (fn.params.toList.all fun t => C.prog.readableRec t && decide (t < C.prog.types.size) && plainT C.prog n t) = true) (hres : fn.resultTypes = #[tb]) (hu : C.prog.underlying tb = some .bool) (hs : s.vars = [])
    (hspec : ∀ ds : List (DataW H), ds.length = fn.params.toList.length → s.fn H (ds ++ []) = ⟨[.lit (.bool true)], ds, []⟩)
    (hm : ∀ dss, All2 (shp C.prog n) fn.params.toList dss → All2 (strB C.prog) fn.params.toList dss → Meets C.prog f (List.zipWith (argC C.prog) fn.params.toList dss) (rOne (vB true))) :
    ∀ (W : World) (base : Nat) (args : Array Value) (ds gs : List (DataW H)) (before : List MemPlace),
      (∀ (j : Nat) t v, fn.params[j]? = some t → args[j]? = some v → Value.okWide C.prog W .any base t v) →
      DataW.Whole enc C.prog fn.params.toList s.vars false W args.toList ds gs before →
      conds.all (PathCond.test C.prog ⟨fn.params.toList, ds, s.plain.varTypes C.prog, gs⟩) = true →
      (DataW.weightsEach C.prog (fn.params.toList ++ s.plain.varTypes C.prog) (ds ++ gs)).all (· ≤ reachBytes) = true → LayOk W (fun b => b < W.heap.size) →
      Calls C.prog f args W fun e W' => ∃ v, e = .returned v ∧ s.post enc C.prog fn false true false false W args v W' := by
  intro W base args ds gs before hval hW _ hwt hlay
  have hW' := hW
  have hlt := hW.lt
  obtain ⟨p, q, hA, hV, rfl, hfz, hnd⟩ := hW
  rw [hs] at hV
  obtain ⟨rfl, rfl⟩ := trodVars_none hV
  simp only [List.append_nil] at hW' hlt hwt
  have hvt : s.plain.varTypes C.prog = [] := by unfold ChangeSpec.plain; simp [hs, DataSpec.varTypes]
  rw [hvt, List.append_nil] at hwt
  simp only [List.all_eq_true, Bool.and_eq_true, decide_eq_true_eq] at hts hwt
  obtain ⟨dss, h1, h1', h2⟩ := trodAll_comps2 (n := n) (r := .any) (base := base) fn.params.toList args.toList ds p (fun t ht => (hts t ht).2) hA (fun j t v ht hv => hval j t v (by simpa using ht) (by simpa using hv)) hwt
  have hc := (hm dss h1 h1').2 W (fun b => b < W.heap.size) args.toList [] (fun _ h => h) hlay h2 .nil
  rw [Array.toArray_toList] at hc
  refine hc.mono fun e W' ⟨v, S', bs', he, hr, _, hfoot⟩ => ⟨v, he, ?_⟩
  have hB := hfoot.below
  have hlen : ds.length = fn.params.toList.length := trodAll_len _ _ _ _ hA
  have hv : v = .bool true := by
    have hr' : Comps W' S' [(false, [.d (.v (.bool true))])] [v] bs' := hr
    cases hr' with
    | one h t =>
      cases h with
      | d h _ => cases h; rfl
  subst hv
  refine ⟨ds, [], p, [], p, [], hW', ?_, ?_, ?_, hB.frame _, fun h => by cases h⟩
  · rw [hspec ds hlen, hres]
    exact trodAll_mk1 ⟨1, by simp [DataW.trod, Value.cells, hu]⟩
  · rw [hspec ds hlen]
    exact trodAll_below (hl := hl) hB _ _ _ _ (fun t ht => (hts t ht).1) hA hlt
  · rw [hspec ds hlen, hs]
    rfl

/-! ### A world in which all that is listed is laid -/
def kindsRow : Array Value := #[.int .i64 1, .func (.func 285) #[] #[], .int .i64 2, .func (.func 69) #[] #[], .int .i64 4, .func (.func 286) #[] #[], .int .i64 12, .func (.func 287) #[] #[], .int .i64 48, .func (.func 290) #[] #[]]
noncomputable def kinds0 (os : Os) : World :=
  { World.holding Tryz.prog os ⟨#[], #[], []⟩ with heap := (World.holding Tryz.prog os ⟨#[], #[], []⟩).heap.modify 0 fun o => match o with | .cells _ t fr => .cells kindsRow t fr | o => o }
noncomputable def kindsW (os : Os) (laid : List (String × DataW Unit)) : World := (kinds0 os).layVars Tryz.prog (laid.filter fun x => x.2.handleName?.isNone)
theorem kindsW_os (os : Os) (laid : List (String × DataW Unit)) : (kindsW os laid).os = os := World.layVars_os _ _ _
theorem kindsW_met {os : Os} {laid : List (String × DataW Unit)} (args : Array Value)
    (hf : (kinds0 os).layFits Tryz.prog (laid.filter fun x => x.2.handleName?.isNone) [] = true)
    (hi : (kinds0 os).layIfaces Tryz.prog (laid.filter fun x => x.2.handleName?.isNone) (kindsW os laid) = true)
    (hh : (laid.filter fun x => x.2.handleName?.isSome && x.2.funcsIn?.isNone).all (handleAtB Tryz.prog ((kindsW os laid).forCall (fun _ _ => 0) ⟨#[], args, []⟩).memory) = true)
    (hk : funcsRun Tryz.prog ((kindsW os laid).forCall (fun _ _ => 0) ⟨#[], args, []⟩).memory 8 ((funcsListed laid).map (·.1)) = some ((funcsListed laid).map (·.2.funcsOut))) :
    laidMetH Tryz.prog laid ((kindsW os laid).forCall (fun _ _ => 0) ⟨#[], args, []⟩).memory := by
  refine laidMetH_of_parts3 (fuel := 8) ?_ hh hk
  generalize hl : (laid.filter fun x => x.2.handleName?.isNone) = l at hf hi
  have e1 : (l.filter fun x => (l.map (·.1)).contains x.1) = l := List.filter_eq_self.2 fun x hx => List.contains_iff_mem.2 (List.mem_map.2 ⟨x, hx, rfl⟩)
  have e2 : (l.filter fun x => !(l.map (·.1)).contains x.1) = [] := List.filter_eq_nil_iff.2 fun x hx => by rw [List.contains_iff_mem.2 (List.mem_map.2 ⟨x, hx, rfl⟩)]; simp
  have h : laidMet Tryz.prog l (kindsW os laid) := laidMet_layVars (w0 := kinds0 os) (l.map (·.1)) [] (by rw [e1]; unfold kindsW; rw [hl]) (by rw [e1]; exact hf) (by rw [e1]; exact hi) (by rw [e2]; exact LaidIn.none)
  exact h.of_heap (by simp [World.memory, World.forCall, Input.heap])
theorem door_met (os : Os) (args : Array Value) : laidMetH Tryz.prog Rows.topCrewRow.laid ((kindsW os Rows.topCrewRow.laid).forCall (fun _ _ => 0) ⟨#[], args, []⟩).memory :=
  kindsW_met args (by kernel_rfl) (by kernel_rfl) (by kernel_rfl) (by kernel_rfl)
theorem door_shaped (os : Os) (args : Array Value) : ((kindsW os Rows.topCrewRow.laid).forCall (fun _ _ => 0) ⟨#[], args, []⟩).Shaped Tryz.prog := World.shaped_of_ZipB (by kernel_rfl) (by kernel_rfl)
theorem door_lay {W : World} (h : laidMetH Tryz.prog Rows.topCrewRow.laid W) : LayOk W (fun b => b < W.heap.size) := kinds_lay (laidMetH.funcs h (List.mem_of_getElem? (i := 6) rfl))
end Go.Proofs.YtijfncaphfaijaaGreatDoor
namespace Go.Proofs.YtijfncaphfaijaaGreatDoor
open Go.Eng
set_option linter.unusedSimpArgs false
set_option maxRecDepth 10000

theorem rows_ex {α : Type} {cells : α → List D} : ∀ {rows : List (List D)}, (∀ r ∈ rows, ∃ x, r = cells x) → ∃ l : List α, rows = l.map cells
  | [], _ => ⟨[], rfl⟩
  | r :: rows, h => by
    obtain ⟨x, rfl⟩ := h r (List.mem_cons_self ..)
    obtain ⟨l, rfl⟩ := rows_ex fun r hr => h r (List.mem_cons_of_mem _ hr)
    exact ⟨x :: l, rfl⟩
theorem arg_byT (ds : List D) : argC Tryz.prog 22 ds = (false, ds.map .d) := by
  unfold argC; rw [show isStruct Tryz.prog 22 = false from by kernel_rfl]
theorem arg_intT (ds : List D) : argC Tryz.prog 3 ds = (false, ds.map .d) := by
  unfold argC; rw [show isStruct Tryz.prog 3 = false from by kernel_rfl]
theorem arg_strT (ds : List D) : argC Tryz.prog 9 ds = (false, ds.map .d) := by
  unfold argC; rw [show isStruct Tryz.prog 9 = false from by kernel_rfl]
theorem read_intT {ds : List D} (h : shpG tys 10 3 ds) : ∃ n : Int, ds = [dI n] := by
  simp -dsimp -implicitDefEqProofs only [shpG, tileG, go_sem] at h
  obtain ⟨n, rfl, _⟩ := h
  exact ⟨n, rfl⟩
theorem read_byT {ds : List D} (h : shpG tys 10 22 ds) : ∃ l : List Int, ds = [byD l] := by
  simp -dsimp -implicitDefEqProofs only [shpG, tileG, go_sem] at h
  obtain ⟨rows, rfl, _, hr⟩ := h
  obtain ⟨l, rfl⟩ := rows_ex (cells := fun b : Int => [.v (.int .u8 b)]) fun r hr' => by
    obtain ⟨x, rfl, _⟩ := hr r hr'
    exact ⟨x, rfl⟩
  exact ⟨l, rfl⟩
theorem read_strT {ds : List D} (h : shpG tys 10 9 ds) : ∃ l : Bs, ds = [dT l] := by
  simp -dsimp -implicitDefEqProofs only [shpG, tileG, go_sem] at h
  obtain ⟨s, rfl, hs⟩ := h
  obtain ⟨l, rfl⟩ := bytes_all s
  exact ⟨l, rfl⟩
end Go.Proofs.YtijfncaphfaijaaGreatDoor
