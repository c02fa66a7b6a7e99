/- The laid table of der.kinds, as the engine asks it. The frame for a row that lists a table of functions: sizes, what is laid. Readers of arguments. -/
import Derived.Test.YtbgcpopmippbiaaGreatDoorUD
import Derived.LaidHandle
import Derived.Test.YtbgcpopmippbiaaGreatDoorRows
import Derived.Lay
import Derived.LaidMore
namespace Go.Proofs.YtbgcpopmippbiaaGreatDoor
open Go.Eng
set_option linter.unusedSimpArgs false
set_option maxRecDepth 10000

section
variable {P : Program} {w : World} {F : Nat} {t : TypeId}
theorem trod_int {H : Type} {enc : TypeId × Value → H} {b : Nat} {s : Nat → Bool} {h : Bool} {c : Value} {k : IntKind} {n : Int} {p : List MemPlace} (ht : P.underlying t = some (.int k)) (hx : DataW.trod enc P w b s h F t [c] = some (.lit (.int k n), p)) : c = .int k n := by
  cases F with
  | zero => simp [DataW.trod] at hx
  | succ F =>
    simp only [DataW.trod, ht] at hx
    cases c <;> simp at hx
    obtain ⟨h1, h2, _⟩ := hx
    obtain ⟨rfl, _⟩ := h1
    rw [h2]
theorem trod_func {c : Value} {ps rs : Array TypeId} {v : Bool} {x : UInt8} {r : List UInt8} {p : List MemPlace} (ht : P.underlying t = some (.func ps rs v)) (hx : DataW.trod (funcToken P) P w 0 (fun _ => true) true F t [c] = some (.held (x :: r), p)) :
    ∃ f fn, c = .func (.func f) #[] #[] ∧ P.funcs[f]? = some fn ∧ P.funcNamed fn.name = some f ∧ fn.name.toUTF8.data.toList = x :: r := by
  cases F with
  | zero => simp [DataW.trod] at hx
  | succ F =>
    simp only [DataW.trod, ht] at hx
    cases c <;> simp at hx
    exact funcToken_tells hx.1
theorem trod_pair {H : Type} {enc : TypeId × Value → H} {b : Nat} {s : Nat → Bool} {h : Bool} {c0 c1 : Value} {fs : Array Field} {f0 f1 : Field} {d0 d1 : DataW H} {p : List MemPlace} (ht : P.underlying t = some (.struct fs)) (hf : fs.toList = [f0, f1]) (o0 : f0.offset = 0) (o1 : f1.offset = 1)
    (s0 : P.cellsOf f0.type = 1) (s1 : P.cellsOf f1.type = 1) (hx : DataW.trod enc P w b s h F t [c0, c1] = some (.agg [d0, d1], p)) :
    ∃ F' p0 p1, DataW.trod enc P w b s h F' f0.type [c0] = some (d0, p0) ∧ DataW.trod enc P w b s h F' f1.type [c1] = some (d1, p1) := by
  cases F with
  | zero => simp [DataW.trod] at hx
  | succ F =>
    simp only [DataW.trod, ht] at hx
    split at hx
    · rw [hf] at hx
      simp only [List.mapM_cons, List.mapM_nil, o0, o1, s0, s1, List.drop_zero, List.take_succ_cons, List.take_zero, List.drop_succ_cons] at hx
      cases h0 : DataW.trod enc P w b s h F f0.type [c0] with
      | none => rw [h0] at hx; cases hx
      | some x0 =>
        cases h1 : DataW.trod enc P w b s h F f1.type [c1] with
        | none => rw [h0, h1] at hx; cases hx
        | some x1 =>
          rw [h0, h1] at hx
          simp at hx
          refine ⟨F, x0.2, x1.2, ?_, ?_⟩
          · rw [h0, ← hx.1.1]
          · rw [h1, ← hx.1.2]
    · cases hx
end

theorem mapM5 {β : Type} {f : Nat → Option β} {xs : List β} (h : (List.range 5).mapM f = some xs) : ∃ x0 x1 x2 x3 x4, xs = [x0, x1, x2, x3, x4] ∧ f 0 = some x0 ∧ f 1 = some x1 ∧ f 2 = some x2 ∧ f 3 = some x3 ∧ f 4 = some x4 := by
  have e : List.range 5 = [0, 1, 2, 3, 4] := rfl
  rw [e] at h
  simp only [List.mapM_cons, List.mapM_nil] at h
  cases h0 : f 0 with
  | none => rw [h0] at h; cases h
  | some x0 => cases h1 : f 1 with
    | none => rw [h0, h1] at h; cases h
    | some x1 => cases h2 : f 2 with
      | none => rw [h0, h1, h2] at h; cases h
      | some x2 => cases h3 : f 3 with
        | none => rw [h0, h1, h2, h3] at h; cases h
        | some x3 => cases h4 : f 4 with
          | none => rw [h0, h1, h2, h3, h4] at h; cases h
          | some x4 =>
            rw [h0, h1, h2, h3, h4] at h
            exact ⟨x0, x1, x2, x3, x4, (Option.some.inj h).symm, rfl, rfl, rfl, rfl, rfl⟩
theorem str_of_bytes {a b : String} (h : a.toUTF8.data.toList = b.toUTF8.data.toList) : a = b := by
  have h1 : a.toUTF8.data = b.toUTF8.data := Array.toList_inj.1 h
  have h2 : a.toUTF8 = b.toUTF8 := ByteArray.ext h1
  exact String.toByteArray_inj.1 h2
/-- A place of the table. -/
theorem kind_cell {w : World} {F : Nat} {c0 c1 : Value} {k : Int} {x : UInt8} {r : List UInt8} {p : List MemPlace} {f : FuncId} (nm : String) (hnm : nm.toUTF8.data.toList = x :: r) (hf : Tryz.prog.funcNamed nm = some f)
    (hx : DataW.trod (funcToken Tryz.prog) Tryz.prog w 0 (fun _ => true) true F 202 [c0, c1] = some (.agg [.lit (.int .i64 k), .held (x :: r)], p)) : c0 = .int .i64 k ∧ c1 = .func (.func f) #[] #[] := by
  obtain ⟨F', p0, p1, h0, h1⟩ := trod_pair Tryz.underlying202 rfl rfl rfl (by kernel_rfl) (by kernel_rfl) hx
  have e0 := trod_int (show Tryz.prog.underlying 3 = some (.int .i64) by kernel_rfl) h0
  obtain ⟨g, fn, e1, _, e3, e4⟩ := trod_func (show Tryz.prog.underlying 127 = some _ from Tryz.underlying127) h1
  have e5 : fn.name = nm := str_of_bytes (e4.trans hnm.symm)
  rw [e5, hf] at e3
  cases e3
  exact ⟨e0, e1⟩
theorem kinds_lay {W : World} (h : funcsAt Tryz.prog W "greatseal/der.kinds" (.agg [.agg [.lit (.int .i64 1), .iface "func" (.lit (.string [103, 114, 101, 97, 116, 115, 101, 97, 108, 47, 100, 101, 114, 46, 107, 105, 110, 100, 115, 36, 49]))], .agg [.lit (.int .i64 2), .iface "func" (.lit (.string [103, 114, 101, 97, 116, 115, 101, 97, 108, 47, 100, 101, 114, 46, 108, 101, 97, 115, 116]))], .agg [.lit (.int .i64 4), .iface "func" (.lit (.string [103, 114, 101, 97, 116, 115, 101, 97, 108, 47, 100, 101, 114, 46, 107, 105, 110, 100, 115, 36, 50]))], .agg [.lit (.int .i64 12), .iface "func" (.lit (.string [103, 114, 101, 97, 116, 115, 101, 97, 108, 47, 100, 101, 114, 46, 107, 105, 110, 100, 115, 36, 51]))], .agg [.lit (.int .i64 48), .iface "func" (.lit (.string [103, 114, 101, 97, 116, 115, 101, 97, 108, 47, 100, 101, 114, 46, 107, 105, 110, 100, 115, 36, 52]))]])) : LayOk W (fun b => b < W.heap.size) := by
  obtain ⟨g, t, cs, F, p, hg, ht, hv, hx⟩ := h
  have g0 : Tryz.prog.globalNamed "greatseal/der.kinds" = some 0 := by kernel_rfl
  obtain rfl : g = 0 := Option.some.inj (hg.symm.trans g0)
  have t0 : (Tryz.prog.globals[0]?).map (·.type) = some 265 := by kernel_rfl
  obtain rfl : t = 265 := Option.some.inj (ht.symm.trans t0)
  have hc : ∃ u v, W.heap[0]? = some (.cells cs u v) := by
    unfold World.var? at hv
    rw [g0] at hv
    simp only [Option.bind_some] at hv
    split at hv
    · rename_i cs' u v e; cases hv; exact ⟨u, v, e⟩
    · cases hv
  obtain ⟨u, v, hcell⟩ := hc
  have hlt : 0 < W.heap.size := by
    rw [Array.getElem?_eq_some_iff] at hcell
    exact hcell.1
  have hx' : DataW.trod (funcToken Tryz.prog) Tryz.prog W 0 (fun _ => true) true F 265 cs.toList = some (.agg [.agg [.lit (.int .i64 1), .held [103, 114, 101, 97, 116, 115, 101, 97, 108, 47, 100, 101, 114, 46, 107, 105, 110, 100, 115, 36, 49]], .agg [.lit (.int .i64 2), .held [103, 114, 101, 97, 116, 115, 101, 97, 108, 47, 100, 101, 114, 46, 108, 101, 97, 115, 116]], .agg [.lit (.int .i64 4), .held [103, 114, 101, 97, 116, 115, 101, 97, 108, 47, 100, 101, 114, 46, 107, 105, 110, 100, 115, 36, 50]], .agg [.lit (.int .i64 12), .held [103, 114, 101, 97, 116, 115, 101, 97, 108, 47, 100, 101, 114, 46, 107, 105, 110, 100, 115, 36, 51]], .agg [.lit (.int .i64 48), .held [103, 114, 101, 97, 116, 115, 101, 97, 108, 47, 100, 101, 114, 46, 107, 105, 110, 100, 115, 36, 52]]], p) := hx
  cases F with
  | zero => simp [DataW.trod] at hx'
  | succ F =>
    have c10 : Tryz.prog.cellsOf 265 = 10 := by kernel_rfl
    have c2 : Tryz.prog.cellsOf 202 = 2 := by kernel_rfl
    simp only [DataW.trod, Tryz.underlying265, c10, c2] at hx'
    split at hx'
    · rename_i hl
      match hcs : cs.toList, hl with
      | [a0, b0, a1, b1, a2, b2, a3, b3, a4, b4], _ =>
        rw [hcs] at hx'
        obtain ⟨xs, hm, hq⟩ := Option.map_eq_some_iff.1 hx'
        obtain ⟨x0, x1, x2, x3, x4, rfl, m0, m1, m2, m3, m4⟩ := mapM5 hm
        simp at hq
        obtain ⟨⟨q0, q1, q2, q3, q4⟩, _⟩ := hq
        obtain ⟨i0, j0⟩ := kind_cell (p := x0.2) "greatseal/der.kinds$1" (by kernel_rfl) (f := 339) (by kernel_rfl) (by rw [← q0]; exact m0)
        obtain ⟨i1, j1⟩ := kind_cell (p := x1.2) "greatseal/der.least" (by kernel_rfl) (f := 56) (by kernel_rfl) (by rw [← q1]; exact m1)
        obtain ⟨i2, j2⟩ := kind_cell (p := x2.2) "greatseal/der.kinds$2" (by kernel_rfl) (f := 340) (by kernel_rfl) (by rw [← q2]; exact m2)
        obtain ⟨i3, j3⟩ := kind_cell (p := x3.2) "greatseal/der.kinds$3" (by kernel_rfl) (f := 341) (by kernel_rfl) (by rw [← q3]; exact m3)
        obtain ⟨i4, j4⟩ := kind_cell (p := x4.2) "greatseal/der.kinds$4" (by kernel_rfl) (f := 344) (by kernel_rfl) (by rw [← q4]; exact m4)
        subst i0 j0 i1 j1 i2 j2 i3 j3 i4 j4
        intro y hy
        have hy' : y = (0, [.v (.int .i64 1), .fn 339 [], .v (.int .i64 2), .fn 56 [], .v (.int .i64 4), .fn 340 [], .v (.int .i64 12), .fn 341 [], .v (.int .i64 48), .fn 344 []]) := List.mem_singleton.1 hy
        subst hy'
        have hfn : ∀ f, Rep W (fun b => b < W.heap.size) (.fn f []) (.func (.func f) #[] #[]) := fun f => .fn f [] #[] rfl fun j d u h => by simp at h
        refine .pt _ _ (fun j => cs.getD j .nilFunc) (fun j hj => ⟨hlt, ?_⟩) (fun j d hd => ?_)
        · have hsz : cs.size = 10 := by rw [← Array.length_toList, hcs]; rfl
          have hj' : j < 10 := hj
          rw [add_lit]
          unfold World.cell?
          rw [hcell]
          show cs[j]? = some (cs.getD j .nilFunc)
          rw [Array.getElem?_eq_getElem (by omega), Array.getD, dif_pos (by omega)]
          rfl
        · have e : ∀ j, cs.getD j Value.nilFunc = cs.toList.getD j .nilFunc := fun j => by
            simp [Array.getD_eq_getD_getElem?, List.getD_eq_getElem?_getD]
          simp only [e, hcs]
          match j, hd with
          | 0, hd => cases hd; exact .v _ rfl
          | 1, hd => cases hd; exact hfn _
          | 2, hd => cases hd; exact .v _ rfl
          | 3, hd => cases hd; exact hfn _
          | 4, hd => cases hd; exact .v _ rfl
          | 5, hd => cases hd; exact hfn _
          | 6, hd => cases hd; exact .v _ rfl
          | 7, hd => cases hd; exact hfn _
          | 8, hd => cases hd; exact .v _ rfl
          | 9, hd => cases hd; exact hfn _
          | n + 10, hd => simp at hd
    · cases hx'
end Go.Proofs.YtbgcpopmippbiaaGreatDoor
namespace Go.Proofs.YtbgcpopmippbiaaGreatDoor
open Go.Eng Go.ChangeShapes Go.WideShapes Go.ChangeAt Go.RowKit
set_option linter.unusedSimpArgs false
set_option maxRecDepth 10000

/-- A string's bytes are within reach. -/
def strB (P : Program) (t : TypeId) (ds : List D) : Prop := P.underlying t = some .string → ∀ s : ByteArray, ds = [.v (.string s)] → s.size ≤ reachBytes
section
variable {H : Type} {enc : TypeId × Value → H} {P : Program} {w : World} {spare : Nat → Bool} {held : Bool}
theorem strB_of {F : Nat} {t : TypeId} {cs : List Value} {d : DataW H} {p : List MemPlace} {S : Nat → Prop} {x : List D} (h1 : DataW.trod enc P w 0 spare held F t cs = some (d, p)) (h2 : All2 (Rep w S) x cs) (hw : ∀ n ∈ d.weights P t, n ≤ reachBytes) : strB P t x := by
  intro ht s hx
  subst hx
  cases h2 with
  | cons h3 h4 =>
    cases h4
    cases h3
    cases F with
    | zero => simp [DataW.trod] at h1
    | succ F =>
      simp only [DataW.trod, ht] at h1
      split at h1
      · cases h1
        have := hw _ (List.mem_singleton.2 rfl)
        simpa using this
      · cases h1
theorem trodAll_comps2 {n : Nat} {r : Reach} {base : Nat} : ∀ (ts : List TypeId) (vs : List Value) (ds : List (DataW H)) (ps : List MemPlace), (∀ t ∈ ts, plainT P n t = true) → DataW.TrodAll enc P w 0 spare held ts vs ds ps →
    (∀ (j : Nat) t v, ts[j]? = some t → vs[j]? = some v → Value.okWide P w r base t v) → (∀ m ∈ DataW.weightsEach P ts ds, m ≤ reachBytes) →
    ∃ dss, All2 (shp P n) ts dss ∧ All2 (strB P) ts dss ∧ Comps w (fun b => b < w.heap.size) (List.zipWith (argC P) ts dss) vs []
  | [], vs, ds, ps, _, h, _, _ => by
    obtain ⟨rfl, _, _⟩ := trodAll_nil h
    exact ⟨[], .nil, .nil, .nil⟩
  | t :: ts, vs, ds, ps, hp, h, hv, hw => by
    obtain ⟨v, vs', d, ds', p, q, rfl, rfl, rfl, ⟨F, h1⟩, h2⟩ := trodAll_cons h
    have hw1 : ∀ m ∈ d.weights P t, m ≤ reachBytes := fun m hm => hw m (by simp [DataW.weightsEach, hm])
    obtain ⟨dss, h3, h3', h4⟩ := trodAll_comps2 ts vs' ds' q (fun t' ht => hp t' (by simp [ht])) h2 (fun j t' v' ht hv' => hv (j + 1) t' v' (by simpa using ht) (by simpa using hv')) (fun m hm => hw m (by simp [DataW.weightsEach, hm]))
    have hpt := hp t (by simp)
    obtain ⟨x, h5, h6, h7⟩ := trod_rep n F t _ _ hpt h1
    have hok := hv 0 t v rfl rfl
    refine ⟨x :: dss, .cons h5 h3, .cons (strB_of h1 h6 hw1) h3', ?_⟩
    simp only [List.zipWith_cons_cons, argC]
    cases hs : isStruct P t with
    | true =>
      obtain ⟨cs, rfl⟩ := okWide_agg hs hok
      have h8 : All2 (Rep w fun b => b < w.heap.size) x cs.toList := h6
      have := Comps.agg (CVs.of_rep h8) h4
      simpa using this
    | false =>
      have h8 := okWide_one hpt hs hok
      rw [h8] at h6
      match x, h6 with
      | [y], .cons h9 .nil => exact Comps.one (.d h9 .nil) h4
end
/-- A row that says 'true', and that the input reads as it did, from the contract: what is laid is given for each world. -/
theorem row_okL {H : Type} {enc : TypeId × Value → H} {C : Checked} {f : FuncId} {fn : Func} {s : ChangeSpec} {conds : List PathCond} (n : Nat) (tb : TypeId) (hl : laidOutB C.prog = true)
    (hts : (fn.params.toList.all fun t => C.prog.readableRec t && decide (t < C.prog.types.size) && plainT C.prog n t) = true) (hres : fn.resultTypes = #[tb]) (hu : C.prog.underlying tb = some .bool) (hs : s.vars = [])
    (hspec : ∀ ds : List (DataW H), ds.length = fn.params.toList.length → s.fn H (ds ++ []) = ⟨[.lit (.bool true)], ds, []⟩)
    (hm : ∀ dss, All2 (shp C.prog n) fn.params.toList dss → All2 (strB C.prog) fn.params.toList dss → Meets C.prog f (List.zipWith (argC C.prog) fn.params.toList dss) (rOne (vB true))) :
    ∀ (W : World) (base : Nat) (args : Array Value) (ds gs : List (DataW H)) (before : List MemPlace),
      (∀ (j : Nat) t v, fn.params[j]? = some t → args[j]? = some v → Value.okWide C.prog W .any base t v) →
      DataW.Whole enc C.prog fn.params.toList s.vars false W args.toList ds gs before →
      conds.all (PathCond.test C.prog ⟨fn.params.toList, ds, s.plain.varTypes C.prog, gs⟩) = true →
      (DataW.weightsEach C.prog (fn.params.toList ++ s.plain.varTypes C.prog) (ds ++ gs)).all (· ≤ reachBytes) = true → LayOk W (fun b => b < W.heap.size) →
      Calls C.prog f args W fun e W' => ∃ v, e = .returned v ∧ s.post enc C.prog fn false true false false W args v W' := by
  intro W base args ds gs before hval hW _ hwt hlay
  have hW' := hW
  have hlt := hW.lt
  obtain ⟨p, q, hA, hV, rfl, hfz, hnd⟩ := hW
  rw [hs] at hV
  obtain ⟨rfl, rfl⟩ := trodVars_none hV
  simp only [List.append_nil] at hW' hlt hwt
  have hvt : s.plain.varTypes C.prog = [] := by unfold ChangeSpec.plain; simp [hs, DataSpec.varTypes]
  rw [hvt, List.append_nil] at hwt
  simp only [List.all_eq_true, Bool.and_eq_true, decide_eq_true_eq] at hts hwt
  obtain ⟨dss, h1, h1', h2⟩ := trodAll_comps2 (n := n) (r := .any) (base := base) fn.params.toList args.toList ds p (fun t ht => (hts t ht).2) hA (fun j t v ht hv => hval j t v (by simpa using ht) (by simpa using hv)) hwt
  have hc := (hm dss h1 h1').2 W (fun b => b < W.heap.size) args.toList [] (fun _ h => h) hlay h2 .nil
  rw [Array.toArray_toList] at hc
  refine hc.mono fun e W' ⟨v, S', bs', he, hr, _, hfoot⟩ => ⟨v, he, ?_⟩
  have hB := hfoot.below
  have hlen : ds.length = fn.params.toList.length := trodAll_len _ _ _ _ hA
  have hv : v = .bool true := by
    have hr' : Comps W' S' [(false, [.d (.v (.bool true))])] [v] bs' := hr
    cases hr' with
    | one h t =>
      cases h with
      | d h _ => cases h; rfl
  subst hv
  refine ⟨ds, [], p, [], p, [], hW', ?_, ?_, ?_, hB.frame _, fun h => by cases h⟩
  · rw [hspec ds hlen, hres]
    exact trodAll_mk1 ⟨1, by simp [DataW.trod, Value.cells, hu]⟩
  · rw [hspec ds hlen]
    exact trodAll_below (hl := hl) hB _ _ _ _ (fun t ht => (hts t ht).1) hA hlt
  · rw [hspec ds hlen, hs]
    rfl

/-! ### A world in which all that is listed is laid -/
def kindsRow : Array Value := #[.int .i64 1, .func (.func 339) #[] #[], .int .i64 2, .func (.func 56) #[] #[], .int .i64 4, .func (.func 340) #[] #[], .int .i64 12, .func (.func 341) #[] #[], .int .i64 48, .func (.func 344) #[] #[]]
noncomputable def kinds0 (os : Os) : World :=
  { World.holding Tryz.prog os ⟨#[], #[], []⟩ with heap := (World.holding Tryz.prog os ⟨#[], #[], []⟩).heap.modify 0 fun o => match o with | .cells _ t fr => .cells kindsRow t fr | o => o }
noncomputable def kindsW (os : Os) (laid : List (String × DataW Unit)) : World := (kinds0 os).layVars Tryz.prog (laid.filter fun x => x.2.handleName?.isNone)
theorem kindsW_os (os : Os) (laid : List (String × DataW Unit)) : (kindsW os laid).os = os := World.layVars_os _ _ _
theorem kindsW_met {os : Os} {laid : List (String × DataW Unit)} (args : Array Value)
    (hf : (kinds0 os).layFits Tryz.prog (laid.filter fun x => x.2.handleName?.isNone) [] = true)
    (hi : (kinds0 os).layIfaces Tryz.prog (laid.filter fun x => x.2.handleName?.isNone) (kindsW os laid) = true)
    (hh : (laid.filter fun x => x.2.handleName?.isSome && x.2.funcsIn?.isNone).all (handleAtB Tryz.prog ((kindsW os laid).forCall (fun _ _ => 0) ⟨#[], args, []⟩).memory) = true)
    (hk : funcsRun Tryz.prog ((kindsW os laid).forCall (fun _ _ => 0) ⟨#[], args, []⟩).memory 8 ((funcsListed laid).map (·.1)) = some ((funcsListed laid).map (·.2.funcsOut))) :
    laidMetH Tryz.prog laid ((kindsW os laid).forCall (fun _ _ => 0) ⟨#[], args, []⟩).memory := by
  refine laidMetH_of_parts3 (fuel := 8) ?_ hh hk
  generalize hl : (laid.filter fun x => x.2.handleName?.isNone) = l at hf hi
  have e1 : (l.filter fun x => (l.map (·.1)).contains x.1) = l := List.filter_eq_self.2 fun x hx => List.contains_iff_mem.2 (List.mem_map.2 ⟨x, hx, rfl⟩)
  have e2 : (l.filter fun x => !(l.map (·.1)).contains x.1) = [] := List.filter_eq_nil_iff.2 fun x hx => by rw [List.contains_iff_mem.2 (List.mem_map.2 ⟨x, hx, rfl⟩)]; simp
  have h : laidMet Tryz.prog l (kindsW os laid) := laidMet_layVars (w0 := kinds0 os) (l.map (·.1)) [] (by rw [e1]; unfold kindsW; rw [hl]) (by rw [e1]; exact hf) (by rw [e1]; exact hi) (by rw [e2]; exact LaidIn.none)
  exact h.of_heap (by simp [World.memory, World.forCall, Input.heap])
theorem door_met (os : Os) (args : Array Value) : laidMetH Tryz.prog Rows.topFindsRow.laid ((kindsW os Rows.topFindsRow.laid).forCall (fun _ _ => 0) ⟨#[], args, []⟩).memory :=
  kindsW_met args (by kernel_rfl) (by kernel_rfl) (by kernel_rfl) (by kernel_rfl)
theorem door_shaped (os : Os) (args : Array Value) : ((kindsW os Rows.topFindsRow.laid).forCall (fun _ _ => 0) ⟨#[], args, []⟩).Shaped Tryz.prog := World.shaped_of_ZipB (by kernel_rfl) (by kernel_rfl)
theorem door_lay {W : World} (h : laidMetH Tryz.prog Rows.topFindsRow.laid W) : LayOk W (fun b => b < W.heap.size) := kinds_lay (laidMetH.funcs h (List.mem_of_getElem? (i := 6) rfl))
end Go.Proofs.YtbgcpopmippbiaaGreatDoor
namespace Go.Proofs.YtbgcpopmippbiaaGreatDoor
open Go.Eng
set_option linter.unusedSimpArgs false
set_option maxRecDepth 10000

theorem arg_recsT (ds : List D) : argC Tryz.prog 22 ds = (false, ds.map .d) := by
  unfold argC; rw [show isStruct Tryz.prog 22 = false from by kernel_rfl]
theorem read_strL {ds : List D} (h : shpG tys 10 9 ds) : ∃ l : Bs, ds = [dT l] ∧ l.length ≤ 9223372036854775807 := by
  simp -dsimp -implicitDefEqProofs only [shpG, tileG, go_sem] at h
  obtain ⟨s, rfl, hs⟩ := h
  obtain ⟨l, rfl⟩ := bytes_all s
  exact ⟨l, rfl, hs⟩
theorem read_recsT {ds : List D} (h : shpG tys 10 22 ds) : ∃ l : List Rec, ds = [recsD l] := by
  simp -dsimp -implicitDefEqProofs only [shpG, tileG, go_sem] at h
  obtain ⟨rows, rfl, _, hr⟩ := h
  obtain ⟨l, rfl⟩ := read_rows (cells := Rec.cells) fun r hr' => by
    obtain ⟨_, _, ⟨a, rfl, _⟩, rfl, _, _, ⟨b, rfl, _⟩, rfl, _, _, ⟨c, rfl, _⟩, rfl, _, _, ⟨d, rfl, _⟩, rfl, rfl⟩ := hr r hr'
    obtain ⟨l, rfl⟩ := bytes_all a
    obtain ⟨m, rfl⟩ := bytes_all c
    exact ⟨⟨l, b, m, d⟩, rfl⟩
  exact ⟨l, rfl⟩
theorem arg_boolT (ds : List D) : argC Tryz.prog 4 ds = (false, ds.map .d) := by
  unfold argC; rw [show isStruct Tryz.prog 4 = false from by kernel_rfl]
theorem read_boolT {ds : List D} (h : shpG tys 10 4 ds) : ∃ b : Bool, ds = [dB b] := h
end Go.Proofs.YtbgcpopmippbiaaGreatDoor
