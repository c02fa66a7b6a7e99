
/- The laid table of der.kinds, as the engine asks it. -/
import Derived.Test.YtijfncaphfaijaaGreatDoorQF
import Derived.LaidHandle
namespace Go.Proofs.YtijfncaphfaijaaGreatDoor
open Go.Eng
set_option linter.unusedSimpArgs false
set_option maxRecDepth 10000

section
variable {P : Program} {w : World} {F : Nat} {t : TypeId}
theorem trod_int {H : Type} {enc : TypeId × Value → H} {b : Nat} {s : Nat → Bool} {h : Bool} {c : Value} {k : IntKind} {n : Int} {p : List MemPlace} (ht : P.underlying t = some (.int k)) (hx : DataW.trod enc P w b s h F t [c] = some (.lit (.int k n), p)) : c = .int k n := by
  cases F with
  | zero => simp [DataW.trod] at hx
  | succ F =>
    simp only [DataW.trod, ht] at hx
    cases c <;> simp at hx
    obtain ⟨h1, h2, _⟩ := hx
    obtain ⟨rfl, _⟩ := h1
    rw [h2]
theorem trod_func {c : Value} {ps rs : Array TypeId} {v : Bool} {x : UInt8} {r : List UInt8} {p : List MemPlace} (ht : P.underlying t = some (.func ps rs v)) (hx : DataW.trod (funcToken P) P w 0 (fun _ => true) true F t [c] = some (.held (x :: r), p)) :
    ∃ f fn, c = .func (.func f) #[] #[] ∧ P.funcs[f]? = some fn ∧ P.funcNamed fn.name = some f ∧ fn.name.toUTF8.data.toList = x :: r := by
  cases F with
  | zero => simp [DataW.trod] at hx
  | succ F =>
    simp only [DataW.trod, ht] at hx
    cases c <;> simp at hx
    exact funcToken_tells hx.1
theorem trod_pair {H : Type} {enc : TypeId × Value → H} {b : Nat} {s : Nat → Bool} {h : Bool} {c0 c1 : Value} {fs : Array Field} {f0 f1 : Field} {d0 d1 : DataW H} {p : List MemPlace} (ht : P.underlying t = some (.struct fs)) (hf : fs.toList = [f0, f1]) (o0 : f0.offset = 0) (o1 : f1.offset = 1)
    (s0 : P.cellsOf f0.type = 1) (s1 : P.cellsOf f1.type = 1) (hx : DataW.trod enc P w b s h F t [c0, c1] = some (.agg [d0, d1], p)) :
    ∃ F' p0 p1, DataW.trod enc P w b s h F' f0.type [c0] = some (d0, p0) ∧ DataW.trod enc P w b s h F' f1.type [c1] = some (d1, p1) := by
  cases F with
  | zero => simp [DataW.trod] at hx
  | succ F =>
    simp only [DataW.trod, ht] at hx
    split at hx
    · rw [hf] at hx
      simp only [List.mapM_cons, List.mapM_nil, o0, o1, s0, s1, List.drop_zero, List.take_succ_cons, List.take_zero, List.drop_succ_cons] at hx
      cases h0 : DataW.trod enc P w b s h F f0.type [c0] with
      | none => rw [h0] at hx; cases hx
      | some x0 =>
        cases h1 : DataW.trod enc P w b s h F f1.type [c1] with
        | none => rw [h0, h1] at hx; cases hx
        | some x1 =>
          rw [h0, h1] at hx
          simp at hx
          refine ⟨F, x0.2, x1.2, ?_, ?_⟩
          · rw [h0, ← hx.1.1]
          · rw [h1, ← hx.1.2]
    · cases hx
end

theorem mapM5 {β : Type} {f : Nat → Option β} {xs : List β} (h : (List.range 5).mapM f = some xs) : ∃ x0 x1 x2 x3 x4, xs = [x0, x1, x2, x3, x4] ∧ f 0 = some x0 ∧ f 1 = some x1 ∧ f 2 = some x2 ∧ f 3 = some x3 ∧ f 4 = some x4 := by
  have e : List.range 5 = [0, 1, 2, 3, 4] := rfl
  rw [e] at h
  simp only [List.mapM_cons, List.mapM_nil] at h
  cases h0 : f 0 with
  | none => rw [h0] at h; cases h
  | some x0 => cases h1 : f 1 with
    | none => rw [h0, h1] at h; cases h
    | some x1 => cases h2 : f 2 with
      | none => rw [h0, h1, h2] at h; cases h
      | some x2 => cases h3 : f 3 with
        | none => rw [h0, h1, h2, h3] at h; cases h
        | some x3 => cases h4 : f 4 with
          | none => rw [h0, h1, h2, h3, h4] at h; cases h
          | some x4 =>
            rw [h0, h1, h2, h3, h4] at h
            exact ⟨x0, x1, x2, x3, x4, (Option.some.inj h).symm, rfl, rfl, rfl, rfl, rfl⟩
theorem str_of_bytes {a b : String} (h : a.toUTF8.data.toList = b.toUTF8.data.toList) : a = b := by
  have h1 : a.toUTF8.data = b.toUTF8.data := Array.toList_inj.1 h
  have h2 : a.toUTF8 = b.toUTF8 := ByteArray.ext h1
  exact String.toByteArray_inj.1 h2
/-- A place of the table. -/
theorem kind_cell {w : World} {F : Nat} {c0 c1 : Value} {k : Int} {x : UInt8} {r : List UInt8} {p : List MemPlace} {f : FuncId} (nm : String) (hnm : nm.toUTF8.data.toList = x :: r) (hf : Tryz.prog.funcNamed nm = some f)
    (hx : DataW.trod (funcToken Tryz.prog) Tryz.prog w 0 (fun _ => true) true F 173 [c0, c1] = some (.agg [.lit (.int .i64 k), .held (x :: r)], p)) : c0 = .int .i64 k ∧ c1 = .func (.func f) #[] #[] := by
  obtain ⟨F', p0, p1, h0, h1⟩ := trod_pair Tryz.underlying173 rfl rfl rfl (by kernel_rfl) (by kernel_rfl) hx
  have e0 := trod_int (show Tryz.prog.underlying 3 = some (.int .i64) by kernel_rfl) h0
  obtain ⟨g, fn, e1, _, e3, e4⟩ := trod_func (show Tryz.prog.underlying 121 = some _ from Tryz.underlying121) h1
  have e5 : fn.name = nm := str_of_bytes (e4.trans hnm.symm)
  rw [e5, hf] at e3
  cases e3
  exact ⟨e0, e1⟩
theorem kinds_lay {W : World} (h : funcsAt Tryz.prog W "greatseal/der.kinds" (.agg [.agg [.lit (.int .i64 1), .iface "func" (.lit (.string [103, 114, 101, 97, 116, 115, 101, 97, 108, 47, 100, 101, 114, 46, 107, 105, 110, 100, 115, 36, 49]))], .agg [.lit (.int .i64 2), .iface "func" (.lit (.string [103, 114, 101, 97, 116, 115, 101, 97, 108, 47, 100, 101, 114, 46, 108, 101, 97, 115, 116]))], .agg [.lit (.int .i64 4), .iface "func" (.lit (.string [103, 114, 101, 97, 116, 115, 101, 97, 108, 47, 100, 101, 114, 46, 107, 105, 110, 100, 115, 36, 50]))], .agg [.lit (.int .i64 12), .iface "func" (.lit (.string [103, 114, 101, 97, 116, 115, 101, 97, 108, 47, 100, 101, 114, 46, 107, 105, 110, 100, 115, 36, 51]))], .agg [.lit (.int .i64 48), .iface "func" (.lit (.string [103, 114, 101, 97, 116, 115, 101, 97, 108, 47, 100, 101, 114, 46, 107, 105, 110, 100, 115, 36, 52]))]])) : LayOk W (fun b => b < W.heap.size) := by
  obtain ⟨g, t, cs, F, p, hg, ht, hv, hx⟩ := h
  have g0 : Tryz.prog.globalNamed "greatseal/der.kinds" = some 0 := by kernel_rfl
  obtain rfl : g = 0 := Option.some.inj (hg.symm.trans g0)
  have t0 : (Tryz.prog.globals[0]?).map (·.type) = some 222 := by kernel_rfl
  obtain rfl : t = 222 := Option.some.inj (ht.symm.trans t0)
  have hc : ∃ u v, W.heap[0]? = some (.cells cs u v) := by
    unfold World.var? at hv
    rw [g0] at hv
    simp only [Option.bind_some] at hv
    split at hv
    · rename_i cs' u v e; cases hv; exact ⟨u, v, e⟩
    · cases hv
  obtain ⟨u, v, hcell⟩ := hc
  have hlt : 0 < W.heap.size := by
    rw [Array.getElem?_eq_some_iff] at hcell
    exact hcell.1
  have hx' : DataW.trod (funcToken Tryz.prog) Tryz.prog W 0 (fun _ => true) true F 222 cs.toList = some (.agg [.agg [.lit (.int .i64 1), .held [103, 114, 101, 97, 116, 115, 101, 97, 108, 47, 100, 101, 114, 46, 107, 105, 110, 100, 115, 36, 49]], .agg [.lit (.int .i64 2), .held [103, 114, 101, 97, 116, 115, 101, 97, 108, 47, 100, 101, 114, 46, 108, 101, 97, 115, 116]], .agg [.lit (.int .i64 4), .held [103, 114, 101, 97, 116, 115, 101, 97, 108, 47, 100, 101, 114, 46, 107, 105, 110, 100, 115, 36, 50]], .agg [.lit (.int .i64 12), .held [103, 114, 101, 97, 116, 115, 101, 97, 108, 47, 100, 101, 114, 46, 107, 105, 110, 100, 115, 36, 51]], .agg [.lit (.int .i64 48), .held [103, 114, 101, 97, 116, 115, 101, 97, 108, 47, 100, 101, 114, 46, 107, 105, 110, 100, 115, 36, 52]]], p) := hx
  cases F with
  | zero => simp [DataW.trod] at hx'
  | succ F =>
    have c10 : Tryz.prog.cellsOf 222 = 10 := by kernel_rfl
    have c2 : Tryz.prog.cellsOf 173 = 2 := by kernel_rfl
    simp only [DataW.trod, Tryz.underlying222, c10, c2] at hx'
    split at hx'
    · rename_i hl
      match hcs : cs.toList, hl with
      | [a0, b0, a1, b1, a2, b2, a3, b3, a4, b4], _ =>
        rw [hcs] at hx'
        obtain ⟨xs, hm, hq⟩ := Option.map_eq_some_iff.1 hx'
        obtain ⟨x0, x1, x2, x3, x4, rfl, m0, m1, m2, m3, m4⟩ := mapM5 hm
        simp at hq
        obtain ⟨⟨q0, q1, q2, q3, q4⟩, _⟩ := hq
        obtain ⟨i0, j0⟩ := kind_cell (p := x0.2) "greatseal/der.kinds$1" (by kernel_rfl) (f := 285) (by kernel_rfl) (by rw [← q0]; exact m0)
        obtain ⟨i1, j1⟩ := kind_cell (p := x1.2) "greatseal/der.least" (by kernel_rfl) (f := 69) (by kernel_rfl) (by rw [← q1]; exact m1)
        obtain ⟨i2, j2⟩ := kind_cell (p := x2.2) "greatseal/der.kinds$2" (by kernel_rfl) (f := 286) (by kernel_rfl) (by rw [← q2]; exact m2)
        obtain ⟨i3, j3⟩ := kind_cell (p := x3.2) "greatseal/der.kinds$3" (by kernel_rfl) (f := 287) (by kernel_rfl) (by rw [← q3]; exact m3)
        obtain ⟨i4, j4⟩ := kind_cell (p := x4.2) "greatseal/der.kinds$4" (by kernel_rfl) (f := 290) (by kernel_rfl) (by rw [← q4]; exact m4)
        subst i0 j0 i1 j1 i2 j2 i3 j3 i4 j4
        intro y hy
        have hy' : y = (0, [.v (.int .i64 1), .fn 285 [], .v (.int .i64 2), .fn 69 [], .v (.int .i64 4), .fn 286 [], .v (.int .i64 12), .fn 287 [], .v (.int .i64 48), .fn 290 []]) := List.mem_singleton.1 hy
        subst hy'
        have hfn : ∀ f, Rep W (fun b => b < W.heap.size) (.fn f []) (.func (.func f) #[] #[]) := fun f => .fn f [] #[] rfl fun j d u h => by simp at h
        refine .pt _ _ (fun j => cs.getD j .nilFunc) (fun j hj => ⟨hlt, ?_⟩) (fun j d hd => ?_)
        · have hsz : cs.size = 10 := by rw [← Array.length_toList, hcs]; rfl
          have hj' : j < 10 := hj
          rw [add_lit]
          unfold World.cell?
          rw [hcell]
          show cs[j]? = some (cs.getD j .nilFunc)
          rw [Array.getElem?_eq_getElem (by omega), Array.getD, dif_pos (by omega)]
          rfl
        · have e : ∀ j, cs.getD j Value.nilFunc = cs.toList.getD j .nilFunc := fun j => by
            simp [Array.getD_eq_getD_getElem?, List.getD_eq_getElem?_getD]
          simp only [e, hcs]
          match j, hd with
          | 0, hd => cases hd; exact .v _ rfl
          | 1, hd => cases hd; exact hfn _
          | 2, hd => cases hd; exact .v _ rfl
          | 3, hd => cases hd; exact hfn _
          | 4, hd => cases hd; exact .v _ rfl
          | 5, hd => cases hd; exact hfn _
          | 6, hd => cases hd; exact .v _ rfl
          | 7, hd => cases hd; exact hfn _
          | 8, hd => cases hd; exact .v _ rfl
          | 9, hd => cases hd; exact hfn _
          | n + 10, hd => simp at hd
    · cases hx'
end Go.Proofs.YtijfncaphfaijaaGreatDoor
