/- Types by a table; specifications by a table. -/
import Derived.Test.YtfgejhlgenaniaaDoorEngO
import Derived.KernelRfl
namespace Go.Eng

def tyL : List (TypeId × TI) → TypeId → Option TI
  | [], _ => none
  | (k, x) :: r, t => if t = k then some x else tyL r t

def zeroB : AV → Value → Bool
  | .nils _, .slice none 0 0 => true
  | .d (.v (.int k n)), .int k' n' => k == k' && n == n'
  | .d (.v (.bool b)), .bool b' => b == b'
  | .d (.v (.string s)), .string s' => s.data.toList == s'.data.toList
  | .d (.v (.pointer none)), .pointer none => true
  | .d (.v .nilFunc), .nilFunc => true
  | _, _ => false

def zerosB : List AV → List Value → Bool
  | [], [] => true
  | x :: xs, v :: vs => zeroB x v && zerosB xs vs
  | _, _ => false

def descB (P : Program) (t : TypeId) (d : TDesc) : Bool := match d, P.underlying t with
  | .int k, some (.int k') => k == k'
  | .bool, some .bool => true
  | .str, some .string => true
  | .ptr, some (.pointer e) => e == P.pointee t
  | .other, some (.func ..) => true
  | .slice e, some (.slice e') => e == e'
  | .struct fs, some (.struct flds) => fs == flds.toList.map (fun f => (f.offset, f.type)) && flds.toList.all (fun f => f.name != "_") && !P.eqGuardType P.depth t && !P.stoodInHeld t && flds.toList.all (fun f => (P.info? f.type).isSome)
  | _, _ => false

def tyCheck (P : Program) (t : TypeId) (ti : TI) : Bool := match P.info? t with
  | some i => i.size == ti.size && i.bytes == ti.bytes && (match i.zero with
    | some z => zerosB ti.zero z.cells.toList
    | none => false) && descB P t ti.desc
  | none => false

def tyCheckAll (P : Program) : List (TypeId × TI) → Bool
  | [] => true
  | (t, ti) :: r => tyCheck P t ti && tyCheckAll P r

theorem zeroB_ok {x : AV} {v : Value} (h : zeroB x v = true) : zeroRep x v := by
  unfold zeroB at h
  split at h <;> first | rfl | skip
  · simp at h; obtain ⟨rfl, rfl⟩ := h; exact ⟨rfl, rfl⟩
  · simp at h; subst h; exact ⟨rfl, rfl⟩
  · rename_i s s'
    have e : s = s' := by
      cases s with | mk a => cases s' with | mk b => simp at h; congr
    subst e
    exact ⟨rfl, rfl⟩
  · exact ⟨rfl, rfl⟩
  · exact ⟨rfl, rfl⟩
  · cases h

theorem zerosB_ok : ∀ {xs : List AV} {vs : List Value}, zerosB xs vs = true → All2 zeroRep xs vs
  | [], [], _ => .nil
  | x :: xs, v :: vs, h => by
    simp only [zerosB, Bool.and_eq_true] at h
    exact .cons (zeroB_ok h.1) (zerosB_ok h.2)
  | [], _ :: _, h => by cases h
  | _ :: _, [], h => by cases h

theorem descB_ok {P : Program} {t : TypeId} {d : TDesc} (h : descB P t d = true) : DescOk P t d := by
  unfold descB at h
  split at h
  · rename_i k k' hk; simp at h; subst h; exact hk
  · rename_i hk; exact hk
  · rename_i hk; exact hk
  · rename_i e hk; simp only [beq_iff_eq] at h; show P.underlying t = _; rw [hk, ← h]
  · rename_i hk; exact ⟨_, hk, fun fs e => (by cases e), fun n e e' => (by cases e')⟩
  · rename_i e e' hk; simp at h; subst h; exact hk
  · rename_i fs flds hk
    simp only [Bool.and_eq_true, beq_iff_eq, Bool.not_eq_true', List.all_eq_true, bne_iff_ne] at h
    exact ⟨flds, hk, h.1.1.1.1, h.1.1.1.2, h.1.1.2, h.1.2, h.2⟩
  · cases h

theorem tyCheck_ok {P : Program} {t : TypeId} {ti : TI} (h : tyCheck P t ti = true) : TyOk P t ti := by
  unfold tyCheck at h
  split at h
  · rename_i i hi
    simp only [Bool.and_eq_true, beq_iff_eq] at h
    obtain ⟨⟨⟨h1, h2⟩, h3⟩, h4⟩ := h
    split at h3
    · rename_i z hz
      exact ⟨⟨i, z, hi, h1, h2, hz, zerosB_ok h3⟩, descB_ok h4⟩
    · cases h3
  · cases h

theorem tyL_ok {P : Program} : ∀ {tbl : List (TypeId × TI)}, tyCheckAll P tbl = true → ∀ t ti, tyL tbl t = some ti → TyOk P t ti
  | [], _, t, ti, h => by cases h
  | (k, x) :: r, hc, t, ti, h => by
    simp only [tyCheckAll, Bool.and_eq_true] at hc
    simp only [tyL] at h
    split at h
    · rename_i e
      subst e
      cases h
      exact tyCheck_ok hc.1
    · exact tyL_ok hc.2 t ti h

def extL : List (FuncId × Ext) → FuncId → Option Ext
  | [], _ => none
  | (k, x) :: r, t => if t = k then some x else extL r t

def ExtAll (P : Program) : List (FuncId × Ext) → Prop
  | [] => True
  | (f, e) :: r => ExtOk P f e ∧ ExtAll P r

theorem extL_ok {P : Program} : ∀ {tbl : List (FuncId × Ext)}, ExtAll P tbl → ∀ f e, extL tbl f = some e → ExtOk P f e
  | [], _, f, e, h => by cases h
  | (k, x) :: r, hc, f, e, h => by
    simp only [extL] at h
    split at h
    · rename_i hk
      subst hk
      cases h
      exact hc.1
    · exact extL_ok hc.2 f e h

theorem ctxOk_of {P : Program} {tbl : List (TypeId × TI)} {xt : List (FuncId × Ext)} (h1 : tyCheckAll P tbl = true) (h2 : ExtAll P xt) : CtxOk P ⟨fun t => tyL tbl t, fun f => extL xt f⟩ :=
  ⟨fun t ti h => tyL_ok h1 t ti h, fun f e h => extL_ok h2 f e h⟩

end Go.Eng
