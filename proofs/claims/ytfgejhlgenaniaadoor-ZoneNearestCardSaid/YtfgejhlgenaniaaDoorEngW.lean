/- What is handed in by a row's reader, as data; a row from a contract. -/
import Derived.Test.YtfgejhlgenaniaaDoorEngV
import Derived.ProofKit
namespace Go.Eng
open Go.ChangeShapes Go.WideShapes Go.ChangeAt Go.RowKit

def tile (q : TypeId → List D → Prop) : List Field → List D → Prop
  | [], ds => ds = []
  | f :: fs, ds => ∃ a b, q f.type a ∧ ds = a ++ b ∧ tile q fs b

/-- The shape of a type's cells. -/
def shp (P : Program) : Nat → TypeId → List D → Prop
  | 0, _, _ => False
  | n + 1, t, ds => match P.underlying t with
    | some .bool => ∃ b, ds = [.v (.bool b)]
    | some (.int k) => ∃ x, ds = [.v (.int k x)] ∧ k.min ≤ x ∧ x ≤ k.max
    | some .string => ∃ s : ByteArray, ds = [.v (.string s)] ∧ s.size ≤ maxLen
    | some (.slice e) => ∃ rows : List (List D), ds = [.vec (P.cellsOf e) rows] ∧ rows.length ≤ maxLen ∧ ∀ r ∈ rows, shp P n e r
    | some (.struct fs) => tile (shp P n) fs.toList ds
    | _ => False

def tiled (P : Program) : Nat → List Field → Nat → Bool
  | off, [], k => off == k
  | off, f :: fs, k => f.offset == off && tiled P (off + P.cellsOf f.type) fs k

/-- Types of integers, bools, strings, structs and slices of these. -/
def plainT (P : Program) : Nat → TypeId → Bool
  | 0, _ => false
  | n + 1, t => match P.underlying t with
    | some .bool | some (.int _) | some .string => P.cellsOf t == 1
    | some (.slice e) => P.cellsOf t == 1 && plainT P n e
    | some (.struct fs) => tiled P 0 fs.toList (P.cellsOf t) && fs.toList.all fun f => plainT P n f.type
    | _ => false

def isStruct (P : Program) (t : TypeId) : Bool := match P.underlying t with
  | some (.struct _) => true
  | _ => false

theorem cell_lt {w : World} {a : Addr} {v : Value} (h : w.cell? a = some v) : a.block < w.heap.size := by
  unfold World.cell? at h
  split at h
  · rename_i e
    exact (Array.getElem?_eq_some_iff.1 e).1
  · cases h

section
variable {H : Type} {enc : TypeId × Value → H} {P : Program} {w : World} {spare : Nat → Bool} {held : Bool}

theorem trod_tile {q : TypeId → List D → Prop} {S : Nat → Prop} {cs : List Value} {k : Nat} (hk : cs.length = k) : ∀ (fs : List Field) (off : Nat), tiled P off fs k = true →
    (∀ f ∈ fs, ∃ ds, q f.type ds ∧ All2 (Rep w S) ds ((cs.drop f.offset).take (P.cellsOf f.type))) → ∃ ds, tile q fs ds ∧ All2 (Rep w S) ds (cs.drop off)
  | [], off, ht, _ => by
    have : off = k := by simpa [tiled] using ht
    exact ⟨[], rfl, by rw [List.drop_eq_nil_of_le (by omega)]; exact .nil⟩
  | f :: fs, off, ht, h => by
    simp only [tiled, Bool.and_eq_true, beq_iff_eq] at ht
    obtain ⟨ho, ht⟩ := ht
    obtain ⟨a, ha1, ha2⟩ := h f (by simp)
    obtain ⟨b, hb1, hb2⟩ := trod_tile hk fs _ ht fun g hg => h g (by simp [hg])
    refine ⟨a ++ b, ⟨a, b, ha1, rfl, hb1⟩, ?_⟩
    rw [ho] at ha2
    have e : cs.drop off = (cs.drop off).take (P.cellsOf f.type) ++ cs.drop (off + P.cellsOf f.type) := by
      rw [← List.drop_drop, List.take_append_drop]
    rw [e]
    exact ha2.append hb2

theorem choose_get {α : Type} {p : Nat → α → Prop} : ∀ {n : Nat}, (∀ i, i < n → ∃ x, p i x) → ∃ l : List α, l.length = n ∧ ∀ (i : Nat) (x : α), l[i]? = some x → p i x
  | 0, _ => ⟨[], rfl, fun i x h => by simp at h⟩
  | n + 1, h => by
    obtain ⟨l, hl, hp⟩ := choose_get (n := n) fun i hi => h i (by omega)
    obtain ⟨x, hx⟩ := h n (by omega)
    refine ⟨l ++ [x], by simp [hl], fun i y hy => ?_⟩
    by_cases hi : i < l.length
    · rw [List.getElem?_append_left hi] at hy; exact hp i y hy
    · rw [List.getElem?_append_right (by omega)] at hy
      by_cases he : i - l.length = 0
      · rw [he] at hy; simp at hy; subst hy
        have : i = n := by omega
        subst this; exact hx
      · rw [List.getElem?_eq_none (by simp; omega)] at hy; cases hy

theorem trod_rep : ∀ (n : Nat) (F : Nat) (t : TypeId) (cs : List Value) (x : DataW H × List MemPlace), plainT P n t = true → DataW.trod enc P w 0 spare held F t cs = some x →
    ∃ ds, shp P n t ds ∧ All2 (Rep w fun b => b < w.heap.size) ds cs ∧ cs.length = P.cellsOf t
  | 0, _, _, _, _, hp, _ => by cases hp
  | n + 1, F, t, cs, x, hp, h => by
    unfold plainT at hp
    unfold shp
    split at hp
    · rename_i hu
      obtain ⟨b, rfl, _⟩ := DataW.trod_bool hu h
      exact ⟨[.v (.bool b)], ⟨b, rfl⟩, .cons (.v _ rfl) .nil, by simpa using (by simpa using hp : P.cellsOf t = 1).symm⟩
    · rename_i k hu
      obtain ⟨m, rfl, _, hw⟩ := DataW.trod_int hu h
      simp only [Lit.wf, Bool.and_eq_true, decide_eq_true_eq] at hw
      exact ⟨[.v (.int k m)], ⟨m, rfl, hw⟩, .cons (.v _ rfl) .nil, by simpa using (by simpa using hp : P.cellsOf t = 1).symm⟩
    · rename_i hu
      obtain ⟨s, rfl, _, hw⟩ := DataW.trod_string hu h
      exact ⟨[.v (.string s)], ⟨s, rfl, hw⟩, .cons (.v _ rfl) .nil, by simpa using (by simpa using hp : P.cellsOf t = 1).symm⟩
    · rename_i e hu
      simp only [Bool.and_eq_true, beq_iff_eq] at hp
      obtain ⟨hp1, hp⟩ := hp
      rcases DataW.trod_slice hu h with ⟨rfl, _⟩ | ⟨a, len, cap, elems, rest, m, rfl, rfl, _, _, h1, h2, h3, h4, _⟩
      · exact ⟨[.vec (P.cellsOf e) []], ⟨[], rfl, by simp, by simp⟩,
          .cons (.vec (P.cellsOf e) [] none 0 (fun _ _ => Go.undef) (by simp) (by simp) (by simp) (fun i j hi => by simp at hi) (fun i j r d hi => by simp at hi)) .nil, by simpa using hp1.symm⟩
      · have each : ∀ i, i < len → ∃ ds : List D, shp P n e ds ∧ ∃ cs', w.cells? 0 (a.add (i * P.cellsOf e)) (P.cellsOf e) = some cs' ∧ All2 (Rep w fun b => b < w.heap.size) ds cs' := fun i hi => by
          have h5 := h4 i hi
          rw [List.getElem?_eq_getElem (by omega)] at h5
          obtain ⟨cs', h6, h7⟩ := Option.bind_eq_some_iff.1 h5
          obtain ⟨ds, h8, h9, _⟩ := trod_rep n m e cs' _ hp h7
          exact ⟨ds, h8, cs', h6, h9⟩
        obtain ⟨rows, hl, hr⟩ := choose_get each
        have hr' : ∀ r ∈ rows, shp P n e r := fun r hr0 => by
          obtain ⟨i, hi⟩ := List.getElem?_of_mem hr0
          exact (hr i r hi).1
        have hlen : ∀ r ∈ rows, r.length = P.cellsOf e := fun r hr0 => by
          obtain ⟨i, hi⟩ := List.getElem?_of_mem hr0
          obtain ⟨_, cs', h6, h7⟩ := hr i r hi
          rw [h7.len]; exact (World.cells?_some h6).2.1
        subst hl
        refine ⟨[.vec (P.cellsOf e) rows], ⟨rows, rfl, by omega, hr'⟩, .cons ?_ .nil, by simpa using hp1.symm⟩
        refine .vec (P.cellsOf e) rows (some a) cap (fun i j => (w.cell? (a.add (i * P.cellsOf e + j))).getD Go.undef) h1 h2 hlen (fun i j hi hj => ?_) (fun i j r d hi hj => ?_)
        · obtain ⟨_, cs', h6, h7⟩ := hr i rows[i] (List.getElem?_eq_getElem hi)
          have h8 := (World.cells?_some h6).2.2 j hj
          rw [add_add, List.getElem?_eq_getElem (by rw [(World.cells?_some h6).2.1]; exact hj)] at h8
          refine ⟨a, rfl, ?_, by rw [h8]; rfl⟩
          have := cell_lt h8
          rwa [block_add] at this
        · obtain ⟨_, cs', h6, h7⟩ := hr i r hi
          obtain ⟨u, hu', h9⟩ := h7.get hj
          have hj' : j < P.cellsOf e := by
            rw [← (World.cells?_some h6).2.1]; exact (List.getElem?_eq_some_iff.1 hu').1
          have h8 := (World.cells?_some h6).2.2 j hj'
          rw [add_add, hu'] at h8
          rw [h8]; exact h9
    · rename_i fs hu
      simp only [Bool.and_eq_true, List.all_eq_true] at hp
      obtain ⟨hp1, hp⟩ := hp
      obtain ⟨xs, m, rfl, _, hcl, hxl, h5⟩ := DataW.trod_struct hu h
      obtain ⟨ds, h1, h2⟩ := trod_tile (q := shp P n) (w := w) (S := fun b => b < w.heap.size) hcl fs.toList 0 hp1 fun f hf => by
        obtain ⟨i, hi⟩ := List.getElem?_of_mem hf
        have hi' : fs[i]? = some f := by simpa using hi
        have h6 := h5 i f hi'
        have hil : i < xs.length := by rw [hxl]; exact (Array.getElem?_eq_some_iff.1 hi').1
        rw [List.getElem?_eq_getElem hil] at h6
        obtain ⟨ds, h7, h8, _⟩ := trod_rep n m f.type _ _ (hp f hf) h6
        exact ⟨ds, h7, h8⟩
      exact ⟨ds, h1, by simpa using h2, hcl⟩
    · cases hp

/-- An argument of such a type. -/
def argC (P : Program) (t : TypeId) (ds : List D) : Bool × List CV := (isStruct P t, ds.map .d)

theorem CVs.of_rep {S : Nat → Prop} : ∀ {ds : List D} {us : List Value}, All2 (Rep w S) ds us → CVs w S (ds.map .d) us []
  | _, _, .nil => .nil
  | _, _, .cons h t => .d h (CVs.of_rep t)

theorem okWide_one {P : Program} {w : World} {r : Reach} {base : Nat} {t : TypeId} {v : Value} {n : Nat} (hp : plainT P n t = true) (hs : isStruct P t = false) (h : Value.okWide P w r base t v) : v.cells = #[v] := by
  refine cells_one ?_
  cases n with
  | zero => cases hp
  | succ n =>
    unfold plainT at hp
    unfold Value.okWide at h
    unfold isStruct at hs
    cases v with
    | agg cs =>
      split at hp
      · rename_i hu; rw [hu] at h; simp [Cell.okWide, Cell.ok, hu] at h
      · rename_i hu; rw [hu] at h; simp [Cell.okWide, Cell.ok, hu] at h
      · rename_i hu; rw [hu] at h; simp [Cell.okWide, Cell.ok, hu] at h
      · rename_i hu; rw [hu] at h; simp [Cell.okWide, Cell.ok, hu] at h
      · rename_i hu; rw [hu] at hs; cases hs
      · cases hp
    | tuple cs =>
      split at hp
      · rename_i hu; rw [hu] at h; simp [Cell.okWide, Cell.ok, hu] at h
      · rename_i hu; rw [hu] at h; simp [Cell.okWide, Cell.ok, hu] at h
      · rename_i hu; rw [hu] at h; simp [Cell.okWide, Cell.ok, hu] at h
      · rename_i hu; rw [hu] at h; simp [Cell.okWide, Cell.ok, hu] at h
      · rename_i hu; rw [hu] at hs; cases hs
      · cases hp
    | _ => rfl

theorem okWide_agg {P : Program} {w : World} {r : Reach} {base : Nat} {t : TypeId} {v : Value} (hs : isStruct P t = true) (h : Value.okWide P w r base t v) : ∃ cs, v = .agg cs := by
  unfold isStruct at hs
  unfold Value.okWide at h
  split at hs
  · rename_i hu; rw [hu] at h; obtain ⟨cs, h1, _⟩ := h; exact ⟨cs, h1⟩
  · cases hs

theorem plain_one {n : Nat} {t : TypeId} (hp : plainT P n t = true) (hs : isStruct P t = false) : P.cellsOf t = 1 := by
  cases n with
  | zero => cases hp
  | succ n =>
    unfold plainT at hp
    unfold isStruct at hs
    split at hp
    · simpa using hp
    · simpa using hp
    · simpa using hp
    · simp only [Bool.and_eq_true, beq_iff_eq] at hp; exact hp.1
    · rename_i hu; rw [hu] at hs; cases hs
    · cases hp

theorem trodAll_comps {n : Nat} {r : Reach} {base : Nat} : ∀ (ts : List TypeId) (vs : List Value) (ds : List (DataW H)) (ps : List MemPlace), (∀ t ∈ ts, plainT P n t = true) → DataW.TrodAll enc P w 0 spare held ts vs ds ps →
    (∀ (j : Nat) t v, ts[j]? = some t → vs[j]? = some v → Value.okWide P w r base t v) →
    ∃ dss, All2 (shp P n) ts dss ∧ Comps w (fun b => b < w.heap.size) (List.zipWith (argC P) ts dss) vs []
  | [], vs, ds, ps, _, h, _ => by
    obtain ⟨rfl, _, _⟩ := trodAll_nil h
    exact ⟨[], .nil, .nil⟩
  | t :: ts, vs, ds, ps, hp, h, hv => by
    obtain ⟨v, vs', d, ds', p, q, rfl, rfl, rfl, ⟨F, h1⟩, h2⟩ := trodAll_cons h
    obtain ⟨dss, h3, h4⟩ := trodAll_comps ts vs' ds' q (fun t' ht => hp t' (by simp [ht])) h2 fun j t' v' ht hv' => hv (j + 1) t' v' (by simpa using ht) (by simpa using hv')
    have hpt := hp t (by simp)
    obtain ⟨x, h5, h6, h7⟩ := trod_rep n F t _ _ hpt h1
    have hok := hv 0 t v rfl rfl
    refine ⟨x :: dss, .cons h5 h3, ?_⟩
    simp only [List.zipWith_cons_cons, argC]
    cases hs : isStruct P t with
    | true =>
      obtain ⟨cs, rfl⟩ := okWide_agg hs hok
      have h8 : All2 (Rep w fun b => b < w.heap.size) x cs.toList := h6
      have := Comps.agg (CVs.of_rep h8) h4
      simpa using this
    | false =>
      have h8 := okWide_one hpt hs hok
      rw [h8] at h6
      match x, h6 with
      | [y], .cons h9 .nil => exact Comps.one (.d h9 .nil) h4

theorem trodAll_len : ∀ (ts : List TypeId) (vs : List Value) (ds : List (DataW H)) (ps : List MemPlace), DataW.TrodAll enc P w 0 spare held ts vs ds ps → ds.length = ts.length
  | [], vs, ds, ps, h => by
    obtain ⟨_, rfl, _⟩ := trodAll_nil h; rfl
  | t :: ts, vs, ds, ps, h => by
    obtain ⟨v, vs', d, ds', p, q, rfl, rfl, rfl, _, h2⟩ := trodAll_cons h
    simp [trodAll_len ts vs' ds' q h2]

theorem trodAll_below {hl : laidOutB P = true} {w' : World} (hb : Below w.heap.size w w') : ∀ (ts : List TypeId) (vs : List Value) (ds : List (DataW H)) (ps : List MemPlace), (∀ t ∈ ts, P.readableRec t = true ∧ t < P.types.size) →
    DataW.TrodAll enc P w 0 (fun _ => true) true ts vs ds ps → (∀ x ∈ ps, x.block < w.heap.size) → DataW.TrodAll enc P w' 0 (fun b => decide (b < w.heap.size)) true ts vs ds ps
  | [], vs, ds, ps, _, h, _ => by
    obtain ⟨rfl, rfl, rfl⟩ := trodAll_nil h
    rfl
  | t :: ts, vs, ds, ps, hp, h, hlt => by
    obtain ⟨v, vs', d, ds', p, q, rfl, rfl, rfl, h1, h2⟩ := trodAll_cons h
    have ht := hp t (by simp)
    exact ⟨_, _, (Below.trod hl ht.1 ht.2 h1 hb fun x hx => hlt x (by simp [hx])), (trodAll_below (hl := hl) hb ts vs' ds' q (fun t' ht' => hp t' (by simp [ht'])) h2 fun x hx => hlt x (by simp [hx])), rfl⟩

end

theorem Foot.below {w w' : World} {S' : Nat → Prop} {bs' : List Nat} (h : Foot w w' (fun b => b < w.heap.size) S' [] bs') : Below w.heap.size w w' :=
  ⟨h.os, h.tape, h.output, h.hsize, fun k hk => h.same k hk (by simp)⟩

/-- A row that says 'true', and that the input reads as it did, from the contract. -/
theorem row_ok {H : Type} {enc : TypeId × Value → H} {C : Checked} {f : FuncId} {fn : Func} {s : ChangeSpec} {conds : List PathCond} {a : Assume} (n : Nat) (tb : TypeId) (hl : laidOutB C.prog = true)
    (hts : (fn.params.toList.all fun t => C.prog.readableRec t && decide (t < C.prog.types.size) && plainT C.prog n t) = true) (hres : fn.resultTypes = #[tb]) (hu : C.prog.underlying tb = some .bool) (hs : s.vars = [])
    (hspec : ∀ ds : List (DataW H), ds.length = fn.params.toList.length → s.fn H (ds ++ []) = ⟨[.lit (.bool true)], ds, []⟩)
    (hm : ∀ dss, All2 (shp C.prog n) fn.params.toList dss → Meets C.prog f (List.zipWith (argC C.prog) fn.params.toList dss) (rOne (vB true))) :
    ∀ (W : World) (base : Nat) (args : Array Value) (ds gs : List (DataW H)) (before : List MemPlace),
      (∀ (j : Nat) t v, fn.params[j]? = some t → args[j]? = some v → Value.okWide C.prog W .any base t v) →
      DataW.Whole enc C.prog fn.params.toList s.vars false W args.toList ds gs before →
      conds.all (PathCond.test C.prog ⟨fn.params.toList, ds, s.plain.varTypes C.prog, gs⟩) = true →
      a.holds C.prog (lone (Frame.enter C.prog f args .normal) [] W) →
      Calls C.prog f args W fun e W' => ∃ v, e = .returned v ∧ s.post enc C.prog fn false true false false W args v W' := by
  intro W base args ds gs before hval hW _ _
  have hW' := hW
  have hlt := hW.lt
  obtain ⟨p, q, hA, hV, rfl, hfz, hnd⟩ := hW
  rw [hs] at hV
  obtain ⟨rfl, rfl⟩ := trodVars_none hV
  simp only [List.append_nil] at hW' hlt
  simp only [List.all_eq_true, Bool.and_eq_true, decide_eq_true_eq] at hts
  obtain ⟨dss, h1, h2⟩ := trodAll_comps (n := n) (r := .any) (base := base) fn.params.toList args.toList ds p (fun t ht => (hts t ht).2) hA fun j t v ht hv => hval j t v (by simpa using ht) (by simpa using hv)
  have hc := (hm dss h1).2 W (fun b => b < W.heap.size) args.toList [] (fun _ h => h) h2 .nil
  rw [Array.toArray_toList] at hc
  refine hc.mono fun e W' ⟨v, S', bs', he, hr, _, hfoot⟩ => ⟨v, he, ?_⟩
  have hB := hfoot.below
  have hlen : ds.length = fn.params.toList.length := trodAll_len _ _ _ _ hA
  have hv : v = .bool true := by
    have hr' : Comps W' S' [(false, [.d (.v (.bool true))])] [v] bs' := hr
    cases hr' with
    | one h t =>
      cases h with
      | d h _ => cases h; rfl
  subst hv
  refine ⟨ds, [], p, [], p, [], hW', ?_, ?_, ?_, hB.frame _, fun h => by cases h⟩
  · rw [hspec ds hlen, hres]
    exact trodAll_mk1 ⟨1, by simp [DataW.trod, Value.cells, hu]⟩
  · rw [hspec ds hlen]
    exact trodAll_below (hl := hl) hB _ _ _ _ (fun t ht => (hts t ht).1) hA hlt
  · rw [hspec ds hlen, hs]
    rfl

def tileG (q : TypeId → List D → Prop) : List (Nat × TypeId) → List D → Prop
  | [], ds => ds = []
  | f :: fs, ds => ∃ a b, q f.2 a ∧ ds = a ++ b ∧ tileG q fs b

/-- The shape of a type's cells, by the table of types. -/
def shpG (Γ : Ctx) : Nat → TypeId → List D → Prop
  | 0, _, _ => False
  | n + 1, t, ds => match Γ.ty t with
    | some ti => (match ti.desc with
      | .bool => ∃ b, ds = [.v (.bool b)]
      | .int k => ∃ x, ds = [.v (.int k x)] ∧ k.min ≤ x ∧ x ≤ k.max
      | .str => ∃ s : ByteArray, ds = [.v (.string s)] ∧ s.size ≤ maxLen
      | .slice e => ∃ rows : List (List D), ((match Γ.size e with | some k => ds = [.vec k rows] | none => True) ∧ rows.length ≤ maxLen ∧ ∀ r ∈ rows, shpG Γ n e r)
      | .struct fs => tileG (shpG Γ n) fs ds
      | .ptr | .other => True)
    | none => True

theorem tile_mono {q : TypeId → List D → Prop} {q' : TypeId → List D → Prop} (h : ∀ t ds, q t ds → q' t ds) : ∀ (fs : List Field) (ds : List D), tile q fs ds → tileG q' (fs.map fun f => (f.offset, f.type)) ds
  | [], _, h1 => h1
  | _ :: fs, _, ⟨a, b, h1, h2, h3⟩ => ⟨a, b, h _ _ h1, h2, tile_mono h fs b h3⟩

theorem shp_table {P : Program} {Γ : Ctx} (hΓ : CtxOk P Γ) : ∀ (n : Nat) (t : TypeId) (ds : List D), shp P n t ds → shpG Γ n t ds
  | 0, _, _, h => h
  | n + 1, t, ds, h => by
    unfold shpG
    cases hti : Γ.ty t with
    | none => trivial
    | some ti =>
      have hd := (hΓ.ty t ti hti).desc
      unfold shp at h
      simp only
      cases hdesc : ti.desc with
      | bool => rw [hdesc] at hd; have hd' : P.underlying t = some .bool := hd; rw [hd'] at h; exact h
      | int k => rw [hdesc] at hd; have hd' : P.underlying t = some (.int k) := hd; rw [hd'] at h; exact h
      | str => rw [hdesc] at hd; have hd' : P.underlying t = some .string := hd; rw [hd'] at h; exact h
      | slice e =>
        rw [hdesc] at hd; have hd' : P.underlying t = some (.slice e) := hd
        rw [hd'] at h
        obtain ⟨rows, h1, h2, h3⟩ := h
        refine ⟨rows, ?_, h2, fun r hr => shp_table hΓ n e r (h3 r hr)⟩
        cases hk : Γ.size e with
        | none => trivial
        | some k =>
          have : P.cellsOf e = k := by
            unfold Ctx.size at hk
            cases hte : Γ.ty e with
            | none => rw [hte] at hk; cases hk
            | some te =>
              rw [hte] at hk
              cases hk
              obtain ⟨i, z, h4, h5, _⟩ := (hΓ.ty e te hte).info
              simp [Program.cellsOf, h4, h5]
          rw [← this]; exact h1
      | struct fs =>
        rw [hdesc] at hd
        obtain ⟨flds, hd', rfl, _⟩ := hd
        rw [hd'] at h
        exact tile_mono (fun t ds => shp_table hΓ n t ds) _ _ h
      | ptr => trivial
      | other => trivial

/-- Rows of one shape, as things of one kind. -/
theorem rows_map {α : Type} {cells : α → List D} {ok : α → Prop} : ∀ {rows : List (List D)}, (∀ r ∈ rows, ∃ x, r = cells x ∧ ok x) → ∃ l : List α, rows = l.map cells ∧ ∀ x ∈ l, ok x
  | [], _ => ⟨[], rfl, by simp⟩
  | r :: rs, h => by
    obtain ⟨x, hx, ho⟩ := h r (by simp)
    obtain ⟨l, hl, ho'⟩ := rows_map (rows := rs) fun r hr => h r (by simp [hr])
    exact ⟨x :: l, by simp [hx, hl], by simpa using ⟨ho, ho'⟩⟩

end Go.Eng
