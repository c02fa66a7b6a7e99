/- Ask. -/
import Derived.Test.YtfgejhlgenaniaaDoorZ9
namespace Go.Eng
/-- A state that says less, objects renamed. -/
theorem vren {E : Sit} (σ : List (Nat × Nat)) (st' : St) {p : Code × (Exit → St → Prop)} {st : St} {h : Hold p} (hi : Same E.pin σ st st') (hk : AWpH E st' h) : AWpH E st h :=
  awp_weak (fun _ _ _ ho hr => hr.weak ho hi.weak) hk
end Go.Eng
namespace Go.Proofs.YtfgejhlgenaniaaDoor
open Go.Eng
set_option linter.unusedSimpArgs false
set_option maxRecDepth 10000

def aliasL (l : List Rec) (n : Bs) (k : Int) : List Rec := (atB l n).filter fun r => r.K == 4 && k != 4
def ofL (l : List Rec) (n : Bs) (k : Int) : List Rec := (atB l n).filter fun r => r.K == k
def lastV (l : List Rec) : Bs := match l.getLast? with
  | some r => r.V
  | none => []
def digV : Bs → Int
  | d :: _ => (d.toNat : Int) - 48
  | [] => 0
/-- An answer: Kind, Recs, To, Alias. -/
structure An where
  K : Int
  R : List Rec
  T : Int
  A : Bs
  deriving DecidableEq
def askE (a : Bs) (l : List Rec) (n : Bs) (k : Int) : Int :=
  if checkV a l = 0 then if isName n = true ∧ 1 ≤ k ∧ k ≤ 5 then if underB n a then 0 else 120 else 1 else checkV a l
def askW (a : Bs) (l : List Rec) (n : Bs) (k : Int) : An := match cutV a l n none with
  | some c => ⟨4, [c], digV c.V, []⟩
  | none => if aliasL l n k ≠ [] then ⟨5, aliasL l n k, 0, lastV (aliasL l n k)⟩
    else if ofL l n k ≠ [] then ⟨1, ofL l n k, 0, []⟩
    else if l.any (fun r => underB r.N n) then ⟨2, [], 0, []⟩ else ⟨3, [], 0, []⟩
def askV (a : Bs) (l : List Rec) (n : Bs) (k : Int) : An := if askE a l n k = 0 then askW a l n k else ⟨0, [], 0, []⟩
abbrev ansO (x : An) : Bool × List CV := (true, [vI x.K, .own 4 39 (x.R.map Rec.cells), vI x.T, vS x.A])

theorem checkV_zero {a : Bs} {l : List Rec} (h : checkV a l = 0) : apexB a = true ∧ (∀ i, i < l.length → goodAt a l i = true) ∧ l.length ≤ 64 := by
  unfold checkV at h
  split at h
  · rename_i hk
    simp only [okZ, Bool.and_eq_true] at hk
    refine ⟨hk.1, fun i hi => List.all_eq_true.1 hk.2 i (List.mem_range.2 hi), ?_⟩
    split at h
    · cases h
    · omega
  · cases h
theorem good_mem {a : Bs} {l : List Rec} (h : checkV a l = 0) {r : Rec} (hr : r ∈ l) : formB r = true ∧ underB r.N a = true ∧ crowdB l r.N = false := by
  obtain ⟨i, hi⟩ := List.mem_iff_getElem?.1 hr
  have h1 := (checkV_zero h).2.1 i (List.getElem?_eq_some_iff.1 hi).1
  unfold goodAt at h1
  rw [hi] at h1
  simp only [Bool.and_eq_true, Bool.not_eq_true'] at h1
  exact ⟨h1.1.1.1, h1.1.1.2, h1.2⟩
theorem firstNs_mem {l : List Rec} {n : Bs} {c : Rec} (h : firstNs l n = some c) : c ∈ l ∧ c.K = 3 ∧ c.N = n := by
  unfold firstNs at h
  have h1 := List.mem_of_find?_eq_some h
  have h2 := List.find?_some h
  unfold atB at h1
  rw [List.mem_filter] at h1
  exact ⟨h1.1, by simpa using h2, by simpa using h1.2⟩
theorem cutV_mem {a : Bs} {l : List Rec} : ∀ (m : Nat) (s : Bs) (c0 : Option Rec) (c : Rec), s.length ≤ m → cutV a l s c0 = some c → c0 = some c ∨ (c ∈ l ∧ c.K = 3) := by
  intro m
  induction m with
  | zero =>
    intro s c0 c hm h
    have : s = [] := List.length_eq_zero_iff.1 (by omega)
    rw [cutV_eq, if_pos this] at h
    exact .inl h
  | succ m ih =>
    intro s c0 c hm h
    rw [cutV_eq] at h
    split at h
    · exact .inl h
    · rename_i hs
      split at h
      · exact .inl h
      · have hlt := upB_lt' hs
        rcases ih _ _ _ (by omega) h with h1 | h1
        · unfold orO at h1
          split at h1
          · rename_i r hr; cases h1; exact .inr ⟨(firstNs_mem hr).1, (firstNs_mem hr).2.1⟩
          · exact .inl h1
        · exact .inr h1
theorem form_ns {r : Rec} (h : formB r = true) (hk : r.K = 3) : ∃ d : UInt8, r.V = [d] ∧ 48 ≤ d.toNat ∧ d.toNat ≤ 55 := by
  simp only [formB, fitsB, Bool.and_eq_true] at h
  have h1 := h.1.1.1
  rw [if_neg (by omega), if_pos hk] at h1
  unfold digitB at h1
  split at h1
  · rename_i c e; simp at h1; exact ⟨c, e, h1⟩
  · cases h1
theorem form_alias {r : Rec} (h : formB r = true) (hk : r.K = 4) : isName r.V = true := by
  simp only [formB, fitsB, Bool.and_eq_true] at h
  have h1 := h.1.1.1
  rwa [if_neg (by omega), if_neg (by omega), if_pos hk] at h1

theorem underC_ok (r : Rec) (n : Bs) : Meets Tryd.prog 43 [r.arg, (false, [vD (.pt [dT n])])] (rOne (vB (underB r.N n))) := by
  refine meets Tryd.func43 rfl rfl Tryd.ntmps43 Tryd.results43 rfl ?_
  simp -dsimp -implicitDefEqProofs only [go_sem, ↓reduceIte, reduceCtorEq, Nat.reduceLT, Nat.reduceLeDiff, Nat.reduceEqDiff, Nat.reduceAdd, Nat.reduceMul, Nat.reduceSub, Nat.reduceBEq, Int.reduceLT, Int.reduceLE, Int.reduceEq, Int.reduceBEq, Int.reduceNeg]
  refine callP (under_ok _ _) ?_
  simp -dsimp -implicitDefEqProofs only [go_sem, ↓reduceIte, reduceCtorEq, Nat.reduceLT, Nat.reduceLeDiff, Nat.reduceEqDiff, Nat.reduceAdd, Nat.reduceMul, Nat.reduceSub, Nat.reduceBEq, Int.reduceLT, Int.reduceLE, Int.reduceEq, Int.reduceBEq, Int.reduceNeg]
def idxU (l : List Rec) (n : Bs) : Int := match l.findIdx? fun r => underB r.N n with
  | some i => (i : Nat)
  | none => -1
structure CfInv (l : List Rec) (n : Bs) where
  i : Nat
  le : i ≤ l.length
  no : ∀ j x, j < i → l[j]? = some x → underB x.N n = false
theorem indexU_ok (l : List Rec) (n : Bs) (hl : l.length ≤ 1000000) : Meets Tryd.prog 66 [(false, [vD (recsD l)]), (false, [vD (.fn 43 [.pt [dT n]])])] (rOne (vI (idxU l n))) := by
  refine meets Tryd.func66 rfl rfl Tryd.ntmps66 Tryd.results66 rfl ?_
  simp -dsimp -implicitDefEqProofs only [go_sem, ↓reduceIte, reduceCtorEq, Nat.reduceLT, Nat.reduceLeDiff, Nat.reduceEqDiff, Nat.reduceAdd, Nat.reduceMul, Nat.reduceSub, Nat.reduceBEq, Int.reduceLT, Int.reduceLE, Int.reduceEq, Int.reduceBEq, Int.reduceNeg]
  refine vfor sitOk (ι := CfInv l n) (fun v => ⟨19, [(8, aI v.i), (7, aI l.length), (0, aD (recsD l)), (1, aD (.fn 43 [.pt [dT n]]))], [], 8⟩) (fun v => l.length - v.i) ⟨0, by omega, fun j x hj => by omega⟩ ?_ ?_
  · simp -dsimp -implicitDefEqProofs only [go_sem, ↓reduceIte, reduceCtorEq, Nat.reduceLT, Nat.reduceLeDiff, Nat.reduceEqDiff, Nat.reduceAdd, Nat.reduceMul, Nat.reduceSub, Nat.reduceBEq, Int.reduceLT, Int.reduceLE, Int.reduceEq, Int.reduceBEq, Int.reduceNeg]
  intro ⟨i, hi, hno⟩
  simp -dsimp -implicitDefEqProofs only [go_sem, ↓reduceIte, reduceCtorEq, Nat.reduceLT, Nat.reduceLeDiff, Nat.reduceEqDiff, Nat.reduceAdd, Nat.reduceMul, Nat.reduceSub, Nat.reduceBEq, Int.reduceLT, Int.reduceLE, Int.reduceEq, Int.reduceBEq, Int.reduceNeg]
  refine ⟨fun hlt => ?_, fun hge => ?_⟩
  · have hil : i < l.length := by omega
    obtain ⟨x, hx⟩ : ∃ x, l[i]? = some x := ⟨_, List.getElem?_eq_getElem hil⟩
    have hw := wrapS hil (by omega)
    simp -dsimp -implicitDefEqProofs only [hx, forall_eq', hw, go_sem, ↓reduceIte, reduceCtorEq, Nat.reduceLT, Nat.reduceLeDiff, Nat.reduceEqDiff, Nat.reduceAdd, Nat.reduceMul, Nat.reduceSub, Nat.reduceBEq, Int.reduceLT, Int.reduceLE, Int.reduceEq, Int.reduceBEq, Int.reduceNeg]
    refine ⟨by omega, hil, callP (underC_ok x n) ?_⟩
    simp -dsimp -implicitDefEqProofs only [hw, go_sem, ↓reduceIte, reduceCtorEq, Nat.reduceLT, Nat.reduceLeDiff, Nat.reduceEqDiff, Nat.reduceAdd, Nat.reduceMul, Nat.reduceSub, Nat.reduceBEq, Int.reduceLT, Int.reduceLE, Int.reduceEq, Int.reduceBEq, Int.reduceNeg]
    refine ⟨fun h => ?_, fun h => ?_⟩
    · have : (l.findIdx? fun r => underB r.N n) = some i := by
        rw [List.findIdx?_eq_some_iff_getElem]
        refine ⟨hil, ?_, fun j hj => ?_⟩
        · have := Option.some.inj ((List.getElem?_eq_getElem hil).symm.trans hx)
          rw [this]; exact h
        · have hjl : j < l.length := by omega
          have := hno j l[j] hj (List.getElem?_eq_getElem hjl)
          simp [this]
      unfold idxU; rw [this]
    · refine again ⟨i + 1, by omega, fun j y hj hy => ?_⟩ (by simp; omega) ?_
      · by_cases hji : j = i
        · subst hji; rw [hx] at hy; cases hy; exact h
        · exact hno j y (by omega) hy
      · simp -dsimp -implicitDefEqProofs only [go_sem, ↓reduceIte, reduceCtorEq, Nat.reduceLT, Nat.reduceLeDiff, Nat.reduceEqDiff, Nat.reduceAdd, Nat.reduceMul, Nat.reduceSub, Nat.reduceBEq, Int.reduceLT, Int.reduceLE, Int.reduceEq, Int.reduceBEq, Int.reduceNeg]
  · have : (l.findIdx? fun r => underB r.N n) = none := by
      rw [List.findIdx?_eq_none_iff]
      intro x hx
      obtain ⟨j, hj⟩ := List.mem_iff_getElem?.1 hx
      exact hno j x (by have := (List.getElem?_eq_some_iff.1 hj).1; omega) hj
    unfold idxU; rw [this]
theorem containsU_ok (l : List Rec) (n : Bs) (hl : l.length ≤ 1000000) : Meets Tryd.prog 42 [(false, [vD (recsD l)]), (false, [vD (.fn 43 [.pt [dT n]])])] (rOne (vB (l.any fun r => underB r.N n))) := by
  refine meets Tryd.func42 rfl rfl Tryd.ntmps42 Tryd.results42 rfl ?_
  simp -dsimp -implicitDefEqProofs only [go_sem, ↓reduceIte, reduceCtorEq, Nat.reduceLT, Nat.reduceLeDiff, Nat.reduceEqDiff, Nat.reduceAdd, Nat.reduceMul, Nat.reduceSub, Nat.reduceBEq, Int.reduceLT, Int.reduceLE, Int.reduceEq, Int.reduceBEq, Int.reduceNeg]
  refine callP (indexU_ok l n hl) ?_
  simp -dsimp -implicitDefEqProofs only [go_sem, ↓reduceIte, reduceCtorEq, Nat.reduceLT, Nat.reduceLeDiff, Nat.reduceEqDiff, Nat.reduceAdd, Nat.reduceMul, Nat.reduceSub, Nat.reduceBEq, Int.reduceLT, Int.reduceLE, Int.reduceEq, Int.reduceBEq, Int.reduceNeg]
  unfold idxU
  cases h : l.findIdx? fun r => underB r.N n with
  | none =>
    rw [List.findIdx?_eq_none_iff] at h
    have : (l.any fun r => underB r.N n) = false := by
      rw [List.any_eq_false]; intro x hx; simpa using h x hx
    rw [this]; rfl
  | some i =>
    obtain ⟨hi, h1, _⟩ := List.findIdx?_eq_some_iff_getElem.1 h
    have : (l.any fun r => underB r.N n) = true := List.any_eq_true.2 ⟨_, List.getElem_mem hi, h1⟩
    rw [this]; simp

theorem aliasL_step {l : List Rec} {i : Nat} {x : Rec} (n : Bs) (k : Int) (h : l[i]? = some x) : aliasL (l.take (i + 1)) n k = aliasL (l.take i) n k ++ (if x.N = n ∧ x.K = 4 ∧ ¬ k = x.K then [x] else []) := by
  unfold aliasL
  rw [atB_step n h, List.filter_append]
  congr 1
  by_cases h1 : x.N = n
  · rw [if_pos h1, List.filter_cons, List.filter_nil]
    by_cases h2 : x.K = 4
    · by_cases h3 : k = 4
      · simp [h1, h2, h3]
      · simp [h1, h2, h3]
    · simp [h2]
  · simp [h1]
theorem ofL_step {l : List Rec} {i : Nat} {x : Rec} (n : Bs) (k : Int) (h : l[i]? = some x) : ofL (l.take (i + 1)) n k = ofL (l.take i) n k ++ (if x.N = n ∧ x.K = k then [x] else []) := by
  unfold ofL
  rw [atB_step n h, List.filter_append]
  congr 1
  by_cases h1 : x.N = n
  · rw [if_pos h1, List.filter_cons, List.filter_nil]
    by_cases h2 : x.K = k
    · simp [h1, h2]
    · simp [h2]
  · simp [h1]
theorem aliasL_len (l : List Rec) (n : Bs) (k : Int) : (aliasL l n k).length ≤ l.length := Nat.le_trans (List.length_filter_le ..) (atB_len l n)
theorem ofL_len (l : List Rec) (n : Bs) (k : Int) : (ofL l n k).length ≤ l.length := Nat.le_trans (List.length_filter_le ..) (atB_len l n)

theorem ask_ok (a : Bs) (l : List Rec) (n : Bs) (k : Int) (hl : l.length ≤ 1000000) : Meets Tryd.prog 14 [zoneA a l, (false, [vS n]), (false, [vI k])] (rTup [ansO (askV a l n k), (false, [vI (askE a l n k)])]) := by
  refine meets Tryd.func14 rfl rfl Tryd.ntmps14 Tryd.results14 rfl ?_
  simp -dsimp -implicitDefEqProofs only [go_sem, ↓reduceIte, reduceCtorEq, Nat.reduceLT, Nat.reduceLeDiff, Nat.reduceEqDiff, Nat.reduceAdd, Nat.reduceMul, Nat.reduceSub, Nat.reduceBEq, Int.reduceLT, Int.reduceLE, Int.reduceEq, Int.reduceBEq, Int.reduceNeg]
  refine callP (zcheck_ok a l hl) ?_
  simp -dsimp -implicitDefEqProofs only [go_sem, ↓reduceIte, reduceCtorEq, Nat.reduceLT, Nat.reduceLeDiff, Nat.reduceEqDiff, Nat.reduceAdd, Nat.reduceMul, Nat.reduceSub, Nat.reduceBEq, Int.reduceLT, Int.reduceLE, Int.reduceEq, Int.reduceBEq, Int.reduceNeg]
  have fin : ∀ e : Int, e ≠ 0 → askE a l n k = e → askV a l n k = ⟨0, [], 0, []⟩ ∧ e = askE a l n k := fun e he h => by
    unfold askV
    rw [if_neg (by rw [h]; exact he)]
    exact ⟨rfl, h.symm⟩
  by_cases h0 : checkV a l = 0
  · by_cases h1 : isName n = true ∧ 1 ≤ k ∧ k ≤ 5
    · obtain ⟨h1a, h1b, h1c⟩ := h1
      have h1d : ¬ k < 1 := by omega
      have h1e : ¬ 5 < k := by omega
      simp -dsimp -implicitDefEqProofs only [h0, go_sem, ↓reduceIte, reduceCtorEq, Nat.reduceLT, Nat.reduceLeDiff, Nat.reduceEqDiff, Nat.reduceAdd, Nat.reduceMul, Nat.reduceSub, Nat.reduceBEq, Int.reduceLT, Int.reduceLE, Int.reduceEq, Int.reduceBEq, Int.reduceNeg]
      refine callP (named_ok n) ?_
      simp -dsimp -implicitDefEqProofs only [h1a, h1d, h1e, go_sem, ↓reduceIte, reduceCtorEq, Nat.reduceLT, Nat.reduceLeDiff, Nat.reduceEqDiff, Nat.reduceAdd, Nat.reduceMul, Nat.reduceSub, Nat.reduceBEq, Int.reduceLT, Int.reduceLE, Int.reduceEq, Int.reduceBEq, Int.reduceNeg]
      refine callP (under_ok _ _) ?_
      cases h2 : underB n a with
      | false =>
        obtain ⟨q1, q2⟩ := fin 120 (by decide) (by unfold askE; rw [if_pos h0, if_pos ⟨h1a, h1b, h1c⟩, if_neg (by simp [h2])])
        simp -dsimp -implicitDefEqProofs only [h2, q1, ← q2, List.map_nil, go_sem, ↓reduceIte, reduceCtorEq, Nat.reduceLT, Nat.reduceLeDiff, Nat.reduceEqDiff, Nat.reduceAdd, Nat.reduceMul, Nat.reduceSub, Nat.reduceBEq, Int.reduceLT, Int.reduceLE, Int.reduceEq, Int.reduceBEq, Int.reduceNeg]
      | true =>
        have he : askE a l n k = 0 := by unfold askE; rw [if_pos h0, if_pos ⟨h1a, h1b, h1c⟩, if_pos h2]
        have hv : askV a l n k = askW a l n k := by unfold askV; rw [if_pos he]
        rw [he, hv]
        simp -dsimp -implicitDefEqProofs only [h2, go_sem, ↓reduceIte, reduceCtorEq, Nat.reduceLT, Nat.reduceLeDiff, Nat.reduceEqDiff, Nat.reduceAdd, Nat.reduceMul, Nat.reduceSub, Nat.reduceBEq, Int.reduceLT, Int.reduceLE, Int.reduceEq, Int.reduceBEq, Int.reduceNeg]
        refine vfreeze 8 rfl ?_
        simp -dsimp -implicitDefEqProofs only [go_sem, ↓reduceIte, reduceCtorEq, Nat.reduceLT, Nat.reduceLeDiff, Nat.reduceEqDiff, Nat.reduceAdd, Nat.reduceMul, Nat.reduceSub, Nat.reduceBEq, Int.reduceLT, Int.reduceLE, Int.reduceEq, Int.reduceBEq, Int.reduceNeg]
        refine vrounds 6 sitOk ?_
        simp -dsimp -implicitDefEqProofs only [go_sem, ↓reduceIte, reduceCtorEq, Nat.reduceLT, Nat.reduceLeDiff, Nat.reduceEqDiff, Nat.reduceAdd, Nat.reduceMul, Nat.reduceSub, Nat.reduceBEq, Int.reduceLT, Int.reduceLE, Int.reduceEq, Int.reduceBEq, Int.reduceNeg]
        refine vround ?_
        simp -dsimp -implicitDefEqProofs only [go_sem, ↓reduceIte, reduceCtorEq, Nat.reduceLT, Nat.reduceLeDiff, Nat.reduceEqDiff, Nat.reduceAdd, Nat.reduceMul, Nat.reduceSub, Nat.reduceBEq, Int.reduceLT, Int.reduceLE, Int.reduceEq, Int.reduceBEq, Int.reduceNeg]
        refine callW rfl Tryd.func36 rfl rfl Tryd.ntmps36 Tryd.results36 rfl ?_
        simp -dsimp -implicitDefEqProofs only [go_sem, ↓reduceIte, reduceCtorEq, Nat.reduceLT, Nat.reduceLeDiff, Nat.reduceEqDiff, Nat.reduceAdd, Nat.reduceMul, Nat.reduceSub, Nat.reduceBEq, Int.reduceLT, Int.reduceLE, Int.reduceEq, Int.reduceBEq, Int.reduceNeg]
        refine callP (cut_ok' a l n hl) ?_
        cases hc : cutV a l n none with
        | some c =>
          rcases cutV_mem n.length n none c (Nat.le_refl _) hc with q | ⟨hcm, hck⟩
          · cases q
          obtain ⟨d, hd, hd1, hd2⟩ := form_ns (good_mem h0 hcm).1 hck
          have hw : IntKind.u8.wrap ((d.toNat : Int) - 48) = (d.toNat : Int) - 48 := by simp [IntKind.wrap, IntKind.signed, IntKind.bits]; omega
          have hw2 : IntKind.i64.wrap ((d.toNat : Int) - 48) = (d.toNat : Int) - 48 := by rw [wrap64] <;> omega
          have hask : askW a l n k = ⟨4, [c], (d.toNat : Int) - 48, []⟩ := by unfold askW; rw [hc]; simp [digV, hd]
          rw [hask]
          simp -dsimp -implicitDefEqProofs only [retH, rowO, hd, hw, hw2, go_sem, ↓reduceIte, reduceCtorEq, Nat.reduceLT, Nat.reduceLeDiff, Nat.reduceEqDiff, Nat.reduceAdd, Nat.reduceMul, Nat.reduceSub, Nat.reduceBEq, Int.reduceLT, Int.reduceLE, Int.reduceEq, Int.reduceBEq, Int.reduceNeg]
          exact h0
        | none =>
          have w1 : IntKind.i64.wrap ((0 : Int) + 1) = 1 := by decide
          have w2 : IntKind.i64.wrap ((1 : Int) + 1) = 2 := by decide
          have w3 : IntKind.i64.wrap ((2 : Int) + 1) = 3 := by decide
          have w4 : IntKind.i64.wrap ((3 : Int) + 1) = 4 := by decide
          have hlv0 : lastV [] = [] := rfl
          have t1 : Int.toNat 1 = 1 := rfl
          have t2 : Int.toNat 2 = 2 := rfl
          have t3 : Int.toNat 3 = 3 := rfl
          have t4 : Int.toNat 4 = 4 := rfl
          simp -dsimp -implicitDefEqProofs only [retH, rowO, w1, go_sem, ↓reduceIte, reduceCtorEq, Nat.reduceLT, Nat.reduceLeDiff, Nat.reduceEqDiff, Nat.reduceAdd, Nat.reduceMul, Nat.reduceSub, Nat.reduceBEq, Int.reduceLT, Int.reduceLE, Int.reduceEq, Int.reduceBEq, Int.reduceNeg]
          refine vround ?_
          simp -dsimp -implicitDefEqProofs only [w2, t1, go_sem, ↓reduceIte, reduceCtorEq, Nat.reduceLT, Nat.reduceLeDiff, Nat.reduceEqDiff, Nat.reduceAdd, Nat.reduceMul, Nat.reduceSub, Nat.reduceBEq, Int.reduceLT, Int.reduceLE, Int.reduceEq, Int.reduceBEq, Int.reduceNeg]
          refine callW rfl Tryd.func38 rfl rfl Tryd.ntmps38 Tryd.results38 rfl ?_
          simp -dsimp -implicitDefEqProofs only [go_sem, ↓reduceIte, reduceCtorEq, Nat.reduceLT, Nat.reduceLeDiff, Nat.reduceEqDiff, Nat.reduceAdd, Nat.reduceMul, Nat.reduceSub, Nat.reduceBEq, Int.reduceLT, Int.reduceLE, Int.reduceEq, Int.reduceBEq, Int.reduceNeg]
          refine callW rfl Tryd.func39 rfl rfl Tryd.ntmps39 Tryd.results39 rfl ?_
          simp -dsimp -implicitDefEqProofs only [retH, go_sem, ↓reduceIte, reduceCtorEq, Nat.reduceLT, Nat.reduceLeDiff, Nat.reduceEqDiff, Nat.reduceAdd, Nat.reduceMul, Nat.reduceSub, Nat.reduceBEq, Int.reduceLT, Int.reduceLE, Int.reduceEq, Int.reduceBEq, Int.reduceNeg]
          refine vren [(600, 344)] ⟨32, [(9, .cs false [.clo 65 [.ptr 536 0, .ptr 544 0]]), (6, aP 24 0), (4, aB false), (0, aP 24 0), (1, aP 0 0), (2, aP 8 0), (3, aP 16 0)],
            [(544, some (.var [cS n] true)), (536, some (.var [cS a, cD (recsD l)] true)), (24, some (.var [cI 5, .own 600, cI 0, cS []] true)), (600, some (.row 4 39 [] true)),
             (256, some (.var [.clo 36 [.ptr 0 0, .ptr 8 0, .ptr 24 0], .clo 38 [.ptr 24 0, .ptr 0 0, .ptr 8 0, .ptr 16 0], .clo 40 [.ptr 24 0, .ptr 0 0, .ptr 8 0, .ptr 16 0], .clo 41 [.ptr 24 0, .ptr 0 0, .ptr 8 0], .clo 44 [.ptr 24 0]] true)), (16, some (.var [cI k] true)), (8, some (.var [cS n] false)), (0, some (.var [cS a, cD (recsD l)] true))], 601⟩ ?_ ?_
          · simp -dsimp -implicitDefEqProofs only [go_sem, ↓reduceIte, reduceCtorEq, Nat.reduceLT, Nat.reduceLeDiff, Nat.reduceEqDiff, Nat.reduceAdd, Nat.reduceMul, Nat.reduceSub, Nat.reduceBEq, Int.reduceLT, Int.reduceLE, Int.reduceEq, Int.reduceBEq, Int.reduceNeg]
          refine vrange sitOk rfl [600] [(6, aP 24 0), (0, aP 24 0), (1, aP 0 0), (2, aP 8 0), (3, aP 16 0)] rfl rfl ?_ Tryd.func65 rfl rfl Tryd.ntmps65 Tryd.results65 rfl ?_
          · simp -dsimp -implicitDefEqProofs only [go_sem, ↓reduceIte, reduceCtorEq, Nat.reduceLT, Nat.reduceLeDiff, Nat.reduceEqDiff, Nat.reduceAdd, Nat.reduceMul, Nat.reduceSub, Nat.reduceBEq, Int.reduceLT, Int.reduceLE, Int.reduceEq, Int.reduceBEq, Int.reduceNeg]
          simp -dsimp -implicitDefEqProofs only [go_sem, ↓reduceIte, reduceCtorEq, Nat.reduceLT, Nat.reduceLeDiff, Nat.reduceEqDiff, Nat.reduceAdd, Nat.reduceMul, Nat.reduceSub, Nat.reduceBEq, Int.reduceLT, Int.reduceLE, Int.reduceEq, Int.reduceBEq, Int.reduceNeg]
          generalize hL : Lp.mk 32 _ _ _ _ _ = L
          refine vfor sitOk (ι := CwInv l) (fun v => ⟨24, [(9, aI v.i), (8, aI l.length), (7, aD (recsD l)), (0, .cs false [.yld 601]), (1, aP 536 0), (2, aP 544 0)],
            [(601, some (.lp L)), (544, some (.var [cS n] true)), (536, some (.var [cS a, cD (recsD l)] true)), (24, some (.var [cI 5, .own 600, cI 0, cS (lastV (aliasL (l.take v.i) n k))] true)), (600, some (.row 4 39 ((aliasL (l.take v.i) n k).map Rec.cells) true)), (256, some (.var [.clo 36 [.ptr 0 0, .ptr 8 0, .ptr 24 0], .clo 38 [.ptr 24 0, .ptr 0 0, .ptr 8 0, .ptr 16 0], .clo 40 [.ptr 24 0, .ptr 0 0, .ptr 8 0, .ptr 16 0], .clo 41 [.ptr 24 0, .ptr 0 0, .ptr 8 0], .clo 44 [.ptr 24 0]] true)), (16, some (.var [cI k] true)), (8, some (.var [cS n] false)), (0, some (.var [cS a, cD (recsD l)] true))], 1000⟩) (fun v => l.length - v.i) ⟨0, by omega⟩ ?_ ?_
          · simp -dsimp -implicitDefEqProofs only [← hL, go_sem, ↓reduceIte, reduceCtorEq, Nat.reduceLT, Nat.reduceLeDiff, Nat.reduceEqDiff, Nat.reduceAdd, Nat.reduceMul, Nat.reduceSub, Nat.reduceBEq, Int.reduceLT, Int.reduceLE, Int.reduceEq, Int.reduceBEq, Int.reduceNeg]
            simp [aliasL, atB, lastV]
          intro ⟨i, hi⟩
          have hall := aliasL_len (l.take i) n k
          have htl : (l.take i).length ≤ l.length := by simp; omega
          simp -dsimp -implicitDefEqProofs only [go_sem, ↓reduceIte, reduceCtorEq, Nat.reduceLT, Nat.reduceLeDiff, Nat.reduceEqDiff, Nat.reduceAdd, Nat.reduceMul, Nat.reduceSub, Nat.reduceBEq, Int.reduceLT, Int.reduceLE, Int.reduceEq, Int.reduceBEq, Int.reduceNeg]
          refine ⟨fun hlt => ?_, fun hge => ?_⟩
          · have hil : i < l.length := by omega
            obtain ⟨x, hx⟩ : ∃ x, l[i]? = some x := ⟨_, List.getElem?_eq_getElem hil⟩
            have hst := aliasL_step n k hx
            have hw := wrapS hil (by omega)
            simp -dsimp -implicitDefEqProofs only [hx, forall_eq', hw, go_sem, ↓reduceIte, reduceCtorEq, Nat.reduceLT, Nat.reduceLeDiff, Nat.reduceEqDiff, Nat.reduceAdd, Nat.reduceMul, Nat.reduceSub, Nat.reduceBEq, Int.reduceLT, Int.reduceLE, Int.reduceEq, Int.reduceBEq, Int.reduceNeg]
            refine ⟨by omega, hil, fun h => yieldW sitOk ?_, fun h => ?_⟩
            · simp -dsimp -implicitDefEqProofs only [← hL, go_sem, ↓reduceIte, reduceCtorEq, Nat.reduceLT, Nat.reduceLeDiff, Nat.reduceEqDiff, Nat.reduceAdd, Nat.reduceMul, Nat.reduceSub, Nat.reduceBEq, Int.reduceLT, Int.reduceLE, Int.reduceEq, Int.reduceBEq, Int.reduceNeg]
              intro ro
              have hrl : (aliasL (l.take i) n k).length ≤ 9223372036854775806 ∧ ((aliasL (l.take i) n k).length + 1) * 48 ≤ 140737488355328 := by omega
              refine ⟨fun h2 => ⟨fun h3 => ⟨hrl, drawn (by kernel_rfl), ?_⟩, fun h3 => ?_⟩, fun h2 => ?_⟩
              · rw [if_pos ⟨h, h2, h3⟩] at hst
                have hlv : lastV (aliasL (l.take i) n k ++ [x]) = x.V := by simp [lastV]
                refine againO 600 24 1 ⟨i + 1, by omega⟩ (by simp; omega) ?_
                simp -dsimp -implicitDefEqProofs only [← hL, hw, hst, hlv, List.map_append, List.map_cons, List.map_nil, go_sem, ↓reduceIte, reduceCtorEq, Nat.reduceLT, Nat.reduceLeDiff, Nat.reduceEqDiff, Nat.reduceAdd, Nat.reduceMul, Nat.reduceSub, Nat.reduceBEq, Int.reduceLT, Int.reduceLE, Int.reduceEq, Int.reduceBEq, Int.reduceNeg]
              · rw [if_neg (fun e => e.2.2 h3), List.append_nil] at hst
                refine again ⟨i + 1, by omega⟩ (by simp; omega) ?_
                simp -dsimp -implicitDefEqProofs only [← hL, hw, hst, go_sem, ↓reduceIte, reduceCtorEq, Nat.reduceLT, Nat.reduceLeDiff, Nat.reduceEqDiff, Nat.reduceAdd, Nat.reduceMul, Nat.reduceSub, Nat.reduceBEq, Int.reduceLT, Int.reduceLE, Int.reduceEq, Int.reduceBEq, Int.reduceNeg]
              · rw [if_neg (fun e => h2 e.2.1), List.append_nil] at hst
                refine again ⟨i + 1, by omega⟩ (by simp; omega) ?_
                simp -dsimp -implicitDefEqProofs only [← hL, hw, hst, go_sem, ↓reduceIte, reduceCtorEq, Nat.reduceLT, Nat.reduceLeDiff, Nat.reduceEqDiff, Nat.reduceAdd, Nat.reduceMul, Nat.reduceSub, Nat.reduceBEq, Int.reduceLT, Int.reduceLE, Int.reduceEq, Int.reduceBEq, Int.reduceNeg]
            · rw [if_neg (fun e => h e.1), List.append_nil] at hst
              refine again ⟨i + 1, by omega⟩ (by simp; omega) ?_
              simp -dsimp -implicitDefEqProofs only [← hL, hw, hst, go_sem, ↓reduceIte, reduceCtorEq, Nat.reduceLT, Nat.reduceLeDiff, Nat.reduceEqDiff, Nat.reduceAdd, Nat.reduceMul, Nat.reduceSub, Nat.reduceBEq, Int.reduceLT, Int.reduceLE, Int.reduceEq, Int.reduceBEq, Int.reduceNeg]
          · have hil : i = l.length := by omega
            subst hil
            rw [List.take_length] at *
            have hlast : lastV (aliasL l n k) = [] ↔ aliasL l n k = [] := by
              constructor
              · intro h
                cases hg : (aliasL l n k).getLast? with
                | none => exact List.getLast?_eq_none_iff.1 hg
                | some r =>
                  have hm := List.mem_of_getLast? hg
                  unfold aliasL atB at hm
                  simp only [List.mem_filter, Bool.and_eq_true, beq_iff_eq] at hm
                  have := form_alias (good_mem h0 hm.1.1).1 hm.2.1
                  unfold lastV at h
                  rw [hg] at h
                  simp only at h
                  rw [h, isName_nil] at this; cases this
              · intro h; rw [h]; rfl
            simp -dsimp -implicitDefEqProofs only [retH, ← hL, go_sem, ↓reduceIte, reduceCtorEq, Nat.reduceLT, Nat.reduceLeDiff, Nat.reduceEqDiff, Nat.reduceAdd, Nat.reduceMul, Nat.reduceSub, Nat.reduceBEq, Int.reduceLT, Int.reduceLE, Int.reduceEq, Int.reduceBEq, Int.reduceNeg]
            refine ⟨fun h => ?_, fun h => ?_⟩
            · have hne : aliasL l n k ≠ [] := fun e => h (hlast.2 e)
              have hask : askW a l n k = ⟨5, aliasL l n k, 0, lastV (aliasL l n k)⟩ := by unfold askW; rw [hc]; simp only; rw [if_pos hne]
              rw [hask]
              exact ⟨⟨rfl, rfl, rfl, rfl⟩, h0⟩
            · have hnil := hlast.1 h
              refine vround ?_
              simp -dsimp -implicitDefEqProofs only [w2, w3, t2, h, hnil, List.map_nil, go_sem, ↓reduceIte, reduceCtorEq, Nat.reduceLT, Nat.reduceLeDiff, Nat.reduceEqDiff, Nat.reduceAdd, Nat.reduceMul, Nat.reduceSub, Nat.reduceBEq, Int.reduceLT, Int.reduceLE, Int.reduceEq, Int.reduceBEq, Int.reduceNeg]
              refine callW rfl Tryd.func40 rfl rfl Tryd.ntmps40 Tryd.results40 rfl ?_
              simp -dsimp -implicitDefEqProofs only [go_sem, ↓reduceIte, reduceCtorEq, Nat.reduceLT, Nat.reduceLeDiff, Nat.reduceEqDiff, Nat.reduceAdd, Nat.reduceMul, Nat.reduceSub, Nat.reduceBEq, Int.reduceLT, Int.reduceLE, Int.reduceEq, Int.reduceBEq, Int.reduceNeg]
              refine callW rfl Tryd.func39 rfl rfl Tryd.ntmps39 Tryd.results39 rfl ?_
              simp -dsimp -implicitDefEqProofs only [retH, go_sem, ↓reduceIte, reduceCtorEq, Nat.reduceLT, Nat.reduceLeDiff, Nat.reduceEqDiff, Nat.reduceAdd, Nat.reduceMul, Nat.reduceSub, Nat.reduceBEq, Int.reduceLT, Int.reduceLE, Int.reduceEq, Int.reduceBEq, Int.reduceNeg]
              refine vren [(1300, 600)] ⟨25, [(9, .cs false [.clo 65 [.ptr 1152 0, .ptr 1160 0]]), (6, aP 24 0), (4, aB false), (0, aP 24 0), (1, aP 0 0), (2, aP 8 0), (3, aP 16 0)],
                [(1160, some (.var [cS n] true)), (1152, some (.var [cS a, cD (recsD l)] true)), (24, some (.var [cI 1, .own 1300, cI 0, cS []] true)), (1300, some (.row 4 39 [] true)), (256, some (.var [.clo 36 [.ptr 0 0, .ptr 8 0, .ptr 24 0], .clo 38 [.ptr 24 0, .ptr 0 0, .ptr 8 0, .ptr 16 0], .clo 40 [.ptr 24 0, .ptr 0 0, .ptr 8 0, .ptr 16 0], .clo 41 [.ptr 24 0, .ptr 0 0, .ptr 8 0], .clo 44 [.ptr 24 0]] true)), (16, some (.var [cI k] true)), (8, some (.var [cS n] false)), (0, some (.var [cS a, cD (recsD l)] true))], 1301⟩ ?_ ?_
              · simp -dsimp -implicitDefEqProofs only [hlv0, go_sem, ↓reduceIte, reduceCtorEq, Nat.reduceLT, Nat.reduceLeDiff, Nat.reduceEqDiff, Nat.reduceAdd, Nat.reduceMul, Nat.reduceSub, Nat.reduceBEq, Int.reduceLT, Int.reduceLE, Int.reduceEq, Int.reduceBEq, Int.reduceNeg]
              refine vrange sitOk rfl [1300] [(6, aP 24 0), (0, aP 24 0), (1, aP 0 0), (2, aP 8 0), (3, aP 16 0)] rfl rfl ?_ Tryd.func65 rfl rfl Tryd.ntmps65 Tryd.results65 rfl ?_
              · simp -dsimp -implicitDefEqProofs only [go_sem, ↓reduceIte, reduceCtorEq, Nat.reduceLT, Nat.reduceLeDiff, Nat.reduceEqDiff, Nat.reduceAdd, Nat.reduceMul, Nat.reduceSub, Nat.reduceBEq, Int.reduceLT, Int.reduceLE, Int.reduceEq, Int.reduceBEq, Int.reduceNeg]
              simp -dsimp -implicitDefEqProofs only [go_sem, ↓reduceIte, reduceCtorEq, Nat.reduceLT, Nat.reduceLeDiff, Nat.reduceEqDiff, Nat.reduceAdd, Nat.reduceMul, Nat.reduceSub, Nat.reduceBEq, Int.reduceLT, Int.reduceLE, Int.reduceEq, Int.reduceBEq, Int.reduceNeg]
              generalize hL2 : Lp.mk 25 _ _ _ _ _ = L2
              refine vfor sitOk (ι := CwInv l) (fun v => ⟨24, [(9, aI v.i), (8, aI l.length), (7, aD (recsD l)), (0, .cs false [.yld 1301]), (1, aP 1152 0), (2, aP 1160 0)],
                [(1301, some (.lp L2)), (1160, some (.var [cS n] true)), (1152, some (.var [cS a, cD (recsD l)] true)), (24, some (.var [cI 1, .own 1300, cI 0, cS []] true)), (1300, some (.row 4 39 ((ofL (l.take v.i) n k).map Rec.cells) true)), (256, some (.var [.clo 36 [.ptr 0 0, .ptr 8 0, .ptr 24 0], .clo 38 [.ptr 24 0, .ptr 0 0, .ptr 8 0, .ptr 16 0], .clo 40 [.ptr 24 0, .ptr 0 0, .ptr 8 0, .ptr 16 0], .clo 41 [.ptr 24 0, .ptr 0 0, .ptr 8 0], .clo 44 [.ptr 24 0]] true)), (16, some (.var [cI k] true)), (8, some (.var [cS n] false)), (0, some (.var [cS a, cD (recsD l)] true))], 2000⟩) (fun v => l.length - v.i) ⟨0, by omega⟩ ?_ ?_
              · simp -dsimp -implicitDefEqProofs only [← hL2, go_sem, ↓reduceIte, reduceCtorEq, Nat.reduceLT, Nat.reduceLeDiff, Nat.reduceEqDiff, Nat.reduceAdd, Nat.reduceMul, Nat.reduceSub, Nat.reduceBEq, Int.reduceLT, Int.reduceLE, Int.reduceEq, Int.reduceBEq, Int.reduceNeg]
                simp [ofL, atB]
              intro ⟨i, hi⟩
              have hall := ofL_len (l.take i) n k
              have htl : (l.take i).length ≤ l.length := by simp; omega
              simp -dsimp -implicitDefEqProofs only [go_sem, ↓reduceIte, reduceCtorEq, Nat.reduceLT, Nat.reduceLeDiff, Nat.reduceEqDiff, Nat.reduceAdd, Nat.reduceMul, Nat.reduceSub, Nat.reduceBEq, Int.reduceLT, Int.reduceLE, Int.reduceEq, Int.reduceBEq, Int.reduceNeg]
              refine ⟨fun hlt => ?_, fun hge => ?_⟩
              · have hil : i < l.length := by omega
                obtain ⟨x, hx⟩ : ∃ x, l[i]? = some x := ⟨_, List.getElem?_eq_getElem hil⟩
                have hst := ofL_step n k hx
                have hw := wrapS hil (by omega)
                simp -dsimp -implicitDefEqProofs only [hx, forall_eq', hw, go_sem, ↓reduceIte, reduceCtorEq, Nat.reduceLT, Nat.reduceLeDiff, Nat.reduceEqDiff, Nat.reduceAdd, Nat.reduceMul, Nat.reduceSub, Nat.reduceBEq, Int.reduceLT, Int.reduceLE, Int.reduceEq, Int.reduceBEq, Int.reduceNeg]
                refine ⟨by omega, hil, fun h => yieldW sitOk ?_, fun h => ?_⟩
                · simp -dsimp -implicitDefEqProofs only [← hL2, go_sem, ↓reduceIte, reduceCtorEq, Nat.reduceLT, Nat.reduceLeDiff, Nat.reduceEqDiff, Nat.reduceAdd, Nat.reduceMul, Nat.reduceSub, Nat.reduceBEq, Int.reduceLT, Int.reduceLE, Int.reduceEq, Int.reduceBEq, Int.reduceNeg]
                  intro ro
                  have hrl : (ofL (l.take i) n k).length ≤ 9223372036854775806 ∧ ((ofL (l.take i) n k).length + 1) * 48 ≤ 140737488355328 := by omega
                  refine ⟨fun h2 => ⟨hrl, ?_⟩, fun h2 => ?_⟩
                  · rw [if_pos ⟨h, h2⟩] at hst
                    refine againO 1300 24 1 ⟨i + 1, by omega⟩ (by simp; omega) ?_
                    simp -dsimp -implicitDefEqProofs only [← hL2, hw, hst, List.map_append, List.map_cons, List.map_nil, go_sem, ↓reduceIte, reduceCtorEq, Nat.reduceLT, Nat.reduceLeDiff, Nat.reduceEqDiff, Nat.reduceAdd, Nat.reduceMul, Nat.reduceSub, Nat.reduceBEq, Int.reduceLT, Int.reduceLE, Int.reduceEq, Int.reduceBEq, Int.reduceNeg]
                  · rw [if_neg (fun e => h2 e.2), List.append_nil] at hst
                    refine again ⟨i + 1, by omega⟩ (by simp; omega) ?_
                    simp -dsimp -implicitDefEqProofs only [← hL2, hw, hst, go_sem, ↓reduceIte, reduceCtorEq, Nat.reduceLT, Nat.reduceLeDiff, Nat.reduceEqDiff, Nat.reduceAdd, Nat.reduceMul, Nat.reduceSub, Nat.reduceBEq, Int.reduceLT, Int.reduceLE, Int.reduceEq, Int.reduceBEq, Int.reduceNeg]
                · rw [if_neg (fun e => h e.1), List.append_nil] at hst
                  refine again ⟨i + 1, by omega⟩ (by simp; omega) ?_
                  simp -dsimp -implicitDefEqProofs only [← hL2, hw, hst, go_sem, ↓reduceIte, reduceCtorEq, Nat.reduceLT, Nat.reduceLeDiff, Nat.reduceEqDiff, Nat.reduceAdd, Nat.reduceMul, Nat.reduceSub, Nat.reduceBEq, Int.reduceLT, Int.reduceLE, Int.reduceEq, Int.reduceBEq, Int.reduceNeg]
              · have hil : i = l.length := by omega
                subst hil
                rw [List.take_length] at *
                simp -dsimp -implicitDefEqProofs only [retH, ← hL2, List.length_map, go_sem, ↓reduceIte, reduceCtorEq, Nat.reduceLT, Nat.reduceLeDiff, Nat.reduceEqDiff, Nat.reduceAdd, Nat.reduceMul, Nat.reduceSub, Nat.reduceBEq, Int.reduceLT, Int.reduceLE, Int.reduceEq, Int.reduceBEq, Int.reduceNeg]
                refine ⟨fun h9 => ?_, fun h9 => ?_⟩
                · have hne : ofL l n k ≠ [] := fun e => by rw [e] at h9; simp at h9
                  have hask : askW a l n k = ⟨1, ofL l n k, 0, []⟩ := by unfold askW; rw [hc]; simp only; rw [if_neg (by rw [hnil]; simp), if_pos hne]
                  rw [hask]
                  exact ⟨⟨rfl, rfl, rfl, rfl⟩, h0⟩
                · have hnil2 : ofL l n k = [] := List.length_eq_zero_iff.1 (by omega)
                  refine vround ?_
                  simp -dsimp -implicitDefEqProofs only [w2, w3, t3, w4, hnil2, List.map_nil, go_sem, ↓reduceIte, reduceCtorEq, Nat.reduceLT, Nat.reduceLeDiff, Nat.reduceEqDiff, Nat.reduceAdd, Nat.reduceMul, Nat.reduceSub, Nat.reduceBEq, Int.reduceLT, Int.reduceLE, Int.reduceEq, Int.reduceBEq, Int.reduceNeg]
                  refine callW rfl Tryd.func41 rfl rfl Tryd.ntmps41 Tryd.results41 rfl ?_
                  simp -dsimp -implicitDefEqProofs only [go_sem, ↓reduceIte, reduceCtorEq, Nat.reduceLT, Nat.reduceLeDiff, Nat.reduceEqDiff, Nat.reduceAdd, Nat.reduceMul, Nat.reduceSub, Nat.reduceBEq, Int.reduceLT, Int.reduceLE, Int.reduceEq, Int.reduceBEq, Int.reduceNeg]
                  refine callP (containsU_ok l n hl) ?_
                  simp -dsimp -implicitDefEqProofs only [retH, hnil2, List.map_nil, go_sem, ↓reduceIte, reduceCtorEq, Nat.reduceLT, Nat.reduceLeDiff, Nat.reduceEqDiff, Nat.reduceAdd, Nat.reduceMul, Nat.reduceSub, Nat.reduceBEq, Int.reduceLT, Int.reduceLE, Int.reduceEq, Int.reduceBEq, Int.reduceNeg]
                  refine ⟨fun h10 => ?_, fun h10 => ?_⟩
                  · have hask : askW a l n k = ⟨2, [], 0, []⟩ := by unfold askW; rw [hc]; simp only; rw [if_neg (by rw [hnil]; simp), if_neg (by rw [hnil2]; simp), if_pos h10]
                    rw [hask]
                    exact ⟨⟨rfl, rfl, rfl, rfl⟩, h0⟩
                  · have hask : askW a l n k = ⟨3, [], 0, []⟩ := by unfold askW; rw [hc]; simp only; rw [if_neg (by rw [hnil]; simp), if_neg (by rw [hnil2]; simp), if_neg (by simp [h10])]
                    rw [hask]
                    refine vround ?_
                    simp -dsimp -implicitDefEqProofs only [w2, w3, w4, t4, t3, go_sem, ↓reduceIte, reduceCtorEq, Nat.reduceLT, Nat.reduceLeDiff, Nat.reduceEqDiff, Nat.reduceAdd, Nat.reduceMul, Nat.reduceSub, Nat.reduceBEq, Int.reduceLT, Int.reduceLE, Int.reduceEq, Int.reduceBEq, Int.reduceNeg]
                    refine callW rfl Tryd.func44 rfl rfl Tryd.ntmps44 Tryd.results44 rfl ?_
                    simp -dsimp -implicitDefEqProofs only [retH, hnil2, List.map_nil, go_sem, ↓reduceIte, reduceCtorEq, Nat.reduceLT, Nat.reduceLeDiff, Nat.reduceEqDiff, Nat.reduceAdd, Nat.reduceMul, Nat.reduceSub, Nat.reduceBEq, Int.reduceLT, Int.reduceLE, Int.reduceEq, Int.reduceBEq, Int.reduceNeg]
                    exact h0
    · obtain ⟨q1, q2⟩ := fin 1 (by decide) (by unfold askE; rw [if_pos h0, if_neg h1])
      simp -dsimp -implicitDefEqProofs only [h0, q1, ← q2, List.map_nil, go_sem, ↓reduceIte, reduceCtorEq, Nat.reduceLT, Nat.reduceLeDiff, Nat.reduceEqDiff, Nat.reduceAdd, Nat.reduceMul, Nat.reduceSub, Nat.reduceBEq, Int.reduceLT, Int.reduceLE, Int.reduceEq, Int.reduceBEq, Int.reduceNeg]
      refine callP (named_ok n) ?_
      cases hn : isName n with
      | false => simp -dsimp -implicitDefEqProofs only [hn, q1, ← q2, List.map_nil, go_sem, ↓reduceIte, reduceCtorEq, Nat.reduceLT, Nat.reduceLeDiff, Nat.reduceEqDiff, Nat.reduceAdd, Nat.reduceMul, Nat.reduceSub, Nat.reduceBEq, Int.reduceLT, Int.reduceLE, Int.reduceEq, Int.reduceBEq, Int.reduceNeg]
      | true =>
        by_cases h3 : k < 1
        · simp -dsimp -implicitDefEqProofs only [hn, h3, q1, ← q2, List.map_nil, go_sem, ↓reduceIte, reduceCtorEq, Nat.reduceLT, Nat.reduceLeDiff, Nat.reduceEqDiff, Nat.reduceAdd, Nat.reduceMul, Nat.reduceSub, Nat.reduceBEq, Int.reduceLT, Int.reduceLE, Int.reduceEq, Int.reduceBEq, Int.reduceNeg]
        · have h4 : 5 < k := by
            refine Classical.byContradiction fun h => h1 ⟨hn, by omega, by omega⟩
          simp -dsimp -implicitDefEqProofs only [hn, h3, h4, q1, ← q2, List.map_nil, go_sem, ↓reduceIte, reduceCtorEq, Nat.reduceLT, Nat.reduceLeDiff, Nat.reduceEqDiff, Nat.reduceAdd, Nat.reduceMul, Nat.reduceSub, Nat.reduceBEq, Int.reduceLT, Int.reduceLE, Int.reduceEq, Int.reduceBEq, Int.reduceNeg]
  · obtain ⟨q1, q2⟩ := fin _ h0 (by unfold askE; rw [if_neg h0])
    simp -dsimp -implicitDefEqProofs only [h0, q1, ← q2, List.map_nil, go_sem, ↓reduceIte, reduceCtorEq, Nat.reduceLT, Nat.reduceLeDiff, Nat.reduceEqDiff, Nat.reduceAdd, Nat.reduceMul, Nat.reduceSub, Nat.reduceBEq, Int.reduceLT, Int.reduceLE, Int.reduceEq, Int.reduceBEq, Int.reduceNeg]
end Go.Proofs.YtfgejhlgenaniaaDoor
