
/- slices.Clone of records. cut. Ask. Best. -/
import Derived.Test.YtolpobgfcokoaaaGreatDoorZC
open Nat renaming reduceLT → rn1, reduceLeDiff → rn2, reduceEqDiff → rn3, reduceAdd → rn4, reduceMul → rn5, reduceSub → rn6, reduceBEq → rn7
open Int renaming reduceLT → ri1, reduceLE → ri2, reduceEq → ri3, reduceBEq → ri4, reduceNeg → ri5
namespace Go.Proofs.YtolpobgfcokoaaaGreatDoor
open Go.Eng
set_option linter.unusedSimpArgs false
set_option maxRecDepth 10000

theorem clone_ok (rows : List (List D)) (hl : rows.length ≤ 1000000) :
    Meets Tryz.prog 46 [(false, [vD (.vec 4 rows)])] (rOne (.own 4 52 rows)) := by
  refine meets Tryz.func46 rfl rfl Tryz.ntmps46 Tryz.results46 rfl ?_
  simp -dsimp -implicitDefEqProofs only [go_sem, ↓reduceIte, reduceCtorEq, rn1, rn2, rn3, rn4, rn5, rn6, rn7, ri1, ri2, ri3, ri4, ri5]
  exact fun b hb => ⟨fun h => Classical.byContradiction fun hn => absurd ((hb hn).symm.trans h) (by simp), fun _ => ⟨by omega, by omega⟩⟩
end Go.Proofs.YtolpobgfcokoaaaGreatDoor
namespace Go.Proofs.YtolpobgfcokoaaaGreatDoor
open Go.Eng
set_option linter.unusedSimpArgs false
set_option maxRecDepth 10000

/-- The first record of a cut at a name. -/
def firstNs (l : List Rec) (n : Bs) : Option Rec := (atB l n).find? fun r => r.K == 3
def orO (x y : Option Rec) : Option Rec := match x with
  | some r => some r
  | none => y
/-- The highest cut. -/
def cutF (a : Bs) (l : List Rec) : Nat → Bs → Option Rec → Option Rec
  | 0, _, c => c
  | m + 1, s, c => if s = [] then c else if s = a then c else cutF a l m (upB s) (orO (firstNs l s) c)
def cutV (a : Bs) (l : List Rec) (s : Bs) (c : Option Rec) : Option Rec := cutF a l s.length s c
theorem cutF_same (a : Bs) (l : List Rec) : ∀ (m k : Nat) (s : Bs) (c : Option Rec), s.length ≤ m → s.length ≤ k → cutF a l m s c = cutF a l k s c
  | 0, 0, _, _, _, _ => rfl
  | 0, k + 1, s, c, h, _ => by
    have : s = [] := List.length_eq_zero_iff.1 (by omega)
    subst this
    simp [cutF]
  | m + 1, 0, s, c, _, h => by
    have : s = [] := List.length_eq_zero_iff.1 (by omega)
    subst this
    simp [cutF]
  | m + 1, k + 1, s, c, h1, h2 => by
    unfold cutF
    split
    · rfl
    · rename_i h
      have := upB_lt' h
      rw [cutF_same a l m k (upB s) _ (by omega) (by omega)]
theorem cutV_eq (a : Bs) (l : List Rec) (s : Bs) (c : Option Rec) : cutV a l s c = if s = [] then c else if s = a then c else cutV a l (upB s) (orO (firstNs l s) c) := by
  unfold cutV
  rw [cutF_same a l s.length (s.length + 1) s c (Nat.le_refl _) (by omega), cutF]
  split
  · rfl
  · rename_i h
    have := upB_lt' h
    rw [cutF_same a l s.length (upB s).length (upB s) _ (by omega) (Nat.le_refl _)]
def rowO (c : Option Rec) : List (List D) := match c with
  | some r => [r.cells]
  | none => []
structure CtInv (a : Bs) (l : List Rec) (s : Bs) where
  u : Bs
  c : Option Rec
  eq : cutV a l s none = cutV a l u c
structure CuInv (l : List Rec) (n : Bs) where
  i : Nat
  le : i ≤ l.length
  no : ∀ r ∈ atB (l.take i) n, ¬ r.K = 3

theorem firstNs_found {l : List Rec} {n : Bs} {i : Nat} {x : Rec} (hx : l[i]? = some x) (hN : x.N = n) (hK : x.K = 3) (h : ∀ r ∈ atB (l.take i) n, ¬ r.K = 3) : firstNs l n = some x := by
  have h1 : l = l.take i ++ x :: l.drop (i + 1) := by conv => lhs; rw [← List.take_append_drop i l, drop_at hx]
  have h2 : atB l n = atB (l.take i) n ++ x :: atB (l.drop (i + 1)) n := by
    conv => lhs; rw [h1]
    unfold atB
    rw [List.filter_append, List.filter_cons, if_pos (by simp [hN])]
  unfold firstNs
  rw [h2, List.find?_append]
  have h3 : (atB (l.take i) n).find? (fun r => r.K == 3) = none := by
    rw [List.find?_eq_none]
    intro r hr; simpa using h r hr
  rw [h3, List.find?_cons]
  simp [hK]
theorem firstNs_none {l : List Rec} {n : Bs} (h : ∀ r ∈ atB l n, ¬ r.K = 3) : firstNs l n = none := by
  unfold firstNs
  rw [List.find?_eq_none]
  intro r hr; simpa using h r hr
theorem no_step {l : List Rec} {n : Bs} {i : Nat} {x : Rec} (hx : l[i]? = some x) (h : ∀ r ∈ atB (l.take i) n, ¬ r.K = 3) (h2 : x.N = n → ¬ x.K = 3) : ∀ r ∈ atB (l.take (i + 1)) n, ¬ r.K = 3 := by
  rw [atB_step n hx]
  intro r hr
  rcases List.mem_append.1 hr with hr | hr
  · exact h r hr
  · split at hr
    · rename_i e; simp at hr; rw [hr]; exact h2 e
    · simp at hr

theorem cut_ok' (a : Bs) (l : List Rec) (s : Bs) (hl : l.length ≤ 1000000) : Meets Tryz.prog 133 [zoneA a l, (false, [vS s])] (rOne (.own 4 52 (rowO (cutV a l s none)))) := by
  refine meets Tryz.func133 rfl rfl Tryz.ntmps133 Tryz.results133 rfl ?_
  simp -dsimp -implicitDefEqProofs only [go_sem, ↓reduceIte, reduceCtorEq, rn1, rn2, rn3, rn4, rn5, rn6, rn7, ri1, ri2, ri3, ri4, ri5]
  refine vown 8 0 52 rfl ?_
  simp -dsimp -implicitDefEqProofs only [go_sem, ↓reduceIte, reduceCtorEq, rn1, rn2, rn3, rn4, rn5, rn6, rn7, ri1, ri2, ri3, ri4, ri5]
  refine vforR sitOk [(400, 32)] (ι := CtInv a l s) (fun v => ⟨28, [(5, aS v.u), (4, aP 8 0), (2, aP 0 0)], [(8, some (.var [.own 400] true)), (400, some (.row 4 52 (rowO v.c) true)), (0, some (.var [cS a, cD (recsD l)] true))], 401⟩) (fun v => v.u.length) ⟨s, none, rfl⟩ ?_ ?_
  · simp -dsimp -implicitDefEqProofs only [rowO, go_sem, ↓reduceIte, reduceCtorEq, rn1, rn2, rn3, rn4, rn5, rn6, rn7, ri1, ri2, ri3, ri4, ri5]
  intro ⟨u, c, he⟩
  simp -dsimp -implicitDefEqProofs only [go_sem, ↓reduceIte, reduceCtorEq, rn1, rn2, rn3, rn4, rn5, rn6, rn7, ri1, ri2, ri3, ri4, ri5]
  have hstop : (u = [] ∨ u = a) → cutV a l s none = c := fun h => by
    rw [he, cutV_eq]
    rcases h with h | h
    · rw [if_pos h]
    · rw [if_pos h]; split <;> rfl
  have hstep : ¬ u = [] → ¬ u = a → cutV a l s none = cutV a l (upB u) (orO (firstNs l u) c) := fun h1 h2 => by
    rw [he, cutV_eq, if_neg h1, if_neg h2]
  refine ⟨fun h1 => ⟨fun h2 => ?_, fun h2 => ?_⟩, fun h1 => ?_⟩
  · have hst := hstep h1 h2
    refine callW rfl Tryz.func135 rfl rfl Tryz.ntmps135 Tryz.results135 rfl ?_
    simp -dsimp -implicitDefEqProofs only [retH, go_sem, ↓reduceIte, reduceCtorEq, rn1, rn2, rn3, rn4, rn5, rn6, rn7, ri1, ri2, ri3, ri4, ri5]
    refine vrange sitOk rfl [] [(5, aS u), (4, aP 8 0), (2, aP 0 0)] rfl rfl ?_ Tryz.func178 rfl rfl Tryz.ntmps178 Tryz.results178 rfl ?_
    · simp -dsimp -implicitDefEqProofs only [go_sem, ↓reduceIte, reduceCtorEq, rn1, rn2, rn3, rn4, rn5, rn6, rn7, ri1, ri2, ri3, ri4, ri5]
    simp -dsimp -implicitDefEqProofs only [go_sem, ↓reduceIte, reduceCtorEq, rn1, rn2, rn3, rn4, rn5, rn6, rn7, ri1, ri2, ri3, ri4, ri5]
    generalize hL : Lp.mk 28 _ _ _ _ _ = L
    refine vfor sitOk (ι := CuInv l u) (fun v => ⟨24, [(9, aI v.i), (8, aI l.length), (7, aD (recsD l)), (0, .cs false [.yld 545]), (1, aP 481 0), (2, aP 489 0)],
      [(545, some (.lp L)), (489, some (.var [cS u] true)), (481, some (.var [cS a, cD (recsD l)] true)), (8, some (.var [.own 400] true)), (400, some (.row 4 52 (rowO c) true)), (0, some (.var [cS a, cD (recsD l)] true))], 1000⟩) (fun v => l.length - v.i) ⟨0, by omega, by simp [atB]⟩ ?_ ?_
    · simp -dsimp -implicitDefEqProofs only [← hL, go_sem, ↓reduceIte, reduceCtorEq, rn1, rn2, rn3, rn4, rn5, rn6, rn7, ri1, ri2, ri3, ri4, ri5]
    intro ⟨i, hi, hno⟩
    simp -dsimp -implicitDefEqProofs only [go_sem, ↓reduceIte, reduceCtorEq, rn1, rn2, rn3, rn4, rn5, rn6, rn7, ri1, ri2, ri3, ri4, ri5]
    refine ⟨fun hlt => ?_, fun hge => ?_⟩
    · have hil : i < l.length := by omega
      obtain ⟨x, hx⟩ : ∃ x, l[i]? = some x := ⟨_, List.getElem?_eq_getElem hil⟩
      have hw := wrapS hil (by omega)
      simp -dsimp -implicitDefEqProofs only [hx, forall_eq', hw, go_sem, ↓reduceIte, reduceCtorEq, rn1, rn2, rn3, rn4, rn5, rn6, rn7, ri1, ri2, ri3, ri4, ri5]
      refine ⟨by omega, hil, fun h => yieldW sitOk ?_, fun h => ?_⟩
      · simp -dsimp -implicitDefEqProofs only [← hL, go_sem, ↓reduceIte, reduceCtorEq, rn1, rn2, rn3, rn4, rn5, rn6, rn7, ri1, ri2, ri3, ri4, ri5]
        intro ro
        refine ⟨fun h3 => ?_, fun h3 => ?_⟩
        · simp -dsimp -implicitDefEqProofs only [retH, ← hL, go_sem, ↓reduceIte, reduceCtorEq, rn1, rn2, rn3, rn4, rn5, rn6, rn7, ri1, ri2, ri3, ri4, ri5]
          refine callP (up_ok u) ?_
          simp -dsimp -implicitDefEqProofs only [go_sem, ↓reduceIte, reduceCtorEq, rn1, rn2, rn3, rn4, rn5, rn6, rn7, ri1, ri2, ri3, ri4, ri5]
          refine againO 400 8 0 ⟨upB u, some x, by rw [hst, firstNs_found hx h h3 hno]; rfl⟩ (upB_lt' h1) ?_
          simp -dsimp -implicitDefEqProofs only [rowO, go_sem, ↓reduceIte, reduceCtorEq, rn1, rn2, rn3, rn4, rn5, rn6, rn7, ri1, ri2, ri3, ri4, ri5]
        · refine again ⟨i + 1, by omega, no_step hx hno fun _ => h3⟩ (by simp; omega) ?_
          simp -dsimp -implicitDefEqProofs only [← hL, hw, go_sem, ↓reduceIte, reduceCtorEq, rn1, rn2, rn3, rn4, rn5, rn6, rn7, ri1, ri2, ri3, ri4, ri5]
      · refine again ⟨i + 1, by omega, no_step hx hno fun e => absurd e h⟩ (by simp; omega) ?_
        simp -dsimp -implicitDefEqProofs only [← hL, hw, go_sem, ↓reduceIte, reduceCtorEq, rn1, rn2, rn3, rn4, rn5, rn6, rn7, ri1, ri2, ri3, ri4, ri5]
    · have hil : i = l.length := by omega
      subst hil
      rw [List.take_length] at hno
      rw [firstNs_none hno] at hst
      simp -dsimp -implicitDefEqProofs only [retH, ← hL, go_sem, ↓reduceIte, reduceCtorEq, rn1, rn2, rn3, rn4, rn5, rn6, rn7, ri1, ri2, ri3, ri4, ri5]
      refine callP (up_ok u) ?_
      simp -dsimp -implicitDefEqProofs only [go_sem, ↓reduceIte, reduceCtorEq, rn1, rn2, rn3, rn4, rn5, rn6, rn7, ri1, ri2, ri3, ri4, ri5]
      refine againO 400 8 0 ⟨upB u, c, by rw [hst]; rfl⟩ (upB_lt' h1) ?_
      simp -dsimp -implicitDefEqProofs only [go_sem, ↓reduceIte, reduceCtorEq, rn1, rn2, rn3, rn4, rn5, rn6, rn7, ri1, ri2, ri3, ri4, ri5]
  · rw [hstop (.inr h2)]
  · rw [hstop (.inl h1)]
end Go.Proofs.YtolpobgfcokoaaaGreatDoor
namespace Go.Proofs.YtolpobgfcokoaaaGreatDoor
open Go.Eng
set_option linter.unusedSimpArgs false
set_option maxRecDepth 10000

def aliasL (l : List Rec) (n : Bs) (k : Int) : List Rec := (atB l n).filter fun r => r.K == 4 && k != 4
def ofL (l : List Rec) (n : Bs) (k : Int) : List Rec := (atB l n).filter fun r => r.K == k
def lastV (l : List Rec) : Bs := match l.getLast? with
  | some r => r.V
  | none => []
def digV : Bs → Int
  | d :: _ => (d.toNat : Int) - 48
  | [] => 0
/-- An answer: Kind, Recs, To, Alias. -/
structure An where
  K : Int
  R : List Rec
  T : Int
  A : Bs
  deriving DecidableEq
def askE (a : Bs) (l : List Rec) (n : Bs) (k : Int) : Int :=
  if checkV a l = 0 then if isName n = true ∧ 1 ≤ k ∧ k ≤ 5 then if underB n a then 0 else 120 else 1 else checkV a l
def askW (a : Bs) (l : List Rec) (n : Bs) (k : Int) : An := match cutV a l n none with
  | some c => ⟨4, [c], digV c.V, []⟩
  | none => if aliasL l n k ≠ [] then ⟨5, aliasL l n k, 0, lastV (aliasL l n k)⟩
    else if ofL l n k ≠ [] then ⟨1, ofL l n k, 0, []⟩
    else if l.any (fun r => underB r.N n) then ⟨2, [], 0, []⟩ else ⟨3, [], 0, []⟩
def askV (a : Bs) (l : List Rec) (n : Bs) (k : Int) : An := if askE a l n k = 0 then askW a l n k else ⟨0, [], 0, []⟩
abbrev ansO (x : An) : Bool × List CV := (true, [vI x.K, .own 4 52 (x.R.map Rec.cells), vI x.T, vS x.A])

theorem checkV_zero {a : Bs} {l : List Rec} (h : checkV a l = 0) : apexB a = true ∧ (∀ i, i < l.length → goodAt a l i = true) ∧ l.length ≤ 64 := by
  unfold checkV at h
  split at h
  · rename_i hk
    simp only [okZ, Bool.and_eq_true] at hk
    refine ⟨hk.1, fun i hi => List.all_eq_true.1 hk.2 i (List.mem_range.2 hi), ?_⟩
    split at h
    · cases h
    · omega
  · cases h
theorem good_mem {a : Bs} {l : List Rec} (h : checkV a l = 0) {r : Rec} (hr : r ∈ l) : formB r = true ∧ underB r.N a = true ∧ crowdB l r.N = false := by
  obtain ⟨i, hi⟩ := List.mem_iff_getElem?.1 hr
  have h1 := (checkV_zero h).2.1 i (List.getElem?_eq_some_iff.1 hi).1
  unfold goodAt at h1
  rw [hi] at h1
  simp only [Bool.and_eq_true, Bool.not_eq_true'] at h1
  exact ⟨h1.1.1.1, h1.1.1.2, h1.2⟩
theorem firstNs_mem {l : List Rec} {n : Bs} {c : Rec} (h : firstNs l n = some c) : c ∈ l ∧ c.K = 3 ∧ c.N = n := by
  unfold firstNs at h
  have h1 := List.mem_of_find?_eq_some h
  have h2 := List.find?_some h
  unfold atB at h1
  rw [List.mem_filter] at h1
  exact ⟨h1.1, by simpa using h2, by simpa using h1.2⟩
theorem cutV_mem {a : Bs} {l : List Rec} : ∀ (m : Nat) (s : Bs) (c0 : Option Rec) (c : Rec), s.length ≤ m → cutV a l s c0 = some c → c0 = some c ∨ (c ∈ l ∧ c.K = 3) := by
  intro m
  induction m with
  | zero =>
    intro s c0 c hm h
    have : s = [] := List.length_eq_zero_iff.1 (by omega)
    rw [cutV_eq, if_pos this] at h
    exact .inl h
  | succ m ih =>
    intro s c0 c hm h
    rw [cutV_eq] at h
    split at h
    · exact .inl h
    · rename_i hs
      split at h
      · exact .inl h
      · have hlt := upB_lt' hs
        rcases ih _ _ _ (by omega) h with h1 | h1
        · unfold orO at h1
          split at h1
          · rename_i r hr; cases h1; exact .inr ⟨(firstNs_mem hr).1, (firstNs_mem hr).2.1⟩
          · exact .inl h1
        · exact .inr h1
theorem form_ns {r : Rec} (h : formB r = true) (hk : r.K = 3) : ∃ d : UInt8, r.V = [d] ∧ 48 ≤ d.toNat ∧ d.toNat ≤ 55 := by
  simp only [formB, fitsB, Bool.and_eq_true] at h
  have h1 := h.1.1.1
  rw [if_neg (by omega), if_pos hk] at h1
  unfold digitB at h1
  split at h1
  · rename_i c e; simp at h1; exact ⟨c, e, h1⟩
  · cases h1
theorem form_alias {r : Rec} (h : formB r = true) (hk : r.K = 4) : isName r.V = true := by
  simp only [formB, fitsB, Bool.and_eq_true] at h
  have h1 := h.1.1.1
  rwa [if_neg (by omega), if_neg (by omega), if_pos hk] at h1

theorem underC_ok (r : Rec) (n : Bs) : Meets Tryz.prog 138 [r.arg, (false, [vD (.pt [dT n])])] (rOne (vB (underB r.N n))) := by
  refine meets Tryz.func138 rfl rfl Tryz.ntmps138 Tryz.results138 rfl ?_
  simp -dsimp -implicitDefEqProofs only [go_sem, ↓reduceIte, reduceCtorEq, rn1, rn2, rn3, rn4, rn5, rn6, rn7, ri1, ri2, ri3, ri4, ri5]
  refine callP (under_ok _ _) ?_
  simp -dsimp -implicitDefEqProofs only [go_sem, ↓reduceIte, reduceCtorEq, rn1, rn2, rn3, rn4, rn5, rn6, rn7, ri1, ri2, ri3, ri4, ri5]
def idxU (l : List Rec) (n : Bs) : Int := match l.findIdx? fun r => underB r.N n with
  | some i => (i : Nat)
  | none => -1
structure CfInv (l : List Rec) (n : Bs) where
  i : Nat
  le : i ≤ l.length
  no : ∀ j x, j < i → l[j]? = some x → underB x.N n = false
theorem indexU_ok (l : List Rec) (n : Bs) (hl : l.length ≤ 1000000) : Meets Tryz.prog 114 [(false, [vD (recsD l)]), (false, [vD (.fn 138 [.pt [dT n]])])] (rOne (vI (idxU l n))) := by
  refine meets Tryz.func114 rfl rfl Tryz.ntmps114 Tryz.results114 rfl ?_
  simp -dsimp -implicitDefEqProofs only [go_sem, ↓reduceIte, reduceCtorEq, rn1, rn2, rn3, rn4, rn5, rn6, rn7, ri1, ri2, ri3, ri4, ri5]
  refine vfor sitOk (ι := CfInv l n) (fun v => ⟨19, [(8, aI v.i), (7, aI l.length), (0, aD (recsD l)), (1, aD (.fn 138 [.pt [dT n]]))], [], 8⟩) (fun v => l.length - v.i) ⟨0, by omega, fun j x hj => by omega⟩ ?_ ?_
  · simp -dsimp -implicitDefEqProofs only [go_sem, ↓reduceIte, reduceCtorEq, rn1, rn2, rn3, rn4, rn5, rn6, rn7, ri1, ri2, ri3, ri4, ri5]
  intro ⟨i, hi, hno⟩
  simp -dsimp -implicitDefEqProofs only [go_sem, ↓reduceIte, reduceCtorEq, rn1, rn2, rn3, rn4, rn5, rn6, rn7, ri1, ri2, ri3, ri4, ri5]
  refine ⟨fun hlt => ?_, fun hge => ?_⟩
  · have hil : i < l.length := by omega
    obtain ⟨x, hx⟩ : ∃ x, l[i]? = some x := ⟨_, List.getElem?_eq_getElem hil⟩
    have hw := wrapS hil (by omega)
    simp -dsimp -implicitDefEqProofs only [hx, forall_eq', hw, go_sem, ↓reduceIte, reduceCtorEq, rn1, rn2, rn3, rn4, rn5, rn6, rn7, ri1, ri2, ri3, ri4, ri5]
    refine ⟨by omega, hil, callP (underC_ok x n) ?_⟩
    simp -dsimp -implicitDefEqProofs only [hw, go_sem, ↓reduceIte, reduceCtorEq, rn1, rn2, rn3, rn4, rn5, rn6, rn7, ri1, ri2, ri3, ri4, ri5]
    refine ⟨fun h => ?_, fun h => ?_⟩
    · have : (l.findIdx? fun r => underB r.N n) = some i := by
        rw [List.findIdx?_eq_some_iff_getElem]
        refine ⟨hil, ?_, fun j hj => ?_⟩
        · have := Option.some.inj ((List.getElem?_eq_getElem hil).symm.trans hx)
          rw [this]; exact h
        · have hjl : j < l.length := by omega
          have := hno j l[j] hj (List.getElem?_eq_getElem hjl)
          simp [this]
      unfold idxU; rw [this]
    · refine again ⟨i + 1, by omega, fun j y hj hy => ?_⟩ (by simp; omega) ?_
      · by_cases hji : j = i
        · subst hji; rw [hx] at hy; cases hy; exact h
        · exact hno j y (by omega) hy
      · simp -dsimp -implicitDefEqProofs only [go_sem, ↓reduceIte, reduceCtorEq, rn1, rn2, rn3, rn4, rn5, rn6, rn7, ri1, ri2, ri3, ri4, ri5]
  · have : (l.findIdx? fun r => underB r.N n) = none := by
      rw [List.findIdx?_eq_none_iff]
      intro x hx
      obtain ⟨j, hj⟩ := List.mem_iff_getElem?.1 hx
      exact hno j x (by have := (List.getElem?_eq_some_iff.1 hj).1; omega) hj
    unfold idxU; rw [this]
theorem containsU_ok (l : List Rec) (n : Bs) (hl : l.length ≤ 1000000) : Meets Tryz.prog 74 [(false, [vD (recsD l)]), (false, [vD (.fn 138 [.pt [dT n]])])] (rOne (vB (l.any fun r => underB r.N n))) := by
  refine meets Tryz.func74 rfl rfl Tryz.ntmps74 Tryz.results74 rfl ?_
  simp -dsimp -implicitDefEqProofs only [go_sem, ↓reduceIte, reduceCtorEq, rn1, rn2, rn3, rn4, rn5, rn6, rn7, ri1, ri2, ri3, ri4, ri5]
  refine callP (indexU_ok l n hl) ?_
  simp -dsimp -implicitDefEqProofs only [go_sem, ↓reduceIte, reduceCtorEq, rn1, rn2, rn3, rn4, rn5, rn6, rn7, ri1, ri2, ri3, ri4, ri5]
  unfold idxU
  cases h : l.findIdx? fun r => underB r.N n with
  | none =>
    rw [List.findIdx?_eq_none_iff] at h
    have : (l.any fun r => underB r.N n) = false := by
      rw [List.any_eq_false]; intro x hx; simpa using h x hx
    rw [this]; rfl
  | some i =>
    obtain ⟨hi, h1, _⟩ := List.findIdx?_eq_some_iff_getElem.1 h
    have : (l.any fun r => underB r.N n) = true := List.any_eq_true.2 ⟨_, List.getElem_mem hi, h1⟩
    rw [this]; simp

theorem aliasL_step {l : List Rec} {i : Nat} {x : Rec} (n : Bs) (k : Int) (h : l[i]? = some x) : aliasL (l.take (i + 1)) n k = aliasL (l.take i) n k ++ (if x.N = n ∧ x.K = 4 ∧ ¬ k = x.K then [x] else []) := by
  unfold aliasL
  rw [atB_step n h, List.filter_append]
  congr 1
  by_cases h1 : x.N = n
  · rw [if_pos h1, List.filter_cons, List.filter_nil]
    by_cases h2 : x.K = 4
    · by_cases h3 : k = 4
      · simp [h1, h2, h3]
      · simp [h1, h2, h3]
    · simp [h2]
  · simp [h1]
theorem ofL_step {l : List Rec} {i : Nat} {x : Rec} (n : Bs) (k : Int) (h : l[i]? = some x) : ofL (l.take (i + 1)) n k = ofL (l.take i) n k ++ (if x.N = n ∧ x.K = k then [x] else []) := by
  unfold ofL
  rw [atB_step n h, List.filter_append]
  congr 1
  by_cases h1 : x.N = n
  · rw [if_pos h1, List.filter_cons, List.filter_nil]
    by_cases h2 : x.K = k
    · simp [h1, h2]
    · simp [h2]
  · simp [h1]
theorem aliasL_len (l : List Rec) (n : Bs) (k : Int) : (aliasL l n k).length ≤ l.length := Nat.le_trans (List.length_filter_le ..) (atB_len l n)
theorem ofL_len (l : List Rec) (n : Bs) (k : Int) : (ofL l n k).length ≤ l.length := Nat.le_trans (List.length_filter_le ..) (atB_len l n)

theorem ask_ok (a : Bs) (l : List Rec) (n : Bs) (k : Int) (hl : l.length ≤ 1000000) : Meets Tryz.prog 91 [zoneA a l, (false, [vS n]), (false, [vI k])] (rTup [ansO (askV a l n k), (false, [vI (askE a l n k)])]) := by
  refine meets Tryz.func91 rfl rfl Tryz.ntmps91 Tryz.results91 rfl ?_
  simp -dsimp -implicitDefEqProofs only [go_sem, ↓reduceIte, reduceCtorEq, rn1, rn2, rn3, rn4, rn5, rn6, rn7, ri1, ri2, ri3, ri4, ri5]
  refine callP (zcheck_ok a l hl) ?_
  simp -dsimp -implicitDefEqProofs only [go_sem, ↓reduceIte, reduceCtorEq, rn1, rn2, rn3, rn4, rn5, rn6, rn7, ri1, ri2, ri3, ri4, ri5]
  have fin : ∀ e : Int, e ≠ 0 → askE a l n k = e → askV a l n k = ⟨0, [], 0, []⟩ ∧ e = askE a l n k := fun e he h => by
    unfold askV
    rw [if_neg (by rw [h]; exact he)]
    exact ⟨rfl, h.symm⟩
  by_cases h0 : checkV a l = 0
  · by_cases h1 : isName n = true ∧ 1 ≤ k ∧ k ≤ 5
    · obtain ⟨h1a, h1b, h1c⟩ := h1
      have h1d : ¬ k < 1 := by omega
      have h1e : ¬ 5 < k := by omega
      simp -dsimp -implicitDefEqProofs only [h0, go_sem, ↓reduceIte, reduceCtorEq, rn1, rn2, rn3, rn4, rn5, rn6, rn7, ri1, ri2, ri3, ri4, ri5]
      refine callP (named_ok n) ?_
      simp -dsimp -implicitDefEqProofs only [h1a, h1d, h1e, go_sem, ↓reduceIte, reduceCtorEq, rn1, rn2, rn3, rn4, rn5, rn6, rn7, ri1, ri2, ri3, ri4, ri5]
      refine callP (under_ok _ _) ?_
      cases h2 : underB n a with
      | false =>
        obtain ⟨q1, q2⟩ := fin 120 (by decide) (by unfold askE; rw [if_pos h0, if_pos ⟨h1a, h1b, h1c⟩, if_neg (by simp [h2])])
        simp -dsimp -implicitDefEqProofs only [h2, q1, ← q2, List.map_nil, go_sem, ↓reduceIte, reduceCtorEq, rn1, rn2, rn3, rn4, rn5, rn6, rn7, ri1, ri2, ri3, ri4, ri5]
      | true =>
        have he : askE a l n k = 0 := by unfold askE; rw [if_pos h0, if_pos ⟨h1a, h1b, h1c⟩, if_pos h2]
        have hv : askV a l n k = askW a l n k := by unfold askV; rw [if_pos he]
        rw [he, hv]
        simp -dsimp -implicitDefEqProofs only [h2, go_sem, ↓reduceIte, reduceCtorEq, rn1, rn2, rn3, rn4, rn5, rn6, rn7, ri1, ri2, ri3, ri4, ri5]
        refine vfreeze 8 rfl ?_
        simp -dsimp -implicitDefEqProofs only [go_sem, ↓reduceIte, reduceCtorEq, rn1, rn2, rn3, rn4, rn5, rn6, rn7, ri1, ri2, ri3, ri4, ri5]
        refine vrounds 6 sitOk ?_
        simp -dsimp -implicitDefEqProofs only [go_sem, ↓reduceIte, reduceCtorEq, rn1, rn2, rn3, rn4, rn5, rn6, rn7, ri1, ri2, ri3, ri4, ri5]
        refine vround ?_
        simp -dsimp -implicitDefEqProofs only [go_sem, ↓reduceIte, reduceCtorEq, rn1, rn2, rn3, rn4, rn5, rn6, rn7, ri1, ri2, ri3, ri4, ri5]
        refine callW rfl Tryz.func132 rfl rfl Tryz.ntmps132 Tryz.results132 rfl ?_
        simp -dsimp -implicitDefEqProofs only [go_sem, ↓reduceIte, reduceCtorEq, rn1, rn2, rn3, rn4, rn5, rn6, rn7, ri1, ri2, ri3, ri4, ri5]
        refine callP (cut_ok' a l n hl) ?_
        cases hc : cutV a l n none with
        | some c =>
          rcases cutV_mem n.length n none c (Nat.le_refl _) hc with q | ⟨hcm, hck⟩
          · cases q
          obtain ⟨d, hd, hd1, hd2⟩ := form_ns (good_mem h0 hcm).1 hck
          have hw : IntKind.u8.wrap ((d.toNat : Int) - 48) = (d.toNat : Int) - 48 := by simp [IntKind.wrap, IntKind.signed, IntKind.bits]; omega
          have hw2 : IntKind.i64.wrap ((d.toNat : Int) - 48) = (d.toNat : Int) - 48 := by rw [wrap64] <;> omega
          have hask : askW a l n k = ⟨4, [c], (d.toNat : Int) - 48, []⟩ := by unfold askW; rw [hc]; simp [digV, hd]
          rw [hask]
          simp -dsimp -implicitDefEqProofs only [retH, rowO, hd, hw, hw2, go_sem, ↓reduceIte, reduceCtorEq, rn1, rn2, rn3, rn4, rn5, rn6, rn7, ri1, ri2, ri3, ri4, ri5]
          exact h0
        | none =>
          have w1 : IntKind.i64.wrap ((0 : Int) + 1) = 1 := by decide
          have w2 : IntKind.i64.wrap ((1 : Int) + 1) = 2 := by decide
          have w3 : IntKind.i64.wrap ((2 : Int) + 1) = 3 := by decide
          have w4 : IntKind.i64.wrap ((3 : Int) + 1) = 4 := by decide
          have hlv0 : lastV [] = [] := rfl
          have t1 : Int.toNat 1 = 1 := rfl
          have t2 : Int.toNat 2 = 2 := rfl
          have t3 : Int.toNat 3 = 3 := rfl
          have t4 : Int.toNat 4 = 4 := rfl
          simp -dsimp -implicitDefEqProofs only [retH, rowO, w1, go_sem, ↓reduceIte, reduceCtorEq, rn1, rn2, rn3, rn4, rn5, rn6, rn7, ri1, ri2, ri3, ri4, ri5]
          refine vround ?_
          simp -dsimp -implicitDefEqProofs only [w2, t1, go_sem, ↓reduceIte, reduceCtorEq, rn1, rn2, rn3, rn4, rn5, rn6, rn7, ri1, ri2, ri3, ri4, ri5]
          refine callW rfl Tryz.func134 rfl rfl Tryz.ntmps134 Tryz.results134 rfl ?_
          simp -dsimp -implicitDefEqProofs only [go_sem, ↓reduceIte, reduceCtorEq, rn1, rn2, rn3, rn4, rn5, rn6, rn7, ri1, ri2, ri3, ri4, ri5]
          refine callW rfl Tryz.func135 rfl rfl Tryz.ntmps135 Tryz.results135 rfl ?_
          simp -dsimp -implicitDefEqProofs only [retH, go_sem, ↓reduceIte, reduceCtorEq, rn1, rn2, rn3, rn4, rn5, rn6, rn7, ri1, ri2, ri3, ri4, ri5]
          refine vren [(600, 344)] ⟨32, [(9, .cs false [.clo 178 [.ptr 536 0, .ptr 544 0]]), (6, aP 24 0), (4, aB false), (0, aP 24 0), (1, aP 0 0), (2, aP 8 0), (3, aP 16 0)],
            [(544, some (.var [cS n] true)), (536, some (.var [cS a, cD (recsD l)] true)), (24, some (.var [cI 5, .own 600, cI 0, cS []] true)), (600, some (.row 4 52 [] true)),
             (256, some (.var [.clo 132 [.ptr 0 0, .ptr 8 0, .ptr 24 0], .clo 134 [.ptr 24 0, .ptr 0 0, .ptr 8 0, .ptr 16 0], .clo 136 [.ptr 24 0, .ptr 0 0, .ptr 8 0, .ptr 16 0], .clo 137 [.ptr 24 0, .ptr 0 0, .ptr 8 0], .clo 139 [.ptr 24 0]] true)), (16, some (.var [cI k] true)), (8, some (.var [cS n] false)), (0, some (.var [cS a, cD (recsD l)] true))], 601⟩ ?_ ?_
          · simp -dsimp -implicitDefEqProofs only [go_sem, ↓reduceIte, reduceCtorEq, rn1, rn2, rn3, rn4, rn5, rn6, rn7, ri1, ri2, ri3, ri4, ri5]
          refine vrange sitOk rfl [600] [(6, aP 24 0), (0, aP 24 0), (1, aP 0 0), (2, aP 8 0), (3, aP 16 0)] rfl rfl ?_ Tryz.func178 rfl rfl Tryz.ntmps178 Tryz.results178 rfl ?_
          · simp -dsimp -implicitDefEqProofs only [go_sem, ↓reduceIte, reduceCtorEq, rn1, rn2, rn3, rn4, rn5, rn6, rn7, ri1, ri2, ri3, ri4, ri5]
          simp -dsimp -implicitDefEqProofs only [go_sem, ↓reduceIte, reduceCtorEq, rn1, rn2, rn3, rn4, rn5, rn6, rn7, ri1, ri2, ri3, ri4, ri5]
          generalize hL : Lp.mk 32 _ _ _ _ _ = L
          refine vfor sitOk (ι := CwInv l) (fun v => ⟨24, [(9, aI v.i), (8, aI l.length), (7, aD (recsD l)), (0, .cs false [.yld 601]), (1, aP 536 0), (2, aP 544 0)],
            [(601, some (.lp L)), (544, some (.var [cS n] true)), (536, some (.var [cS a, cD (recsD l)] true)), (24, some (.var [cI 5, .own 600, cI 0, cS (lastV (aliasL (l.take v.i) n k))] true)), (600, some (.row 4 52 ((aliasL (l.take v.i) n k).map Rec.cells) true)), (256, some (.var [.clo 132 [.ptr 0 0, .ptr 8 0, .ptr 24 0], .clo 134 [.ptr 24 0, .ptr 0 0, .ptr 8 0, .ptr 16 0], .clo 136 [.ptr 24 0, .ptr 0 0, .ptr 8 0, .ptr 16 0], .clo 137 [.ptr 24 0, .ptr 0 0, .ptr 8 0], .clo 139 [.ptr 24 0]] true)), (16, some (.var [cI k] true)), (8, some (.var [cS n] false)), (0, some (.var [cS a, cD (recsD l)] true))], 1000⟩) (fun v => l.length - v.i) ⟨0, by omega⟩ ?_ ?_
          · simp -dsimp -implicitDefEqProofs only [← hL, go_sem, ↓reduceIte, reduceCtorEq, rn1, rn2, rn3, rn4, rn5, rn6, rn7, ri1, ri2, ri3, ri4, ri5]
            simp [aliasL, atB, lastV]
          intro ⟨i, hi⟩
          have hall := aliasL_len (l.take i) n k
          have htl : (l.take i).length ≤ l.length := by simp; omega
          simp -dsimp -implicitDefEqProofs only [go_sem, ↓reduceIte, reduceCtorEq, rn1, rn2, rn3, rn4, rn5, rn6, rn7, ri1, ri2, ri3, ri4, ri5]
          refine ⟨fun hlt => ?_, fun hge => ?_⟩
          · have hil : i < l.length := by omega
            obtain ⟨x, hx⟩ : ∃ x, l[i]? = some x := ⟨_, List.getElem?_eq_getElem hil⟩
            have hst := aliasL_step n k hx
            have hw := wrapS hil (by omega)
            simp -dsimp -implicitDefEqProofs only [hx, forall_eq', hw, go_sem, ↓reduceIte, reduceCtorEq, rn1, rn2, rn3, rn4, rn5, rn6, rn7, ri1, ri2, ri3, ri4, ri5]
            refine ⟨by omega, hil, fun h => yieldW sitOk ?_, fun h => ?_⟩
            · simp -dsimp -implicitDefEqProofs only [← hL, go_sem, ↓reduceIte, reduceCtorEq, rn1, rn2, rn3, rn4, rn5, rn6, rn7, ri1, ri2, ri3, ri4, ri5]
              intro ro
              have hrl : (aliasL (l.take i) n k).length ≤ 9223372036854775806 ∧ ((aliasL (l.take i) n k).length + 1) * 48 ≤ 140737488355328 := by omega
              refine ⟨fun h2 => ⟨fun h3 => ⟨hrl, drawn (by kernel_rfl), ?_⟩, fun h3 => ?_⟩, fun h2 => ?_⟩
              · rw [if_pos ⟨h, h2, h3⟩] at hst
                have hlv : lastV (aliasL (l.take i) n k ++ [x]) = x.V := by simp [lastV]
                refine againO 600 24 1 ⟨i + 1, by omega⟩ (by simp; omega) ?_
                simp -dsimp -implicitDefEqProofs only [← hL, hw, hst, hlv, List.map_append, List.map_cons, List.map_nil, go_sem, ↓reduceIte, reduceCtorEq, rn1, rn2, rn3, rn4, rn5, rn6, rn7, ri1, ri2, ri3, ri4, ri5]
              · rw [if_neg (fun e => e.2.2 h3), List.append_nil] at hst
                refine again ⟨i + 1, by omega⟩ (by simp; omega) ?_
                simp -dsimp -implicitDefEqProofs only [← hL, hw, hst, go_sem, ↓reduceIte, reduceCtorEq, rn1, rn2, rn3, rn4, rn5, rn6, rn7, ri1, ri2, ri3, ri4, ri5]
              · rw [if_neg (fun e => h2 e.2.1), List.append_nil] at hst
                refine again ⟨i + 1, by omega⟩ (by simp; omega) ?_
                simp -dsimp -implicitDefEqProofs only [← hL, hw, hst, go_sem, ↓reduceIte, reduceCtorEq, rn1, rn2, rn3, rn4, rn5, rn6, rn7, ri1, ri2, ri3, ri4, ri5]
            · rw [if_neg (fun e => h e.1), List.append_nil] at hst
              refine again ⟨i + 1, by omega⟩ (by simp; omega) ?_
              simp -dsimp -implicitDefEqProofs only [← hL, hw, hst, go_sem, ↓reduceIte, reduceCtorEq, rn1, rn2, rn3, rn4, rn5, rn6, rn7, ri1, ri2, ri3, ri4, ri5]
          · have hil : i = l.length := by omega
            subst hil
            rw [List.take_length] at *
            have hlast : lastV (aliasL l n k) = [] ↔ aliasL l n k = [] := by
              constructor
              · intro h
                cases hg : (aliasL l n k).getLast? with
                | none => exact List.getLast?_eq_none_iff.1 hg
                | some r =>
                  have hm := List.mem_of_getLast? hg
                  unfold aliasL atB at hm
                  simp only [List.mem_filter, Bool.and_eq_true, beq_iff_eq] at hm
                  have := form_alias (good_mem h0 hm.1.1).1 hm.2.1
                  unfold lastV at h
                  rw [hg] at h
                  simp only at h
                  rw [h, isName_nil] at this; cases this
              · intro h; rw [h]; rfl
            simp -dsimp -implicitDefEqProofs only [retH, ← hL, go_sem, ↓reduceIte, reduceCtorEq, rn1, rn2, rn3, rn4, rn5, rn6, rn7, ri1, ri2, ri3, ri4, ri5]
            refine ⟨fun h => ?_, fun h => ?_⟩
            · have hne : aliasL l n k ≠ [] := fun e => h (hlast.2 e)
              have hask : askW a l n k = ⟨5, aliasL l n k, 0, lastV (aliasL l n k)⟩ := by unfold askW; rw [hc]; simp only; rw [if_pos hne]
              rw [hask]
              exact ⟨⟨rfl, rfl, rfl, rfl⟩, h0⟩
            · have hnil := hlast.1 h
              refine vround ?_
              simp -dsimp -implicitDefEqProofs only [w2, w3, t2, h, hnil, List.map_nil, go_sem, ↓reduceIte, reduceCtorEq, rn1, rn2, rn3, rn4, rn5, rn6, rn7, ri1, ri2, ri3, ri4, ri5]
              refine callW rfl Tryz.func136 rfl rfl Tryz.ntmps136 Tryz.results136 rfl ?_
              simp -dsimp -implicitDefEqProofs only [go_sem, ↓reduceIte, reduceCtorEq, rn1, rn2, rn3, rn4, rn5, rn6, rn7, ri1, ri2, ri3, ri4, ri5]
              refine callW rfl Tryz.func135 rfl rfl Tryz.ntmps135 Tryz.results135 rfl ?_
              simp -dsimp -implicitDefEqProofs only [retH, go_sem, ↓reduceIte, reduceCtorEq, rn1, rn2, rn3, rn4, rn5, rn6, rn7, ri1, ri2, ri3, ri4, ri5]
              refine vren [(1300, 600)] ⟨25, [(9, .cs false [.clo 178 [.ptr 1152 0, .ptr 1160 0]]), (6, aP 24 0), (4, aB false), (0, aP 24 0), (1, aP 0 0), (2, aP 8 0), (3, aP 16 0)],
                [(1160, some (.var [cS n] true)), (1152, some (.var [cS a, cD (recsD l)] true)), (24, some (.var [cI 1, .own 1300, cI 0, cS []] true)), (1300, some (.row 4 52 [] true)), (256, some (.var [.clo 132 [.ptr 0 0, .ptr 8 0, .ptr 24 0], .clo 134 [.ptr 24 0, .ptr 0 0, .ptr 8 0, .ptr 16 0], .clo 136 [.ptr 24 0, .ptr 0 0, .ptr 8 0, .ptr 16 0], .clo 137 [.ptr 24 0, .ptr 0 0, .ptr 8 0], .clo 139 [.ptr 24 0]] true)), (16, some (.var [cI k] true)), (8, some (.var [cS n] false)), (0, some (.var [cS a, cD (recsD l)] true))], 1301⟩ ?_ ?_
              · simp -dsimp -implicitDefEqProofs only [hlv0, go_sem, ↓reduceIte, reduceCtorEq, rn1, rn2, rn3, rn4, rn5, rn6, rn7, ri1, ri2, ri3, ri4, ri5]
              refine vrange sitOk rfl [1300] [(6, aP 24 0), (0, aP 24 0), (1, aP 0 0), (2, aP 8 0), (3, aP 16 0)] rfl rfl ?_ Tryz.func178 rfl rfl Tryz.ntmps178 Tryz.results178 rfl ?_
              · simp -dsimp -implicitDefEqProofs only [go_sem, ↓reduceIte, reduceCtorEq, rn1, rn2, rn3, rn4, rn5, rn6, rn7, ri1, ri2, ri3, ri4, ri5]
              simp -dsimp -implicitDefEqProofs only [go_sem, ↓reduceIte, reduceCtorEq, rn1, rn2, rn3, rn4, rn5, rn6, rn7, ri1, ri2, ri3, ri4, ri5]
              generalize hL2 : Lp.mk 25 _ _ _ _ _ = L2
              refine vfor sitOk (ι := CwInv l) (fun v => ⟨24, [(9, aI v.i), (8, aI l.length), (7, aD (recsD l)), (0, .cs false [.yld 1301]), (1, aP 1152 0), (2, aP 1160 0)],
                [(1301, some (.lp L2)), (1160, some (.var [cS n] true)), (1152, some (.var [cS a, cD (recsD l)] true)), (24, some (.var [cI 1, .own 1300, cI 0, cS []] true)), (1300, some (.row 4 52 ((ofL (l.take v.i) n k).map Rec.cells) true)), (256, some (.var [.clo 132 [.ptr 0 0, .ptr 8 0, .ptr 24 0], .clo 134 [.ptr 24 0, .ptr 0 0, .ptr 8 0, .ptr 16 0], .clo 136 [.ptr 24 0, .ptr 0 0, .ptr 8 0, .ptr 16 0], .clo 137 [.ptr 24 0, .ptr 0 0, .ptr 8 0], .clo 139 [.ptr 24 0]] true)), (16, some (.var [cI k] true)), (8, some (.var [cS n] false)), (0, some (.var [cS a, cD (recsD l)] true))], 2000⟩) (fun v => l.length - v.i) ⟨0, by omega⟩ ?_ ?_
              · simp -dsimp -implicitDefEqProofs only [← hL2, go_sem, ↓reduceIte, reduceCtorEq, rn1, rn2, rn3, rn4, rn5, rn6, rn7, ri1, ri2, ri3, ri4, ri5]
                simp [ofL, atB]
              intro ⟨i, hi⟩
              have hall := ofL_len (l.take i) n k
              have htl : (l.take i).length ≤ l.length := by simp; omega
              simp -dsimp -implicitDefEqProofs only [go_sem, ↓reduceIte, reduceCtorEq, rn1, rn2, rn3, rn4, rn5, rn6, rn7, ri1, ri2, ri3, ri4, ri5]
              refine ⟨fun hlt => ?_, fun hge => ?_⟩
              · have hil : i < l.length := by omega
                obtain ⟨x, hx⟩ : ∃ x, l[i]? = some x := ⟨_, List.getElem?_eq_getElem hil⟩
                have hst := ofL_step n k hx
                have hw := wrapS hil (by omega)
                simp -dsimp -implicitDefEqProofs only [hx, forall_eq', hw, go_sem, ↓reduceIte, reduceCtorEq, rn1, rn2, rn3, rn4, rn5, rn6, rn7, ri1, ri2, ri3, ri4, ri5]
                refine ⟨by omega, hil, fun h => yieldW sitOk ?_, fun h => ?_⟩
                · simp -dsimp -implicitDefEqProofs only [← hL2, go_sem, ↓reduceIte, reduceCtorEq, rn1, rn2, rn3, rn4, rn5, rn6, rn7, ri1, ri2, ri3, ri4, ri5]
                  intro ro
                  have hrl : (ofL (l.take i) n k).length ≤ 9223372036854775806 ∧ ((ofL (l.take i) n k).length + 1) * 48 ≤ 140737488355328 := by omega
                  refine ⟨fun h2 => ⟨hrl, ?_⟩, fun h2 => ?_⟩
                  · rw [if_pos ⟨h, h2⟩] at hst
                    refine againO 1300 24 1 ⟨i + 1, by omega⟩ (by simp; omega) ?_
                    simp -dsimp -implicitDefEqProofs only [← hL2, hw, hst, List.map_append, List.map_cons, List.map_nil, go_sem, ↓reduceIte, reduceCtorEq, rn1, rn2, rn3, rn4, rn5, rn6, rn7, ri1, ri2, ri3, ri4, ri5]
                  · rw [if_neg (fun e => h2 e.2), List.append_nil] at hst
                    refine again ⟨i + 1, by omega⟩ (by simp; omega) ?_
                    simp -dsimp -implicitDefEqProofs only [← hL2, hw, hst, go_sem, ↓reduceIte, reduceCtorEq, rn1, rn2, rn3, rn4, rn5, rn6, rn7, ri1, ri2, ri3, ri4, ri5]
                · rw [if_neg (fun e => h e.1), List.append_nil] at hst
                  refine again ⟨i + 1, by omega⟩ (by simp; omega) ?_
                  simp -dsimp -implicitDefEqProofs only [← hL2, hw, hst, go_sem, ↓reduceIte, reduceCtorEq, rn1, rn2, rn3, rn4, rn5, rn6, rn7, ri1, ri2, ri3, ri4, ri5]
              · have hil : i = l.length := by omega
                subst hil
                rw [List.take_length] at *
                simp -dsimp -implicitDefEqProofs only [retH, ← hL2, List.length_map, go_sem, ↓reduceIte, reduceCtorEq, rn1, rn2, rn3, rn4, rn5, rn6, rn7, ri1, ri2, ri3, ri4, ri5]
                refine ⟨fun h9 => ?_, fun h9 => ?_⟩
                · have hne : ofL l n k ≠ [] := fun e => by rw [e] at h9; simp at h9
                  have hask : askW a l n k = ⟨1, ofL l n k, 0, []⟩ := by unfold askW; rw [hc]; simp only; rw [if_neg (by rw [hnil]; simp), if_pos hne]
                  rw [hask]
                  exact ⟨⟨rfl, rfl, rfl, rfl⟩, h0⟩
                · have hnil2 : ofL l n k = [] := List.length_eq_zero_iff.1 (by omega)
                  refine vround ?_
                  simp -dsimp -implicitDefEqProofs only [w2, w3, t3, w4, hnil2, List.map_nil, go_sem, ↓reduceIte, reduceCtorEq, rn1, rn2, rn3, rn4, rn5, rn6, rn7, ri1, ri2, ri3, ri4, ri5]
                  refine callW rfl Tryz.func137 rfl rfl Tryz.ntmps137 Tryz.results137 rfl ?_
                  simp -dsimp -implicitDefEqProofs only [go_sem, ↓reduceIte, reduceCtorEq, rn1, rn2, rn3, rn4, rn5, rn6, rn7, ri1, ri2, ri3, ri4, ri5]
                  refine callP (containsU_ok l n hl) ?_
                  simp -dsimp -implicitDefEqProofs only [retH, hnil2, List.map_nil, go_sem, ↓reduceIte, reduceCtorEq, rn1, rn2, rn3, rn4, rn5, rn6, rn7, ri1, ri2, ri3, ri4, ri5]
                  refine ⟨fun h10 => ?_, fun h10 => ?_⟩
                  · have hask : askW a l n k = ⟨2, [], 0, []⟩ := by unfold askW; rw [hc]; simp only; rw [if_neg (by rw [hnil]; simp), if_neg (by rw [hnil2]; simp), if_pos h10]
                    rw [hask]
                    exact ⟨⟨rfl, rfl, rfl, rfl⟩, h0⟩
                  · have hask : askW a l n k = ⟨3, [], 0, []⟩ := by unfold askW; rw [hc]; simp only; rw [if_neg (by rw [hnil]; simp), if_neg (by rw [hnil2]; simp), if_neg (by simp [h10])]
                    rw [hask]
                    refine vround ?_
                    simp -dsimp -implicitDefEqProofs only [w2, w3, w4, t4, t3, go_sem, ↓reduceIte, reduceCtorEq, rn1, rn2, rn3, rn4, rn5, rn6, rn7, ri1, ri2, ri3, ri4, ri5]
                    refine callW rfl Tryz.func139 rfl rfl Tryz.ntmps139 Tryz.results139 rfl ?_
                    simp -dsimp -implicitDefEqProofs only [retH, hnil2, List.map_nil, go_sem, ↓reduceIte, reduceCtorEq, rn1, rn2, rn3, rn4, rn5, rn6, rn7, ri1, ri2, ri3, ri4, ri5]
                    exact h0
    · obtain ⟨q1, q2⟩ := fin 1 (by decide) (by unfold askE; rw [if_pos h0, if_neg h1])
      simp -dsimp -implicitDefEqProofs only [h0, q1, ← q2, List.map_nil, go_sem, ↓reduceIte, reduceCtorEq, rn1, rn2, rn3, rn4, rn5, rn6, rn7, ri1, ri2, ri3, ri4, ri5]
      refine callP (named_ok n) ?_
      cases hn : isName n with
      | false => simp -dsimp -implicitDefEqProofs only [hn, q1, ← q2, List.map_nil, go_sem, ↓reduceIte, reduceCtorEq, rn1, rn2, rn3, rn4, rn5, rn6, rn7, ri1, ri2, ri3, ri4, ri5]
      | true =>
        by_cases h3 : k < 1
        · simp -dsimp -implicitDefEqProofs only [hn, h3, q1, ← q2, List.map_nil, go_sem, ↓reduceIte, reduceCtorEq, rn1, rn2, rn3, rn4, rn5, rn6, rn7, ri1, ri2, ri3, ri4, ri5]
        · have h4 : 5 < k := by
            refine Classical.byContradiction fun h => h1 ⟨hn, by omega, by omega⟩
          simp -dsimp -implicitDefEqProofs only [hn, h3, h4, q1, ← q2, List.map_nil, go_sem, ↓reduceIte, reduceCtorEq, rn1, rn2, rn3, rn4, rn5, rn6, rn7, ri1, ri2, ri3, ri4, ri5]
  · obtain ⟨q1, q2⟩ := fin _ h0 (by unfold askE; rw [if_neg h0])
    simp -dsimp -implicitDefEqProofs only [h0, q1, ← q2, List.map_nil, go_sem, ↓reduceIte, reduceCtorEq, rn1, rn2, rn3, rn4, rn5, rn6, rn7, ri1, ri2, ri3, ri4, ri5]
end Go.Proofs.YtolpobgfcokoaaaGreatDoor
namespace Go.Proofs.YtolpobgfcokoaaaGreatDoor
open Go.Eng
set_option linter.unusedSimpArgs false
set_option maxRecDepth 10000

/-- Is the zone taken, where one was? -/
def takesB (l : List Zn) (n : Bs) (z : Zn) (p : Option Nat) : Bool := underB n z.A && (match p with
  | none => true
  | some j => match l[j]? with
    | some y => decide (y.A.length < z.A.length)
    | none => false) && checkV z.A z.R == 0
def bestAt (l : List Zn) (n : Bs) : Nat → Option Nat
  | 0 => none
  | i + 1 => match l[i]? with
    | some z => if takesB l n z (bestAt l n i) then some i else bestAt l n i
    | none => bestAt l n i
def bestV (l : List Zn) (n : Bs) : Option Nat := if isName n then bestAt l n l.length else none
def optN : Option Nat → Int
  | some j => (j : Nat)
  | none => 0
theorem takes_some {l : List Zn} {n : Bs} {z y : Zn} {j : Nat} (h : l[j]? = some y) : takesB l n z (some j) = (underB n z.A && decide ((y.A.length : Int) < (z.A.length : Int)) && checkV z.A z.R == 0) := by
  unfold takesB; simp only [h]
  congr 2
  rw [decide_eq_decide]; omega
theorem bestAt_lt {l : List Zn} {n : Bs} : ∀ {i j : Nat}, bestAt l n i = some j → j < i ∧ j < l.length
  | 0, j, h => by cases h
  | i + 1, j, h => by
    unfold bestAt at h
    split at h
    · rename_i z hz
      split at h
      · cases h; exact ⟨by omega, (List.getElem?_eq_some_iff.1 hz).1⟩
      · have := bestAt_lt h; exact ⟨by omega, this.2⟩
    · have := bestAt_lt h; exact ⟨by omega, this.2⟩
structure BtInv (l : List Zn) where
  i : Nat
  le : i ≤ l.length
theorem best_ok (l : List Zn) (n : Bs) (hl : l.length ≤ 1000000) (hz : ∀ z ∈ l, z.R.length ≤ 1000000) : Meets Tryz.prog 90 [(false, [vD (zonesD l)]), (false, [vS n])] (rTup [(false, [vI (optN (bestV l n))]), (false, [vB (bestV l n).isSome])]) := by
  refine meets Tryz.func90 rfl rfl Tryz.ntmps90 Tryz.results90 rfl ?_
  simp -dsimp -implicitDefEqProofs only [go_sem, ↓reduceIte, reduceCtorEq, rn1, rn2, rn3, rn4, rn5, rn6, rn7, ri1, ri2, ri3, ri4, ri5]
  refine callP (named_ok n) ?_
  cases hn : isName n with
  | false =>
    have : bestV l n = none := by unfold bestV; simp [hn]
    rw [this]
    simp -dsimp -implicitDefEqProofs only [hn, optN, go_sem, ↓reduceIte, reduceCtorEq, rn1, rn2, rn3, rn4, rn5, rn6, rn7, ri1, ri2, ri3, ri4, ri5]
  | true =>
    have : bestV l n = bestAt l n l.length := by unfold bestV; simp [hn]
    rw [this]
    simp -dsimp -implicitDefEqProofs only [hn, go_sem, ↓reduceIte, reduceCtorEq, rn1, rn2, rn3, rn4, rn5, rn6, rn7, ri1, ri2, ri3, ri4, ri5]
    refine vfor sitOk (ι := BtInv l) (fun v => ⟨47, [(13, aI v.i), (12, aI l.length), (11, aD (zonesD l)), (5, aB (bestAt l n v.i).isSome), (4, aI (optN (bestAt l n v.i))), (1, aS n), (0, aD (zonesD l))], [], 120⟩) (fun v => l.length - v.i) ⟨0, by omega⟩ ?_ ?_
    · simp -dsimp -implicitDefEqProofs only [bestAt, optN, go_sem, ↓reduceIte, reduceCtorEq, rn1, rn2, rn3, rn4, rn5, rn6, rn7, ri1, ri2, ri3, ri4, ri5]
    intro ⟨i, hi⟩
    simp -dsimp -implicitDefEqProofs only [go_sem, ↓reduceIte, reduceCtorEq, rn1, rn2, rn3, rn4, rn5, rn6, rn7, ri1, ri2, ri3, ri4, ri5]
    refine ⟨fun hlt => ?_, fun hge => ?_⟩
    · have hil : i < l.length := by omega
      obtain ⟨z, hx⟩ : ∃ z, l[i]? = some z := ⟨_, List.getElem?_eq_getElem hil⟩
      have hw := wrapS hil (by omega)
      have hzr := hz z (List.mem_of_getElem? hx)
      have hstep : bestAt l n (i + 1) = if takesB l n z (bestAt l n i) then some i else bestAt l n i := by
        conv => lhs; unfold bestAt
        rw [hx]
      cases hb : bestAt l n i with
      | none =>
        rw [hb] at hstep
        simp -dsimp -implicitDefEqProofs only [hx, forall_eq', hw, optN, go_sem, ↓reduceIte, reduceCtorEq, rn1, rn2, rn3, rn4, rn5, rn6, rn7, ri1, ri2, ri3, ri4, ri5]
        refine ⟨by omega, hil, ?_⟩
        repeat' (first | with_reducible apply And.intro | with_reducible intro _ | with_reducible exact drawn (by kernel_rfl) | (refine callP (under_ok _ _) ?_; simp -dsimp -implicitDefEqProofs only [hx, forall_eq', hw, optN, go_sem, ↓reduceIte, reduceCtorEq, rn1, rn2, rn3, rn4, rn5, rn6, rn7, ri1, ri2, ri3, ri4, ri5]) | (refine callP (zcheck_ok _ _ hzr) ?_; simp -dsimp -implicitDefEqProofs only [hx, forall_eq', hw, optN, go_sem, ↓reduceIte, reduceCtorEq, rn1, rn2, rn3, rn4, rn5, rn6, rn7, ri1, ri2, ri3, ri4, ri5]) | omega)
        all_goals first
          | (have e : bestAt l n (i + 1) = some i := by rw [hstep]; simp [takesB, *]
             refine again ⟨i + 1, by omega⟩ (by simp; omega) ?_
             simp -dsimp -implicitDefEqProofs only [e, hw, optN, Option.isSome_some, go_sem, ↓reduceIte, reduceCtorEq, rn1, rn2, rn3, rn4, rn5, rn6, rn7, ri1, ri2, ri3, ri4, ri5]
             done)
          | (have e : bestAt l n (i + 1) = none := by rw [hstep]; simp [takesB, *]
             refine again ⟨i + 1, by omega⟩ (by simp; omega) ?_
             simp -dsimp -implicitDefEqProofs only [e, hw, optN, Option.isSome_none, go_sem, ↓reduceIte, reduceCtorEq, rn1, rn2, rn3, rn4, rn5, rn6, rn7, ri1, ri2, ri3, ri4, ri5]
             done)
          | trace_state
      | some j =>
        rw [hb] at hstep
        obtain ⟨hj1, hj2⟩ := bestAt_lt hb
        obtain ⟨y, hy⟩ : ∃ y, l[j]? = some y := ⟨_, List.getElem?_eq_getElem hj2⟩
        rw [takes_some hy] at hstep
        simp -dsimp -implicitDefEqProofs only [hx, forall_eq', hw, optN, hy, go_sem, ↓reduceIte, reduceCtorEq, rn1, rn2, rn3, rn4, rn5, rn6, rn7, ri1, ri2, ri3, ri4, ri5]
        refine ⟨by omega, hil, ?_⟩
        repeat' (first | with_reducible apply And.intro | with_reducible intro _ | with_reducible exact drawn (by kernel_rfl) | (refine callP (under_ok _ _) ?_; simp -dsimp -implicitDefEqProofs only [hx, forall_eq', hw, optN, hy, go_sem, ↓reduceIte, reduceCtorEq, rn1, rn2, rn3, rn4, rn5, rn6, rn7, ri1, ri2, ri3, ri4, ri5]) | (refine callP (zcheck_ok _ _ hzr) ?_; simp -dsimp -implicitDefEqProofs only [hx, forall_eq', hw, optN, hy, go_sem, ↓reduceIte, reduceCtorEq, rn1, rn2, rn3, rn4, rn5, rn6, rn7, ri1, ri2, ri3, ri4, ri5]) | omega)
        all_goals first
          | (have e : bestAt l n (i + 1) = some i := by rw [hstep, if_pos]; simp only [Bool.and_eq_true, decide_eq_true_eq, beq_iff_eq]; exact ⟨⟨by assumption, by assumption⟩, by assumption⟩
             refine again ⟨i + 1, by omega⟩ (by simp; omega) ?_
             simp -dsimp -implicitDefEqProofs only [e, hw, optN, Option.isSome_some, go_sem, ↓reduceIte, reduceCtorEq, rn1, rn2, rn3, rn4, rn5, rn6, rn7, ri1, ri2, ri3, ri4, ri5]
             done)
          | (have e : bestAt l n (i + 1) = some j := by
               rw [hstep, if_neg]
               simp only [Bool.and_eq_true, decide_eq_true_eq, beq_iff_eq]
               intro ⟨⟨q1, q2⟩, q3⟩
               first | omega | (simp_all; done)
             refine again ⟨i + 1, by omega⟩ (by simp; omega) ?_
             simp -dsimp -implicitDefEqProofs only [e, hw, optN, Option.isSome_some, go_sem, ↓reduceIte, reduceCtorEq, rn1, rn2, rn3, rn4, rn5, rn6, rn7, ri1, ri2, ri3, ri4, ri5]
             done)
          | trace_state
    · have hil : i = l.length := by omega
      subst hil
      exact ⟨rfl, rfl⟩
end Go.Proofs.YtolpobgfcokoaaaGreatDoor
