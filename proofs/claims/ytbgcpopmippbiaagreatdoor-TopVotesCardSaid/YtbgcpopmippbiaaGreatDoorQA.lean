/- Caches as data; their order. What is found on the way, step by step. Plain laws of caches: what is kept, held, trimmed. Plain laws of what is found on the way. -/
import Derived.Test.YtbgcpopmippbiaaGreatDoorRH
open Nat renaming reduceLT → rn1, reduceLeDiff → rn2, reduceEqDiff → rn3, reduceAdd → rn4, reduceMul → rn5, reduceSub → rn6, reduceBEq → rn7
open Int renaming reduceLT → ri1, reduceLE → ri2, reduceEq → ri3, reduceBEq → ri4, reduceNeg → ri5
namespace Go.Proofs.YtbgcpopmippbiaaGreatDoor
open Go.Eng
set_option linter.unusedSimpArgs false
set_option maxRecDepth 10000

/-- What is kept: Name, Kind, Recs, Until. -/
structure Kp where
  N : Bs
  K : Int
  R : List Rec
  U : Int
  deriving DecidableEq
def Kp.cells (k : Kp) : List D := [dT k.N, dI k.K, recsD k.R, dI k.U]
attribute [go_sem] Kp.cells
abbrev kpsD (l : List Kp) : D := .vec 4 (l.map Kp.cells)
abbrev Kp.arg (k : Kp) : Bool × List CV := (true, [vS k.N, vI k.K, vD (recsD k.R), vI k.U])
abbrev cacheA (l : List Kp) : Bool × List CV := (true, [vD (kpsD l)])

/-- Orders of pairs. -/
theorem or2_neg {x y : Int} : or2 x y < 0 ↔ x < 0 ∨ (x = 0 ∧ y < 0) := by
  unfold or2; split <;> omega
theorem or2_pos {x y : Int} : 0 < or2 x y ↔ 0 < x ∨ (x = 0 ∧ 0 < y) := by
  unfold or2; split <;> omega
theorem or2_zero {x y : Int} : or2 x y = 0 ↔ x = 0 ∧ y = 0 := by
  unfold or2; split <;> omega
def KO.two {α β : Type} (o : KO α) (p : KO β) : KO (α × β) := ⟨fun a b => or2 (o.cmp a.1 b.1) (p.cmp a.2 b.2), by
  intro a b
  rw [or2_zero, o.eq0, p.eq0]
  exact ⟨fun h => Prod.ext h.1 h.2, fun h => by rw [h]; exact ⟨rfl, rfl⟩⟩, by
  intro a b
  rw [or2_neg, or2_pos, o.flip, p.flip, o.eq0, o.eq0]
  constructor
  · rintro (h | ⟨h, h'⟩)
    · exact .inl h
    · exact .inr ⟨h.symm, h'⟩
  · rintro (h | ⟨h, h'⟩)
    · exact .inl h
    · exact .inr ⟨h.symm, h'⟩, by
  intro a b c
  rw [or2_neg, or2_neg, or2_neg]
  rintro (h | ⟨h, h'⟩) (g | ⟨g, g'⟩)
  · exact .inl (o.tr h g)
  · rw [o.eq0] at g; rw [← g]; exact .inl h
  · rw [o.eq0] at h; rw [h]; exact .inl g
  · rw [o.eq0] at h g
    exact .inr ⟨o.eq0.2 (h.trans g), p.tr h' g'⟩⟩
def koQ : KO (Bs × Int) := koS.two koI
abbrev kQ (k : Kp) : Bs × Int := (k.N, k.K)
abbrev oQ : Kp → Kp → Int := fun x y => koQ.cmp (kQ x) (kQ y)
theorem korder_ok (a b : Kp) : Meets Tryz.prog 95 [a.arg, b.arg] (rOne (vI (koQ.cmp (kQ a) (kQ b)))) := by
  refine meets Tryz.func95 rfl rfl Tryz.ntmps95 Tryz.results95 rfl ?_
  simp -dsimp -implicitDefEqProofs only [go_sem, ↓reduceIte, reduceCtorEq, rn1, rn2, rn3, rn4, rn5, rn6, rn7, ri1, ri2, ri3, ri4, ri5]
  repeat' (first | with_reducible apply And.intro | with_reducible intro _ | with_reducible exact drawn (by kernel_rfl) | (refine callP (cmpS_ok _ _) ?_; simp -dsimp -implicitDefEqProofs only [go_sem, ↓reduceIte, reduceCtorEq, rn1, rn2, rn3, rn4, rn5, rn6, rn7, ri1, ri2, ri3, ri4, ri5]) | (refine callP (cmpI_ok _ _) ?_; simp -dsimp -implicitDefEqProofs only [go_sem, ↓reduceIte, reduceCtorEq, rn1, rn2, rn3, rn4, rn5, rn6, rn7, ri1, ri2, ri3, ri4, ri5]) | (refine callP (or2_ok _ _) ?_; simp -dsimp -implicitDefEqProofs only [go_sem, ↓reduceIte, reduceCtorEq, rn1, rn2, rn3, rn4, rn5, rn6, rn7, ri1, ri2, ri3, ri4, ri5]) | omega)
  all_goals rfl

/-! ### May it be? -/
def kindB (k : Int) : Bool := decide (1 ≤ k) && decide (k ≤ 5)
def timeB (t : Int) : Bool := decide (0 ≤ t) && decide (t ≤ 1099511627776)
theorem kinds_ok (k : Int) : Meets Tryz.prog 40 [(false, [vI k])] (rOne (vB (kindB k))) := by
  refine meets Tryz.func40 rfl rfl Tryz.ntmps40 Tryz.results40 rfl ?_
  simp -dsimp -implicitDefEqProofs only [go_sem, ↓reduceIte, reduceCtorEq, rn1, rn2, rn3, rn4, rn5, rn6, rn7, ri1, ri2, ri3, ri4, ri5]
  repeat' (first | with_reducible apply And.intro | with_reducible intro _ | with_reducible exact drawn (by kernel_rfl) | omega)
  all_goals unfold kindB
  · rename_i h1
    rw [decide_eq_true h1]; rfl
  · rename_i h1
    rw [show decide (1 ≤ k) = false from decide_eq_false (by omega)]; rfl
theorem time_ok (t : Int) : Meets Tryz.prog 39 [(false, [vI t])] (rOne (vB (timeB t))) := by
  refine meets Tryz.func39 rfl rfl Tryz.ntmps39 Tryz.results39 rfl ?_
  simp -dsimp -implicitDefEqProofs only [go_sem, ↓reduceIte, reduceCtorEq, rn1, rn2, rn3, rn4, rn5, rn6, rn7, ri1, ri2, ri3, ri4, ri5]
  repeat' (first | with_reducible apply And.intro | with_reducible intro _ | with_reducible exact drawn (by kernel_rfl) | omega)
  all_goals unfold timeB
  · rename_i h1
    rw [decide_eq_true h1]; rfl
  · rename_i h1
    rw [show decide (0 ≤ t) = false from decide_eq_false (by omega)]; rfl
def mayB (k : Kp) : Bool := isName k.N && kindB k.K && timeB k.U && decide (k.R.length ≤ 64) && k.R.all fun r => r.K == k.K
theorem other_ok (r : Rec) (k : Kp) : Meets Tryz.prog 169 [r.arg, (false, [vD (.pt k.cells)])] (rOne (vB (!(r.K == k.K)))) := by
  refine meets Tryz.func169 rfl rfl Tryz.ntmps169 Tryz.results169 rfl ?_
  simp -dsimp -implicitDefEqProofs only [go_sem, ↓reduceIte, reduceCtorEq, rn1, rn2, rn3, rn4, rn5, rn6, rn7, ri1, ri2, ri3, ri4, ri5]
  rfl
structure KkInv (k : Int) (l : List Rec) where
  i : Nat
  le : i ≤ l.length
  ok : ∀ j x, j < i → l[j]? = some x → x.K = k
set_option maxHeartbeats 4000000 in
theorem may_ok (k : Kp) (hl : k.R.length ≤ 1000000) : Meets Tryz.prog 94 [k.arg] (rOne (vB (mayB k))) := by
  refine meets Tryz.func94 rfl rfl Tryz.ntmps94 Tryz.results94 rfl ?_
  simp -dsimp -implicitDefEqProofs only [go_sem, ↓reduceIte, reduceCtorEq, rn1, rn2, rn3, rn4, rn5, rn6, rn7, ri1, ri2, ri3, ri4, ri5]
  refine callP (check_ok k.N) ?_
  cases hn : isName k.N with
  | false =>
    have hv : mayB k = false := by unfold mayB; rw [hn]; rfl
    rw [hv]
    simp -dsimp -implicitDefEqProofs only [hn, Bool.false_eq_true, go_sem, ↓reduceIte, reduceCtorEq, rn1, rn2, rn3, rn4, rn5, rn6, rn7, ri1, ri2, ri3, ri4, ri5]
  | true =>
    simp -dsimp -implicitDefEqProofs only [hn, go_sem, ↓reduceIte, reduceCtorEq, rn1, rn2, rn3, rn4, rn5, rn6, rn7, ri1, ri2, ri3, ri4, ri5]
    refine callP (kinds_ok k.K) ?_
    simp -dsimp -implicitDefEqProofs only [go_sem, ↓reduceIte, reduceCtorEq, rn1, rn2, rn3, rn4, rn5, rn6, rn7, ri1, ri2, ri3, ri4, ri5]
    refine ⟨fun hk => callP (time_ok k.U) ?_, fun hk => ?_⟩
    · simp -dsimp -implicitDefEqProofs only [go_sem, ↓reduceIte, reduceCtorEq, rn1, rn2, rn3, rn4, rn5, rn6, rn7, ri1, ri2, ri3, ri4, ri5]
      refine ⟨fun ht => ⟨fun h64 => ?_, fun h64 => ?_⟩, fun ht => ?_⟩
      · have hm : mayB k = k.R.all fun r => r.K == k.K := by unfold mayB; rw [hn, hk, ht, decide_eq_true (by omega : k.R.length ≤ 64)]; rfl
        rw [hm]
        refine callW rfl Tryz.func91 rfl rfl Tryz.ntmps91 Tryz.results91 rfl ?_
        simp -dsimp -implicitDefEqProofs only [retH, go_sem, ↓reduceIte, reduceCtorEq, rn1, rn2, rn3, rn4, rn5, rn6, rn7, ri1, ri2, ri3, ri4, ri5]
        refine callW rfl Tryz.func166 rfl rfl Tryz.ntmps166 Tryz.results166 rfl ?_
        simp -dsimp -implicitDefEqProofs only [retH, go_sem, ↓reduceIte, reduceCtorEq, rn1, rn2, rn3, rn4, rn5, rn6, rn7, ri1, ri2, ri3, ri4, ri5]
        refine vfreeze 0 rfl ?_
        simp -dsimp -implicitDefEqProofs only [go_sem, ↓reduceIte, reduceCtorEq, rn1, rn2, rn3, rn4, rn5, rn6, rn7, ri1, ri2, ri3, ri4, ri5]
        refine vfor sitOk (ι := KkInv k.K k.R) (fun v => ⟨19, [(8, aI v.i), (7, aI k.R.length), (6, aD (recsD k.R)), (0, aD (recsD k.R)), (1, .cs false [.clo 169 [.ptr 0 0]])], [(0, some (.var [cS k.N, cI k.K, cD (recsD k.R), cI k.U] false))], 400⟩) (fun v => k.R.length - v.i) ⟨0, by omega, fun j x hj => by omega⟩ ?_ ?_
        · simp -dsimp -implicitDefEqProofs only [go_sem, ↓reduceIte, reduceCtorEq, rn1, rn2, rn3, rn4, rn5, rn6, rn7, ri1, ri2, ri3, ri4, ri5]
        intro ⟨i, hi, hok⟩
        simp -dsimp -implicitDefEqProofs only [go_sem, ↓reduceIte, reduceCtorEq, rn1, rn2, rn3, rn4, rn5, rn6, rn7, ri1, ri2, ri3, ri4, ri5]
        refine ⟨fun hlt => ?_, fun hge => ?_⟩
        · have hil : i < k.R.length := by omega
          obtain ⟨x, hx⟩ : ∃ x, k.R[i]? = some x := ⟨_, List.getElem?_eq_getElem hil⟩
          have hw := wrapS hil (by omega)
          simp -dsimp -implicitDefEqProofs only [hx, forall_eq', hw, go_sem, ↓reduceIte, reduceCtorEq, rn1, rn2, rn3, rn4, rn5, rn6, rn7, ri1, ri2, ri3, ri4, ri5]
          refine ⟨by omega, hil, callP (other_ok x k) ?_⟩
          cases hc : x.K == k.K with
          | true =>
            simp -dsimp -implicitDefEqProofs only [hc, hw, go_sem, ↓reduceIte, reduceCtorEq, rn1, rn2, rn3, rn4, rn5, rn6, rn7, ri1, ri2, ri3, ri4, ri5]
            refine again ⟨i + 1, by omega, fun j y hj hy => by
              by_cases hji : j = i
              · subst hji; rw [hx] at hy; cases hy; simpa using hc
              · exact hok j y (by omega) hy⟩ (by simp; omega) ?_
            simp -dsimp -implicitDefEqProofs only [hw, go_sem, ↓reduceIte, reduceCtorEq, rn1, rn2, rn3, rn4, rn5, rn6, rn7, ri1, ri2, ri3, ri4, ri5]
          | false =>
            have hb : (k.R.all fun r => r.K == k.K) = false := all_bad hx hc
            rw [hb]
            simp -dsimp -implicitDefEqProofs only [retH, hc, go_sem, ↓reduceIte, reduceCtorEq, rn1, rn2, rn3, rn4, rn5, rn6, rn7, ri1, ri2, ri3, ri4, ri5]
            omega
        · have hil : i = k.R.length := by omega
          subst hil
          have hb : (k.R.all fun r => r.K == k.K) = true := all_get fun j c hj hc => by simpa using hok j c (by omega) hc
          rw [hb]
          simp -dsimp -implicitDefEqProofs only [retH, go_sem, ↓reduceIte, reduceCtorEq, rn1, rn2, rn3, rn4, rn5, rn6, rn7, ri1, ri2, ri3, ri4, ri5]
      · have hv : mayB k = false := by unfold mayB; rw [decide_eq_false (by omega : ¬ k.R.length ≤ 64)]; simp
        rw [hv]
      · have hv : mayB k = false := by unfold mayB; rw [ht]; simp
        rw [hv]
    · have hv : mayB k = false := by unfold mayB; rw [hk]; simp
      rw [hv]
end Go.Proofs.YtbgcpopmippbiaaGreatDoor
namespace Go.Proofs.YtbgcpopmippbiaaGreatDoor
open Go.Eng
set_option linter.unusedSimpArgs false
set_option maxRecDepth 10000

/-- What was found on the way: records, for how long they may be kept, why nothing. -/
structure Wy where
  L : List Rec
  F : Int
  E : Int
  deriving DecidableEq
def lostW : Wy := ⟨[], 0, 130⟩
def leastL (life : Int) (l : List Rec) : Int := l.foldl (fun m r => min m r.L) life
/-- One step from a server: an answer of the zone that knows most. -/
def stepA (n : Nt) (seen : Int) (k : Int) (addr : Int) (name : Bs) : Option An :=
  if srvB n seen addr then
    match bestV (srvS n seen addr).Z name with
    | none => none
    | some i => match (srvS n seen addr).Z[i]? with
      | none => none
      | some z => if askE z.A z.R name k = 0 then some (askV z.A z.R name k) else none
  else none
def askG (n : Nt) (seen : Int) (k : Int) : Nat → Int → Bs → Int → Wy
  | 0, _, _, _ => lostW
  | f + 1, addr, name, life => match stepA n seen k addr name with
    | none => lostW
    | some a =>
      if a.K = 4 then askG n seen k f a.T name (leastL life a.R)
      else if a.K = 5 then askG n seen k f 0 a.A (leastL life a.R)
      else if a.K = 1 then ⟨a.R, leastL life a.R, 0⟩
      else ⟨[], 10, 131⟩
def wayV (n : Nt) (seen : Int) (name : Bs) (k : Int) : Wy := askG n seen k 12 0 name 1000
theorem leastL_step {l : List Rec} {i : Nat} {x : Rec} (life : Int) (hx : l[i]? = some x) : leastL life (l.take (i + 1)) = min (leastL life (l.take i)) x.L := by
  unfold leastL
  rw [List.take_add_one, hx, List.foldl_append]; rfl
structure LlInv (l : List Rec) where
  i : Nat
  le : i ≤ l.length
theorem least_ok (life : Int) (l : List Rec) (hl : l.length ≤ 1000000) : Meets Tryz.prog 110 [(false, [vI life]), (false, [vD (recsD l)])] (rOne (vI (leastL life l))) := by
  refine meets Tryz.func110 rfl rfl Tryz.ntmps110 Tryz.results110 rfl ?_
  simp -dsimp -implicitDefEqProofs only [go_sem, ↓reduceIte, reduceCtorEq, rn1, rn2, rn3, rn4, rn5, rn6, rn7, ri1, ri2, ri3, ri4, ri5]
  refine vfor sitOk (ι := LlInv l) (fun v => ⟨19, [(9, aI v.i), (8, aI l.length), (7, aD (recsD l)), (0, aI (leastL life (l.take v.i)))], [], 100⟩) (fun v => l.length - v.i) ⟨0, by omega⟩ ?_ ?_
  · simp -dsimp -implicitDefEqProofs only [go_sem, ↓reduceIte, reduceCtorEq, rn1, rn2, rn3, rn4, rn5, rn6, rn7, ri1, ri2, ri3, ri4, ri5]
    rfl
  intro ⟨i, hi⟩
  simp -dsimp -implicitDefEqProofs only [go_sem, ↓reduceIte, reduceCtorEq, rn1, rn2, rn3, rn4, rn5, rn6, rn7, ri1, ri2, ri3, ri4, ri5]
  refine ⟨fun hlt => ?_, fun hge => ?_⟩
  · have hil : i < l.length := by omega
    obtain ⟨x, hx⟩ : ∃ x, l[i]? = some x := ⟨_, List.getElem?_eq_getElem hil⟩
    have hw := wrapS hil (by omega)
    have hst := leastL_step life hx
    simp -dsimp -implicitDefEqProofs only [hx, forall_eq', hw, go_sem, ↓reduceIte, reduceCtorEq, rn1, rn2, rn3, rn4, rn5, rn6, rn7, ri1, ri2, ri3, ri4, ri5]
    refine ⟨by omega, hil, again ⟨i + 1, by omega⟩ (by simp; omega) ?_⟩
    simp -dsimp -implicitDefEqProofs only [hw, hst, go_sem, ↓reduceIte, reduceCtorEq, rn1, rn2, rn3, rn4, rn5, rn6, rn7, ri1, ri2, ri3, ri4, ri5]
    split <;> omega
  · have hil : i = l.length := by omega
    subst hil
    rw [List.take_length]
structure AkInv (n : Nt) (seen k : Int) (w : Wy) where
  i : Nat
  addr : Int
  name : Bs
  life : Int
  le : i ≤ 12
  eq : w = askG n seen k (12 - i) addr name life
theorem ask14_ok (n : Nt) (hz : Sz n) (seen : Int) (name : Bs) (k : Int) : Meets Tryz.prog 42 [n.arg, (false, [vI seen]), (false, [vS name]), (false, [vI k])]
    (rTup [(false, [.own 4 26 ((wayV n seen name k).L.map Rec.cells)]), (false, [vI (wayV n seen name k).F]), (false, [vI (wayV n seen name k).E])]) := by
  refine meets Tryz.func42 rfl rfl Tryz.ntmps42 Tryz.results42 rfl ?_
  simp -dsimp -implicitDefEqProofs only [go_sem, ↓reduceIte, reduceCtorEq, rn1, rn2, rn3, rn4, rn5, rn6, rn7, ri1, ri2, ri3, ri4, ri5]
  refine vfor sitOk (ι := AkInv n seen k (wayV n seen name k)) (fun v => ⟨70, [(17, aI v.i), (11, aI v.addr), (9, aI v.life), (4, aP 0 0), (1, aI seen), (2, aS v.name), (3, aI k)], [(0, some (.var [cD (svsD n.V), cI n.N, cD (bnsD n.B), cD (cksD n.C)] true))], 200⟩) (fun v => 12 - v.i) ⟨0, 0, name, 1000, by omega, rfl⟩ ?_ ?_
  · simp -dsimp -implicitDefEqProofs only [go_sem, ↓reduceIte, reduceCtorEq, rn1, rn2, rn3, rn4, rn5, rn6, rn7, ri1, ri2, ri3, ri4, ri5]
  intro ⟨i, addr, nm, life, hi, heq⟩
  simp -dsimp -implicitDefEqProofs only [go_sem, ↓reduceIte, reduceCtorEq, rn1, rn2, rn3, rn4, rn5, rn6, rn7, ri1, ri2, ri3, ri4, ri5]
  refine ⟨fun hlt => ?_, fun hge => ?_⟩
  · have hil : i < 12 := by omega
    have hw : IntKind.i64.wrap ((i : Int) + 1) = ((i + 1 : Nat) : Int) := by rw [wrap64] <;> omega
    obtain ⟨f, hf⟩ : ∃ f, 12 - i = f + 1 := ⟨12 - i - 1, by omega⟩
    rw [hf] at heq
    have hf2 : 12 - (i + 1) = f := by omega
    have hsl := srvS_len hz seen addr
    refine callP (srv_ok n hz seen addr) ?_
    cases hb : srvB n seen addr with
    | false =>
      have hlost : wayV n seen name k = lostW := by
        rw [heq]; unfold askG stepA; rw [hb]; rfl
      simp -dsimp -implicitDefEqProofs only [hb, go_sem, ↓reduceIte, reduceCtorEq, rn1, rn2, rn3, rn4, rn5, rn6, rn7, ri1, ri2, ri3, ri4, ri5]
      rw [hlost]
      exact ⟨rfl, rfl, rfl⟩
    | true =>
      simp -dsimp -implicitDefEqProofs only [hb, go_sem, ↓reduceIte, reduceCtorEq, rn1, rn2, rn3, rn4, rn5, rn6, rn7, ri1, ri2, ri3, ri4, ri5]
      refine callP (best_ok _ nm (by omega) (fun z h => by have := hsl.2 z h; omega)) ?_
      cases hv : bestV (srvS n seen addr).Z nm with
      | none =>
        have hlost : wayV n seen name k = lostW := by
          rw [heq]; unfold askG stepA; rw [hb, hv]; rfl
        simp -dsimp -implicitDefEqProofs only [hv, go_sem, ↓reduceIte, reduceCtorEq, rn1, rn2, rn3, rn4, rn5, rn6, rn7, ri1, ri2, ri3, ri4, ri5]
        rw [hlost]
        exact ⟨rfl, rfl, rfl⟩
      | some j =>
        have hj : j < (srvS n seen addr).Z.length := by
          unfold bestV at hv
          split at hv
          · exact (bestAt_lt hv).2
          · cases hv
        obtain ⟨z, hzj⟩ : ∃ z, (srvS n seen addr).Z[j]? = some z := ⟨_, List.getElem?_eq_getElem hj⟩
        have hzl := hsl.2 z (List.mem_of_getElem? hzj)
        simp -dsimp -implicitDefEqProofs only [hv, optN, hzj, forall_eq', go_sem, ↓reduceIte, reduceCtorEq, rn1, rn2, rn3, rn4, rn5, rn6, rn7, ri1, ri2, ri3, ri4, ri5]
        refine ⟨⟨by omega, by omega⟩, hj, ?_⟩
        refine callP (ask_ok z.A z.R nm k (by omega)) ?_
        by_cases he : askE z.A z.R nm k = 0
        · have hst : stepA n seen k addr nm = some (askV z.A z.R nm k) := by
            unfold stepA; rw [hb, if_pos rfl, hv]; simp only [hzj]; rw [if_pos he]
          have heq2 : wayV n seen name k = if (askV z.A z.R nm k).K = 4 then askG n seen k f (askV z.A z.R nm k).T nm (leastL life (askV z.A z.R nm k).R)
              else if (askV z.A z.R nm k).K = 5 then askG n seen k f 0 (askV z.A z.R nm k).A (leastL life (askV z.A z.R nm k).R)
              else if (askV z.A z.R nm k).K = 1 then ⟨(askV z.A z.R nm k).R, leastL life (askV z.A z.R nm k).R, 0⟩ else ⟨[], 10, 131⟩ := by
            rw [heq]
            conv => lhs; unfold askG
            rw [hst]
          have hrl : (askV z.A z.R nm k).R.length ≤ 1000000 := by
            unfold askV
            rw [if_pos he]
            have hsub : (askW z.A z.R nm k).R.length ≤ 1000 := by
              unfold askW
              split
              · simp
              · split
                · exact Nat.le_trans (Nat.le_trans (List.length_filter_le _ _) (List.length_filter_le _ _)) hzl
                · split
                  · exact Nat.le_trans (Nat.le_trans (List.length_filter_le _ _) (List.length_filter_le _ _)) hzl
                  · split <;> simp
            omega
          generalize askV z.A z.R nm k = A at *
          simp -dsimp -implicitDefEqProofs only [he, go_sem, ↓reduceIte, reduceCtorEq, rn1, rn2, rn3, rn4, rn5, rn6, rn7, ri1, ri2, ri3, ri4, ri5]
          refine callP (least_ok life A.R hrl) ?_
          by_cases h4 : A.K = 4
          · rw [if_pos h4] at heq2
            simp -dsimp -implicitDefEqProofs only [h4, go_sem, ↓reduceIte, reduceCtorEq, rn1, rn2, rn3, rn4, rn5, rn6, rn7, ri1, ri2, ri3, ri4, ri5]
            refine again ⟨i + 1, A.T, nm, leastL life A.R, by omega, by rw [hf2]; exact heq2⟩ (by simp; omega) ?_
            simp -dsimp -implicitDefEqProofs only [hw, go_sem, ↓reduceIte, reduceCtorEq, rn1, rn2, rn3, rn4, rn5, rn6, rn7, ri1, ri2, ri3, ri4, ri5]
          · rw [if_neg h4] at heq2
            by_cases h5 : A.K = 5
            · rw [if_pos h5] at heq2
              simp -dsimp -implicitDefEqProofs only [h4, h5, go_sem, ↓reduceIte, reduceCtorEq, rn1, rn2, rn3, rn4, rn5, rn6, rn7, ri1, ri2, ri3, ri4, ri5]
              refine ⟨drawn (by kernel_rfl), again ⟨i + 1, 0, A.A, leastL life A.R, by omega, by rw [hf2]; exact heq2⟩ (by simp; omega) ?_⟩
              simp -dsimp -implicitDefEqProofs only [hw, go_sem, ↓reduceIte, reduceCtorEq, rn1, rn2, rn3, rn4, rn5, rn6, rn7, ri1, ri2, ri3, ri4, ri5]
            · rw [if_neg h5] at heq2
              by_cases h1 : A.K = 1
              · rw [if_pos h1] at heq2
                simp -dsimp -implicitDefEqProofs only [h4, h5, h1, go_sem, ↓reduceIte, reduceCtorEq, rn1, rn2, rn3, rn4, rn5, rn6, rn7, ri1, ri2, ri3, ri4, ri5]
                rw [heq2]
                exact ⟨rfl, rfl, rfl⟩
              · rw [if_neg h1] at heq2
                simp -dsimp -implicitDefEqProofs only [h4, h5, h1, go_sem, ↓reduceIte, reduceCtorEq, rn1, rn2, rn3, rn4, rn5, rn6, rn7, ri1, ri2, ri3, ri4, ri5]
                rw [heq2]
                exact ⟨rfl, rfl, rfl⟩
        · have hlost : wayV n seen name k = lostW := by
            rw [heq]; unfold askG stepA; rw [hb, if_pos rfl, hv]; simp only [hzj]; rw [if_neg he]
          simp -dsimp -implicitDefEqProofs only [he, go_sem, ↓reduceIte, reduceCtorEq, rn1, rn2, rn3, rn4, rn5, rn6, rn7, ri1, ri2, ri3, ri4, ri5]
          rw [hlost]
          exact ⟨rfl, rfl, rfl⟩
  · have hil : i = 12 := by omega
    subst hil
    have hlost : wayV n seen name k = lostW := heq
    rw [hlost]
    exact ⟨rfl, rfl, rfl⟩
end Go.Proofs.YtbgcpopmippbiaaGreatDoor
namespace Go.Proofs.YtbgcpopmippbiaaGreatDoor
open Go.Eng
set_option linter.unusedSimpArgs false
set_option maxRecDepth 10000

def cacheOk (L : List Kp) : Bool := risesB oQ mayB L
def chkC (L : List Kp) : Int := if 128 < L.length then 2 else if cacheOk L then 0 else 1
theorem chkC_iff {L : List Kp} : chkC L = 0 ↔ L.length ≤ 128 ∧ (∀ k ∈ L, mayB k = true) ∧ Ris koQ kQ L := by
  unfold chkC
  have h : cacheOk L = true ↔ (∀ k ∈ L, mayB k = true) ∧ Ris koQ kQ L := rises_iff
  by_cases h1 : 128 < L.length
  · rw [if_pos h1]
    exact ⟨fun e => (by cases e), fun e => (by omega)⟩
  · rw [if_neg h1]
    cases hc : cacheOk L with
    | true => exact ⟨fun _ => ⟨by omega, (h.1 hc).1, (h.1 hc).2⟩, fun _ => rfl⟩
    | false =>
      refine ⟨fun e => (by cases e), fun e => ?_⟩
      rw [h.2 e.2] at hc; cases hc
abbrev kpF (L : List Kp) (name : Bs) (k : Int) : Option Kp := findK koQ kQ L (name, k)
/-- What a cache has. -/
def heldV (L : List Kp) (now : Int) (name : Bs) (k : Int) : Option (List Rec) := if chkC L = 0 then (match kpF L name k with
  | some x => if now < x.U then some x.R else none
  | none => none) else none
def trimL (L : List Kp) (now : Int) : List Kp := if chkC L = 0 then L.filter (fun k => decide (now < k.U)) else []
/-- The first one of the least Until. -/
def minStep (o : Option Kp) (y : Kp) : Option Kp := match o with
  | none => some y
  | some m => if y.U < m.U then some y else some m
def minO (L : List Kp) : Option Kp := L.foldl minStep none
def roomL (L : List Kp) (k : Kp) : List Kp := if hitK koQ kQ L (kQ k) then L else if L.length = 128 then (match minO L with
  | some m => dropK koQ kQ L (kQ m)
  | none => L) else L
def keepV (L : List Kp) (k : Kp) : List Kp := withK koQ kQ (roomL L k) k
theorem minO_app (L : List Kp) (x : Kp) : minO (L ++ [x]) = minStep (minO L) x := by unfold minO; rw [List.foldl_append]; rfl
theorem minStep_mem {o : Option Kp} {y z : Kp} (h : minStep o y = some z) : z = y ∨ o = some z := by
  unfold minStep at h
  split at h
  · cases h; exact .inl rfl
  · split at h
    · cases h; exact .inl rfl
    · exact .inr h
theorem minO_mem_rev : ∀ (n : Nat) (L : List Kp), L.length = n → ∀ m, minO L = some m → m ∈ L := by
  intro n
  induction n with
  | zero => intro L hL m h; have : L = [] := List.length_eq_zero_iff.1 hL; subst this; cases h
  | succ n ih =>
    intro L hL m h
    obtain ⟨M, x, rfl⟩ : ∃ M x, L = M ++ [x] := ⟨L.dropLast, L.getLast (by intro e; subst e; simp at hL), (List.dropLast_concat_getLast _).symm⟩
    rw [minO_app] at h
    rcases minStep_mem h with rfl | h
    · simp
    · exact List.mem_append_left _ (ih M (by simpa using hL) m h)
theorem minO_mem {L : List Kp} {m : Kp} (h : minO L = some m) : m ∈ L := minO_mem_rev _ L rfl m h
theorem minO_none {L : List Kp} (h : minO L = none) : L = [] := by
  cases L with
  | nil => rfl
  | cons x t =>
    exfalso
    unfold minO at h
    rw [List.foldl_cons] at h
    have : ∀ (t : List Kp) (o : Option Kp), o.isSome = true → (t.foldl minStep o).isSome = true := by
      intro t
      induction t with
      | nil => exact fun o h => h
      | cons y t ih =>
        intro o ho
        rw [List.foldl_cons]
        refine ih _ ?_
        cases o with
        | none => cases ho
        | some m => unfold minStep; simp only; split <;> rfl
    have h2 := this t (minStep none x) rfl
    rw [h] at h2; cases h2
theorem ris_filter {L : List Kp} (hr : Ris koQ kQ L) (p : Kp → Bool) : Ris koQ kQ (L.filter p) := List.Pairwise.filter _ hr
theorem room_ris {L : List Kp} (hr : Ris koQ kQ L) (k : Kp) : Ris koQ kQ (roomL L k) := by
  unfold roomL
  split
  · exact hr
  · split
    · split
      · exact dropK_ris hr _
      · exact hr
    · exact hr
theorem room_mem {L : List Kp} {k x : Kp} (h : x ∈ roomL L k) : x ∈ L := by
  unfold roomL at h
  split at h
  · exact h
  · split at h
    · split at h
      · exact (mem_dropK.1 h).1
      · exact h
    · exact h
theorem drop_len_lt {L : List Kp} {m : Kp} (h : m ∈ L) : (dropK koQ kQ L (kQ m)).length < L.length := by
  unfold dropK
  rw [List.length_filter_lt_length_iff_exists]
  exact ⟨m, h, by simp [koQ.eq0.2 (rfl : kQ m = kQ m)]⟩
theorem keep_len {L : List Kp} (hr : Ris koQ kQ L) (hl : L.length ≤ 128) (k : Kp) : (keepV L k).length ≤ 128 := by
  unfold keepV
  rw [with_length (room_ris hr k)]
  unfold roomL
  cases hh : hitK koQ kQ L (kQ k) with
  | true => simp only [if_true]; rw [hh]; simp; omega
  | false =>
    simp only [Bool.false_eq_true, if_false]
    split
    · rename_i h128
      cases hm : minO L with
      | none => have := minO_none hm; subst this; simp at h128
      | some m =>
        simp only
        have := drop_len_lt (minO_mem hm)
        split <;> omega
    · split <;> omega
theorem keep_ok {L : List Kp} (h : chkC L = 0) {k : Kp} (hk : mayB k = true) : chkC (keepV L k) = 0 := by
  obtain ⟨h1, h2, h3⟩ := chkC_iff.1 h
  refine chkC_iff.2 ⟨keep_len h3 h1 k, fun x hx => ?_, with_ris (room_ris h3 k) k⟩
  rcases (mem_with (room_ris h3 k)).1 hx with rfl | ⟨hx, _⟩
  · exact hk
  · exact h2 x (room_mem hx)
theorem trim_ok {L : List Kp} (h : chkC L = 0) (now : Int) : chkC (trimL L now) = 0 := by
  obtain ⟨h1, h2, h3⟩ := chkC_iff.1 h
  unfold trimL
  rw [if_pos h]
  exact chkC_iff.2 ⟨Nat.le_trans (List.length_filter_le _ _) h1, fun x hx => h2 x (List.mem_filter.1 hx).1, ris_filter h3 _⟩
end Go.Proofs.YtbgcpopmippbiaaGreatDoor
namespace Go.Proofs.YtbgcpopmippbiaaGreatDoor
open Go.Eng
set_option linter.unusedSimpArgs false
set_option maxRecDepth 10000

theorem askE_zero {a : Bs} {l : List Rec} {n : Bs} {k : Int} (h : askE a l n k = 0) : checkV a l = 0 ∧ isName n = true ∧ 1 ≤ k ∧ k ≤ 5 ∧ underB n a = true := by
  unfold askE at h
  split at h
  · rename_i h1
    split at h
    · rename_i h2
      split at h
      · rename_i h3; exact ⟨h1, h2.1, h2.2.1, h2.2.2, h3⟩
      · cases h
    · cases h
  · rename_i h1; exact absurd h h1
theorem mem_ofL {l : List Rec} {n : Bs} {k : Int} {r : Rec} (h : r ∈ ofL l n k) : r ∈ l ∧ r.N = n ∧ r.K = k := by
  unfold ofL atB at h
  simp only [List.mem_filter, beq_iff_eq] at h
  exact ⟨h.1.1, h.1.2, h.2⟩
theorem askW_cases (a : Bs) (l : List Rec) (n : Bs) (k : Int) : (∃ c, cutV a l n none = some c ∧ askW a l n k = ⟨4, [c], digV c.V, []⟩) ∨
    (aliasL l n k ≠ [] ∧ askW a l n k = ⟨5, aliasL l n k, 0, lastV (aliasL l n k)⟩) ∨ (ofL l n k ≠ [] ∧ askW a l n k = ⟨1, ofL l n k, 0, []⟩) ∨
    (ofL l n k = [] ∧ (askW a l n k = ⟨2, [], 0, []⟩ ∨ askW a l n k = ⟨3, [], 0, []⟩)) := by
  unfold askW
  split
  · rename_i c hc; exact .inl ⟨c, hc, rfl⟩
  · split
    · rename_i h; exact .inr (.inl ⟨h, rfl⟩)
    · split
      · rename_i h; exact .inr (.inr (.inl ⟨h, rfl⟩))
      · rename_i h
        refine .inr (.inr (.inr ⟨Classical.byContradiction h, ?_⟩))
        split
        · exact .inl rfl
        · exact .inr rfl
theorem askW_sub {a : Bs} {l : List Rec} {n : Bs} {k : Int} : ∀ r ∈ (askW a l n k).R, r ∈ l := by
  intro r hr
  rcases askW_cases a l n k with ⟨c, hc, e⟩ | ⟨h, e⟩ | ⟨h, e⟩ | ⟨_, e | e⟩
  · rw [e] at hr
    rcases cutV_mem n.length n none c (Nat.le_refl _) hc with h | h
    · cases h
    · rw [List.mem_singleton.1 hr]; exact h.1
  · rw [e] at hr
    unfold aliasL atB at hr
    simp only [List.mem_filter] at hr
    exact hr.1.1
  · rw [e] at hr
    exact (mem_ofL hr).1
  · rw [e] at hr; cases hr
  · rw [e] at hr; cases hr
theorem leastL_bd {l : List Rec} : ∀ {life : Int}, (∀ r ∈ l, 1 ≤ r.L) → 1 ≤ life → 1 ≤ leastL life l ∧ leastL life l ≤ life := by
  induction l with
  | nil => intro life _ h; exact ⟨h, Int.le_refl _⟩
  | cons x t ih =>
    intro life h h1
    have hx := h x (by simp)
    have := ih (life := min life x.L) (fun r hr => h r (by simp [hr])) (by omega)
    unfold leastL at this ⊢
    rw [List.foldl_cons]
    omega
theorem step_some {n : Nt} {seen k addr : Int} {name : Bs} {a : An} (h : stepA n seen k addr name = some a) : srvB n seen addr = true ∧ ∃ i z, bestV (srvS n seen addr).Z name = some i ∧ (srvS n seen addr).Z[i]? = some z ∧ askE z.A z.R name k = 0 ∧ a = askW z.A z.R name k := by
  unfold stepA at h
  split at h
  · rename_i hb
    refine ⟨hb, ?_⟩
    split at h
    · cases h
    · rename_i i hi
      split at h
      · cases h
      · rename_i z hz
        split at h
        · rename_i he
          refine ⟨i, z, hi, hz, he, ?_⟩
          have := Option.some.inj h
          rw [← this]
          unfold askV
          rw [if_pos he]
        · cases h
  · cases h
theorem step_recs {n : Nt} {seen k addr : Int} {name : Bs} {a : An} (h : stepA n seen k addr name = some a) : ∃ z ∈ (srvS n seen addr).Z, checkV z.A z.R = 0 ∧ a = askW z.A z.R name k ∧ (∀ r ∈ a.R, r ∈ z.R ∧ 1 ≤ r.L ∧ r.L ≤ 1000) := by
  obtain ⟨_, i, z, _, hz, he, rfl⟩ := step_some h
  obtain ⟨hc, _⟩ := askE_zero he
  refine ⟨z, List.mem_of_getElem? hz, hc, rfl, fun r hr => ?_⟩
  have hm := askW_sub r hr
  have hf := (good_mem hc hm).1
  unfold formB at hf
  simp only [Bool.and_eq_true, decide_eq_true_eq] at hf
  exact ⟨hm, hf.1.2, hf.2⟩
/-- What a way leads to. -/
structure WayOk (n : Nt) (seen k : Int) (w : Wy) : Prop where
  kind : w.E = 0 ∨ w.E = 130 ∨ w.E = 131
  lost : w.E = 130 → w = lostW
  none : w.E = 131 → w = ⟨[], 10, 131⟩
  some : w.E = 0 → w.L ≠ [] ∧ 1 ≤ w.F ∧ w.F ≤ 1000 ∧ w.L.length ≤ 64 ∧ ∃ addr name, ∃ z ∈ (srvS n seen addr).Z, srvB n seen addr = true ∧ w.L = ofL z.R name k
theorem way_lost (n : Nt) (seen k : Int) : WayOk n seen k lostW := ⟨.inr (.inl rfl), fun _ => rfl, fun h => absurd h (by decide), fun h => absurd h (by decide)⟩
theorem way_ok (n : Nt) (seen k : Int) : ∀ (f : Nat) (addr : Int) (name : Bs) (life : Int), 1 ≤ life → life ≤ 1000 → WayOk n seen k (askG n seen k f addr name life)
  | 0, _, _, _, _, _ => way_lost n seen k
  | f + 1, addr, name, life, h1, h2 => by
    unfold askG
    cases hs : stepA n seen k addr name with
    | none => exact way_lost n seen k
    | some a =>
      obtain ⟨z, hz, hc, ha, hr⟩ := step_recs hs
      have hlb := leastL_bd (l := a.R) (life := life) (fun r h => (hr r h).2.1) h1
      simp only
      split
      · exact way_ok n seen k f _ _ _ hlb.1 (by omega)
      · split
        · exact way_ok n seen k f _ _ _ hlb.1 (by omega)
        · split
          · rename_i h4 h5 hk
            have hR : a.R = ofL z.R name k ∧ ofL z.R name k ≠ [] := by
              rcases askW_cases z.A z.R name k with ⟨c, _, e⟩ | ⟨_, e⟩ | ⟨h, e⟩ | ⟨_, e | e⟩ <;> rw [← ha] at e <;> rw [e] at hk h4 h5
              · exact absurd rfl h4
              · exact absurd rfl h5
              · rw [e]; exact ⟨rfl, h⟩
              · cases hk
              · cases hk
            refine ⟨.inl rfl, fun h => absurd h (by simp), fun h => absurd h (by simp), fun _ => ⟨by simp only; rw [hR.1]; exact hR.2, hlb.1, by simp only; omega, ?_, addr, name, z, hz, (step_some hs).1, hR.1⟩⟩
            simp only
            rw [hR.1]
            have h64 := (checkV_zero hc).2.2
            exact Nat.le_trans (Nat.le_trans (List.length_filter_le _ _) (List.length_filter_le _ _)) h64
          · exact ⟨.inr (.inr rfl), fun h => absurd h (by simp), fun _ => rfl, fun h => absurd h (by simp)⟩
theorem wayV_ok (n : Nt) (seen : Int) (name : Bs) (k : Int) : WayOk n seen k (wayV n seen name k) := way_ok n seen k 12 0 name 1000 (by decide) (by decide)

/-! ### Find -/
def goodQ (n : Nt) (seen now : Int) (k : Int) : Bool := timeB now && decide (-1 ≤ seen) && decide (seen < n.N) && kindB k
def keptOf (n : Nt) (seen now : Int) (name : Bs) (k : Int) : Kp := ⟨name, k, (wayV n seen name k).L, min (now + (wayV n seen name k).F) 1099511627776⟩
def findE (n : Nt) (seen : Int) (L : List Kp) (now : Int) (name : Bs) (k : Int) : Int :=
  if chkC L ≠ 0 then chkC L else if chkN n ≠ 0 then chkN n else if goodQ n seen now k = false then 1 else if isName name = false then 110 else
  match heldV L now name k with
  | some R => if R = [] then 131 else 0
  | none => (wayV n seen name k).E
def okF (e : Int) : Bool := e == 0 || e == 130 || e == 131
def findL (n : Nt) (seen : Int) (L : List Kp) (now : Int) (name : Bs) (k : Int) : List Rec :=
  if okF (findE n seen L now name k) then (match heldV L now name k with
  | some R => R
  | none => (wayV n seen name k).L) else []
def findC (n : Nt) (seen : Int) (L : List Kp) (now : Int) (name : Bs) (k : Int) : List Kp :=
  if okF (findE n seen L now name k) then (match heldV L now name k with
  | some _ => L
  | none => if (wayV n seen name k).E = 130 then L else keepV (trimL L now) (keptOf n seen now name k)) else []
end Go.Proofs.YtbgcpopmippbiaaGreatDoor
