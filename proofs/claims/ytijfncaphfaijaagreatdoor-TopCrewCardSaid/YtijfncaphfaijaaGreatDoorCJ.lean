
/- TopCrew: dealt. -/
import Derived.Test.YtijfncaphfaijaaGreatDoorCI
namespace Go.Proofs.YtijfncaphfaijaaGreatDoor
open Go.Eng
set_option linter.unusedSimpArgs false
set_option maxRecDepth 10000

def mkS (n t : Nat) (us : List Bool) (m : Nat) (i : Int) : List Bool × Nat := if 0 ≤ i ∧ i < n ∧ us[i.toNat]? = some false ∧ m < t then (us.set i.toNat true, m + 1) else (us, m)
def mkL (n t : Nat) : List Int → List Bool × Nat → List Bool × Nat
  | [], p => p
  | i :: r, p => mkL n t r (mkS n t p.1 p.2 i)
def fillB (t : Nat) : Nat → Nat → List Bool → Nat → List Bool
  | 0, _, us, _ => us
  | f + 1, i, us, m => if m < t then (if us[i]? = some false then fillB t f (i + 1) (us.set i true) (m + 1) else fillB t f (i + 1) us m) else us
structure UsOk (n t : Nat) (us : List Bool) (m : Nat) : Prop where
  len : us.length = n
  cnt : cntB us = m
  le : m ≤ t
theorem cnt_set : ∀ (us : List Bool) (i : Nat), us[i]? = some false → cntB (us.set i true) = cntB us + 1
  | [], _, h => by simp at h
  | false :: r, 0, _ => rfl
  | true :: r, 0, h => by simp at h
  | false :: r, i + 1, h => by simp only [List.set_cons_succ, cntB]; exact cnt_set r i (by simpa using h)
  | true :: r, i + 1, h => by simp only [List.set_cons_succ, cntB]; rw [cnt_set r i (by simpa using h)]
theorem UsOk.set {n t : Nat} {us : List Bool} {m i : Nat} (h : UsOk n t us m) (hf : us[i]? = some false) (hm : m < t) : UsOk n t (us.set i true) (m + 1) :=
  ⟨by rw [List.length_set]; exact h.len, by rw [cnt_set us i hf, h.cnt], hm⟩
theorem mkS_ok {n t : Nat} {us : List Bool} {m : Nat} (h : UsOk n t us m) (i : Int) : UsOk n t (mkS n t us m i).1 (mkS n t us m i).2 := by
  unfold mkS
  split
  · rename_i hc
    exact h.set hc.2.2.1 hc.2.2.2
  · exact h
theorem mkL_ok {n t : Nat} : ∀ (pick : List Int) {p : List Bool × Nat}, UsOk n t p.1 p.2 → UsOk n t (mkL n t pick p).1 (mkL n t pick p).2
  | [], _, h => h
  | i :: r, _, h => mkL_ok r (mkS_ok h i)
theorem cnt_all : ∀ us : List Bool, (∀ j, j < us.length → us[j]? = some true) → cntB us = us.length
  | [], _ => rfl
  | true :: r, h => by simp only [cntB, List.length_cons]; rw [cnt_all r fun j hj => by have := h (j + 1) (by simpa using hj); simpa using this]
  | false :: r, h => by have := h 0 (by simp); simp at this
theorem fillB_ok {n t : Nat} (htn : t ≤ n) : ∀ (f i : Nat) {us : List Bool} {m : Nat}, UsOk n t us m → f + i = n → (∀ j, j < i → us[j]? = some true) → (fillB t f i us m).length = n ∧ cntB (fillB t f i us m) = t
  | 0, i, us, m, h, hi, hall => by
    have h1 := cnt_all us fun j hj => hall j (by have := h.len; omega)
    have h2 := h.len
    have h3 := h.cnt
    have h4 := h.le
    exact ⟨h2, by show cntB us = t; omega⟩
  | f + 1, i, us, m, h, hi, hall => by
    unfold fillB
    split
    · rename_i hm
      split
      · rename_i hf
        refine fillB_ok htn f (i + 1) (h.set hf hm) (by omega) fun j hj => ?_
        by_cases hji : j = i
        · subst hji
          exact List.getElem?_set_self (by have := (List.getElem?_eq_some_iff.1 hf).1; exact this)
        · rw [List.getElem?_set_ne (by omega)]; exact hall j (by omega)
      · rename_i hf
        refine fillB_ok htn f (i + 1) h (by omega) fun j hj => ?_
        by_cases hji : j = i
        · subst hji
          have hlt : j < us.length := by have := h.len; omega
          rw [List.getElem?_eq_getElem hlt] at hf ⊢
          cases hb : us[j] with
          | true => rfl
          | false => rw [hb] at hf; exact absurd rfl hf
        · exact hall j (by omega)
    · rename_i hm
      have h3 := h.cnt
      have h4 := h.le
      exact ⟨h.len, by omega⟩
/-- Of whom the numbers tell: t different ones. -/
def useB (n t : Nat) (pick : List Int) : List Bool := fillB t n 0 (mkL n t pick (List.replicate n false, 0)).1 (mkL n t pick (List.replicate n false, 0)).2
theorem cnt_none : ∀ n : Nat, cntB (List.replicate n false) = 0
  | 0 => rfl
  | n + 1 => by rw [List.replicate_succ, cntB]; exact cnt_none n
theorem use0 (n t : Nat) : UsOk n t (List.replicate n false) 0 := ⟨by simp, cnt_none n, by omega⟩
theorem useB_ok (n t : Nat) (pick : List Int) (htn : t ≤ n) : (useB n t pick).length = n ∧ cntB (useB n t pick) = t :=
  fillB_ok htn n 0 (mkL_ok pick (p := (List.replicate n false, 0)) (use0 n t)) (by omega) fun j hj => by omega
theorem pickB_snoc : ∀ (us : List Bool) (l : List Sh) (b : Bool) (s : Sh), us.length = l.length → pickB (us ++ [b]) (l ++ [s]) = pickB us l ++ (if b then [s] else [])
  | [], [], true, s, _ => rfl
  | [], [], false, s, _ => rfl
  | true :: us, q :: l, b, s, h => by simp only [List.cons_append, pickB]; rw [pickB_snoc us l b s (by simpa using h)]
  | false :: us, q :: l, b, s, h => by simp only [List.cons_append, pickB]; rw [pickB_snoc us l b s (by simpa using h)]
  | [], _ :: _, _, _, h => by simp at h
  | _ :: _, [], _, _, h => by simp at h
structure MkInv (n t : Nat) (pick : List Int) where
  i : Nat
  us : List Bool
  m : Nat
  hi : i ≤ pick.length
  hu : UsOk n t us m
  ok : mkL n t (pick.drop i) (us, m) = mkL n t pick (List.replicate n false, 0)
structure FlInv (n t : Nat) (pick : List Int) where
  i : Nat
  us : List Bool
  m : Nat
  hi : i ≤ n
  hu : UsOk n t us m
  ok : fillB t (n - i) i us m = useB n t pick
abbrev inD (l : List Int) : D := .vec 1 (l.map fun n => [.v (.int .i64 n)])
abbrev boR (l : List Bool) : List (List D) := l.map fun b => [.v (.bool b)]
theorem dealt_ok (seed : List Int) (t n : Nat) (pick : List Int) (hs : seed.length ≤ 200) (hp : pick.length ≤ 30) (ht : 1 ≤ t) (htn : t ≤ n) (hn : n ≤ 7) :
    Meets Tryz.prog 6 [(false, [vD (byD seed)]), (false, [vI t]), (false, [vI n]), (false, [vD (inD pick)])]
      (rTup [(true, [vI t, vI n, vU64 (deC seed t n).key, vD (shD (deC seed t n).parts)]), (false, [vD (shD (deL seed t n))]), (false, [vD (shD (pickB (useB n t pick) (deL seed t n)))]), (false, [vB true])]) := by
  have h1 := deal_ok seed t n (by omega) ht htn hn
  have hal : (deL seed t n).length = n := spL_len _ _ _ _
  have hpl : (deC seed t n).parts.length = n := by show ((spL seed (secN seed) t n).map Sh.pub).length = n; rw [List.length_map, spL_len]
  generalize deC seed t n = C at h1 hpl ⊢
  generalize deL seed t n = A at h1 hal ⊢
  have c1 : ((200 : Int) < (seed.length : Int)) = False := by simp; omega
  have c2 : ((30 : Int) < (pick.length : Int)) = False := by simp; omega
  refine meetsF Tryz.func6 rfl rfl Tryz.ntmps6 Tryz.results6 rfl ?_
  simp -dsimp -implicitDefEqProofs only [c1, c2, go_sem, ↓reduceIte, reduceCtorEq, Nat.reduceLT, Nat.reduceLeDiff, Nat.reduceEqDiff, Nat.reduceAdd, Nat.reduceMul, Nat.reduceSub, Nat.reduceBEq, Int.reduceLT, Int.reduceLE, Int.reduceEq, Int.reduceBEq, Int.reduceNeg]
  refine callP h1 ?_
  simp -dsimp -implicitDefEqProofs only [hal, hpl, mkA, go_sem, ↓reduceIte, reduceCtorEq, Nat.reduceLT, Nat.reduceLeDiff, Nat.reduceEqDiff, Nat.reduceAdd, Nat.reduceMul, Nat.reduceSub, Nat.reduceBEq, Int.reduceLT, Int.reduceLE, Int.reduceEq, Int.reduceBEq, Int.reduceNeg]
  refine ⟨⟨by omega, by omega, by omega⟩, ?_⟩
  refine vfor sitOk (ι := MkInv n t pick) (fun v => ⟨140, [(72, aI v.i), (71, aI pick.length), (70, aD (inD pick)), (16, aI v.m), (15, aO 416), (13, aD (shD A)), (12, aP 160 0), (8, aP 0 0), (1, aI t), (2, aI n)],
    [(416, some (.row 1 4 (boR v.us) true)), (160, some (.var [cI t, cI n, cU C.key, cD (shD C.parts)] true)), (0, some (.var [cI 0, cI 0, cU 0, .nils 2] true))], 464⟩) (fun v => pick.length - v.i) ⟨0, List.replicate n false, 0, by omega, use0 n t, rfl⟩ ?_ ?_
  · simp -dsimp -implicitDefEqProofs only [List.map_replicate, go_sem, ↓reduceIte, reduceCtorEq, Nat.reduceLT, Nat.reduceLeDiff, Nat.reduceEqDiff, Nat.reduceAdd, Nat.reduceMul, Nat.reduceSub, Nat.reduceBEq, Int.reduceLT, Int.reduceLE, Int.reduceEq, Int.reduceBEq, Int.reduceNeg]
  intro ⟨i, us, m, hi, hu, ok⟩
  have hul := hu.len
  by_cases hil : i < pick.length
  · have d1 : ((i : Int) < (pick.length : Int)) = True := by simp; omega
    obtain ⟨k, hk⟩ := get_of hil
    have w2 : IntKind.i64.wrap ((i : Int) + 1) = ((i + 1 : Nat) : Int) := by rw [wrap64] <;> omega
    have hmt := hu.le
    have w3 : IntKind.i64.wrap ((m : Int) + 1) = ((m + 1 : Nat) : Int) := by rw [wrap64] <;> omega
    rw [drop_get hk, mkL] at ok
    by_cases hk0 : 0 ≤ k ∧ k < n
    · obtain ⟨j, rfl⟩ : ∃ j : Nat, k = j := ⟨k.toNat, by omega⟩
      have d2 : ((0 : Int) ≤ (j : Int)) = True := by simp
      have d3 : ((j : Int) < (n : Int)) = True := by simp; omega
      obtain ⟨b, hb⟩ := get_of (l := us) (i := j) (by omega)
      cases b with
      | true =>
        rw [mkS, if_neg (fun e => by have := e.2.2.1; rw [Int.toNat_natCast, hb] at this; cases this)] at ok
        simp -dsimp -implicitDefEqProofs only [d1, hk, forall_eq', d2, d3, hb, go_sem, ↓reduceIte, reduceCtorEq, Nat.reduceLT, Nat.reduceLeDiff, Nat.reduceEqDiff, Nat.reduceAdd, Nat.reduceMul, Nat.reduceSub, Nat.reduceBEq, Int.reduceLT, Int.reduceLE, Int.reduceEq, Int.reduceBEq, Int.reduceNeg]
        refine ⟨by omega, hil, ⟨⟨by omega, by omega, again ⟨i + 1, us, m, by omega, hu, ok⟩ (by simp; omega) ?_⟩, fun h => absurd h (by omega)⟩, fun h => absurd h (by omega)⟩
        simp -dsimp -implicitDefEqProofs only [w2, go_sem, ↓reduceIte, reduceCtorEq, Nat.reduceLT, Nat.reduceLeDiff, Nat.reduceEqDiff, Nat.reduceAdd, Nat.reduceMul, Nat.reduceSub, Nat.reduceBEq, Int.reduceLT, Int.reduceLE, Int.reduceEq, Int.reduceBEq, Int.reduceNeg]
      | false =>
        by_cases hm : m < t
        · have d4 : ((m : Int) < (t : Int)) = True := by simp; omega
          rw [mkS, if_pos ⟨by omega, by omega, by rw [Int.toNat_natCast]; exact hb, hm⟩, Int.toNat_natCast] at ok
          simp -dsimp -implicitDefEqProofs only [d1, hk, forall_eq', d2, d3, hb, d4, go_sem, ↓reduceIte, reduceCtorEq, Nat.reduceLT, Nat.reduceLeDiff, Nat.reduceEqDiff, Nat.reduceAdd, Nat.reduceMul, Nat.reduceSub, Nat.reduceBEq, Int.reduceLT, Int.reduceLE, Int.reduceEq, Int.reduceBEq, Int.reduceNeg]
          have bset : (boR us).set j [.v (.bool true)] = boR (us.set j true) := by unfold boR; rw [List.map_set]
          refine ⟨by omega, hil, ⟨⟨by omega, by omega, by omega, by omega, again ⟨i + 1, us.set j true, m + 1, by omega, hu.set hb hm, ok⟩ (by simp; omega) ?_⟩, fun h => absurd h (by omega)⟩, fun h => absurd h (by omega)⟩
          simp -dsimp -implicitDefEqProofs only [w2, w3, bset, go_sem, ↓reduceIte, reduceCtorEq, Nat.reduceLT, Nat.reduceLeDiff, Nat.reduceEqDiff, Nat.reduceAdd, Nat.reduceMul, Nat.reduceSub, Nat.reduceBEq, Int.reduceLT, Int.reduceLE, Int.reduceEq, Int.reduceBEq, Int.reduceNeg]
        · have d4 : ((m : Int) < (t : Int)) = False := by simp; omega
          rw [mkS, if_neg (fun e => hm e.2.2.2)] at ok
          simp -dsimp -implicitDefEqProofs only [d1, hk, forall_eq', d2, d3, hb, d4, go_sem, ↓reduceIte, reduceCtorEq, Nat.reduceLT, Nat.reduceLeDiff, Nat.reduceEqDiff, Nat.reduceAdd, Nat.reduceMul, Nat.reduceSub, Nat.reduceBEq, Int.reduceLT, Int.reduceLE, Int.reduceEq, Int.reduceBEq, Int.reduceNeg]
          refine ⟨by omega, hil, ⟨⟨by omega, by omega, again ⟨i + 1, us, m, by omega, hu, ok⟩ (by simp; omega) ?_⟩, fun h => absurd h (by omega)⟩, fun h => absurd h (by omega)⟩
          simp -dsimp -implicitDefEqProofs only [w2, go_sem, ↓reduceIte, reduceCtorEq, Nat.reduceLT, Nat.reduceLeDiff, Nat.reduceEqDiff, Nat.reduceAdd, Nat.reduceMul, Nat.reduceSub, Nat.reduceBEq, Int.reduceLT, Int.reduceLE, Int.reduceEq, Int.reduceBEq, Int.reduceNeg]
    · rw [mkS, if_neg (fun e => hk0 ⟨e.1, e.2.1⟩)] at ok
      by_cases hk1 : 0 ≤ k
      · have d2 : (0 ≤ k) = True := by simp; omega
        have d3 : (k < (n : Int)) = False := by simp; omega
        simp -dsimp -implicitDefEqProofs only [d1, hk, forall_eq', d2, d3, go_sem, ↓reduceIte, reduceCtorEq, Nat.reduceLT, Nat.reduceLeDiff, Nat.reduceEqDiff, Nat.reduceAdd, Nat.reduceMul, Nat.reduceSub, Nat.reduceBEq, Int.reduceLT, Int.reduceLE, Int.reduceEq, Int.reduceBEq, Int.reduceNeg]
        refine ⟨by omega, hil, fun _ => again ⟨i + 1, us, m, by omega, hu, ok⟩ (by simp; omega) ?_, fun h => absurd h (by omega)⟩
        simp -dsimp -implicitDefEqProofs only [w2, go_sem, ↓reduceIte, reduceCtorEq, Nat.reduceLT, Nat.reduceLeDiff, Nat.reduceEqDiff, Nat.reduceAdd, Nat.reduceMul, Nat.reduceSub, Nat.reduceBEq, Int.reduceLT, Int.reduceLE, Int.reduceEq, Int.reduceBEq, Int.reduceNeg]
      · have d2 : (0 ≤ k) = False := by simp; omega
        simp -dsimp -implicitDefEqProofs only [d1, hk, forall_eq', d2, go_sem, ↓reduceIte, reduceCtorEq, Nat.reduceLT, Nat.reduceLeDiff, Nat.reduceEqDiff, Nat.reduceAdd, Nat.reduceMul, Nat.reduceSub, Nat.reduceBEq, Int.reduceLT, Int.reduceLE, Int.reduceEq, Int.reduceBEq, Int.reduceNeg]
        refine ⟨by omega, hil, fun _ => again ⟨i + 1, us, m, by omega, hu, ok⟩ (by simp; omega) ?_⟩
        simp -dsimp -implicitDefEqProofs only [w2, go_sem, ↓reduceIte, reduceCtorEq, Nat.reduceLT, Nat.reduceLeDiff, Nat.reduceEqDiff, Nat.reduceAdd, Nat.reduceMul, Nat.reduceSub, Nat.reduceBEq, Int.reduceLT, Int.reduceLE, Int.reduceEq, Int.reduceBEq, Int.reduceNeg]
  · have d1 : ((i : Int) < (pick.length : Int)) = False := by simp; omega
    rw [List.drop_eq_nil_iff.2 (by omega), mkL] at ok
    simp -dsimp -implicitDefEqProofs only [d1, go_sem, ↓reduceIte, reduceCtorEq, Nat.reduceLT, Nat.reduceLeDiff, Nat.reduceEqDiff, Nat.reduceAdd, Nat.reduceMul, Nat.reduceSub, Nat.reduceBEq, Int.reduceLT, Int.reduceLE, Int.reduceEq, Int.reduceBEq, Int.reduceNeg]
    have oke : us = (mkL n t pick (List.replicate n false, 0)).1 ∧ m = (mkL n t pick (List.replicate n false, 0)).2 := by rw [← ok]; exact ⟨rfl, rfl⟩
    refine vfor sitOk (ι := FlInv n t pick) (fun v => ⟨140, [(19, aI v.i), (16, aI v.m), (15, aO 416), (13, aD (shD A)), (12, aP 160 0), (8, aP 0 0), (1, aI t), (2, aI n)],
      [(416, some (.row 1 4 (boR v.us) true)), (160, some (.var [cI t, cI n, cU C.key, cD (shD C.parts)] true)), (0, some (.var [cI 0, cI 0, cU 0, .nils 2] true))], 480⟩) (fun v => n - v.i) ⟨0, us, m, by omega, hu, by rw [oke.1, oke.2]; rfl⟩ ?_ ?_
    · simp -dsimp -implicitDefEqProofs only [go_sem, ↓reduceIte, reduceCtorEq, Nat.reduceLT, Nat.reduceLeDiff, Nat.reduceEqDiff, Nat.reduceAdd, Nat.reduceMul, Nat.reduceSub, Nat.reduceBEq, Int.reduceLT, Int.reduceLE, Int.reduceEq, Int.reduceBEq, Int.reduceNeg]
    intro ⟨i, us, m, hi, hu, ok⟩
    have hul := hu.len
    by_cases hin : i < n
    · have d1 : ((i : Int) < (n : Int)) = True := by simp; omega
      have w2 : IntKind.i64.wrap ((i : Int) + 1) = ((i + 1 : Nat) : Int) := by rw [wrap64] <;> omega
      have hmt := hu.le
      have w3 : IntKind.i64.wrap ((m : Int) + 1) = ((m + 1 : Nat) : Int) := by rw [wrap64] <;> omega
      obtain ⟨f, hf⟩ : ∃ f, n - i = f + 1 := ⟨n - i - 1, by omega⟩
      rw [hf, fillB] at ok
      have hf' : n - (i + 1) = f := by omega
      by_cases hm : m < t
      · have d4 : ((m : Int) < (t : Int)) = True := by simp; omega
        rw [if_pos hm] at ok
        obtain ⟨b, hb⟩ := get_of (l := us) (i := i) (by omega)
        cases b with
        | true =>
          rw [if_neg (by rw [hb]; simp), ← hf'] at ok
          simp -dsimp -implicitDefEqProofs only [d1, d4, hb, forall_eq', go_sem, ↓reduceIte, reduceCtorEq, Nat.reduceLT, Nat.reduceLeDiff, Nat.reduceEqDiff, Nat.reduceAdd, Nat.reduceMul, Nat.reduceSub, Nat.reduceBEq, Int.reduceLT, Int.reduceLE, Int.reduceEq, Int.reduceBEq, Int.reduceNeg]
          refine ⟨⟨by omega, by omega⟩, by omega, again ⟨i + 1, us, m, by omega, hu, ok⟩ (by simp; omega) ?_⟩
          simp -dsimp -implicitDefEqProofs only [w2, go_sem, ↓reduceIte, reduceCtorEq, Nat.reduceLT, Nat.reduceLeDiff, Nat.reduceEqDiff, Nat.reduceAdd, Nat.reduceMul, Nat.reduceSub, Nat.reduceBEq, Int.reduceLT, Int.reduceLE, Int.reduceEq, Int.reduceBEq, Int.reduceNeg]
        | false =>
          rw [if_pos hb, ← hf'] at ok
          simp -dsimp -implicitDefEqProofs only [d1, d4, hb, forall_eq', go_sem, ↓reduceIte, reduceCtorEq, Nat.reduceLT, Nat.reduceLeDiff, Nat.reduceEqDiff, Nat.reduceAdd, Nat.reduceMul, Nat.reduceSub, Nat.reduceBEq, Int.reduceLT, Int.reduceLE, Int.reduceEq, Int.reduceBEq, Int.reduceNeg]
          have bset : (boR us).set i [.v (.bool true)] = boR (us.set i true) := by unfold boR; rw [List.map_set]
          refine ⟨⟨by omega, by omega⟩, by omega, ⟨by omega, by omega⟩, by omega, again ⟨i + 1, us.set i true, m + 1, by omega, hu.set hb hm, ok⟩ (by simp; omega) ?_⟩
          simp -dsimp -implicitDefEqProofs only [w2, w3, bset, go_sem, ↓reduceIte, reduceCtorEq, Nat.reduceLT, Nat.reduceLeDiff, Nat.reduceEqDiff, Nat.reduceAdd, Nat.reduceMul, Nat.reduceSub, Nat.reduceBEq, Int.reduceLT, Int.reduceLE, Int.reduceEq, Int.reduceBEq, Int.reduceNeg]
      · have d4 : ((m : Int) < (t : Int)) = False := by simp; omega
        rw [if_neg hm] at ok
        subst ok
        simp -dsimp -implicitDefEqProofs only [d1, d4, go_sem, ↓reduceIte, reduceCtorEq, Nat.reduceLT, Nat.reduceLeDiff, Nat.reduceEqDiff, Nat.reduceAdd, Nat.reduceMul, Nat.reduceSub, Nat.reduceBEq, Int.reduceLT, Int.reduceLE, Int.reduceEq, Int.reduceBEq, Int.reduceNeg]
        obtain ⟨U, hU0⟩ : ∃ U, U = useB n t pick := ⟨_, rfl⟩
        have hUl : U.take A.length = U := List.take_of_length_le (by rw [hU0, (useB_ok n t pick htn).1]; omega)
        have hUn : U.length = n := by rw [hU0]; exact (useB_ok n t pick htn).1
        rw [← hU0]
        refine vownE 20 79 rfl ?_
        refine vfor sitOk (ι := MpInv A) (fun v => ⟨140, [(123, aI v.i), (122, aI A.length), (121, aD (shD A)), (20, aO 576), (15, aO 416), (13, aD (shD A)), (12, aP 160 0), (8, aP 0 0)],
          [(576, some (.row 2 79 (shR (pickB (U.take v.i) (A.take v.i))) true)), (416, some (.row 1 4 (boR U) true)), (160, some (.var [cI t, cI n, cU C.key, cD (shD C.parts)] true)), (0, some (.var [cI 0, cI 0, cU 0, .nils 2] true))], 577⟩) (fun v => A.length - v.i) ⟨0, by omega⟩ ?_ ?_
        · simp -dsimp -implicitDefEqProofs only [go_sem, ↓reduceIte, reduceCtorEq, Nat.reduceLT, Nat.reduceLeDiff, Nat.reduceEqDiff, Nat.reduceAdd, Nat.reduceMul, Nat.reduceSub, Nat.reduceBEq, Int.reduceLT, Int.reduceLE, Int.reduceEq, Int.reduceBEq, Int.reduceNeg]
          rfl
        intro ⟨i, hi⟩
        by_cases hia : i < A.length
        · have d1 : ((i : Int) < (A.length : Int)) = True := by simp; omega
          have w2 : IntKind.i64.wrap ((i : Int) + 1) = ((i + 1 : Nat) : Int) := by rw [wrap64] <;> omega
          obtain ⟨s, hs⟩ := get_of hia
          obtain ⟨b, hb⟩ := get_of (l := U) (i := i) (by omega)
          have hsn := pickB_snoc (U.take i) (A.take i) b s (by rw [List.length_take, List.length_take]; omega)
          have hU : U.take (i + 1) = U.take i ++ [b] := by rw [List.take_add_one, hb]; rfl
          have hAA : A.take (i + 1) = A.take i ++ [s] := by rw [List.take_add_one, hs]; rfl
          rw [← hU, ← hAA] at hsn
          have hpl2 : (pickB (U.take i) (A.take i)).length ≤ 7 := by
            have := (pickB_sub (U.take i) (A.take i)).length_le
            rw [List.length_take] at this
            omega
          cases b with
          | true =>
            rw [if_pos rfl] at hsn
            simp -dsimp -implicitDefEqProofs only [d1, hs, forall_eq', hb, Sh.cells, go_sem, ↓reduceIte, reduceCtorEq, Nat.reduceLT, Nat.reduceLeDiff, Nat.reduceEqDiff, Nat.reduceAdd, Nat.reduceMul, Nat.reduceSub, Nat.reduceBEq, Int.reduceLT, Int.reduceLE, Int.reduceEq, Int.reduceBEq, Int.reduceNeg]
            refine ⟨by omega, hia, ⟨by omega, by omega⟩, by omega, ⟨by omega, by omega⟩, againT 576 20 ⟨i + 1, by omega⟩ (by simp; omega) ?_⟩
            simp -dsimp -implicitDefEqProofs only [w2, hsn, List.map_append, List.map_cons, List.map_nil, Sh.cells, go_sem, ↓reduceIte, reduceCtorEq, Nat.reduceLT, Nat.reduceLeDiff, Nat.reduceEqDiff, Nat.reduceAdd, Nat.reduceMul, Nat.reduceSub, Nat.reduceBEq, Int.reduceLT, Int.reduceLE, Int.reduceEq, Int.reduceBEq, Int.reduceNeg]
          | false =>
            rw [if_neg (by simp), List.append_nil] at hsn
            simp -dsimp -implicitDefEqProofs only [d1, hs, forall_eq', hb, Sh.cells, go_sem, ↓reduceIte, reduceCtorEq, Nat.reduceLT, Nat.reduceLeDiff, Nat.reduceEqDiff, Nat.reduceAdd, Nat.reduceMul, Nat.reduceSub, Nat.reduceBEq, Int.reduceLT, Int.reduceLE, Int.reduceEq, Int.reduceBEq, Int.reduceNeg]
            refine ⟨by omega, hia, ⟨by omega, by omega⟩, by omega, again ⟨i + 1, by omega⟩ (by simp; omega) ?_⟩
            simp -dsimp -implicitDefEqProofs only [w2, hsn, go_sem, ↓reduceIte, reduceCtorEq, Nat.reduceLT, Nat.reduceLeDiff, Nat.reduceEqDiff, Nat.reduceAdd, Nat.reduceMul, Nat.reduceSub, Nat.reduceBEq, Int.reduceLT, Int.reduceLE, Int.reduceEq, Int.reduceBEq, Int.reduceNeg]
        · have d1 : ((i : Int) < (A.length : Int)) = False := by simp; omega
          obtain rfl : i = A.length := by omega
          simp -dsimp -implicitDefEqProofs only [d1, List.take_length, hUl, go_sem, ↓reduceIte, reduceCtorEq, Nat.reduceLT, Nat.reduceLeDiff, Nat.reduceEqDiff, Nat.reduceAdd, Nat.reduceMul, Nat.reduceSub, Nat.reduceBEq, Int.reduceLT, Int.reduceLE, Int.reduceEq, Int.reduceBEq, Int.reduceNeg]
          refine retF [576] ?_
          simp -dsimp -implicitDefEqProofs only [go_sem, ↓reduceIte, reduceCtorEq, Nat.reduceLT, Nat.reduceLeDiff, Nat.reduceEqDiff, Nat.reduceAdd, Nat.reduceMul, Nat.reduceSub, Nat.reduceBEq, Int.reduceLT, Int.reduceLE, Int.reduceEq, Int.reduceBEq, Int.reduceNeg]
    · have d1 : ((i : Int) < (n : Int)) = False := by simp; omega
      rw [show n - i = 0 by omega, fillB] at ok
      subst ok
      simp -dsimp -implicitDefEqProofs only [d1, go_sem, ↓reduceIte, reduceCtorEq, Nat.reduceLT, Nat.reduceLeDiff, Nat.reduceEqDiff, Nat.reduceAdd, Nat.reduceMul, Nat.reduceSub, Nat.reduceBEq, Int.reduceLT, Int.reduceLE, Int.reduceEq, Int.reduceBEq, Int.reduceNeg]
      obtain ⟨U, hU0⟩ : ∃ U, U = useB n t pick := ⟨_, rfl⟩
      have hUl : U.take A.length = U := List.take_of_length_le (by rw [hU0, (useB_ok n t pick htn).1]; omega)
      have hUn : U.length = n := by rw [hU0]; exact (useB_ok n t pick htn).1
      rw [← hU0]
      refine vownE 20 79 rfl ?_
      refine vfor sitOk (ι := MpInv A) (fun v => ⟨140, [(123, aI v.i), (122, aI A.length), (121, aD (shD A)), (20, aO 576), (15, aO 416), (13, aD (shD A)), (12, aP 160 0), (8, aP 0 0)],
        [(576, some (.row 2 79 (shR (pickB (U.take v.i) (A.take v.i))) true)), (416, some (.row 1 4 (boR U) true)), (160, some (.var [cI t, cI n, cU C.key, cD (shD C.parts)] true)), (0, some (.var [cI 0, cI 0, cU 0, .nils 2] true))], 577⟩) (fun v => A.length - v.i) ⟨0, by omega⟩ ?_ ?_
      · simp -dsimp -implicitDefEqProofs only [go_sem, ↓reduceIte, reduceCtorEq, Nat.reduceLT, Nat.reduceLeDiff, Nat.reduceEqDiff, Nat.reduceAdd, Nat.reduceMul, Nat.reduceSub, Nat.reduceBEq, Int.reduceLT, Int.reduceLE, Int.reduceEq, Int.reduceBEq, Int.reduceNeg]
        rfl
      intro ⟨i, hi⟩
      by_cases hia : i < A.length
      · have d1 : ((i : Int) < (A.length : Int)) = True := by simp; omega
        have w2 : IntKind.i64.wrap ((i : Int) + 1) = ((i + 1 : Nat) : Int) := by rw [wrap64] <;> omega
        obtain ⟨s, hs⟩ := get_of hia
        obtain ⟨b, hb⟩ := get_of (l := U) (i := i) (by omega)
        have hsn := pickB_snoc (U.take i) (A.take i) b s (by rw [List.length_take, List.length_take]; omega)
        have hU : U.take (i + 1) = U.take i ++ [b] := by rw [List.take_add_one, hb]; rfl
        have hAA : A.take (i + 1) = A.take i ++ [s] := by rw [List.take_add_one, hs]; rfl
        rw [← hU, ← hAA] at hsn
        have hpl2 : (pickB (U.take i) (A.take i)).length ≤ 7 := by
          have := (pickB_sub (U.take i) (A.take i)).length_le
          rw [List.length_take] at this
          omega
        cases b with
        | true =>
          rw [if_pos rfl] at hsn
          simp -dsimp -implicitDefEqProofs only [d1, hs, forall_eq', hb, Sh.cells, go_sem, ↓reduceIte, reduceCtorEq, Nat.reduceLT, Nat.reduceLeDiff, Nat.reduceEqDiff, Nat.reduceAdd, Nat.reduceMul, Nat.reduceSub, Nat.reduceBEq, Int.reduceLT, Int.reduceLE, Int.reduceEq, Int.reduceBEq, Int.reduceNeg]
          refine ⟨by omega, hia, ⟨by omega, by omega⟩, by omega, ⟨by omega, by omega⟩, againT 576 20 ⟨i + 1, by omega⟩ (by simp; omega) ?_⟩
          simp -dsimp -implicitDefEqProofs only [w2, hsn, List.map_append, List.map_cons, List.map_nil, Sh.cells, go_sem, ↓reduceIte, reduceCtorEq, Nat.reduceLT, Nat.reduceLeDiff, Nat.reduceEqDiff, Nat.reduceAdd, Nat.reduceMul, Nat.reduceSub, Nat.reduceBEq, Int.reduceLT, Int.reduceLE, Int.reduceEq, Int.reduceBEq, Int.reduceNeg]
        | false =>
          rw [if_neg (by simp), List.append_nil] at hsn
          simp -dsimp -implicitDefEqProofs only [d1, hs, forall_eq', hb, Sh.cells, go_sem, ↓reduceIte, reduceCtorEq, Nat.reduceLT, Nat.reduceLeDiff, Nat.reduceEqDiff, Nat.reduceAdd, Nat.reduceMul, Nat.reduceSub, Nat.reduceBEq, Int.reduceLT, Int.reduceLE, Int.reduceEq, Int.reduceBEq, Int.reduceNeg]
          refine ⟨by omega, hia, ⟨by omega, by omega⟩, by omega, again ⟨i + 1, by omega⟩ (by simp; omega) ?_⟩
          simp -dsimp -implicitDefEqProofs only [w2, hsn, go_sem, ↓reduceIte, reduceCtorEq, Nat.reduceLT, Nat.reduceLeDiff, Nat.reduceEqDiff, Nat.reduceAdd, Nat.reduceMul, Nat.reduceSub, Nat.reduceBEq, Int.reduceLT, Int.reduceLE, Int.reduceEq, Int.reduceBEq, Int.reduceNeg]
      · have d1 : ((i : Int) < (A.length : Int)) = False := by simp; omega
        obtain rfl : i = A.length := by omega
        simp -dsimp -implicitDefEqProofs only [d1, List.take_length, hUl, go_sem, ↓reduceIte, reduceCtorEq, Nat.reduceLT, Nat.reduceLeDiff, Nat.reduceEqDiff, Nat.reduceAdd, Nat.reduceMul, Nat.reduceSub, Nat.reduceBEq, Int.reduceLT, Int.reduceLE, Int.reduceEq, Int.reduceBEq, Int.reduceNeg]
        refine retF [576] ?_
        simp -dsimp -implicitDefEqProofs only [go_sem, ↓reduceIte, reduceCtorEq, Nat.reduceLT, Nat.reduceLeDiff, Nat.reduceEqDiff, Nat.reduceAdd, Nat.reduceMul, Nat.reduceSub, Nat.reduceBEq, Int.reduceLT, Int.reduceLE, Int.reduceEq, Int.reduceBEq, Int.reduceNeg]
end Go.Proofs.YtijfncaphfaijaaGreatDoor
