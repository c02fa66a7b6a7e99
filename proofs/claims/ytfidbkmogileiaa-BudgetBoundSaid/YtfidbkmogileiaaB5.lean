/- The contracts of spend, Spend (both). -/
import Derived.Test.YtfidbkmogileiaaB4
namespace Go.Proofs.Ytfidbkmogileiaa
open Go.Eng
set_option linter.unusedSimpArgs false
set_option maxRecDepth 10000

theorem onS_ok {l : List Sp} {W a r now : Int} {x : Sp} (hok : okFrom none l = true) (h : onS l W a r now = some x) : okS x = true ∧ x ∈ l ∧ keyB a r x = true ∧ now - x.S < W := by
  unfold onS at h
  split at h
  · rename_i y hy
    split at h
    · cases h
    · cases h
      have hm := List.mem_of_find?_eq_some hy
      exact ⟨okFrom_all hok _ hm, hm, by simpa using List.find?_some hy, by omega⟩
  · cases h

abbrev spendR (v : List Sp × Int) : Res := rTup [(false, [.own 4 40 (v.1.map Sp.cells)]), (false, [vI v.2])]

theorem spend_ok (l : List Sp) (M W a r now : Int) (hM : numB M = true) (hc : checkV l = 0) (hn : 0 ≤ now ∧ now ≤ 1099511627776) :
    Meets Try.prog 32 [(true, [vI M, vI W, vI a, vI r, vI now]), (false, [.own 4 40 (l.map Sp.cells)])] (spendR (spendV l M W a r now)) := by
  obtain ⟨hok, hlen⟩ := checkV_zero hc
  have hri := okFrom_rises hok
  have hM' := numB_true hM
  refine meets Try.func32 rfl rfl Try.ntmps32 Try.results32 rfl ?_
  simp -dsimp -implicitDefEqProofs only [go_sem, ↓reduceIte, reduceCtorEq, Nat.reduceLT, Nat.reduceLeDiff, Nat.reduceEqDiff, Nat.reduceAdd, Nat.reduceMul, Nat.reduceSub, Nat.reduceBEq, Int.reduceLT, Int.reduceLE, Int.reduceEq, Int.reduceBEq, Int.reduceNeg]
  refine ⟨fun h0 => by simp [spendV, h0], fun h0 => callP (left_ok l M W a r now hM hc hn) ?_⟩
  simp -dsimp -implicitDefEqProofs only [go_sem, ↓reduceIte, reduceCtorEq, Nat.reduceLT, Nat.reduceLeDiff, Nat.reduceEqDiff, Nat.reduceAdd, Nat.reduceMul, Nat.reduceSub, Nat.reduceBEq, Int.reduceLT, Int.reduceLE, Int.reduceEq, Int.reduceBEq, Int.reduceNeg]
  refine ⟨fun h1 => by simp [spendV, h0, h1], fun h1 => ?_⟩
  refine callW rfl Try.func41 rfl rfl Try.ntmps41 Try.results41 rfl ?_
  simp -dsimp -implicitDefEqProofs only [go_sem, ↓reduceIte, reduceCtorEq, Nat.reduceLT, Nat.reduceLeDiff, Nat.reduceEqDiff, Nat.reduceAdd, Nat.reduceMul, Nat.reduceSub, Nat.reduceBEq, Int.reduceLT, Int.reduceLE, Int.reduceEq, Int.reduceBEq, Int.reduceNeg]
  refine callP (bsearch_ok l (by omega) a r _ (cmpS a r) fun x _ => cmp1_ok x a r) ?_
  rcases search_law (a := a) (r := r) hri with ⟨i, x, hi, hhit, hx, hk⟩ | ⟨i, hi, hhit, hil, hno, hlo, hup⟩
  · have hf := find_at hri hx hk
    have hb := okS_bounds (okFrom_all hok x (List.mem_of_getElem? hx))
    have hil := (List.getElem?_eq_some_iff.1 hx).1
    have hw : IntKind.i64.wrap (now - x.S) = now - x.S := by rw [wrap64] <;> omega
    have hw2 : IntKind.i64.wrap (x.M + 1) = x.M + 1 := by rw [wrap64] <;> omega
    obtain ⟨ka, kr⟩ := keyB_iff.1 hk
    have hM0 : leftV l M W a r now ≠ 0 := h1
    simp -dsimp -implicitDefEqProofs only [hi, hhit, hx, forall_eq', hw, hw2, retH, go_sem, ↓reduceIte, reduceCtorEq, Nat.reduceLT, Nat.reduceLeDiff, Nat.reduceEqDiff, Nat.reduceAdd, Nat.reduceMul, Nat.reduceSub, Nat.reduceBEq, Int.reduceLT, Int.reduceLE, Int.reduceEq, Int.reduceBEq, Int.reduceNeg]
    repeat' (first | with_reducible apply And.intro | with_reducible intro _ | with_reducible exact drawn (by kernel_rfl) | omega)
    · rename_i hW
      have ho : onS l W a r now = none := by simp [onS, hf, hW]
      have hp : put (begun l W a r now) l = l.set i ⟨a, r, now, 1⟩ := by rw [begun, ho]; exact put_hit hri hx hk
      have hsp : spendV l M W a r now = (l.set i ⟨a, r, now, 1⟩, 0) := by
        unfold spendV
        rw [if_neg h0, if_neg hM0, hp, if_neg (by rw [List.length_set]; omega)]
      refine callP (bsearch_ok l (by omega) a r _ (cmpS a r) fun x _ => cmp2_ok x a r) ?_
      simp -dsimp -implicitDefEqProofs only [hi, hhit, hx, forall_eq', hsp, List.map_set, go_sem, ↓reduceIte, reduceCtorEq, Nat.reduceLT, Nat.reduceLeDiff, Nat.reduceEqDiff, Nat.reduceAdd, Nat.reduceMul, Nat.reduceSub, Nat.reduceBEq, Int.reduceLT, Int.reduceLE, Int.reduceEq, Int.reduceBEq, Int.reduceNeg]
      repeat' (first | with_reducible apply And.intro | with_reducible intro _ | with_reducible exact drawn (by kernel_rfl) | omega)
    all_goals
      rename_i hW
      have ho : onS l W a r now = some x := by simp only [onS, hf]; rw [if_neg (by omega)]
      have hp : put (begun l W a r now) l = l.set i ⟨a, r, x.S, x.M + 1⟩ := by rw [begun, ho]; exact put_hit hri hx hk
      have hsp : spendV l M W a r now = (l.set i ⟨a, r, x.S, x.M + 1⟩, 0) := by
        unfold spendV
        rw [if_neg h0, if_neg hM0, hp, if_neg (by rw [List.length_set]; omega)]
    · rw [hsp, List.map_set, ← ka, ← kr]; rfl
    · rw [hsp]
  · have hf := find_none hno
    have ho : onS l W a r now = none := by simp [onS, hf]
    have hp : put (begun l W a r now) l = l.take i ++ (⟨a, r, now, 1⟩ : Sp) :: l.drop i := by rw [begun, ho]; exact put_miss hil hlo hup hno
    have hsp : spendV l M W a r now = if l.length = 1024 then ([], 2) else (l.take i ++ (⟨a, r, now, 1⟩ : Sp) :: l.drop i, 0) := by
      unfold spendV
      rw [if_neg h0, if_neg h1, hp]
      have hl : (l.take i ++ (⟨a, r, now, 1⟩ : Sp) :: l.drop i).length = l.length + 1 := by simp; omega
      rw [hl]
      by_cases h2 : l.length = 1024
      · rw [if_pos (by omega), if_pos h2]
      · rw [if_neg (by omega), if_neg h2]
    simp -dsimp -implicitDefEqProofs only [hi, hhit, retH, go_sem, ↓reduceIte, reduceCtorEq, Nat.reduceLT, Nat.reduceLeDiff, Nat.reduceEqDiff, Nat.reduceAdd, Nat.reduceMul, Nat.reduceSub, Nat.reduceBEq, Int.reduceLT, Int.reduceLE, Int.reduceEq, Int.reduceBEq, Int.reduceNeg]
    repeat' (first | with_reducible apply And.intro | with_reducible intro _ | with_reducible exact drawn (by kernel_rfl) | (refine callP (bsearch_ok l (by omega) a r _ (cmpS a r) fun x _ ↦ cmp2_ok x a r) ?_; simp -dsimp -implicitDefEqProofs only [retH, hi, hhit, go_sem, ↓reduceIte, reduceCtorEq, Nat.reduceLT, Nat.reduceLeDiff, Nat.reduceEqDiff, Nat.reduceAdd, Nat.reduceMul, Nat.reduceSub, Nat.reduceBEq, Int.reduceLT, Int.reduceLE, Int.reduceEq, Int.reduceBEq, Int.reduceNeg]) | omega)
    · rename_i hl4
      rw [hsp, if_pos (by omega)]; rfl
    · rename_i hl4
      rw [hsp, if_pos (by omega)]
    · rename_i hl4
      rw [if_neg (by omega)] at hsp
      refine callE [true, false, true] ?_
      simp -dsimp -implicitDefEqProofs only [go_sem, ↓reduceIte, reduceCtorEq, Nat.reduceLT, Nat.reduceLeDiff, Nat.reduceEqDiff, Nat.reduceAdd, Nat.reduceMul, Nat.reduceSub, Nat.reduceBEq, Int.reduceLT, Int.reduceLE, Int.reduceEq, Int.reduceBEq, Int.reduceNeg]
      refine ⟨_, insert_ok (l.map Sp.cells) [dI a, dI r, dI now, dI 1] i (by simpa using hil) (by simp; omega), ?_⟩
      simp -dsimp -implicitDefEqProofs only [hsp, List.map_append, List.map_take, List.map_drop, go_sem, ↓reduceIte, reduceCtorEq, Nat.reduceLT, Nat.reduceLeDiff, Nat.reduceEqDiff, Nat.reduceAdd, Nat.reduceMul, Nat.reduceSub, Nat.reduceBEq, Int.reduceLT, Int.reduceLE, Int.reduceEq, Int.reduceBEq, Int.reduceNeg]

theorem Spend_ok (l : List Sp) (x : Ru) (rule account now : Int) (hl : l.length ≤ 1000000) : Meets Try.prog 17 [(false, [vD (spsD l)]), x.arg, (false, [vI rule]), (false, [vI account]), (false, [vI now])] (spendR (SpendV l x.M x.W rule account now)) := by
  refine meets Try.func17 rfl rfl Try.ntmps17 Try.results17 rfl ?_
  simp -dsimp -implicitDefEqProofs only [go_sem, ↓reduceIte, reduceCtorEq, Nat.reduceLT, Nat.reduceLeDiff, Nat.reduceEqDiff, Nat.reduceAdd, Nat.reduceMul, Nat.reduceSub, Nat.reduceBEq, Int.reduceLT, Int.reduceLE, Int.reduceEq, Int.reduceBEq, Int.reduceNeg]
  repeat' (first | with_reducible apply And.intro | with_reducible intro _ | with_reducible exact drawn (by kernel_rfl) | (refine callP (limited_ok ⟨_, _, _, _, _, _, _⟩ _ _ _) ?_; simp -dsimp -implicitDefEqProofs only [go_sem, ↓reduceIte, reduceCtorEq, Nat.reduceLT, Nat.reduceLeDiff, Nat.reduceEqDiff, Nat.reduceAdd, Nat.reduceMul, Nat.reduceSub, Nat.reduceBEq, Int.reduceLT, Int.reduceLE, Int.reduceEq, Int.reduceBEq, Int.reduceNeg]) | (refine callP (check_ok l hl) ?_; simp -dsimp -implicitDefEqProofs only [go_sem, ↓reduceIte, reduceCtorEq, Nat.reduceLT, Nat.reduceLeDiff, Nat.reduceEqDiff, Nat.reduceAdd, Nat.reduceMul, Nat.reduceSub, Nat.reduceBEq, Int.reduceLT, Int.reduceLE, Int.reduceEq, Int.reduceBEq, Int.reduceNeg]) | omega)
  · simp [SpendV, *]
  · simp [SpendV, *]
  · simp [SpendV, *]
  · simp [SpendV, *]
  · rename_i hc hm
    have hm' := hm
    simp only [mayB, rmB, Bool.and_eq_true] at hm
    have e : SpendV l x.M x.W rule account now = spendV l x.M x.W account rule now := by simp [SpendV, hc, hm']
    rw [e]
    refine callP (clone_ok _ (by simpa using hl)) ?_
    simp -dsimp -implicitDefEqProofs only [go_sem, ↓reduceIte, reduceCtorEq, Nat.reduceLT, Nat.reduceLeDiff, Nat.reduceEqDiff, Nat.reduceAdd, Nat.reduceMul, Nat.reduceSub, Nat.reduceBEq, Int.reduceLT, Int.reduceLE, Int.reduceEq, Int.reduceBEq, Int.reduceNeg]
    refine callE [false, true] ?_
    simp -dsimp -implicitDefEqProofs only [go_sem, ↓reduceIte, reduceCtorEq, Nat.reduceLT, Nat.reduceLeDiff, Nat.reduceEqDiff, Nat.reduceAdd, Nat.reduceMul, Nat.reduceSub, Nat.reduceBEq, Int.reduceLT, Int.reduceLE, Int.reduceEq, Int.reduceBEq, Int.reduceNeg]
    refine ⟨_, spend_ok l x.M x.W account rule now hm.1.1.1.1.1 hc (numB_true hm.2), ?_⟩
    simp -dsimp -implicitDefEqProofs only [go_sem, ↓reduceIte, reduceCtorEq, Nat.reduceLT, Nat.reduceLeDiff, Nat.reduceEqDiff, Nat.reduceAdd, Nat.reduceMul, Nat.reduceSub, Nat.reduceBEq, Int.reduceLT, Int.reduceLE, Int.reduceEq, Int.reduceBEq, Int.reduceNeg]
    exact drawn (by kernel_rfl)

/-- What the reference's loop has put out. -/
def allR (x : Sp) (i : Nat) (l : List Sp) : Bool := (l.take i).all (fun y => decide (cmpS x.A x.R y < 0))
def outR (x : Sp) (i : Nat) (l : List Sp) : List Sp := if allR x i l then l.take i else
  (l.take i).filter (fun y => decide (cmpS x.A x.R y < 0)) ++ x :: (l.take i).filter (fun y => !decide (cmpS x.A x.R y < 0) && !keyB x.A x.R y)
theorem takeS {α : Type} {l : List α} {i : Nat} {y : α} (hy : l[i]? = some y) : l.take (i + 1) = l.take i ++ [y] := by
  rw [List.take_add_one, hy]; rfl
theorem cmpS_key {a r : Int} {y : Sp} (h : cmpS a r y < 0) : keyB a r y = false := by
  cases hk : keyB a r y with
  | false => rfl
  | true =>
    have := keyB_iff.1 hk
    have h2 : cmpS a r y = 0 := by rw [cmpS, ordV_zero]; exact this
    omega
theorem allR_ahead {x y : Sp} {i : Nat} {l : List Sp} (hy : l[i]? = some y) (h0 : allR x i l = true) (h : cmpS x.A x.R y < 0) : allR x (i + 1) l = true ∧ outR x (i + 1) l = outR x i l ++ [y] := by
  have e : allR x (i + 1) l = true := by
    unfold allR at h0 ⊢
    rw [takeS hy, List.all_append, h0]; simp [h]
  refine ⟨e, ?_⟩
  rw [outR, if_pos e, outR, if_pos h0, takeS hy]
theorem allR_first {x y : Sp} {i : Nat} {l : List Sp} (hy : l[i]? = some y) (h0 : allR x i l = true) (h : ¬ cmpS x.A x.R y < 0) : allR x (i + 1) l = false ∧ outR x (i + 1) l = outR x i l ++ x :: (if keyB x.A x.R y then [] else [y]) := by
  have e : allR x (i + 1) l = false := by
    unfold allR at h0 ⊢
    rw [takeS hy, List.all_append, h0]; simp [h]
  refine ⟨e, ?_⟩
  have h0' := h0
  unfold allR at h0'
  rw [List.all_eq_true] at h0'
  have e1 : (l.take i).filter (fun y => decide (cmpS x.A x.R y < 0)) = l.take i := List.filter_eq_self.2 h0'
  have e2 : (l.take i).filter (fun y => !decide (cmpS x.A x.R y < 0) && !keyB x.A x.R y) = [] := List.filter_eq_nil_iff.2 fun z hz => by simp [of_decide_eq_true (h0' z hz)]
  have ne : ¬ allR x (i + 1) l = true := by rw [e]; decide
  rw [outR, if_neg ne, outR, if_pos h0, takeS hy, List.filter_append, List.filter_append, e1, e2]
  cases hk : keyB x.A x.R y <;> simp [h, hk]
theorem allR_later {x y : Sp} {i : Nat} {l : List Sp} (hr : Rises l) (hy : l[i]? = some y) (h0 : allR x i l = false) : ¬ cmpS x.A x.R y < 0 ∧ allR x (i + 1) l = false ∧ outR x (i + 1) l = outR x i l ++ (if keyB x.A x.R y then [] else [y]) := by
  have e : allR x (i + 1) l = false := by
    unfold allR at h0 ⊢
    rw [takeS hy, List.all_append, h0]; rfl
  have h : ¬ cmpS x.A x.R y < 0 := fun hc => by
    have : allR x i l = true := by
      unfold allR
      rw [List.all_eq_true]
      intro z hz
      obtain ⟨j, hj, rfl⟩ := List.mem_take_iff_getElem.1 hz
      exact decide_eq_true (cmpS_mono hr j i l[j] y (by omega) (List.getElem?_eq_getElem (by omega)) hy hc)
    rw [h0] at this; cases this
  refine ⟨h, e, ?_⟩
  have ne : ¬ allR x (i + 1) l = true := by rw [e]; decide
  have ne0 : ¬ allR x i l = true := by rw [h0]; decide
  rw [outR, if_neg ne, outR, if_neg ne0, takeS hy, List.filter_append, List.filter_append]
  cases hk : keyB x.A x.R y <;> simp [h, hk]
theorem outR_end {x : Sp} {l : List Sp} (hr : Rises l) : (allR x l.length l = true → outR x l.length l ++ [x] = put x l) ∧ (allR x l.length l = false → outR x l.length l = put x l) := by
  have ht : l.take l.length = l := List.take_of_length_le (Nat.le_refl _)
  refine ⟨fun h => ?_, fun h => ?_⟩
  · rw [outR, if_pos h, ht]
    unfold allR at h
    rw [ht, List.all_eq_true] at h
    rw [put_filter hr, List.filter_eq_self.2 h, List.filter_eq_nil_iff.2 fun z hz => by simp [of_decide_eq_true (h z hz)]]
  · have ne : ¬ allR x l.length l = true := by rw [h]; decide
    rw [outR, if_neg ne, ht, put_filter hr]
theorem filter_two {α : Type} {p q : α → Bool} : ∀ {l : List α}, (∀ x ∈ l, p x = true → q x = false) → (l.filter p).length + (l.filter q).length ≤ l.length
  | [], _ => by simp
  | x :: l, h => by
    have ih := filter_two (p := p) (q := q) (l := l) fun y hy => h y (by simp [hy])
    have hx := h x (by simp)
    cases hp : p x with
    | true => simp [hp, hx hp]; omega
    | false => cases hq : q x <;> simp [hp, hq] <;> omega
theorem outR_len (x : Sp) (i : Nat) (l : List Sp) : (outR x i l).length ≤ l.length + 1 := by
  unfold outR
  split
  · simp; omega
  · have := filter_two (p := fun y => decide (cmpS x.A x.R y < 0)) (q := fun y => !decide (cmpS x.A x.R y < 0) && !keyB x.A x.R y) (l := l.take i) fun y _ h => by simp [of_decide_eq_true h]
    simp only [List.length_append, List.length_cons]
    have : (l.take i).length ≤ l.length := by simp; omega
    omega
theorem cmpS_iff {a r : Int} {y : Sp} : cmpS a r y < 0 ↔ y.A < a ∨ (y.A = a ∧ y.R < r) := by rw [cmpS, ordV_lt]
/-- Where the reference finds a key. -/
def idxV (a r : Int) (l : List Sp) : Int := match l.findIdx? (keyB a r) with | some i => i | none => -1
theorem idxV_key {a r : Int} {l : List Sp} (hr : Rises l) {i : Nat} {y : Sp} (hy : l[i]? = some y) : (i : Int) = idxV a r l ↔ keyB a r y = true := by
  unfold idxV
  have hil := (List.getElem?_eq_some_iff.1 hy).1
  have hyi : l[i] = y := by rw [List.getElem?_eq_getElem hil] at hy; exact Option.some.inj hy
  cases h : l.findIdx? (keyB a r) with
  | none =>
    have := List.findIdx?_eq_none_iff.1 h y (List.mem_of_getElem? hy)
    simp [this]
  | some j =>
    simp only
    obtain ⟨hjl, hj, hlt⟩ := List.findIdx?_eq_some_iff_getElem.1 h
    refine ⟨fun e => ?_, fun hk => ?_⟩
    · have : i = j := by omega
      subst this
      rw [hyi] at hj; exact hj
    · have h1 : ¬ i < j := fun hc => by have := hlt i hc; rw [hyi, hk] at this; simp at this
      have h2 : ¬ j < i := fun hc => by
        have := rises_get hr j i l[j] y hc (List.getElem?_eq_getElem hjl) hy
        obtain ⟨a1, a2⟩ := keyB_iff.1 hj
        obtain ⟨b1, b2⟩ := keyB_iff.1 hk
        rw [ordV_lt] at this; omega
      omega
theorem spendV_put {l : List Sp} {M W a r now : Int} {b : Sp} (hM : M ≠ 0) (hL : leftV l M W a r now ≠ 0) (hb : b = begun l W a r now) : spendV l M W a r now = if 1024 < (put b l).length then ([], 2) else (put b l, 0) := by
  rw [spendV, if_neg hM, if_neg hL, hb]

structure RsInv (l : List Sp) where
  i : Nat
  le : i ≤ l.length

set_option maxHeartbeats 2000000 in
theorem rSpend_ok (l : List Sp) (x : Ru) (rule account now : Int) (hl : l.length ≤ 1000000) : Meets Try.prog 18 [(false, [vD (spsD l)]), x.arg, (false, [vI rule]), (false, [vI account]), (false, [vI now])] (spendR (SpendV l x.M x.W rule account now)) := by
  refine meets Try.func18 rfl rfl Try.ntmps18 Try.results18 rfl ?_
  simp -dsimp -implicitDefEqProofs only [go_sem, ↓reduceIte, reduceCtorEq, Nat.reduceLT, Nat.reduceLeDiff, Nat.reduceEqDiff, Nat.reduceAdd, Nat.reduceMul, Nat.reduceSub, Nat.reduceBEq, Int.reduceLT, Int.reduceLE, Int.reduceEq, Int.reduceBEq, Int.reduceNeg]
  repeat' (first | with_reducible apply And.intro | with_reducible intro _ | with_reducible exact drawn (by kernel_rfl) | (refine callP (rasked_ok ⟨_, _, _, _, _, _, _⟩ _ _ _) ?_; simp -dsimp -implicitDefEqProofs only [go_sem, ↓reduceIte, reduceCtorEq, Nat.reduceLT, Nat.reduceLeDiff, Nat.reduceEqDiff, Nat.reduceAdd, Nat.reduceMul, Nat.reduceSub, Nat.reduceBEq, Int.reduceLT, Int.reduceLE, Int.reduceEq, Int.reduceBEq, Int.reduceNeg]) | (refine callP (rcheck_ok l hl) ?_; simp -dsimp -implicitDefEqProofs only [go_sem, ↓reduceIte, reduceCtorEq, Nat.reduceLT, Nat.reduceLeDiff, Nat.reduceEqDiff, Nat.reduceAdd, Nat.reduceMul, Nat.reduceSub, Nat.reduceBEq, Int.reduceLT, Int.reduceLE, Int.reduceEq, Int.reduceBEq, Int.reduceNeg]) | omega)
  · simp [SpendV, *]
  · simp [SpendV, *]
  · simp [SpendV, *]
  · simp [SpendV, *]
  · rename_i hc hm h0
    have e : SpendV l x.M x.W rule account now = spendV l x.M x.W account rule now := by simp [SpendV, hc, hm]
    rw [e]; simp [spendV, h0]
  · rename_i hc hm h0
    have e : SpendV l x.M x.W rule account now = spendV l x.M x.W account rule now := by simp [SpendV, hc, hm]
    rw [e]; simp [spendV, h0]
  · rename_i hc hm h0
    have hm' := hm
    simp only [mayB, rmB, Bool.and_eq_true] at hm
    have hM := numB_true hm.1.1.1.1.1
    have hn := numB_true hm.2
    have e : SpendV l x.M x.W rule account now = spendV l x.M x.W account rule now := by simp [SpendV, hc, hm']
    rw [e]
    obtain ⟨hok, hlen⟩ := checkV_zero hc
    have hri := okFrom_rises hok
    refine callP (rhad_ok l x rule account now hc hn) ?_
    obtain ⟨kx, hkx⟩ : ∃ k, k = idxV account rule l := ⟨_, rfl⟩
    cases ho : onS l x.W account rule now with
    | none =>
      obtain ⟨bS, hS⟩ : ∃ k, k = now := ⟨_, rfl⟩
      obtain ⟨bM, hB⟩ : ∃ k : Int, k = 1 := ⟨_, rfl⟩
      obtain ⟨b, hb⟩ : ∃ b : Sp, b = ⟨account, rule, bS, bM⟩ := ⟨_, rfl⟩
      have hbe : b = begun l x.W account rule now := by rw [hb, begun, ho, hS, hB]
      have hL : leftV l x.M x.W account rule now ≠ 0 := by simp only [leftV, if_neg h0, ho]; exact h0
      simp -dsimp -implicitDefEqProofs only [go_sem, ↓reduceIte, reduceCtorEq, Nat.reduceLT, Nat.reduceLeDiff, Nat.reduceEqDiff, Nat.reduceAdd, Nat.reduceMul, Nat.reduceSub, Nat.reduceBEq, Int.reduceLT, Int.reduceLE, Int.reduceEq, Int.reduceBEq, Int.reduceNeg]
      refine ⟨fun h1 => by omega, fun _ => callP (rfind_ok l rule account (by omega)) ?_⟩
      simp -dsimp -implicitDefEqProofs only [go_sem, ↓reduceIte, reduceCtorEq, Nat.reduceLT, Nat.reduceLeDiff, Nat.reduceEqDiff, Nat.reduceAdd, Nat.reduceMul, Nat.reduceSub, Nat.reduceBEq, Int.reduceLT, Int.reduceLE, Int.reduceEq, Int.reduceBEq, Int.reduceNeg]
      refine vforT sitOk 400 16 (ι := RsInv l) (fun v => ⟨128, [(18, aI v.i), (17, aB (!allR b v.i l)), (16, aO 400), (15, aI kx), (14, aP 256 0), (0, aD (spsD l)), (3, aI account), (2, aI rule)],
          [(256, some (.var [cI account, cI rule, cI bS, cI bM] true)), (400, some (.row 4 40 ((outR b v.i l).map Sp.cells) true))], 401⟩) (fun v => l.length - v.i) ⟨0, by omega⟩ ?_ ?_
      · simp -dsimp -implicitDefEqProofs only [hS, hB, hkx, idxV, go_sem, ↓reduceIte, reduceCtorEq, Nat.reduceLT, Nat.reduceLeDiff, Nat.reduceEqDiff, Nat.reduceAdd, Nat.reduceMul, Nat.reduceSub, Nat.reduceBEq, Int.reduceLT, Int.reduceLE, Int.reduceEq, Int.reduceBEq, Int.reduceNeg]
        simp [allR, outR, hS, hB, idxV]
        try rfl
      intro ⟨i, hi⟩
      have hA0 : b.A = account := by rw [hb]
      have hR0 : b.R = rule := by rw [hb]
      have hln := outR_len b i l
      by_cases hil : i < l.length
      · obtain ⟨y, hy⟩ : ∃ y, l[i]? = some y := ⟨l[i], List.getElem?_eq_getElem hil⟩
        have hwi := wrapS hil (by omega)
        have hkk := idxV_key (a := account) (r := rule) hri hy
        rw [← hkx] at hkk
        have hci := cmpS_iff (a := account) (r := rule) (y := y)
        cases hA : allR b i l with
        | true =>
          by_cases hc : cmpS account rule y < 0
          · obtain ⟨e1, e2⟩ := allR_ahead hy hA (by rw [hA0, hR0]; exact hc)
            have hk0 := cmpS_key hc
            have hne : ¬ (i : Int) = kx := fun e => by rw [hkk.1 e] at hk0; cases hk0
            have hc' := hci.1 hc
            simp -dsimp -implicitDefEqProofs only [hA, hy, forall_eq', go_sem, ↓reduceIte, reduceCtorEq, Nat.reduceLT, Nat.reduceLeDiff, Nat.reduceEqDiff, Nat.reduceAdd, Nat.reduceMul, Nat.reduceSub, Nat.reduceBEq, Int.reduceLT, Int.reduceLE, Int.reduceEq, Int.reduceBEq, Int.reduceNeg]
            repeat' (first | with_reducible apply And.intro | with_reducible intro _ | with_reducible exact drawn (by kernel_rfl) | omega)
            all_goals
              refine againT 400 16 ⟨i + 1, by omega⟩ (by simp; omega) ?_
              simp -dsimp -implicitDefEqProofs only [hwi, hA, e1, e2, List.map_append, List.map_cons, List.map_nil, Sp.cells, go_sem, ↓reduceIte, reduceCtorEq, Nat.reduceLT, Nat.reduceLeDiff, Nat.reduceEqDiff, Nat.reduceAdd, Nat.reduceMul, Nat.reduceSub, Nat.reduceBEq, Int.reduceLT, Int.reduceLE, Int.reduceEq, Int.reduceBEq, Int.reduceNeg]
          · obtain ⟨e1, e2⟩ := allR_first hy hA (by rw [hA0, hR0]; exact hc)
            rw [hA0, hR0] at e2
            have e2k : (i : Int) = kx → outR b (i + 1) l = outR b i l ++ [⟨account, rule, bS, bM⟩] := fun e => by rw [e2, if_pos (hkk.1 e), hb]
            have e2n : ¬ (i : Int) = kx → outR b (i + 1) l = outR b i l ++ [⟨account, rule, bS, bM⟩, y] := fun e => by rw [e2, if_neg fun h => e (hkk.2 h), hb]
            have hc' : ¬ (y.A < account ∨ (y.A = account ∧ y.R < rule)) := fun e => hc (hci.2 e)
            simp -dsimp -implicitDefEqProofs only [hA, hy, forall_eq', go_sem, ↓reduceIte, reduceCtorEq, Nat.reduceLT, Nat.reduceLeDiff, Nat.reduceEqDiff, Nat.reduceAdd, Nat.reduceMul, Nat.reduceSub, Nat.reduceBEq, Int.reduceLT, Int.reduceLE, Int.reduceEq, Int.reduceBEq, Int.reduceNeg]
            repeat' (first | with_reducible apply And.intro | with_reducible intro _ | with_reducible exact drawn (by kernel_rfl) | omega)
            all_goals first
              | (simp only [List.length_append, List.length_map, List.length_cons, List.length_nil]; omega)
              | (rename_i hik
                 refine againT 400 16 ⟨i + 1, by omega⟩ (by simp; omega) ?_
                 have e3 := e2k hik
                 simp -dsimp -implicitDefEqProofs only [hwi, hA, e1, e3, List.map_append, List.map_cons, List.map_nil, Sp.cells, List.append_assoc, List.cons_append, List.nil_append, go_sem, ↓reduceIte, reduceCtorEq, Nat.reduceLT, Nat.reduceLeDiff, Nat.reduceEqDiff, Nat.reduceAdd, Nat.reduceMul, Nat.reduceSub, Nat.reduceBEq, Int.reduceLT, Int.reduceLE, Int.reduceEq, Int.reduceBEq, Int.reduceNeg])
              | (rename_i hik
                 refine againT 400 16 ⟨i + 1, by omega⟩ (by simp; omega) ?_
                 have e3 := e2n hik
                 simp -dsimp -implicitDefEqProofs only [hwi, hA, e1, e3, List.map_append, List.map_cons, List.map_nil, Sp.cells, List.append_assoc, List.cons_append, List.nil_append, go_sem, ↓reduceIte, reduceCtorEq, Nat.reduceLT, Nat.reduceLeDiff, Nat.reduceEqDiff, Nat.reduceAdd, Nat.reduceMul, Nat.reduceSub, Nat.reduceBEq, Int.reduceLT, Int.reduceLE, Int.reduceEq, Int.reduceBEq, Int.reduceNeg])
        | false =>
          obtain ⟨hc, e1, e2⟩ := allR_later hri hy hA
          rw [hA0, hR0] at e2 hc
          have e2k : (i : Int) = kx → outR b (i + 1) l = outR b i l := fun e => by rw [e2, if_pos (hkk.1 e), List.append_nil]
          have e2n : ¬ (i : Int) = kx → outR b (i + 1) l = outR b i l ++ [y] := fun e => by rw [e2, if_neg fun h => e (hkk.2 h)]
          have hc' : ¬ (y.A < account ∨ (y.A = account ∧ y.R < rule)) := fun e => hc (hci.2 e)
          simp -dsimp -implicitDefEqProofs only [hA, hy, forall_eq', go_sem, ↓reduceIte, reduceCtorEq, Nat.reduceLT, Nat.reduceLeDiff, Nat.reduceEqDiff, Nat.reduceAdd, Nat.reduceMul, Nat.reduceSub, Nat.reduceBEq, Int.reduceLT, Int.reduceLE, Int.reduceEq, Int.reduceBEq, Int.reduceNeg]
          repeat' (first | with_reducible apply And.intro | with_reducible intro _ | with_reducible exact drawn (by kernel_rfl) | omega)
          all_goals first
            | (simp only [List.length_append, List.length_map, List.length_cons, List.length_nil]; omega)
            | (rename_i hik
               refine againT 400 16 ⟨i + 1, by omega⟩ (by simp; omega) ?_
               have e3 := e2k hik
               simp -dsimp -implicitDefEqProofs only [hwi, hA, e1, e3, List.map_append, List.map_cons, List.map_nil, Sp.cells, List.append_assoc, List.cons_append, List.nil_append, go_sem, ↓reduceIte, reduceCtorEq, Nat.reduceLT, Nat.reduceLeDiff, Nat.reduceEqDiff, Nat.reduceAdd, Nat.reduceMul, Nat.reduceSub, Nat.reduceBEq, Int.reduceLT, Int.reduceLE, Int.reduceEq, Int.reduceBEq, Int.reduceNeg])
            | (rename_i hik
               refine againT 400 16 ⟨i + 1, by omega⟩ (by simp; omega) ?_
               have e3 := e2n hik
               simp -dsimp -implicitDefEqProofs only [hwi, hA, e1, e3, List.map_append, List.map_cons, List.map_nil, Sp.cells, List.append_assoc, List.cons_append, List.nil_append, go_sem, ↓reduceIte, reduceCtorEq, Nat.reduceLT, Nat.reduceLeDiff, Nat.reduceEqDiff, Nat.reduceAdd, Nat.reduceMul, Nat.reduceSub, Nat.reduceBEq, Int.reduceLT, Int.reduceLE, Int.reduceEq, Int.reduceBEq, Int.reduceNeg])
      · have hi' : i = l.length := by omega
        subst hi'
        have hsp := spendV_put h0 hL hbe
        cases hA : allR b l.length l with
        | true =>
          have e' : (outR b l.length l).map Sp.cells ++ [[dI account, dI rule, dI bS, dI bM]] = (put b l).map Sp.cells := by rw [← (outR_end hri).1 hA, List.map_append, hb]; rfl
          by_cases h4 : 1024 < (put b l).length
          · rw [if_pos h4] at hsp
            simp -dsimp -implicitDefEqProofs only [hA, e', hsp, List.length_map, go_sem, ↓reduceIte, reduceCtorEq, Nat.reduceLT, Nat.reduceLeDiff, Nat.reduceEqDiff, Nat.reduceAdd, Nat.reduceMul, Nat.reduceSub, Nat.reduceBEq, Int.reduceLT, Int.reduceLE, Int.reduceEq, Int.reduceBEq, Int.reduceNeg]
            repeat' (first | with_reducible apply And.intro | with_reducible intro _ | with_reducible exact drawn (by kernel_rfl) | omega)
          · rw [if_neg h4] at hsp
            simp -dsimp -implicitDefEqProofs only [hA, e', hsp, List.length_map, go_sem, ↓reduceIte, reduceCtorEq, Nat.reduceLT, Nat.reduceLeDiff, Nat.reduceEqDiff, Nat.reduceAdd, Nat.reduceMul, Nat.reduceSub, Nat.reduceBEq, Int.reduceLT, Int.reduceLE, Int.reduceEq, Int.reduceBEq, Int.reduceNeg]
            repeat' (first | with_reducible apply And.intro | with_reducible intro _ | with_reducible exact drawn (by kernel_rfl) | omega)
        | false =>
          have e' : outR b l.length l = put b l := (outR_end hri).2 hA
          by_cases h4 : 1024 < (put b l).length
          · rw [if_pos h4] at hsp
            simp -dsimp -implicitDefEqProofs only [hA, e', hsp, List.length_map, go_sem, ↓reduceIte, reduceCtorEq, Nat.reduceLT, Nat.reduceLeDiff, Nat.reduceEqDiff, Nat.reduceAdd, Nat.reduceMul, Nat.reduceSub, Nat.reduceBEq, Int.reduceLT, Int.reduceLE, Int.reduceEq, Int.reduceBEq, Int.reduceNeg]
            repeat' (first | with_reducible apply And.intro | with_reducible intro _ | with_reducible exact drawn (by kernel_rfl) | omega)
          · rw [if_neg h4] at hsp
            simp -dsimp -implicitDefEqProofs only [hA, e', hsp, List.length_map, go_sem, ↓reduceIte, reduceCtorEq, Nat.reduceLT, Nat.reduceLeDiff, Nat.reduceEqDiff, Nat.reduceAdd, Nat.reduceMul, Nat.reduceSub, Nat.reduceBEq, Int.reduceLT, Int.reduceLE, Int.reduceEq, Int.reduceBEq, Int.reduceNeg]
            repeat' (first | with_reducible apply And.intro | with_reducible intro _ | with_reducible exact drawn (by kernel_rfl) | omega)
    | some s =>
      obtain ⟨hos, hmem, hk, hW⟩ := onS_ok hok ho
      have hbs := okS_bounds hos
      have hw : IntKind.i64.wrap (s.M + 1) = s.M + 1 := by rw [wrap64] <;> omega
      have hL' : leftV l x.M x.W account rule now = max 0 (x.M - s.M) := by simp only [leftV, if_neg h0, ho]
      simp -dsimp -implicitDefEqProofs only [hw, go_sem, ↓reduceIte, reduceCtorEq, Nat.reduceLT, Nat.reduceLeDiff, Nat.reduceEqDiff, Nat.reduceAdd, Nat.reduceMul, Nat.reduceSub, Nat.reduceBEq, Int.reduceLT, Int.reduceLE, Int.reduceEq, Int.reduceBEq, Int.reduceNeg]
      refine ⟨fun h1 => ?_, fun h1 => callP (rfind_ok l rule account (by omega)) ?_⟩
      · have : spendV l x.M x.W account rule now = ([], 170) := by
          rw [spendV, if_neg h0, hL', if_pos (by omega)]
        simp [this]
      rcases find_split (p := keyB account rule) l with ⟨_, h⟩ | ⟨j, y, hj, hy, hky, hfy⟩
      · simp [onS, h] at ho
      have hys : y = s := by simp only [onS, hfy] at ho; split at ho <;> simp_all
      subst hys
      have hL : leftV l x.M x.W account rule now ≠ 0 := by rw [hL']; omega
      obtain ⟨bS, hS⟩ : ∃ k, k = y.S := ⟨_, rfl⟩
      obtain ⟨bM, hB⟩ : ∃ k : Int, k = y.M + 1 := ⟨_, rfl⟩
      obtain ⟨b, hb⟩ : ∃ b : Sp, b = ⟨account, rule, bS, bM⟩ := ⟨_, rfl⟩
      have hbe : b = begun l x.W account rule now := by rw [hb, begun, ho, hS, hB]
      have hy0 : 0 < y.M := by omega
      simp -dsimp -implicitDefEqProofs only [hw, hj, hy, forall_eq', hy0, go_sem, ↓reduceIte, reduceCtorEq, Nat.reduceLT, Nat.reduceLeDiff, Nat.reduceEqDiff, Nat.reduceAdd, Nat.reduceMul, Nat.reduceSub, Nat.reduceBEq, Int.reduceLT, Int.reduceLE, Int.reduceEq, Int.reduceBEq, Int.reduceNeg]
      have hjl := (List.getElem?_eq_some_iff.1 hy).1
      refine ⟨by omega, hjl, ?_⟩
      refine vforT sitOk 400 16 (ι := RsInv l) (fun v => ⟨128, [(18, aI v.i), (17, aB (!allR b v.i l)), (16, aO 400), (15, aI kx), (14, aP 256 0), (0, aD (spsD l)), (3, aI account), (2, aI rule)],
          [(256, some (.var [cI account, cI rule, cI bS, cI bM] true)), (400, some (.row 4 40 ((outR b v.i l).map Sp.cells) true))], 401⟩) (fun v => l.length - v.i) ⟨0, by omega⟩ ?_ ?_
      · simp -dsimp -implicitDefEqProofs only [hS, hB, hkx, idxV, go_sem, ↓reduceIte, reduceCtorEq, Nat.reduceLT, Nat.reduceLeDiff, Nat.reduceEqDiff, Nat.reduceAdd, Nat.reduceMul, Nat.reduceSub, Nat.reduceBEq, Int.reduceLT, Int.reduceLE, Int.reduceEq, Int.reduceBEq, Int.reduceNeg]
        simp [allR, outR, hS, hB, hj]
      intro ⟨i, hi⟩
      have hA0 : b.A = account := by rw [hb]
      have hR0 : b.R = rule := by rw [hb]
      have hln := outR_len b i l
      by_cases hil : i < l.length
      · obtain ⟨y, hy⟩ : ∃ y, l[i]? = some y := ⟨l[i], List.getElem?_eq_getElem hil⟩
        have hwi := wrapS hil (by omega)
        have hkk := idxV_key (a := account) (r := rule) hri hy
        rw [← hkx] at hkk
        have hci := cmpS_iff (a := account) (r := rule) (y := y)
        cases hA : allR b i l with
        | true =>
          by_cases hc : cmpS account rule y < 0
          · obtain ⟨e1, e2⟩ := allR_ahead hy hA (by rw [hA0, hR0]; exact hc)
            have hk0 := cmpS_key hc
            have hne : ¬ (i : Int) = kx := fun e => by rw [hkk.1 e] at hk0; cases hk0
            have hc' := hci.1 hc
            simp -dsimp -implicitDefEqProofs only [hA, hy, forall_eq', go_sem, ↓reduceIte, reduceCtorEq, Nat.reduceLT, Nat.reduceLeDiff, Nat.reduceEqDiff, Nat.reduceAdd, Nat.reduceMul, Nat.reduceSub, Nat.reduceBEq, Int.reduceLT, Int.reduceLE, Int.reduceEq, Int.reduceBEq, Int.reduceNeg]
            repeat' (first | with_reducible apply And.intro | with_reducible intro _ | with_reducible exact drawn (by kernel_rfl) | omega)
            all_goals
              refine againT 400 16 ⟨i + 1, by omega⟩ (by simp; omega) ?_
              simp -dsimp -implicitDefEqProofs only [hwi, hA, e1, e2, List.map_append, List.map_cons, List.map_nil, Sp.cells, go_sem, ↓reduceIte, reduceCtorEq, Nat.reduceLT, Nat.reduceLeDiff, Nat.reduceEqDiff, Nat.reduceAdd, Nat.reduceMul, Nat.reduceSub, Nat.reduceBEq, Int.reduceLT, Int.reduceLE, Int.reduceEq, Int.reduceBEq, Int.reduceNeg]
          · obtain ⟨e1, e2⟩ := allR_first hy hA (by rw [hA0, hR0]; exact hc)
            rw [hA0, hR0] at e2
            have e2k : (i : Int) = kx → outR b (i + 1) l = outR b i l ++ [⟨account, rule, bS, bM⟩] := fun e => by rw [e2, if_pos (hkk.1 e), hb]
            have e2n : ¬ (i : Int) = kx → outR b (i + 1) l = outR b i l ++ [⟨account, rule, bS, bM⟩, y] := fun e => by rw [e2, if_neg fun h => e (hkk.2 h), hb]
            have hc' : ¬ (y.A < account ∨ (y.A = account ∧ y.R < rule)) := fun e => hc (hci.2 e)
            simp -dsimp -implicitDefEqProofs only [hA, hy, forall_eq', go_sem, ↓reduceIte, reduceCtorEq, Nat.reduceLT, Nat.reduceLeDiff, Nat.reduceEqDiff, Nat.reduceAdd, Nat.reduceMul, Nat.reduceSub, Nat.reduceBEq, Int.reduceLT, Int.reduceLE, Int.reduceEq, Int.reduceBEq, Int.reduceNeg]
            repeat' (first | with_reducible apply And.intro | with_reducible intro _ | with_reducible exact drawn (by kernel_rfl) | omega)
            all_goals first
              | (simp only [List.length_append, List.length_map, List.length_cons, List.length_nil]; omega)
              | (rename_i hik
                 refine againT 400 16 ⟨i + 1, by omega⟩ (by simp; omega) ?_
                 have e3 := e2k hik
                 simp -dsimp -implicitDefEqProofs only [hwi, hA, e1, e3, List.map_append, List.map_cons, List.map_nil, Sp.cells, List.append_assoc, List.cons_append, List.nil_append, go_sem, ↓reduceIte, reduceCtorEq, Nat.reduceLT, Nat.reduceLeDiff, Nat.reduceEqDiff, Nat.reduceAdd, Nat.reduceMul, Nat.reduceSub, Nat.reduceBEq, Int.reduceLT, Int.reduceLE, Int.reduceEq, Int.reduceBEq, Int.reduceNeg])
              | (rename_i hik
                 refine againT 400 16 ⟨i + 1, by omega⟩ (by simp; omega) ?_
                 have e3 := e2n hik
                 simp -dsimp -implicitDefEqProofs only [hwi, hA, e1, e3, List.map_append, List.map_cons, List.map_nil, Sp.cells, List.append_assoc, List.cons_append, List.nil_append, go_sem, ↓reduceIte, reduceCtorEq, Nat.reduceLT, Nat.reduceLeDiff, Nat.reduceEqDiff, Nat.reduceAdd, Nat.reduceMul, Nat.reduceSub, Nat.reduceBEq, Int.reduceLT, Int.reduceLE, Int.reduceEq, Int.reduceBEq, Int.reduceNeg])
        | false =>
          obtain ⟨hc, e1, e2⟩ := allR_later hri hy hA
          rw [hA0, hR0] at e2 hc
          have e2k : (i : Int) = kx → outR b (i + 1) l = outR b i l := fun e => by rw [e2, if_pos (hkk.1 e), List.append_nil]
          have e2n : ¬ (i : Int) = kx → outR b (i + 1) l = outR b i l ++ [y] := fun e => by rw [e2, if_neg fun h => e (hkk.2 h)]
          have hc' : ¬ (y.A < account ∨ (y.A = account ∧ y.R < rule)) := fun e => hc (hci.2 e)
          simp -dsimp -implicitDefEqProofs only [hA, hy, forall_eq', go_sem, ↓reduceIte, reduceCtorEq, Nat.reduceLT, Nat.reduceLeDiff, Nat.reduceEqDiff, Nat.reduceAdd, Nat.reduceMul, Nat.reduceSub, Nat.reduceBEq, Int.reduceLT, Int.reduceLE, Int.reduceEq, Int.reduceBEq, Int.reduceNeg]
          repeat' (first | with_reducible apply And.intro | with_reducible intro _ | with_reducible exact drawn (by kernel_rfl) | omega)
          all_goals first
            | (simp only [List.length_append, List.length_map, List.length_cons, List.length_nil]; omega)
            | (rename_i hik
               refine againT 400 16 ⟨i + 1, by omega⟩ (by simp; omega) ?_
               have e3 := e2k hik
               simp -dsimp -implicitDefEqProofs only [hwi, hA, e1, e3, List.map_append, List.map_cons, List.map_nil, Sp.cells, List.append_assoc, List.cons_append, List.nil_append, go_sem, ↓reduceIte, reduceCtorEq, Nat.reduceLT, Nat.reduceLeDiff, Nat.reduceEqDiff, Nat.reduceAdd, Nat.reduceMul, Nat.reduceSub, Nat.reduceBEq, Int.reduceLT, Int.reduceLE, Int.reduceEq, Int.reduceBEq, Int.reduceNeg])
            | (rename_i hik
               refine againT 400 16 ⟨i + 1, by omega⟩ (by simp; omega) ?_
               have e3 := e2n hik
               simp -dsimp -implicitDefEqProofs only [hwi, hA, e1, e3, List.map_append, List.map_cons, List.map_nil, Sp.cells, List.append_assoc, List.cons_append, List.nil_append, go_sem, ↓reduceIte, reduceCtorEq, Nat.reduceLT, Nat.reduceLeDiff, Nat.reduceEqDiff, Nat.reduceAdd, Nat.reduceMul, Nat.reduceSub, Nat.reduceBEq, Int.reduceLT, Int.reduceLE, Int.reduceEq, Int.reduceBEq, Int.reduceNeg])
      · have hi' : i = l.length := by omega
        subst hi'
        have hsp := spendV_put h0 hL hbe
        cases hA : allR b l.length l with
        | true =>
          have e' : (outR b l.length l).map Sp.cells ++ [[dI account, dI rule, dI bS, dI bM]] = (put b l).map Sp.cells := by rw [← (outR_end hri).1 hA, List.map_append, hb]; rfl
          by_cases h4 : 1024 < (put b l).length
          · rw [if_pos h4] at hsp
            simp -dsimp -implicitDefEqProofs only [hA, e', hsp, List.length_map, go_sem, ↓reduceIte, reduceCtorEq, Nat.reduceLT, Nat.reduceLeDiff, Nat.reduceEqDiff, Nat.reduceAdd, Nat.reduceMul, Nat.reduceSub, Nat.reduceBEq, Int.reduceLT, Int.reduceLE, Int.reduceEq, Int.reduceBEq, Int.reduceNeg]
            repeat' (first | with_reducible apply And.intro | with_reducible intro _ | with_reducible exact drawn (by kernel_rfl) | omega)
          · rw [if_neg h4] at hsp
            simp -dsimp -implicitDefEqProofs only [hA, e', hsp, List.length_map, go_sem, ↓reduceIte, reduceCtorEq, Nat.reduceLT, Nat.reduceLeDiff, Nat.reduceEqDiff, Nat.reduceAdd, Nat.reduceMul, Nat.reduceSub, Nat.reduceBEq, Int.reduceLT, Int.reduceLE, Int.reduceEq, Int.reduceBEq, Int.reduceNeg]
            repeat' (first | with_reducible apply And.intro | with_reducible intro _ | with_reducible exact drawn (by kernel_rfl) | omega)
        | false =>
          have e' : outR b l.length l = put b l := (outR_end hri).2 hA
          by_cases h4 : 1024 < (put b l).length
          · rw [if_pos h4] at hsp
            simp -dsimp -implicitDefEqProofs only [hA, e', hsp, List.length_map, go_sem, ↓reduceIte, reduceCtorEq, Nat.reduceLT, Nat.reduceLeDiff, Nat.reduceEqDiff, Nat.reduceAdd, Nat.reduceMul, Nat.reduceSub, Nat.reduceBEq, Int.reduceLT, Int.reduceLE, Int.reduceEq, Int.reduceBEq, Int.reduceNeg]
            repeat' (first | with_reducible apply And.intro | with_reducible intro _ | with_reducible exact drawn (by kernel_rfl) | omega)
          · rw [if_neg h4] at hsp
            simp -dsimp -implicitDefEqProofs only [hA, e', hsp, List.length_map, go_sem, ↓reduceIte, reduceCtorEq, Nat.reduceLT, Nat.reduceLeDiff, Nat.reduceEqDiff, Nat.reduceAdd, Nat.reduceMul, Nat.reduceSub, Nat.reduceBEq, Int.reduceLT, Int.reduceLE, Int.reduceEq, Int.reduceBEq, Int.reduceNeg]
            repeat' (first | with_reducible apply And.intro | with_reducible intro _ | with_reducible exact drawn (by kernel_rfl) | omega)
end Go.Proofs.Ytfidbkmogileiaa
