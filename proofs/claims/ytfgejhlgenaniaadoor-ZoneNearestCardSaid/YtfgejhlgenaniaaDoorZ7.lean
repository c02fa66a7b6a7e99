/- The library's functions on lists of records; Put and Drop. -/
import Derived.Test.YtfgejhlgenaniaaDoorZ6
namespace Go.Proofs.YtfgejhlgenaniaaDoor
open Go.Eng
set_option linter.unusedSimpArgs false
set_option maxRecDepth 10000

theorem u64_wrap {n : Int} (h1 : 0 ≤ n) (h2 : n ≤ 9223372036854775807) : IntKind.u64.wrap n = n := by
  simp [IntKind.wrap, IntKind.signed, IntKind.bits]
  omega

/-- Where the binary search ends. -/
def bs {α : Type} (c : α → Int) (l : List α) (lo hi : Nat) : Nat :=
  if lo < hi then match l[(lo + hi) / 2]? with
    | some x => if c x < 0 then bs c l ((lo + hi) / 2 + 1) hi else bs c l lo ((lo + hi) / 2)
    | none => lo
  else lo
termination_by hi - lo

def bsHit {α : Type} (c : α → Int) (l : List α) (i : Nat) : Bool := match l[i]? with
  | some x => c x == 0
  | none => false

structure BsInv {α : Type} (c : α → Int) (l : List α) where
  lo : Nat
  hi : Nat
  lh : lo ≤ hi
  hl : hi ≤ l.length
  eq : bs c l 0 l.length = bs c l lo hi

/-- Where the rows' compares rise, the search ends where they turn from below 0. -/
theorem bs_law {α : Type} {c : α → Int} {l : List α} (hs : ∀ (i j : Nat) (x y : α), i < j → l[i]? = some x → l[j]? = some y → c y < 0 → c x < 0) :
    ∀ (d lo hi : Nat), hi - lo = d → lo ≤ hi → hi ≤ l.length → (∀ j x, j < lo → l[j]? = some x → c x < 0) → (∀ j x, hi ≤ j → l[j]? = some x → ¬ c x < 0) →
      bs c l lo hi ≤ l.length ∧ (∀ j x, j < bs c l lo hi → l[j]? = some x → c x < 0) ∧ (∀ j x, bs c l lo hi ≤ j → l[j]? = some x → ¬ c x < 0) := by
  intro d
  induction d using Nat.strongRecOn with
  | _ d ih =>
    intro lo hi hd h1 h2 h3 h4
    by_cases hlt : lo < hi
    · obtain ⟨mid, hm⟩ : ∃ mid, (lo + hi) / 2 = mid := ⟨_, rfl⟩
      obtain ⟨x, hx⟩ : ∃ x, l[mid]? = some x := ⟨_, List.getElem?_eq_getElem (by omega)⟩
      rw [bs, if_pos hlt, hm, hx]
      simp only
      split
      · rename_i cc
        refine ih (hi - (mid + 1)) (by omega) _ _ rfl (by omega) h2 (fun j y hj hy => ?_) h4
        by_cases hjm : j = mid
        · subst hjm; rw [hx] at hy; cases hy; exact cc
        · exact hs j mid y x (by omega) hy hx cc
      · rename_i cc
        refine ih (mid - lo) (by omega) _ _ rfl (by omega) (by omega) h3 (fun j y hj hy => ?_)
        by_cases hjm : j = mid
        · subst hjm; rw [hx] at hy; cases hy; exact cc
        · exact fun hc => cc (hs mid j x y (by omega) hx hy hc)
    · rw [bs, if_neg hlt]
      exact ⟨by omega, h3, fun j y hj hy => h4 j y (by omega) hy⟩
theorem bs_whole {α : Type} {c : α → Int} {l : List α} (hs : ∀ (i j : Nat) (x y : α), i < j → l[i]? = some x → l[j]? = some y → c y < 0 → c x < 0) :
    bs c l 0 l.length ≤ l.length ∧ (∀ j x, j < bs c l 0 l.length → l[j]? = some x → c x < 0) ∧ (∀ j x, bs c l 0 l.length ≤ j → l[j]? = some x → ¬ c x < 0) :=
  bs_law hs l.length 0 l.length (by omega) (by omega) (Nat.le_refl _) (fun j x hj _ => by omega) (fun j x hj hx => by have := (List.getElem?_eq_some_iff.1 hx).1; omega)

theorem clone_ok (rows : List (List D)) (hl : rows.length ≤ 1000000) :
    Meets Tryd.prog 53 [(false, [vD (.vec 4 rows)])] (rOne (.own 4 39 rows)) := by
  refine meets Tryd.func53 rfl rfl Tryd.ntmps53 Tryd.results53 rfl ?_
  simp -dsimp -implicitDefEqProofs only [go_sem, ↓reduceIte, reduceCtorEq, Nat.reduceLT, Nat.reduceLeDiff, Nat.reduceEqDiff, Nat.reduceAdd, Nat.reduceMul, Nat.reduceSub, Nat.reduceBEq, Int.reduceLT, Int.reduceLE, Int.reduceEq, Int.reduceBEq, Int.reduceNeg]
  exact fun b hb => ⟨fun h => Classical.byContradiction fun hn => absurd ((hb hn).symm.trans h) (by simp), fun _ => ⟨by omega, by omega⟩⟩

/-- slices.BinarySearchFunc, whatever compares. (bsearch) -/
theorem bsearch_ok (l : List Rec) (hl : l.length ≤ 1000000) (r : Rec) (f : FuncId) (c : Rec → Int)
    (hp : ∀ x ∈ l, Meets Tryd.prog f ((true, x.cells.map .d) :: [(true, [vS r.N, vI r.K, vS r.V, vI r.L])]) (rOne (vI (c x)))) :
    Meets Tryd.prog 54 [(false, [vD (.vec 4 (l.map Rec.cells))]), (true, [vS r.N, vI r.K, vS r.V, vI r.L]), (false, [vD (.fn f [])])] (rTup [(false, [vI (bs c l 0 l.length : Nat)]), (false, [vB (bsHit c l (bs c l 0 l.length))])]) := by
  refine meets Tryd.func54 rfl rfl Tryd.ntmps54 Tryd.results54 rfl ?_
  simp -dsimp -implicitDefEqProofs only [go_sem, ↓reduceIte, reduceCtorEq, Nat.reduceLT, Nat.reduceLeDiff, Nat.reduceEqDiff, Nat.reduceAdd, Nat.reduceMul, Nat.reduceSub, Nat.reduceBEq, Int.reduceLT, Int.reduceLE, Int.reduceEq, Int.reduceBEq, Int.reduceNeg]
  refine vfor sitOk (ι := BsInv c l) (fun v => ⟨49, [(10, aI v.hi), (9, aI v.lo), (8, aI l.length), (7, aB false), (6, aI 0), (0, aD (.vec 4 (l.map Rec.cells))), (4, aP 0 0), (1, .cs true [cS r.N, cI r.K, cS r.V, cI r.L]), (2, aD (.fn f []))], [(0, some (.var [cS r.N, cI r.K, cS r.V, cI r.L] true))], 1⟩) (fun v => v.hi - v.lo) ⟨0, l.length, by omega, by omega, rfl⟩ ?_ ?_
  · simp -dsimp -implicitDefEqProofs only [go_sem, ↓reduceIte, reduceCtorEq, Nat.reduceLT, Nat.reduceLeDiff, Nat.reduceEqDiff, Nat.reduceAdd, Nat.reduceMul, Nat.reduceSub, Nat.reduceBEq, Int.reduceLT, Int.reduceLE, Int.reduceEq, Int.reduceBEq, Int.reduceNeg]
  intro ⟨lo, hi, hlh, hhl, hbs⟩
  obtain ⟨mid, hmid⟩ : ∃ mid, (lo + hi) / 2 = mid := ⟨_, rfl⟩
  have hw0 : IntKind.i64.wrap ((lo : Int) + (hi : Int)) = ((lo + hi : Nat) : Int) := by rw [wrap64] <;> omega
  have hw1 : IntKind.u64.wrap ((lo + hi : Nat) : Int) = ((lo + hi : Nat) : Int) := by rw [u64_wrap] <;> omega
  have hw2 : Int.fdiv ((lo + hi : Nat) : Int) (2 ^ (min (Int.toNat 1) 64)) = (mid : Int) := by
    show Int.fdiv ((lo + hi : Nat) : Int) 2 = _
    rw [Int.fdiv_eq_ediv_of_nonneg _ (by omega)]; omega
  have hw3 : IntKind.i64.wrap (mid : Int) = (mid : Int) := by rw [wrap64] <;> omega
  have hw4 : IntKind.i64.wrap ((mid : Int) + 1) = ((mid + 1 : Nat) : Int) := by rw [wrap64] <;> omega
  simp -dsimp -implicitDefEqProofs only [hw0, hw1, hw2, hw3, go_sem, ↓reduceIte, reduceCtorEq, Nat.reduceLT, Nat.reduceLeDiff, Nat.reduceEqDiff, Nat.reduceAdd, Nat.reduceMul, Nat.reduceSub, Nat.reduceBEq, Int.reduceLT, Int.reduceLE, Int.reduceEq, Int.reduceBEq, Int.reduceNeg]
  refine ⟨fun hlt => ⟨by omega, by omega, fun x hx => callP (hp x (List.mem_of_getElem? hx)) ?_⟩, fun hge => ⟨fun hin => ⟨by omega, by omega, fun x hx => callP (hp x (List.mem_of_getElem? hx)) ?_⟩, fun hout => ?_⟩⟩
  · simp -dsimp -implicitDefEqProofs only [hw4, go_sem, ↓reduceIte, reduceCtorEq, Nat.reduceLT, Nat.reduceLeDiff, Nat.reduceEqDiff, Nat.reduceAdd, Nat.reduceMul, Nat.reduceSub, Nat.reduceBEq, Int.reduceLT, Int.reduceLE, Int.reduceEq, Int.reduceBEq, Int.reduceNeg]
    refine ⟨drawn (by kernel_rfl),⟨fun c1 => ?_, fun c1 => ?_⟩⟩
    · refine again ⟨mid + 1, hi, by omega, by omega, by rw [hbs, bs, if_pos (by omega), hmid, hx]; simp [c1]⟩ (by simp; omega) ?_
      simp -dsimp -implicitDefEqProofs only [go_sem, ↓reduceIte, reduceCtorEq, Nat.reduceLT, Nat.reduceLeDiff, Nat.reduceEqDiff, Nat.reduceAdd, Nat.reduceMul, Nat.reduceSub, Nat.reduceBEq, Int.reduceLT, Int.reduceLE, Int.reduceEq, Int.reduceBEq, Int.reduceNeg]
    · have c1' : ¬ c x < 0 := by omega
      refine again ⟨lo, mid, by omega, by omega, by rw [hbs, bs, if_pos (by omega), hmid, hx]; simp [c1']⟩ (by simp; omega) ?_
      simp -dsimp -implicitDefEqProofs only [go_sem, ↓reduceIte, reduceCtorEq, Nat.reduceLT, Nat.reduceLeDiff, Nat.reduceEqDiff, Nat.reduceAdd, Nat.reduceMul, Nat.reduceSub, Nat.reduceBEq, Int.reduceLT, Int.reduceLE, Int.reduceEq, Int.reduceBEq, Int.reduceNeg]
  · have hend : bs c l 0 l.length = lo := by rw [hbs, bs, if_neg (by omega)]
    simp -dsimp -implicitDefEqProofs only [go_sem, ↓reduceIte, reduceCtorEq, Nat.reduceLT, Nat.reduceLeDiff, Nat.reduceEqDiff, Nat.reduceAdd, Nat.reduceMul, Nat.reduceSub, Nat.reduceBEq, Int.reduceLT, Int.reduceLE, Int.reduceEq, Int.reduceBEq, Int.reduceNeg]
    refine ⟨drawn (by kernel_rfl), ?_⟩
    simp [hend, bsHit, hx]
  · have hend : bs c l 0 l.length = lo := by rw [hbs, bs, if_neg (by omega)]
    have hx : l[lo]? = none := List.getElem?_eq_none (by omega)
    refine ⟨drawn (by kernel_rfl), ?_⟩
    simp [hend, bsHit, hx]

theorem ins_room {α : Type} (R rows : List α) (x : α) (i : Nat) (e1 : R.take rows.length = rows) (hi : i ≤ rows.length) (hr : rows.length + 1 ≤ R.length) :
    (splice (splice R (i + 1) (rows.drop i)) i [x]).take (rows.length + 1) = rows.take i ++ x :: rows.drop i := by
  have e2 : R.take i = rows.take i := by
    have : (R.take rows.length).take i = rows.take i := by rw [e1]
    rwa [List.take_take, Nat.min_eq_left hi] at this
  have e3 : (R.take (i + 1)).length = i + 1 := by rw [List.length_take]; omega
  obtain ⟨rest, hrest⟩ : ∃ rest, rest = R.drop (i + 1 + (rows.drop i).length) := ⟨_, rfl⟩
  have e4 : splice R (i + 1) (rows.drop i) = R.take (i + 1) ++ (rows.drop i ++ rest) := by simp [splice, hrest]
  have e5 : (R.take (i + 1) ++ (rows.drop i ++ rest)).take i = rows.take i := by
    rw [List.take_append_of_le_length (by omega), List.take_take, Nat.min_eq_left (by omega), e2]
  have e6 : (R.take (i + 1) ++ (rows.drop i ++ rest)).drop (i + 1) = rows.drop i ++ rest := List.drop_left' e3
  rw [e4]
  simp only [splice, e5, List.length_cons, List.length_nil, Nat.zero_add, e6]
  have e7 : rows.take i ++ [x] ++ (rows.drop i ++ rest) = (rows.take i ++ x :: rows.drop i) ++ rest := by simp
  rw [e7, List.take_left']
  simp; omega
theorem ins_new {α : Type} (R rows : List α) (x z : α) (i : Nat) (e1 : R.take rows.length = rows) (hi : i ≤ rows.length) :
    splice (splice (R.take i ++ List.replicate (rows.length + 1 - i) z) i [x]) (i + 1) (rows.drop i) = rows.take i ++ x :: rows.drop i := by
  have e2 : R.take i = rows.take i := by
    have : (R.take rows.length).take i = rows.take i := by rw [e1]
    rwa [List.take_take, Nat.min_eq_left hi] at this
  have e3 : (rows.take i).length = i := by rw [List.length_take]; omega
  rw [e2]
  obtain ⟨m, hm⟩ : ∃ m, rows.length + 1 - i = m + 1 := ⟨rows.length - i, by omega⟩
  rw [hm, List.replicate_succ]
  have e4 : splice (rows.take i ++ z :: List.replicate m z) i [x] = (rows.take i ++ [x]) ++ List.replicate m z := by
    simp only [splice, List.length_cons, List.length_nil, Nat.zero_add]
    rw [List.take_left' e3, show rows.take i ++ z :: List.replicate m z = (rows.take i ++ [z]) ++ List.replicate m z by simp, List.drop_left' (by simp; omega)]
  have e5 : (rows.take i ++ [x] ++ List.replicate m z).take (i + 1) = rows.take i ++ [x] := List.take_left' (by rw [List.length_append, e3]; rfl)
  have e6 : (rows.take i ++ [x] ++ List.replicate m z).drop (i + 1 + (rows.drop i).length) = [] := List.drop_eq_nil_of_le (by
    rw [List.length_append, List.length_append, e3, List.length_replicate, List.length_drop, List.length_singleton]; omega)
  rw [e4]
  simp only [splice]
  rw [e5, e6]
  simp
theorem ins_end {α : Type} (R rows : List α) (x : α) (e1 : R.take rows.length = rows) (hr : rows.length ≤ R.length) : (splice R rows.length [x]).take (rows.length + 1) = rows ++ [x] := by
  have h := take_splice2 R [x] rows.length hr
  rw [e1] at h
  exact h

/-- slices.Insert of one. (insert) -/
theorem insert_ok (rows : List (List D)) (x : List D) (i : Nat) (hi : i ≤ rows.length) (hl : rows.length ≤ 1000000) :
    Meets Tryd.prog 56 [(false, [.own 4 39 rows]), (false, [vI i]), (false, [.own 4 39 [x]])] (rOne (.own 4 39 (rows.take i ++ x :: rows.drop i))) := by
  refine meetsA Tryd.func56 rfl rfl Tryd.ntmps56 Tryd.results56 rfl ?_
  refine awp_spread 0 0 [(1, aI i), (2, aO 1)] [(1, some (.row 4 39 [x] true))] (Nat.zero_le _) rfl rfl ?_ ?_ fun junk hj => awp_vc sitOk ?_
  · simp -dsimp -implicitDefEqProofs only [resComps, go_sem, ↓reduceIte, reduceCtorEq, Nat.reduceLT, Nat.reduceLeDiff, Nat.reduceEqDiff, Nat.reduceAdd, Nat.reduceMul, Nat.reduceSub, Nat.reduceBEq, Int.reduceLT, Int.reduceLE, Int.reduceEq, Int.reduceBEq, Int.reduceNeg]
  · simp -dsimp -implicitDefEqProofs only [resComps, go_sem, ↓reduceIte, reduceCtorEq, Nat.reduceLT, Nat.reduceLeDiff, Nat.reduceEqDiff, Nat.reduceAdd, Nat.reduceMul, Nat.reduceSub, Nat.reduceBEq, Int.reduceLT, Int.reduceLE, Int.reduceEq, Int.reduceBEq, Int.reduceNeg]
  obtain ⟨R, hR⟩ : ∃ R, R = rows ++ junk := ⟨_, rfl⟩
  have e1 : R.take rows.length = rows := by rw [hR, List.take_left']; rfl
  have e0 : rows.length ≤ R.length := by rw [hR]; simp
  rw [← hR]
  clear hR hj
  have hw1 : IntKind.i64.wrap ((rows.length : Int) + 1) = ((rows.length + 1 : Nat) : Int) := by rw [wrap64] <;> omega
  have hw2 : IntKind.i64.wrap (((rows.length + 1 : Nat) : Int) - i) = ((rows.length + 1 - i : Nat) : Int) := by rw [wrap64] <;> omega
  have hw3 : IntKind.i64.wrap ((i : Int) + 1) = ((i + 1 : Nat) : Int) := by rw [wrap64] <;> omega
  have hc1 : (0 : Int) ≤ ((rows.length + 1 - i : Nat) : Int) := by omega
  have hc2 : ((rows.length + 1 - i : Nat) : Int) ≤ 9223372036854775807 := by omega
  have e2 : (R.take i).length = i := by rw [List.length_take]; omega
  have e3 : i + (rows.length + 1 - i) = rows.length + 1 := by omega
  have e4 : rows.length + 1 - i - 0 = rows.length + 1 - i := by omega
  have e5 : min 1 (rows.length + 1 - i) = 1 := by omega
  have e6 : ∀ z : List D, (splice (R.take i ++ List.replicate (rows.length + 1 - i) z) i [x]).length = rows.length + 1 := fun z => by
    have h : (R.take i ++ List.replicate (rows.length + 1 - i) z).length = rows.length + 1 := by rw [List.length_append, e2, List.length_replicate]; omega
    rw [splice_len (by rw [h, List.length_singleton]; omega), h]
  have e7 : i + (rows.length - i) = rows.length := by omega
  have e8 : (R.drop i).take (rows.length - i) = rows.drop i := by
    have : (R.take rows.length).drop i = rows.drop i := by rw [e1]
    rw [← this, List.drop_take]
  have e9 : rows.length + 1 - (i + 1) = rows.length - i := by omega
  have e10 : (rows.drop i).length = rows.length - i := by simp
  have e11 : (rows.drop i).take (rows.length - i) = rows.drop i := List.take_of_length_le (by simp)
  have e12 : i + 1 + (rows.length - i) = rows.length + 1 := by omega
  have e13 : ((R.drop i).take (rows.length + 1 - i)).take (rows.length - i) = rows.drop i := by rw [List.take_take, Nat.min_eq_left (by omega), e8]
  have e14 : min (rows.length + 1 - i) (rows.length - i) = rows.length - i := by omega
  have e15 : rows.length + 1 - i + i = rows.length + 1 := by omega
  have e16 : i + (rows.length + 1 - i) - i = rows.length + 1 - i := by omega
  have hend : (i : Int) = (rows.length : Int) → rows.take i ++ x :: rows.drop i = rows ++ [x] := fun h => by
    have : i = rows.length := by omega
    subst this
    simp
  by_cases hroom : rows.length + 1 ≤ R.length
  · have e17 : ((R.drop i).take (rows.length + 1 - i)).length = rows.length + 1 - i := by simp; omega
    have hl1 : (splice R (i + 1) (rows.drop i)).length = R.length := splice_len (by simp; omega)
    simp -dsimp -implicitDefEqProofs only [e0, e1, hw1, hw2, hw3, hc1, hc2, e2, e3, e4, e5, e6, e7, e8, e9, e10, e11, e12, e13, e14, e16, Nat.min_self, List.length_replicate, List.length_append, hroom, e17, go_sem, ↓reduceIte, reduceCtorEq, Nat.reduceLT, Nat.reduceLeDiff, Nat.reduceEqDiff, Nat.reduceAdd, Nat.reduceMul, Nat.reduceSub, Nat.reduceBEq, Int.reduceLT, Int.reduceLE, Int.reduceEq, Int.reduceBEq, Int.reduceNeg]
    repeat' (first | with_reducible apply And.intro | with_reducible intro _ | with_reducible exact drawn (by kernel_rfl) | omega)
    · rw [splice_len (by rw [List.length_singleton]; omega)]; exact hroom
    · rename_i h
      rw [hend h, ins_end R rows x e1 e0]
    · rw [splice_len (by rw [List.length_singleton, hl1]; omega), hl1]; exact hroom
    · exact (ins_room R rows x i e1 hi hroom).symm
  · simp -dsimp -implicitDefEqProofs only [e0, e1, hw1, hw2, hw3, hc1, hc2, e2, e3, e4, e5, e6, e7, e8, e9, e10, e11, e12, e13, e14, e16, Nat.min_self, List.length_replicate, List.length_append, hroom, go_sem, ↓reduceIte, reduceCtorEq, Nat.reduceLT, Nat.reduceLeDiff, Nat.reduceEqDiff, Nat.reduceAdd, Nat.reduceMul, Nat.reduceSub, Nat.reduceBEq, Int.reduceLT, Int.reduceLE, Int.reduceEq, Int.reduceBEq, Int.reduceNeg]
    repeat' (first | with_reducible apply And.intro | with_reducible intro _ | with_reducible exact drawn (by kernel_rfl) | omega)
    · rename_i h
      exact (hend h).symm
    · exact ins_new R rows x _ i e1 hi

/-- slices.Delete of one. (delete) -/
theorem delete_ok (rows : List (List D)) (i j : Nat) (hj : j = i + 1) (hi : i < rows.length) (hl : rows.length ≤ 1000000) :
    Meets Tryd.prog 62 [(false, [.own 4 39 rows]), (false, [vI i]), (false, [vI j])] (rOne (.own 4 39 (rows.take i ++ rows.drop (i + 1)))) := by
  obtain ⟨n, hn⟩ : ∃ n, rows.length = n := ⟨_, rfl⟩
  obtain ⟨m, hm⟩ : ∃ m, m + 1 = n := ⟨n - 1, by omega⟩
  have e1 : (rows.drop j).take (n - j) = rows.drop j := List.take_of_length_le (by simp [hn])
  have e2 : (rows.drop j).length = n - j := by simp [hn]
  have e3 : i + (n - j) = m := by omega
  have e4 : (splice rows i (rows.drop j)).length = n := by rw [splice_len (by rw [e2]; omega), hn]
  have e5 : (splice rows i (rows.drop j)).take m = rows.take i ++ rows.drop j := by
    have := take_splice2 rows (rows.drop j) i (by omega)
    rwa [e2, e3] at this
  have e6 : (rows.take i ++ rows.drop j).length = m := by rw [List.length_append, List.length_take, e2]; omega
  have e7 : ∀ z : List D, (splice (splice rows i (rows.drop j)) m (List.replicate (n - m) z)).length = n := fun z => by
    rw [splice_len (by rw [List.length_replicate, e4]; omega), e4]
  have e8 : ∀ z : List D, (splice (splice rows i (rows.drop j)) m (List.replicate (n - m) z)).take m = rows.take i ++ rows.drop j := fun z => by
    rw [take_splice _ _ _ (by rw [e4]; omega), e5]
  have h0 : ¬ ((i : Int) = 0 ∧ (n : Int) = 0 ∧ (j : Int) = 0) := by omega
  have h1 : ¬ (i : Int) = (j : Int) := by omega
  have h2 : j + (n - j) = n := by omega
  have h3 : m + (n - m) = n := by omega
  have h4 : (0 : Int) + (n : Int) = n := by omega
  refine meets Tryd.func62 rfl rfl Tryd.ntmps62 Tryd.results62 rfl ?_
  simp -dsimp -implicitDefEqProofs only [hn, e1, e2, e3, e4, e5, e6, e7, e8, h0, h1, h2, h3, h4, go_sem, ↓reduceIte, reduceCtorEq, Nat.reduceLT, Nat.reduceLeDiff, Nat.reduceEqDiff, Nat.reduceAdd, Nat.reduceMul, Nat.reduceSub, Nat.reduceBEq, Int.reduceLT, Int.reduceLE, Int.reduceEq, Int.reduceBEq, Int.reduceNeg]
  refine ⟨by omega, by omega, by omega, by omega, drawn (by kernel_rfl), by omega, by omega, by omega, by omega, ?_⟩
  rw [hj]
end Go.Proofs.YtfgejhlgenaniaaDoor
