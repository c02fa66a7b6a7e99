/- BudgetBound: no window grants more than its measure. -/
import Derived.Test.YtfidbkmogileiaaB8
namespace Go.Proofs.Ytfidbkmogileiaa
open Go.Eng
set_option linter.unusedSimpArgs false
set_option maxRecDepth 10000

abbrev dU (n : Int) : D := .v (.int .u8 n)
abbrev vU (n : Int) : CV := vD (dU n)
def byCells (n : Int) : List D := [dU n]
attribute [go_sem] byCells dU vU
abbrev bysD (l : List Int) : D := .vec 1 (l.map byCells)

/-- Where the law's loop stands: the list, the time, since when, how many. -/
inductive BdOk (M W a r : Int) : List Sp → Int → Int → Int → Prop
  | no (now : Int) (h : 0 ≤ now) : BdOk M W a r [] now (-1) 0
  | on (now st cnt : Int) (h1 : 0 ≤ st) (h2 : st ≤ now) (h3 : 1 ≤ cnt) (h4 : cnt ≤ M) : BdOk M W a r [⟨a, r, st, cnt⟩] now st cnt

theorem checkV_one {x : Sp} (h : okS x = true) : checkV [x] = 0 := checkV_of (by simp [okFrom, h]) (by simp)
theorem checkV_nil : checkV [] = 0 := by simp [checkV, okFrom]

/-- A round of the law's loop: what is spent, what is left. -/
theorem bd_first {M W a r : Int} {l : List Sp} {now st cnt now' : Int} (hM : 1 ≤ M ∧ M ≤ 255) (hW : 1 ≤ W ∧ W ≤ 255) (ha : 0 ≤ a ∧ a ≤ 1099511627776) (hr : 0 ≤ r ∧ r < 32) (h : BdOk M W a r l now st cnt) (hn : now ≤ now') (hn' : now' ≤ 1000000) (hf : st < 0 ∨ W ≤ now' - st) :
    SpendV l M W r a now' = ([⟨a, r, now', 1⟩], 0) ∧ BdOk M W a r [⟨a, r, now', 1⟩] now' now' 1 ∧ LeftV [⟨a, r, now', 1⟩] M W r a now' = M - 1 := by
  have hn0 : 0 ≤ now' := by cases h <;> omega
  have hm : mayB M W r a now' = true := mayB_of ⟨by omega, by omega, by omega, hr, ha, by omega, by omega⟩
  have hM0 : M ≠ 0 := by omega
  have ok1 : okS ⟨a, r, now', 1⟩ = true := okS_of ⟨ha, hr, ⟨by simp; omega, by simp; omega⟩, by simp, by simp⟩
  have hc : checkV l = 0 := by
    cases h with
    | no => exact checkV_nil
    | on _ _ _ h1 h2 h3 h4 => exact checkV_one (okS_of ⟨ha, hr, ⟨h1, by simp; omega⟩, h3, by simp; omega⟩)
  have ho : onS l W a r now' = none := by
    cases h with
    | no => rfl
    | on _ _ _ h1 h2 h3 h4 => simp [onS, keyB]; omega
  have hb : begun l W a r now' = ⟨a, r, now', 1⟩ := by rw [begun, ho]
  have hp : put (begun l W a r now') l = [⟨a, r, now', 1⟩] := by
    rw [hb]
    cases h with
    | no => rfl
    | on => simp [put, keyB, cmpS, ordV_self]
  have hL : leftV l M W a r now' ≠ 0 := by simp only [leftV, if_neg hM0, ho]; exact hM0
  refine ⟨?_, .on _ _ _ hn0 (by omega) (by omega) (by omega), ?_⟩
  · rw [spendV_grant hc hm hM0 hL (by rw [hp]; simp), hp]
  · rw [LeftV_of (checkV_one ok1) hm]
    have : onS [⟨a, r, now', 1⟩] W a r now' = some ⟨a, r, now', 1⟩ := by simp [onS, keyB]; omega
    simp only [leftV, if_neg hM0, this]
    omega
theorem bd_more {M W a r : Int} {l : List Sp} {now st cnt now' : Int} (hM : 1 ≤ M ∧ M ≤ 255) (hW : 1 ≤ W ∧ W ≤ 255) (ha : 0 ≤ a ∧ a ≤ 1099511627776) (hr : 0 ≤ r ∧ r < 32) (h : BdOk M W a r l now st cnt) (hn : now ≤ now') (hn' : now' ≤ 1000000) (hf : ¬ (st < 0 ∨ W ≤ now' - st)) :
    l = [⟨a, r, st, cnt⟩] ∧ (cnt < M → SpendV l M W r a now' = ([⟨a, r, st, cnt + 1⟩], 0) ∧ BdOk M W a r [⟨a, r, st, cnt + 1⟩] now' st (cnt + 1) ∧ LeftV [⟨a, r, st, cnt + 1⟩] M W r a now' = M - (cnt + 1)) ∧
      (¬ cnt < M → cnt = M ∧ SpendV l M W r a now' = ([], 170) ∧ BdOk M W a r l now' st cnt ∧ LeftV l M W r a now' = M - cnt) := by
  cases h with
  | no => omega
  | on _ _ _ h1 h2 h3 h4 =>
    have hn0 : 0 ≤ now' := by omega
    have hm : mayB M W r a now' = true := mayB_of ⟨by omega, by omega, by omega, hr, ha, by omega, by omega⟩
    have hM0 : M ≠ 0 := by omega
    have onx : ∀ c : Int, onS [⟨a, r, st, c⟩] W a r now' = some ⟨a, r, st, c⟩ := fun c => by simp [onS, keyB]; omega
    have okx : ∀ c : Int, 1 ≤ c → c ≤ M → okS ⟨a, r, st, c⟩ = true := fun c e1 e2 => okS_of ⟨ha, hr, ⟨h1, by simp; omega⟩, e1, by simp; omega⟩
    have lfx : ∀ c : Int, 1 ≤ c → c ≤ M → LeftV [⟨a, r, st, c⟩] M W r a now' = M - c := fun c e1 e2 => by
      rw [LeftV_of (checkV_one (okx c e1 e2)) hm]
      simp only [leftV, if_neg hM0, onx]
      omega
    have hL : leftV [⟨a, r, st, cnt⟩] M W a r now' = max 0 (M - cnt) := by simp only [leftV, if_neg hM0, onx]
    have hc := checkV_one (okx cnt h3 h4)
    refine ⟨rfl, fun hlt => ⟨?_, .on _ _ _ h1 (by omega) (by omega) (by omega), lfx _ (by omega) (by omega)⟩, fun hge => ⟨by omega, ?_, .on _ _ _ h1 (by omega) h3 h4, lfx _ h3 h4⟩⟩
    · have hb : begun [⟨a, r, st, cnt⟩] W a r now' = ⟨a, r, st, cnt + 1⟩ := by rw [begun, onx]
      have hp : put (begun [⟨a, r, st, cnt⟩] W a r now') [⟨a, r, st, cnt⟩] = [⟨a, r, st, cnt + 1⟩] := by
        rw [hb]; simp [put, keyB, cmpS, ordV_self]
      rw [spendV_grant hc hm hM0 (by rw [hL]; omega) (by rw [hp]; simp), hp]
    · rw [SpendV, if_neg (by omega), if_neg (by simp [hm]), spendV, if_neg hM0, if_pos (by rw [hL]; omega)]

structure BdInv (M W a r : Int) (bs : List Int) where
  i : Nat
  le : i ≤ bs.length
  l : List Sp
  now : Int
  st : Int
  cnt : Int
  le2 : now ≤ 255 * (i : Int)
  ok : BdOk M W a r l now st cnt

set_option maxHeartbeats 2000000 in
theorem bound_ok (M W : Int) (bs : List Int) (a r : Int) (hM : 0 ≤ M ∧ M ≤ 255) (hW : 0 ≤ W ∧ W ≤ 255) (hbs : ∀ b ∈ bs, 0 ≤ b ∧ b ≤ 255) : Meets Try.prog 5 [(false, [vU M]), (false, [vU W]), (false, [vD (bysD bs)]), (false, [vI a]), (false, [vI r])] (rOne (vB true)) := by
  refine meets Try.func5 rfl rfl Try.ntmps5 Try.results5 rfl ?_
  simp -dsimp -implicitDefEqProofs only [go_sem, ↓reduceIte, reduceCtorEq, Nat.reduceLT, Nat.reduceLeDiff, Nat.reduceEqDiff, Nat.reduceAdd, Nat.reduceMul, Nat.reduceSub, Nat.reduceBEq, Int.reduceLT, Int.reduceLE, Int.reduceEq, Int.reduceBEq, Int.reduceNeg]
  refine callP live_ok ?_
  simp -dsimp -implicitDefEqProofs only [go_sem, ↓reduceIte, reduceCtorEq, Nat.reduceLT, Nat.reduceLeDiff, Nat.reduceEqDiff, Nat.reduceAdd, Nat.reduceMul, Nat.reduceSub, Nat.reduceBEq, Int.reduceLT, Int.reduceLE, Int.reduceEq, Int.reduceBEq, Int.reduceNeg]
  intro h60 hM0 hW0 ha1 ha2 hr1 hr2
  have ha : 0 ≤ a ∧ a ≤ 1099511627776 := ⟨ha1, ha2⟩
  have hr : 0 ≤ r ∧ r < 32 := ⟨hr1, hr2⟩
  have hwM : IntKind.i64.wrap M = M := by rw [wrap64] <;> omega
  have hwW : IntKind.i64.wrap W = W := by rw [wrap64] <;> omega
  refine vfreeze 296 rfl ?_
  refine vfor sitOk (ι := BdInv M W a r bs) (fun v => ⟨123, [(16, aI v.i), (15, aI v.cnt), (14, aI v.st), (13, aI v.now), (12, aO 296), (11, aP 280 0), (0, aD (dU M)), (1, aD (dU W)), (2, aD (bysD bs)), (3, aI a), (4, aI r)],
      [(296, some (.row 4 40 (v.l.map Sp.cells) false)), (280, some (.var [.d (.v (.string ByteArray.empty)), cB false, .nils 1, .d (.v (.int .u64 0)), cI 0, cI M, cI W] true))], 344⟩) (fun v => bs.length - v.i) ⟨0, by omega, [], 0, -1, 0, by simp, .no 0 (by omega)⟩ ?_ ?_
  · simp -dsimp -implicitDefEqProofs only [hwM, hwW, go_sem, ↓reduceIte, reduceCtorEq, Nat.reduceLT, Nat.reduceLeDiff, Nat.reduceEqDiff, Nat.reduceAdd, Nat.reduceMul, Nat.reduceSub, Nat.reduceBEq, Int.reduceLT, Int.reduceLE, Int.reduceEq, Int.reduceBEq, Int.reduceNeg]
  intro ⟨i, hi, l, now, st, cnt, hle, ok⟩
  by_cases hil : i < bs.length
  · obtain ⟨b, hb⟩ : ∃ b, bs[i]? = some b := ⟨bs[i], List.getElem?_eq_getElem hil⟩
    have hbb := hbs b (List.mem_of_getElem? hb)
    have hwi := wrapS hil (by omega)
    have hrs : -1 ≤ st ∧ st ≤ now ∧ 0 ≤ now ∧ 0 ≤ cnt ∧ cnt ≤ M ∧ l.length ≤ 1 := by cases ok <;> simp <;> omega
    have hw1 : IntKind.i64.wrap b = b := by rw [wrap64] <;> omega
    have hw2 : IntKind.i64.wrap (now + b) = now + b := by rw [wrap64] <;> omega
    have hw3 : IntKind.i64.wrap (now + b - st) = now + b - st := by rw [wrap64] <;> omega
    have hw4 : IntKind.i64.wrap (cnt + 1) = cnt + 1 := by rw [wrap64] <;> omega
    have hw5 : IntKind.i64.wrap (M - 1) = M - 1 := by rw [wrap64] <;> omega
    have hw6 : IntKind.i64.wrap (M - (cnt + 1)) = M - (cnt + 1) := by rw [wrap64] <;> omega
    have hw7 : IntKind.i64.wrap (M - cnt) = M - cnt := by rw [wrap64] <;> omega
    have hw0 : IntKind.i64.wrap (0 + 1) = 1 := by rw [wrap64] <;> omega
    have hpos : decide (0 < M) = true := decide_eq_true (by omega)
    by_cases hf : st < 0 ∨ W ≤ now + b - st
    · obtain ⟨e1, e2, e3⟩ := bd_first (by omega) (by omega) ha hr ok (by omega : now ≤ now + b) (by omega) hf
      simp -dsimp -implicitDefEqProofs only [hb, forall_eq', hw1, hw2, hw3, hwM, hwW, go_sem, ↓reduceIte, reduceCtorEq, Nat.reduceLT, Nat.reduceLeDiff, Nat.reduceEqDiff, Nat.reduceAdd, Nat.reduceMul, Nat.reduceSub, Nat.reduceBEq, Int.reduceLT, Int.reduceLE, Int.reduceEq, Int.reduceBEq, Int.reduceNeg]
      repeat' (first | with_reducible apply And.intro | with_reducible intro _ | with_reducible exact drawn (by kernel_rfl) | (refine callP (Spend_ok l ⟨_, _, _, _, _, _, _⟩ _ _ _ (by omega)) ?_; simp -dsimp -implicitDefEqProofs only [hb, forall_eq', hw1, hw2, hw3, hwM, hwW, e1, e3, hw5, hw0, hpos, go_sem, ↓reduceIte, reduceCtorEq, Nat.reduceLT, Nat.reduceLeDiff, Nat.reduceEqDiff, Nat.reduceAdd, Nat.reduceMul, Nat.reduceSub, Nat.reduceBEq, Int.reduceLT, Int.reduceLE, Int.reduceEq, Int.reduceBEq, Int.reduceNeg]) | (refine callP (Left_ok [⟨a, r, now + b, 1⟩] ⟨_, _, _, _, _, _, _⟩ _ _ _ (by simp)) ?_; simp -dsimp -implicitDefEqProofs only [hb, forall_eq', hw1, hw2, hw3, hwM, hwW, e1, e3, hw5, hw0, hpos, go_sem, ↓reduceIte, reduceCtorEq, Nat.reduceLT, Nat.reduceLeDiff, Nat.reduceEqDiff, Nat.reduceAdd, Nat.reduceMul, Nat.reduceSub, Nat.reduceBEq, Int.reduceLT, Int.reduceLE, Int.reduceEq, Int.reduceBEq, Int.reduceNeg]) | omega)
      all_goals
        refine againF 584 ⟨_, rfl, ?_⟩
        refine againT 296 12 ⟨i + 1, by omega, [⟨a, r, now + b, 1⟩], now + b, now + b, 1, by omega, e2⟩ (by simp; omega) ?_
        simp -dsimp -implicitDefEqProofs only [hwi, hw0, List.map_cons, List.map_nil, go_sem, ↓reduceIte, reduceCtorEq, Nat.reduceLT, Nat.reduceLeDiff, Nat.reduceEqDiff, Nat.reduceAdd, Nat.reduceMul, Nat.reduceSub, Nat.reduceBEq, Int.reduceLT, Int.reduceLE, Int.reduceEq, Int.reduceBEq, Int.reduceNeg]
    · obtain ⟨e0, e1, e2⟩ := bd_more (by omega) (by omega) ha hr ok (by omega : now ≤ now + b) (by omega) hf
      by_cases hlt : cnt < M
      · obtain ⟨f1, f2, f3⟩ := e1 hlt
        simp -dsimp -implicitDefEqProofs only [hb, forall_eq', hw1, hw2, hw3, hwM, hwW, go_sem, ↓reduceIte, reduceCtorEq, Nat.reduceLT, Nat.reduceLeDiff, Nat.reduceEqDiff, Nat.reduceAdd, Nat.reduceMul, Nat.reduceSub, Nat.reduceBEq, Int.reduceLT, Int.reduceLE, Int.reduceEq, Int.reduceBEq, Int.reduceNeg]
        repeat' (first | with_reducible apply And.intro | with_reducible intro _ | with_reducible exact drawn (by kernel_rfl) | (refine callP (Spend_ok l ⟨_, _, _, _, _, _, _⟩ _ _ _ (by omega)) ?_; simp -dsimp -implicitDefEqProofs only [hb, forall_eq', hw1, hw2, hw3, hwM, hwW, hw4, hw6, f1, f3, decide_eq_true hlt, go_sem, ↓reduceIte, reduceCtorEq, Nat.reduceLT, Nat.reduceLeDiff, Nat.reduceEqDiff, Nat.reduceAdd, Nat.reduceMul, Nat.reduceSub, Nat.reduceBEq, Int.reduceLT, Int.reduceLE, Int.reduceEq, Int.reduceBEq, Int.reduceNeg]) | (refine callP (Left_ok [⟨a, r, st, cnt + 1⟩] ⟨_, _, _, _, _, _, _⟩ _ _ _ (by simp)) ?_; simp -dsimp -implicitDefEqProofs only [hb, forall_eq', hw1, hw2, hw3, hwM, hwW, hw4, hw6, f1, f3, decide_eq_true hlt, go_sem, ↓reduceIte, reduceCtorEq, Nat.reduceLT, Nat.reduceLeDiff, Nat.reduceEqDiff, Nat.reduceAdd, Nat.reduceMul, Nat.reduceSub, Nat.reduceBEq, Int.reduceLT, Int.reduceLE, Int.reduceEq, Int.reduceBEq, Int.reduceNeg]) | omega)
        all_goals
          refine againF 560 ⟨_, rfl, ?_⟩
          refine againT 296 12 ⟨i + 1, by omega, [⟨a, r, st, cnt + 1⟩], now + b, st, cnt + 1, by omega, f2⟩ (by simp; omega) ?_
          simp -dsimp -implicitDefEqProofs only [hwi, hw4, List.map_cons, List.map_nil, go_sem, ↓reduceIte, reduceCtorEq, Nat.reduceLT, Nat.reduceLeDiff, Nat.reduceEqDiff, Nat.reduceAdd, Nat.reduceMul, Nat.reduceSub, Nat.reduceBEq, Int.reduceLT, Int.reduceLE, Int.reduceEq, Int.reduceBEq, Int.reduceNeg]
      · obtain ⟨f0, f1, f2, f3⟩ := e2 hlt
        simp -dsimp -implicitDefEqProofs only [hb, forall_eq', hw1, hw2, hw3, hwM, hwW, go_sem, ↓reduceIte, reduceCtorEq, Nat.reduceLT, Nat.reduceLeDiff, Nat.reduceEqDiff, Nat.reduceAdd, Nat.reduceMul, Nat.reduceSub, Nat.reduceBEq, Int.reduceLT, Int.reduceLE, Int.reduceEq, Int.reduceBEq, Int.reduceNeg]
        repeat' (first | with_reducible apply And.intro | with_reducible intro _ | with_reducible exact drawn (by kernel_rfl) | (refine callP (Spend_ok l ⟨_, _, _, _, _, _, _⟩ _ _ _ (by omega)) ?_; simp -dsimp -implicitDefEqProofs only [hb, forall_eq', hw1, hw2, hw3, hwM, hwW, hw7, f1, f3, go_sem, ↓reduceIte, reduceCtorEq, Nat.reduceLT, Nat.reduceLeDiff, Nat.reduceEqDiff, Nat.reduceAdd, Nat.reduceMul, Nat.reduceSub, Nat.reduceBEq, Int.reduceLT, Int.reduceLE, Int.reduceEq, Int.reduceBEq, Int.reduceNeg]) | (refine callP (Left_ok l ⟨_, _, _, _, _, _, _⟩ _ _ _ (by omega)) ?_; simp -dsimp -implicitDefEqProofs only [hb, forall_eq', hw1, hw2, hw3, hwM, hwW, hw7, f1, f3, go_sem, ↓reduceIte, reduceCtorEq, Nat.reduceLT, Nat.reduceLeDiff, Nat.reduceEqDiff, Nat.reduceAdd, Nat.reduceMul, Nat.reduceSub, Nat.reduceBEq, Int.reduceLT, Int.reduceLE, Int.reduceEq, Int.reduceBEq, Int.reduceNeg]) | omega)
        · refine againT 296 12 ⟨i + 1, by omega, l, now + b, st, cnt, by omega, f2⟩ (by simp; omega) ?_
          simp -dsimp -implicitDefEqProofs only [hwi, go_sem, ↓reduceIte, reduceCtorEq, Nat.reduceLT, Nat.reduceLeDiff, Nat.reduceEqDiff, Nat.reduceAdd, Nat.reduceMul, Nat.reduceSub, Nat.reduceBEq, Int.reduceLT, Int.reduceLE, Int.reduceEq, Int.reduceBEq, Int.reduceNeg]
        · rename_i hq
          exact absurd (decide_eq_false hlt).symm hq
  · simp -dsimp -implicitDefEqProofs only [go_sem, ↓reduceIte, reduceCtorEq, Nat.reduceLT, Nat.reduceLeDiff, Nat.reduceEqDiff, Nat.reduceAdd, Nat.reduceMul, Nat.reduceSub, Nat.reduceBEq, Int.reduceLT, Int.reduceLE, Int.reduceEq, Int.reduceBEq, Int.reduceNeg]
    repeat' (first | with_reducible apply And.intro | with_reducible intro _ | with_reducible exact drawn (by kernel_rfl) | omega)

theorem arg_u8 (ds : List D) : argC Try.prog 5 ds = (false, ds.map .d) := by
  unfold argC; rw [show isStruct Try.prog 5 = false from by kernel_rfl]
theorem arg_u8s (ds : List D) : argC Try.prog 36 ds = (false, ds.map .d) := by
  unfold argC; rw [show isStruct Try.prog 36 = false from by kernel_rfl]
theorem read_u8 {ds : List D} (h : shpG tys 6 5 ds) : ∃ n : Int, ds = [dU n] ∧ 0 ≤ n ∧ n ≤ 255 := h
theorem read_u8s {ds : List D} (h : shpG tys 6 36 ds) : ∃ l : List Int, ds = [bysD l] ∧ ∀ b ∈ l, 0 ≤ b ∧ b ≤ 255 := by
  simp -dsimp -implicitDefEqProofs only [shpG, tileG, go_sem] at h
  obtain ⟨rows, rfl, _, hr⟩ := h
  obtain ⟨l, rfl, hl⟩ := rows_map (cells := byCells) (ok := fun b => 0 ≤ b ∧ b ≤ 255) fun r hr' => by
    obtain ⟨b, rfl, h1, h2⟩ := hr r hr'
    exact ⟨b, rfl, h1, h2⟩
  exact ⟨l, rfl, hl⟩
theorem budgetBound_read (x0 x1 x2 x3 x4 : List D) (h0 : shpG tys 6 5 x0) (h1 : shpG tys 6 5 x1) (h2 : shpG tys 6 36 x2) (h3 : shpG tys 6 3 x3) (h4 : shpG tys 6 3 x4) : Meets Try.prog 5 [argC Try.prog 5 x0, argC Try.prog 5 x1, argC Try.prog 36 x2, argC Try.prog 3 x3, argC Try.prog 3 x4] (rOne (vB true)) := by
  obtain ⟨M, rfl, hM⟩ := read_u8 h0
  obtain ⟨W, rfl, hW⟩ := read_u8 h1
  obtain ⟨bs, rfl, hbs⟩ := read_u8s h2
  obtain ⟨a, rfl, _⟩ := read_int h3
  obtain ⟨r, rfl, _⟩ := read_int h4
  rw [arg_u8, arg_u8, arg_u8s, arg_int, arg_int]
  exact bound_ok M W bs a r hM hW hbs
section
open Go.ChangeShapes Go.WideShapes Go.ChangeAt Go.RowKit
set_option maxRecDepth 100000 in
theorem budgetBound_lifted (os : Os) (started : os.Started) (H : Type) (enc : TypeId × Value → H) :
    ReturnsInHanded {} Try.checked os 5 .any (Rows.budgetBoundSpec.pre6 enc Try.prog Try.f5 Rows.budgetBoundRow.domain false) (Rows.budgetBoundSpec.post enc Try.prog Try.f5 false true false false) := by
  refine returnsInHanded_of_change (C := Try.checked) own started (by kernel_rfl) Try.func5
    (ChangeSpec.witness6 (enc := enc) (C := Try.checked) false ⟨#[], #[.int .u8 0, .int .u8 0, .slice none 0 0, .int .i64 0, .int .i64 0], []⟩ 8 (by kernel_rfl) (by kernel_rfl) (by kernel_rfl) (by kernel_rfl)) ?_
  exact row_ok (C := Try.checked) 6 4 laidOut (by kernel_rfl) rfl (by kernel_rfl) rfl (fun ds h => match ds, h with | [_, _, _, _, _], _ => rfl) fun dss h => match dss, h with
    | [x0, x1, x2, x3, x4], .cons h0 (.cons h1 (.cons h2 (.cons h3 (.cons h4 .nil)))) => budgetBound_read x0 x1 x2 x3 x4 (shp_table tysOk _ _ _ h0) (shp_table tysOk _ _ _ h1) (shp_table tysOk _ _ _ h2) (shp_table tysOk _ _ _ h3) (shp_table tysOk _ _ _ h4)
theorem budgetBound_holds : Rows.BudgetBoundSaid :=
  OpenClaim.holds_of_wide 5 Try.f5 rfl rfl rfl rfl rfl rfl rfl ⟨rfl, rfl, rfl, rfl, rfl⟩ rfl rfl rfl rfl rfl (by kernel_rfl) Try.func5 (by kernel_rfl)
    (of_decide_eq_true (by kernel_rfl)) (by unfold Func.isWrapper; rw [if_neg (of_decide_eq_false (by kernel_rfl))]; exact ⟨rfl, rfl⟩)
    (fun os started H enc _ => budgetBound_lifted os started H enc)
end
end Go.Proofs.Ytfidbkmogileiaa
