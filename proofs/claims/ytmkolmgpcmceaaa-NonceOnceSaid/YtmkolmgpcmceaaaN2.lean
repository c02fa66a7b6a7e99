/- The library's functions that this layer calls. -/
import Derived.Test.YtmkolmgpcmceaaaN1
namespace Go.Proofs.Ytmkolmgpcmceaaa
open Go.Eng
set_option linter.unusedSimpArgs false
set_option maxRecDepth 10000

theorem old1_ok (x : No) (now : Int) : Meets Try.prog 32 [(true, [vI x.N, vI x.U]), (false, [vD (.pt [dI now])])] (rOne (vB (decide (x.U < now)))) := by
  refine meets Try.func32 rfl rfl Try.ntmps32 Try.results32 rfl ?_
  simp -dsimp -implicitDefEqProofs only [go_sem, ↓reduceIte, reduceCtorEq, Nat.reduceLT, Nat.reduceLeDiff, Nat.reduceEqDiff, Nat.reduceAdd, Nat.reduceMul, Nat.reduceSub, Nat.reduceBEq, Int.reduceLT, Int.reduceLE, Int.reduceEq, Int.reduceBEq, Int.reduceNeg]

theorem old_ok (now : Int) : Meets Try.prog 27 [(false, [vI now])] (rOne (vD (.fn 32 [.pt [dI now]]))) := by
  refine meetsF Try.func27 rfl rfl Try.ntmps27 Try.results27 rfl ?_
  simp -dsimp -implicitDefEqProofs only [go_sem, ↓reduceIte, reduceCtorEq, Nat.reduceLT, Nat.reduceLeDiff, Nat.reduceEqDiff, Nat.reduceAdd, Nat.reduceMul, Nat.reduceSub, Nat.reduceBEq, Int.reduceLT, Int.reduceLE, Int.reduceEq, Int.reduceBEq, Int.reduceNeg]
  refine retF [0] ?_
  simp -dsimp -implicitDefEqProofs only [go_sem, ↓reduceIte, reduceCtorEq, Nat.reduceLT, Nat.reduceLeDiff, Nat.reduceEqDiff, Nat.reduceAdd, Nat.reduceMul, Nat.reduceSub, Nat.reduceBEq, Int.reduceLT, Int.reduceLE, Int.reduceEq, Int.reduceBEq, Int.reduceNeg]

structure IxInv (p : No → Bool) (l : List No) where
  i : Nat
  le : i ≤ l.length
  no : ∀ x ∈ l.take i, p x = false

/-- slices.IndexFunc, whatever function of the rows is handed to it. -/
theorem indexFunc_ok (l : List No) (hl : l.length ≤ 1000000) (f : FuncId) (caps : List D) (p : No → Bool)
    (hp : ∀ x ∈ l, Meets Try.prog f ((true, x.cells.map .d) :: caps.map fun c => (false, [.d c])) (rOne (vB (p x)))) :
    Meets Try.prog 31 [(false, [vD (nosD l)]), (false, [vD (.fn f caps)])] (rOne (vI (match l.findIdx? p with | some i => i | none => -1))) := by
  refine meets Try.func31 rfl rfl Try.ntmps31 Try.results31 rfl ?_
  simp -dsimp -implicitDefEqProofs only [go_sem, ↓reduceIte, reduceCtorEq, Nat.reduceLT, Nat.reduceLeDiff, Nat.reduceEqDiff, Nat.reduceAdd, Nat.reduceMul, Nat.reduceSub, Nat.reduceBEq, Int.reduceLT, Int.reduceLE, Int.reduceEq, Int.reduceBEq, Int.reduceNeg]
  refine vfor sitOk (ι := IxInv p l) (fun v => ⟨19, [(8, aI v.i), (7, aI l.length), (6, aD (nosD l)), (4, aI 0), (1, aD (.fn f caps)), (0, aD (nosD l))], [], 1⟩) (fun v => l.length - v.i) ⟨0, by omega, by simp⟩ ?_ ?_
  · simp -dsimp -implicitDefEqProofs only [go_sem, ↓reduceIte, reduceCtorEq, Nat.reduceLT, Nat.reduceLeDiff, Nat.reduceEqDiff, Nat.reduceAdd, Nat.reduceMul, Nat.reduceSub, Nat.reduceBEq, Int.reduceLT, Int.reduceLE, Int.reduceEq, Int.reduceBEq, Int.reduceNeg]
  intro ⟨i, hi, hno⟩
  simp -dsimp -implicitDefEqProofs only [go_sem, ↓reduceIte, reduceCtorEq, Nat.reduceLT, Nat.reduceLeDiff, Nat.reduceEqDiff, Nat.reduceAdd, Nat.reduceMul, Nat.reduceSub, Nat.reduceBEq, Int.reduceLT, Int.reduceLE, Int.reduceEq, Int.reduceBEq, Int.reduceNeg]
  refine ⟨fun hlt => ⟨by omega, by omega, fun x hx => callP (hp x (List.mem_of_getElem? hx)) ?_⟩, fun hge => ?_⟩
  · simp -dsimp -implicitDefEqProofs only [wrapS (show i < l.length by omega) (show l.length ≤ 4611686018427387904 by omega), go_sem, ↓reduceIte, reduceCtorEq, Nat.reduceLT, Nat.reduceLeDiff, Nat.reduceEqDiff, Nat.reduceAdd, Nat.reduceMul, Nat.reduceSub, Nat.reduceBEq, Int.reduceLT, Int.reduceLE, Int.reduceEq, Int.reduceBEq, Int.reduceNeg]
    refine ⟨fun hp => ?_, fun hp => ?_⟩
    · have : l.findIdx? p = some i := by
        rw [List.findIdx?_eq_some_iff_getElem]
        have hil : i < l.length := by omega
        refine ⟨hil, ?_, fun j hj => ?_⟩
        · rw [List.getElem?_eq_getElem hil] at hx; cases hx; exact hp
        · have := hno l[j] (List.mem_take_iff_getElem.2 ⟨j, by omega, rfl⟩)
          simp [this]
      simp [this]
    · refine again ⟨i + 1, by omega, fun y hy => ?_⟩ (by simp; omega) ?_
      · rw [List.take_add_one, hx] at hy
        rcases List.mem_append.1 hy with hy | hy
        · exact hno y hy
        · simp at hy; rw [hy]; exact hp
      · simp -dsimp -implicitDefEqProofs only [go_sem, ↓reduceIte, reduceCtorEq, Nat.reduceLT, Nat.reduceLeDiff, Nat.reduceEqDiff, Nat.reduceAdd, Nat.reduceMul, Nat.reduceSub, Nat.reduceBEq, Int.reduceLT, Int.reduceLE, Int.reduceEq, Int.reduceBEq, Int.reduceNeg]
  · rw [List.take_of_length_le (by omega)] at hno
    have : l.findIdx? p = none := List.findIdx?_eq_none_iff.2 fun x hx => hno x hx
    simp [this]
theorem clone_ok (rows : List (List D)) (hl : rows.length ≤ 1000000) :
    Meets Try.prog 26 [(false, [vD (.vec 2 rows)])] (rOne (.own 2 41 rows)) := by
  refine meets Try.func26 rfl rfl Try.ntmps26 Try.results26 rfl ?_
  simp -dsimp -implicitDefEqProofs only [go_sem, ↓reduceIte, reduceCtorEq, Nat.reduceLT, Nat.reduceLeDiff, Nat.reduceEqDiff, Nat.reduceAdd, Nat.reduceMul, Nat.reduceSub, Nat.reduceBEq, Int.reduceLT, Int.reduceLE, Int.reduceEq, Int.reduceBEq, Int.reduceNeg]
  exact fun b hb => ⟨fun h => Classical.byContradiction fun hn => absurd ((hb hn).symm.trans h) (by simp), fun _ => ⟨by omega, by omega⟩⟩
theorem delete_ok (rows : List (List D)) (i j : Nat) (hij : i < j) (hj : j ≤ rows.length) (hl : rows.length ≤ 1000000) :
    Meets Try.prog 30 [(false, [.own 2 41 rows]), (false, [vI i]), (false, [vI j])] (rOne (.own 2 41 (rows.take i ++ rows.drop j))) := by
  refine meets Try.func30 rfl rfl Try.ntmps30 Try.results30 rfl ?_
  have e1 : (rows.drop j).take (rows.length - j) = rows.drop j := List.take_of_length_le (by simp)
  have e2 : (rows.drop j).length = rows.length - j := by simp
  have e3 : (splice rows i (rows.drop j)).length = rows.length := splice_len (by simp; omega)
  have e4 : ((splice rows i (rows.drop j)).take (i + (rows.length - j))).length = i + (rows.length - j) := by rw [List.length_take, e3]; omega
  have e5 : ∀ zs : List (List D), (splice (splice rows i (rows.drop j)) (i + (rows.length - j)) zs).take (i + (rows.length - j)) = rows.take i ++ rows.drop j := fun zs => by
    rw [take_splice _ _ _ (by rw [e3]; omega)]
    have := take_splice2 rows (rows.drop j) i (by omega)
    rwa [e2] at this
  have e6 : ∀ zs : List (List D), zs.length = rows.length - (i + (rows.length - j)) → (splice (splice rows i (rows.drop j)) (i + (rows.length - j)) zs).length = rows.length := fun zs hz => by
    rw [splice_len (by rw [e3]; omega), e3]
  simp -dsimp -implicitDefEqProofs only [e1, e2, e3, e4, go_sem, ↓reduceIte, reduceCtorEq, Nat.reduceLT, Nat.reduceLeDiff, Nat.reduceEqDiff, Nat.reduceAdd, Nat.reduceMul, Nat.reduceSub, Nat.reduceBEq, Int.reduceLT, Int.reduceLE, Int.reduceEq, Int.reduceBEq, Int.reduceNeg]
  refine ⟨fun h => by omega, fun _ => ⟨⟨by omega, by omega, by omega⟩, fun h => by omega, fun _ => ⟨⟨by omega, by omega⟩, ⟨by omega, by omega⟩, by omega, by omega, drawn (by kernel_rfl), by omega, by omega, ⟨by omega, by omega, by omega⟩, by omega, ?_, ?_⟩⟩⟩
  · rw [e6 _ (by simp)]; omega
  · rw [e5]
structure DfInv (p : No → Bool) (l : List No) where
  i : Nat
  j : Nat
  R : List No
  ij : i ≤ j
  jl : j ≤ l.length
  len : R.length = l.length
  tk : R.take i = (l.take j).filter fun x => !p x
  dr : R.drop j = l.drop j

theorem take_succ_filter {q : No → Bool} {l : List No} {j : Nat} {x : No} (h : l[j]? = some x) : (l.take (j + 1)).filter q = (l.take j).filter q ++ (if q x then [x] else []) := by
  rw [List.take_add_one, h, List.filter_append]
  congr 1
  by_cases c : q x <;> simp [c]

theorem deleteFunc_ok (l : List No) (hl : l.length ≤ 1000000) (f : FuncId) (caps : List D) (p : No → Bool)
    (hp : ∀ x ∈ l, Meets Try.prog f ((true, x.cells.map .d) :: caps.map fun c => (false, [.d c])) (rOne (vB (p x)))) :
    Meets Try.prog 25 [(false, [.own 2 41 (l.map No.cells)]), (false, [vD (.fn f caps)])] (rOne (.own 2 41 ((l.filter fun x => !p x).map No.cells))) := by
  refine meets Try.func25 rfl rfl Try.ntmps25 Try.results25 rfl ?_
  simp -dsimp -implicitDefEqProofs only [go_sem, ↓reduceIte, reduceCtorEq, Nat.reduceLT, Nat.reduceLeDiff, Nat.reduceEqDiff, Nat.reduceAdd, Nat.reduceMul, Nat.reduceSub, Nat.reduceBEq, Int.reduceLT, Int.reduceLE, Int.reduceEq, Int.reduceBEq, Int.reduceNeg]
  refine callP (indexFunc_ok l hl f caps p hp) ?_
  cases hfi : l.findIdx? p with
  | none =>
    simp -dsimp -implicitDefEqProofs only [hfi, go_sem, ↓reduceIte, reduceCtorEq, Nat.reduceLT, Nat.reduceLeDiff, Nat.reduceEqDiff, Nat.reduceAdd, Nat.reduceMul, Nat.reduceSub, Nat.reduceBEq, Int.reduceLT, Int.reduceLE, Int.reduceEq, Int.reduceBEq, Int.reduceNeg]
    have : l.filter (fun x => !p x) = l := List.filter_eq_self.2 fun x hx => by simpa using List.findIdx?_eq_none_iff.1 hfi x hx
    rw [this]
  | some i0 =>
    obtain ⟨hi0, hp0, hno⟩ := List.findIdx?_eq_some_iff_getElem.1 hfi
    have hx0 : l[i0]? = some l[i0] := List.getElem?_eq_getElem hi0
    have hpre : (l.take i0).filter (fun x => !p x) = l.take i0 := List.filter_eq_self.2 fun y hy => by
      obtain ⟨k, hk, rfl⟩ := List.mem_take_iff_getElem.1 hy
      have := hno k (by omega)
      simpa using this
    simp -dsimp -implicitDefEqProofs only [hfi, wrapS hi0 (show l.length ≤ 4611686018427387904 by omega), go_sem, ↓reduceIte, reduceCtorEq, Nat.reduceLT, Nat.reduceLeDiff, Nat.reduceEqDiff, Nat.reduceAdd, Nat.reduceMul, Nat.reduceSub, Nat.reduceBEq, Int.reduceLT, Int.reduceLE, Int.reduceEq, Int.reduceBEq, Int.reduceNeg]
    refine vfor sitOk (ι := DfInv p l) (fun v => ⟨42, [(0, aO 0), (1, aD (.fn f caps)), (5, aI v.i), (6, aI v.j)], [(0, some (.row 2 41 (v.R.map No.cells) true))], 1⟩) (fun v => l.length - v.j)
      ⟨i0, i0 + 1, l, by omega, by omega, rfl, by rw [take_succ_filter hx0, hpre]; simp [hp0], rfl⟩ ?_ ?_
    · simp -dsimp -implicitDefEqProofs only [go_sem, ↓reduceIte, reduceCtorEq, Nat.reduceLT, Nat.reduceLeDiff, Nat.reduceEqDiff, Nat.reduceAdd, Nat.reduceMul, Nat.reduceSub, Nat.reduceBEq, Int.reduceLT, Int.reduceLE, Int.reduceEq, Int.reduceBEq, Int.reduceNeg]
    intro ⟨i, j, R, hij, hjl, hRl, htk, hdr⟩
    simp -dsimp -implicitDefEqProofs only [go_sem, ↓reduceIte, reduceCtorEq, Nat.reduceLT, Nat.reduceLeDiff, Nat.reduceEqDiff, Nat.reduceAdd, Nat.reduceMul, Nat.reduceSub, Nat.reduceBEq, Int.reduceLT, Int.reduceLE, Int.reduceEq, Int.reduceBEq, Int.reduceNeg]
    refine ⟨fun hlt => ?_, fun hge => ?_⟩
    · have hltl : j < l.length := by omega
      obtain ⟨x, hx⟩ : ∃ x, l[j]? = some x := ⟨_, List.getElem?_eq_getElem hltl⟩
      have hRx : R[j]? = some x := by
        have : (R.drop j)[0]? = (l.drop j)[0]? := by rw [hdr]
        simpa [List.getElem?_drop, hx] using this
      have hdr1 : R.drop (j + 1) = l.drop (j + 1) := by
        have : (R.drop j).drop 1 = (l.drop j).drop 1 := by rw [hdr]
        simpa [List.drop_drop, Nat.add_comm] using this
      have hltR : j < R.length := by omega
      refine ⟨⟨by omega, by omega⟩, by omega, fun x' hx' => ?_⟩
      rw [hRx] at hx'; cases hx'
      refine callP (hp x (List.mem_of_getElem? hx)) ?_
      have hw1 : IntKind.i64.wrap ((i : Int) + 1) = ((i + 1 : Nat) : Int) := by rw [wrap64] <;> omega
      have hw2 : IntKind.i64.wrap ((j : Int) + 1) = ((j + 1 : Nat) : Int) := by rw [wrap64] <;> omega
      have hset : (R.map No.cells).set i [dI x.N, dI x.U] = (R.set i x).map No.cells := by rw [List.map_set]; rfl
      simp -dsimp -implicitDefEqProofs only [hw1, hw2, go_sem, ↓reduceIte, reduceCtorEq, Nat.reduceLT, Nat.reduceLeDiff, Nat.reduceEqDiff, Nat.reduceAdd, Nat.reduceMul, Nat.reduceSub, Nat.reduceBEq, Int.reduceLT, Int.reduceLE, Int.reduceEq, Int.reduceBEq, Int.reduceNeg]
      refine ⟨fun c1 => ⟨⟨by omega, by omega⟩, by omega, fun y hy => ?_⟩, fun c1 => ?_⟩
      · refine again ⟨i + 1, j + 1, R.set i x, by omega, by omega, by simp [hRl], by
          rw [take_succ_filter hx, ← htk, List.take_add_one, List.getElem?_set_self (by omega), List.take_set_of_le (Nat.le_refl _)]
          simp [c1], by rw [List.drop_set_of_lt (by omega)]; exact hdr1⟩ (by simp; omega) ?_
        simp -dsimp -implicitDefEqProofs only [hset, go_sem, ↓reduceIte, reduceCtorEq, Nat.reduceLT, Nat.reduceLeDiff, Nat.reduceEqDiff, Nat.reduceAdd, Nat.reduceMul, Nat.reduceSub, Nat.reduceBEq, Int.reduceLT, Int.reduceLE, Int.reduceEq, Int.reduceBEq, Int.reduceNeg]
      · refine again ⟨i, j + 1, R, by omega, by omega, hRl, by rw [take_succ_filter hx, htk]; simp [c1], hdr1⟩ (by simp; omega) ?_
        simp -dsimp -implicitDefEqProofs only [go_sem, ↓reduceIte, reduceCtorEq, Nat.reduceLT, Nat.reduceLeDiff, Nat.reduceEqDiff, Nat.reduceAdd, Nat.reduceMul, Nat.reduceSub, Nat.reduceBEq, Int.reduceLT, Int.reduceLE, Int.reduceEq, Int.reduceBEq, Int.reduceNeg]
    · refine ⟨⟨by omega, by omega⟩, by omega, ⟨by omega, ?_⟩, ?_, ?_⟩
      · rw [splice_len (by simp; omega)]; simp; omega
      · rw [splice_len (by simp; omega)]; simp; omega
      · have h6 : l.take j = l := List.take_of_length_le (by omega)
        rw [h6] at htk
        rw [take_splice _ _ _ (by simp; omega), ← List.map_take, htk]

/-- Where the binary search ends. -/
def bs (c : No → Int) (l : List No) (lo hi : Nat) : Nat :=
  if lo < hi then match l[(lo + hi) / 2]? with
    | some x => if c x < 0 then bs c l ((lo + hi) / 2 + 1) hi else bs c l lo ((lo + hi) / 2)
    | none => lo
  else lo
termination_by hi - lo

def bsHit (c : No → Int) (l : List No) (i : Nat) : Bool := match l[i]? with
  | some x => c x == 0
  | none => false

structure BsInv (c : No → Int) (l : List No) where
  lo : Nat
  hi : Nat
  lh : lo ≤ hi
  hl : hi ≤ l.length
  eq : bs c l 0 l.length = bs c l lo hi

theorem u64_wrap {n : Int} (h1 : 0 ≤ n) (h2 : n ≤ 9223372036854775807) : IntKind.u64.wrap n = n := by
  simp [IntKind.wrap, IntKind.signed, IntKind.bits]
  omega

theorem bsearch_ok (l : List No) (hl : l.length ≤ 1000000) (n : Int) (f : FuncId) (caps : List D) (c : No → Int)
    (hp : ∀ x ∈ l, Meets Try.prog f ((true, x.cells.map .d) :: (false, [vI n]) :: caps.map fun c => (false, [.d c])) (rOne (vI (c x)))) :
    Meets Try.prog 28 [(false, [vD (nosD l)]), (false, [vI n]), (false, [vD (.fn f caps)])] (rTup [(false, [vI (bs c l 0 l.length : Nat)]), (false, [vB (bsHit c l (bs c l 0 l.length))])]) := by
  refine meets Try.func28 rfl rfl Try.ntmps28 Try.results28 rfl ?_
  simp -dsimp -implicitDefEqProofs only [go_sem, ↓reduceIte, reduceCtorEq, Nat.reduceLT, Nat.reduceLeDiff, Nat.reduceEqDiff, Nat.reduceAdd, Nat.reduceMul, Nat.reduceSub, Nat.reduceBEq, Int.reduceLT, Int.reduceLE, Int.reduceEq, Int.reduceBEq, Int.reduceNeg]
  refine vfor sitOk (ι := BsInv c l) (fun v => ⟨49, [(10, aI v.hi), (9, aI v.lo), (8, aI l.length), (7, aB false), (6, aI 0), (0, aD (nosD l)), (1, aI n), (2, aD (.fn f caps))], [], 1⟩) (fun v => v.hi - v.lo) ⟨0, l.length, by omega, by omega, rfl⟩ ?_ ?_
  · simp -dsimp -implicitDefEqProofs only [go_sem, ↓reduceIte, reduceCtorEq, Nat.reduceLT, Nat.reduceLeDiff, Nat.reduceEqDiff, Nat.reduceAdd, Nat.reduceMul, Nat.reduceSub, Nat.reduceBEq, Int.reduceLT, Int.reduceLE, Int.reduceEq, Int.reduceBEq, Int.reduceNeg]
  intro ⟨lo, hi, hlh, hhl, hbs⟩
  obtain ⟨mid, hmid⟩ : ∃ mid, (lo + hi) / 2 = mid := ⟨_, rfl⟩
  have hw0 : IntKind.i64.wrap ((lo : Int) + (hi : Int)) = ((lo + hi : Nat) : Int) := by rw [wrap64] <;> omega
  have hw1 : IntKind.u64.wrap ((lo + hi : Nat) : Int) = ((lo + hi : Nat) : Int) := by rw [u64_wrap] <;> omega
  have hw2 : Int.fdiv ((lo + hi : Nat) : Int) (2 ^ (min (Int.toNat 1) 64)) = (mid : Int) := by
    show Int.fdiv ((lo + hi : Nat) : Int) 2 = _
    rw [Int.fdiv_eq_ediv_of_nonneg _ (by omega)]; omega
  have hw3 : IntKind.i64.wrap (mid : Int) = (mid : Int) := by rw [wrap64] <;> omega
  have hw4 : IntKind.i64.wrap ((mid : Int) + 1) = ((mid + 1 : Nat) : Int) := by rw [wrap64] <;> omega
  simp -dsimp -implicitDefEqProofs only [hw0, hw1, hw2, hw3, go_sem, ↓reduceIte, reduceCtorEq, Nat.reduceLT, Nat.reduceLeDiff, Nat.reduceEqDiff, Nat.reduceAdd, Nat.reduceMul, Nat.reduceSub, Nat.reduceBEq, Int.reduceLT, Int.reduceLE, Int.reduceEq, Int.reduceBEq, Int.reduceNeg]
  refine ⟨fun hlt => ⟨by omega, by omega, fun x hx => callP (hp x (List.mem_of_getElem? hx)) ?_⟩, fun hge => ⟨fun hin => ⟨by omega, by omega, fun x hx => callP (hp x (List.mem_of_getElem? hx)) ?_⟩, fun hout => ?_⟩⟩
  · simp -dsimp -implicitDefEqProofs only [hw4, go_sem, ↓reduceIte, reduceCtorEq, Nat.reduceLT, Nat.reduceLeDiff, Nat.reduceEqDiff, Nat.reduceAdd, Nat.reduceMul, Nat.reduceSub, Nat.reduceBEq, Int.reduceLT, Int.reduceLE, Int.reduceEq, Int.reduceBEq, Int.reduceNeg]
    refine ⟨fun c1 => ?_, fun c1 => ?_⟩
    · refine again ⟨mid + 1, hi, by omega, by omega, by rw [hbs, bs, if_pos (by omega), hmid, hx]; simp [c1]⟩ (by simp; omega) ?_
      simp -dsimp -implicitDefEqProofs only [go_sem, ↓reduceIte, reduceCtorEq, Nat.reduceLT, Nat.reduceLeDiff, Nat.reduceEqDiff, Nat.reduceAdd, Nat.reduceMul, Nat.reduceSub, Nat.reduceBEq, Int.reduceLT, Int.reduceLE, Int.reduceEq, Int.reduceBEq, Int.reduceNeg]
    · have c1' : ¬ c x < 0 := by omega
      refine again ⟨lo, mid, by omega, by omega, by rw [hbs, bs, if_pos (by omega), hmid, hx]; simp [c1']⟩ (by simp; omega) ?_
      simp -dsimp -implicitDefEqProofs only [go_sem, ↓reduceIte, reduceCtorEq, Nat.reduceLT, Nat.reduceLeDiff, Nat.reduceEqDiff, Nat.reduceAdd, Nat.reduceMul, Nat.reduceSub, Nat.reduceBEq, Int.reduceLT, Int.reduceLE, Int.reduceEq, Int.reduceBEq, Int.reduceNeg]
  · have hend : bs c l 0 l.length = lo := by rw [hbs, bs, if_neg (by omega)]
    simp -dsimp -implicitDefEqProofs only [go_sem, ↓reduceIte, reduceCtorEq, Nat.reduceLT, Nat.reduceLeDiff, Nat.reduceEqDiff, Nat.reduceAdd, Nat.reduceMul, Nat.reduceSub, Nat.reduceBEq, Int.reduceLT, Int.reduceLE, Int.reduceEq, Int.reduceBEq, Int.reduceNeg]
    simp [hend, bsHit, hx]
  · have hend : bs c l 0 l.length = lo := by rw [hbs, bs, if_neg (by omega)]
    have hx : l[lo]? = none := List.getElem?_eq_none (by omega)
    simp [hend, bsHit, hx]
end Go.Proofs.Ytmkolmgpcmceaaa
