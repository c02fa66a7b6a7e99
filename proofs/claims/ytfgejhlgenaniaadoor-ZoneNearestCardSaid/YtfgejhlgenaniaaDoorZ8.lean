/- Put and Drop. -/
import Derived.Test.YtfgejhlgenaniaaDoorZ7
namespace Go.Proofs.YtfgejhlgenaniaaDoor
open Go.Eng
set_option linter.unusedSimpArgs false
set_option maxRecDepth 10000

/-! ### Put, Drop -/
abbrev zoneO (a : Bs) (l : List Rec) : Bool × List CV := (true, [vS a, .own 4 39 (l.map Rec.cells)])
/-- Where a record stands, or would. -/
def posR (l : List Rec) (r : Rec) : Nat := bs (fun x => ordR x r) l 0 l.length
def hitR (l : List Rec) (r : Rec) : Bool := bsHit (fun x => ordR x r) l (posR l r)
def putL (l : List Rec) (r : Rec) : List Rec := if hitR l r then l.set (posR l r) r else l.take (posR l r) ++ r :: l.drop (posR l r)
def putE (a : Bs) (l : List Rec) (r : Rec) : Int :=
  if checkV a l = 0 then if formB r then if underB r.N a then if crowdB (putL l r) r.N then 120 else if 64 < (putL l r).length then 2 else 0 else 120 else 1 else checkV a l
def putA (a : Bs) (l : List Rec) (r : Rec) : Bs := if putE a l r = 0 then a else []
def putR (a : Bs) (l : List Rec) (r : Rec) : List Rec := if putE a l r = 0 then putL l r else []
def dropE (a : Bs) (l : List Rec) (r : Rec) : Int := if checkV a l = 0 then if hitR l r then 0 else 120 else checkV a l
def dropA (a : Bs) (l : List Rec) (r : Rec) : Bs := if dropE a l r = 0 then a else []
def dropR (a : Bs) (l : List Rec) (r : Rec) : List Rec := if dropE a l r = 0 then l.take (posR l r) ++ l.drop (posR l r + 1) else []
theorem putL_len (l : List Rec) (r : Rec) : (putL l r).length ≤ l.length + 1 := by
  unfold putL
  split
  · simp
  · simp; omega
theorem bs_le {α : Type} (c : α → Int) (l : List α) : ∀ (d lo hi : Nat), hi - lo = d → lo ≤ hi → bs c l lo hi ≤ hi := by
  intro d
  induction d using Nat.strongRecOn with
  | _ d ih =>
    intro lo hi hd h1
    rw [bs]
    split
    · split
      · split
        · exact ih (hi - ((lo + hi) / 2 + 1)) (by omega) _ _ rfl (by omega)
        · exact Nat.le_trans (ih ((lo + hi) / 2 - lo) (by omega) _ _ rfl (by omega)) (by omega)
      · omega
    · exact h1
theorem posR_le (l : List Rec) (r : Rec) : posR l r ≤ l.length := bs_le _ l l.length 0 l.length (by omega) (by omega)
theorem hit_lt {l : List Rec} {r : Rec} (h : hitR l r = true) : posR l r < l.length := by
  unfold hitR bsHit at h
  split at h
  · rename_i e; exact (List.getElem?_eq_some_iff.1 e).1
  · cases h
theorem find_ok (l : List Rec) (r : Rec) (hl : l.length ≤ 1000000) : Meets Tryd.prog 54 [(false, [vD (recsD l)]), r.arg, (false, [vD (.fn 55 [])])] (rTup [(false, [vI (posR l r : Nat)]), (false, [vB (hitR l r)])]) :=
  bsearch_ok l hl r _ (fun x => ordR x r) fun x _ => order_ok x r

theorem put_ok (a : Bs) (l : List Rec) (r : Rec) (hl : l.length ≤ 999999) : Meets Tryd.prog 22 [zoneA a l, r.arg] (rTup [zoneO (putA a l r) (putR a l r), (false, [vI (putE a l r)])]) := by
  have hlen := putL_len l r
  refine meets Tryd.func22 rfl rfl Tryd.ntmps22 Tryd.results22 rfl ?_
  simp -dsimp -implicitDefEqProofs only [go_sem, ↓reduceIte, reduceCtorEq, Nat.reduceLT, Nat.reduceLeDiff, Nat.reduceEqDiff, Nat.reduceAdd, Nat.reduceMul, Nat.reduceSub, Nat.reduceBEq, Int.reduceLT, Int.reduceLE, Int.reduceEq, Int.reduceBEq, Int.reduceNeg]
  refine callP (zcheck_ok a l (by omega)) ?_
  simp -dsimp -implicitDefEqProofs only [go_sem, ↓reduceIte, reduceCtorEq, Nat.reduceLT, Nat.reduceLeDiff, Nat.reduceEqDiff, Nat.reduceAdd, Nat.reduceMul, Nat.reduceSub, Nat.reduceBEq, Int.reduceLT, Int.reduceLE, Int.reduceEq, Int.reduceBEq, Int.reduceNeg]
  have cells0 : List.map Rec.cells ([] : List Rec) = [] := rfl
  have fin : ∀ e : Int, e ≠ 0 → putE a l r = e → ([] = putA a l r ∧ List.map Rec.cells (putR a l r) = []) ∧ e = putE a l r := fun e he h => by
    unfold putA putR
    rw [if_neg (by rw [h]; exact he), if_neg (by rw [h]; exact he)]
    exact ⟨⟨rfl, rfl⟩, h.symm⟩
  refine ⟨fun h0 => fin _ h0 (by unfold putE; rw [if_neg h0]), fun h0 => callP (formed_ok r) ?_⟩
  simp -dsimp -implicitDefEqProofs only [go_sem, ↓reduceIte, reduceCtorEq, Nat.reduceLT, Nat.reduceLeDiff, Nat.reduceEqDiff, Nat.reduceAdd, Nat.reduceMul, Nat.reduceSub, Nat.reduceBEq, Int.reduceLT, Int.reduceLE, Int.reduceEq, Int.reduceBEq, Int.reduceNeg]
  refine ⟨fun h1 => fin _ (by decide) (by unfold putE; rw [if_pos h0, if_neg (by simp [h1])]), fun h1 => callP (under_ok _ _) ?_⟩
  simp -dsimp -implicitDefEqProofs only [go_sem, ↓reduceIte, reduceCtorEq, Nat.reduceLT, Nat.reduceLeDiff, Nat.reduceEqDiff, Nat.reduceAdd, Nat.reduceMul, Nat.reduceSub, Nat.reduceBEq, Int.reduceLT, Int.reduceLE, Int.reduceEq, Int.reduceBEq, Int.reduceNeg]
  refine ⟨fun h2 => fin _ (by decide) (by unfold putE; rw [if_pos h0, if_pos h1, if_neg (by simp [h2])]), fun h2 => ?_⟩
  refine callP (clone_ok _ (by simp; omega)) ?_
  simp -dsimp -implicitDefEqProofs only [go_sem, ↓reduceIte, reduceCtorEq, Nat.reduceLT, Nat.reduceLeDiff, Nat.reduceEqDiff, Nat.reduceAdd, Nat.reduceMul, Nat.reduceSub, Nat.reduceBEq, Int.reduceLT, Int.reduceLE, Int.reduceEq, Int.reduceBEq, Int.reduceNeg]
  refine callP (find_ok l r (by omega)) ?_
  have hp := posR_le l r
  have fin2 : crowdB (putL l r) r.N = true → putE a l r = 120 := fun h => by unfold putE; rw [if_pos h0, if_pos h1, if_pos h2, if_pos h]
  have fin3 : crowdB (putL l r) r.N = false → 64 < (putL l r).length → putE a l r = 2 := fun h h' => by unfold putE; rw [if_pos h0, if_pos h1, if_pos h2, if_neg (by simp [h]), if_pos h']
  have fin4 : crowdB (putL l r) r.N = false → ¬ 64 < (putL l r).length → putE a l r = 0 := fun h h' => by unfold putE; rw [if_pos h0, if_pos h1, if_pos h2, if_neg (by simp [h]), if_neg h']
  cases hh : hitR l r with
  | true =>
    have hlt := hit_lt hh
    have hput : (l.map Rec.cells).set (posR l r) [dT r.N, dI r.K, dT r.V, dI r.L] = (putL l r).map Rec.cells := by
      unfold putL; rw [if_pos hh, List.map_set]; rfl
    simp -dsimp -implicitDefEqProofs only [hh, go_sem, ↓reduceIte, reduceCtorEq, Nat.reduceLT, Nat.reduceLeDiff, Nat.reduceEqDiff, Nat.reduceAdd, Nat.reduceMul, Nat.reduceSub, Nat.reduceBEq, Int.reduceLT, Int.reduceLE, Int.reduceEq, Int.reduceBEq, Int.reduceNeg]
    refine ⟨by omega, hlt, fun x hx => ?_⟩
    simp -dsimp -implicitDefEqProofs only [hput, go_sem, ↓reduceIte, reduceCtorEq, Nat.reduceLT, Nat.reduceLeDiff, Nat.reduceEqDiff, Nat.reduceAdd, Nat.reduceMul, Nat.reduceSub, Nat.reduceBEq, Int.reduceLT, Int.reduceLE, Int.reduceEq, Int.reduceBEq, Int.reduceNeg]
    refine callP (crowded_ok a (putL l r) r.N (by omega)) ?_
    simp -dsimp -implicitDefEqProofs only [hput, List.length_map, go_sem, ↓reduceIte, reduceCtorEq, Nat.reduceLT, Nat.reduceLeDiff, Nat.reduceEqDiff, Nat.reduceAdd, Nat.reduceMul, Nat.reduceSub, Nat.reduceBEq, Int.reduceLT, Int.reduceLE, Int.reduceEq, Int.reduceBEq, Int.reduceNeg]
    refine ⟨fun h3 => fin _ (by decide) (fin2 h3), fun h3 => ⟨fun h4 => fin _ (by decide) (fin3 h3 (by omega)), fun h4 => ?_⟩⟩
    have h5 := fin4 h3 (by omega)
    unfold putA putR
    rw [h5]; simp [h0]
  | false =>
    have hput : (l.map Rec.cells).take (posR l r) ++ [dT r.N, dI r.K, dT r.V, dI r.L] :: (l.map Rec.cells).drop (posR l r) = (putL l r).map Rec.cells := by
      unfold putL; rw [if_neg (by simp [hh])]; simp [List.map_append, List.map_take, List.map_drop, Rec.cells]
    simp -dsimp -implicitDefEqProofs only [hh, go_sem, ↓reduceIte, reduceCtorEq, Nat.reduceLT, Nat.reduceLeDiff, Nat.reduceEqDiff, Nat.reduceAdd, Nat.reduceMul, Nat.reduceSub, Nat.reduceBEq, Int.reduceLT, Int.reduceLE, Int.reduceEq, Int.reduceBEq, Int.reduceNeg]
    refine callE [true, false, true] ?_
    simp -dsimp -implicitDefEqProofs only [go_sem, ↓reduceIte, reduceCtorEq, Nat.reduceLT, Nat.reduceLeDiff, Nat.reduceEqDiff, Nat.reduceAdd, Nat.reduceMul, Nat.reduceSub, Nat.reduceBEq, Int.reduceLT, Int.reduceLE, Int.reduceEq, Int.reduceBEq, Int.reduceNeg]
    refine ⟨_, insert_ok (l.map Rec.cells) [dT r.N, dI r.K, dT r.V, dI r.L] (posR l r) (by simpa using hp) (by simp; omega), ?_⟩
    simp -dsimp -implicitDefEqProofs only [hput, go_sem, ↓reduceIte, reduceCtorEq, Nat.reduceLT, Nat.reduceLeDiff, Nat.reduceEqDiff, Nat.reduceAdd, Nat.reduceMul, Nat.reduceSub, Nat.reduceBEq, Int.reduceLT, Int.reduceLE, Int.reduceEq, Int.reduceBEq, Int.reduceNeg]
    refine callP (crowded_ok a (putL l r) r.N (by omega)) ?_
    simp -dsimp -implicitDefEqProofs only [hput, List.length_map, go_sem, ↓reduceIte, reduceCtorEq, Nat.reduceLT, Nat.reduceLeDiff, Nat.reduceEqDiff, Nat.reduceAdd, Nat.reduceMul, Nat.reduceSub, Nat.reduceBEq, Int.reduceLT, Int.reduceLE, Int.reduceEq, Int.reduceBEq, Int.reduceNeg]
    refine ⟨fun h3 => fin _ (by decide) (fin2 h3), fun h3 => ⟨fun h4 => fin _ (by decide) (fin3 h3 (by omega)), fun h4 => ?_⟩⟩
    have h5 := fin4 h3 (by omega)
    unfold putA putR
    rw [h5]; simp [h0]

theorem drop_ok (a : Bs) (l : List Rec) (r : Rec) (hl : l.length ≤ 999999) : Meets Tryd.prog 27 [zoneA a l, r.arg] (rTup [zoneO (dropA a l r) (dropR a l r), (false, [vI (dropE a l r)])]) := by
  refine meets Tryd.func27 rfl rfl Tryd.ntmps27 Tryd.results27 rfl ?_
  simp -dsimp -implicitDefEqProofs only [go_sem, ↓reduceIte, reduceCtorEq, Nat.reduceLT, Nat.reduceLeDiff, Nat.reduceEqDiff, Nat.reduceAdd, Nat.reduceMul, Nat.reduceSub, Nat.reduceBEq, Int.reduceLT, Int.reduceLE, Int.reduceEq, Int.reduceBEq, Int.reduceNeg]
  refine callP (zcheck_ok a l (by omega)) ?_
  simp -dsimp -implicitDefEqProofs only [go_sem, ↓reduceIte, reduceCtorEq, Nat.reduceLT, Nat.reduceLeDiff, Nat.reduceEqDiff, Nat.reduceAdd, Nat.reduceMul, Nat.reduceSub, Nat.reduceBEq, Int.reduceLT, Int.reduceLE, Int.reduceEq, Int.reduceBEq, Int.reduceNeg]
  have fin : ∀ e : Int, e ≠ 0 → dropE a l r = e → ([] = dropA a l r ∧ List.map Rec.cells (dropR a l r) = []) ∧ e = dropE a l r := fun e he h => by
    unfold dropA dropR
    rw [if_neg (by rw [h]; exact he), if_neg (by rw [h]; exact he)]
    exact ⟨⟨rfl, rfl⟩, h.symm⟩
  refine ⟨fun h0 => fin _ h0 (by unfold dropE; rw [if_neg h0]), fun h0 => ?_⟩
  refine callP (find_ok l r (by omega)) ?_
  cases hh : hitR l r with
  | true =>
    have hlt := hit_lt hh
    have hw := wrapS hlt (by omega)
    have he : dropE a l r = 0 := by unfold dropE; rw [if_pos h0, if_pos hh]
    simp -dsimp -implicitDefEqProofs only [hh, go_sem, ↓reduceIte, reduceCtorEq, Nat.reduceLT, Nat.reduceLeDiff, Nat.reduceEqDiff, Nat.reduceAdd, Nat.reduceMul, Nat.reduceSub, Nat.reduceBEq, Int.reduceLT, Int.reduceLE, Int.reduceEq, Int.reduceBEq, Int.reduceNeg]
    refine callP (clone_ok _ (by simp; omega)) ?_
    simp -dsimp -implicitDefEqProofs only [hw, go_sem, ↓reduceIte, reduceCtorEq, Nat.reduceLT, Nat.reduceLeDiff, Nat.reduceEqDiff, Nat.reduceAdd, Nat.reduceMul, Nat.reduceSub, Nat.reduceBEq, Int.reduceLT, Int.reduceLE, Int.reduceEq, Int.reduceBEq, Int.reduceNeg]
    refine callE [true, false, false] ?_
    simp -dsimp -implicitDefEqProofs only [go_sem, ↓reduceIte, reduceCtorEq, Nat.reduceLT, Nat.reduceLeDiff, Nat.reduceEqDiff, Nat.reduceAdd, Nat.reduceMul, Nat.reduceSub, Nat.reduceBEq, Int.reduceLT, Int.reduceLE, Int.reduceEq, Int.reduceBEq, Int.reduceNeg]
    refine ⟨_, delete_ok (l.map Rec.cells) (posR l r) (posR l r + 1) rfl (by simpa using hlt) (by simp; omega), ?_⟩
    simp -dsimp -implicitDefEqProofs only [go_sem, ↓reduceIte, reduceCtorEq, Nat.reduceLT, Nat.reduceLeDiff, Nat.reduceEqDiff, Nat.reduceAdd, Nat.reduceMul, Nat.reduceSub, Nat.reduceBEq, Int.reduceLT, Int.reduceLE, Int.reduceEq, Int.reduceBEq, Int.reduceNeg]
    simp [dropA, dropR, he, List.map_append, List.map_take, List.map_drop]
  | false =>
    simp -dsimp -implicitDefEqProofs only [hh, go_sem, ↓reduceIte, reduceCtorEq, Nat.reduceLT, Nat.reduceLeDiff, Nat.reduceEqDiff, Nat.reduceAdd, Nat.reduceMul, Nat.reduceSub, Nat.reduceBEq, Int.reduceLT, Int.reduceLE, Int.reduceEq, Int.reduceBEq, Int.reduceNeg]
    exact fin _ (by decide) (by unfold dropE; rw [if_pos h0, if_neg (by simp [hh])])
end Go.Proofs.YtfgejhlgenaniaaDoor
