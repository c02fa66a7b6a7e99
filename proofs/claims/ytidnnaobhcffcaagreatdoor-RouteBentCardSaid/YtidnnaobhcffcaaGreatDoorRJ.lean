
/- The document's net: zones, Put. The document's net: Put, without, Bend, Mend. The document's net: Put. RouteSteps: the law's contract. -/
import Derived.Test.YtidnnaobhcffcaaGreatDoorRI
namespace Go.Proofs.YtidnnaobhcffcaaGreatDoor
open Go.Eng
set_option linter.unusedSimpArgs false
set_option maxRecDepth 10000

/-! ### With one in its place, by where that is -/
section
variable {α κ : Type} {o : KO κ} {key : α → κ}
structure BfInv (o : KO κ) (key : α → κ) (l : List α) (k : κ) where
  i : Nat
  le : i ≤ l.length
  ok : ∀ j x, j < i → l[j]? = some x → o.cmp (key x) k < 0
theorem bf_next {l : List α} {k : κ} {i : Nat} {x : α} (hok : ∀ j x, j < i → l[j]? = some x → o.cmp (key x) k < 0) (hx : l[i]? = some x) (h : o.cmp (key x) k < 0) : ∀ j x, j < i + 1 → l[j]? = some x → o.cmp (key x) k < 0 := fun j y hj hy => by
  by_cases hji : j = i
  · subst hji; rw [hx] at hy; cases hy; exact h
  · exact hok j y (by omega) hy
theorem KO.lt_le (o : KO κ) {a b c : κ} (h : ¬ o.cmp a b < 0) (h2 : o.cmp a c < 0) : o.cmp b c < 0 := by
  rcases o.tri a b with h3 | h3 | h3
  · exact absurd h3 h
  · subst h3; exact h2
  · exact o.tr h3 h2
theorem with_at {l : List α} (hr : Ris o key l) {x : α} {i : Nat} (h1 : ∀ j y, j < i → l[j]? = some y → o.cmp (key y) (key x) < 0) (h2 : ∀ y, l[i]? = some y → ¬ o.cmp (key y) (key x) < 0) :
    (∀ y, l[i]? = some y → key y = key x → withK o key l x = l.take i ++ x :: l.drop (i + 1)) ∧ ((∀ y, l[i]? = some y → key y ≠ key x) → withK o key l x = l.take i ++ x :: l.drop i) := by
  have hA : ∀ y ∈ l.take i, o.cmp (key y) (key x) < 0 := fun y hy => by
    obtain ⟨j, hj⟩ := List.mem_iff_getElem?.1 hy
    rw [List.getElem?_take] at hj
    split at hj
    · exact h1 j y (by assumption) hj
    · cases hj
  have hC : ∀ y ∈ l.drop (i + 1), o.cmp (key x) (key y) < 0 := fun y hy => by
    obtain ⟨j, hj⟩ := List.mem_iff_getElem?.1 hy
    rw [List.getElem?_drop] at hj
    have hlt := (List.getElem?_eq_some_iff.1 hj).1
    have hi : l[i]? = some l[i] := List.getElem?_eq_getElem (by omega)
    exact o.lt_le (h2 _ hi) (ris_at hr (by omega) hi hj)
  have e : l = l.take i ++ l.drop i := (List.take_append_drop i l).symm
  have f1 : (l.take i).filter (fun y => decide (o.cmp (key y) (key x) < 0)) = l.take i := List.filter_eq_self.2 fun y hy => decide_eq_true (hA y hy)
  have f2 : (l.take i).filter (fun y => decide (0 < o.cmp (key y) (key x))) = [] := List.filter_eq_nil_iff.2 fun y hy => by have := hA y hy; simp; omega
  have g1 : (l.drop (i + 1)).filter (fun y => decide (o.cmp (key y) (key x) < 0)) = [] := List.filter_eq_nil_iff.2 fun y hy => by have := o.flip.1 (hC y hy); simp; omega
  have g2 : (l.drop (i + 1)).filter (fun y => decide (0 < o.cmp (key y) (key x))) = l.drop (i + 1) := List.filter_eq_self.2 fun y hy => decide_eq_true (o.flip.1 (hC y hy))
  have hw : withK o key l x = (l.take i ++ l.drop i).filter (fun y => decide (o.cmp (key y) (key x) < 0)) ++ x :: (l.take i ++ l.drop i).filter (fun y => decide (0 < o.cmp (key y) (key x))) := by
    rw [← e]; exact with_filter hr x
  rw [List.filter_append, List.filter_append, f1, f2] at hw
  constructor
  · intro y hy hk
    have hd : l.drop i = y :: l.drop (i + 1) := by
      have := (List.getElem?_eq_some_iff.1 hy)
      rw [List.drop_eq_getElem_cons this.1, this.2]
    have h0 : o.cmp (key y) (key x) = 0 := o.eq0.2 hk
    rw [hw, hd, List.filter_cons, List.filter_cons, g1, g2]
    simp [h0]
  · intro hno
    cases hy : l[i]? with
    | none =>
      have hd : l.drop i = [] := List.drop_eq_nil_of_le (List.getElem?_eq_none_iff.1 hy)
      rw [hw, hd]
      simp
    | some y =>
      have hd : l.drop i = y :: l.drop (i + 1) := by
        have := (List.getElem?_eq_some_iff.1 hy)
        rw [List.drop_eq_getElem_cons this.1, this.2]
      have h3 : ¬ o.cmp (key y) (key x) < 0 := h2 y hy
      have h4 : 0 < o.cmp (key y) (key x) := by
        rcases o.tri (key y) (key x) with h5 | h5 | h5
        · exact absurd h5 h3
        · exact absurd h5 (hno y hy)
        · exact o.flip.1 h5
      rw [hw, hd, List.filter_cons, List.filter_cons, g1, g2]
      simp [h3, h4]
end

theorem rzones_ok (l : List Zn) (hr : Ris koS kZ l) (hl : l.length ≤ 1000) (z : Zn) : Meets Tryz.prog 61 [(false, [vD (zonesD l)]), z.arg] (rOne (.own 2 44 ((withK koS kZ l z).map Zn.cells))) := by
  refine meets Tryz.func61 rfl rfl Tryz.ntmps61 Tryz.results61 rfl ?_
  simp -dsimp -implicitDefEqProofs only [go_sem, ↓reduceIte, reduceCtorEq, Nat.reduceLT, Nat.reduceLeDiff, Nat.reduceEqDiff, Nat.reduceAdd, Nat.reduceMul, Nat.reduceSub, Nat.reduceBEq, Int.reduceLT, Int.reduceLE, Int.reduceEq, Int.reduceBEq, Int.reduceNeg]
  refine vfor sitOk (ι := BfInv koS kZ l z.A) (fun v => ⟨55, [(5, aI v.i), (3, aP 0 0), (0, aD (zonesD l))], [(0, some (.var [cS z.A, cD (recsD z.R)] true))], 100⟩) (fun v => l.length - v.i) ⟨0, by omega, fun j x hj => by omega⟩ ?_ ?_
  · simp -dsimp -implicitDefEqProofs only [go_sem, ↓reduceIte, reduceCtorEq, Nat.reduceLT, Nat.reduceLeDiff, Nat.reduceEqDiff, Nat.reduceAdd, Nat.reduceMul, Nat.reduceSub, Nat.reduceBEq, Int.reduceLT, Int.reduceLE, Int.reduceEq, Int.reduceBEq, Int.reduceNeg]
  intro ⟨i, hi, hok⟩
  have htk : (l.map Zn.cells).take l.length = l.map Zn.cells := List.take_of_length_le (by simp)
  have hil2 : (i : Int) ≤ (l.length : Int) := by omega
  have fin : (∀ y, l[i]? = some y → ¬ y.A < z.A) → (∀ y, l[i]? = some y → y.A = z.A → withK koS kZ l z = l.take i ++ z :: l.drop (i + 1)) ∧ ((∀ y, l[i]? = some y → y.A ≠ z.A) → withK koS kZ l z = l.take i ++ z :: l.drop i) := fun h => with_at hr hok fun y hy hlt => h y hy (cmpB_lt.1 hlt)
  by_cases hil : i < l.length
  · obtain ⟨x, hx⟩ : ∃ x, l[i]? = some x := ⟨_, List.getElem?_eq_getElem hil⟩
    have hw := wrapS hil (by omega)
    have hlt : (i : Int) < (l.length : Int) := by omega
    by_cases hc : x.A < z.A
    · simp -dsimp -implicitDefEqProofs only [hlt, hx, forall_eq', hc, go_sem, ↓reduceIte, reduceCtorEq, Nat.reduceLT, Nat.reduceLeDiff, Nat.reduceEqDiff, Nat.reduceAdd, Nat.reduceMul, Nat.reduceSub, Nat.reduceBEq, Int.reduceLT, Int.reduceLE, Int.reduceEq, Int.reduceBEq, Int.reduceNeg]
      refine ⟨by omega, hil, drawn (by kernel_rfl), ?_⟩
      refine again ⟨i + 1, by omega, bf_next hok hx (cmpB_lt.2 hc)⟩ (by simp; omega) ?_
      simp -dsimp -implicitDefEqProofs only [hw, go_sem, ↓reduceIte, reduceCtorEq, Nat.reduceLT, Nat.reduceLeDiff, Nat.reduceEqDiff, Nat.reduceAdd, Nat.reduceMul, Nat.reduceSub, Nat.reduceBEq, Int.reduceLT, Int.reduceLE, Int.reduceEq, Int.reduceBEq, Int.reduceNeg]
    · obtain ⟨w1, w2⟩ := fin fun y hy => by rw [hx] at hy; cases hy; exact hc
      have hml : ((l.map Zn.cells).take i).length = i := by simp; omega
      by_cases he : x.A = z.A
      · have hir : ¬ z.A < z.A := lt_irr _
        have hput : (l.map Zn.cells).take i ++ ([dT z.A, recsD z.R] :: (l.map Zn.cells).drop (i + 1)) = (withK koS kZ l z).map Zn.cells := by
          rw [w1 x hx he]; simp [List.map_append, List.map_take, List.map_drop, Zn.cells]
        have hdl : ((l.map Zn.cells).drop (i + 1)).length = l.length - (i + 1) := by simp
        simp -dsimp -implicitDefEqProofs only [hlt, hx, forall_eq', hir, he, hw, htk, hml, hdl, List.append_assoc, List.singleton_append, hput, List.length_append, List.length_map, go_sem, ↓reduceIte, reduceCtorEq, Nat.reduceLT, Nat.reduceLeDiff, Nat.reduceEqDiff, Nat.reduceAdd, Nat.reduceMul, Nat.reduceSub, Nat.reduceBEq, Int.reduceLT, Int.reduceLE, Int.reduceEq, Int.reduceBEq, Int.reduceNeg]
        repeat' (first | with_reducible apply And.intro | with_reducible intro _ | with_reducible exact drawn (by kernel_rfl) | omega)
      · have hput : (l.map Zn.cells).take i ++ ([dT z.A, recsD z.R] :: (l.map Zn.cells).drop i) = (withK koS kZ l z).map Zn.cells := by
          rw [w2 fun y hy => by rw [hx] at hy; cases hy; exact he]; simp [List.map_append, List.map_take, List.map_drop, Zn.cells]
        have hdl : ((l.map Zn.cells).drop i).length = l.length - i := by simp
        simp -dsimp -implicitDefEqProofs only [hlt, hx, forall_eq', hc, he, htk, hml, hdl, List.append_assoc, List.singleton_append, hput, List.length_append, List.length_map, go_sem, ↓reduceIte, reduceCtorEq, Nat.reduceLT, Nat.reduceLeDiff, Nat.reduceEqDiff, Nat.reduceAdd, Nat.reduceMul, Nat.reduceSub, Nat.reduceBEq, Int.reduceLT, Int.reduceLE, Int.reduceEq, Int.reduceBEq, Int.reduceNeg]
        repeat' (first | with_reducible apply And.intro | with_reducible intro _ | with_reducible exact drawn (by kernel_rfl) | omega)
  · have hlt : ¬ (i : Int) < (l.length : Int) := by omega
    have hn : l[i]? = none := List.getElem?_eq_none_iff.2 (by omega)
    obtain ⟨w1, w2⟩ := fin fun y hy => by rw [hn] at hy; cases hy
    have hput : (l.map Zn.cells).take i ++ ([dT z.A, recsD z.R] :: (l.map Zn.cells).drop i) = (withK koS kZ l z).map Zn.cells := by
      rw [w2 fun y hy => by rw [hn] at hy; cases hy]; simp [List.map_append, List.map_take, List.map_drop, Zn.cells]
    have hml : ((l.map Zn.cells).take i).length = i := by simp; omega
    have hdl : ((l.map Zn.cells).drop i).length = l.length - i := by simp
    simp -dsimp -implicitDefEqProofs only [hlt, htk, hml, hdl, List.append_assoc, List.singleton_append, hput, List.length_append, List.length_map, go_sem, ↓reduceIte, reduceCtorEq, Nat.reduceLT, Nat.reduceLeDiff, Nat.reduceEqDiff, Nat.reduceAdd, Nat.reduceMul, Nat.reduceSub, Nat.reduceBEq, Int.reduceLT, Int.reduceLE, Int.reduceEq, Int.reduceBEq, Int.reduceNeg]
    repeat' (first | with_reducible apply And.intro | with_reducible intro _ | with_reducible exact drawn (by kernel_rfl) | omega)
end Go.Proofs.YtidnnaobhcffcaaGreatDoor
namespace Go.Proofs.YtidnnaobhcffcaaGreatDoor
open Go.Eng
set_option linter.unusedSimpArgs false
set_option maxRecDepth 10000

theorem dropK_lt {l : List Bn} {k : Int × Int} : ((dropK koP kB l k).length < l.length) ↔ (findK koP kB l k).isSome = true := by
  unfold dropK
  rw [List.length_filter_lt_length_iff_exists]
  cases h : findK koP kB l k with
  | none =>
    have := find_none.1 h
    constructor
    · rintro ⟨x, hx, hx2⟩
      exfalso
      refine this x hx (koP.eq0.1 ?_)
      simpa using hx2
    · intro h; cases h
  | some x =>
    obtain ⟨h1, h2⟩ := find_some h
    exact ⟨fun _ => rfl, fun _ => ⟨x, h1, by have := koP.eq0.2 h2; simpa using this⟩⟩
theorem dropK_len (l : List Bn) (k : Int × Int) : (dropK koP kB l k).length ≤ l.length := List.length_filter_le _ _
structure WoInv (l : List Bn) where
  i : Nat
  le : i ≤ l.length
theorem rwithout_ok (l : List Bn) (hl : l.length ≤ 1000) (b : Bn) : Meets Tryz.prog 63 [(false, [vD (bnsD l)]), b.arg]
    (rTup [(false, [.own 3 46 ((dropK koP kB l (kB b)).map Bn.cells)]), (false, [vB (findK koP kB l (kB b)).isSome])]) := by
  refine meets Tryz.func63 rfl rfl Tryz.ntmps63 Tryz.results63 rfl ?_
  simp -dsimp -implicitDefEqProofs only [go_sem, ↓reduceIte, reduceCtorEq, Nat.reduceLT, Nat.reduceLeDiff, Nat.reduceEqDiff, Nat.reduceAdd, Nat.reduceMul, Nat.reduceSub, Nat.reduceBEq, Int.reduceLT, Int.reduceLE, Int.reduceEq, Int.reduceBEq, Int.reduceNeg]
  refine vownE 6 46 rfl ?_
  refine vforT sitOk 400 6 (ι := WoInv l) (fun v => ⟨45, [(7, aI v.i), (6, aO 400), (3, aP 0 0), (0, aD (bnsD l))], [(400, some (.row 3 46 ((dropK koP kB (l.take v.i) (kB b)).map Bn.cells) true)), (0, some (.var [cI b.S, cI b.F, cI b.T] true))], 401⟩) (fun v => l.length - v.i) ⟨0, by omega⟩ ?_ ?_
  · simp -dsimp -implicitDefEqProofs only [go_sem, ↓reduceIte, reduceCtorEq, Nat.reduceLT, Nat.reduceLeDiff, Nat.reduceEqDiff, Nat.reduceAdd, Nat.reduceMul, Nat.reduceSub, Nat.reduceBEq, Int.reduceLT, Int.reduceLE, Int.reduceEq, Int.reduceBEq, Int.reduceNeg]
    rfl
  intro ⟨i, hi⟩
  have hlen := dropK_len (l.take i) (kB b)
  have htl : (l.take i).length ≤ l.length := by simp; omega
  simp -dsimp -implicitDefEqProofs only [go_sem, ↓reduceIte, reduceCtorEq, Nat.reduceLT, Nat.reduceLeDiff, Nat.reduceEqDiff, Nat.reduceAdd, Nat.reduceMul, Nat.reduceSub, Nat.reduceBEq, Int.reduceLT, Int.reduceLE, Int.reduceEq, Int.reduceBEq, Int.reduceNeg]
  refine ⟨fun hlt => ?_, fun hge => ?_⟩
  · have hil : i < l.length := by omega
    obtain ⟨x, hx⟩ : ∃ x, l[i]? = some x := ⟨_, List.getElem?_eq_getElem hil⟩
    have hst := dropK_step (kB b) hx
    have hw := wrapS hil (by omega)
    have hkk : (koP.cmp (kB x) (kB b) == 0) = (decide (x.S = b.S) && decide (x.F = b.F)) := by
      rw [Bool.eq_iff_iff]
      simp only [beq_iff_eq, koP.eq0, Bool.and_eq_true, decide_eq_true_eq, Prod.mk.injEq]
    rw [hkk] at hst
    have hbs : (dropK koP kB (l.take i) (kB b)).length ≤ 1000 := by omega
    have pass : ¬ (x.S = b.S ∧ x.F = b.F) → ((dropK koP kB (l.take i) (kB b)).map Bn.cells) ++ [[dI x.S, dI x.F, dI x.T]] = (dropK koP kB (l.take (i + 1)) (kB b)).map Bn.cells := fun h => by
      rw [hst, if_neg (by simpa using h)]; simp [Bn.cells]
    simp -dsimp -implicitDefEqProofs only [hx, forall_eq', hw, go_sem, ↓reduceIte, reduceCtorEq, Nat.reduceLT, Nat.reduceLeDiff, Nat.reduceEqDiff, Nat.reduceAdd, Nat.reduceMul, Nat.reduceSub, Nat.reduceBEq, Int.reduceLT, Int.reduceLE, Int.reduceEq, Int.reduceBEq, Int.reduceNeg]
    repeat' (first | with_reducible apply And.intro | with_reducible intro _ | with_reducible exact drawn (by kernel_rfl) | omega)
    · rename_i h1 h2
      have hp := pass fun h => h2 h.2
      refine againT 400 6 ⟨i + 1, by omega⟩ (by simp; omega) ?_
      simp -dsimp -implicitDefEqProofs only [hw, hp, go_sem, ↓reduceIte, reduceCtorEq, Nat.reduceLT, Nat.reduceLeDiff, Nat.reduceEqDiff, Nat.reduceAdd, Nat.reduceMul, Nat.reduceSub, Nat.reduceBEq, Int.reduceLT, Int.reduceLE, Int.reduceEq, Int.reduceBEq, Int.reduceNeg]
    · rename_i h1 h2
      rw [if_pos (by simpa using ⟨h1, h2⟩), List.append_nil] at hst
      refine againT 400 6 ⟨i + 1, by omega⟩ (by simp; omega) ?_
      simp -dsimp -implicitDefEqProofs only [hw, hst, go_sem, ↓reduceIte, reduceCtorEq, Nat.reduceLT, Nat.reduceLeDiff, Nat.reduceEqDiff, Nat.reduceAdd, Nat.reduceMul, Nat.reduceSub, Nat.reduceBEq, Int.reduceLT, Int.reduceLE, Int.reduceEq, Int.reduceBEq, Int.reduceNeg]
    · rename_i h1
      have hp := pass fun h => h1 h.1
      refine againT 400 6 ⟨i + 1, by omega⟩ (by simp; omega) ?_
      simp -dsimp -implicitDefEqProofs only [hw, hp, go_sem, ↓reduceIte, reduceCtorEq, Nat.reduceLT, Nat.reduceLeDiff, Nat.reduceEqDiff, Nat.reduceAdd, Nat.reduceMul, Nat.reduceSub, Nat.reduceBEq, Int.reduceLT, Int.reduceLE, Int.reduceEq, Int.reduceBEq, Int.reduceNeg]
  · have hil : i = l.length := by omega
    subst hil
    have hdl := dropK_lt (l := l) (k := kB b)
    rw [List.take_length] at *
    simp -dsimp -implicitDefEqProofs only [go_sem, ↓reduceIte, reduceCtorEq, Nat.reduceLT, Nat.reduceLeDiff, Nat.reduceEqDiff, Nat.reduceAdd, Nat.reduceMul, Nat.reduceSub, Nat.reduceBEq, Int.reduceLT, Int.reduceLE, Int.reduceEq, Int.reduceBEq, Int.reduceNeg]
    rw [Bool.eq_iff_iff, decide_eq_true_eq, ← hdl]
    omega
theorem rmend_ok (n : Nt) (hz : Sz n) (b : Bn) : Meets Tryz.prog 28 [n.arg, b.arg]
    (rTup [(true, [vD (svsD (nmendN n b).V), vI (nmendN n b).N, .own 3 46 ((nmendN n b).B.map Bn.cells), vD (cksD (nmendN n b).C)]), (false, [vI (nmendE n b)])]) := by
  have hbl := hz.b
  have bad : ∀ e : Int, e ≠ 0 → nmendE n b = e → nmendN n b = noN := fun e he h => by
    unfold nmendN; rw [if_neg (by rw [h]; exact he)]
  refine meets Tryz.func28 rfl rfl Tryz.ntmps28 Tryz.results28 rfl ?_
  simp -dsimp -implicitDefEqProofs only [go_sem, ↓reduceIte, reduceCtorEq, Nat.reduceLT, Nat.reduceLeDiff, Nat.reduceEqDiff, Nat.reduceAdd, Nat.reduceMul, Nat.reduceSub, Nat.reduceBEq, Int.reduceLT, Int.reduceLE, Int.reduceEq, Int.reduceBEq, Int.reduceNeg]
  refine callP (rcheck_okN n hz) ?_
  by_cases h0 : chkN n = 0
  · simp -dsimp -implicitDefEqProofs only [h0, go_sem, ↓reduceIte, reduceCtorEq, Nat.reduceLT, Nat.reduceLeDiff, Nat.reduceEqDiff, Nat.reduceAdd, Nat.reduceMul, Nat.reduceSub, Nat.reduceBEq, Int.reduceLT, Int.reduceLE, Int.reduceEq, Int.reduceBEq, Int.reduceNeg]
    refine callP (rwithout_ok n.B (by omega) b) ?_
    have e0 : findK koP kB n.B (kB b) = bnF n b := rfl
    cases h1 : (bnF n b).isSome with
    | false =>
      have he : nmendE n b = 131 := by unfold nmendE; rw [if_pos h0, h1]; rfl
      rw [bad 131 (by decide) he, he]
      simp -dsimp -implicitDefEqProofs only [e0, h1, noN, go_sem, ↓reduceIte, reduceCtorEq, Nat.reduceLT, Nat.reduceLeDiff, Nat.reduceEqDiff, Nat.reduceAdd, Nat.reduceMul, Nat.reduceSub, Nat.reduceBEq, Int.reduceLT, Int.reduceLE, Int.reduceEq, Int.reduceBEq, Int.reduceNeg]
    | true =>
      have he : nmendE n b = 0 := by unfold nmendE; rw [if_pos h0, h1]; rfl
      have hN : nmendN n b = { n with B := dropK koP kB n.B (kB b) } := by unfold nmendN; rw [if_pos he]
      rw [hN, he]
      simp -dsimp -implicitDefEqProofs only [e0, h1, go_sem, ↓reduceIte, reduceCtorEq, Nat.reduceLT, Nat.reduceLeDiff, Nat.reduceEqDiff, Nat.reduceAdd, Nat.reduceMul, Nat.reduceSub, Nat.reduceBEq, Int.reduceLT, Int.reduceLE, Int.reduceEq, Int.reduceBEq, Int.reduceNeg]
  · have he : nmendE n b = chkN n := by unfold nmendE; rw [if_neg h0]
    rw [bad _ h0 he, he]
    simp -dsimp -implicitDefEqProofs only [h0, noN, go_sem, ↓reduceIte, reduceCtorEq, Nat.reduceLT, Nat.reduceLeDiff, Nat.reduceEqDiff, Nat.reduceAdd, Nat.reduceMul, Nat.reduceSub, Nat.reduceBEq, Int.reduceLT, Int.reduceLE, Int.reduceEq, Int.reduceBEq, Int.reduceNeg]
theorem drop_with {l : List Bn} (hr : Ris koP kB l) (b : Bn) : withK koP kB (dropK koP kB l (kB b)) b = withK koP kB l b := by
  have hd := dropK_ris hr (kB b)
  refine ris_ext (with_ris hd b) (with_ris hr b) fun x => ?_
  rw [mem_with hd, mem_with hr, mem_dropK]
  constructor
  · rintro (h | ⟨⟨h1, _⟩, h2⟩)
    · exact .inl h
    · exact .inr ⟨h1, h2⟩
  · rintro (h | ⟨h1, h2⟩)
    · exact .inl h
    · exact .inr ⟨⟨h1, h2⟩, h2⟩
theorem rbend_ok (n : Nt) (hz : Sz n) (b : Bn) : Meets Tryz.prog 26 [n.arg, b.arg]
    (rTup [(true, [vD (svsD (nbendN n b).V), vI (nbendN n b).N, .own 3 46 ((nbendN n b).B.map Bn.cells), vD (cksD (nbendN n b).C)]), (false, [vI (nbendE n b)])]) := by
  have hvl := hz.v
  have hbl := hz.b
  have bad : ∀ e : Int, e ≠ 0 → nbendE n b = e → nbendN n b = noN := fun e he h => by
    unfold nbendN; rw [if_neg (by rw [h]; exact he)]
  refine meets Tryz.func26 rfl rfl Tryz.ntmps26 Tryz.results26 rfl ?_
  simp -dsimp -implicitDefEqProofs only [go_sem, ↓reduceIte, reduceCtorEq, Nat.reduceLT, Nat.reduceLeDiff, Nat.reduceEqDiff, Nat.reduceAdd, Nat.reduceMul, Nat.reduceSub, Nat.reduceBEq, Int.reduceLT, Int.reduceLE, Int.reduceEq, Int.reduceBEq, Int.reduceNeg]
  refine callP (rcheck_okN n hz) ?_
  by_cases h0 : chkN n = 0
  · obtain ⟨_, _, _, c1, _, _⟩ := chk_parts h0
    obtain ⟨_, c4⟩ := bns_parts c1
    cases h1 : bendOk n b with
    | false =>
      have he : nbendE n b = 1 := by unfold nbendE; rw [if_pos h0, if_neg (by simp [h1])]
      rw [bad 1 (by decide) he, he]
      simp -dsimp -implicitDefEqProofs only [h0, noN, go_sem, ↓reduceIte, reduceCtorEq, Nat.reduceLT, Nat.reduceLeDiff, Nat.reduceEqDiff, Nat.reduceAdd, Nat.reduceMul, Nat.reduceSub, Nat.reduceBEq, Int.reduceLT, Int.reduceLE, Int.reduceEq, Int.reduceBEq, Int.reduceNeg]
      repeat' (first | with_reducible apply And.intro | with_reducible intro _ | with_reducible exact drawn (by kernel_rfl) | (refine callP (raddress_ok _) ?_; simp -dsimp -implicitDefEqProofs only [noN, go_sem, ↓reduceIte, reduceCtorEq, Nat.reduceLT, Nat.reduceLeDiff, Nat.reduceEqDiff, Nat.reduceAdd, Nat.reduceMul, Nat.reduceSub, Nat.reduceBEq, Int.reduceLT, Int.reduceLE, Int.reduceEq, Int.reduceBEq, Int.reduceNeg]) | omega)
      all_goals
        exfalso
        have h1t : bendOk n b = true := by
          unfold bendOk
          simp only [Bool.and_eq_true, decide_eq_true_eq, Bool.not_eq_true', decide_eq_false_iff_not]
          exact ⟨⟨⟨⟨by assumption, by assumption⟩, by assumption⟩, by assumption⟩, by assumption⟩
        rw [h1] at h1t
        cases h1t
    | true =>
      have h1' := h1
      unfold bendOk at h1'
      simp only [Bool.and_eq_true, decide_eq_true_eq, Bool.not_eq_true', decide_eq_false_iff_not] at h1'
      obtain ⟨⟨⟨⟨a1, a2⟩, a3⟩, a4⟩, a5⟩ := h1'
      have a6 : ¬ b.S < 0 := by omega
      have a7 : ¬ n.N ≤ b.S := by omega
      cases h2 : (svF n b.F).isSome && (svF n b.T).isSome with
      | false =>
        have he : nbendE n b = 131 := by unfold nbendE; rw [if_pos h0, if_pos h1, h2]; rfl
        rw [bad 131 (by decide) he, he]
        simp -dsimp -implicitDefEqProofs only [h0, a6, a7, go_sem, ↓reduceIte, reduceCtorEq, Nat.reduceLT, Nat.reduceLeDiff, Nat.reduceEqDiff, Nat.reduceAdd, Nat.reduceMul, Nat.reduceSub, Nat.reduceBEq, Int.reduceLT, Int.reduceLE, Int.reduceEq, Int.reduceBEq, Int.reduceNeg]
        refine callP (raddress_ok _) ?_
        simp -dsimp -implicitDefEqProofs only [a3, a5, go_sem, ↓reduceIte, reduceCtorEq, Nat.reduceLT, Nat.reduceLeDiff, Nat.reduceEqDiff, Nat.reduceAdd, Nat.reduceMul, Nat.reduceSub, Nat.reduceBEq, Int.reduceLT, Int.reduceLE, Int.reduceEq, Int.reduceBEq, Int.reduceNeg]
        refine callP (raddress_ok _) ?_
        simp -dsimp -implicitDefEqProofs only [a4, a5, noN, go_sem, ↓reduceIte, reduceCtorEq, Nat.reduceLT, Nat.reduceLeDiff, Nat.reduceEqDiff, Nat.reduceAdd, Nat.reduceMul, Nat.reduceSub, Nat.reduceBEq, Int.reduceLT, Int.reduceLE, Int.reduceEq, Int.reduceBEq, Int.reduceNeg]
        repeat' (first | with_reducible apply And.intro | with_reducible intro _ | with_reducible exact drawn (by kernel_rfl) | (refine callP (rfind_ok n _ (by omega)) ?_; simp -dsimp -implicitDefEqProofs only [noN, go_sem, ↓reduceIte, reduceCtorEq, Nat.reduceLT, Nat.reduceLeDiff, Nat.reduceEqDiff, Nat.reduceAdd, Nat.reduceMul, Nat.reduceSub, Nat.reduceBEq, Int.reduceLT, Int.reduceLE, Int.reduceEq, Int.reduceBEq, Int.reduceNeg]) | omega)
        exfalso
        rename_i h3 h4
        rw [rfI_ge.1 (by omega), rfI_ge.1 (by omega)] at h2
        cases h2
      | true =>
        have he : nbendE n b = 0 := by unfold nbendE; rw [if_pos h0, if_pos h1, h2]; rfl
        have hN : nbendN n b = { n with B := withK koP kB n.B b } := by unfold nbendN; rw [if_pos he]
        rw [hN, he]
        rw [Bool.and_eq_true] at h2
        have g1 : ¬ rfI n b.F < 0 := by have := rfI_ge.2 h2.1; omega
        have g2 : ¬ rfI n b.T < 0 := by have := rfI_ge.2 h2.2; omega
        simp -dsimp -implicitDefEqProofs only [h0, a6, a7, go_sem, ↓reduceIte, reduceCtorEq, Nat.reduceLT, Nat.reduceLeDiff, Nat.reduceEqDiff, Nat.reduceAdd, Nat.reduceMul, Nat.reduceSub, Nat.reduceBEq, Int.reduceLT, Int.reduceLE, Int.reduceEq, Int.reduceBEq, Int.reduceNeg]
        refine callP (raddress_ok _) ?_
        simp -dsimp -implicitDefEqProofs only [a3, a5, go_sem, ↓reduceIte, reduceCtorEq, Nat.reduceLT, Nat.reduceLeDiff, Nat.reduceEqDiff, Nat.reduceAdd, Nat.reduceMul, Nat.reduceSub, Nat.reduceBEq, Int.reduceLT, Int.reduceLE, Int.reduceEq, Int.reduceBEq, Int.reduceNeg]
        refine callP (raddress_ok _) ?_
        simp -dsimp -implicitDefEqProofs only [a4, a5, go_sem, ↓reduceIte, reduceCtorEq, Nat.reduceLT, Nat.reduceLeDiff, Nat.reduceEqDiff, Nat.reduceAdd, Nat.reduceMul, Nat.reduceSub, Nat.reduceBEq, Int.reduceLT, Int.reduceLE, Int.reduceEq, Int.reduceBEq, Int.reduceNeg]
        refine callP (rfind_ok n _ (by omega)) ?_
        simp -dsimp -implicitDefEqProofs only [g1, go_sem, ↓reduceIte, reduceCtorEq, Nat.reduceLT, Nat.reduceLeDiff, Nat.reduceEqDiff, Nat.reduceAdd, Nat.reduceMul, Nat.reduceSub, Nat.reduceBEq, Int.reduceLT, Int.reduceLE, Int.reduceEq, Int.reduceBEq, Int.reduceNeg]
        refine callP (rfind_ok n _ (by omega)) ?_
        simp -dsimp -implicitDefEqProofs only [g2, go_sem, ↓reduceIte, reduceCtorEq, Nat.reduceLT, Nat.reduceLeDiff, Nat.reduceEqDiff, Nat.reduceAdd, Nat.reduceMul, Nat.reduceSub, Nat.reduceBEq, Int.reduceLT, Int.reduceLE, Int.reduceEq, Int.reduceBEq, Int.reduceNeg]
        refine callP (rwithout_ok n.B (by omega) b) ?_
        simp -dsimp -implicitDefEqProofs only [go_sem, ↓reduceIte, reduceCtorEq, Nat.reduceLT, Nat.reduceLeDiff, Nat.reduceEqDiff, Nat.reduceAdd, Nat.reduceMul, Nat.reduceSub, Nat.reduceBEq, Int.reduceLT, Int.reduceLE, Int.reduceEq, Int.reduceBEq, Int.reduceNeg]
        have hld := dropK_len n.B (kB b)
        have hrd := dropK_ris c4 (kB b)
        have hne : ∀ y ∈ dropK koP kB n.B (kB b), kB y ≠ kB b := fun y hy => (mem_dropK.1 hy).2
        have hwd := drop_with c4 b
        rw [← hwd]
        generalize dropK koP kB n.B (kB b) = L at *
        refine vfreeze 424 rfl (vdataT 7 rfl ?_)
        refine vfor sitOk (ι := BfInv koP kB L (kB b)) (fun v => ⟨98, [(9, aI v.i), (7, aD (bnsD L)), (5, aI 0), (4, aP 16 0), (3, aP 8 0), (2, aP 0 0)], [(16, some (.var [.nils 2, cI 0, .nils 3, .nils 2] true)), (8, some (.var [cI b.S, cI b.F, cI b.T] true)), (0, some (.var [cD (svsD n.V), cI n.N, cD (bnsD n.B), cD (cksD n.C)] true))], 600⟩) (fun v => L.length - v.i) ⟨0, by omega, fun j x hj => by omega⟩ ?_ ?_
        · simp -dsimp -implicitDefEqProofs only [go_sem, ↓reduceIte, reduceCtorEq, Nat.reduceLT, Nat.reduceLeDiff, Nat.reduceEqDiff, Nat.reduceAdd, Nat.reduceMul, Nat.reduceSub, Nat.reduceBEq, Int.reduceLT, Int.reduceLE, Int.reduceEq, Int.reduceBEq, Int.reduceNeg]
        intro ⟨i, hi, hok⟩
        have htk : (L.map Bn.cells).take L.length = L.map Bn.cells := List.take_of_length_le (by simp)
        have fin : (∀ y, L[i]? = some y → ¬ koP.cmp (kB y) (kB b) < 0) → withK koP kB L b = L.take i ++ b :: L.drop i := fun h => (with_at hrd hok h).2 fun y hy => hne y (List.mem_of_getElem? hy)
        have hml : ((L.map Bn.cells).take i).length = i := by simp; omega
        have hdl : ((L.map Bn.cells).drop i).length = L.length - i := by simp
        have hput : withK koP kB L b = L.take i ++ b :: L.drop i → (L.map Bn.cells).take i ++ ([dI b.S, dI b.F, dI b.T] :: (L.map Bn.cells).drop i) = (withK koP kB L b).map Bn.cells := fun h => by
          rw [h]; simp [List.map_append, List.map_take, List.map_drop, Bn.cells]
        by_cases hil : i < L.length
        · obtain ⟨x, hx⟩ : ∃ x, L[i]? = some x := ⟨_, List.getElem?_eq_getElem hil⟩
          have hw := wrapS hil (by omega)
          have hlt : (i : Int) < (L.length : Int) := by omega
          by_cases hc : koP.cmp (kB x) (kB b) < 0
          · have hah : aheadN x b = true := decide_eq_true hc
            simp -dsimp -implicitDefEqProofs only [hlt, hx, forall_eq', go_sem, ↓reduceIte, reduceCtorEq, Nat.reduceLT, Nat.reduceLeDiff, Nat.reduceEqDiff, Nat.reduceAdd, Nat.reduceMul, Nat.reduceSub, Nat.reduceBEq, Int.reduceLT, Int.reduceLE, Int.reduceEq, Int.reduceBEq, Int.reduceNeg]
            refine ⟨by omega, hil, callP (rahead13_ok x b) ?_⟩
            simp -dsimp -implicitDefEqProofs only [hah, go_sem, ↓reduceIte, reduceCtorEq, Nat.reduceLT, Nat.reduceLeDiff, Nat.reduceEqDiff, Nat.reduceAdd, Nat.reduceMul, Nat.reduceSub, Nat.reduceBEq, Int.reduceLT, Int.reduceLE, Int.reduceEq, Int.reduceBEq, Int.reduceNeg]
            refine ⟨drawn (by kernel_rfl), again ⟨i + 1, by omega, bf_next hok hx hc⟩ (by simp; omega) ?_⟩
            simp -dsimp -implicitDefEqProofs only [hw, go_sem, ↓reduceIte, reduceCtorEq, Nat.reduceLT, Nat.reduceLeDiff, Nat.reduceEqDiff, Nat.reduceAdd, Nat.reduceMul, Nat.reduceSub, Nat.reduceBEq, Int.reduceLT, Int.reduceLE, Int.reduceEq, Int.reduceBEq, Int.reduceNeg]
          · have hah : aheadN x b = false := decide_eq_false hc
            have hp := hput (fin fun y hy => by rw [hx] at hy; cases hy; exact hc)
            simp -dsimp -implicitDefEqProofs only [hlt, hx, forall_eq', go_sem, ↓reduceIte, reduceCtorEq, Nat.reduceLT, Nat.reduceLeDiff, Nat.reduceEqDiff, Nat.reduceAdd, Nat.reduceMul, Nat.reduceSub, Nat.reduceBEq, Int.reduceLT, Int.reduceLE, Int.reduceEq, Int.reduceBEq, Int.reduceNeg]
            refine ⟨by omega, hil, callP (rahead13_ok x b) ?_⟩
            simp -dsimp -implicitDefEqProofs only [hah, htk, hml, hdl, List.append_assoc, List.singleton_append, hp, List.length_append, List.length_map, go_sem, ↓reduceIte, reduceCtorEq, Nat.reduceLT, Nat.reduceLeDiff, Nat.reduceEqDiff, Nat.reduceAdd, Nat.reduceMul, Nat.reduceSub, Nat.reduceBEq, Int.reduceLT, Int.reduceLE, Int.reduceEq, Int.reduceBEq, Int.reduceNeg]
            repeat' (first | with_reducible apply And.intro | with_reducible intro _ | with_reducible exact drawn (by kernel_rfl) | omega)
        · have hlt : ¬ (i : Int) < (L.length : Int) := by omega
          have hn : L[i]? = none := List.getElem?_eq_none_iff.2 (by omega)
          have hp := hput (fin fun y hy => by rw [hn] at hy; cases hy)
          simp -dsimp -implicitDefEqProofs only [hlt, htk, hml, hdl, List.append_assoc, List.singleton_append, hp, List.length_append, List.length_map, go_sem, ↓reduceIte, reduceCtorEq, Nat.reduceLT, Nat.reduceLeDiff, Nat.reduceEqDiff, Nat.reduceAdd, Nat.reduceMul, Nat.reduceSub, Nat.reduceBEq, Int.reduceLT, Int.reduceLE, Int.reduceEq, Int.reduceBEq, Int.reduceNeg]
          repeat' (first | with_reducible apply And.intro | with_reducible intro _ | with_reducible exact drawn (by kernel_rfl) | omega)
  · have he : nbendE n b = chkN n := by unfold nbendE; rw [if_neg h0]
    rw [bad _ h0 he, he]
    simp -dsimp -implicitDefEqProofs only [h0, noN, go_sem, ↓reduceIte, reduceCtorEq, Nat.reduceLT, Nat.reduceLeDiff, Nat.reduceEqDiff, Nat.reduceAdd, Nat.reduceMul, Nat.reduceSub, Nat.reduceBEq, Int.reduceLT, Int.reduceLE, Int.reduceEq, Int.reduceBEq, Int.reduceNeg]
end Go.Proofs.YtidnnaobhcffcaaGreatDoor
namespace Go.Proofs.YtidnnaobhcffcaaGreatDoor
open Go.Eng
set_option linter.unusedSimpArgs false
set_option maxRecDepth 10000

theorem rput13_ok (n : Nt) (hz : Sz n) (addr : Int) (z : Zn) (hr : z.R.length ≤ 1000) : Meets Tryz.prog 24 [n.arg, (false, [vI addr]), z.arg]
    (rTup [(true, [.own 2 37 ((nputN n addr z).V.map Sv.cells), vI (nputN n addr z).N, vD (bnsD (nputN n addr z).B), vD (cksD (nputN n addr z).C)]), (false, [vI (nputE n addr z)])]) := by
  have hvl := hz.v
  have bad : ∀ e : Int, e ≠ 0 → nputE n addr z = e → nputN n addr z = noN := fun e he h => by
    unfold nputN; rw [if_neg (by rw [h]; exact he)]
  refine meets Tryz.func24 rfl rfl Tryz.ntmps24 Tryz.results24 rfl ?_
  simp -dsimp -implicitDefEqProofs only [go_sem, ↓reduceIte, reduceCtorEq, Nat.reduceLT, Nat.reduceLeDiff, Nat.reduceEqDiff, Nat.reduceAdd, Nat.reduceMul, Nat.reduceSub, Nat.reduceBEq, Int.reduceLT, Int.reduceLE, Int.reduceEq, Int.reduceBEq, Int.reduceNeg]
  refine callP (rcheck_okN n hz) ?_
  by_cases h0 : chkN n = 0
  · by_cases h1 : addrB addr = true
    · by_cases h2 : checkV z.A z.R = 0
      · obtain ⟨_, _, c3, _, _, _⟩ := chk_iff.1 h0
        obtain ⟨v1, v2⟩ := svs_parts c3
        obtain ⟨z1, _, z3⟩ := zs_ris h0 addr
        have hwl := withK_len (o := koS) (key := kZ) (svG n addr).Z z
        simp -dsimp -implicitDefEqProofs only [h0, go_sem, ↓reduceIte, reduceCtorEq, Nat.reduceLT, Nat.reduceLeDiff, Nat.reduceEqDiff, Nat.reduceAdd, Nat.reduceMul, Nat.reduceSub, Nat.reduceBEq, Int.reduceLT, Int.reduceLE, Int.reduceEq, Int.reduceBEq, Int.reduceNeg]
        refine callP (raddress_ok _) ?_
        simp -dsimp -implicitDefEqProofs only [h1, go_sem, ↓reduceIte, reduceCtorEq, Nat.reduceLT, Nat.reduceLeDiff, Nat.reduceEqDiff, Nat.reduceAdd, Nat.reduceMul, Nat.reduceSub, Nat.reduceBEq, Int.reduceLT, Int.reduceLE, Int.reduceEq, Int.reduceBEq, Int.reduceNeg]
        refine callP (rcheck_ok z.A z.R (by omega)) ?_
        simp -dsimp -implicitDefEqProofs only [h2, go_sem, ↓reduceIte, reduceCtorEq, Nat.reduceLT, Nat.reduceLeDiff, Nat.reduceEqDiff, Nat.reduceAdd, Nat.reduceMul, Nat.reduceSub, Nat.reduceBEq, Int.reduceLT, Int.reduceLE, Int.reduceEq, Int.reduceBEq, Int.reduceNeg]
        refine vfor sitOk (ι := BfInv koI kS n.V addr) (fun v => ⟨101, [(10, aI v.i), (7, aI 0), (6, aP 16 0), (5, aP 8 0), (3, aP 0 0), (1, aI addr)], [(16, some (.var [.nils 2, cI 0, .nils 3, .nils 2] true)), (8, some (.var [cS z.A, cD (recsD z.R)] true)), (0, some (.var [cD (svsD n.V), cI n.N, cD (bnsD n.B), cD (cksD n.C)] true))], 600⟩) (fun v => n.V.length - v.i) ⟨0, by omega, fun j x hj => by omega⟩ ?_ ?_
        · simp -dsimp -implicitDefEqProofs only [go_sem, ↓reduceIte, reduceCtorEq, Nat.reduceLT, Nat.reduceLeDiff, Nat.reduceEqDiff, Nat.reduceAdd, Nat.reduceMul, Nat.reduceSub, Nat.reduceBEq, Int.reduceLT, Int.reduceLE, Int.reduceEq, Int.reduceBEq, Int.reduceNeg]
        intro ⟨i, hi, hok⟩
        have htk : (n.V.map Sv.cells).take n.V.length = n.V.map Sv.cells := List.take_of_length_le (by simp)
        have hml : ((n.V.map Sv.cells).take i).length = i := by simp; omega
        have e1 : (newSv n addr z).A = addr := rfl
        have e2 : (newSv n addr z).Z = withK koS kZ (svG n addr).Z z := rfl
        have big : 8 < (newSv n addr z).Z.length → nputE n addr z = 2 := fun h3 => by unfold nputE; rw [if_pos h0, if_pos h1, if_pos h2, if_pos h3]
        have good : ¬ 8 < (newSv n addr z).Z.length → nputE n addr z = 0 ∧ nputN n addr z = { n with V := withK koI kS n.V (newSv n addr z) } := fun h3 => by
          have : nputE n addr z = 0 := by unfold nputE; rw [if_pos h0, if_pos h1, if_pos h2, if_neg h3]
          exact ⟨this, by unfold nputN; rw [if_pos this]⟩
        have fin := fun (h : ∀ y, n.V[i]? = some y → ¬ y.A < addr) => with_at (x := newSv n addr z) v2 hok fun y hy hlt => h y hy (cmpI_lt.1 hlt)
        by_cases hil : i < n.V.length
        · obtain ⟨x, hx⟩ : ∃ x, n.V[i]? = some x := ⟨_, List.getElem?_eq_getElem hil⟩
          have hw := wrapS hil (by omega)
          have hlt : (i : Int) < (n.V.length : Int) := by omega
          by_cases hc : x.A < addr
          · have hc2 : ¬ addr ≤ x.A := by omega
            simp -dsimp -implicitDefEqProofs only [hlt, hx, forall_eq', hc, hc2, go_sem, ↓reduceIte, reduceCtorEq, Nat.reduceLT, Nat.reduceLeDiff, Nat.reduceEqDiff, Nat.reduceAdd, Nat.reduceMul, Nat.reduceSub, Nat.reduceBEq, Int.reduceLT, Int.reduceLE, Int.reduceEq, Int.reduceBEq, Int.reduceNeg]
            refine ⟨by omega, hil, again ⟨i + 1, by omega, bf_next hok hx (cmpI_lt.2 hc)⟩ (by simp; omega) ?_⟩
            simp -dsimp -implicitDefEqProofs only [hw, go_sem, ↓reduceIte, reduceCtorEq, Nat.reduceLT, Nat.reduceLeDiff, Nat.reduceEqDiff, Nat.reduceAdd, Nat.reduceMul, Nat.reduceSub, Nat.reduceBEq, Int.reduceLT, Int.reduceLE, Int.reduceEq, Int.reduceBEq, Int.reduceNeg]
          · obtain ⟨w1, w2⟩ := fin fun y hy => by rw [hx] at hy; cases hy; exact hc
            by_cases he : x.A = addr
            · have hg : svG n addr = x := by
                have : svF n addr = some x := (find_iff v2).2 ⟨List.mem_of_getElem? hx, he⟩
                unfold svG; rw [this]; rfl
              have hdl : ((n.V.map Sv.cells).drop (i + 1)).length = n.V.length - (i + 1) := by simp
              have hput : (n.V.map Sv.cells).take i ++ ([dI addr, zonesD (withK koS kZ (svG n addr).Z z)] :: (n.V.map Sv.cells).drop (i + 1)) = (withK koI kS n.V (newSv n addr z)).map Sv.cells := by
                rw [w1 x hx he]; simp [List.map_append, List.map_take, List.map_drop, Sv.cells, e1, e2]
              have hir : ¬ addr < addr := by omega
              rw [hg] at hput e2 z1 z3 hwl
              simp -dsimp -implicitDefEqProofs only [hlt, hx, forall_eq', hir, he, hw, go_sem, ↓reduceIte, reduceCtorEq, Nat.reduceLT, Nat.reduceLeDiff, Nat.reduceEqDiff, Nat.reduceAdd, Nat.reduceMul, Nat.reduceSub, Nat.reduceBEq, Int.reduceLT, Int.reduceLE, Int.reduceEq, Int.reduceBEq, Int.reduceNeg]
              refine ⟨by omega, hil, by omega, hil, by omega, hil, callP (rzones_ok x.Z z1 (by omega) z) ?_⟩
              by_cases h3 : 8 < (newSv n addr z).Z.length
              · have h3' := h3
                rw [e2] at h3'
                have hbb : (8 : Int) < ((withK koS kZ x.Z z).length : Int) := by omega
                rw [bad 2 (by decide) (big h3), big h3]
                simp -dsimp -implicitDefEqProofs only [hbb, noN, go_sem, ↓reduceIte, reduceCtorEq, Nat.reduceLT, Nat.reduceLeDiff, Nat.reduceEqDiff, Nat.reduceAdd, Nat.reduceMul, Nat.reduceSub, Nat.reduceBEq, Int.reduceLT, Int.reduceLE, Int.reduceEq, Int.reduceBEq, Int.reduceNeg]
              · have h3' := h3
                rw [e2] at h3'
                have hbb : ¬ (8 : Int) < ((withK koS kZ x.Z z).length : Int) := by omega
                rw [(good h3).1, (good h3).2]
                simp -dsimp -implicitDefEqProofs only [hbb, he, htk, hml, hdl, List.append_assoc, List.singleton_append, hput, List.length_append, List.length_map, go_sem, ↓reduceIte, reduceCtorEq, Nat.reduceLT, Nat.reduceLeDiff, Nat.reduceEqDiff, Nat.reduceAdd, Nat.reduceMul, Nat.reduceSub, Nat.reduceBEq, Int.reduceLT, Int.reduceLE, Int.reduceEq, Int.reduceBEq, Int.reduceNeg]
                repeat' (first | with_reducible apply And.intro | with_reducible intro _ | with_reducible exact drawn (by kernel_rfl) | omega)
            · have hs : svF n addr = none := find_none.2 fun y hy e => by
                obtain ⟨j, hj⟩ := List.mem_iff_getElem?.1 hy
                rcases Nat.lt_trichotomy j i with h3 | h3 | h3
                · have h4 : koI.cmp (kS y) addr < 0 := hok j y h3 hj
                  rw [e] at h4; exact koI.irr h4
                · subst h3; rw [hx] at hj; cases hj; exact he e
                · have h4 : koI.cmp (kS x) (kS y) < 0 := ris_at v2 h3 hx hj
                  rw [e] at h4
                  exact hc (cmpI_lt.1 h4)
              have hg : svG n addr = noV := by unfold svG; rw [hs]; rfl
              have hdl : ((n.V.map Sv.cells).drop i).length = n.V.length - i := by simp
              have hput : (n.V.map Sv.cells).take i ++ ([dI addr, zonesD (withK koS kZ (svG n addr).Z z)] :: (n.V.map Sv.cells).drop i) = (withK koI kS n.V (newSv n addr z)).map Sv.cells := by
                rw [w2 fun y hy => by rw [hx] at hy; cases hy; exact he]; simp [List.map_append, List.map_take, List.map_drop, Sv.cells, e1, e2]
              have hc2 : addr ≤ x.A := by omega
              rw [hg] at hput e2 z1 z3 hwl
              simp -dsimp -implicitDefEqProofs only [hlt, hx, forall_eq', hc, hc2, he, go_sem, ↓reduceIte, reduceCtorEq, Nat.reduceLT, Nat.reduceLeDiff, Nat.reduceEqDiff, Nat.reduceAdd, Nat.reduceMul, Nat.reduceSub, Nat.reduceBEq, Int.reduceLT, Int.reduceLE, Int.reduceEq, Int.reduceBEq, Int.reduceNeg]
              refine ⟨by omega, hil, by omega, hil, callP (rzones_ok [] z1 (by simp) z) ?_⟩
              by_cases h3 : 8 < (newSv n addr z).Z.length
              · have h3' := h3
                rw [e2] at h3'
                have hbb : (8 : Int) < ((withK koS kZ [] z).length : Int) := by simp only [noV] at h3'; omega
                rw [bad 2 (by decide) (big h3), big h3]
                simp -dsimp -implicitDefEqProofs only [hbb, noN, go_sem, ↓reduceIte, reduceCtorEq, Nat.reduceLT, Nat.reduceLeDiff, Nat.reduceEqDiff, Nat.reduceAdd, Nat.reduceMul, Nat.reduceSub, Nat.reduceBEq, Int.reduceLT, Int.reduceLE, Int.reduceEq, Int.reduceBEq, Int.reduceNeg]
              · have h3' := h3
                rw [e2] at h3'
                simp only [noV] at hput h3'
                have hbb : ¬ (8 : Int) < ((withK koS kZ [] z).length : Int) := by omega
                rw [(good h3).1, (good h3).2]
                simp -dsimp -implicitDefEqProofs only [hbb, htk, hml, hdl, List.append_assoc, List.singleton_append, hput, List.length_append, List.length_map, go_sem, ↓reduceIte, reduceCtorEq, Nat.reduceLT, Nat.reduceLeDiff, Nat.reduceEqDiff, Nat.reduceAdd, Nat.reduceMul, Nat.reduceSub, Nat.reduceBEq, Int.reduceLT, Int.reduceLE, Int.reduceEq, Int.reduceBEq, Int.reduceNeg]
                repeat' (first | with_reducible apply And.intro | with_reducible intro _ | with_reducible exact drawn (by kernel_rfl) | omega)
        · have hlt : ¬ (i : Int) < (n.V.length : Int) := by omega
          have hn : n.V[i]? = none := List.getElem?_eq_none_iff.2 (by omega)
          obtain ⟨w1, w2⟩ := fin fun y hy => by rw [hn] at hy; cases hy
          have hs : svF n addr = none := find_none.2 fun y hy e => by
            obtain ⟨j, hj⟩ := List.mem_iff_getElem?.1 hy
            have h4 : koI.cmp (kS y) addr < 0 := hok j y (by have := (List.getElem?_eq_some_iff.1 hj).1; omega) hj
            rw [e] at h4; exact koI.irr h4
          have hg : svG n addr = noV := by unfold svG; rw [hs]; rfl
          have hdl : ((n.V.map Sv.cells).drop i).length = n.V.length - i := by simp
          have hput : (n.V.map Sv.cells).take i ++ ([dI addr, zonesD (withK koS kZ (svG n addr).Z z)] :: (n.V.map Sv.cells).drop i) = (withK koI kS n.V (newSv n addr z)).map Sv.cells := by
            rw [w2 fun y hy => by rw [hn] at hy; cases hy]; simp [List.map_append, List.map_take, List.map_drop, Sv.cells, e1, e2]
          rw [hg] at hput e2 z1 z3 hwl
          simp -dsimp -implicitDefEqProofs only [hlt, go_sem, ↓reduceIte, reduceCtorEq, Nat.reduceLT, Nat.reduceLeDiff, Nat.reduceEqDiff, Nat.reduceAdd, Nat.reduceMul, Nat.reduceSub, Nat.reduceBEq, Int.reduceLT, Int.reduceLE, Int.reduceEq, Int.reduceBEq, Int.reduceNeg]
          refine callP (rzones_ok [] z1 (by simp) z) ?_
          by_cases h3 : 8 < (newSv n addr z).Z.length
          · have h3' := h3
            rw [e2] at h3'
            have hbb : (8 : Int) < ((withK koS kZ [] z).length : Int) := by simp only [noV] at h3'; omega
            rw [bad 2 (by decide) (big h3), big h3]
            simp -dsimp -implicitDefEqProofs only [hbb, noN, go_sem, ↓reduceIte, reduceCtorEq, Nat.reduceLT, Nat.reduceLeDiff, Nat.reduceEqDiff, Nat.reduceAdd, Nat.reduceMul, Nat.reduceSub, Nat.reduceBEq, Int.reduceLT, Int.reduceLE, Int.reduceEq, Int.reduceBEq, Int.reduceNeg]
          · have h3' := h3
            rw [e2] at h3'
            simp only [noV] at hput h3'
            have hbb : ¬ (8 : Int) < ((withK koS kZ [] z).length : Int) := by omega
            rw [(good h3).1, (good h3).2]
            simp -dsimp -implicitDefEqProofs only [hbb, htk, hml, hdl, List.append_assoc, List.singleton_append, hput, List.length_append, List.length_map, go_sem, ↓reduceIte, reduceCtorEq, Nat.reduceLT, Nat.reduceLeDiff, Nat.reduceEqDiff, Nat.reduceAdd, Nat.reduceMul, Nat.reduceSub, Nat.reduceBEq, Int.reduceLT, Int.reduceLE, Int.reduceEq, Int.reduceBEq, Int.reduceNeg]
            repeat' (first | with_reducible apply And.intro | with_reducible intro _ | with_reducible exact drawn (by kernel_rfl) | omega)
      · have he : nputE n addr z = checkV z.A z.R := by unfold nputE; rw [if_pos h0, if_pos h1, if_neg h2]
        rw [bad _ h2 he, he]
        simp -dsimp -implicitDefEqProofs only [h0, go_sem, ↓reduceIte, reduceCtorEq, Nat.reduceLT, Nat.reduceLeDiff, Nat.reduceEqDiff, Nat.reduceAdd, Nat.reduceMul, Nat.reduceSub, Nat.reduceBEq, Int.reduceLT, Int.reduceLE, Int.reduceEq, Int.reduceBEq, Int.reduceNeg]
        refine callP (raddress_ok _) ?_
        simp -dsimp -implicitDefEqProofs only [h1, go_sem, ↓reduceIte, reduceCtorEq, Nat.reduceLT, Nat.reduceLeDiff, Nat.reduceEqDiff, Nat.reduceAdd, Nat.reduceMul, Nat.reduceSub, Nat.reduceBEq, Int.reduceLT, Int.reduceLE, Int.reduceEq, Int.reduceBEq, Int.reduceNeg]
        refine callP (rcheck_ok z.A z.R (by omega)) ?_
        simp -dsimp -implicitDefEqProofs only [h2, noN, go_sem, ↓reduceIte, reduceCtorEq, Nat.reduceLT, Nat.reduceLeDiff, Nat.reduceEqDiff, Nat.reduceAdd, Nat.reduceMul, Nat.reduceSub, Nat.reduceBEq, Int.reduceLT, Int.reduceLE, Int.reduceEq, Int.reduceBEq, Int.reduceNeg]
    · have he : nputE n addr z = 1 := by unfold nputE; rw [if_pos h0, if_neg h1]
      have h1' : addrB addr = false := by simpa using h1
      rw [bad 1 (by decide) he, he]
      simp -dsimp -implicitDefEqProofs only [h0, go_sem, ↓reduceIte, reduceCtorEq, Nat.reduceLT, Nat.reduceLeDiff, Nat.reduceEqDiff, Nat.reduceAdd, Nat.reduceMul, Nat.reduceSub, Nat.reduceBEq, Int.reduceLT, Int.reduceLE, Int.reduceEq, Int.reduceBEq, Int.reduceNeg]
      refine callP (raddress_ok _) ?_
      simp -dsimp -implicitDefEqProofs only [h1', noN, go_sem, ↓reduceIte, reduceCtorEq, Nat.reduceLT, Nat.reduceLeDiff, Nat.reduceEqDiff, Nat.reduceAdd, Nat.reduceMul, Nat.reduceSub, Nat.reduceBEq, Int.reduceLT, Int.reduceLE, Int.reduceEq, Int.reduceBEq, Int.reduceNeg]
  · have he : nputE n addr z = chkN n := by unfold nputE; rw [if_neg h0]
    rw [bad _ h0 he, he]
    simp -dsimp -implicitDefEqProofs only [h0, noN, go_sem, ↓reduceIte, reduceCtorEq, Nat.reduceLT, Nat.reduceLeDiff, Nat.reduceEqDiff, Nat.reduceAdd, Nat.reduceMul, Nat.reduceSub, Nat.reduceBEq, Int.reduceLT, Int.reduceLE, Int.reduceEq, Int.reduceBEq, Int.reduceNeg]
end Go.Proofs.YtidnnaobhcffcaaGreatDoor
namespace Go.Proofs.YtidnnaobhcffcaaGreatDoor
open Go.Eng
set_option linter.unusedSimpArgs false
set_option maxRecDepth 10000

theorem little_len {z : Zn} (h : littleB z = true) : z.R.length ≤ 80 := by
  unfold littleB at h
  simp only [Bool.and_eq_true, decide_eq_true_eq] at h
  exact h.1.2
theorem rsteps13_ok (n : Nt) (addr : Int) (z : Zn) (b : Bn) (hk : ∀ c ∈ n.C, -9223372036854775808 ≤ c.B ∧ c.B ≤ 9223372036854775807) (hw : ∀ c ∈ n.C, c.W.length ≤ 9223372036854775807) :
    Meets Tryz.prog 5 [n.arg, (false, [vI addr]), z.arg, b.arg] (rOne (vB true)) := by
  refine meets Tryz.func5 rfl rfl Tryz.ntmps5 Tryz.results5 rfl ?_
  simp -dsimp -implicitDefEqProofs only [go_sem, ↓reduceIte, reduceCtorEq, Nat.reduceLT, Nat.reduceLeDiff, Nat.reduceEqDiff, Nat.reduceAdd, Nat.reduceMul, Nat.reduceSub, Nat.reduceBEq, Int.reduceLT, Int.reduceLE, Int.reduceEq, Int.reduceBEq, Int.reduceNeg]
  refine callP live13_ok ?_
  simp -dsimp -implicitDefEqProofs only [go_sem, ↓reduceIte, reduceCtorEq, Nat.reduceLT, Nat.reduceLeDiff, Nat.reduceEqDiff, Nat.reduceAdd, Nat.reduceMul, Nat.reduceSub, Nat.reduceBEq, Int.reduceLT, Int.reduceLE, Int.reduceEq, Int.reduceBEq, Int.reduceNeg]
  refine callP (rfewN_ok n) ?_
  simp -dsimp -implicitDefEqProofs only [go_sem, ↓reduceIte, reduceCtorEq, Nat.reduceLT, Nat.reduceLeDiff, Nat.reduceEqDiff, Nat.reduceAdd, Nat.reduceMul, Nat.reduceSub, Nat.reduceBEq, Int.reduceLT, Int.reduceLE, Int.reduceEq, Int.reduceBEq, Int.reduceNeg]
  intro hf
  refine callP (little_ok z) ?_
  · simp -dsimp -implicitDefEqProofs only [go_sem, ↓reduceIte, reduceCtorEq, Nat.reduceLT, Nat.reduceLeDiff, Nat.reduceEqDiff, Nat.reduceAdd, Nat.reduceMul, Nat.reduceSub, Nat.reduceBEq, Int.reduceLT, Int.reduceLE, Int.reduceEq, Int.reduceBEq, Int.reduceNeg]
    intro hl
    have hz := sz_of hf hk hw
    have hfz := few_sz hf
    have hzl := little_len hl
    have hr : z.R.length ≤ 1000 := by omega
    have s1 := put_sz hz (by omega) (fun s hs => by have := hfz.2.2.2.1 s hs; omega) addr hr
    have s2 := bend_sz hz (by omega) b
    have s3 := mend_sz hz b
    refine callP (nput_ok n hz addr z hr) ?_
    simp -dsimp -implicitDefEqProofs only [go_sem, ↓reduceIte, reduceCtorEq, Nat.reduceLT, Nat.reduceLeDiff, Nat.reduceEqDiff, Nat.reduceAdd, Nat.reduceMul, Nat.reduceSub, Nat.reduceBEq, Int.reduceLT, Int.reduceLE, Int.reduceEq, Int.reduceBEq, Int.reduceNeg]
    refine callP (rput13_ok n hz addr z hr) ?_
    simp -dsimp -implicitDefEqProofs only [go_sem, ↓reduceIte, reduceCtorEq, Nat.reduceLT, Nat.reduceLeDiff, Nat.reduceEqDiff, Nat.reduceAdd, Nat.reduceMul, Nat.reduceSub, Nat.reduceBEq, Int.reduceLT, Int.reduceLE, Int.reduceEq, Int.reduceBEq, Int.reduceNeg]
    refine callP (nbend_ok n hz b) ?_
    simp -dsimp -implicitDefEqProofs only [go_sem, ↓reduceIte, reduceCtorEq, Nat.reduceLT, Nat.reduceLeDiff, Nat.reduceEqDiff, Nat.reduceAdd, Nat.reduceMul, Nat.reduceSub, Nat.reduceBEq, Int.reduceLT, Int.reduceLE, Int.reduceEq, Int.reduceBEq, Int.reduceNeg]
    refine callP (rbend_ok n hz b) ?_
    simp -dsimp -implicitDefEqProofs only [go_sem, ↓reduceIte, reduceCtorEq, Nat.reduceLT, Nat.reduceLeDiff, Nat.reduceEqDiff, Nat.reduceAdd, Nat.reduceMul, Nat.reduceSub, Nat.reduceBEq, Int.reduceLT, Int.reduceLE, Int.reduceEq, Int.reduceBEq, Int.reduceNeg]
    refine callP (nmend_ok n hz b) ?_
    simp -dsimp -implicitDefEqProofs only [go_sem, ↓reduceIte, reduceCtorEq, Nat.reduceLT, Nat.reduceLeDiff, Nat.reduceEqDiff, Nat.reduceAdd, Nat.reduceMul, Nat.reduceSub, Nat.reduceBEq, Int.reduceLT, Int.reduceLE, Int.reduceEq, Int.reduceBEq, Int.reduceNeg]
    refine callP (rmend_ok n hz b) ?_
    simp -dsimp -implicitDefEqProofs only [go_sem, ↓reduceIte, reduceCtorEq, Nat.reduceLT, Nat.reduceLeDiff, Nat.reduceEqDiff, Nat.reduceAdd, Nat.reduceMul, Nat.reduceSub, Nat.reduceBEq, Int.reduceLT, Int.reduceLE, Int.reduceEq, Int.reduceBEq, Int.reduceNeg]
    refine callP (sameN_ok (nputN n addr z) (nputN n addr z) s1) ?_
    simp -dsimp -implicitDefEqProofs only [decide_true, go_sem, ↓reduceIte, reduceCtorEq, Nat.reduceLT, Nat.reduceLeDiff, Nat.reduceEqDiff, Nat.reduceAdd, Nat.reduceMul, Nat.reduceSub, Nat.reduceBEq, Int.reduceLT, Int.reduceLE, Int.reduceEq, Int.reduceBEq, Int.reduceNeg]
    refine callP (sameN_ok (nbendN n b) (nbendN n b) s2) ?_
    simp -dsimp -implicitDefEqProofs only [decide_true, go_sem, ↓reduceIte, reduceCtorEq, Nat.reduceLT, Nat.reduceLeDiff, Nat.reduceEqDiff, Nat.reduceAdd, Nat.reduceMul, Nat.reduceSub, Nat.reduceBEq, Int.reduceLT, Int.reduceLE, Int.reduceEq, Int.reduceBEq, Int.reduceNeg]
    refine callP (sameN_ok (nmendN n b) (nmendN n b) s3) ?_
    simp -dsimp -implicitDefEqProofs only [decide_true, go_sem, ↓reduceIte, reduceCtorEq, Nat.reduceLT, Nat.reduceLeDiff, Nat.reduceEqDiff, Nat.reduceAdd, Nat.reduceMul, Nat.reduceSub, Nat.reduceBEq, Int.reduceLT, Int.reduceLE, Int.reduceEq, Int.reduceBEq, Int.reduceNeg]
end Go.Proofs.YtidnnaobhcffcaaGreatDoor
