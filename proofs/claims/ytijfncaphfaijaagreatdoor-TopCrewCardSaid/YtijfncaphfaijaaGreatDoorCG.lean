
/- quorum.Deal. quorum: who, weight, over, product. quorum.Check. -/
import Derived.Test.YtijfncaphfaijaaGreatDoorCF
namespace Go.Proofs.YtijfncaphfaijaaGreatDoor
open Go.Eng
set_option linter.unusedSimpArgs false
set_option maxRecDepth 10000

theorem split_bad (seed : List Int) (secret : Nat) (t n : Int) (hx : secret < 1152921504606845789) (hb : ¬ (1 ≤ t ∧ t ≤ n ∧ n ≤ 7)) :
    Meets Tryz.prog 27 [(false, [vU64 secret]), (false, [vI t]), (false, [vI n]), (false, [vD (byD seed)])] (rTup [(false, [vD (.vec 2 [])]), (false, [vI 1])]) := by
  have c4 : ((1152921504606845789 : Int) ≤ (secret : Int)) = False := by simp; omega
  refine meets Tryz.func27 rfl rfl Tryz.ntmps27 Tryz.results27 rfl ?_
  by_cases h1 : t < 1
  · simp -dsimp -implicitDefEqProofs only [h1, c4, go_sem, ↓reduceIte, reduceCtorEq, Nat.reduceLT, Nat.reduceLeDiff, Nat.reduceEqDiff, Nat.reduceAdd, Nat.reduceMul, Nat.reduceSub, Nat.reduceBEq, Int.reduceLT, Int.reduceLE, Int.reduceEq, Int.reduceBEq, Int.reduceNeg]
  · by_cases h2 : n < t
    · simp -dsimp -implicitDefEqProofs only [h1, h2, c4, go_sem, ↓reduceIte, reduceCtorEq, Nat.reduceLT, Nat.reduceLeDiff, Nat.reduceEqDiff, Nat.reduceAdd, Nat.reduceMul, Nat.reduceSub, Nat.reduceBEq, Int.reduceLT, Int.reduceLE, Int.reduceEq, Int.reduceBEq, Int.reduceNeg]
    · have h3 : 7 < n := by omega
      simp -dsimp -implicitDefEqProofs only [h1, h2, h3, c4, go_sem, ↓reduceIte, reduceCtorEq, Nat.reduceLT, Nat.reduceLeDiff, Nat.reduceEqDiff, Nat.reduceAdd, Nat.reduceMul, Nat.reduceSub, Nat.reduceBEq, Int.reduceLT, Int.reduceLE, Int.reduceEq, Int.reduceBEq, Int.reduceNeg]
theorem sp_ids (seed : List Int) (secret t n : Nat) : (spL seed secret t n).map Sh.id = (List.range n).map (· + 1) := by
  unfold spL
  rw [List.map_map]
  rfl
theorem range_ids (n : Nat) (h0 : 0 < n) (hn : n ≤ 7) : IdsOk ((List.range n).map (· + 1)) := by
  refine ⟨by simpa using h0, by simpa using hn, ?_, fun k hk => ?_⟩
  · rw [List.nodup_iff_pairwise_ne, List.pairwise_map]
    exact List.Pairwise.imp (fun h => by omega) (List.nodup_iff_pairwise_ne.1 List.nodup_range)
  · obtain ⟨i, hi, rfl⟩ := List.mem_map.1 hk
    have := List.mem_range.1 hi
    omega
theorem evN_lt (i : Nat) : ∀ (cs : List Nat) (a b : Nat), a < 1152921504606845789 → evN i cs a b < 1152921504606845789
  | [], _, _, h => h
  | c :: r, a, b, _ => evN_lt i r _ _ (Nat.mod_lt _ (by decide))
theorem sp_lt (seed : List Int) (secret t n : Nat) : ∀ s ∈ spL seed secret t n, s.x < 1152921504606845789 := fun s hs => by
  obtain ⟨k, _, rfl⟩ := List.mem_map.1 hs
  exact evN_lt _ _ _ _ (by decide)
/-- A crew, as cells. -/
structure Cr where
  t : Nat
  n : Nat
  key : Nat
  parts : List Sh
def Cr.cells (c : Cr) : List D := [.v (.int .i64 (c.t : Int)), .v (.int .i64 (c.n : Int)), .v (.int .u64 (c.key : Int)), shD c.parts]
noncomputable def deC (seed : List Int) (t n : Nat) : Cr := ⟨t, n, 4 ^ secN seed % 2305843009213691579, (spL seed (secN seed) t n).map Sh.pub⟩
noncomputable abbrev deL (seed : List Int) (t n : Nat) : List Sh := spL seed (secN seed) t n
theorem deal_ok (seed : List Int) (t n : Nat) (hs : seed.length ≤ 10000) (ht : 1 ≤ t) (htn : t ≤ n) (hn : n ≤ 7) :
    Meets Tryz.prog 7 [(false, [vD (byD seed)]), (false, [vI t]), (false, [vI n])] (rTup [(true, [vI t, vI n, vU64 (deC seed t n).key, vD (shD (deC seed t n).parts)]), (false, [vD (shD (deL seed t n))]), (false, [vI 0])]) := by
  have hr := secN_rng seed hs
  have h1 := secret_ok seed hs
  have h2 := split_ok seed (secN seed) t n hs hr.2 ht htn hn
  have h3 := public_ok (secN seed) hr.1 hr.2
  have h4 := spublic_ok (deL seed t n) (by rw [sp_ids]; exact range_ids n (by omega) hn) (sp_lt seed (secN seed) t n)
  refine meetsF Tryz.func7 rfl rfl Tryz.ntmps7 Tryz.results7 rfl ?_
  simp -dsimp -implicitDefEqProofs only [go_sem, ↓reduceIte, reduceCtorEq, Nat.reduceLT, Nat.reduceLeDiff, Nat.reduceEqDiff, Nat.reduceAdd, Nat.reduceMul, Nat.reduceSub, Nat.reduceBEq, Int.reduceLT, Int.reduceLE, Int.reduceEq, Int.reduceBEq, Int.reduceNeg]
  refine callP h1 ?_
  simp -dsimp -implicitDefEqProofs only [go_sem, ↓reduceIte, reduceCtorEq, Nat.reduceLT, Nat.reduceLeDiff, Nat.reduceEqDiff, Nat.reduceAdd, Nat.reduceMul, Nat.reduceSub, Nat.reduceBEq, Int.reduceLT, Int.reduceLE, Int.reduceEq, Int.reduceBEq, Int.reduceNeg]
  refine callP h2 ?_
  simp -dsimp -implicitDefEqProofs only [go_sem, ↓reduceIte, reduceCtorEq, Nat.reduceLT, Nat.reduceLeDiff, Nat.reduceEqDiff, Nat.reduceAdd, Nat.reduceMul, Nat.reduceSub, Nat.reduceBEq, Int.reduceLT, Int.reduceLE, Int.reduceEq, Int.reduceBEq, Int.reduceNeg]
  refine callP h3 ?_
  simp -dsimp -implicitDefEqProofs only [go_sem, ↓reduceIte, reduceCtorEq, Nat.reduceLT, Nat.reduceLeDiff, Nat.reduceEqDiff, Nat.reduceAdd, Nat.reduceMul, Nat.reduceSub, Nat.reduceBEq, Int.reduceLT, Int.reduceLE, Int.reduceEq, Int.reduceBEq, Int.reduceNeg]
  refine callP h4 ?_
  simp -dsimp -implicitDefEqProofs only [go_sem, ↓reduceIte, reduceCtorEq, Nat.reduceLT, Nat.reduceLeDiff, Nat.reduceEqDiff, Nat.reduceAdd, Nat.reduceMul, Nat.reduceSub, Nat.reduceBEq, Int.reduceLT, Int.reduceLE, Int.reduceEq, Int.reduceBEq, Int.reduceNeg]
  refine retF [280] ?_
  simp -dsimp -implicitDefEqProofs only [go_sem, ↓reduceIte, reduceCtorEq, Nat.reduceLT, Nat.reduceLeDiff, Nat.reduceEqDiff, Nat.reduceAdd, Nat.reduceMul, Nat.reduceSub, Nat.reduceBEq, Int.reduceLT, Int.reduceLE, Int.reduceEq, Int.reduceBEq, Int.reduceNeg]
  exact ⟨rfl, rfl⟩
theorem deal_bad (seed : List Int) (t n : Int) (hs : seed.length ≤ 10000) (hb : ¬ (1 ≤ t ∧ t ≤ n ∧ n ≤ 7)) :
    Meets Tryz.prog 7 [(false, [vD (byD seed)]), (false, [vI t]), (false, [vI n])] (rTup [(true, [vI 0, vI 0, vU64 0, vD (.vec 2 [])]), (false, [vD (.vec 2 [])]), (false, [vI 1])]) := by
  have hr := secN_rng seed hs
  have h1 := secret_ok seed hs
  have h2 := split_bad seed (secN seed) t n hr.2 hb
  refine meets Tryz.func7 rfl rfl Tryz.ntmps7 Tryz.results7 rfl ?_
  simp -dsimp -implicitDefEqProofs only [go_sem, ↓reduceIte, reduceCtorEq, Nat.reduceLT, Nat.reduceLeDiff, Nat.reduceEqDiff, Nat.reduceAdd, Nat.reduceMul, Nat.reduceSub, Nat.reduceBEq, Int.reduceLT, Int.reduceLE, Int.reduceEq, Int.reduceBEq, Int.reduceNeg]
  refine callP h1 ?_
  simp -dsimp -implicitDefEqProofs only [go_sem, ↓reduceIte, reduceCtorEq, Nat.reduceLT, Nat.reduceLeDiff, Nat.reduceEqDiff, Nat.reduceAdd, Nat.reduceMul, Nat.reduceSub, Nat.reduceBEq, Int.reduceLT, Int.reduceLE, Int.reduceEq, Int.reduceBEq, Int.reduceNeg]
  refine callP h2 ?_
  simp -dsimp -implicitDefEqProofs only [go_sem, ↓reduceIte, reduceCtorEq, Nat.reduceLT, Nat.reduceLeDiff, Nat.reduceEqDiff, Nat.reduceAdd, Nat.reduceMul, Nat.reduceSub, Nat.reduceBEq, Int.reduceLT, Int.reduceLE, Int.reduceEq, Int.reduceBEq, Int.reduceNeg]
end Go.Proofs.YtijfncaphfaijaaGreatDoor
namespace Go.Proofs.YtijfncaphfaijaaGreatDoor
open Go.Eng
set_option linter.unusedSimpArgs false
set_option maxRecDepth 10000

theorem who_ok (l : List Sh) (h0 : 0 < l.length) (hl : l.length ≤ 100) : Meets Tryz.prog 33 [(false, [vD (shD l)])] (rOne (.own 1 3 ((l.map Sh.id).map fun (n : Nat) => [.v (.int .i64 (n : Int))]))) := by
  refine meets Tryz.func33 rfl rfl Tryz.ntmps33 Tryz.results33 rfl ?_
  simp -dsimp -implicitDefEqProofs only [go_sem, ↓reduceIte, reduceCtorEq, Nat.reduceLT, Nat.reduceLeDiff, Nat.reduceEqDiff, Nat.reduceAdd, Nat.reduceMul, Nat.reduceSub, Nat.reduceBEq, Int.reduceLT, Int.reduceLE, Int.reduceEq, Int.reduceBEq, Int.reduceNeg]
  refine vownE 3 3 rfl ?_
  refine vfor sitOk (ι := MpInv l) (fun v => ⟨19, [(8, aI v.i), (7, aI l.length), (6, aD (shD l)), (3, aO 40)], [(40, some (.row 1 3 (((l.take v.i).map Sh.id).map fun (n : Nat) => [.v (.int .i64 (n : Int))]) true))], 41⟩) (fun v => l.length - v.i) ⟨0, by omega⟩ ?_ ?_
  · simp -dsimp -implicitDefEqProofs only [go_sem, ↓reduceIte, reduceCtorEq, Nat.reduceLT, Nat.reduceLeDiff, Nat.reduceEqDiff, Nat.reduceAdd, Nat.reduceMul, Nat.reduceSub, Nat.reduceBEq, Int.reduceLT, Int.reduceLE, Int.reduceEq, Int.reduceBEq, Int.reduceNeg]
  intro ⟨i, hi⟩
  by_cases hil : i < l.length
  · have c1 : ((i : Int) < (l.length : Int)) = True := by simp; omega
    obtain ⟨s, hs⟩ := get_of hil
    have w2 : IntKind.i64.wrap ((i : Int) + 1) = ((i + 1 : Nat) : Int) := by rw [wrap64] <;> omega
    have ht : l.take (i + 1) = l.take i ++ [s] := by rw [List.take_add_one, hs]; rfl
    have htl : (l.take i).length ≤ 100 := by rw [List.length_take]; omega
    simp -dsimp -implicitDefEqProofs only [c1, hs, forall_eq', w2, Sh.cells, go_sem, ↓reduceIte, reduceCtorEq, Nat.reduceLT, Nat.reduceLeDiff, Nat.reduceEqDiff, Nat.reduceAdd, Nat.reduceMul, Nat.reduceSub, Nat.reduceBEq, Int.reduceLT, Int.reduceLE, Int.reduceEq, Int.reduceBEq, Int.reduceNeg]
    refine ⟨by omega, hil, ⟨by omega, by omega⟩, againT 40 3 ⟨i + 1, by omega⟩ (by simp; omega) ?_⟩
    simp -dsimp -implicitDefEqProofs only [w2, ht, List.map_append, List.map_cons, List.map_nil, go_sem, ↓reduceIte, reduceCtorEq, Nat.reduceLT, Nat.reduceLeDiff, Nat.reduceEqDiff, Nat.reduceAdd, Nat.reduceMul, Nat.reduceSub, Nat.reduceBEq, Int.reduceLT, Int.reduceLE, Int.reduceEq, Int.reduceBEq, Int.reduceNeg]
  · have c1 : ((i : Int) < (l.length : Int)) = False := by simp; omega
    obtain rfl : i = l.length := by omega
    simp -dsimp -implicitDefEqProofs only [c1, List.take_length, go_sem, ↓reduceIte, reduceCtorEq, Nat.reduceLT, Nat.reduceLeDiff, Nat.reduceEqDiff, Nat.reduceAdd, Nat.reduceMul, Nat.reduceSub, Nat.reduceBEq, Int.reduceLT, Int.reduceLE, Int.reduceEq, Int.reduceBEq, Int.reduceNeg]
/-- A fold over shares. -/
def ovL (g : Nat → Sh → Nat) : List Sh → Nat → Nat
  | [], a => a
  | s :: r, a => ovL g r (g a s)
theorem ovL_prW (g : Sh → Nat) : ∀ (l : List Sh) (a : Nat), ovL (fun a s => a * g s % 2305843009213691579) l a = prW g l a
  | [], _ => rfl
  | _ :: r, _ => ovL_prW g r _
structure OvInv (l : List Sh) (g : Nat → Sh → Nat) (a0 : Nat) where
  i : Nat
  a : Nat
  hi : i ≤ l.length
  ok : ovL g (l.drop i) a = ovL g l a0
  la : a < 18446744073709551616
theorem over_ok (l : List Sh) (a0 : Nat) (f : FuncId) (g : Nat → Sh → Nat) (hl : l.length ≤ 100) (ha : a0 < 18446744073709551616)
    (hg : ∀ s ∈ l, ∀ a, a < 18446744073709551616 → g a s < 18446744073709551616 ∧ Meets Tryz.prog f [(false, [vU64 a]), (true, [vI s.id, vU64 s.x])] (rOne (vU64 (g a s : Nat)))) :
    Meets Tryz.prog 38 [(false, [vD (shD l)]), (false, [vU64 a0]), (false, [vD (.fn f [])])] (rOne (vU64 (ovL g l a0 : Nat))) := by
  refine meets Tryz.func38 rfl rfl Tryz.ntmps38 Tryz.results38 rfl ?_
  simp -dsimp -implicitDefEqProofs only [go_sem, ↓reduceIte, reduceCtorEq, Nat.reduceLT, Nat.reduceLeDiff, Nat.reduceEqDiff, Nat.reduceAdd, Nat.reduceMul, Nat.reduceSub, Nat.reduceBEq, Int.reduceLT, Int.reduceLE, Int.reduceEq, Int.reduceBEq, Int.reduceNeg]
  refine vfor sitOk (ι := OvInv l g a0) (fun v => ⟨21, [(11, aI v.i), (10, aI l.length), (9, aD (shD l)), (1, .cs false [.d (.v (.int .u64 (v.a : Int)))]), (2, aD (.fn f []))], [], 24⟩) (fun v => l.length - v.i) ⟨0, a0, by omega, rfl, ha⟩ ?_ ?_
  · simp -dsimp -implicitDefEqProofs only [go_sem, ↓reduceIte, reduceCtorEq, Nat.reduceLT, Nat.reduceLeDiff, Nat.reduceEqDiff, Nat.reduceAdd, Nat.reduceMul, Nat.reduceSub, Nat.reduceBEq, Int.reduceLT, Int.reduceLE, Int.reduceEq, Int.reduceBEq, Int.reduceNeg]
  intro ⟨i, a, hi, ok, la⟩
  by_cases hil : i < l.length
  · have c1 : ((i : Int) < (l.length : Int)) = True := by simp; omega
    obtain ⟨s, hs⟩ := get_of hil
    have w2 : IntKind.i64.wrap ((i : Int) + 1) = ((i + 1 : Nat) : Int) := by rw [wrap64] <;> omega
    obtain ⟨hg1, hg2⟩ := hg s (List.mem_of_getElem? hs) a la
    rw [drop_get hs, ovL] at ok
    simp -dsimp -implicitDefEqProofs only [c1, hs, forall_eq', Sh.cells, go_sem, ↓reduceIte, reduceCtorEq, Nat.reduceLT, Nat.reduceLeDiff, Nat.reduceEqDiff, Nat.reduceAdd, Nat.reduceMul, Nat.reduceSub, Nat.reduceBEq, Int.reduceLT, Int.reduceLE, Int.reduceEq, Int.reduceBEq, Int.reduceNeg]
    refine ⟨by omega, hil, callP hg2 ?_⟩
    simp -dsimp -implicitDefEqProofs only [go_sem, ↓reduceIte, reduceCtorEq, Nat.reduceLT, Nat.reduceLeDiff, Nat.reduceEqDiff, Nat.reduceAdd, Nat.reduceMul, Nat.reduceSub, Nat.reduceBEq, Int.reduceLT, Int.reduceLE, Int.reduceEq, Int.reduceBEq, Int.reduceNeg]
    refine again ⟨i + 1, g a s, by omega, ok, hg1⟩ (by simp; omega) ?_
    simp -dsimp -implicitDefEqProofs only [w2, go_sem, ↓reduceIte, reduceCtorEq, Nat.reduceLT, Nat.reduceLeDiff, Nat.reduceEqDiff, Nat.reduceAdd, Nat.reduceMul, Nat.reduceSub, Nat.reduceBEq, Int.reduceLT, Int.reduceLE, Int.reduceEq, Int.reduceBEq, Int.reduceNeg]
  · have c1 : ((i : Int) < (l.length : Int)) = False := by simp; omega
    rw [List.drop_eq_nil_iff.2 (by omega), ovL] at ok
    subst ok
    simp -dsimp -implicitDefEqProofs only [c1, go_sem, ↓reduceIte, reduceCtorEq, Nat.reduceLT, Nat.reduceLeDiff, Nat.reduceEqDiff, Nat.reduceAdd, Nat.reduceMul, Nat.reduceSub, Nat.reduceBEq, Int.reduceLT, Int.reduceLE, Int.reduceEq, Int.reduceBEq, Int.reduceNeg]
theorem product_ok (l : List Sh) (f : FuncId) (caps : List D) (g : Sh → Nat) (hl : l.length ≤ 100) (hg : ∀ s ∈ l, g s < 18446744073709551616 ∧ Meets Tryz.prog f ((true, [vI s.id, vU64 s.x]) :: caps.map fun d => (false, [.d d])) (rOne (vU64 (g s : Nat)))) :
    Meets Tryz.prog 89 [(false, [vD (shD l)]), (false, [vD (.fn f caps)])] (rOne (vU64 (prW g l 1 : Nat))) := by
  refine meets Tryz.func89 rfl rfl Tryz.ntmps89 Tryz.results89 rfl ?_
  simp -dsimp -implicitDefEqProofs only [go_sem, ↓reduceIte, reduceCtorEq, Nat.reduceLT, Nat.reduceLeDiff, Nat.reduceEqDiff, Nat.reduceAdd, Nat.reduceMul, Nat.reduceSub, Nat.reduceBEq, Int.reduceLT, Int.reduceLE, Int.reduceEq, Int.reduceBEq, Int.reduceNeg]
  refine callW rfl Tryz.func38 rfl rfl Tryz.ntmps38 Tryz.results38 rfl ?_
  simp -dsimp -implicitDefEqProofs only [retH, go_sem, ↓reduceIte, reduceCtorEq, Nat.reduceLT, Nat.reduceLeDiff, Nat.reduceEqDiff, Nat.reduceAdd, Nat.reduceMul, Nat.reduceSub, Nat.reduceBEq, Int.reduceLT, Int.reduceLE, Int.reduceEq, Int.reduceBEq, Int.reduceNeg]
  refine vfor sitOk (ι := OvInv l (fun a s => a * g s % 2305843009213691579) 1) (fun v => ⟨21, [(11, aI v.i), (10, aI l.length), (9, aD (shD l)), (1, .cs false [.d (.v (.int .u64 (v.a : Int)))]), (2, .cs false [.clo 145 [.ptr 0 0]])], [(0, some (.var [cD (.fn f caps)] true))], 64⟩) (fun v => l.length - v.i) ⟨0, 1, by omega, rfl, by decide⟩ ?_ ?_
  · simp -dsimp -implicitDefEqProofs only [go_sem, ↓reduceIte, reduceCtorEq, Nat.reduceLT, Nat.reduceLeDiff, Nat.reduceEqDiff, Nat.reduceAdd, Nat.reduceMul, Nat.reduceSub, Nat.reduceBEq, Int.reduceLT, Int.reduceLE, Int.reduceEq, Int.reduceBEq, Int.reduceNeg]
  intro ⟨i, a, hi, ok, la⟩
  by_cases hil : i < l.length
  · have c1 : ((i : Int) < (l.length : Int)) = True := by simp; omega
    obtain ⟨s, hs⟩ := get_of hil
    have w2 : IntKind.i64.wrap ((i : Int) + 1) = ((i + 1 : Nat) : Int) := by rw [wrap64] <;> omega
    obtain ⟨hg1, hg2⟩ := hg s (List.mem_of_getElem? hs)
    have h1 := gmul_ok a (g s) la hg1
    rw [drop_get hs, ovL] at ok
    simp -dsimp -implicitDefEqProofs only [c1, hs, forall_eq', Sh.cells, go_sem, ↓reduceIte, reduceCtorEq, Nat.reduceLT, Nat.reduceLeDiff, Nat.reduceEqDiff, Nat.reduceAdd, Nat.reduceMul, Nat.reduceSub, Nat.reduceBEq, Int.reduceLT, Int.reduceLE, Int.reduceEq, Int.reduceBEq, Int.reduceNeg]
    refine ⟨by omega, hil, ?_⟩
    refine callW rfl Tryz.func145 rfl rfl Tryz.ntmps145 Tryz.results145 rfl ?_
    simp -dsimp -implicitDefEqProofs only [retH, go_sem, ↓reduceIte, reduceCtorEq, Nat.reduceLT, Nat.reduceLeDiff, Nat.reduceEqDiff, Nat.reduceAdd, Nat.reduceMul, Nat.reduceSub, Nat.reduceBEq, Int.reduceLT, Int.reduceLE, Int.reduceEq, Int.reduceBEq, Int.reduceNeg]
    refine callP hg2 ?_
    simp -dsimp -implicitDefEqProofs only [retH, go_sem, ↓reduceIte, reduceCtorEq, Nat.reduceLT, Nat.reduceLeDiff, Nat.reduceEqDiff, Nat.reduceAdd, Nat.reduceMul, Nat.reduceSub, Nat.reduceBEq, Int.reduceLT, Int.reduceLE, Int.reduceEq, Int.reduceBEq, Int.reduceNeg]
    refine callP h1 ?_
    simp -dsimp -implicitDefEqProofs only [retH, go_sem, ↓reduceIte, reduceCtorEq, Nat.reduceLT, Nat.reduceLeDiff, Nat.reduceEqDiff, Nat.reduceAdd, Nat.reduceMul, Nat.reduceSub, Nat.reduceBEq, Int.reduceLT, Int.reduceLE, Int.reduceEq, Int.reduceBEq, Int.reduceNeg]
    refine again ⟨i + 1, a * g s % 2305843009213691579, by omega, ok, mod_w (by decide) (by decide)⟩ (by simp; omega) ?_
    simp -dsimp -implicitDefEqProofs only [w2, go_sem, ↓reduceIte, reduceCtorEq, Nat.reduceLT, Nat.reduceLeDiff, Nat.reduceEqDiff, Nat.reduceAdd, Nat.reduceMul, Nat.reduceSub, Nat.reduceBEq, Int.reduceLT, Int.reduceLE, Int.reduceEq, Int.reduceBEq, Int.reduceNeg]
  · have c1 : ((i : Int) < (l.length : Int)) = False := by simp; omega
    rw [List.drop_eq_nil_iff.2 (by omega), ovL] at ok
    have ok' : a = prW g l 1 := by rw [ok, ovL_prW]
    subst ok'
    simp -dsimp -implicitDefEqProofs only [c1, retH, go_sem, ↓reduceIte, reduceCtorEq, Nat.reduceLT, Nat.reduceLeDiff, Nat.reduceEqDiff, Nat.reduceAdd, Nat.reduceMul, Nat.reduceSub, Nat.reduceBEq, Int.reduceLT, Int.reduceLE, Int.reduceEq, Int.reduceBEq, Int.reduceNeg]
theorem qweight_ok (l : List Sh) (id : Nat) (h : IdsOk (l.map Sh.id)) (hm : id ∈ l.map Sh.id) (hw : LwOk (l.map Sh.id) 0) : Meets Tryz.prog 141 [(false, [vD (shD l)]), (false, [vI id])] (rOne (vU64 (lwt (l.map Sh.id) 0 id : Nat))) := by
  have hl : l.length ≤ 7 := by have := h.hl; rwa [List.length_map] at this
  have hl0 : 0 < l.length := by have := h.h0; rwa [List.length_map] at this
  have h1 := who_ok l hl0 (by omega)
  have h2 := weight_ok (l.map Sh.id) id h hm hw
  refine meets Tryz.func141 rfl rfl Tryz.ntmps141 Tryz.results141 rfl ?_
  simp -dsimp -implicitDefEqProofs only [go_sem, ↓reduceIte, reduceCtorEq, Nat.reduceLT, Nat.reduceLeDiff, Nat.reduceEqDiff, Nat.reduceAdd, Nat.reduceMul, Nat.reduceSub, Nat.reduceBEq, Int.reduceLT, Int.reduceLE, Int.reduceEq, Int.reduceBEq, Int.reduceNeg]
  refine callP h1 ?_
  simp -dsimp -implicitDefEqProofs only [go_sem, ↓reduceIte, reduceCtorEq, Nat.reduceLT, Nat.reduceLeDiff, Nat.reduceEqDiff, Nat.reduceAdd, Nat.reduceMul, Nat.reduceSub, Nat.reduceBEq, Int.reduceLT, Int.reduceLE, Int.reduceEq, Int.reduceBEq, Int.reduceNeg]
  refine callP h2 ?_
  simp -dsimp -implicitDefEqProofs only [go_sem, ↓reduceIte, reduceCtorEq, Nat.reduceLT, Nat.reduceLeDiff, Nat.reduceEqDiff, Nat.reduceAdd, Nat.reduceMul, Nat.reduceSub, Nat.reduceBEq, Int.reduceLT, Int.reduceLE, Int.reduceEq, Int.reduceBEq, Int.reduceNeg]
end Go.Proofs.YtijfncaphfaijaaGreatDoor
namespace Go.Proofs.YtijfncaphfaijaaGreatDoor
open Go.Eng
set_option linter.unusedSimpArgs false
set_option maxRecDepth 10000

/-- The product of some parts by their weights, the closure over a box. -/
theorem prodC_ok (F : List Sh) (h : IdsOk (F.map Sh.id)) (hx : ∀ s ∈ F, s.x < 18446744073709551616) (hw : LwOk (F.map Sh.id) 0) :
    MeetsO Tryz.prog 89 [(false, [.d (shD F)]), (false, [.clo 143 [.ptr 368 0]])] [(368, .var [.d (shD F)] true)] [(368, .var [.d (shD F)] true)] (aU (prW (fW (F.map Sh.id) 0) F 1)) := by
  have hl : F.length ≤ 7 := by have := h.hl; rwa [List.length_map] at this
  refine meetsO 400 rfl Tryz.func89 rfl rfl Tryz.ntmps89 Tryz.results89 rfl ?_
  simp -dsimp -implicitDefEqProofs only [retH, go_sem, ↓reduceIte, reduceCtorEq, Nat.reduceLT, Nat.reduceLeDiff, Nat.reduceEqDiff, Nat.reduceAdd, Nat.reduceMul, Nat.reduceSub, Nat.reduceBEq, Int.reduceLT, Int.reduceLE, Int.reduceEq, Int.reduceBEq, Int.reduceNeg]
  refine callW rfl Tryz.func38 rfl rfl Tryz.ntmps38 Tryz.results38 rfl ?_
  simp -dsimp -implicitDefEqProofs only [retH, go_sem, ↓reduceIte, reduceCtorEq, Nat.reduceLT, Nat.reduceLeDiff, Nat.reduceEqDiff, Nat.reduceAdd, Nat.reduceMul, Nat.reduceSub, Nat.reduceBEq, Int.reduceLT, Int.reduceLE, Int.reduceEq, Int.reduceBEq, Int.reduceNeg]
  refine vfor sitOk (ι := OvInv F (fun a s => a * fW (F.map Sh.id) 0 s % 2305843009213691579) 1) (fun v => ⟨21, [(11, aI v.i), (10, aI F.length), (9, aD (shD F)), (1, .cs false [.d (.v (.int .u64 (v.a : Int)))]), (2, .cs false [.clo 145 [.ptr 400 0]])], [(400, some (.var [.clo 143 [.ptr 368 0]] true)), (368, some (.var [.d (shD F)] true))], 464⟩) (fun v => F.length - v.i) ⟨0, 1, by omega, rfl, by decide⟩ ?_ ?_
  · simp -dsimp -implicitDefEqProofs only [go_sem, ↓reduceIte, reduceCtorEq, Nat.reduceLT, Nat.reduceLeDiff, Nat.reduceEqDiff, Nat.reduceAdd, Nat.reduceMul, Nat.reduceSub, Nat.reduceBEq, Int.reduceLT, Int.reduceLE, Int.reduceEq, Int.reduceBEq, Int.reduceNeg]
  intro ⟨i, a, hi, ok, la⟩
  by_cases hil : i < F.length
  · have c1 : ((i : Int) < (F.length : Int)) = True := by simp; omega
    obtain ⟨s, hs⟩ := get_of hil
    have hsm := List.mem_of_getElem? hs
    have w2 : IntKind.i64.wrap ((i : Int) + 1) = ((i + 1 : Nat) : Int) := by rw [wrap64] <;> omega
    have hlt := lwt_lt (F.map Sh.id) 0 s.id
    have h0 := qweight_ok F s.id h (List.mem_map.2 ⟨s, hsm, rfl⟩) hw
    have h1 := pow_ok s.x (lwt (F.map Sh.id) 0 s.id) (hx s hsm) (by omega)
    have h2 := gmul_ok a (fW (F.map Sh.id) 0 s) la (mod_w (by decide) (by decide))
    rw [drop_get hs, ovL] at ok
    simp -dsimp -implicitDefEqProofs only [c1, hs, forall_eq', Sh.cells, go_sem, ↓reduceIte, reduceCtorEq, Nat.reduceLT, Nat.reduceLeDiff, Nat.reduceEqDiff, Nat.reduceAdd, Nat.reduceMul, Nat.reduceSub, Nat.reduceBEq, Int.reduceLT, Int.reduceLE, Int.reduceEq, Int.reduceBEq, Int.reduceNeg]
    refine ⟨by omega, hil, ?_⟩
    refine callW rfl Tryz.func145 rfl rfl Tryz.ntmps145 Tryz.results145 rfl ?_
    simp -dsimp -implicitDefEqProofs only [retH, go_sem, ↓reduceIte, reduceCtorEq, Nat.reduceLT, Nat.reduceLeDiff, Nat.reduceEqDiff, Nat.reduceAdd, Nat.reduceMul, Nat.reduceSub, Nat.reduceBEq, Int.reduceLT, Int.reduceLE, Int.reduceEq, Int.reduceBEq, Int.reduceNeg]
    refine callW rfl Tryz.func143 rfl rfl Tryz.ntmps143 Tryz.results143 rfl ?_
    simp -dsimp -implicitDefEqProofs only [retH, go_sem, ↓reduceIte, reduceCtorEq, Nat.reduceLT, Nat.reduceLeDiff, Nat.reduceEqDiff, Nat.reduceAdd, Nat.reduceMul, Nat.reduceSub, Nat.reduceBEq, Int.reduceLT, Int.reduceLE, Int.reduceEq, Int.reduceBEq, Int.reduceNeg]
    refine callP h0 ?_
    simp -dsimp -implicitDefEqProofs only [retH, go_sem, ↓reduceIte, reduceCtorEq, Nat.reduceLT, Nat.reduceLeDiff, Nat.reduceEqDiff, Nat.reduceAdd, Nat.reduceMul, Nat.reduceSub, Nat.reduceBEq, Int.reduceLT, Int.reduceLE, Int.reduceEq, Int.reduceBEq, Int.reduceNeg]
    refine callP h1 ?_
    simp -dsimp -implicitDefEqProofs only [retH, go_sem, ↓reduceIte, reduceCtorEq, Nat.reduceLT, Nat.reduceLeDiff, Nat.reduceEqDiff, Nat.reduceAdd, Nat.reduceMul, Nat.reduceSub, Nat.reduceBEq, Int.reduceLT, Int.reduceLE, Int.reduceEq, Int.reduceBEq, Int.reduceNeg]
    refine ⟨drawn (by kernel_rfl), ?_⟩
    refine callP h2 ?_
    simp -dsimp -implicitDefEqProofs only [retH, go_sem, ↓reduceIte, reduceCtorEq, Nat.reduceLT, Nat.reduceLeDiff, Nat.reduceEqDiff, Nat.reduceAdd, Nat.reduceMul, Nat.reduceSub, Nat.reduceBEq, Int.reduceLT, Int.reduceLE, Int.reduceEq, Int.reduceBEq, Int.reduceNeg]
    refine again ⟨i + 1, a * fW (F.map Sh.id) 0 s % 2305843009213691579, by omega, ok, mod_w (by decide) (by decide)⟩ (by simp; omega) ?_
    simp -dsimp -implicitDefEqProofs only [w2, go_sem, ↓reduceIte, reduceCtorEq, Nat.reduceLT, Nat.reduceLeDiff, Nat.reduceEqDiff, Nat.reduceAdd, Nat.reduceMul, Nat.reduceSub, Nat.reduceBEq, Int.reduceLT, Int.reduceLE, Int.reduceEq, Int.reduceBEq, Int.reduceNeg]
  · have c1 : ((i : Int) < (F.length : Int)) = False := by simp; omega
    rw [List.drop_eq_nil_iff.2 (by omega), ovL] at ok
    have ok' : a = prW (fW (F.map Sh.id) 0) F 1 := by rw [ok, ovL_prW]
    subst ok'
    simp -dsimp -implicitDefEqProofs only [c1, retH, go_sem, ↓reduceIte, reduceCtorEq, Nat.reduceLT, Nat.reduceLeDiff, Nat.reduceEqDiff, Nat.reduceAdd, Nat.reduceMul, Nat.reduceSub, Nat.reduceBEq, Int.reduceLT, Int.reduceLE, Int.reduceEq, Int.reduceBEq, Int.reduceNeg]
/-- A crew that is right. -/
structure CrOk (c : Cr) : Prop where
  t1 : 1 ≤ c.t
  tn : c.t ≤ c.n
  n7 : c.n ≤ 7
  pl : c.parts.length = c.n
  key : InG c.key
  id : ∀ i s, c.parts[i]? = some s → s.id = i + 1
  pk : PkOk c.t c.parts
  lw : LwOk ((c.parts.take c.t).map Sh.id) 0
  pr : prW (fW ((c.parts.take c.t).map Sh.id) 0) (c.parts.take c.t) 1 = c.key
theorem qcheck_ok (c : Cr) (h : CrOk c) : Meets Tryz.prog 87 [(true, [vI c.t, vI c.n, vU64 c.key, vD (shD c.parts)])] (rOne (vI 0)) := by
  obtain ⟨t, n, key, l⟩ := c
  obtain ⟨t1, tn, n7, pl, hkey, hid, pk, lw, pr⟩ := h
  simp only at t1 tn n7 pl hkey hid pk lw pr
  have c1 : ((t : Int) < 1) = False := by simp; omega
  have c2 : ((n : Int) < (t : Int)) = False := by simp; omega
  have c3 : ((7 : Int) < (n : Int)) = False := by simp; omega
  have c4 : ((l.length : Int) = (n : Int)) = True := by simp; omega
  have h1 := inG_ok hkey
  have h2 := scheck_ok t l pk
  refine meets Tryz.func87 rfl rfl Tryz.ntmps87 Tryz.results87 rfl ?_
  simp -dsimp -implicitDefEqProofs only [c1, c2, c3, c4, go_sem, ↓reduceIte, reduceCtorEq, Nat.reduceLT, Nat.reduceLeDiff, Nat.reduceEqDiff, Nat.reduceAdd, Nat.reduceMul, Nat.reduceSub, Nat.reduceBEq, Int.reduceLT, Int.reduceLE, Int.reduceEq, Int.reduceBEq, Int.reduceNeg]
  refine callP h1 ?_
  simp -dsimp -implicitDefEqProofs only [go_sem, ↓reduceIte, reduceCtorEq, Nat.reduceLT, Nat.reduceLeDiff, Nat.reduceEqDiff, Nat.reduceAdd, Nat.reduceMul, Nat.reduceSub, Nat.reduceBEq, Int.reduceLT, Int.reduceLE, Int.reduceEq, Int.reduceBEq, Int.reduceNeg]
  refine vfor sitOk (ι := MpInv l) (fun v => ⟨75, [(39, aI v.i), (38, aI l.length), (37, aD (shD l)), (1, aP 0 0)], [(0, some (.var [cI t, cI n, cU key, cD (shD l)] true))], 256⟩) (fun v => l.length - v.i) ⟨0, by omega⟩ ?_ ?_
  · simp -dsimp -implicitDefEqProofs only [go_sem, ↓reduceIte, reduceCtorEq, Nat.reduceLT, Nat.reduceLeDiff, Nat.reduceEqDiff, Nat.reduceAdd, Nat.reduceMul, Nat.reduceSub, Nat.reduceBEq, Int.reduceLT, Int.reduceLE, Int.reduceEq, Int.reduceBEq, Int.reduceNeg]
  intro ⟨i, hi⟩
  by_cases hil : i < l.length
  · have d1 : ((i : Int) < (l.length : Int)) = True := by simp; omega
    obtain ⟨s, hs⟩ := get_of hil
    have w2 : IntKind.i64.wrap ((i : Int) + 1) = ((i + 1 : Nat) : Int) := by rw [wrap64] <;> omega
    have hsi := hid i s hs
    have d2 : ((s.id : Int) = ((i + 1 : Nat) : Int)) = True := by rw [hsi]; simp
    have h3 := inG_ok (pk.inn s (List.mem_of_getElem? hs))
    simp -dsimp -implicitDefEqProofs only [d1, hs, forall_eq', Sh.cells, w2, d2, go_sem, ↓reduceIte, reduceCtorEq, Nat.reduceLT, Nat.reduceLeDiff, Nat.reduceEqDiff, Nat.reduceAdd, Nat.reduceMul, Nat.reduceSub, Nat.reduceBEq, Int.reduceLT, Int.reduceLE, Int.reduceEq, Int.reduceBEq, Int.reduceNeg]
    refine ⟨by omega, hil, callP h3 ?_⟩
    simp -dsimp -implicitDefEqProofs only [go_sem, ↓reduceIte, reduceCtorEq, Nat.reduceLT, Nat.reduceLeDiff, Nat.reduceEqDiff, Nat.reduceAdd, Nat.reduceMul, Nat.reduceSub, Nat.reduceBEq, Int.reduceLT, Int.reduceLE, Int.reduceEq, Int.reduceBEq, Int.reduceNeg]
    refine again ⟨i + 1, by omega⟩ (by simp; omega) ?_
    simp -dsimp -implicitDefEqProofs only [w2, go_sem, ↓reduceIte, reduceCtorEq, Nat.reduceLT, Nat.reduceLeDiff, Nat.reduceEqDiff, Nat.reduceAdd, Nat.reduceMul, Nat.reduceSub, Nat.reduceBEq, Int.reduceLT, Int.reduceLE, Int.reduceEq, Int.reduceBEq, Int.reduceNeg]
  · have d1 : ((i : Int) < (l.length : Int)) = False := by simp; omega
    have d2 : ((t : Int) = 0) = False := by simp; omega
    have e2 : List.take t (l.map Sh.cells) = (l.take t).map Sh.cells := by rw [List.map_take]
    simp -dsimp -implicitDefEqProofs only [d1, go_sem, ↓reduceIte, reduceCtorEq, Nat.reduceLT, Nat.reduceLeDiff, Nat.reduceEqDiff, Nat.reduceAdd, Nat.reduceMul, Nat.reduceSub, Nat.reduceBEq, Int.reduceLT, Int.reduceLE, Int.reduceEq, Int.reduceBEq, Int.reduceNeg]
    refine callP h2 ?_
    simp -dsimp -implicitDefEqProofs only [d2, Int.toNat_natCast, e2, go_sem, ↓reduceIte, reduceCtorEq, Nat.reduceLT, Nat.reduceLeDiff, Nat.reduceEqDiff, Nat.reduceAdd, Nat.reduceMul, Nat.reduceSub, Nat.reduceBEq, Int.reduceLT, Int.reduceLE, Int.reduceEq, Int.reduceBEq, Int.reduceNeg]
    have hmem : ∀ s ∈ l.take t, s ∈ l := fun s hs => List.mem_of_mem_take hs
    have h4 := prodC_ok (l.take t) ⟨by rw [List.length_map, List.length_take]; omega, by rw [List.length_map, List.length_take]; omega, by rw [List.map_take]; exact (List.take_sublist _ _).nodup pk.ids.nd, fun k hk => by rw [List.map_take] at hk; exact pk.ids.all k (List.mem_of_mem_take hk)⟩ (fun s hs => by have := (pk.inn s (hmem s hs)).2.1; omega) lw
    rw [pr] at h4
    refine ⟨by omega, callO h4 rfl ?_⟩
    simp -dsimp -implicitDefEqProofs only [go_sem, ↓reduceIte, reduceCtorEq, Nat.reduceLT, Nat.reduceLeDiff, Nat.reduceEqDiff, Nat.reduceAdd, Nat.reduceMul, Nat.reduceSub, Nat.reduceBEq, Int.reduceLT, Int.reduceLE, Int.reduceEq, Int.reduceBEq, Int.reduceNeg]
    exact drawn (by kernel_rfl)
end Go.Proofs.YtijfncaphfaijaaGreatDoor
