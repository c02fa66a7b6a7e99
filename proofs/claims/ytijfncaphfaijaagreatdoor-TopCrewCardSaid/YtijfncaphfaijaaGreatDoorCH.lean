
/- quorum: nonce, Commit. quorum: a session's looks. quorum: Part. quorum: Combine. -/
import Derived.Test.YtijfncaphfaijaaGreatDoorCG
namespace Go.Proofs.YtijfncaphfaijaaGreatDoor
open Go.Eng
set_option linter.unusedSimpArgs false
set_option maxRecDepth 10000

def comT : ByteArray := ⟨#[99, 111, 109, 109, 105, 116]⟩
noncomputable abbrev ncP (s : Sh) (ses : Nat) (msg : List Int) : List (List Int) := [putL s.x 8, putL s.id 8, putL ses 8, msg]
noncomputable def ncN (s : Sh) (ses : Nat) (msg : List Int) : Nat := tagN 1152921504606845788 comT (ncP s ses msg) + 1
theorem nc_fl (s : Sh) (ses : Nat) (msg : List Int) (h : msg.length ≤ 10000) : (frmL (ncP s ses msg)).length ≤ 549755813888 := by simp [frmL, putL_len]; omega
theorem ncN_rng (s : Sh) (ses : Nat) (msg : List Int) (h : msg.length ≤ 10000) : 0 < ncN s ses msg ∧ ncN s ses msg < 1152921504606845789 := by
  have := tagN_lt1 comT (ncP s ses msg) (by decide) (nc_fl s ses msg h)
  unfold ncN
  omega
abbrev byF : Int → List D := fun b => [.v (.int .u8 b)]
theorem pl_take (a b : Int) : List.take 8 ((putL a 8 ++ putL b 8).map byF) = byR (putL a 8) := by
  rw [List.map_append]
  exact List.take_left' (by rw [List.length_map, putL_len])
theorem pl_drop (a b : Int) : List.drop 8 (List.take (putL a 8 ++ putL b 8).length ((putL a 8 ++ putL b 8).map byF)) = byR (putL b 8) := by
  rw [List.take_of_length_le (by rw [List.length_map]; exact Nat.le_refl _), List.map_append]
  exact List.drop_left' (by rw [List.length_map, putL_len])
theorem tn8 : Int.toNat 8 = 8 := rfl
theorem nonce_ok (s : Sh) (ses : Nat) (msg : List Int) (hi : s.id < 100) (hs : ses < 1152921504606845789) (h : msg.length ≤ 10000) :
    Meets Tryz.prog 83 [(true, [vI s.id, vU64 s.x]), (false, [vI ses]), (false, [vD (byD msg)])] (rOne (vU64 (ncN s ses msg : Nat))) := by
  have hl := nc_fl s ses msg h
  have h1 := bytes_ok s.x s.id
  have h2 := bytes_ok ses 0
  have h3 := tagged_ok comT (ncP s ses msg) (by decide) hl
  have hsn := sumN_ok (frm comT (ncP s ses msg)) (by rw [frm_len]; have : comT.size = 6 := rfl; omega)
  obtain ⟨h4, h5⟩ := numN_ok lzR1 _ _ hsn.1 hsn.2.1
  have w1 : IntKind.u64.wrap (s.id : Int) = ((s.id : Nat) : Int) := wS _ (by omega)
  have w2 : IntKind.u64.wrap (ses : Int) = ((ses : Nat) : Int) := wS _ (by omega)
  have w3 : IntKind.u64.wrap (1 + ((numN 1152921504606845788 (sumN (frm comT (ncP s ses msg))).a (sumN (frm comT (ncP s ses msg))).b : Nat) : Int)) = ((ncN s ses msg : Nat) : Int) := by
    rw [IntKind.wrap_u64]; unfold ncN tagN; omega
  refine meets Tryz.func83 rfl rfl Tryz.ntmps83 Tryz.results83 rfl ?_
  simp -dsimp -implicitDefEqProofs only [w1, w2, go_sem, ↓reduceIte, reduceCtorEq, Nat.reduceLT, Nat.reduceLeDiff, Nat.reduceEqDiff, Nat.reduceAdd, Nat.reduceMul, Nat.reduceSub, Nat.reduceBEq, Int.reduceLT, Int.reduceLE, Int.reduceEq, Int.reduceBEq, Int.reduceNeg]
  refine callP h1 ?_
  simp -dsimp -implicitDefEqProofs only [w1, w2, go_sem, ↓reduceIte, reduceCtorEq, Nat.reduceLT, Nat.reduceLeDiff, Nat.reduceEqDiff, Nat.reduceAdd, Nat.reduceMul, Nat.reduceSub, Nat.reduceBEq, Int.reduceLT, Int.reduceLE, Int.reduceEq, Int.reduceBEq, Int.reduceNeg]
  refine callP h2 ?_
  have l1 : (putL (s.x : Int) 8 ++ putL (s.id : Int) 8).length = 16 := by rw [List.length_append, putL_len, putL_len]
  have l2 : (putL (ses : Int) 8 ++ putL 0 8).length = 16 := by rw [List.length_append, putL_len, putL_len]
  have t1 := pl_take (s.x : Int) (s.id : Int)
  have t2 := pl_drop (s.x : Int) (s.id : Int)
  have t3 := pl_take (ses : Int) 0
  rw [l1] at t2
  simp -dsimp -implicitDefEqProofs only [tn8, l1, l2, t1, t2, t3, go_sem, ↓reduceIte, reduceCtorEq, Nat.reduceLT, Nat.reduceLeDiff, Nat.reduceEqDiff, Nat.reduceAdd, Nat.reduceMul, Nat.reduceSub, Nat.reduceBEq, Int.reduceLT, Int.reduceLE, Int.reduceEq, Int.reduceBEq, Int.reduceNeg]
  refine callP h3 ?_
  simp -dsimp -implicitDefEqProofs only [go_sem, ↓reduceIte, reduceCtorEq, Nat.reduceLT, Nat.reduceLeDiff, Nat.reduceEqDiff, Nat.reduceAdd, Nat.reduceMul, Nat.reduceSub, Nat.reduceBEq, Int.reduceLT, Int.reduceLE, Int.reduceEq, Int.reduceBEq, Int.reduceNeg]
  refine callP h5 ?_
  simp -dsimp -implicitDefEqProofs only [w3, go_sem, ↓reduceIte, reduceCtorEq, Nat.reduceLT, Nat.reduceLeDiff, Nat.reduceEqDiff, Nat.reduceAdd, Nat.reduceMul, Nat.reduceSub, Nat.reduceBEq, Int.reduceLT, Int.reduceLE, Int.reduceEq, Int.reduceBEq, Int.reduceNeg]
  exact drawn (by kernel_rfl)
theorem commit_ok (s : Sh) (ses : Nat) (msg : List Int) (h1 : 1 ≤ s.id) (h7 : s.id ≤ 7) (hx : s.x < 1152921504606845789) (hs : ses ≤ 1099511627776) (h : msg.length ≤ 10000) :
    Meets Tryz.prog 29 [(true, [vI s.id, vU64 s.x]), (false, [vI ses]), (false, [vD (byD msg)])] (rTup [(true, [vI s.id, vU64 (4 ^ ncN s ses msg % 2305843009213691579 : Nat)]), (false, [vI 0])]) := by
  have hn := nonce_ok s ses msg (by omega) (by omega) h
  have hr := ncN_rng s ses msg h
  have hb := base_ok (ncN s ses msg) (by omega)
  have c1 : ((s.id : Int) < 1) = False := by simp; omega
  have c2 : ((7 : Int) < (s.id : Int)) = False := by simp; omega
  have c3 : ((1152921504606845789 : Int) ≤ (s.x : Int)) = False := by simp; omega
  have c4 : ((ses : Int) < 0) = False := by simp
  have c5 : ((1099511627776 : Int) < (ses : Int)) = False := by simp; omega
  refine meets Tryz.func29 rfl rfl Tryz.ntmps29 Tryz.results29 rfl ?_
  simp -dsimp -implicitDefEqProofs only [c1, c2, c3, c4, c5, go_sem, ↓reduceIte, reduceCtorEq, Nat.reduceLT, Nat.reduceLeDiff, Nat.reduceEqDiff, Nat.reduceAdd, Nat.reduceMul, Nat.reduceSub, Nat.reduceBEq, Int.reduceLT, Int.reduceLE, Int.reduceEq, Int.reduceBEq, Int.reduceNeg]
  refine callP hn ?_
  simp -dsimp -implicitDefEqProofs only [go_sem, ↓reduceIte, reduceCtorEq, Nat.reduceLT, Nat.reduceLeDiff, Nat.reduceEqDiff, Nat.reduceAdd, Nat.reduceMul, Nat.reduceSub, Nat.reduceBEq, Int.reduceLT, Int.reduceLE, Int.reduceEq, Int.reduceBEq, Int.reduceNeg]
  refine callP hb ?_
  simp -dsimp -implicitDefEqProofs only [go_sem, ↓reduceIte, reduceCtorEq, Nat.reduceLT, Nat.reduceLeDiff, Nat.reduceEqDiff, Nat.reduceAdd, Nat.reduceMul, Nat.reduceSub, Nat.reduceBEq, Int.reduceLT, Int.reduceLE, Int.reduceEq, Int.reduceBEq, Int.reduceNeg]
  exact drawn (by kernel_rfl)
end Go.Proofs.YtijfncaphfaijaaGreatDoor
namespace Go.Proofs.YtijfncaphfaijaaGreatDoor
open Go.Eng
set_option linter.unusedSimpArgs false
set_option maxRecDepth 10000

/-- A session, behind its pointer. -/
abbrev seD (c : Cr) (msg : List Int) (l : List Sh) : D := .pt [.v (.int .i64 (c.t : Int)), .v (.int .i64 (c.n : Int)), .v (.int .u64 (c.key : Int)), shD c.parts, byD msg, shD l]
structure CmOk (c : Cr) (l : List Sh) : Prop where
  inn : ∀ s ∈ l, InG s.x
  idn : ∀ s ∈ l, s.id ≤ c.n
  id1 : ∀ s ∈ l, 1 ≤ s.id
  up : l.Pairwise fun a b => a.id < b.id
  len : c.t ≤ l.length
  l7 : l.length ≤ 7
structure EnInv (l : List Sh) where
  i : Nat
  last : Nat
  hi : i ≤ l.length
  hl : ∀ s ∈ l.drop i, last < s.id
  hb : last < 100
theorem crew_ok (c : Cr) (msg : List Int) (l : List Sh) (h : CrOk c) : Meets Tryz.prog 36 [(false, [vD (seD c msg l)])] (rOne (vI 0)) := by
  have h1 := qcheck_ok c h
  refine meets Tryz.func36 rfl rfl Tryz.ntmps36 Tryz.results36 rfl ?_
  simp -dsimp -implicitDefEqProofs only [go_sem, ↓reduceIte, reduceCtorEq, Nat.reduceLT, Nat.reduceLeDiff, Nat.reduceEqDiff, Nat.reduceAdd, Nat.reduceMul, Nat.reduceSub, Nat.reduceBEq, Int.reduceLT, Int.reduceLE, Int.reduceEq, Int.reduceBEq, Int.reduceNeg]
  refine callP h1 ?_
  simp -dsimp -implicitDefEqProofs only [go_sem, ↓reduceIte, reduceCtorEq, Nat.reduceLT, Nat.reduceLeDiff, Nat.reduceEqDiff, Nat.reduceAdd, Nat.reduceMul, Nat.reduceSub, Nat.reduceBEq, Int.reduceLT, Int.reduceLE, Int.reduceEq, Int.reduceBEq, Int.reduceNeg]
theorem enough_ok (c : Cr) (msg : List Int) (l : List Sh) (h : CmOk c l) (hn : c.n ≤ 7) : Meets Tryz.prog 37 [(false, [vD (seD c msg l)])] (rOne (vI 0)) := by
  have hl7 := h.l7
  refine meets Tryz.func37 rfl rfl Tryz.ntmps37 Tryz.results37 rfl ?_
  simp -dsimp -implicitDefEqProofs only [go_sem, ↓reduceIte, reduceCtorEq, Nat.reduceLT, Nat.reduceLeDiff, Nat.reduceEqDiff, Nat.reduceAdd, Nat.reduceMul, Nat.reduceSub, Nat.reduceBEq, Int.reduceLT, Int.reduceLE, Int.reduceEq, Int.reduceBEq, Int.reduceNeg]
  refine vfor sitOk (ι := EnInv l) (fun v => ⟨48, [(11, aI v.i), (10, aI l.length), (9, aD (shD l)), (3, aI v.last), (0, aD (seD c msg l))], [], 64⟩) (fun v => l.length - v.i) ⟨0, 0, by omega, fun s hs => h.id1 s hs, by omega⟩ ?_ ?_
  · simp -dsimp -implicitDefEqProofs only [go_sem, ↓reduceIte, reduceCtorEq, Nat.reduceLT, Nat.reduceLeDiff, Nat.reduceEqDiff, Nat.reduceAdd, Nat.reduceMul, Nat.reduceSub, Nat.reduceBEq, Int.reduceLT, Int.reduceLE, Int.reduceEq, Int.reduceBEq, Int.reduceNeg]
  intro ⟨i, last, hi, hl, hb⟩
  by_cases hil : i < l.length
  · have c1 : ((i : Int) < (l.length : Int)) = True := by simp; omega
    obtain ⟨s, hs⟩ := get_of hil
    have hsm := List.mem_of_getElem? hs
    have w2 : IntKind.i64.wrap ((i : Int) + 1) = ((i + 1 : Nat) : Int) := by rw [wrap64] <;> omega
    have hdr := drop_get hs
    rw [hdr] at hl
    have hls := hl s (List.mem_cons_self ..)
    have hidn := h.idn s hsm
    have c2 : ((last : Int) < (s.id : Int)) = True := by simp; omega
    have c3 : ((s.id : Int) ≤ (c.n : Int)) = True := by simp; omega
    have h3 := inG_ok (h.inn s hsm)
    have hup : (l.drop i).Pairwise fun a b => a.id < b.id := h.up.sublist (List.drop_sublist _ _)
    rw [hdr, List.pairwise_cons] at hup
    simp -dsimp -implicitDefEqProofs only [c1, hs, forall_eq', Sh.cells, c2, c3, go_sem, ↓reduceIte, reduceCtorEq, Nat.reduceLT, Nat.reduceLeDiff, Nat.reduceEqDiff, Nat.reduceAdd, Nat.reduceMul, Nat.reduceSub, Nat.reduceBEq, Int.reduceLT, Int.reduceLE, Int.reduceEq, Int.reduceBEq, Int.reduceNeg]
    refine ⟨by omega, hil, ⟨callP h3 ?_, fun h => by omega⟩, fun h => by omega⟩
    simp -dsimp -implicitDefEqProofs only [go_sem, ↓reduceIte, reduceCtorEq, Nat.reduceLT, Nat.reduceLeDiff, Nat.reduceEqDiff, Nat.reduceAdd, Nat.reduceMul, Nat.reduceSub, Nat.reduceBEq, Int.reduceLT, Int.reduceLE, Int.reduceEq, Int.reduceBEq, Int.reduceNeg]
    refine ⟨drawn (by kernel_rfl), again ⟨i + 1, s.id, by omega, hup.1, by omega⟩ (by simp; omega) ?_⟩
    simp -dsimp -implicitDefEqProofs only [w2, go_sem, ↓reduceIte, reduceCtorEq, Nat.reduceLT, Nat.reduceLeDiff, Nat.reduceEqDiff, Nat.reduceAdd, Nat.reduceMul, Nat.reduceSub, Nat.reduceBEq, Int.reduceLT, Int.reduceLE, Int.reduceEq, Int.reduceBEq, Int.reduceNeg]
  · have c1 : ((i : Int) < (l.length : Int)) = False := by simp; omega
    have hlen := h.len
    have c2 : ((l.length : Int) < (c.t : Int)) = False := by simp; omega
    simp -dsimp -implicitDefEqProofs only [c1, c2, go_sem, ↓reduceIte, reduceCtorEq, Nat.reduceLT, Nat.reduceLeDiff, Nat.reduceEqDiff, Nat.reduceAdd, Nat.reduceMul, Nat.reduceSub, Nat.reduceBEq, Int.reduceLT, Int.reduceLE, Int.reduceEq, Int.reduceBEq, Int.reduceNeg]
    exact drawn (by kernel_rfl)
theorem challenge1_ok (s : Sh) : Meets Tryz.prog 90 [(true, [vI s.id, vU64 s.x])] (rOne (vU64 s.x)) := by
  refine meets Tryz.func90 rfl rfl Tryz.ntmps90 Tryz.results90 rfl ?_
  simp -dsimp -implicitDefEqProofs only [go_sem, ↓reduceIte, reduceCtorEq, Nat.reduceLT, Nat.reduceLeDiff, Nat.reduceEqDiff, Nat.reduceAdd, Nat.reduceMul, Nat.reduceSub, Nat.reduceBEq, Int.reduceLT, Int.reduceLE, Int.reduceEq, Int.reduceBEq, Int.reduceNeg]
def allC (l : List Sh) : Nat := prW Sh.x l 1
theorem prW_lt (g : Sh → Nat) : ∀ (l : List Sh) (a : Nat), a < 2305843009213691579 → prW g l a < 2305843009213691579
  | [], _, h => h
  | s :: r, a, _ => prW_lt g r _ (Nat.mod_lt _ (by decide))
noncomputable def chC (c : Cr) (msg : List Int) (l : List Sh) : Nat := chaN (allC l) c.key msg
theorem schallenge_ok (c : Cr) (msg : List Int) (l : List Sh) (hl : l.length ≤ 7) (hx : ∀ s ∈ l, s.x < 18446744073709551616) (hm : msg.length ≤ 10000) : Meets Tryz.prog 41 [(false, [vD (seD c msg l)])] (rOne (vU64 (chC c msg l : Nat))) := by
  have h1 := product_ok l 90 [] Sh.x (by omega) (fun s hs => ⟨hx s hs, challenge1_ok s⟩)
  have h2 := challenge_ok (allC l) c.key msg hm
  refine meets Tryz.func41 rfl rfl Tryz.ntmps41 Tryz.results41 rfl ?_
  simp -dsimp -implicitDefEqProofs only [go_sem, ↓reduceIte, reduceCtorEq, Nat.reduceLT, Nat.reduceLeDiff, Nat.reduceEqDiff, Nat.reduceAdd, Nat.reduceMul, Nat.reduceSub, Nat.reduceBEq, Int.reduceLT, Int.reduceLE, Int.reduceEq, Int.reduceBEq, Int.reduceNeg]
  refine callP h1 ?_
  simp -dsimp -implicitDefEqProofs only [go_sem, ↓reduceIte, reduceCtorEq, Nat.reduceLT, Nat.reduceLeDiff, Nat.reduceEqDiff, Nat.reduceAdd, Nat.reduceMul, Nat.reduceSub, Nat.reduceBEq, Int.reduceLT, Int.reduceLE, Int.reduceEq, Int.reduceBEq, Int.reduceNeg]
  refine callP h2 ?_
  simp -dsimp -implicitDefEqProofs only [go_sem, ↓reduceIte, reduceCtorEq, Nat.reduceLT, Nat.reduceLeDiff, Nat.reduceEqDiff, Nat.reduceAdd, Nat.reduceMul, Nat.reduceSub, Nat.reduceBEq, Int.reduceLT, Int.reduceLE, Int.reduceEq, Int.reduceBEq, Int.reduceNeg]
  exact ⟨drawn (by kernel_rfl), rfl⟩
structure OfInv2 (l : List Sh) (s : Sh) where
  i : Nat
  hi : i ≤ l.length
  hn : ∀ q ∈ l.take i, q.id ≠ s.id
theorem of_ok2 (c : Cr) (msg : List Int) (l : List Sh) (s : Sh) (hl : l.length ≤ 7) (hm : s ∈ l) (hu : ∀ q ∈ l, q.id = s.id → q = s) : Meets Tryz.prog 85 [(false, [vD (seD c msg l)]), (false, [vI s.id])] (rTup [(true, [vI s.id, vU64 s.x]), (false, [vB true])]) := by
  refine meets Tryz.func85 rfl rfl Tryz.ntmps85 Tryz.results85 rfl ?_
  simp -dsimp -implicitDefEqProofs only [go_sem, ↓reduceIte, reduceCtorEq, Nat.reduceLT, Nat.reduceLeDiff, Nat.reduceEqDiff, Nat.reduceAdd, Nat.reduceMul, Nat.reduceSub, Nat.reduceBEq, Int.reduceLT, Int.reduceLE, Int.reduceEq, Int.reduceBEq, Int.reduceNeg]
  refine callW rfl Tryz.func139 rfl rfl Tryz.ntmps139 Tryz.results139 rfl ?_
  simp -dsimp -implicitDefEqProofs only [retH, go_sem, ↓reduceIte, reduceCtorEq, Nat.reduceLT, Nat.reduceLeDiff, Nat.reduceEqDiff, Nat.reduceAdd, Nat.reduceMul, Nat.reduceSub, Nat.reduceBEq, Int.reduceLT, Int.reduceLE, Int.reduceEq, Int.reduceBEq, Int.reduceNeg]
  refine vfor sitOk (ι := OfInv2 l s) (fun v => ⟨19, [(8, aI v.i), (7, aI l.length), (6, aD (shD l)), (0, aD (shD l)), (1, .cs false [.clo 140 [.ptr 0 0]])], [(8, some (.var [cI 0, cU 0] true)), (0, some (.var [cI s.id] true))], 96⟩) (fun v => l.length - v.i) ⟨0, by omega, by simp⟩ ?_ ?_
  · simp -dsimp -implicitDefEqProofs only [go_sem, ↓reduceIte, reduceCtorEq, Nat.reduceLT, Nat.reduceLeDiff, Nat.reduceEqDiff, Nat.reduceAdd, Nat.reduceMul, Nat.reduceSub, Nat.reduceBEq, Int.reduceLT, Int.reduceLE, Int.reduceEq, Int.reduceBEq, Int.reduceNeg]
  intro ⟨i, hi, hn⟩
  have hil : i < l.length := by
    by_cases hil : i < l.length
    · exact hil
    · rw [List.take_of_length_le (by omega)] at hn
      exact absurd rfl (hn s hm)
  have c1 : ((i : Int) < (l.length : Int)) = True := by simp; omega
  obtain ⟨q, hq⟩ := get_of hil
  have w2 : IntKind.i64.wrap ((i : Int) + 1) = ((i + 1 : Nat) : Int) := by rw [wrap64] <;> omega
  by_cases hki : q.id = s.id
  · have c2 : ((q.id : Int) = (s.id : Int)) = True := by simp; omega
    obtain rfl := hu q (List.mem_of_getElem? hq) hki
    have c3 : ((i : Int) < 0) = False := by simp
    simp -dsimp -implicitDefEqProofs only [c1, hq, forall_eq', Sh.cells, go_sem, ↓reduceIte, reduceCtorEq, Nat.reduceLT, Nat.reduceLeDiff, Nat.reduceEqDiff, Nat.reduceAdd, Nat.reduceMul, Nat.reduceSub, Nat.reduceBEq, Int.reduceLT, Int.reduceLE, Int.reduceEq, Int.reduceBEq, Int.reduceNeg]
    refine ⟨by omega, hil, ?_⟩
    refine callW rfl Tryz.func140 rfl rfl Tryz.ntmps140 Tryz.results140 rfl ?_
    simp -dsimp -implicitDefEqProofs only [retH, c3, hq, forall_eq', Sh.cells, go_sem, ↓reduceIte, reduceCtorEq, Nat.reduceLT, Nat.reduceLeDiff, Nat.reduceEqDiff, Nat.reduceAdd, Nat.reduceMul, Nat.reduceSub, Nat.reduceBEq, Int.reduceLT, Int.reduceLE, Int.reduceEq, Int.reduceBEq, Int.reduceNeg]
    exact ⟨by omega, hil⟩
  · have c2 : ((q.id : Int) = (s.id : Int)) = False := by simp; omega
    simp -dsimp -implicitDefEqProofs only [c1, hq, forall_eq', Sh.cells, go_sem, ↓reduceIte, reduceCtorEq, Nat.reduceLT, Nat.reduceLeDiff, Nat.reduceEqDiff, Nat.reduceAdd, Nat.reduceMul, Nat.reduceSub, Nat.reduceBEq, Int.reduceLT, Int.reduceLE, Int.reduceEq, Int.reduceBEq, Int.reduceNeg]
    refine ⟨by omega, hil, ?_⟩
    refine callW rfl Tryz.func140 rfl rfl Tryz.ntmps140 Tryz.results140 rfl ?_
    simp -dsimp -implicitDefEqProofs only [retH, c2, go_sem, ↓reduceIte, reduceCtorEq, Nat.reduceLT, Nat.reduceLeDiff, Nat.reduceEqDiff, Nat.reduceAdd, Nat.reduceMul, Nat.reduceSub, Nat.reduceBEq, Int.reduceLT, Int.reduceLE, Int.reduceEq, Int.reduceBEq, Int.reduceNeg]
    refine again ⟨i + 1, by omega, fun x hx => ?_⟩ (by simp; omega) ?_
    · rw [List.take_add_one, hq] at hx
      rcases List.mem_append.1 hx with hx | hx
      · exact hn x hx
      · simp only [Option.toList_some, List.mem_singleton] at hx
        rw [hx]; exact hki
    simp -dsimp -implicitDefEqProofs only [w2, go_sem, ↓reduceIte, reduceCtorEq, Nat.reduceLT, Nat.reduceLeDiff, Nat.reduceEqDiff, Nat.reduceAdd, Nat.reduceMul, Nat.reduceSub, Nat.reduceBEq, Int.reduceLT, Int.reduceLE, Int.reduceEq, Int.reduceBEq, Int.reduceNeg]
end Go.Proofs.YtijfncaphfaijaaGreatDoor
namespace Go.Proofs.YtijfncaphfaijaaGreatDoor
open Go.Eng
set_option linter.unusedSimpArgs false
set_option maxRecDepth 10000

noncomputable def scN (c : Cr) (msg : List Int) (l : List Sh) (id : Nat) : Nat := chC c msg l * lwt (l.map Sh.id) 0 id % 1152921504606845789
theorem cm_ids {c : Cr} {l : List Sh} (h : CmOk c l) (h1 : 1 ≤ c.t) (hn : c.n ≤ 7) : IdsOk (l.map Sh.id) := by
  refine ⟨by rw [List.length_map]; have := h.len; omega, by rw [List.length_map]; exact h.l7, ?_, fun k hk => ?_⟩
  · rw [List.nodup_iff_pairwise_ne, List.pairwise_map]
    exact h.up.imp fun h => by omega
  · obtain ⟨s, hs, rfl⟩ := List.mem_map.1 hk
    have := h.idn s hs
    exact ⟨h.id1 s hs, by omega⟩
theorem scaled_ok (c : Cr) (msg : List Int) (l : List Sh) (id : Nat) (h : CmOk c l) (h1 : 1 ≤ c.t) (hn : c.n ≤ 7) (hw : LwOk (l.map Sh.id) 0) (hid : id ∈ l.map Sh.id) (hm : msg.length ≤ 10000) :
    Meets Tryz.prog 86 [(false, [vD (seD c msg l)]), (false, [vI id])] (rOne (vU64 (scN c msg l id : Nat))) := by
  have h2 := schallenge_ok c msg l h.l7 (fun s hs => by have := (h.inn s hs).2.1; omega) hm
  have h3 := qweight_ok l id (cm_ids h h1 hn) hid hw
  have hc : chC c msg l < 1152921504606845789 := chaN_lt _ _ _ hm
  have hl := lwt_lt (l.map Sh.id) 0 id
  have h4 := mulR_ok (chC c msg l) (lwt (l.map Sh.id) 0 id) (by omega) (by omega)
  refine meets Tryz.func86 rfl rfl Tryz.ntmps86 Tryz.results86 rfl ?_
  simp -dsimp -implicitDefEqProofs only [go_sem, ↓reduceIte, reduceCtorEq, Nat.reduceLT, Nat.reduceLeDiff, Nat.reduceEqDiff, Nat.reduceAdd, Nat.reduceMul, Nat.reduceSub, Nat.reduceBEq, Int.reduceLT, Int.reduceLE, Int.reduceEq, Int.reduceBEq, Int.reduceNeg]
  refine callP h2 ?_
  simp -dsimp -implicitDefEqProofs only [go_sem, ↓reduceIte, reduceCtorEq, Nat.reduceLT, Nat.reduceLeDiff, Nat.reduceEqDiff, Nat.reduceAdd, Nat.reduceMul, Nat.reduceSub, Nat.reduceBEq, Int.reduceLT, Int.reduceLE, Int.reduceEq, Int.reduceBEq, Int.reduceNeg]
  refine callP h3 ?_
  simp -dsimp -implicitDefEqProofs only [go_sem, ↓reduceIte, reduceCtorEq, Nat.reduceLT, Nat.reduceLeDiff, Nat.reduceEqDiff, Nat.reduceAdd, Nat.reduceMul, Nat.reduceSub, Nat.reduceBEq, Int.reduceLT, Int.reduceLE, Int.reduceEq, Int.reduceBEq, Int.reduceNeg]
  refine callP h4 ?_
  simp -dsimp -implicitDefEqProofs only [go_sem, ↓reduceIte, reduceCtorEq, Nat.reduceLT, Nat.reduceLeDiff, Nat.reduceEqDiff, Nat.reduceAdd, Nat.reduceMul, Nat.reduceSub, Nat.reduceBEq, Int.reduceLT, Int.reduceLE, Int.reduceEq, Int.reduceBEq, Int.reduceNeg]
  exact ⟨drawn (by kernel_rfl), rfl⟩
noncomputable def paN (c : Cr) (msg : List Int) (l : List Sh) (s : Sh) (ses : Nat) : Nat := (ncN s ses msg + scN c msg l s.id * s.x % 1152921504606845789) % 1152921504606845789
theorem pw_one {l : List Sh} (h : l.Pairwise fun a b => a.id < b.id) {q s : Sh} (hq : q ∈ l) (hs : s ∈ l) (he : q.id = s.id) : q = s := by
  induction l with
  | nil => cases hq
  | cons x r ih =>
    rw [List.pairwise_cons] at h
    rcases List.mem_cons.1 hq with h1 | h1
    · rcases List.mem_cons.1 hs with h2 | h2
      · rw [h1, h2]
      · have := h.1 s h2; rw [h1] at he; omega
    · rcases List.mem_cons.1 hs with h2 | h2
      · have := h.1 q h1; rw [h2] at he; omega
      · exact ih h.2 h1 h2
noncomputable def cmN (s : Sh) (ses : Nat) (msg : List Int) : Sh := ⟨s.id, 4 ^ ncN s ses msg % 2305843009213691579⟩
theorem part_ok (c : Cr) (s : Sh) (ses : Nat) (msg : List Int) (l : List Sh) (hc : CrOk c) (h : CmOk c l) (hw : LwOk (l.map Sh.id) 0) (hs1 : 1 ≤ s.id) (hs7 : s.id ≤ 7) (hx : s.x < 1152921504606845789) (hses : ses ≤ 1099511627776) (hm : msg.length ≤ 10000)
    (hin : cmN s ses msg ∈ l) : Meets Tryz.prog 30 [(true, [vI c.t, vI c.n, vU64 c.key, vD (shD c.parts)]), (true, [vI s.id, vU64 s.x]), (false, [vI ses]), (false, [vD (byD msg)]), (false, [vD (shD l)])] (rTup [(true, [vI s.id, vU64 (paN c msg l s ses : Nat)]), (false, [vI 0])]) := by
  refine meetsA Tryz.func30 rfl rfl Tryz.ntmps30 Tryz.results30 rfl ?_
  refine vstep sitOk ?_
  simp -dsimp -implicitDefEqProofs only [go_sem, ↓reduceIte, reduceCtorEq, Nat.reduceLT, Nat.reduceLeDiff, Nat.reduceEqDiff, Nat.reduceAdd, Nat.reduceMul, Nat.reduceSub, Nat.reduceBEq, Int.reduceLT, Int.reduceLE, Int.reduceEq, Int.reduceBEq, Int.reduceNeg]
  refine vstep sitOk ?_
  simp -dsimp -implicitDefEqProofs only [go_sem, ↓reduceIte, reduceCtorEq, Nat.reduceLT, Nat.reduceLeDiff, Nat.reduceEqDiff, Nat.reduceAdd, Nat.reduceMul, Nat.reduceSub, Nat.reduceBEq, Int.reduceLT, Int.reduceLE, Int.reduceEq, Int.reduceBEq, Int.reduceNeg]
  refine vfz sitOk 80 ?_
  simp -dsimp -implicitDefEqProofs only [go_sem, ↓reduceIte, reduceCtorEq, Nat.reduceLT, Nat.reduceLeDiff, Nat.reduceEqDiff, Nat.reduceAdd, Nat.reduceMul, Nat.reduceSub, Nat.reduceBEq, Int.reduceLT, Int.reduceLE, Int.reduceEq, Int.reduceBEq, Int.reduceNeg]
  refine callW rfl Tryz.func35 rfl rfl Tryz.ntmps35 Tryz.results35 rfl ?_
  simp -dsimp -implicitDefEqProofs only [retH, go_sem, ↓reduceIte, reduceCtorEq, Nat.reduceLT, Nat.reduceLeDiff, Nat.reduceEqDiff, Nat.reduceAdd, Nat.reduceMul, Nat.reduceSub, Nat.reduceBEq, Int.reduceLT, Int.reduceLE, Int.reduceEq, Int.reduceBEq, Int.reduceNeg]
  refine vrounds 4 sitOk ?_
  simp -dsimp -implicitDefEqProofs only [retH, go_sem, ↓reduceIte, reduceCtorEq, Nat.reduceLT, Nat.reduceLeDiff, Nat.reduceEqDiff, Nat.reduceAdd, Nat.reduceMul, Nat.reduceSub, Nat.reduceBEq, Int.reduceLT, Int.reduceLE, Int.reduceEq, Int.reduceBEq, Int.reduceNeg]
  refine vround ?_
  simp -dsimp -implicitDefEqProofs only [retH, tn1, tn2, go_sem, ↓reduceIte, reduceCtorEq, Nat.reduceLT, Nat.reduceLeDiff, Nat.reduceEqDiff, Nat.reduceAdd, Nat.reduceMul, Nat.reduceSub, Nat.reduceBEq, Int.reduceLT, Int.reduceLE, Int.reduceEq, Int.reduceBEq, Int.reduceNeg]
  refine callP (crew_ok c msg l hc) ?_
  simp -dsimp -implicitDefEqProofs only [retH, i01, go_sem, ↓reduceIte, reduceCtorEq, Nat.reduceLT, Nat.reduceLeDiff, Nat.reduceEqDiff, Nat.reduceAdd, Nat.reduceMul, Nat.reduceSub, Nat.reduceBEq, Int.reduceLT, Int.reduceLE, Int.reduceEq, Int.reduceBEq, Int.reduceNeg]
  refine vround ?_
  simp -dsimp -implicitDefEqProofs only [retH, tn1, tn2, go_sem, ↓reduceIte, reduceCtorEq, Nat.reduceLT, Nat.reduceLeDiff, Nat.reduceEqDiff, Nat.reduceAdd, Nat.reduceMul, Nat.reduceSub, Nat.reduceBEq, Int.reduceLT, Int.reduceLE, Int.reduceEq, Int.reduceBEq, Int.reduceNeg]
  refine callW rfl Tryz.func84 rfl rfl Tryz.ntmps84 Tryz.results84 rfl ?_
  simp -dsimp -implicitDefEqProofs only [retH, go_sem, ↓reduceIte, reduceCtorEq, Nat.reduceLT, Nat.reduceLeDiff, Nat.reduceEqDiff, Nat.reduceAdd, Nat.reduceMul, Nat.reduceSub, Nat.reduceBEq, Int.reduceLT, Int.reduceLE, Int.reduceEq, Int.reduceBEq, Int.reduceNeg]
  refine callP (commit_ok s ses msg hs1 hs7 hx hses hm) ?_
  simp -dsimp -implicitDefEqProofs only [retH, i12, go_sem, ↓reduceIte, reduceCtorEq, Nat.reduceLT, Nat.reduceLeDiff, Nat.reduceEqDiff, Nat.reduceAdd, Nat.reduceMul, Nat.reduceSub, Nat.reduceBEq, Int.reduceLT, Int.reduceLE, Int.reduceEq, Int.reduceBEq, Int.reduceNeg]
  refine vround ?_
  simp -dsimp -implicitDefEqProofs only [retH, tn1, tn2, go_sem, ↓reduceIte, reduceCtorEq, Nat.reduceLT, Nat.reduceLeDiff, Nat.reduceEqDiff, Nat.reduceAdd, Nat.reduceMul, Nat.reduceSub, Nat.reduceBEq, Int.reduceLT, Int.reduceLE, Int.reduceEq, Int.reduceBEq, Int.reduceNeg]
  refine callP (enough_ok c msg l h hc.n7) ?_
  simp -dsimp -implicitDefEqProofs only [retH, i23, go_sem, ↓reduceIte, reduceCtorEq, Nat.reduceLT, Nat.reduceLeDiff, Nat.reduceEqDiff, Nat.reduceAdd, Nat.reduceMul, Nat.reduceSub, Nat.reduceBEq, Int.reduceLT, Int.reduceLE, Int.reduceEq, Int.reduceBEq, Int.reduceNeg]
  refine vround ?_
  simp -dsimp -implicitDefEqProofs only [retH, go_sem, ↓reduceIte, reduceCtorEq, Nat.reduceLT, Nat.reduceLeDiff, Nat.reduceEqDiff, Nat.reduceAdd, Nat.reduceMul, Nat.reduceSub, Nat.reduceBEq, Int.reduceLT, Int.reduceLE, Int.reduceEq, Int.reduceBEq, Int.reduceNeg]
  obtain ⟨cm, hcm, hci, hcx⟩ : ∃ cm : Sh, cm ∈ l ∧ cm.id = s.id ∧ cm.x = 4 ^ ncN s ses msg % 2305843009213691579 := ⟨_, hin, by rw [cmN], by rw [cmN]⟩
  have hof := of_ok2 c msg l cm h.l7 hcm fun q hq he => pw_one h.up hq hcm he
  rw [hci, hcx] at hof
  have hno := nonce_ok s ses msg (by omega) (by omega) hm
  have hsc := scaled_ok c msg l s.id h hc.t1 hc.n7 hw (List.mem_map.2 ⟨cm, hcm, hci⟩) hm
  have hscl : scN c msg l s.id < 1152921504606845789 := Nat.mod_lt _ (by decide)
  have hmu := mulR_ok (scN c msg l s.id) s.x (by omega) (by omega)
  have had := addR_ok (ncN s ses msg) (scN c msg l s.id * s.x % 1152921504606845789)
  refine callP hof ?_
  simp -dsimp -implicitDefEqProofs only [go_sem, ↓reduceIte, reduceCtorEq, Nat.reduceLT, Nat.reduceLeDiff, Nat.reduceEqDiff, Nat.reduceAdd, Nat.reduceMul, Nat.reduceSub, Nat.reduceBEq, Int.reduceLT, Int.reduceLE, Int.reduceEq, Int.reduceBEq, Int.reduceNeg]
  refine callP hno ?_
  simp -dsimp -implicitDefEqProofs only [go_sem, ↓reduceIte, reduceCtorEq, Nat.reduceLT, Nat.reduceLeDiff, Nat.reduceEqDiff, Nat.reduceAdd, Nat.reduceMul, Nat.reduceSub, Nat.reduceBEq, Int.reduceLT, Int.reduceLE, Int.reduceEq, Int.reduceBEq, Int.reduceNeg]
  refine callP hsc ?_
  simp -dsimp -implicitDefEqProofs only [go_sem, ↓reduceIte, reduceCtorEq, Nat.reduceLT, Nat.reduceLeDiff, Nat.reduceEqDiff, Nat.reduceAdd, Nat.reduceMul, Nat.reduceSub, Nat.reduceBEq, Int.reduceLT, Int.reduceLE, Int.reduceEq, Int.reduceBEq, Int.reduceNeg]
  refine callP hmu ?_
  simp -dsimp -implicitDefEqProofs only [go_sem, ↓reduceIte, reduceCtorEq, Nat.reduceLT, Nat.reduceLeDiff, Nat.reduceEqDiff, Nat.reduceAdd, Nat.reduceMul, Nat.reduceSub, Nat.reduceBEq, Int.reduceLT, Int.reduceLE, Int.reduceEq, Int.reduceBEq, Int.reduceNeg]
  refine callP had ?_
  simp -dsimp -implicitDefEqProofs only [go_sem, ↓reduceIte, reduceCtorEq, Nat.reduceLT, Nat.reduceLeDiff, Nat.reduceEqDiff, Nat.reduceAdd, Nat.reduceMul, Nat.reduceSub, Nat.reduceBEq, Int.reduceLT, Int.reduceLE, Int.reduceEq, Int.reduceBEq, Int.reduceNeg]
  exact ⟨drawn (by kernel_rfl), by rw [paN]⟩
end Go.Proofs.YtijfncaphfaijaaGreatDoor
namespace Go.Proofs.YtijfncaphfaijaaGreatDoor
open Go.Eng
set_option linter.unusedSimpArgs false
set_option maxRecDepth 10000

/-- Some objects are frozen; the walk goes on. -/
theorem vfzL {E : Sit} (hE : SitOk E) (fz : List Nat) {st : St} {x : Code} {Q : Exit → St → Prop} (hk : vo (st.freezeL fz) fun st' => vc E x Q st') : AWp E x Q st :=
  let ⟨_, hs, hk⟩ := hk; awp_weak (fun _ _ _ _ => RelE.freezeL hs) (awp_vc hE hk)
/-- A part that is right. -/
structure RtOk (c : Cr) (msg : List Int) (l : List Sh) (p : Sh) : Prop where
  x : p.x < 1152921504606845789
  ex : ∃ cm pk : Sh, cm ∈ l ∧ cm.id = p.id ∧ c.parts[p.id - 1]? = some pk ∧ 4 ^ p.x % 2305843009213691579 = cm.x * (pk.x ^ scN c msg l p.id % 2305843009213691579) % 2305843009213691579
theorem qright_ok (c : Cr) (msg : List Int) (l : List Sh) (p : Sh) (hc : CrOk c) (h : CmOk c l) (hw : LwOk (l.map Sh.id) 0) (hm : msg.length ≤ 10000) (hr : RtOk c msg l p) :
    Meets Tryz.prog 34 [(false, [vD (seD c msg l)]), (true, [vI p.id, vU64 p.x])] (rOne (vI 0)) := by
  obtain ⟨cm, pk, hcm, hci, hpk, he⟩ := hr.ex
  have hx := hr.x
  have hcin := h.inn cm hcm
  have hid1 := h.id1 cm hcm
  have hidn := h.idn cm hcm
  have hn7 := hc.n7
  have hof := of_ok2 c msg l cm h.l7 hcm fun q hq he => pw_one h.up hq hcm he
  rw [hci] at hof
  have hpin := hc.pk.inn pk (List.mem_of_getElem? hpk)
  have hb := base_ok p.x (by omega)
  have hsc := scaled_ok c msg l p.id h hc.t1 hc.n7 hw (List.mem_map.2 ⟨cm, hcm, hci⟩) hm
  have hscl : scN c msg l p.id < 1152921504606845789 := Nat.mod_lt _ (by decide)
  have hp := pow_ok pk.x (scN c msg l p.id) (by have := hpin.2.1; omega) (by omega)
  have hmu := gmul_ok cm.x (pk.x ^ scN c msg l p.id % 2305843009213691579) (by have := hcin.2.1; omega) (mod_w (by decide) (by decide))
  rw [← he] at hmu
  have c1 : ((1152921504606845789 : Int) ≤ (p.x : Int)) = False := by simp; omega
  have w1 : IntKind.i64.wrap ((p.id : Int) - 1) = ((p.id - 1 : Nat) : Int) := by rw [wrap64] <;> omega
  refine meets Tryz.func34 rfl rfl Tryz.ntmps34 Tryz.results34 rfl ?_
  simp -dsimp -implicitDefEqProofs only [go_sem, ↓reduceIte, reduceCtorEq, Nat.reduceLT, Nat.reduceLeDiff, Nat.reduceEqDiff, Nat.reduceAdd, Nat.reduceMul, Nat.reduceSub, Nat.reduceBEq, Int.reduceLT, Int.reduceLE, Int.reduceEq, Int.reduceBEq, Int.reduceNeg]
  refine callP hof ?_
  simp -dsimp -implicitDefEqProofs only [c1, go_sem, ↓reduceIte, reduceCtorEq, Nat.reduceLT, Nat.reduceLeDiff, Nat.reduceEqDiff, Nat.reduceAdd, Nat.reduceMul, Nat.reduceSub, Nat.reduceBEq, Int.reduceLT, Int.reduceLE, Int.reduceEq, Int.reduceBEq, Int.reduceNeg]
  refine callP hb ?_
  simp -dsimp -implicitDefEqProofs only [w1, hpk, forall_eq', Sh.cells, go_sem, ↓reduceIte, reduceCtorEq, Nat.reduceLT, Nat.reduceLeDiff, Nat.reduceEqDiff, Nat.reduceAdd, Nat.reduceMul, Nat.reduceSub, Nat.reduceBEq, Int.reduceLT, Int.reduceLE, Int.reduceEq, Int.reduceBEq, Int.reduceNeg]
  have hpl := (List.getElem?_eq_some_iff.1 hpk).1
  refine ⟨by omega, hpl, callP hsc ?_⟩
  simp -dsimp -implicitDefEqProofs only [go_sem, ↓reduceIte, reduceCtorEq, Nat.reduceLT, Nat.reduceLeDiff, Nat.reduceEqDiff, Nat.reduceAdd, Nat.reduceMul, Nat.reduceSub, Nat.reduceBEq, Int.reduceLT, Int.reduceLE, Int.reduceEq, Int.reduceBEq, Int.reduceNeg]
  refine callP hp ?_
  simp -dsimp -implicitDefEqProofs only [go_sem, ↓reduceIte, reduceCtorEq, Nat.reduceLT, Nat.reduceLeDiff, Nat.reduceEqDiff, Nat.reduceAdd, Nat.reduceMul, Nat.reduceSub, Nat.reduceBEq, Int.reduceLT, Int.reduceLE, Int.reduceEq, Int.reduceBEq, Int.reduceNeg]
  refine callP hmu ?_
  simp -dsimp -implicitDefEqProofs only [go_sem, ↓reduceIte, reduceCtorEq, Nat.reduceLT, Nat.reduceLeDiff, Nat.reduceEqDiff, Nat.reduceAdd, Nat.reduceMul, Nat.reduceSub, Nat.reduceBEq, Int.reduceLT, Int.reduceLE, Int.reduceEq, Int.reduceBEq, Int.reduceNeg]
  exact drawn (by kernel_rfl)
theorem equal_ok (ids : List Nat) (hl : ids.length ≤ 100) : Meets Tryz.prog 32 [(false, [vD (idD ids)]), (false, [vD (idD ids)])] (rOne (vB true)) := by
  refine meets Tryz.func32 rfl rfl Tryz.ntmps32 Tryz.results32 rfl ?_
  simp -dsimp -implicitDefEqProofs only [go_sem, ↓reduceIte, reduceCtorEq, Nat.reduceLT, Nat.reduceLeDiff, Nat.reduceEqDiff, Nat.reduceAdd, Nat.reduceMul, Nat.reduceSub, Nat.reduceBEq, Int.reduceLT, Int.reduceLE, Int.reduceEq, Int.reduceBEq, Int.reduceNeg]
  refine vfor sitOk (ι := RgInv ids) (fun v => ⟨26, [(13, aI v.i), (12, aI ids.length), (0, aD (idD ids)), (1, aD (idD ids))], [], 80⟩) (fun v => ids.length - v.i) ⟨0, by omega⟩ ?_ ?_
  · simp -dsimp -implicitDefEqProofs only [go_sem, ↓reduceIte, reduceCtorEq, Nat.reduceLT, Nat.reduceLeDiff, Nat.reduceEqDiff, Nat.reduceAdd, Nat.reduceMul, Nat.reduceSub, Nat.reduceBEq, Int.reduceLT, Int.reduceLE, Int.reduceEq, Int.reduceBEq, Int.reduceNeg]
  intro ⟨i, hi⟩
  by_cases hil : i < ids.length
  · have c1 : ((i : Int) < (ids.length : Int)) = True := by simp; omega
    obtain ⟨k, hk⟩ := get_of hil
    have w2 : IntKind.i64.wrap ((i : Int) + 1) = ((i + 1 : Nat) : Int) := by rw [wrap64] <;> omega
    simp -dsimp -implicitDefEqProofs only [c1, hk, forall_eq', go_sem, ↓reduceIte, reduceCtorEq, Nat.reduceLT, Nat.reduceLeDiff, Nat.reduceEqDiff, Nat.reduceAdd, Nat.reduceMul, Nat.reduceSub, Nat.reduceBEq, Int.reduceLT, Int.reduceLE, Int.reduceEq, Int.reduceBEq, Int.reduceNeg]
    refine ⟨by omega, hil, by omega, hil, drawn (by kernel_rfl), again ⟨i + 1, by omega⟩ (by simp; omega) ?_⟩
    simp -dsimp -implicitDefEqProofs only [w2, go_sem, ↓reduceIte, reduceCtorEq, Nat.reduceLT, Nat.reduceLeDiff, Nat.reduceEqDiff, Nat.reduceAdd, Nat.reduceMul, Nat.reduceSub, Nat.reduceBEq, Int.reduceLT, Int.reduceLE, Int.reduceEq, Int.reduceBEq, Int.reduceNeg]
  · have c1 : ((i : Int) < (ids.length : Int)) = False := by simp; omega
    simp -dsimp -implicitDefEqProofs only [c1, go_sem, ↓reduceIte, reduceCtorEq, Nat.reduceLT, Nat.reduceLeDiff, Nat.reduceEqDiff, Nat.reduceAdd, Nat.reduceMul, Nat.reduceSub, Nat.reduceBEq, Int.reduceLT, Int.reduceLE, Int.reduceEq, Int.reduceBEq, Int.reduceNeg]
def smN (l : List Sh) : Nat := ovL (fun n p => (n + p.x) % 1152921504606845789) l 0
theorem comb2_ok (a : Nat) (s : Sh) : Meets Tryz.prog 39 [(false, [vU64 a]), (true, [vI s.id, vU64 s.x])] (rOne (vU64 ((a + s.x) % 1152921504606845789 : Nat))) := by
  have h1 := addR_ok a s.x
  refine meets Tryz.func39 rfl rfl Tryz.ntmps39 Tryz.results39 rfl ?_
  simp -dsimp -implicitDefEqProofs only [go_sem, ↓reduceIte, reduceCtorEq, Nat.reduceLT, Nat.reduceLeDiff, Nat.reduceEqDiff, Nat.reduceAdd, Nat.reduceMul, Nat.reduceSub, Nat.reduceBEq, Int.reduceLT, Int.reduceLE, Int.reduceEq, Int.reduceBEq, Int.reduceNeg]
  refine callP h1 ?_
  simp -dsimp -implicitDefEqProofs only [go_sem, ↓reduceIte, reduceCtorEq, Nat.reduceLT, Nat.reduceLeDiff, Nat.reduceEqDiff, Nat.reduceAdd, Nat.reduceMul, Nat.reduceSub, Nat.reduceBEq, Int.reduceLT, Int.reduceLE, Int.reduceEq, Int.reduceBEq, Int.reduceNeg]
theorem comb1_ok (c : Cr) (msg : List Int) (l ps : List Sh) (hc : CrOk c) (h : CmOk c l) (hw : LwOk (l.map Sh.id) 0) (hm : msg.length ≤ 10000) (hids : ps.map Sh.id = l.map Sh.id) (hr : ∀ p ∈ ps, RtOk c msg l p) :
    Meets Tryz.prog 31 [(false, [vD (.pt [shD ps])]), (false, [vD (.pt [shD l])]), (false, [vD (.pt [seD c msg l])])] (rOne (vI 0)) := by
  have hl7 := h.l7
  have hl1 := h.len
  have ht1 := hc.t1
  have hpl : ps.length = l.length := by have := congrArg List.length hids; simpa using this
  have h1 := who_ok ps (by omega) (by omega)
  have h2 := who_ok l (by omega) (by omega)
  have h3 := equal_ok (l.map Sh.id) (by rw [List.length_map]; omega)
  rw [hids] at h1
  refine meets Tryz.func31 rfl rfl Tryz.ntmps31 Tryz.results31 rfl ?_
  simp -dsimp -implicitDefEqProofs only [go_sem, ↓reduceIte, reduceCtorEq, Nat.reduceLT, Nat.reduceLeDiff, Nat.reduceEqDiff, Nat.reduceAdd, Nat.reduceMul, Nat.reduceSub, Nat.reduceBEq, Int.reduceLT, Int.reduceLE, Int.reduceEq, Int.reduceBEq, Int.reduceNeg]
  refine callP h1 ?_
  simp -dsimp -implicitDefEqProofs only [go_sem, ↓reduceIte, reduceCtorEq, Nat.reduceLT, Nat.reduceLeDiff, Nat.reduceEqDiff, Nat.reduceAdd, Nat.reduceMul, Nat.reduceSub, Nat.reduceBEq, Int.reduceLT, Int.reduceLE, Int.reduceEq, Int.reduceBEq, Int.reduceNeg]
  refine callP h2 ?_
  simp -dsimp -implicitDefEqProofs only [go_sem, ↓reduceIte, reduceCtorEq, Nat.reduceLT, Nat.reduceLeDiff, Nat.reduceEqDiff, Nat.reduceAdd, Nat.reduceMul, Nat.reduceSub, Nat.reduceBEq, Int.reduceLT, Int.reduceLE, Int.reduceEq, Int.reduceBEq, Int.reduceNeg]
  refine callP h3 ?_
  simp -dsimp -implicitDefEqProofs only [go_sem, ↓reduceIte, reduceCtorEq, Nat.reduceLT, Nat.reduceLeDiff, Nat.reduceEqDiff, Nat.reduceAdd, Nat.reduceMul, Nat.reduceSub, Nat.reduceBEq, Int.reduceLT, Int.reduceLE, Int.reduceEq, Int.reduceBEq, Int.reduceNeg]
  refine ⟨drawn (by kernel_rfl), ?_⟩
  refine vfor sitOk (ι := MpInv ps) (fun v => ⟨26, [(15, aI v.i), (14, aI ps.length), (13, aD (shD ps)), (2, aD (.pt [seD c msg l]))], [], 80⟩) (fun v => ps.length - v.i) ⟨0, by omega⟩ ?_ ?_
  · simp -dsimp -implicitDefEqProofs only [go_sem, ↓reduceIte, reduceCtorEq, Nat.reduceLT, Nat.reduceLeDiff, Nat.reduceEqDiff, Nat.reduceAdd, Nat.reduceMul, Nat.reduceSub, Nat.reduceBEq, Int.reduceLT, Int.reduceLE, Int.reduceEq, Int.reduceBEq, Int.reduceNeg]
  intro ⟨i, hi⟩
  by_cases hil : i < ps.length
  · have c1 : ((i : Int) < (ps.length : Int)) = True := by simp; omega
    obtain ⟨s, hs⟩ := get_of hil
    have w2 : IntKind.i64.wrap ((i : Int) + 1) = ((i + 1 : Nat) : Int) := by rw [wrap64] <;> omega
    have h4 := qright_ok c msg l s hc h hw hm (hr s (List.mem_of_getElem? hs))
    simp -dsimp -implicitDefEqProofs only [c1, hs, forall_eq', Sh.cells, go_sem, ↓reduceIte, reduceCtorEq, Nat.reduceLT, Nat.reduceLeDiff, Nat.reduceEqDiff, Nat.reduceAdd, Nat.reduceMul, Nat.reduceSub, Nat.reduceBEq, Int.reduceLT, Int.reduceLE, Int.reduceEq, Int.reduceBEq, Int.reduceNeg]
    refine ⟨by omega, hil, callP h4 ?_⟩
    simp -dsimp -implicitDefEqProofs only [go_sem, ↓reduceIte, reduceCtorEq, Nat.reduceLT, Nat.reduceLeDiff, Nat.reduceEqDiff, Nat.reduceAdd, Nat.reduceMul, Nat.reduceSub, Nat.reduceBEq, Int.reduceLT, Int.reduceLE, Int.reduceEq, Int.reduceBEq, Int.reduceNeg]
    refine again ⟨i + 1, by omega⟩ (by simp; omega) ?_
    simp -dsimp -implicitDefEqProofs only [w2, go_sem, ↓reduceIte, reduceCtorEq, Nat.reduceLT, Nat.reduceLeDiff, Nat.reduceEqDiff, Nat.reduceAdd, Nat.reduceMul, Nat.reduceSub, Nat.reduceBEq, Int.reduceLT, Int.reduceLE, Int.reduceEq, Int.reduceBEq, Int.reduceNeg]
  · have c1 : ((i : Int) < (ps.length : Int)) = False := by simp; omega
    simp -dsimp -implicitDefEqProofs only [c1, go_sem, ↓reduceIte, reduceCtorEq, Nat.reduceLT, Nat.reduceLeDiff, Nat.reduceEqDiff, Nat.reduceAdd, Nat.reduceMul, Nat.reduceSub, Nat.reduceBEq, Int.reduceLT, Int.reduceLE, Int.reduceEq, Int.reduceBEq, Int.reduceNeg]
theorem combine_ok (c : Cr) (msg : List Int) (l ps : List Sh) (hc : CrOk c) (h : CmOk c l) (hw : LwOk (l.map Sh.id) 0) (hm : msg.length ≤ 10000) (hids : ps.map Sh.id = l.map Sh.id) (hr : ∀ p ∈ ps, RtOk c msg l p) :
    Meets Tryz.prog 9 [(true, [vI c.t, vI c.n, vU64 c.key, vD (shD c.parts)]), (false, [vD (byD msg)]), (false, [vD (shD l)]), (false, [vD (shD ps)])] (rTup [(true, [vU64 (chC c msg l : Nat), vU64 (smN ps : Nat)]), (false, [vI 0])]) := by
  refine meetsA Tryz.func9 rfl rfl Tryz.ntmps9 Tryz.results9 rfl ?_
  refine vstep sitOk ?_
  simp -dsimp -implicitDefEqProofs only [go_sem, ↓reduceIte, reduceCtorEq, Nat.reduceLT, Nat.reduceLeDiff, Nat.reduceEqDiff, Nat.reduceAdd, Nat.reduceMul, Nat.reduceSub, Nat.reduceBEq, Int.reduceLT, Int.reduceLE, Int.reduceEq, Int.reduceBEq, Int.reduceNeg]
  refine vstep sitOk ?_
  simp -dsimp -implicitDefEqProofs only [go_sem, ↓reduceIte, reduceCtorEq, Nat.reduceLT, Nat.reduceLeDiff, Nat.reduceEqDiff, Nat.reduceAdd, Nat.reduceMul, Nat.reduceSub, Nat.reduceBEq, Int.reduceLT, Int.reduceLE, Int.reduceEq, Int.reduceBEq, Int.reduceNeg]
  refine vfzL sitOk [72, 8, 16, 80] ?_
  simp -dsimp -implicitDefEqProofs only [go_sem, ↓reduceIte, reduceCtorEq, Nat.reduceLT, Nat.reduceLeDiff, Nat.reduceEqDiff, Nat.reduceAdd, Nat.reduceMul, Nat.reduceSub, Nat.reduceBEq, Int.reduceLT, Int.reduceLE, Int.reduceEq, Int.reduceBEq, Int.reduceNeg]
  refine callW rfl Tryz.func35 rfl rfl Tryz.ntmps35 Tryz.results35 rfl ?_
  simp -dsimp -implicitDefEqProofs only [retH, go_sem, ↓reduceIte, reduceCtorEq, Nat.reduceLT, Nat.reduceLeDiff, Nat.reduceEqDiff, Nat.reduceAdd, Nat.reduceMul, Nat.reduceSub, Nat.reduceBEq, Int.reduceLT, Int.reduceLE, Int.reduceEq, Int.reduceBEq, Int.reduceNeg]
  refine vrounds 4 sitOk ?_
  simp -dsimp -implicitDefEqProofs only [retH, go_sem, ↓reduceIte, reduceCtorEq, Nat.reduceLT, Nat.reduceLeDiff, Nat.reduceEqDiff, Nat.reduceAdd, Nat.reduceMul, Nat.reduceSub, Nat.reduceBEq, Int.reduceLT, Int.reduceLE, Int.reduceEq, Int.reduceBEq, Int.reduceNeg]
  refine vround ?_
  simp -dsimp -implicitDefEqProofs only [retH, tn1, tn2, go_sem, ↓reduceIte, reduceCtorEq, Nat.reduceLT, Nat.reduceLeDiff, Nat.reduceEqDiff, Nat.reduceAdd, Nat.reduceMul, Nat.reduceSub, Nat.reduceBEq, Int.reduceLT, Int.reduceLE, Int.reduceEq, Int.reduceBEq, Int.reduceNeg]
  refine callP (crew_ok c msg l hc) ?_
  simp -dsimp -implicitDefEqProofs only [retH, i01, go_sem, ↓reduceIte, reduceCtorEq, Nat.reduceLT, Nat.reduceLeDiff, Nat.reduceEqDiff, Nat.reduceAdd, Nat.reduceMul, Nat.reduceSub, Nat.reduceBEq, Int.reduceLT, Int.reduceLE, Int.reduceEq, Int.reduceBEq, Int.reduceNeg]
  refine vround ?_
  simp -dsimp -implicitDefEqProofs only [retH, tn1, tn2, go_sem, ↓reduceIte, reduceCtorEq, Nat.reduceLT, Nat.reduceLeDiff, Nat.reduceEqDiff, Nat.reduceAdd, Nat.reduceMul, Nat.reduceSub, Nat.reduceBEq, Int.reduceLT, Int.reduceLE, Int.reduceEq, Int.reduceBEq, Int.reduceNeg]
  refine callP (enough_ok c msg l h hc.n7) ?_
  simp -dsimp -implicitDefEqProofs only [retH, i12, go_sem, ↓reduceIte, reduceCtorEq, Nat.reduceLT, Nat.reduceLeDiff, Nat.reduceEqDiff, Nat.reduceAdd, Nat.reduceMul, Nat.reduceSub, Nat.reduceBEq, Int.reduceLT, Int.reduceLE, Int.reduceEq, Int.reduceBEq, Int.reduceNeg]
  refine vround ?_
  simp -dsimp -implicitDefEqProofs only [retH, tn1, tn2, go_sem, ↓reduceIte, reduceCtorEq, Nat.reduceLT, Nat.reduceLeDiff, Nat.reduceEqDiff, Nat.reduceAdd, Nat.reduceMul, Nat.reduceSub, Nat.reduceBEq, Int.reduceLT, Int.reduceLE, Int.reduceEq, Int.reduceBEq, Int.reduceNeg]
  refine callP (comb1_ok c msg l ps hc h hw hm hids hr) ?_
  simp -dsimp -implicitDefEqProofs only [retH, i23, go_sem, ↓reduceIte, reduceCtorEq, Nat.reduceLT, Nat.reduceLeDiff, Nat.reduceEqDiff, Nat.reduceAdd, Nat.reduceMul, Nat.reduceSub, Nat.reduceBEq, Int.reduceLT, Int.reduceLE, Int.reduceEq, Int.reduceBEq, Int.reduceNeg]
  refine vround ?_
  simp -dsimp -implicitDefEqProofs only [retH, go_sem, ↓reduceIte, reduceCtorEq, Nat.reduceLT, Nat.reduceLeDiff, Nat.reduceEqDiff, Nat.reduceAdd, Nat.reduceMul, Nat.reduceSub, Nat.reduceBEq, Int.reduceLT, Int.reduceLE, Int.reduceEq, Int.reduceBEq, Int.reduceNeg]
  have hpl : ps.length = l.length := by have := congrArg List.length hids; simpa using this
  have ho := over_ok ps 0 39 (fun n p => (n + p.x) % 1152921504606845789) (by have := h.l7; omega) (by decide) (fun s hs a ha => ⟨mod_w (by decide) (by decide), comb2_ok a s⟩)
  have hch := schallenge_ok c msg l h.l7 (fun s hs => by have := (h.inn s hs).2.1; omega) hm
  refine callP ho ?_
  simp -dsimp -implicitDefEqProofs only [go_sem, ↓reduceIte, reduceCtorEq, Nat.reduceLT, Nat.reduceLeDiff, Nat.reduceEqDiff, Nat.reduceAdd, Nat.reduceMul, Nat.reduceSub, Nat.reduceBEq, Int.reduceLT, Int.reduceLE, Int.reduceEq, Int.reduceBEq, Int.reduceNeg]
  refine callP hch ?_
  simp -dsimp -implicitDefEqProofs only [go_sem, ↓reduceIte, reduceCtorEq, Nat.reduceLT, Nat.reduceLeDiff, Nat.reduceEqDiff, Nat.reduceAdd, Nat.reduceMul, Nat.reduceSub, Nat.reduceBEq, Int.reduceLT, Int.reduceLE, Int.reduceEq, Int.reduceBEq, Int.reduceNeg]
  rfl
end Go.Proofs.YtijfncaphfaijaaGreatDoor
