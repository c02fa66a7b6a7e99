
/- The example's nets. live. What is handed in, as data. -/
import Derived.Test.YtidnnaobhcffcaaGreatDoorRG
namespace Go.Proofs.YtidnnaobhcffcaaGreatDoor
open Go.Eng
set_option linter.unusedSimpArgs false
set_option maxRecDepth 10000

/-- With one in its place, by what is below it and above it. -/
theorem with_filter {α κ : Type} {o : KO κ} {key : α → κ} {l : List α} (hr : Ris o key l) (x : α) : withK o key l x = l.filter (fun y => decide (o.cmp (key y) (key x) < 0)) ++ x :: l.filter (fun y => decide (0 < o.cmp (key y) (key x))) := by
  obtain ⟨A, B, h1, h2, h3, _, _, h⟩ := with_law hr x
  have fA1 : A.filter (fun y => decide (o.cmp (key y) (key x) < 0)) = A := List.filter_eq_self.2 fun y hy => decide_eq_true (h2 y hy)
  have fA2 : A.filter (fun y => decide (0 < o.cmp (key y) (key x))) = [] := List.filter_eq_nil_iff.2 fun y hy => by have := h2 y hy; simp; omega
  have fB1 : B.filter (fun y => decide (o.cmp (key y) (key x) < 0)) = [] := List.filter_eq_nil_iff.2 fun y hy => by have := o.flip.1 (h3 y hy); simp; omega
  have fB2 : B.filter (fun y => decide (0 < o.cmp (key y) (key x))) = B := List.filter_eq_self.2 fun y hy => decide_eq_true (o.flip.1 (h3 y hy))
  rw [h1]
  rcases h with ⟨rfl, _⟩ | ⟨y, rfl, hy, _⟩
  · rw [List.filter_append, List.filter_append, fA1, fA2, fB1, fB2]; simp
  · have e : o.cmp (key y) (key x) = 0 := o.eq0.2 hy
    rw [List.filter_append, List.filter_append, List.filter_cons, List.filter_cons, fA1, fA2, fB1, fB2]
    simp [e]
def zA : Zn := ⟨[97], []⟩
def zB : Zn := ⟨[98], []⟩
def exN0 : Nt := ⟨[], 2, [], []⟩
def exN1 : Nt := ⟨[⟨0, [zA]⟩], 2, [], []⟩
def exN2 : Nt := ⟨[⟨0, [zA]⟩, ⟨7, [zB]⟩], 2, [], []⟩
def exM : Nt := ⟨[⟨0, [zA]⟩, ⟨7, [zB]⟩], 2, [⟨1, 0, 7⟩], []⟩
def exO : Nt := ⟨[⟨0, [zA]⟩, ⟨7, [zB]⟩], 2, [], [⟨[99], -3⟩]⟩
theorem ex_c0 : chkN exN0 = 0 := by kernel_rfl
theorem ex_c1 : chkN exN1 = 0 := by kernel_rfl
theorem ex_c2 : chkN exN2 = 0 := by kernel_rfl
theorem ex_cM : chkN exM = 0 := by kernel_rfl
theorem ex_cO : chkN exO = 0 := by kernel_rfl
theorem ex_c9 : chkN ⟨[], 9, [], []⟩ = 1 := by kernel_rfl
theorem ris_nil {α κ : Type} {o : KO κ} {key : α → κ} : Ris o key ([] : List α) := List.Pairwise.nil
theorem ris_one {α κ : Type} {o : KO κ} {key : α → κ} (x : α) : Ris o key [x] := ris_cons.2 ⟨by simp, ris_nil⟩
theorem ex_s1 : newSv exN0 0 zA = ⟨0, [zA]⟩ := by
  unfold newSv; rw [show (svG exN0 0).Z = [] from rfl, with_filter ris_nil]; rfl
theorem ex_s2 : newSv exN1 7 zB = ⟨7, [zB]⟩ := by
  unfold newSv; rw [show (svG exN1 7).Z = [] from by kernel_rfl, with_filter ris_nil]; rfl
theorem ex_e1 : nputE exN0 0 zA = 0 := by unfold nputE; rw [ex_c0, ex_s1]; kernel_rfl
theorem ex_n1 : nputN exN0 0 zA = exN1 := by
  unfold nputN; rw [if_pos ex_e1, ex_s1, show exN0.V = [] from rfl, with_filter ris_nil]; kernel_rfl
theorem ex_e2 : nputE exN1 7 zB = 0 := by unfold nputE; rw [ex_c1, ex_s2]; kernel_rfl
theorem ex_n2 : nputN exN1 7 zB = exN2 := by
  unfold nputN; rw [if_pos ex_e2, ex_s2, show exN1.V = [⟨0, [zA]⟩] from rfl, with_filter (ris_one _)]; kernel_rfl
theorem ex_e3 : nbendE exN2 ⟨1, 0, 7⟩ = 0 := by unfold nbendE; rw [ex_c2]; kernel_rfl
theorem ex_n3 : nbendN exN2 ⟨1, 0, 7⟩ = exM := by
  unfold nbendN; rw [if_pos ex_e3, show exN2.B = [] from rfl, with_filter ris_nil]; kernel_rfl
theorem ex_e4 : nbendE exN2 ⟨1, 0, 3⟩ = 131 := by unfold nbendE; rw [ex_c2]; kernel_rfl
theorem ex_e5 : nmendE exM ⟨1, 0, 0⟩ = 0 := by unfold nmendE; rw [ex_cM]; kernel_rfl
theorem ex_n5 : nmendN exM ⟨1, 0, 0⟩ = exN2 := by unfold nmendN; rw [if_pos ex_e5]; kernel_rfl
theorem ex_v1 : srvB exM 1 0 = true ∧ srvS exM 1 0 = ⟨0, [zB]⟩ := ⟨by kernel_rfl, by kernel_rfl⟩
theorem ex_v2 : srvB exM 0 0 = true ∧ srvS exM 0 0 = ⟨0, [zA]⟩ := ⟨by kernel_rfl, by kernel_rfl⟩
theorem ex_v3 : srvB exM (-1) 0 = true ∧ srvS exM (-1) 0 = ⟨0, [zA]⟩ := ⟨by kernel_rfl, by kernel_rfl⟩
theorem ex_v4 : srvB exM 2 0 = false ∧ srvS exM 2 0 = ⟨0, []⟩ := ⟨by kernel_rfl, by kernel_rfl⟩
theorem ex_k1 : clockV exO [99] 10 = 7 ∧ clockV exO [99] 2 = 0 ∧ clockV exO [100] 10 = 10 := ⟨by kernel_rfl, by kernel_rfl, by kernel_rfl⟩
theorem ex_sz {n : Nt} (h : n = exN0 ∨ n = exN1 ∨ n = exN2 ∨ n = exM ∨ n = exO ∨ n = ⟨[], 9, [], []⟩) : Sz n := by
  refine sz_of ?_ ?_ ?_
  all_goals (rcases h with rfl | rfl | rfl | rfl | rfl | rfl)
  all_goals first
    | kernel_rfl
    | (simp [exN0, exN1, exN2, exM, exO]; done)
end Go.Proofs.YtidnnaobhcffcaaGreatDoor
namespace Go.Proofs.YtidnnaobhcffcaaGreatDoor
open Go.Eng
set_option linter.unusedSimpArgs false
set_option maxRecDepth 10000

theorem live13_ok : Meets Tryz.prog 11 [] (rOne (vB true)) := by
  have n1 := new_ok [97]
  have n2 := new_ok [98]
  rw [show apexB [97] = true from by kernel_rfl, if_pos rfl, if_pos rfl] at n1
  rw [show apexB [98] = true from by kernel_rfl, if_pos rfl, if_pos rfl] at n2
  have p1 := nput_ok exN0 (ex_sz (by simp)) 0 zA (by simp [zA])
  rw [ex_n1, ex_e1] at p1
  have p2 := nput_ok exN1 (ex_sz (by simp)) 7 zB (by simp [zB])
  rw [ex_n2, ex_e2] at p2
  have p3 := nbend_ok exN2 (ex_sz (by simp)) ⟨1, 0, 7⟩
  rw [ex_n3, ex_e3] at p3
  have v1 := srv_ok exM (ex_sz (by simp)) 1 0
  rw [ex_v1.1, ex_v1.2] at v1
  have v2 := srv_ok exM (ex_sz (by simp)) 0 0
  rw [ex_v2.1, ex_v2.2] at v2
  have v3 := srv_ok exM (ex_sz (by simp)) (-1) 0
  rw [ex_v3.1, ex_v3.2] at v3
  have v4 := srv_ok exM (ex_sz (by simp)) 2 0
  rw [ex_v4.1, ex_v4.2] at v4
  have m1 := nmend_ok exM (ex_sz (by simp)) ⟨1, 0, 0⟩
  rw [ex_n5, ex_e5] at m1
  have p4 := nbend_ok exN2 (ex_sz (by simp)) ⟨1, 0, 3⟩
  rw [show nbendN exN2 ⟨1, 0, 3⟩ = noN by unfold nbendN; rw [ex_e4]; rfl, ex_e4] at p4
  have b1 := bent1_ok exM ⟨1, 0, 7⟩ rfl
  have b0 := bent0_ok exO rfl
  have k1 := clock_ok exO [99] 10 (by simp [exO])
  have k2 := clock_ok exO [99] 2 (by simp [exO])
  have k3 := clock_ok exO [100] 10 (by simp [exO])
  rw [ex_k1.1] at k1
  rw [ex_k1.2.1] at k2
  rw [ex_k1.2.2] at k3
  have c1 := check_okN exO (ex_sz (by simp))
  have c2 := check_okN ⟨[], 9, [], []⟩ (ex_sz (by simp))
  rw [ex_cO] at c1
  rw [ex_c9] at c2
  refine meets Tryz.func11 rfl rfl Tryz.ntmps11 Tryz.results11 rfl ?_
  simp -dsimp -implicitDefEqProofs only [go_sem, ↓reduceIte, reduceCtorEq, Nat.reduceLT, Nat.reduceLeDiff, Nat.reduceEqDiff, Nat.reduceAdd, Nat.reduceMul, Nat.reduceSub, Nat.reduceBEq, Int.reduceLT, Int.reduceLE, Int.reduceEq, Int.reduceBEq, Int.reduceNeg]
  refine callP n1 ?_
  simp -dsimp -implicitDefEqProofs only [go_sem, ↓reduceIte, reduceCtorEq, Nat.reduceLT, Nat.reduceLeDiff, Nat.reduceEqDiff, Nat.reduceAdd, Nat.reduceMul, Nat.reduceSub, Nat.reduceBEq, Int.reduceLT, Int.reduceLE, Int.reduceEq, Int.reduceBEq, Int.reduceNeg]
  refine callP n2 ?_
  simp -dsimp -implicitDefEqProofs only [go_sem, ↓reduceIte, reduceCtorEq, Nat.reduceLT, Nat.reduceLeDiff, Nat.reduceEqDiff, Nat.reduceAdd, Nat.reduceMul, Nat.reduceSub, Nat.reduceBEq, Int.reduceLT, Int.reduceLE, Int.reduceEq, Int.reduceBEq, Int.reduceNeg]
  refine callP p1 ?_
  simp -dsimp -implicitDefEqProofs only [exN1, go_sem, ↓reduceIte, reduceCtorEq, Nat.reduceLT, Nat.reduceLeDiff, Nat.reduceEqDiff, Nat.reduceAdd, Nat.reduceMul, Nat.reduceSub, Nat.reduceBEq, Int.reduceLT, Int.reduceLE, Int.reduceEq, Int.reduceBEq, Int.reduceNeg]
  refine callP p2 ?_
  simp -dsimp -implicitDefEqProofs only [exN2, go_sem, ↓reduceIte, reduceCtorEq, Nat.reduceLT, Nat.reduceLeDiff, Nat.reduceEqDiff, Nat.reduceAdd, Nat.reduceMul, Nat.reduceSub, Nat.reduceBEq, Int.reduceLT, Int.reduceLE, Int.reduceEq, Int.reduceBEq, Int.reduceNeg]
  refine callP p3 ?_
  simp -dsimp -implicitDefEqProofs only [exM, go_sem, ↓reduceIte, reduceCtorEq, Nat.reduceLT, Nat.reduceLeDiff, Nat.reduceEqDiff, Nat.reduceAdd, Nat.reduceMul, Nat.reduceSub, Nat.reduceBEq, Int.reduceLT, Int.reduceLE, Int.reduceEq, Int.reduceBEq, Int.reduceNeg]
  refine callP v1 ?_
  simp -dsimp -implicitDefEqProofs only [go_sem, ↓reduceIte, reduceCtorEq, Nat.reduceLT, Nat.reduceLeDiff, Nat.reduceEqDiff, Nat.reduceAdd, Nat.reduceMul, Nat.reduceSub, Nat.reduceBEq, Int.reduceLT, Int.reduceLE, Int.reduceEq, Int.reduceBEq, Int.reduceNeg]
  refine callP v2 ?_
  simp -dsimp -implicitDefEqProofs only [go_sem, ↓reduceIte, reduceCtorEq, Nat.reduceLT, Nat.reduceLeDiff, Nat.reduceEqDiff, Nat.reduceAdd, Nat.reduceMul, Nat.reduceSub, Nat.reduceBEq, Int.reduceLT, Int.reduceLE, Int.reduceEq, Int.reduceBEq, Int.reduceNeg]
  refine callP v3 ?_
  simp -dsimp -implicitDefEqProofs only [go_sem, ↓reduceIte, reduceCtorEq, Nat.reduceLT, Nat.reduceLeDiff, Nat.reduceEqDiff, Nat.reduceAdd, Nat.reduceMul, Nat.reduceSub, Nat.reduceBEq, Int.reduceLT, Int.reduceLE, Int.reduceEq, Int.reduceBEq, Int.reduceNeg]
  refine callP v4 ?_
  simp -dsimp -implicitDefEqProofs only [go_sem, ↓reduceIte, reduceCtorEq, Nat.reduceLT, Nat.reduceLeDiff, Nat.reduceEqDiff, Nat.reduceAdd, Nat.reduceMul, Nat.reduceSub, Nat.reduceBEq, Int.reduceLT, Int.reduceLE, Int.reduceEq, Int.reduceBEq, Int.reduceNeg]
  refine callP m1 ?_
  simp -dsimp -implicitDefEqProofs only [exN2, go_sem, ↓reduceIte, reduceCtorEq, Nat.reduceLT, Nat.reduceLeDiff, Nat.reduceEqDiff, Nat.reduceAdd, Nat.reduceMul, Nat.reduceSub, Nat.reduceBEq, Int.reduceLT, Int.reduceLE, Int.reduceEq, Int.reduceBEq, Int.reduceNeg]
  refine callP p4 ?_
  simp -dsimp -implicitDefEqProofs only [go_sem, ↓reduceIte, reduceCtorEq, Nat.reduceLT, Nat.reduceLeDiff, Nat.reduceEqDiff, Nat.reduceAdd, Nat.reduceMul, Nat.reduceSub, Nat.reduceBEq, Int.reduceLT, Int.reduceLE, Int.reduceEq, Int.reduceBEq, Int.reduceNeg]
  refine callP b1 ?_
  simp -dsimp -implicitDefEqProofs only [List.append_eq, List.cons_append, List.nil_append, List.length_cons, List.length_nil, zA, zB, go_sem, ↓reduceIte, reduceCtorEq, Nat.reduceLT, Nat.reduceLeDiff, Nat.reduceEqDiff, Nat.reduceAdd, Nat.reduceMul, Nat.reduceSub, Nat.reduceBEq, Int.reduceLT, Int.reduceLE, Int.reduceEq, Int.reduceBEq, Int.reduceNeg]
  refine callP b0 ?_
  simp -dsimp -implicitDefEqProofs only [List.append_eq, List.cons_append, List.nil_append, List.length_cons, List.length_nil, go_sem, ↓reduceIte, reduceCtorEq, Nat.reduceLT, Nat.reduceLeDiff, Nat.reduceEqDiff, Nat.reduceAdd, Nat.reduceMul, Nat.reduceSub, Nat.reduceBEq, Int.reduceLT, Int.reduceLE, Int.reduceEq, Int.reduceBEq, Int.reduceNeg]
  refine callP k1 ?_
  simp -dsimp -implicitDefEqProofs only [List.append_eq, List.cons_append, List.nil_append, List.length_cons, List.length_nil, go_sem, ↓reduceIte, reduceCtorEq, Nat.reduceLT, Nat.reduceLeDiff, Nat.reduceEqDiff, Nat.reduceAdd, Nat.reduceMul, Nat.reduceSub, Nat.reduceBEq, Int.reduceLT, Int.reduceLE, Int.reduceEq, Int.reduceBEq, Int.reduceNeg]
  refine callP k2 ?_
  simp -dsimp -implicitDefEqProofs only [List.append_eq, List.cons_append, List.nil_append, List.length_cons, List.length_nil, go_sem, ↓reduceIte, reduceCtorEq, Nat.reduceLT, Nat.reduceLeDiff, Nat.reduceEqDiff, Nat.reduceAdd, Nat.reduceMul, Nat.reduceSub, Nat.reduceBEq, Int.reduceLT, Int.reduceLE, Int.reduceEq, Int.reduceBEq, Int.reduceNeg]
  refine callP k3 ?_
  simp -dsimp -implicitDefEqProofs only [List.append_eq, List.cons_append, List.nil_append, List.length_cons, List.length_nil, go_sem, ↓reduceIte, reduceCtorEq, Nat.reduceLT, Nat.reduceLeDiff, Nat.reduceEqDiff, Nat.reduceAdd, Nat.reduceMul, Nat.reduceSub, Nat.reduceBEq, Int.reduceLT, Int.reduceLE, Int.reduceEq, Int.reduceBEq, Int.reduceNeg]
  refine callP c1 ?_
  simp -dsimp -implicitDefEqProofs only [List.append_eq, List.cons_append, List.nil_append, List.length_cons, List.length_nil, go_sem, ↓reduceIte, reduceCtorEq, Nat.reduceLT, Nat.reduceLeDiff, Nat.reduceEqDiff, Nat.reduceAdd, Nat.reduceMul, Nat.reduceSub, Nat.reduceBEq, Int.reduceLT, Int.reduceLE, Int.reduceEq, Int.reduceBEq, Int.reduceNeg]
  refine callP c2 ?_
  simp -dsimp -implicitDefEqProofs only [List.append_eq, List.cons_append, List.nil_append, List.length_cons, List.length_nil, go_sem, ↓reduceIte, reduceCtorEq, Nat.reduceLT, Nat.reduceLeDiff, Nat.reduceEqDiff, Nat.reduceAdd, Nat.reduceMul, Nat.reduceSub, Nat.reduceBEq, Int.reduceLT, Int.reduceLE, Int.reduceEq, Int.reduceBEq, Int.reduceNeg]
end Go.Proofs.YtidnnaobhcffcaaGreatDoor
namespace Go.Proofs.YtidnnaobhcffcaaGreatDoor
open Go.Eng
set_option linter.unusedSimpArgs false
set_option maxRecDepth 10000

theorem arg_net (ds : List D) : argC Tryz.prog 26 ds = (true, ds.map .d) := by
  unfold argC; rw [show isStruct Tryz.prog 26 = true from by kernel_rfl]
theorem arg_bend (ds : List D) : argC Tryz.prog 46 ds = (true, ds.map .d) := by
  unfold argC; rw [show isStruct Tryz.prog 46 = true from by kernel_rfl]
theorem arg_zone (ds : List D) : argC Tryz.prog 44 ds = (true, ds.map .d) := by
  unfold argC; rw [show isStruct Tryz.prog 44 = true from by kernel_rfl]
theorem arg_str (ds : List D) : argC Tryz.prog 9 ds = (false, ds.map .d) := by
  unfold argC; rw [show isStruct Tryz.prog 9 = false from by kernel_rfl]
theorem arg_int (ds : List D) : argC Tryz.prog 3 ds = (false, ds.map .d) := by
  unfold argC; rw [show isStruct Tryz.prog 3 = false from by kernel_rfl]
theorem read_int {ds : List D} (h : shpG tys 10 3 ds) : ∃ n : Int, ds = [dI n] ∧ -9223372036854775808 ≤ n ∧ n ≤ 9223372036854775807 := h
theorem read_str {ds : List D} (h : shpG tys 10 9 ds) : ∃ l : Bs, ds = [dT l] := by
  simp -dsimp -implicitDefEqProofs only [shpG, tileG, go_sem] at h
  obtain ⟨s, rfl, _⟩ := h
  obtain ⟨l, rfl⟩ := bytes_all s
  exact ⟨l, rfl⟩
theorem read_rows {α : Type} {cells : α → List D} {rows : List (List D)} (h : ∀ r ∈ rows, ∃ x : α, r = cells x) : ∃ l : List α, rows = l.map cells := by
  obtain ⟨l, rfl, _⟩ := rows_map (cells := cells) (ok := fun _ => True) fun r hr => let ⟨x, hx⟩ := h r hr; ⟨x, hx, trivial⟩
  exact ⟨l, rfl⟩
theorem read_net {ds : List D} (h : shpG tys 10 26 ds) : ∃ n : Nt, ds = n.cells ∧ (∀ c ∈ n.C, -9223372036854775808 ≤ c.B ∧ c.B ≤ 9223372036854775807) ∧ ∀ c ∈ n.C, c.W.length ≤ 9223372036854775807 := by
  simp -dsimp -implicitDefEqProofs only [shpG, tileG, go_sem] at h
  obtain ⟨_, _, ⟨rv, rfl, _, hv⟩, rfl, _, _, ⟨x, rfl, _⟩, rfl, _, _, ⟨rb, rfl, _, hb⟩, rfl, _, _, ⟨rc, rfl, _, hc⟩, rfl, rfl⟩ := h
  obtain ⟨V, rfl⟩ := read_rows (cells := Sv.cells) fun r hr => by
    obtain ⟨_, _, ⟨a, rfl, _⟩, rfl, _, _, ⟨rz, rfl, _, hz⟩, rfl, rfl⟩ := hv r hr
    obtain ⟨Z, rfl⟩ := read_rows (cells := Zn.cells) fun r hr => by
      obtain ⟨_, _, ⟨s, rfl, _⟩, rfl, _, _, ⟨rr, rfl, _, hrr⟩, rfl, rfl⟩ := hz r hr
      obtain ⟨n, rfl⟩ := bytes_all s
      obtain ⟨R, rfl⟩ := read_rows (cells := Rec.cells) fun r hr => by
        obtain ⟨_, _, ⟨a, rfl, _⟩, rfl, _, _, ⟨b, rfl, _⟩, rfl, _, _, ⟨c, rfl, _⟩, rfl, _, _, ⟨d, rfl, _⟩, rfl, rfl⟩ := hrr r hr
        obtain ⟨l, rfl⟩ := bytes_all a
        obtain ⟨m, rfl⟩ := bytes_all c
        exact ⟨⟨l, b, m, d⟩, rfl⟩
      exact ⟨⟨n, R⟩, rfl⟩
    exact ⟨⟨a, Z⟩, rfl⟩
  obtain ⟨B, rfl⟩ := read_rows (cells := Bn.cells) fun r hr => by
    obtain ⟨_, _, ⟨a, rfl, _⟩, rfl, _, _, ⟨b, rfl, _⟩, rfl, _, _, ⟨c, rfl, _⟩, rfl, rfl⟩ := hb r hr
    exact ⟨⟨a, b, c⟩, rfl⟩
  obtain ⟨C, rfl, hC⟩ := rows_map (cells := Ck.cells) (ok := fun c => (-9223372036854775808 ≤ c.B ∧ c.B ≤ 9223372036854775807) ∧ c.W.length ≤ 9223372036854775807) (rows := rc) fun r hr => by
    obtain ⟨_, _, ⟨s, rfl, hs⟩, rfl, _, _, ⟨b, rfl, hb1, hb2⟩, rfl, rfl⟩ := hc r hr
    obtain ⟨l, rfl⟩ := bytes_all s
    exact ⟨⟨l, b⟩, rfl, ⟨hb1, hb2⟩, hs⟩
  exact ⟨⟨V, x, B, C⟩, rfl, fun c hc => (hC c hc).1, fun c hc => (hC c hc).2⟩
end Go.Proofs.YtidnnaobhcffcaaGreatDoor
