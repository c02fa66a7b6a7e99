/- TopVotes: the law's contract. -/
import Derived.Test.YtbgcpopmippbiaaGreatDoorVM
open Nat renaming reduceLT → rn1, reduceLeDiff → rn2, reduceEqDiff → rn3, reduceAdd → rn4, reduceMul → rn5, reduceSub → rn6, reduceBEq → rn7
open Int renaming reduceLT → ri1, reduceLE → ri2, reduceEq → ri3, reduceBEq → ri4, reduceNeg → ri5
namespace Go.Proofs.YtbgcpopmippbiaaGreatDoor
open Go.Eng
set_option linter.unusedSimpArgs false
set_option maxRecDepth 10000

theorem at23L_ok (name : Bs) (h1 : 6 + name.length ≤ 9223372036854775807) : Meets Tryz.prog 6 [(false, [vS name])] (rOne (vS (atN name))) := by
  refine meets Tryz.func6 rfl rfl Tryz.ntmps6 Tryz.results6 rfl ?_
  simp -dsimp -implicitDefEqProofs only [go_sem, ↓reduceIte, reduceCtorEq, rn1, rn2, rn3, rn4, rn5, rn6, rn7, ri1, ri2, ri3, ri4, ri5]
  unfold atN
  simp -dsimp -implicitDefEqProofs only [h1, List.length_cons, List.length_nil, go_sem, ↓reduceIte, reduceCtorEq, rn1, rn2, rn3, rn4, rn5, rn6, rn7, ri1, ri2, ri3, ri4, ri5]
theorem atN_len (name : Bs) : (atN name).length = 6 + name.length := by simp [atN]; omega
theorem put_name {a : Bs} {l : List Rec} {r : Rec} (h : putE a l r = 0) : isName r.N = true := by
  unfold putE at h
  split at h
  · split at h
    · rename_i hf
      unfold formB at hf
      simp only [Bool.and_eq_true] at hf
      exact hf.1.1.2
    · omega
  · rename_i hc; exact absurd h hc
theorem mkA_caches (N : Nat) (ob : Nat → Option AObj) (n : Int) (h0 : 0 ≤ n) (h1 : n ≤ 1000) : mkA tys N ob 43 (aI n) (aI n) = some ⟨.cs false [.own N], [(N, some (.row 1 50 (List.replicate n.toNat (rowC [])) true))], []⟩ := by
  have e : allD ob [AV.nils 4] = some (rowC []) := rfl
  have h2 : (0 ≤ n ∧ n = n ∧ [AV.nils 4].length = 1 ∧ 0 < 1 ∧ ((24 : Nat) : Int) * n ≤ 281474976710656 ∧ n ≤ 140737488355328) := ⟨h0, rfl, rfl, by omega, by omega, by omega⟩
  unfold mkA
  simp -dsimp -implicitDefEqProofs only [go_sem]
  rw [if_pos ⟨h0, by omega, by omega, by omega⟩]
  rfl
theorem votes_net {nm tok : Bs} {F : List Rec} {seen bent : Int} {there : Bool} (hb : Nb nm (if there then [⟨atN nm, 1, tok, 9⟩] else []) F seen bent.toNat) (hn : isName nm = true) (ha : isName (atN nm) = true) (h1 : 1 ≤ seen) (h8 : seen ≤ 8) (b0 : 0 ≤ bent) (hbs : bent < seen) (ca : Bs) (n : Nt)
    (e : n = netK nm (if there then [⟨atN nm, 1, tok, 9⟩] else []) F seen bent.toNat) :
    lookOk (lookE n (List.replicate seen.toNat []) 3 nm tok ca (seen - bent)) = true ∧ ((lookS n (List.replicate seen.toNat []) 3 nm tok ca (seen - bent)).length : Int) = seen ∧ ((lookX n (List.replicate seen.toNat []) 3 nm tok ca (seen - bent)).length : Int) = seen ∧
      (∀ i : Nat, bent ≤ (i : Int) → (i : Int) < seen → (lookS n (List.replicate seen.toNat []) 3 nm tok ca (seen - bent))[i]? = some there) ∧
      (there = true → lookE n (List.replicate seen.toNat []) 3 nm tok ca (seen - bent) = 0 ∧ seen - bent ≤ votesN (lookS n (List.replicate seen.toNat []) 3 nm tok ca (seen - bent))) ∧ (there = false → votesN (lookS n (List.replicate seen.toNat []) 3 nm tok ca (seen - bent)) ≤ bent) := by
  obtain ⟨m, rfl⟩ : ∃ m : Nat, seen = m := ⟨seen.toNat, by omega⟩
  obtain ⟨k, rfl⟩ : ∃ k : Nat, bent = k := ⟨bent.toNat, by omega⟩
  rw [Int.toNat_natCast] at hb e
  rw [Int.toNat_natCast]
  subst e
  obtain ⟨a1, a2, a3, a4, a5, a6⟩ := top_votes (ca := ca) hb hn ha (show k < m by omega) (show m ≤ 8 by omega)
  exact ⟨a1, by rw [a2], by rw [a3], fun i i1 i2 => a4 i (by omega) (by omega), a5, a6⟩
structure TvInv (a b : Int) where
  i : Nat
  lo : a ≤ i
  hi : (i : Int) ≤ b
theorem topVotes_ok (nm tok : Bs) (there : Bool) (fakes : List Rec) (seen bent : Int) (hn : nm.length ≤ 140737488351232) : Meets Tryz.prog 3 [(false, [vS nm]), (false, [vS tok]), (false, [vB there]), (false, [vD (recsD fakes)]), (false, [vI seen]), (false, [vI bent])] (rOne (vB true)) := by
  cases there with
  | false =>
    refine meets Tryz.func3 rfl rfl Tryz.ntmps3 Tryz.results3 rfl ?_
    simp -dsimp -implicitDefEqProofs only [go_sem, ↓reduceIte, reduceCtorEq, rn1, rn2, rn3, rn4, rn5, rn6, rn7, ri1, ri2, ri3, ri4, ri5]
    refine callP upT_ok ?_
    simp -dsimp -implicitDefEqProofs only [go_sem, ↓reduceIte, reduceCtorEq, rn1, rn2, rn3, rn4, rn5, rn6, rn7, ri1, ri2, ri3, ri4, ri5]
    refine callP (at23L_ok nm (by omega)) ?_
    simp -dsimp -implicitDefEqProofs only [go_sem, ↓reduceIte, reduceCtorEq, rn1, rn2, rn3, rn4, rn5, rn6, rn7, ri1, ri2, ri3, ri4, ri5]
    intro htk hat hbs
    refine callP (netted_ok nm [] fakes seen bent) ?_
    cases hB : netB nm [] fakes seen bent with
    | false =>
      simp -dsimp -implicitDefEqProofs only [go_sem, ↓reduceIte, reduceCtorEq, rn1, rn2, rn3, rn4, rn5, rn6, rn7, ri1, ri2, ri3, ri4, ri5]
      refine callP (new_ok nm) ?_
      cases hap : apexB nm with
      | false =>
        simp -dsimp -implicitDefEqProofs only [hap, go_sem, ↓reduceIte, reduceCtorEq, rn1, rn2, rn3, rn4, rn5, rn6, rn7, ri1, ri2, ri3, ri4, ri5]
        refine callP (put_ok [] [] ⟨atN nm, 1, tok, 9⟩ (by simp)) ?_
        simp -dsimp -implicitDefEqProofs only [go_sem, ↓reduceIte, reduceCtorEq, rn1, rn2, rn3, rn4, rn5, rn6, rn7, ri1, ri2, ri3, ri4, ri5]
      | true =>
        simp -dsimp -implicitDefEqProofs only [hap, go_sem, ↓reduceIte, reduceCtorEq, rn1, rn2, rn3, rn4, rn5, rn6, rn7, ri1, ri2, ri3, ri4, ri5]
        refine callP (put_ok nm [] ⟨atN nm, 1, tok, 9⟩ (by simp)) ?_
        simp -dsimp -implicitDefEqProofs only [go_sem, ↓reduceIte, reduceCtorEq, rn1, rn2, rn3, rn4, rn5, rn6, rn7, ri1, ri2, ri3, ri4, ri5]
    | true =>
      obtain ⟨hb, hV, g1, g3, g3', g4, g5, g6, _, g8⟩ := netB_nb hB
      have hap : apexB nm = true := by unfold apexB; simp [g6]
      rw [hV]
      simp -dsimp -implicitDefEqProofs only [go_sem, ↓reduceIte, reduceCtorEq, rn1, rn2, rn3, rn4, rn5, rn6, rn7, ri1, ri2, ri3, ri4, ri5]
      refine callP (new_ok nm) ?_
      simp -dsimp -implicitDefEqProofs only [hap, go_sem, ↓reduceIte, reduceCtorEq, rn1, rn2, rn3, rn4, rn5, rn6, rn7, ri1, ri2, ri3, ri4, ri5]
      refine callP (put_ok nm [] ⟨atN nm, 1, tok, 9⟩ (by simp)) ?_
      simp -dsimp -implicitDefEqProofs only [go_sem, ↓reduceIte, reduceCtorEq, rn1, rn2, rn3, rn4, rn5, rn6, rn7, ri1, ri2, ri3, ri4, ri5]
      intro pe
      have hpn := put_name pe
      have hlV : ((List.replicate seen.toNat ([] : List Kp)).length : Int) = seen := by rw [List.length_replicate]; omega
      simp -dsimp -implicitDefEqProofs only [mkA_caches _ _ seen (by omega) (by omega), go_sem, ↓reduceIte, reduceCtorEq, rn1, rn2, rn3, rn4, rn5, rn6, rn7, ri1, ri2, ri3, ri4, ri5]
      have hz := netK_sz (nm := nm) (R := putsL nm []) (F := putsL [] fakes) (seen := seen) (k := bent.toNat) (by simp [putsL]) (by have := putsL_len [] fakes fakes.length (Nat.le_refl _); rw [List.take_length] at this; omega) (by omega)
      have hsb : IntKind.i64.wrap (seen - bent) = seen - bent := by rw [wrap64] <;> omega
      obtain ⟨v1, v2, v3, v4, _, v6⟩ := votes_net (there := false) (tok := tok) (F := putsL [] fakes) hb g6 hpn g3 g3' g4 hbs [103, 114, 101, 97, 116, 115, 101, 97, 108] (netK nm (putsL nm []) (putsL [] fakes) seen bent.toNat) rfl
      generalize netK nm (putsL nm []) (putsL [] fakes) seen bent.toNat = n at hz v1 v2 v3 v4 v6
      have hm := look23_ok n hz (List.replicate seen.toNat []) (by rw [List.length_replicate]; omega) (fun L hL => by rw [List.eq_of_mem_replicate hL]; exact ⟨by simp, by simp⟩) 3 nm (by have := atN_len nm; omega) tok [103, 114, 101, 97, 116, 115, 101, 97, 108] (seen - bent)
      have hmr : csD (List.replicate seen.toNat ([] : List Kp)) = .vec 1 (List.replicate seen.toNat (rowC [])) := by show D.vec 1 _ = _; rw [List.map_replicate]
      rw [hmr] at hm
      rw [hsb]
      have hsn : lookSn n (List.replicate seen.toNat []) 3 nm tok [103, 114, 101, 97, 116, 115, 101, 97, 108] (seen - bent) = ⟨nm, 3, lookS n (List.replicate seen.toNat []) 3 nm tok [103, 114, 101, 97, 116, 115, 101, 97, 108] (seen - bent)⟩ := by unfold lookSn; rw [if_pos v1]
      rw [hsn] at hm
      generalize lookS n (List.replicate seen.toNat []) 3 nm tok [103, 114, 101, 97, 116, 115, 101, 97, 108] (seen - bent) = V at hm v2 v4 v6
      generalize lookX n (List.replicate seen.toNat []) 3 nm tok [103, 114, 101, 97, 116, 115, 101, 97, 108] (seen - bent) = X at hm v3
      generalize lookE n (List.replicate seen.toNat []) 3 nm tok [103, 114, 101, 97, 116, 115, 101, 97, 108] (seen - bent) = E at hm v1
      have hE : E = 0 ∨ E = 230 := by unfold lookOk at v1; simpa using v1
      refine callP hm ?_
      rcases hE with rfl | rfl
      all_goals
        simp -dsimp -implicitDefEqProofs only [v2, v3, go_sem, ↓reduceIte, reduceCtorEq, rn1, rn2, rn3, rn4, rn5, rn6, rn7, ri1, ri2, ri3, ri4, ri5]
        refine ⟨drawn (by kernel_rfl), ?_⟩
        refine vfor sitOk (ι := TvInv bent seen) (fun v => ⟨136, [(25, aI v.i), (22, aP 592 0), (12, aB false), (2, aB false), (4, aI seen), (5, aI bent)], [(592, some (.var [cS nm, cI 3, cD (bsD V)] true))], 700⟩) (fun v => seen.toNat - v.i) ⟨bent.toNat, by omega, by omega⟩ ?_ ?_
        · simp -dsimp -implicitDefEqProofs only [go_sem, ↓reduceIte, reduceCtorEq, rn1, rn2, rn3, rn4, rn5, rn6, rn7, ri1, ri2, ri3, ri4, ri5]
          omega
        intro ⟨i, i1, i2⟩
        simp -dsimp -implicitDefEqProofs only [go_sem, ↓reduceIte, reduceCtorEq, rn1, rn2, rn3, rn4, rn5, rn6, rn7, ri1, ri2, ri3, ri4, ri5]
        refine ⟨fun hlt => ?_, fun hge => ?_⟩
        · have hVi := v4 i i1 hlt
          have hw : IntKind.i64.wrap ((i : Int) + 1) = ((i + 1 : Nat) : Int) := by rw [wrap64] <;> omega
          simp -dsimp -implicitDefEqProofs only [hVi, forall_eq', go_sem, ↓reduceIte, reduceCtorEq, rn1, rn2, rn3, rn4, rn5, rn6, rn7, ri1, ri2, ri3, ri4, ri5]
          refine ⟨by omega, (List.getElem?_eq_some_iff.1 hVi).1, again ⟨i + 1, by omega, by omega⟩ (by simp; omega) ?_⟩
          simp -dsimp -implicitDefEqProofs only [hw, go_sem, ↓reduceIte, reduceCtorEq, rn1, rn2, rn3, rn4, rn5, rn6, rn7, ri1, ri2, ri3, ri4, ri5]
        · refine callP (votes23_ok ⟨nm, 3, V⟩ (by show V.length ≤ _; omega)) ?_
          simp -dsimp -implicitDefEqProofs only [go_sem, ↓reduceIte, reduceCtorEq, rn1, rn2, rn3, rn4, rn5, rn6, rn7, ri1, ri2, ri3, ri4, ri5]
          exact v6 rfl
  | true =>
    refine meets Tryz.func3 rfl rfl Tryz.ntmps3 Tryz.results3 rfl ?_
    simp -dsimp -implicitDefEqProofs only [go_sem, ↓reduceIte, reduceCtorEq, rn1, rn2, rn3, rn4, rn5, rn6, rn7, ri1, ri2, ri3, ri4, ri5]
    refine callP upT_ok ?_
    simp -dsimp -implicitDefEqProofs only [go_sem, ↓reduceIte, reduceCtorEq, rn1, rn2, rn3, rn4, rn5, rn6, rn7, ri1, ri2, ri3, ri4, ri5]
    refine callP (at23L_ok nm (by omega)) ?_
    simp -dsimp -implicitDefEqProofs only [go_sem, ↓reduceIte, reduceCtorEq, rn1, rn2, rn3, rn4, rn5, rn6, rn7, ri1, ri2, ri3, ri4, ri5]
    intro htk hat hbs
    refine callP (netted_ok nm [⟨atN nm, 1, tok, 9⟩] fakes seen bent) ?_
    cases hB : netB nm [⟨atN nm, 1, tok, 9⟩] fakes seen bent with
    | false =>
      simp -dsimp -implicitDefEqProofs only [go_sem, ↓reduceIte, reduceCtorEq, rn1, rn2, rn3, rn4, rn5, rn6, rn7, ri1, ri2, ri3, ri4, ri5]
      refine callP (new_ok nm) ?_
      cases hap : apexB nm with
      | false =>
        simp -dsimp -implicitDefEqProofs only [hap, go_sem, ↓reduceIte, reduceCtorEq, rn1, rn2, rn3, rn4, rn5, rn6, rn7, ri1, ri2, ri3, ri4, ri5]
        refine callP (put_ok [] [] ⟨atN nm, 1, tok, 9⟩ (by simp)) ?_
        simp -dsimp -implicitDefEqProofs only [go_sem, ↓reduceIte, reduceCtorEq, rn1, rn2, rn3, rn4, rn5, rn6, rn7, ri1, ri2, ri3, ri4, ri5]
      | true =>
        simp -dsimp -implicitDefEqProofs only [hap, go_sem, ↓reduceIte, reduceCtorEq, rn1, rn2, rn3, rn4, rn5, rn6, rn7, ri1, ri2, ri3, ri4, ri5]
        refine callP (put_ok nm [] ⟨atN nm, 1, tok, 9⟩ (by simp)) ?_
        simp -dsimp -implicitDefEqProofs only [go_sem, ↓reduceIte, reduceCtorEq, rn1, rn2, rn3, rn4, rn5, rn6, rn7, ri1, ri2, ri3, ri4, ri5]
    | true =>
      obtain ⟨hb, hV, g1, g3, g3', g4, g5, g6, _, g8⟩ := netB_nb hB
      have hap : apexB nm = true := by unfold apexB; simp [g6]
      rw [hV]
      simp -dsimp -implicitDefEqProofs only [go_sem, ↓reduceIte, reduceCtorEq, rn1, rn2, rn3, rn4, rn5, rn6, rn7, ri1, ri2, ri3, ri4, ri5]
      refine callP (new_ok nm) ?_
      simp -dsimp -implicitDefEqProofs only [hap, go_sem, ↓reduceIte, reduceCtorEq, rn1, rn2, rn3, rn4, rn5, rn6, rn7, ri1, ri2, ri3, ri4, ri5]
      refine callP (put_ok nm [] ⟨atN nm, 1, tok, 9⟩ (by simp)) ?_
      simp -dsimp -implicitDefEqProofs only [go_sem, ↓reduceIte, reduceCtorEq, rn1, rn2, rn3, rn4, rn5, rn6, rn7, ri1, ri2, ri3, ri4, ri5]
      intro pe
      have hpn := put_name pe
      rw [putsL_one pe] at hb
      rw [putsL_one pe]
      have hlV : ((List.replicate seen.toNat ([] : List Kp)).length : Int) = seen := by rw [List.length_replicate]; omega
      simp -dsimp -implicitDefEqProofs only [mkA_caches _ _ seen (by omega) (by omega), go_sem, ↓reduceIte, reduceCtorEq, rn1, rn2, rn3, rn4, rn5, rn6, rn7, ri1, ri2, ri3, ri4, ri5]
      have hz := netK_sz (nm := nm) (R := [(⟨atN nm, 1, tok, 9⟩ : Rec)]) (F := putsL [] fakes) (seen := seen) (k := bent.toNat) (by simp) (by have := putsL_len [] fakes fakes.length (Nat.le_refl _); rw [List.take_length] at this; omega) (by omega)
      have hsb : IntKind.i64.wrap (seen - bent) = seen - bent := by rw [wrap64] <;> omega
      obtain ⟨v1, v2, v3, v4, v6, _⟩ := votes_net (there := true) (tok := tok) (F := putsL [] fakes) hb g6 hpn g3 g3' g4 hbs [103, 114, 101, 97, 116, 115, 101, 97, 108] (netK nm ([(⟨atN nm, 1, tok, 9⟩ : Rec)]) (putsL [] fakes) seen bent.toNat) rfl
      generalize netK nm ([(⟨atN nm, 1, tok, 9⟩ : Rec)]) (putsL [] fakes) seen bent.toNat = n at hz v1 v2 v3 v4 v6
      have hm := look23_ok n hz (List.replicate seen.toNat []) (by rw [List.length_replicate]; omega) (fun L hL => by rw [List.eq_of_mem_replicate hL]; exact ⟨by simp, by simp⟩) 3 nm (by have := atN_len nm; omega) tok [103, 114, 101, 97, 116, 115, 101, 97, 108] (seen - bent)
      have hmr : csD (List.replicate seen.toNat ([] : List Kp)) = .vec 1 (List.replicate seen.toNat (rowC [])) := by show D.vec 1 _ = _; rw [List.map_replicate]
      rw [hmr] at hm
      rw [hsb]
      have hsn : lookSn n (List.replicate seen.toNat []) 3 nm tok [103, 114, 101, 97, 116, 115, 101, 97, 108] (seen - bent) = ⟨nm, 3, lookS n (List.replicate seen.toNat []) 3 nm tok [103, 114, 101, 97, 116, 115, 101, 97, 108] (seen - bent)⟩ := by unfold lookSn; rw [if_pos v1]
      rw [hsn] at hm
      generalize lookS n (List.replicate seen.toNat []) 3 nm tok [103, 114, 101, 97, 116, 115, 101, 97, 108] (seen - bent) = V at hm v2 v4 v6
      generalize lookX n (List.replicate seen.toNat []) 3 nm tok [103, 114, 101, 97, 116, 115, 101, 97, 108] (seen - bent) = X at hm v3
      generalize lookE n (List.replicate seen.toNat []) 3 nm tok [103, 114, 101, 97, 116, 115, 101, 97, 108] (seen - bent) = E at hm v1 v6
      refine callP hm ?_
      obtain rfl : E = 0 := (v6 rfl).1
      all_goals
        simp -dsimp -implicitDefEqProofs only [v2, v3, go_sem, ↓reduceIte, reduceCtorEq, rn1, rn2, rn3, rn4, rn5, rn6, rn7, ri1, ri2, ri3, ri4, ri5]
        refine ⟨drawn (by kernel_rfl), ?_⟩
        refine vfor sitOk (ι := TvInv bent seen) (fun v => ⟨136, [(25, aI v.i), (24, aI 0), (22, aP 616 0), (12, aB false), (2, aB true), (4, aI seen), (5, aI bent)], [(616, some (.var [cS nm, cI 3, cD (bsD V)] true))], 700⟩) (fun v => seen.toNat - v.i) ⟨bent.toNat, by omega, by omega⟩ ?_ ?_
        · simp -dsimp -implicitDefEqProofs only [go_sem, ↓reduceIte, reduceCtorEq, rn1, rn2, rn3, rn4, rn5, rn6, rn7, ri1, ri2, ri3, ri4, ri5]
          omega
        intro ⟨i, i1, i2⟩
        simp -dsimp -implicitDefEqProofs only [go_sem, ↓reduceIte, reduceCtorEq, rn1, rn2, rn3, rn4, rn5, rn6, rn7, ri1, ri2, ri3, ri4, ri5]
        refine ⟨fun hlt => ?_, fun hge => ?_⟩
        · have hVi := v4 i i1 hlt
          have hw : IntKind.i64.wrap ((i : Int) + 1) = ((i + 1 : Nat) : Int) := by rw [wrap64] <;> omega
          simp -dsimp -implicitDefEqProofs only [hVi, forall_eq', go_sem, ↓reduceIte, reduceCtorEq, rn1, rn2, rn3, rn4, rn5, rn6, rn7, ri1, ri2, ri3, ri4, ri5]
          refine ⟨by omega, (List.getElem?_eq_some_iff.1 hVi).1, again ⟨i + 1, by omega, by omega⟩ (by simp; omega) ?_⟩
          simp -dsimp -implicitDefEqProofs only [hw, go_sem, ↓reduceIte, reduceCtorEq, rn1, rn2, rn3, rn4, rn5, rn6, rn7, ri1, ri2, ri3, ri4, ri5]
        · refine callP (votes23_ok ⟨nm, 3, V⟩ (by show V.length ≤ _; omega)) ?_
          simp -dsimp -implicitDefEqProofs only [go_sem, ↓reduceIte, reduceCtorEq, rn1, rn2, rn3, rn4, rn5, rn6, rn7, ri1, ri2, ri3, ri4, ri5]
          have := (v6 rfl).2
          omega
end Go.Proofs.YtbgcpopmippbiaaGreatDoor
