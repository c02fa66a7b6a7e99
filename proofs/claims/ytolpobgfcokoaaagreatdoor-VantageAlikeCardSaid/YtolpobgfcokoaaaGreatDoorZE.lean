
/- The document's answer: of, cut, Recs, Same, Answers, Few. The document's answer: Ask, Best. -/
import Derived.Test.YtolpobgfcokoaaaGreatDoorZD
open Nat renaming reduceLT → rn1, reduceLeDiff → rn2, reduceEqDiff → rn3, reduceAdd → rn4, reduceMul → rn5, reduceSub → rn6, reduceBEq → rn7
open Int renaming reduceLT → ri1, reduceLE → ri2, reduceEq → ri3, reduceBEq → ri4, reduceNeg → ri5
namespace Go.Proofs.YtolpobgfcokoaaaGreatDoor
open Go.Eng
set_option linter.unusedSimpArgs false
set_option maxRecDepth 10000

theorem rof_ok (a : Bs) (l : List Rec) (n : Bs) (k : Int) (hl : l.length ≤ 1000000) : Meets Tryz.prog 174 [zoneA a l, (false, [vS n]), (false, [vI k])] (rOne (vD (recsD (ofL l n k)))) := by
  refine meetsF Tryz.func174 rfl rfl Tryz.ntmps174 Tryz.results174 rfl ?_
  simp -dsimp -implicitDefEqProofs only [go_sem, ↓reduceIte, reduceCtorEq, rn1, rn2, rn3, rn4, rn5, rn6, rn7, ri1, ri2, ri3, ri4, ri5]
  refine vforT sitOk 400 7 (ι := CwInv l) (fun v => ⟨44, [(8, aI v.i), (7, aO 400), (3, aP 0 0), (1, aS n), (2, aI k)], [(400, some (.row 4 52 ((ofL (l.take v.i) n k).map Rec.cells) true)), (0, some (.var [cS a, cD (recsD l)] true))], 401⟩) (fun v => l.length - v.i) ⟨0, by omega⟩ ?_ ?_
  · simp -dsimp -implicitDefEqProofs only [go_sem, ↓reduceIte, reduceCtorEq, rn1, rn2, rn3, rn4, rn5, rn6, rn7, ri1, ri2, ri3, ri4, ri5]
    simp [ofL, atB]
  intro ⟨i, hi⟩
  have hall := ofL_len (l.take i) n k
  have htl : (l.take i).length ≤ l.length := by simp; omega
  simp -dsimp -implicitDefEqProofs only [go_sem, ↓reduceIte, reduceCtorEq, rn1, rn2, rn3, rn4, rn5, rn6, rn7, ri1, ri2, ri3, ri4, ri5]
  refine ⟨fun hlt => ?_, fun hge => ?_⟩
  · have hil : i < l.length := by omega
    obtain ⟨x, hx⟩ : ∃ x, l[i]? = some x := ⟨_, List.getElem?_eq_getElem hil⟩
    have hst := ofL_step n k hx
    have hw := wrapS hil (by omega)
    simp -dsimp -implicitDefEqProofs only [hx, forall_eq', hw, go_sem, ↓reduceIte, reduceCtorEq, rn1, rn2, rn3, rn4, rn5, rn6, rn7, ri1, ri2, ri3, ri4, ri5]
    repeat' (first | with_reducible apply And.intro | with_reducible intro _ | with_reducible exact drawn (by kernel_rfl) | omega)
    · rename_i h1 h2
      rw [if_pos ⟨h1, h2⟩] at hst
      refine againT 400 7 ⟨i + 1, by omega⟩ (by simp; omega) ?_
      simp -dsimp -implicitDefEqProofs only [hw, hst, List.map_append, List.map_cons, List.map_nil, go_sem, ↓reduceIte, reduceCtorEq, rn1, rn2, rn3, rn4, rn5, rn6, rn7, ri1, ri2, ri3, ri4, ri5]
    · rename_i h1 h2
      rw [if_neg (fun e => h2 e.2), List.append_nil] at hst
      refine againT 400 7 ⟨i + 1, by omega⟩ (by simp; omega) ?_
      simp -dsimp -implicitDefEqProofs only [hw, hst, go_sem, ↓reduceIte, reduceCtorEq, rn1, rn2, rn3, rn4, rn5, rn6, rn7, ri1, ri2, ri3, ri4, ri5]
    · rename_i h1
      rw [if_neg (fun e => h1 e.1), List.append_nil] at hst
      refine againT 400 7 ⟨i + 1, by omega⟩ (by simp; omega) ?_
      simp -dsimp -implicitDefEqProofs only [hw, hst, go_sem, ↓reduceIte, reduceCtorEq, rn1, rn2, rn3, rn4, rn5, rn6, rn7, ri1, ri2, ri3, ri4, ri5]
  · have hil : i = l.length := by omega
    subst hil
    rw [List.take_length] at *
    refine retF [400] ?_
    simp -dsimp -implicitDefEqProofs only [go_sem, ↓reduceIte, reduceCtorEq, rn1, rn2, rn3, rn4, rn5, rn6, rn7, ri1, ri2, ri3, ri4, ri5]

theorem firstNs_of (l : List Rec) (n : Bs) : firstNs l n = (ofL l n 3).head? := by
  unfold firstNs ofL
  rw [List.head?_filter]
theorem rcut_ok' (a : Bs) (l : List Rec) (s : Bs) (hl : l.length ≤ 1000000) : Meets Tryz.prog 173 [zoneA a l, (false, [vS s])] (rOne (vD (.vec 4 (rowO (cutV a l s none))))) := by
  refine meets Tryz.func173 rfl rfl Tryz.ntmps173 Tryz.results173 rfl ?_
  simp -dsimp -implicitDefEqProofs only [go_sem, ↓reduceIte, reduceCtorEq, rn1, rn2, rn3, rn4, rn5, rn6, rn7, ri1, ri2, ri3, ri4, ri5]
  refine vfreeze 16 rfl ?_
  simp -dsimp -implicitDefEqProofs only [go_sem, ↓reduceIte, reduceCtorEq, rn1, rn2, rn3, rn4, rn5, rn6, rn7, ri1, ri2, ri3, ri4, ri5]
  refine vdataT 5 rfl ?_
  simp -dsimp -implicitDefEqProofs only [go_sem, ↓reduceIte, reduceCtorEq, rn1, rn2, rn3, rn4, rn5, rn6, rn7, ri1, ri2, ri3, ri4, ri5]
  refine vfor sitOk (ι := CtInv a l s) (fun v => ⟨29, [(6, aS v.u), (5, aD (.vec 4 (rowO v.c))), (2, aP 0 0)], [(0, some (.var [cS a, cD (recsD l)] true))], 100⟩) (fun v => v.u.length) ⟨s, none, rfl⟩ ?_ ?_
  · simp -dsimp -implicitDefEqProofs only [rowO, go_sem, ↓reduceIte, reduceCtorEq, rn1, rn2, rn3, rn4, rn5, rn6, rn7, ri1, ri2, ri3, ri4, ri5]
  intro ⟨u, c, he⟩
  simp -dsimp -implicitDefEqProofs only [go_sem, ↓reduceIte, reduceCtorEq, rn1, rn2, rn3, rn4, rn5, rn6, rn7, ri1, ri2, ri3, ri4, ri5]
  have hstop : (u = [] ∨ u = a) → cutV a l s none = c := fun h => by
    rw [he, cutV_eq]
    rcases h with h | h
    · rw [if_pos h]
    · rw [if_pos h]; split <;> rfl
  have hstep : ¬ u = [] → ¬ u = a → cutV a l s none = cutV a l (upB u) (orO (firstNs l u) c) := fun h1 h2 => by
    rw [he, cutV_eq, if_neg h1, if_neg h2]
  refine ⟨fun h1 => ⟨fun h2 => ?_, fun h2 => ?_⟩, fun h1 => ?_⟩
  · have hst := hstep h1 h2
    rw [firstNs_of] at hst
    refine callP (rof_ok a l u 3 hl) ?_
    cases hg : ofL l u 3 with
    | nil =>
      rw [hg] at hst
      simp -dsimp -implicitDefEqProofs only [go_sem, ↓reduceIte, reduceCtorEq, rn1, rn2, rn3, rn4, rn5, rn6, rn7, ri1, ri2, ri3, ri4, ri5]
      refine callP (rup_ok u) ?_
      simp -dsimp -implicitDefEqProofs only [go_sem, ↓reduceIte, reduceCtorEq, rn1, rn2, rn3, rn4, rn5, rn6, rn7, ri1, ri2, ri3, ri4, ri5]
      refine again ⟨upB u, c, hst⟩ (upB_lt' h1) ?_
      simp -dsimp -implicitDefEqProofs only [go_sem, ↓reduceIte, reduceCtorEq, rn1, rn2, rn3, rn4, rn5, rn6, rn7, ri1, ri2, ri3, ri4, ri5]
    | cons x r =>
      rw [hg] at hst
      have hlen : (0 : Int) < ((r.length + 1 : Nat) : Int) := by omega
      have t1 : Int.toNat 1 = 1 := rfl
      simp -dsimp -implicitDefEqProofs only [hlen, t1, go_sem, ↓reduceIte, reduceCtorEq, rn1, rn2, rn3, rn4, rn5, rn6, rn7, ri1, ri2, ri3, ri4, ri5]
      refine ⟨by omega, callP (rup_ok u) ?_⟩
      simp -dsimp -implicitDefEqProofs only [t1, go_sem, ↓reduceIte, reduceCtorEq, rn1, rn2, rn3, rn4, rn5, rn6, rn7, ri1, ri2, ri3, ri4, ri5]
      refine again ⟨upB u, some x, hst⟩ (upB_lt' h1) ?_
      simp -dsimp -implicitDefEqProofs only [rowO, go_sem, ↓reduceIte, reduceCtorEq, rn1, rn2, rn3, rn4, rn5, rn6, rn7, ri1, ri2, ri3, ri4, ri5]
  · rw [hstop (.inr h2)]
  · rw [hstop (.inl h1)]

structure ReInv (l m : List Rec) where
  i : Nat
  le : i ≤ l.length
  ok : l.take i = m.take i
end Go.Proofs.YtolpobgfcokoaaaGreatDoor
namespace Go.Proofs.YtolpobgfcokoaaaGreatDoor
open Go.Eng
set_option linter.unusedSimpArgs false
set_option maxRecDepth 10000

/-- An alias is the one record at its name. -/
theorem alias_one {a : Bs} {l : List Rec} (h : Ok a l) {n : Bs} (hne : ofL l n 4 ≠ []) : ∃ r, ofL l n 4 = [r] ∧ atB l n = [r] := by
  cases ho : ofL l n 4 with
  | nil => exact absurd ho hne
  | cons x t =>
    have hx : x ∈ ofL l n 4 := by rw [ho]; simp
    unfold ofL at hx
    rw [List.mem_filter] at hx
    obtain ⟨hxa, hxk⟩ := hx
    obtain ⟨hxl, hxn⟩ := mem_atB.1 hxa
    have hc := h.alone x hxl
    rw [hxn] at hc
    unfold crowdB at hc
    have hany : (atB l n).any (fun r => r.K == 4) = true := List.any_eq_true.2 ⟨x, hxa, by simpa using hxk⟩
    rw [hany, Bool.true_and, decide_eq_false_iff_not] at hc
    match hat : atB l n, hxa with
    | [y], hm =>
      have hxy : x = y := by rw [hat] at hxa; simpa using hxa
      unfold ofL at ho
      rw [hat, List.filter_cons, List.filter_nil] at ho
      subst hxy
      rw [if_pos hxk] at ho
      exact ⟨x, ho.symm, rfl⟩
    | y :: z :: w, _ => rw [hat] at hc; simp at hc
theorem aliasL_ne {l : List Rec} {n : Bs} {k : Int} (h : ¬ k = 4) : aliasL l n k = ofL l n 4 := by
  unfold aliasL ofL
  congr 1
  funext r
  simp [h]
theorem aliasL_4 {l : List Rec} {n : Bs} : aliasL l n 4 = [] := by
  unfold aliasL; simp
structure RkInv (l : List Rec) (n : Bs) where
  i : Nat
  le : i ≤ l.length
  no : ∀ j x, j < i → l[j]? = some x → underB x.N n = false
abbrev ansD (x : An) : Bool × List CV := (true, [vI x.K, vD (recsD x.R), vI x.T, vS x.A])
theorem rask_ok (a : Bs) (l : List Rec) (n : Bs) (k : Int) (hl : l.length ≤ 1000000) : Meets Tryz.prog 124 [zoneA a l, (false, [vS n]), (false, [vI k])] (rTup [ansD (askV a l n k), (false, [vI (askE a l n k)])]) := by
  have fin : ∀ e : Int, e ≠ 0 → askE a l n k = e → askV a l n k = ⟨0, [], 0, []⟩ ∧ e = askE a l n k := fun e he h => by
    unfold askV
    rw [if_neg (by rw [h]; exact he)]
    exact ⟨rfl, h.symm⟩
  refine meets Tryz.func124 rfl rfl Tryz.ntmps124 Tryz.results124 rfl ?_
  simp -dsimp -implicitDefEqProofs only [go_sem, ↓reduceIte, reduceCtorEq, rn1, rn2, rn3, rn4, rn5, rn6, rn7, ri1, ri2, ri3, ri4, ri5]
  refine callP (rcheck_ok a l hl) ?_
  by_cases h0 : checkV a l = 0
  · have hok := (check_zero.1 h0).1
    by_cases h1 : isName n = true ∧ 1 ≤ k ∧ k ≤ 5
    · obtain ⟨h1a, h1b, h1c⟩ := h1
      have h1d : ¬ k < 1 := by omega
      have h1e : ¬ 5 < k := by omega
      simp -dsimp -implicitDefEqProofs only [h0, go_sem, ↓reduceIte, reduceCtorEq, rn1, rn2, rn3, rn4, rn5, rn6, rn7, ri1, ri2, ri3, ri4, ri5]
      refine callP (rname_ok n) ?_
      simp -dsimp -implicitDefEqProofs only [h1a, h1d, h1e, go_sem, ↓reduceIte, reduceCtorEq, rn1, rn2, rn3, rn4, rn5, rn6, rn7, ri1, ri2, ri3, ri4, ri5]
      refine callP (runder_ok _ _) ?_
      cases h2 : underB n a with
      | false =>
        obtain ⟨q1, q2⟩ := fin 120 (by decide) (by unfold askE; rw [if_pos h0, if_pos ⟨h1a, h1b, h1c⟩, if_neg (by simp [h2])])
        simp -dsimp -implicitDefEqProofs only [h2, q1, ← q2, List.map_nil, go_sem, ↓reduceIte, reduceCtorEq, rn1, rn2, rn3, rn4, rn5, rn6, rn7, ri1, ri2, ri3, ri4, ri5]
      | true =>
        have he : askE a l n k = 0 := by unfold askE; rw [if_pos h0, if_pos ⟨h1a, h1b, h1c⟩, if_pos h2]
        have hv : askV a l n k = askW a l n k := by unfold askV; rw [if_pos he]
        rw [he, hv]
        simp -dsimp -implicitDefEqProofs only [h2, go_sem, ↓reduceIte, reduceCtorEq, rn1, rn2, rn3, rn4, rn5, rn6, rn7, ri1, ri2, ri3, ri4, ri5]
        refine callP (rcut_ok' a l n hl) ?_
        cases hc : cutV a l n none with
        | some c =>
          rcases cutV_mem n.length n none c (Nat.le_refl _) hc with q | ⟨hcm, hck⟩
          · cases q
          obtain ⟨d, hd, hd1, hd2⟩ := form_ns (good_mem h0 hcm).1 hck
          have hw : IntKind.u8.wrap ((d.toNat : Int) - 48) = (d.toNat : Int) - 48 := by simp [IntKind.wrap, IntKind.signed, IntKind.bits]; omega
          have hw2 : IntKind.i64.wrap ((d.toNat : Int) - 48) = (d.toNat : Int) - 48 := by rw [wrap64] <;> omega
          have hask : askW a l n k = ⟨4, [c], (d.toNat : Int) - 48, []⟩ := by unfold askW; rw [hc]; simp [digV, hd]
          rw [hask]
          simp -dsimp -implicitDefEqProofs only [rowO, hd, hw, hw2, go_sem, ↓reduceIte, reduceCtorEq, rn1, rn2, rn3, rn4, rn5, rn6, rn7, ri1, ri2, ri3, ri4, ri5]
        | none =>
          simp -dsimp -implicitDefEqProofs only [rowO, go_sem, ↓reduceIte, reduceCtorEq, rn1, rn2, rn3, rn4, rn5, rn6, rn7, ri1, ri2, ri3, ri4, ri5]
          refine callP (rof_ok a l n 4 hl) ?_
          by_cases hal : ofL l n 4 ≠ [] ∧ ¬ k = 4
          · obtain ⟨r, hr, _⟩ := alias_one hok hal.1
            have hask : askW a l n k = ⟨5, [r], 0, r.V⟩ := by
              unfold askW; rw [hc]; simp only; rw [aliasL_ne hal.2, hr, if_pos (by simp)]; rfl
            have hk4 := hal.2
            rw [hask, hr]
            simp -dsimp -implicitDefEqProofs only [hk4, go_sem, ↓reduceIte, reduceCtorEq, rn1, rn2, rn3, rn4, rn5, rn6, rn7, ri1, ri2, ri3, ri4, ri5]
          · have hnil : aliasL l n k = [] := by
              by_cases h4 : k = 4
              · rw [h4]; exact aliasL_4
              · rw [aliasL_ne h4]; exact Classical.byContradiction fun h => hal ⟨h, h4⟩
            by_cases h4 : ofL l n 4 = []
            · have hlen0 : ¬ (0 : Int) < (((ofL l n 4).length : Nat) : Int) := by rw [h4]; simp
              simp -dsimp -implicitDefEqProofs only [hlen0, go_sem, ↓reduceIte, reduceCtorEq, rn1, rn2, rn3, rn4, rn5, rn6, rn7, ri1, ri2, ri3, ri4, ri5]
              refine callP (rof_ok a l n k hl) ?_
              cases hg : ofL l n k with
              | cons x t =>
                have hask : askW a l n k = ⟨1, x :: t, 0, []⟩ := by unfold askW; rw [hc]; simp only; rw [if_neg (by rw [hnil]; simp), if_pos (by rw [hg]; simp), hg]
                have hlen : (0 : Int) < ((t.length + 1 : Nat) : Int) := by omega
                rw [hask]
                simp -dsimp -implicitDefEqProofs only [hlen, go_sem, ↓reduceIte, reduceCtorEq, rn1, rn2, rn3, rn4, rn5, rn6, rn7, ri1, ri2, ri3, ri4, ri5]
              | nil =>
                simp -dsimp -implicitDefEqProofs only [go_sem, ↓reduceIte, reduceCtorEq, rn1, rn2, rn3, rn4, rn5, rn6, rn7, ri1, ri2, ri3, ri4, ri5]
                refine vfor sitOk (ι := RkInv l n) (fun v => ⟨94, [(12, aI v.i), (6, aP 8 0), (3, aP 0 0), (1, aS n)], [(8, some (.var [cI 0, .nils 4, cI 0, cS []] true)), (0, some (.var [cS a, cD (recsD l)] true))], 2000⟩) (fun v => l.length - v.i) ⟨0, by omega, fun j x hj => by omega⟩ ?_ ?_
                · simp -dsimp -implicitDefEqProofs only [go_sem, ↓reduceIte, reduceCtorEq, rn1, rn2, rn3, rn4, rn5, rn6, rn7, ri1, ri2, ri3, ri4, ri5]
                intro ⟨i, hi, hno⟩
                simp -dsimp -implicitDefEqProofs only [go_sem, ↓reduceIte, reduceCtorEq, rn1, rn2, rn3, rn4, rn5, rn6, rn7, ri1, ri2, ri3, ri4, ri5]
                refine ⟨fun hlt => ?_, fun hge => ?_⟩
                · have hil : i < l.length := by omega
                  obtain ⟨x, hx⟩ : ∃ x, l[i]? = some x := ⟨_, List.getElem?_eq_getElem hil⟩
                  have hw := wrapS hil (by omega)
                  simp -dsimp -implicitDefEqProofs only [hx, forall_eq', hw, go_sem, ↓reduceIte, reduceCtorEq, rn1, rn2, rn3, rn4, rn5, rn6, rn7, ri1, ri2, ri3, ri4, ri5]
                  refine ⟨by omega, hil, callP (runder_ok _ _) ?_⟩
                  simp -dsimp -implicitDefEqProofs only [hw, go_sem, ↓reduceIte, reduceCtorEq, rn1, rn2, rn3, rn4, rn5, rn6, rn7, ri1, ri2, ri3, ri4, ri5]
                  refine ⟨fun h10 => ?_, fun h10 => ?_⟩
                  · have hany : (l.any fun r => underB r.N n) = true := List.any_eq_true.2 ⟨x, List.mem_of_getElem? hx, h10⟩
                    have hask : askW a l n k = ⟨2, [], 0, []⟩ := by unfold askW; rw [hc]; simp only; rw [if_neg (by rw [hnil]; simp), if_neg (by rw [hg]; simp), if_pos hany]
                    rw [hask]
                    exact ⟨rfl, rfl, rfl, rfl⟩
                  · refine again ⟨i + 1, by omega, fun j y hj hy => by
                      by_cases hji : j = i
                      · subst hji; rw [hx] at hy; cases hy; exact h10
                      · exact hno j y (by omega) hy⟩ (by simp; omega) ?_
                    simp -dsimp -implicitDefEqProofs only [go_sem, ↓reduceIte, reduceCtorEq, rn1, rn2, rn3, rn4, rn5, rn6, rn7, ri1, ri2, ri3, ri4, ri5]
                · have hany : (l.any fun r => underB r.N n) = false := by
                    rw [List.any_eq_false]
                    intro x hx
                    obtain ⟨j, hj⟩ := List.mem_iff_getElem?.1 hx
                    have := hno j x (by have := (List.getElem?_eq_some_iff.1 hj).1; omega) hj
                    simp [this]
                  have hask : askW a l n k = ⟨3, [], 0, []⟩ := by unfold askW; rw [hc]; simp only; rw [if_neg (by rw [hnil]; simp), if_neg (by rw [hg]; simp), if_neg (by simp [hany])]
                  rw [hask]
                  exact ⟨rfl, rfl, rfl, rfl⟩
            · have hk : k = 4 := Classical.byContradiction fun h => hal ⟨h4, h⟩
              have hlen0 : (0 : Int) < (((ofL l n 4).length : Nat) : Int) := by
                cases ho : ofL l n 4 with
                | nil => exact absurd ho h4
                | cons x t => simp
              subst hk
              simp -dsimp -implicitDefEqProofs only [hlen0, go_sem, ↓reduceIte, reduceCtorEq, rn1, rn2, rn3, rn4, rn5, rn6, rn7, ri1, ri2, ri3, ri4, ri5]
              refine callP (rof_ok a l n 4 hl) ?_
              cases hg : ofL l n 4 with
              | cons x t =>
                have hask : askW a l n 4 = ⟨1, x :: t, 0, []⟩ := by unfold askW; rw [hc]; simp only; rw [if_neg (by rw [hnil]; simp), if_pos (by rw [hg]; simp), hg]
                have hlen : (0 : Int) < ((t.length + 1 : Nat) : Int) := by omega
                rw [hask]
                simp -dsimp -implicitDefEqProofs only [hlen, go_sem, ↓reduceIte, reduceCtorEq, rn1, rn2, rn3, rn4, rn5, rn6, rn7, ri1, ri2, ri3, ri4, ri5]
              | nil =>
                simp -dsimp -implicitDefEqProofs only [go_sem, ↓reduceIte, reduceCtorEq, rn1, rn2, rn3, rn4, rn5, rn6, rn7, ri1, ri2, ri3, ri4, ri5]
                refine vfor sitOk (ι := RkInv l n) (fun v => ⟨94, [(12, aI v.i), (6, aP 8 0), (3, aP 0 0), (1, aS n)], [(8, some (.var [cI 0, .nils 4, cI 0, cS []] true)), (0, some (.var [cS a, cD (recsD l)] true))], 2000⟩) (fun v => l.length - v.i) ⟨0, by omega, fun j x hj => by omega⟩ ?_ ?_
                · simp -dsimp -implicitDefEqProofs only [go_sem, ↓reduceIte, reduceCtorEq, rn1, rn2, rn3, rn4, rn5, rn6, rn7, ri1, ri2, ri3, ri4, ri5]
                intro ⟨i, hi, hno⟩
                simp -dsimp -implicitDefEqProofs only [go_sem, ↓reduceIte, reduceCtorEq, rn1, rn2, rn3, rn4, rn5, rn6, rn7, ri1, ri2, ri3, ri4, ri5]
                refine ⟨fun hlt => ?_, fun hge => ?_⟩
                · have hil : i < l.length := by omega
                  obtain ⟨x, hx⟩ : ∃ x, l[i]? = some x := ⟨_, List.getElem?_eq_getElem hil⟩
                  have hw := wrapS hil (by omega)
                  simp -dsimp -implicitDefEqProofs only [hx, forall_eq', hw, go_sem, ↓reduceIte, reduceCtorEq, rn1, rn2, rn3, rn4, rn5, rn6, rn7, ri1, ri2, ri3, ri4, ri5]
                  refine ⟨by omega, hil, callP (runder_ok _ _) ?_⟩
                  simp -dsimp -implicitDefEqProofs only [hw, go_sem, ↓reduceIte, reduceCtorEq, rn1, rn2, rn3, rn4, rn5, rn6, rn7, ri1, ri2, ri3, ri4, ri5]
                  refine ⟨fun h10 => ?_, fun h10 => ?_⟩
                  · have hany : (l.any fun r => underB r.N n) = true := List.any_eq_true.2 ⟨x, List.mem_of_getElem? hx, h10⟩
                    have hask : askW a l n 4 = ⟨2, [], 0, []⟩ := by unfold askW; rw [hc]; simp only; rw [if_neg (by rw [hnil]; simp), if_neg (by rw [hg]; simp), if_pos hany]
                    rw [hask]
                    exact ⟨rfl, rfl, rfl, rfl⟩
                  · refine again ⟨i + 1, by omega, fun j y hj hy => by
                      by_cases hji : j = i
                      · subst hji; rw [hx] at hy; cases hy; exact h10
                      · exact hno j y (by omega) hy⟩ (by simp; omega) ?_
                    simp -dsimp -implicitDefEqProofs only [go_sem, ↓reduceIte, reduceCtorEq, rn1, rn2, rn3, rn4, rn5, rn6, rn7, ri1, ri2, ri3, ri4, ri5]
                · have hany : (l.any fun r => underB r.N n) = false := by
                    rw [List.any_eq_false]
                    intro x hx
                    obtain ⟨j, hj⟩ := List.mem_iff_getElem?.1 hx
                    have := hno j x (by have := (List.getElem?_eq_some_iff.1 hj).1; omega) hj
                    simp [this]
                  have hask : askW a l n 4 = ⟨3, [], 0, []⟩ := by unfold askW; rw [hc]; simp only; rw [if_neg (by rw [hnil]; simp), if_neg (by rw [hg]; simp), if_neg (by simp [hany])]
                  rw [hask]
                  exact ⟨rfl, rfl, rfl, rfl⟩
    · obtain ⟨q1, q2⟩ := fin 1 (by decide) (by unfold askE; rw [if_pos h0, if_neg h1])
      simp -dsimp -implicitDefEqProofs only [h0, q1, ← q2, List.map_nil, go_sem, ↓reduceIte, reduceCtorEq, rn1, rn2, rn3, rn4, rn5, rn6, rn7, ri1, ri2, ri3, ri4, ri5]
      refine callP (rname_ok n) ?_
      cases hn : isName n with
      | false => simp -dsimp -implicitDefEqProofs only [hn, q1, ← q2, List.map_nil, go_sem, ↓reduceIte, reduceCtorEq, rn1, rn2, rn3, rn4, rn5, rn6, rn7, ri1, ri2, ri3, ri4, ri5]
      | true =>
        by_cases h3 : k < 1
        · simp -dsimp -implicitDefEqProofs only [hn, h3, q1, ← q2, List.map_nil, go_sem, ↓reduceIte, reduceCtorEq, rn1, rn2, rn3, rn4, rn5, rn6, rn7, ri1, ri2, ri3, ri4, ri5]
        · have h4 : 5 < k := by
            refine Classical.byContradiction fun h => h1 ⟨hn, by omega, by omega⟩
          simp -dsimp -implicitDefEqProofs only [hn, h3, h4, q1, ← q2, List.map_nil, go_sem, ↓reduceIte, reduceCtorEq, rn1, rn2, rn3, rn4, rn5, rn6, rn7, ri1, ri2, ri3, ri4, ri5]
  · obtain ⟨q1, q2⟩ := fin _ h0 (by unfold askE; rw [if_neg h0])
    simp -dsimp -implicitDefEqProofs only [h0, q1, ← q2, List.map_nil, go_sem, ↓reduceIte, reduceCtorEq, rn1, rn2, rn3, rn4, rn5, rn6, rn7, ri1, ri2, ri3, ri4, ri5]

def optM : Option Nat → Int
  | some j => (j : Nat)
  | none => -1
theorem best_noname {l : List Zn} {n : Bs} (h : isName n = false) : ∀ i, bestAt l n i = none
  | 0 => rfl
  | i + 1 => by
    have ih := best_noname (l := l) h i
    unfold bestAt
    split
    · rw [if_neg, ih]
      simp [takesB, underB, h]
    · exact ih
theorem bestV_eq (l : List Zn) (n : Bs) : bestV l n = bestAt l n l.length := by
  unfold bestV
  cases h : isName n with
  | true => rfl
  | false => rw [best_noname h]; rfl
theorem takes_none {l : List Zn} {n : Bs} {z : Zn} : takesB l n z none = (underB n z.A && checkV z.A z.R == 0) := by
  unfold takesB; simp
theorem rbest_ok (l : List Zn) (n : Bs) (hl : l.length ≤ 1000000) (hz : ∀ z ∈ l, z.R.length ≤ 1000000) : Meets Tryz.prog 123 [(false, [vD (zonesD l)]), (false, [vS n])] (rTup [(false, [vI (optN (bestV l n))]), (false, [vB (bestV l n).isSome])]) := by
  rw [bestV_eq]
  refine meets Tryz.func123 rfl rfl Tryz.ntmps123 Tryz.results123 rfl ?_
  simp -dsimp -implicitDefEqProofs only [go_sem, ↓reduceIte, reduceCtorEq, rn1, rn2, rn3, rn4, rn5, rn6, rn7, ri1, ri2, ri3, ri4, ri5]
  refine vfor sitOk (ι := BtInv l) (fun v => ⟨57, [(7, aI v.i), (6, aI (optM (bestAt l n v.i))), (1, aS n), (0, aD (zonesD l))], [], 120⟩) (fun v => l.length - v.i) ⟨0, by omega⟩ ?_ ?_
  · simp -dsimp -implicitDefEqProofs only [bestAt, optM, go_sem, ↓reduceIte, reduceCtorEq, rn1, rn2, rn3, rn4, rn5, rn6, rn7, ri1, ri2, ri3, ri4, ri5]
  intro ⟨i, hi⟩
  simp -dsimp -implicitDefEqProofs only [go_sem, ↓reduceIte, reduceCtorEq, rn1, rn2, rn3, rn4, rn5, rn6, rn7, ri1, ri2, ri3, ri4, ri5]
  refine ⟨fun hlt => ?_, fun hge => ?_⟩
  · have hil : i < l.length := by omega
    obtain ⟨z, hx⟩ : ∃ z, l[i]? = some z := ⟨_, List.getElem?_eq_getElem hil⟩
    have hw := wrapS hil (by omega)
    have hzr := hz z (List.mem_of_getElem? hx)
    have hstep : bestAt l n (i + 1) = if takesB l n z (bestAt l n i) then some i else bestAt l n i := by
      conv => lhs; unfold bestAt
      rw [hx]
    cases hb : bestAt l n i with
    | none =>
      rw [hb, takes_none] at hstep
      have hm : ((-1 : Int) < 0) := by decide
      simp -dsimp -implicitDefEqProofs only [hx, forall_eq', hw, optM, hm, go_sem, ↓reduceIte, reduceCtorEq, rn1, rn2, rn3, rn4, rn5, rn6, rn7, ri1, ri2, ri3, ri4, ri5]
      repeat' (first | with_reducible apply And.intro | with_reducible intro _ | with_reducible exact drawn (by kernel_rfl) | (refine callP (rname_ok _) ?_; simp -dsimp -implicitDefEqProofs only [hx, forall_eq', hw, optM, hm, go_sem, ↓reduceIte, reduceCtorEq, rn1, rn2, rn3, rn4, rn5, rn6, rn7, ri1, ri2, ri3, ri4, ri5]) | (refine callP (rcheck_ok _ _ hzr) ?_; simp -dsimp -implicitDefEqProofs only [hx, forall_eq', hw, optM, hm, go_sem, ↓reduceIte, reduceCtorEq, rn1, rn2, rn3, rn4, rn5, rn6, rn7, ri1, ri2, ri3, ri4, ri5]) | (refine callP (runder_ok _ _) ?_; simp -dsimp -implicitDefEqProofs only [hx, forall_eq', hw, optM, hm, go_sem, ↓reduceIte, reduceCtorEq, rn1, rn2, rn3, rn4, rn5, rn6, rn7, ri1, ri2, ri3, ri4, ri5]) | omega)
      all_goals first
        | (have e : bestAt l n (i + 1) = some i := by
             rw [hstep, if_pos]; simp only [Bool.and_eq_true, decide_eq_true_eq, beq_iff_eq]
             first | exact ⟨by assumption, by assumption⟩ | exact ⟨⟨by assumption, by assumption⟩, by assumption⟩
           refine again ⟨i + 1, by omega⟩ (by simp; omega) ?_
           simp -dsimp -implicitDefEqProofs only [e, hw, optM, go_sem, ↓reduceIte, reduceCtorEq, rn1, rn2, rn3, rn4, rn5, rn6, rn7, ri1, ri2, ri3, ri4, ri5]
           done)
        | (have e : bestAt l n (i + 1) = none := by
             rw [hstep, if_neg]
             simp only [Bool.and_eq_true, decide_eq_true_eq, beq_iff_eq]
             intro q
             have hu : isName n = false → underB n z.A = false := fun h => by simp [underB, h]
             first | omega | (simp_all; done)
           refine again ⟨i + 1, by omega⟩ (by simp; omega) ?_
           simp -dsimp -implicitDefEqProofs only [e, hw, optM, go_sem, ↓reduceIte, reduceCtorEq, rn1, rn2, rn3, rn4, rn5, rn6, rn7, ri1, ri2, ri3, ri4, ri5]
           done)
        | trace_state
    | some j =>
      rw [hb] at hstep
      obtain ⟨hj1, hj2⟩ := bestAt_lt hb
      obtain ⟨y, hy⟩ : ∃ y, l[j]? = some y := ⟨_, List.getElem?_eq_getElem hj2⟩
      rw [takes_some hy] at hstep
      have hm : ¬ ((j : Int) < 0) := by omega
      simp -dsimp -implicitDefEqProofs only [hx, forall_eq', hw, optM, hy, hm, go_sem, ↓reduceIte, reduceCtorEq, rn1, rn2, rn3, rn4, rn5, rn6, rn7, ri1, ri2, ri3, ri4, ri5]
      repeat' (first | with_reducible apply And.intro | with_reducible intro _ | with_reducible exact drawn (by kernel_rfl) | (refine callP (rname_ok _) ?_; simp -dsimp -implicitDefEqProofs only [hx, forall_eq', hw, optM, hy, hm, go_sem, ↓reduceIte, reduceCtorEq, rn1, rn2, rn3, rn4, rn5, rn6, rn7, ri1, ri2, ri3, ri4, ri5]) | (refine callP (rcheck_ok _ _ hzr) ?_; simp -dsimp -implicitDefEqProofs only [hx, forall_eq', hw, optM, hy, hm, go_sem, ↓reduceIte, reduceCtorEq, rn1, rn2, rn3, rn4, rn5, rn6, rn7, ri1, ri2, ri3, ri4, ri5]) | (refine callP (runder_ok _ _) ?_; simp -dsimp -implicitDefEqProofs only [hx, forall_eq', hw, optM, hy, hm, go_sem, ↓reduceIte, reduceCtorEq, rn1, rn2, rn3, rn4, rn5, rn6, rn7, ri1, ri2, ri3, ri4, ri5]) | omega)
      all_goals first
        | (have e : bestAt l n (i + 1) = some i := by
             rw [hstep, if_pos]; simp only [Bool.and_eq_true, decide_eq_true_eq, beq_iff_eq]
             first | exact ⟨by assumption, by assumption⟩ | exact ⟨⟨by assumption, by assumption⟩, by assumption⟩
           refine again ⟨i + 1, by omega⟩ (by simp; omega) ?_
           simp -dsimp -implicitDefEqProofs only [e, hw, optM, go_sem, ↓reduceIte, reduceCtorEq, rn1, rn2, rn3, rn4, rn5, rn6, rn7, ri1, ri2, ri3, ri4, ri5]
           done)
        | (have e : bestAt l n (i + 1) = some j := by
             rw [hstep, if_neg]
             simp only [Bool.and_eq_true, decide_eq_true_eq, beq_iff_eq]
             intro q
             have hu : isName n = false → underB n z.A = false := fun h => by simp [underB, h]
             first | omega | (simp_all; done)
           refine again ⟨i + 1, by omega⟩ (by simp; omega) ?_
           simp -dsimp -implicitDefEqProofs only [e, hw, optM, go_sem, ↓reduceIte, reduceCtorEq, rn1, rn2, rn3, rn4, rn5, rn6, rn7, ri1, ri2, ri3, ri4, ri5]
           done)
        | trace_state
  · have hil : i = l.length := by omega
    subst hil
    cases hb : bestAt l n l.length with
    | none => exact ⟨rfl, rfl⟩
    | some j =>
      exact ⟨if_neg (show ¬ ((j : Nat) : Int) < 0 by omega), decide_eq_true (show (0 : Int) ≤ ((j : Nat) : Int) by omega)⟩
end Go.Proofs.YtolpobgfcokoaaaGreatDoor
