
/- The document's net: address, text, find, ahead, servers, bends, clocks, Check. The document's net: servers. The document's net: text, bends, clocks. -/
import Derived.Test.YtolpobgfcokoaaaGreatDoorRC
open Nat renaming reduceLT → rn1, reduceLeDiff → rn2, reduceEqDiff → rn3, reduceAdd → rn4, reduceMul → rn5, reduceSub → rn6, reduceBEq → rn7
open Int renaming reduceLT → ri1, reduceLE → ri2, reduceEq → ri3, reduceBEq → ri4, reduceNeg → ri5
namespace Go.Proofs.YtolpobgfcokoaaaGreatDoor
open Go.Eng
set_option linter.unusedSimpArgs false
set_option maxRecDepth 10000

theorem raddress_ok (a : Int) : Meets Tryz.prog 166 [(false, [vI a])] (rOne (vB (addrB a))) := by
  refine meets Tryz.func166 rfl rfl Tryz.ntmps166 Tryz.results166 rfl ?_
  simp -dsimp -implicitDefEqProofs only [go_sem, ↓reduceIte, reduceCtorEq, rn1, rn2, rn3, rn4, rn5, rn6, rn7, ri1, ri2, ri3, ri4, ri5]
  repeat' (first | with_reducible apply And.intro | with_reducible intro _ | with_reducible exact drawn (by kernel_rfl) | omega)
  all_goals unfold addrB
  · rename_i h1
    rw [decide_eq_true h1]; rfl
  · rename_i h1
    rw [show decide (0 ≤ a) = false from decide_eq_false (by omega)]; rfl
def fitA (a : Int) (s : Sv) : Bool := koI.cmp (kS s) a == 0
theorem fitA_iff {a : Int} {s : Sv} : fitA a s = true ↔ s.A = a := by
  unfold fitA
  rw [beq_iff_eq]
  exact koI.eq0
/-- Where a server stands. -/
def rfI (n : Nt) (a : Int) : Int := match n.V.findIdx? (fitA a) with
  | some i => (i : Nat)
  | none => -1
theorem rfI_none {n : Nt} {a : Int} (h : svF n a = none) : rfI n a = -1 := by
  have : n.V.findIdx? (fitA a) = none := by
    rw [List.findIdx?_eq_none_iff]
    intro x hx
    have := find_none.1 h x hx
    rw [Bool.eq_false_iff]
    exact fun e => this (fitA_iff.1 e)
  unfold rfI; rw [this]
theorem rfI_at {n : Nt} {a : Int} {i : Nat} {s : Sv} (hx : n.V[i]? = some s) (h : s.A = a) (hno : ∀ j x, j < i → n.V[j]? = some x → fitA a x = false) : rfI n a = (i : Nat) ∧ svF n a = some s := by
  have hil := (List.getElem?_eq_some_iff.1 hx).1
  have : n.V.findIdx? (fitA a) = some i := by
    rw [List.findIdx?_eq_some_iff_getElem]
    refine ⟨hil, ?_, fun j hj => ?_⟩
    · have := Option.some.inj ((List.getElem?_eq_getElem hil).symm.trans hx)
      rw [this]; exact fitA_iff.2 h
    · have hjl : j < n.V.length := by omega
      have := hno j n.V[j] hj (List.getElem?_eq_getElem hjl)
      simp [this]
  refine ⟨by unfold rfI; rw [this], find_at (f := fitA a) hx (fitA_iff.2 h) hno⟩
theorem rfI_some {n : Nt} {a : Int} {s : Sv} (h : svF n a = some s) : ∃ i : Nat, n.V[i]? = some s ∧ rfI n a = (i : Nat) := by
  have h' : n.V.find? (fitA a) = some s := h
  rw [List.find?_eq_some_iff_getElem] at h'
  obtain ⟨h1, i, hi, h2, h3⟩ := h'
  have hx : n.V[i]? = some s := by rw [List.getElem?_eq_getElem hi, h2]
  exact ⟨i, hx, (rfI_at hx (fitA_iff.1 h1) fun j x hj hjx => by
    have := h3 j hj
    rw [Option.some.inj ((List.getElem?_eq_getElem (by omega : j < n.V.length)).symm.trans hjx)] at this
    simpa using this).1⟩
theorem rfI_neg {n : Nt} {a : Int} : rfI n a < 0 ↔ (svF n a).isSome = false := by
  cases h : svF n a with
  | none => rw [rfI_none h]; simp
  | some s =>
    obtain ⟨i, _, e⟩ := rfI_some h
    rw [e]; simp
theorem rfind_ok (n : Nt) (a : Int) (hl : n.V.length ≤ 1000000) : Meets Tryz.prog 168 [n.arg, (false, [vI a])] (rOne (vI (rfI n a))) := by
  refine meets Tryz.func168 rfl rfl Tryz.ntmps168 Tryz.results168 rfl ?_
  simp -dsimp -implicitDefEqProofs only [go_sem, ↓reduceIte, reduceCtorEq, rn1, rn2, rn3, rn4, rn5, rn6, rn7, ri1, ri2, ri3, ri4, ri5]
  refine vfor sitOk (ι := IxInv (fitA a) n.V) (fun v => ⟨22, [(5, aI v.i), (2, aP 0 0), (1, aI a)], [(0, some (.var [cD (svsD n.V), cI n.N, cD (bnsD n.B), cD (cksD n.C)] true))], 100⟩) (fun v => n.V.length - v.i) ⟨0, by omega, fun j x hj => by omega⟩ ?_ ?_
  · simp -dsimp -implicitDefEqProofs only [go_sem, ↓reduceIte, reduceCtorEq, rn1, rn2, rn3, rn4, rn5, rn6, rn7, ri1, ri2, ri3, ri4, ri5]
  intro ⟨i, hi, hno⟩
  simp -dsimp -implicitDefEqProofs only [go_sem, ↓reduceIte, reduceCtorEq, rn1, rn2, rn3, rn4, rn5, rn6, rn7, ri1, ri2, ri3, ri4, ri5]
  refine ⟨fun hlt => ?_, fun hge => ?_⟩
  · have hil : i < n.V.length := by omega
    obtain ⟨x, hx⟩ : ∃ x, n.V[i]? = some x := ⟨_, List.getElem?_eq_getElem hil⟩
    have hw := wrapS hil (by omega)
    simp -dsimp -implicitDefEqProofs only [hx, forall_eq', hw, go_sem, ↓reduceIte, reduceCtorEq, rn1, rn2, rn3, rn4, rn5, rn6, rn7, ri1, ri2, ri3, ri4, ri5]
    refine ⟨by omega, hil, fun h => ?_, fun h => ?_⟩
    · rw [(rfI_at hx h hno).1]
    · refine again ⟨i + 1, by omega, fun j y hj hy => ?_⟩ (by simp; omega) ?_
      · by_cases hji : j = i
        · subst hji; rw [hx] at hy; cases hy; exact Bool.eq_false_iff.2 fun e => h (fitA_iff.1 e)
        · exact hno j y (by omega) hy
      · simp -dsimp -implicitDefEqProofs only [hw, go_sem, ↓reduceIte, reduceCtorEq, rn1, rn2, rn3, rn4, rn5, rn6, rn7, ri1, ri2, ri3, ri4, ri5]
  · have hil : i = n.V.length := by omega
    subst hil
    rw [rfI_none (find_none.2 fun z hz e => by
      obtain ⟨j, hj⟩ := List.mem_iff_getElem?.1 hz
      have := hno j z (List.getElem?_eq_some_iff.1 hj).1 hj
      rw [fitA_iff.2 e] at this
      cases this)]
def aheadN (a b : Bn) : Bool := decide (koP.cmp (kB a) (kB b) < 0)
theorem rahead13_ok (a b : Bn) : Meets Tryz.prog 169 [a.arg, b.arg] (rOne (vB (aheadN a b))) := by
  have h : (koP.cmp (kB a) (kB b) < 0) = (a.S < b.S ∨ (a.S = b.S ∧ a.F < b.F)) := propext or2_lt
  refine meets Tryz.func169 rfl rfl Tryz.ntmps169 Tryz.results169 rfl ?_
  simp -dsimp -implicitDefEqProofs only [go_sem, ↓reduceIte, reduceCtorEq, rn1, rn2, rn3, rn4, rn5, rn6, rn7, ri1, ri2, ri3, ri4, ri5]
  unfold aheadN
  simp only [h]
  refine ⟨fun h1 => ⟨fun h2 => ?_, fun h2 => ?_⟩, fun h1 => ?_⟩
  · rw [decide_eq_decide]; omega
  · exact (decide_eq_false (by omega)).symm
  · exact (decide_eq_true (.inl h1)).symm
end Go.Proofs.YtolpobgfcokoaaaGreatDoor
namespace Go.Proofs.YtolpobgfcokoaaaGreatDoor
open Go.Eng
set_option linter.unusedSimpArgs false
set_option maxRecDepth 10000

abbrev oS : Sv → Sv → Int := fun x y => koI.cmp (kS x) (kS y)
abbrev oZ : Zn → Zn → Int := fun x y => koS.cmp (kZ x) (kZ y)
/-- A server by itself and by the one ahead, but for its zones. -/
def headAt (l : List Sv) (i : Nat) : Bool := risesAt oS (fun s => addrB s.A) l i
theorem head_split {l : List Sv} {i : Nat} {x : Sv} (hx : l[i]? = some x) : risesAt oS svB l i = (headAt l i && zsOk x.Z) := by
  unfold headAt
  match i with
  | 0 => rw [rises_at0 _ _ hx, rises_at0 _ _ hx]; rfl
  | k + 1 =>
    have hk := (List.getElem?_eq_some_iff.1 hx).1
    obtain ⟨p, hp⟩ : ∃ p, l[k]? = some p := ⟨_, List.getElem?_eq_getElem (by omega)⟩
    rw [rises_atS _ _ hx hp, rises_atS _ _ hx hp, svB]
    cases addrB x.A <;> cases zsOk x.Z <;> simp
theorem next_at {α : Type} {ord : α → α → Int} {right : α → Bool} {l : List α} {i : Nat} (hok : ∀ j, j < i → risesAt ord right l j = true) (h : risesAt ord right l i = true) : ∀ j, j < i + 1 → risesAt ord right l j = true := fun j hj => by
  by_cases hji : j = i
  · rw [hji]; exact h
  · exact hok j (by omega)
theorem rservers_ok (l : List Sv) (hl : l.length ≤ 1000) (hz : ∀ s ∈ l, s.Z.length ≤ 1000) (hr : ∀ s ∈ l, ∀ z ∈ s.Z, z.R.length ≤ 1000) : Meets Tryz.prog 119 [(false, [vD (svsD l)])] (rOne (vB (risesB oS svB l))) := by
  refine meets Tryz.func119 rfl rfl Tryz.ntmps119 Tryz.results119 rfl ?_
  simp -dsimp -implicitDefEqProofs only [go_sem, ↓reduceIte, reduceCtorEq, rn1, rn2, rn3, rn4, rn5, rn6, rn7, ri1, ri2, ri3, ri4, ri5]
  refine vfor sitOk (ι := RsInv oS svB l) (fun v => ⟨72, [(3, aI v.i), (0, aD (svsD l))], [], 100⟩) (fun v => l.length - v.i) ⟨0, by omega, fun j hj => by omega⟩ ?_ ?_
  · simp -dsimp -implicitDefEqProofs only [go_sem, ↓reduceIte, reduceCtorEq, rn1, rn2, rn3, rn4, rn5, rn6, rn7, ri1, ri2, ri3, ri4, ri5]
  intro ⟨i, hi, hok⟩
  simp -dsimp -implicitDefEqProofs only [go_sem, ↓reduceIte, reduceCtorEq, rn1, rn2, rn3, rn4, rn5, rn6, rn7, ri1, ri2, ri3, ri4, ri5]
  refine ⟨fun hlt => ?_, fun hge => ?_⟩
  · have hil : i < l.length := by omega
    obtain ⟨x, hx⟩ : ∃ x, l[i]? = some x := ⟨_, List.getElem?_eq_getElem hil⟩
    have hw := wrapS hil (by omega)
    have hxm := List.mem_of_getElem? hx
    have hzl := hz x hxm
    have hsp := head_split hx
    -- the zones
    have bad : headAt l i = false → false = risesB oS svB l := fun h => (rises_bad hil (by rw [hsp, h]; rfl)).symm
    by_cases h0 : i = 0
    · have hat : headAt l i = addrB x.A := by subst h0; exact rises_at0 _ _ hx
      have hzz : ¬ (0 : Int) < (i : Int) := by omega
      simp -dsimp -implicitDefEqProofs only [hx, forall_eq', hw, hzz, go_sem, ↓reduceIte, reduceCtorEq, rn1, rn2, rn3, rn4, rn5, rn6, rn7, ri1, ri2, ri3, ri4, ri5]
      refine ⟨by omega, hil, callP (raddress_ok _) ?_⟩
      simp -dsimp -implicitDefEqProofs only [hx, forall_eq', hw, hzz, go_sem, ↓reduceIte, reduceCtorEq, rn1, rn2, rn3, rn4, rn5, rn6, rn7, ri1, ri2, ri3, ri4, ri5]
      refine ⟨fun ha => ⟨drawn (by kernel_rfl), by omega, hil, ?_⟩, fun ha => ⟨drawn (by kernel_rfl), bad (by rw [hat, ha])⟩⟩
      have hhd : headAt l i = true := by rw [hat, ha]
      refine vfor sitOk (ι := RsInv oZ zoneB x.Z) (fun v => ⟨72, [(5, aI v.i), (4, aD (zonesD x.Z)), (3, aI i), (0, aD (svsD l))], [], 500⟩) (fun v => x.Z.length - v.i) ⟨0, by omega, fun j hj => by omega⟩ ?_ ?_
      · simp -dsimp -implicitDefEqProofs only [go_sem, ↓reduceIte, reduceCtorEq, rn1, rn2, rn3, rn4, rn5, rn6, rn7, ri1, ri2, ri3, ri4, ri5]
      intro ⟨k, hk, hokk⟩
      simp -dsimp -implicitDefEqProofs only [go_sem, ↓reduceIte, reduceCtorEq, rn1, rn2, rn3, rn4, rn5, rn6, rn7, ri1, ri2, ri3, ri4, ri5]
      refine ⟨fun hlt2 => ?_, fun hge2 => ?_⟩
      · have hkl : k < x.Z.length := by omega
        obtain ⟨z, hzx⟩ : ∃ z, x.Z[k]? = some z := ⟨_, List.getElem?_eq_getElem hkl⟩
        have hwk := wrapS hkl (by omega)
        have hzr := hr x hxm z (List.mem_of_getElem? hzx)
        have badz : risesAt oZ zoneB x.Z k = false → false = risesB oS svB l := fun h => (rises_bad hil (by rw [hsp, show zsOk x.Z = false from rises_bad hkl h, Bool.and_false])).symm
        by_cases k0 : k = 0
        · have hatz : risesAt oZ zoneB x.Z k = zoneB z := by subst k0; exact rises_at0 _ _ hzx
          have hkz : ¬ (0 : Int) < (k : Int) := by omega
          simp -dsimp -implicitDefEqProofs only [hzx, forall_eq', hwk, hkz, go_sem, ↓reduceIte, reduceCtorEq, rn1, rn2, rn3, rn4, rn5, rn6, rn7, ri1, ri2, ri3, ri4, ri5]
          refine ⟨by omega, hkl, callP (rcheck_ok z.A z.R (by omega)) ?_⟩
          simp -dsimp -implicitDefEqProofs only [hzx, forall_eq', hwk, hkz, go_sem, ↓reduceIte, reduceCtorEq, rn1, rn2, rn3, rn4, rn5, rn6, rn7, ri1, ri2, ri3, ri4, ri5]
          refine ⟨fun h => ⟨drawn (by kernel_rfl), ?_⟩, fun h => ⟨drawn (by kernel_rfl), badz (by rw [hatz, zoneB]; simpa using h)⟩⟩
          refine again ⟨k + 1, by omega, next_at hokk (by rw [hatz, zoneB, h]; rfl)⟩ (by simp; omega) ?_
          simp -dsimp -implicitDefEqProofs only [hwk, go_sem, ↓reduceIte, reduceCtorEq, rn1, rn2, rn3, rn4, rn5, rn6, rn7, ri1, ri2, ri3, ri4, ri5]
        · obtain ⟨q, hq⟩ : ∃ q, x.Z[k - 1]? = some q := ⟨_, List.getElem?_eq_getElem (by omega)⟩
          have hatz : risesAt oZ zoneB x.Z k = (zoneB z && decide (cmpB q.A z.A < 0)) := by
            obtain ⟨j, rfl⟩ : ∃ j, k = j + 1 := ⟨k - 1, by omega⟩
            exact rises_atS _ _ hzx hq
          have hwk2 : IntKind.i64.wrap ((k : Int) - 1) = ((k - 1 : Nat) : Int) := by rw [wrap64] <;> omega
          have hkz : (0 : Int) < (k : Int) := by omega
          simp -dsimp -implicitDefEqProofs only [hzx, forall_eq', hwk, hkz, hwk2, hq, go_sem, ↓reduceIte, reduceCtorEq, rn1, rn2, rn3, rn4, rn5, rn6, rn7, ri1, ri2, ri3, ri4, ri5]
          refine ⟨by omega, hkl, callP (rcheck_ok z.A z.R (by omega)) ?_⟩
          simp -dsimp -implicitDefEqProofs only [hzx, forall_eq', hwk, hkz, hwk2, hq, go_sem, ↓reduceIte, reduceCtorEq, rn1, rn2, rn3, rn4, rn5, rn6, rn7, ri1, ri2, ri3, ri4, ri5]
          refine ⟨fun h => ?_, fun h => ⟨drawn (by kernel_rfl), badz (by rw [hatz, zoneB, show (checkV z.A z.R == 0) = false by simpa using h]; rfl)⟩⟩
          refine ⟨by omega, by omega, by omega, by omega, drawn (by kernel_rfl), ?_⟩
          refine ⟨fun hnl => badz (by rw [hatz, show decide (cmpB q.A z.A < 0) = false from decide_eq_false (fun e => hnl (cmpB_lt.1 e)), Bool.and_false]), fun hlt3 => ?_⟩
          refine again ⟨k + 1, by omega, next_at hokk (by rw [hatz, zoneB, h, show decide (cmpB q.A z.A < 0) = true from decide_eq_true (cmpB_lt.2 hlt3)]; rfl)⟩ (by simp; omega) ?_
          simp -dsimp -implicitDefEqProofs only [hwk, go_sem, ↓reduceIte, reduceCtorEq, rn1, rn2, rn3, rn4, rn5, rn6, rn7, ri1, ri2, ri3, ri4, ri5]
      · have hkl : k = x.Z.length := by omega
        subst hkl
        have hzs : zsOk x.Z = true := risesB_true hokk
        refine again ⟨i + 1, by omega, next_at hok (by rw [hsp, hhd, hzs]; rfl)⟩ (by simp; omega) ?_
        simp -dsimp -implicitDefEqProofs only [hw, go_sem, ↓reduceIte, reduceCtorEq, rn1, rn2, rn3, rn4, rn5, rn6, rn7, ri1, ri2, ri3, ri4, ri5]
    · obtain ⟨p, hp⟩ : ∃ p, l[i - 1]? = some p := ⟨_, List.getElem?_eq_getElem (by omega)⟩
      have hat : headAt l i = (addrB x.A && decide (cmpI p.A x.A < 0)) := by
        obtain ⟨k, rfl⟩ : ∃ k, i = k + 1 := ⟨i - 1, by omega⟩
        exact rises_atS _ _ hx hp
      have hw2 : IntKind.i64.wrap ((i : Int) - 1) = ((i - 1 : Nat) : Int) := by rw [wrap64] <;> omega
      have hzz : (0 : Int) < (i : Int) := by omega
      simp -dsimp -implicitDefEqProofs only [hx, forall_eq', hw, hzz, hw2, hp, go_sem, ↓reduceIte, reduceCtorEq, rn1, rn2, rn3, rn4, rn5, rn6, rn7, ri1, ri2, ri3, ri4, ri5]
      refine ⟨by omega, hil, callP (raddress_ok _) ?_⟩
      simp -dsimp -implicitDefEqProofs only [hx, forall_eq', hw, hzz, hw2, hp, go_sem, ↓reduceIte, reduceCtorEq, rn1, rn2, rn3, rn4, rn5, rn6, rn7, ri1, ri2, ri3, ri4, ri5]
      refine ⟨fun ha => ⟨by omega, by omega, by omega, hil, drawn (by kernel_rfl), fun hle => bad (by rw [hat, ha, show decide (cmpI p.A x.A < 0) = false from decide_eq_false (by rw [cmpI_lt]; omega)]; rfl), fun hlt3 => ⟨by omega, hil, ?_⟩⟩, fun ha => ⟨drawn (by kernel_rfl), bad (by rw [hat, ha]; rfl)⟩⟩
      have hhd : headAt l i = true := by rw [hat, ha, show decide (cmpI p.A x.A < 0) = true from decide_eq_true (cmpI_lt.2 hlt3)]; rfl
      refine vfor sitOk (ι := RsInv oZ zoneB x.Z) (fun v => ⟨72, [(5, aI v.i), (4, aD (zonesD x.Z)), (3, aI i), (0, aD (svsD l))], [], 500⟩) (fun v => x.Z.length - v.i) ⟨0, by omega, fun j hj => by omega⟩ ?_ ?_
      · simp -dsimp -implicitDefEqProofs only [go_sem, ↓reduceIte, reduceCtorEq, rn1, rn2, rn3, rn4, rn5, rn6, rn7, ri1, ri2, ri3, ri4, ri5]
      intro ⟨k, hk, hokk⟩
      simp -dsimp -implicitDefEqProofs only [go_sem, ↓reduceIte, reduceCtorEq, rn1, rn2, rn3, rn4, rn5, rn6, rn7, ri1, ri2, ri3, ri4, ri5]
      refine ⟨fun hlt2 => ?_, fun hge2 => ?_⟩
      · have hkl : k < x.Z.length := by omega
        obtain ⟨z, hzx⟩ : ∃ z, x.Z[k]? = some z := ⟨_, List.getElem?_eq_getElem hkl⟩
        have hwk := wrapS hkl (by omega)
        have hzr := hr x hxm z (List.mem_of_getElem? hzx)
        have badz : risesAt oZ zoneB x.Z k = false → false = risesB oS svB l := fun h => (rises_bad hil (by rw [hsp, show zsOk x.Z = false from rises_bad hkl h, Bool.and_false])).symm
        by_cases k0 : k = 0
        · have hatz : risesAt oZ zoneB x.Z k = zoneB z := by subst k0; exact rises_at0 _ _ hzx
          have hkz : ¬ (0 : Int) < (k : Int) := by omega
          simp -dsimp -implicitDefEqProofs only [hzx, forall_eq', hwk, hkz, go_sem, ↓reduceIte, reduceCtorEq, rn1, rn2, rn3, rn4, rn5, rn6, rn7, ri1, ri2, ri3, ri4, ri5]
          refine ⟨by omega, hkl, callP (rcheck_ok z.A z.R (by omega)) ?_⟩
          simp -dsimp -implicitDefEqProofs only [hzx, forall_eq', hwk, hkz, go_sem, ↓reduceIte, reduceCtorEq, rn1, rn2, rn3, rn4, rn5, rn6, rn7, ri1, ri2, ri3, ri4, ri5]
          refine ⟨fun h => ⟨drawn (by kernel_rfl), ?_⟩, fun h => ⟨drawn (by kernel_rfl), badz (by rw [hatz, zoneB]; simpa using h)⟩⟩
          refine again ⟨k + 1, by omega, next_at hokk (by rw [hatz, zoneB, h]; rfl)⟩ (by simp; omega) ?_
          simp -dsimp -implicitDefEqProofs only [hwk, go_sem, ↓reduceIte, reduceCtorEq, rn1, rn2, rn3, rn4, rn5, rn6, rn7, ri1, ri2, ri3, ri4, ri5]
        · obtain ⟨q, hq⟩ : ∃ q, x.Z[k - 1]? = some q := ⟨_, List.getElem?_eq_getElem (by omega)⟩
          have hatz : risesAt oZ zoneB x.Z k = (zoneB z && decide (cmpB q.A z.A < 0)) := by
            obtain ⟨j, rfl⟩ : ∃ j, k = j + 1 := ⟨k - 1, by omega⟩
            exact rises_atS _ _ hzx hq
          have hwk2 : IntKind.i64.wrap ((k : Int) - 1) = ((k - 1 : Nat) : Int) := by rw [wrap64] <;> omega
          have hkz : (0 : Int) < (k : Int) := by omega
          simp -dsimp -implicitDefEqProofs only [hzx, forall_eq', hwk, hkz, hwk2, hq, go_sem, ↓reduceIte, reduceCtorEq, rn1, rn2, rn3, rn4, rn5, rn6, rn7, ri1, ri2, ri3, ri4, ri5]
          refine ⟨by omega, hkl, callP (rcheck_ok z.A z.R (by omega)) ?_⟩
          simp -dsimp -implicitDefEqProofs only [hzx, forall_eq', hwk, hkz, hwk2, hq, go_sem, ↓reduceIte, reduceCtorEq, rn1, rn2, rn3, rn4, rn5, rn6, rn7, ri1, ri2, ri3, ri4, ri5]
          refine ⟨fun h => ?_, fun h => ⟨drawn (by kernel_rfl), badz (by rw [hatz, zoneB, show (checkV z.A z.R == 0) = false by simpa using h]; rfl)⟩⟩
          refine ⟨by omega, by omega, by omega, by omega, drawn (by kernel_rfl), ?_⟩
          refine ⟨fun hnl => badz (by rw [hatz, show decide (cmpB q.A z.A < 0) = false from decide_eq_false (fun e => hnl (cmpB_lt.1 e)), Bool.and_false]), fun hlt3 => ?_⟩
          refine again ⟨k + 1, by omega, next_at hokk (by rw [hatz, zoneB, h, show decide (cmpB q.A z.A < 0) = true from decide_eq_true (cmpB_lt.2 hlt3)]; rfl)⟩ (by simp; omega) ?_
          simp -dsimp -implicitDefEqProofs only [hwk, go_sem, ↓reduceIte, reduceCtorEq, rn1, rn2, rn3, rn4, rn5, rn6, rn7, ri1, ri2, ri3, ri4, ri5]
      · have hkl : k = x.Z.length := by omega
        subst hkl
        have hzs : zsOk x.Z = true := risesB_true hokk
        refine again ⟨i + 1, by omega, next_at hok (by rw [hsp, hhd, hzs]; rfl)⟩ (by simp; omega) ?_
        simp -dsimp -implicitDefEqProofs only [hw, go_sem, ↓reduceIte, reduceCtorEq, rn1, rn2, rn3, rn4, rn5, rn6, rn7, ri1, ri2, ri3, ri4, ri5]
  · have hil : i = l.length := by omega
    subst hil
    rw [risesB_true hok]
end Go.Proofs.YtolpobgfcokoaaaGreatDoor
namespace Go.Proofs.YtolpobgfcokoaaaGreatDoor
open Go.Eng
set_option linter.unusedSimpArgs false
set_option maxRecDepth 10000

theorem rtext_ok (l : Bs) (hl : l.length ≤ 9223372036854775807) : Meets Tryz.prog 170 [(false, [vS l])] (rOne (vB (plainB l))) := by
  refine meets Tryz.func170 rfl rfl Tryz.ntmps170 Tryz.results170 rfl ?_
  simp -dsimp -implicitDefEqProofs only [go_sem, ↓reduceIte, reduceCtorEq, rn1, rn2, rn3, rn4, rn5, rn6, rn7, ri1, ri2, ri3, ri4, ri5]
  refine vfor sitOk (ι := RpInv l) (fun v => ⟨28, [(3, aI v.i), (0, aS l)], [], 80⟩) (fun v => l.length - v.i) ⟨0, by omega, fun j c hj => by omega⟩ ?_ ?_
  · simp -dsimp -implicitDefEqProofs only [go_sem, ↓reduceIte, reduceCtorEq, rn1, rn2, rn3, rn4, rn5, rn6, rn7, ri1, ri2, ri3, ri4, ri5]
  intro ⟨i, hi, hok⟩
  simp -dsimp -implicitDefEqProofs only [go_sem, ↓reduceIte, reduceCtorEq, rn1, rn2, rn3, rn4, rn5, rn6, rn7, ri1, ri2, ri3, ri4, ri5]
  refine ⟨fun hlt => ?_, fun hge => ?_⟩
  · have hil : i < l.length := by omega
    obtain ⟨c, hc⟩ : ∃ c, l[i]? = some c := ⟨_, List.getElem?_eq_getElem hil⟩
    have hw : IntKind.i64.wrap ((i : Int) + 1) = ((i + 1 : Nat) : Int) := by rw [wrap64] <;> omega
    have bad : plainC c = false → false = plainB l := fun h => by unfold plainB; rw [all_bad hc h, Bool.and_false]
    simp -dsimp -implicitDefEqProofs only [hc, forall_eq', hw, go_sem, ↓reduceIte, reduceCtorEq, rn1, rn2, rn3, rn4, rn5, rn6, rn7, ri1, ri2, ri3, ri4, ri5]
    repeat' (first | with_reducible apply And.intro | with_reducible intro _ | with_reducible exact drawn (by kernel_rfl) | omega)
    all_goals first
      | omega
      | (exact bad (by simp [plainC]; omega))
      | (refine again ⟨i + 1, by omega, fun j x hj hx => by
          by_cases hji : j = i
          · subst hji; rw [hc] at hx; cases hx; simp [plainC]; omega
          · exact hok j x (by omega) hx⟩ (by simp; omega) ?_
         simp -dsimp -implicitDefEqProofs only [go_sem, ↓reduceIte, reduceCtorEq, rn1, rn2, rn3, rn4, rn5, rn6, rn7, ri1, ri2, ri3, ri4, ri5])
  · have hall : l.all plainC = true := all_get fun j c hj hc => hok j c (by omega) hc
    unfold plainB
    rw [hall]
    refine ⟨fun h => ?_, fun h => ?_⟩
    · rw [show decide (0 < l.length) = true from decide_eq_true (by omega), Bool.true_and, Bool.and_true, decide_eq_decide]; omega
    · rw [show decide (0 < l.length) = false from decide_eq_false (by omega)]; rfl
abbrev oB : Bn → Bn → Int := fun x y => koP.cmp (kB x) (kB y)
abbrev oC : Ck → Ck → Int := fun x y => koS.cmp (kC x) (kC y)
theorem rfI_ge {n : Nt} {a : Int} : 0 ≤ rfI n a ↔ (svF n a).isSome = true := by
  have := rfI_neg (n := n) (a := a)
  cases h : (svF n a).isSome with
  | true => rw [h] at this; simp at this; simpa using this
  | false => rw [h] at this; simp at this; simp; omega
theorem bendB_iff {n : Nt} {b : Bn} : bendB n b = true ↔ 0 ≤ b.S ∧ b.S < n.N ∧ 0 ≤ rfI n b.F ∧ 0 ≤ rfI n b.T ∧ ¬ b.F = b.T := by
  unfold bendB
  rw [rfI_ge, rfI_ge]
  simp only [Bool.and_eq_true, decide_eq_true_eq, Bool.not_eq_true', decide_eq_false_iff_not, and_assoc]
theorem rbends_ok (n : Nt) (hz : Sz n) : Meets Tryz.prog 120 [n.arg] (rOne (vB (bnsOk n))) := by
  have hvl := hz.v
  have hbl := hz.b
  refine meets Tryz.func120 rfl rfl Tryz.ntmps120 Tryz.results120 rfl ?_
  simp -dsimp -implicitDefEqProofs only [go_sem, ↓reduceIte, reduceCtorEq, rn1, rn2, rn3, rn4, rn5, rn6, rn7, ri1, ri2, ri3, ri4, ri5]
  refine vfor sitOk (ι := RsInv oB (bendB n) n.B) (fun v => ⟨63, [(3, aI v.i), (1, aP 0 0)], [(0, some (.var [cD (svsD n.V), cI n.N, cD (bnsD n.B), cD (cksD n.C)] true))], 100⟩) (fun v => n.B.length - v.i) ⟨0, by omega, fun j hj => by omega⟩ ?_ ?_
  · simp -dsimp -implicitDefEqProofs only [go_sem, ↓reduceIte, reduceCtorEq, rn1, rn2, rn3, rn4, rn5, rn6, rn7, ri1, ri2, ri3, ri4, ri5]
  intro ⟨i, hi, hok⟩
  simp -dsimp -implicitDefEqProofs only [go_sem, ↓reduceIte, reduceCtorEq, rn1, rn2, rn3, rn4, rn5, rn6, rn7, ri1, ri2, ri3, ri4, ri5]
  refine ⟨fun hlt => ?_, fun hge => ?_⟩
  · have hil : i < n.B.length := by omega
    obtain ⟨x, hx⟩ : ∃ x, n.B[i]? = some x := ⟨_, List.getElem?_eq_getElem hil⟩
    have hw := wrapS hil (by omega)
    have bad : risesAt oB (bendB n) n.B i = false → false = bnsOk n := fun h => (rises_bad hil h).symm
    by_cases h0 : i = 0
    · have hat : risesAt oB (bendB n) n.B i = bendB n x := by subst h0; exact rises_at0 _ _ hx
      have hzz : ¬ (0 : Int) < (i : Int) := by omega
      simp -dsimp -implicitDefEqProofs only [hx, forall_eq', hw, hzz, go_sem, ↓reduceIte, reduceCtorEq, rn1, rn2, rn3, rn4, rn5, rn6, rn7, ri1, ri2, ri3, ri4, ri5]
      repeat' (first | with_reducible apply And.intro | with_reducible intro _ | with_reducible exact drawn (by kernel_rfl) | (refine callP (rfind_ok n _ (by omega)) ?_; simp -dsimp -implicitDefEqProofs only [hx, forall_eq', hw, hzz, go_sem, ↓reduceIte, reduceCtorEq, rn1, rn2, rn3, rn4, rn5, rn6, rn7, ri1, ri2, ri3, ri4, ri5]) | omega)
      all_goals first
        | (refine again ⟨i + 1, by omega, next_at hok (by rw [hat]; exact bendB_iff.2 ⟨by assumption, by assumption, by assumption, by assumption, by assumption⟩)⟩ (by simp; omega) ?_
           simp -dsimp -implicitDefEqProofs only [hw, go_sem, ↓reduceIte, reduceCtorEq, rn1, rn2, rn3, rn4, rn5, rn6, rn7, ri1, ri2, ri3, ri4, ri5]
           done)
        | (refine bad ?_
           rw [hat, Bool.eq_false_iff]
           intro hh
           have := bendB_iff.1 hh
           omega)
    · obtain ⟨p, hp⟩ : ∃ p, n.B[i - 1]? = some p := ⟨_, List.getElem?_eq_getElem (by omega)⟩
      have hat : risesAt oB (bendB n) n.B i = (bendB n x && decide (oB p x < 0)) := by
        obtain ⟨k, rfl⟩ : ∃ k, i = k + 1 := ⟨i - 1, by omega⟩
        exact rises_atS _ _ hx hp
      have hw2 : IntKind.i64.wrap ((i : Int) - 1) = ((i - 1 : Nat) : Int) := by rw [wrap64] <;> omega
      have hzz : (0 : Int) < (i : Int) := by omega
      simp -dsimp -implicitDefEqProofs only [hx, forall_eq', hw, hzz, hw2, hp, go_sem, ↓reduceIte, reduceCtorEq, rn1, rn2, rn3, rn4, rn5, rn6, rn7, ri1, ri2, ri3, ri4, ri5]
      repeat' (first | with_reducible apply And.intro | with_reducible intro _ | with_reducible exact drawn (by kernel_rfl) | (refine callP (rfind_ok n _ (by omega)) ?_; simp -dsimp -implicitDefEqProofs only [hx, forall_eq', hw, hzz, hw2, hp, go_sem, ↓reduceIte, reduceCtorEq, rn1, rn2, rn3, rn4, rn5, rn6, rn7, ri1, ri2, ri3, ri4, ri5]) | (refine callP (rahead13_ok _ _) ?_; simp -dsimp -implicitDefEqProofs only [hx, forall_eq', hw, hzz, hw2, hp, go_sem, ↓reduceIte, reduceCtorEq, rn1, rn2, rn3, rn4, rn5, rn6, rn7, ri1, ri2, ri3, ri4, ri5]) | omega)
      all_goals first
        | (refine again ⟨i + 1, by omega, next_at hok (by
             rw [hat, Bool.and_eq_true]
             exact ⟨bendB_iff.2 ⟨by assumption, by assumption, by assumption, by assumption, by assumption⟩, by assumption⟩)⟩ (by simp; omega) ?_
           simp -dsimp -implicitDefEqProofs only [hw, go_sem, ↓reduceIte, reduceCtorEq, rn1, rn2, rn3, rn4, rn5, rn6, rn7, ri1, ri2, ri3, ri4, ri5]
           done)
        | (refine bad ?_
           rw [hat, Bool.eq_false_iff]
           intro hh
           rw [Bool.and_eq_true] at hh
           have h3 := bendB_iff.1 hh.1
           first
             | omega
             | (have h4 : aheadN p x = true := hh.2
                simp_all))
  · have hil : i = n.B.length := by omega
    subst hil
    rw [show bnsOk n = true from risesB_true hok]
theorem clkB_iff {c : Ck} : clkB c = true ↔ plainB c.W = true ∧ -5 ≤ c.B ∧ c.B ≤ 5 := by
  unfold clkB
  simp only [Bool.and_eq_true, decide_eq_true_eq, and_assoc]
theorem rclocks_ok (n : Nt) (hz : Sz n) : Meets Tryz.prog 121 [(false, [vD (cksD n.C)])] (rOne (vB (cksOk n))) := by
  have hcl := hz.c
  refine meets Tryz.func121 rfl rfl Tryz.ntmps121 Tryz.results121 rfl ?_
  simp -dsimp -implicitDefEqProofs only [go_sem, ↓reduceIte, reduceCtorEq, rn1, rn2, rn3, rn4, rn5, rn6, rn7, ri1, ri2, ri3, ri4, ri5]
  refine vfor sitOk (ι := RsInv oC clkB n.C) (fun v => ⟨51, [(3, aI v.i), (0, aD (cksD n.C))], [], 100⟩) (fun v => n.C.length - v.i) ⟨0, by omega, fun j hj => by omega⟩ ?_ ?_
  · simp -dsimp -implicitDefEqProofs only [go_sem, ↓reduceIte, reduceCtorEq, rn1, rn2, rn3, rn4, rn5, rn6, rn7, ri1, ri2, ri3, ri4, ri5]
  intro ⟨i, hi, hok⟩
  simp -dsimp -implicitDefEqProofs only [go_sem, ↓reduceIte, reduceCtorEq, rn1, rn2, rn3, rn4, rn5, rn6, rn7, ri1, ri2, ri3, ri4, ri5]
  refine ⟨fun hlt => ?_, fun hge => ?_⟩
  · have hil : i < n.C.length := by omega
    obtain ⟨x, hx⟩ : ∃ x, n.C[i]? = some x := ⟨_, List.getElem?_eq_getElem hil⟩
    have hw := wrapS hil (by omega)
    have hxw := hz.w x (List.mem_of_getElem? hx)
    have bad : risesAt oC clkB n.C i = false → false = cksOk n := fun h => (rises_bad hil h).symm
    by_cases h0 : i = 0
    · have hat : risesAt oC clkB n.C i = clkB x := by subst h0; exact rises_at0 _ _ hx
      have hzz : ¬ (0 : Int) < (i : Int) := by omega
      simp -dsimp -implicitDefEqProofs only [hx, forall_eq', hw, hzz, go_sem, ↓reduceIte, reduceCtorEq, rn1, rn2, rn3, rn4, rn5, rn6, rn7, ri1, ri2, ri3, ri4, ri5]
      repeat' (first | with_reducible apply And.intro | with_reducible intro _ | with_reducible exact drawn (by kernel_rfl) | (refine callP (rtext_ok _ hxw) ?_; simp -dsimp -implicitDefEqProofs only [hx, forall_eq', hw, hzz, go_sem, ↓reduceIte, reduceCtorEq, rn1, rn2, rn3, rn4, rn5, rn6, rn7, ri1, ri2, ri3, ri4, ri5]) | omega)
      all_goals first
        | (refine again ⟨i + 1, by omega, next_at hok (by rw [hat]; exact clkB_iff.2 ⟨by assumption, by omega, by omega⟩)⟩ (by simp; omega) ?_
           simp -dsimp -implicitDefEqProofs only [hw, go_sem, ↓reduceIte, reduceCtorEq, rn1, rn2, rn3, rn4, rn5, rn6, rn7, ri1, ri2, ri3, ri4, ri5]
           done)
        | (refine bad ?_
           rw [hat, Bool.eq_false_iff]
           intro hh
           have h3 := clkB_iff.1 hh
           first
             | omega
             | simp_all)
    · obtain ⟨p, hp⟩ : ∃ p, n.C[i - 1]? = some p := ⟨_, List.getElem?_eq_getElem (by omega)⟩
      have hat : risesAt oC clkB n.C i = (clkB x && decide (cmpB p.W x.W < 0)) := by
        obtain ⟨k, rfl⟩ : ∃ k, i = k + 1 := ⟨i - 1, by omega⟩
        exact rises_atS _ _ hx hp
      have hw2 : IntKind.i64.wrap ((i : Int) - 1) = ((i - 1 : Nat) : Int) := by rw [wrap64] <;> omega
      have hzz : (0 : Int) < (i : Int) := by omega
      simp -dsimp -implicitDefEqProofs only [hx, forall_eq', hw, hzz, hw2, hp, go_sem, ↓reduceIte, reduceCtorEq, rn1, rn2, rn3, rn4, rn5, rn6, rn7, ri1, ri2, ri3, ri4, ri5]
      repeat' (first | with_reducible apply And.intro | with_reducible intro _ | with_reducible exact drawn (by kernel_rfl) | (refine callP (rtext_ok _ hxw) ?_; simp -dsimp -implicitDefEqProofs only [hx, forall_eq', hw, hzz, hw2, hp, go_sem, ↓reduceIte, reduceCtorEq, rn1, rn2, rn3, rn4, rn5, rn6, rn7, ri1, ri2, ri3, ri4, ri5]) | omega)
      all_goals first
        | (refine again ⟨i + 1, by omega, next_at hok (by
             rw [hat, Bool.and_eq_true]
             exact ⟨clkB_iff.2 ⟨by assumption, by omega, by omega⟩, decide_eq_true (cmpB_lt.2 (by assumption))⟩)⟩ (by simp; omega) ?_
           simp -dsimp -implicitDefEqProofs only [hw, go_sem, ↓reduceIte, reduceCtorEq, rn1, rn2, rn3, rn4, rn5, rn6, rn7, ri1, ri2, ri3, ri4, ri5]
           done)
        | (refine bad ?_
           rw [hat, Bool.eq_false_iff]
           intro hh
           rw [Bool.and_eq_true] at hh
           have h3 := clkB_iff.1 hh.1
           have h4 := cmpB_lt.1 (of_decide_eq_true hh.2)
           first
             | omega
             | (exact absurd h4 (by assumption))
             | simp_all)
  · have hil : i = n.C.length := by omega
    subst hil
    rw [show cksOk n = true from risesB_true hok]
end Go.Proofs.YtolpobgfcokoaaaGreatDoor
