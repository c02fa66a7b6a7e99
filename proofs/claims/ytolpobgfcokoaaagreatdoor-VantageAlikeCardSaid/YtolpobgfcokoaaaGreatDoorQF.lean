
/- The document's answer: Recs, Same, Few; until. Plain laws of Find. Readers of arguments: caches, zones. -/
import Derived.Test.YtolpobgfcokoaaaGreatDoorQE
open Nat renaming reduceLT → rn1, reduceLeDiff → rn2, reduceEqDiff → rn3, reduceAdd → rn4, reduceMul → rn5, reduceSub → rn6, reduceBEq → rn7
open Int renaming reduceLT → ri1, reduceLE → ri2, reduceEq → ri3, reduceBEq → ri4, reduceNeg → ri5
namespace Go.Proofs.YtolpobgfcokoaaaGreatDoor
open Go.Eng
set_option linter.unusedSimpArgs false
set_option maxRecDepth 10000

theorem rrecs14_ok (l m : List Rec) (hl : l.length ≤ 1000000) : Meets Tryz.prog 40 [(false, [vD (recsD l)]), (false, [vD (recsD m)])] (rOne (vB (decide (l = m)))) := by
  by_cases hlen : l.length = m.length
  · have hli : (l.length : Int) = (m.length : Int) := by omega
    refine meets Tryz.func40 rfl rfl Tryz.ntmps40 Tryz.results40 rfl ?_
    simp -dsimp -implicitDefEqProofs only [hli, go_sem, ↓reduceIte, reduceCtorEq, rn1, rn2, rn3, rn4, rn5, rn6, rn7, ri1, ri2, ri3, ri4, ri5]
    refine vfor sitOk (ι := ReInv l m) (fun v => ⟨26, [(5, aI v.i), (0, aD (recsD l)), (1, aD (recsD m))], [], 56⟩) (fun v => l.length - v.i) ⟨0, by omega, by simp⟩ ?_ ?_
    · simp -dsimp -implicitDefEqProofs only [go_sem, ↓reduceIte, reduceCtorEq, rn1, rn2, rn3, rn4, rn5, rn6, rn7, ri1, ri2, ri3, ri4, ri5]
    intro ⟨i, hi, hok⟩
    simp -dsimp -implicitDefEqProofs only [go_sem, ↓reduceIte, reduceCtorEq, rn1, rn2, rn3, rn4, rn5, rn6, rn7, ri1, ri2, ri3, ri4, ri5]
    refine ⟨fun hlt => ?_, fun hge => ?_⟩
    · have hil : i < l.length := by omega
      have him : i < m.length := by omega
      obtain ⟨x, hx⟩ : ∃ x, l[i]? = some x := ⟨_, List.getElem?_eq_getElem hil⟩
      obtain ⟨y, hy⟩ : ∃ y, m[i]? = some y := ⟨_, List.getElem?_eq_getElem him⟩
      have hw := wrapS hil (by omega)
      have hbad : ¬ x = y → false = decide (l = m) := fun h => (decide_eq_false fun e => h (by rw [e, hy] at hx; cases hx; rfl)).symm
      have hgood : x = y → l.take (i + 1) = m.take (i + 1) := fun e => by rw [List.take_add_one, List.take_add_one, hok, hx, hy, e]
      simp -dsimp -implicitDefEqProofs only [hx, hy, forall_eq', hw, go_sem, ↓reduceIte, reduceCtorEq, rn1, rn2, rn3, rn4, rn5, rn6, rn7, ri1, ri2, ri3, ri4, ri5]
      repeat' (first | with_reducible apply And.intro | with_reducible intro _ | with_reducible exact drawn (by kernel_rfl) | omega)
      · rename_i h
        exact hbad fun e => by subst e; exact h rfl rfl rfl rfl
      · rename_i h
        have e : x = y := by cases x; cases y; simp at h; obtain ⟨h1, h2, h3, h4⟩ := h; subst h1; subst h2; subst h3; subst h4; rfl
        refine again ⟨i + 1, by omega, hgood e⟩ (by simp; omega) ?_
        simp -dsimp -implicitDefEqProofs only [hw, go_sem, ↓reduceIte, reduceCtorEq, rn1, rn2, rn3, rn4, rn5, rn6, rn7, ri1, ri2, ri3, ri4, ri5]
    · have hil : i = l.length := by omega
      subst hil
      rw [List.take_length] at hok
      have : l = m := by rw [hok, hlen, List.take_length]
      exact (decide_eq_true this).symm
  · have hli : ¬ (l.length : Int) = (m.length : Int) := by omega
    have : decide (l = m) = false := decide_eq_false fun h => hlen (by rw [h])
    rw [this]
    refine meets Tryz.func40 rfl rfl Tryz.ntmps40 Tryz.results40 rfl ?_
    simp -dsimp -implicitDefEqProofs only [hli, go_sem, ↓reduceIte, reduceCtorEq, rn1, rn2, rn3, rn4, rn5, rn6, rn7, ri1, ri2, ri3, ri4, ri5]
structure SeInv (l m : List Kp) where
  i : Nat
  le : i ≤ l.length
  eq : l.take i = m.take i
set_option maxHeartbeats 4000000 in
theorem rsame14_ok (l m : List Kp) (hl : l.length ≤ 1000000) (hr : ∀ k ∈ l, k.R.length ≤ 1000000) : Meets Tryz.prog 20 [cacheA l, cacheA m] (rOne (vB (decide (l = m)))) := by
  by_cases hlen : l.length = m.length
  · have hli : (l.length : Int) = (m.length : Int) := by omega
    refine meets Tryz.func20 rfl rfl Tryz.ntmps20 Tryz.results20 rfl ?_
    simp -dsimp -implicitDefEqProofs only [hli, go_sem, ↓reduceIte, reduceCtorEq, rn1, rn2, rn3, rn4, rn5, rn6, rn7, ri1, ri2, ri3, ri4, ri5]
    refine vfor sitOk (ι := SeInv l m) (fun v => ⟨61, [(5, aI v.i), (3, aP 8 0), (2, aP 0 0)], [(8, some (.var [cD (kpsD m)] true)), (0, some (.var [cD (kpsD l)] true))], 56⟩) (fun v => l.length - v.i) ⟨0, by omega, by simp⟩ ?_ ?_
    · simp -dsimp -implicitDefEqProofs only [go_sem, ↓reduceIte, reduceCtorEq, rn1, rn2, rn3, rn4, rn5, rn6, rn7, ri1, ri2, ri3, ri4, ri5]
    intro ⟨i, hi, hok⟩
    by_cases hil : i < l.length
    · have him : i < m.length := by omega
      obtain ⟨x, hx⟩ : ∃ x, l[i]? = some x := ⟨_, List.getElem?_eq_getElem hil⟩
      obtain ⟨y, hy⟩ : ∃ y, m[i]? = some y := ⟨_, List.getElem?_eq_getElem him⟩
      have hw := wrapS hil (by omega)
      have hbad : ¬ x = y → false = decide (l = m) := fun h => (decide_eq_false fun e => h (by rw [e, hy] at hx; cases hx; rfl)).symm
      have hgood : x = y → l.take (i + 1) = m.take (i + 1) := fun e => by rw [List.take_add_one, List.take_add_one, hok, hx, hy, e]
      have hxy : x = y ↔ x.N = y.N ∧ x.K = y.K ∧ x.U = y.U ∧ x.R = y.R := ⟨fun e => by rw [e]; exact ⟨rfl, rfl, rfl, rfl⟩, fun e => by cases x; cases y; obtain ⟨rfl, rfl, rfl, rfl⟩ := e; rfl⟩
      have hxl := hr x (List.mem_of_getElem? hx)
      have hlt : (i : Int) < (m.length : Int) := by omega
      simp -dsimp -implicitDefEqProofs only [hli, hlt, hx, hy, forall_eq', hw, go_sem, ↓reduceIte, reduceCtorEq, rn1, rn2, rn3, rn4, rn5, rn6, rn7, ri1, ri2, ri3, ri4, ri5]
      refine ⟨by omega, hil, by omega, him, drawn (by kernel_rfl), callP (rrecs14_ok x.R y.R hxl) ?_⟩
      by_cases he : x = y
      · obtain ⟨h1, h2, h3, h4⟩ := hxy.1 he
        have h5 : decide (x.R = y.R) = true := decide_eq_true h4
        simp -dsimp -implicitDefEqProofs only [h1, h2, h3, h5, go_sem, ↓reduceIte, reduceCtorEq, rn1, rn2, rn3, rn4, rn5, rn6, rn7, ri1, ri2, ri3, ri4, ri5]
        refine again ⟨i + 1, by omega, hgood he⟩ (by simp; omega) ?_
        simp -dsimp -implicitDefEqProofs only [hw, go_sem, ↓reduceIte, reduceCtorEq, rn1, rn2, rn3, rn4, rn5, rn6, rn7, ri1, ri2, ri3, ri4, ri5]
      · rw [← hbad he]
        simp -dsimp -implicitDefEqProofs only [go_sem, ↓reduceIte, reduceCtorEq, rn1, rn2, rn3, rn4, rn5, rn6, rn7, ri1, ri2, ri3, ri4, ri5]
        exact fun h1 h2 h3 h4 => absurd (hxy.2 ⟨h1, h2, h3, h4⟩) he
    · have hie : i = l.length := by omega
      subst hie
      have hlt : ¬ (m.length : Int) < (m.length : Int) := by omega
      rw [List.take_length] at hok
      have : l = m := by rw [hok, hlen, List.take_length]
      rw [decide_eq_true this]
      simp -dsimp -implicitDefEqProofs only [hli, hlt, go_sem, ↓reduceIte, reduceCtorEq, rn1, rn2, rn3, rn4, rn5, rn6, rn7, ri1, ri2, ri3, ri4, ri5]
  · have hli : ¬ (l.length : Int) = (m.length : Int) := by omega
    have : decide (l = m) = false := decide_eq_false fun h => hlen (by rw [h])
    rw [this]
    refine meets Tryz.func20 rfl rfl Tryz.ntmps20 Tryz.results20 rfl ?_
    simp -dsimp -implicitDefEqProofs only [hli, go_sem, ↓reduceIte, reduceCtorEq, rn1, rn2, rn3, rn4, rn5, rn6, rn7, ri1, ri2, ri3, ri4, ri5]
def fewK (k : Kp) : Bool := decide (k.R.length ≤ 70) && decide (k.N.length ≤ 200)
def fewC (L : List Kp) : Bool := (L.take 140).all fewK && decide (L.length ≤ 140)
theorem rfewC_ok (L : List Kp) : Meets Tryz.prog 72 [cacheA L] (rOne (vB (fewC L))) := by
  refine meets Tryz.func72 rfl rfl Tryz.ntmps72 Tryz.results72 rfl ?_
  simp -dsimp -implicitDefEqProofs only [go_sem, ↓reduceIte, reduceCtorEq, rn1, rn2, rn3, rn4, rn5, rn6, rn7, ri1, ri2, ri3, ri4, ri5]
  refine vfor sitOk (ι := AllInv 140 fewK L) (fun v => ⟨37, [(3, aI v.i), (1, aP 0 0)], [(0, some (.var [cD (kpsD L)] true))], 100⟩) (fun v => L.length - v.i) ⟨0, by omega, by omega, fun j x hj => by omega⟩ ?_ ?_
  · simp -dsimp -implicitDefEqProofs only [go_sem, ↓reduceIte, reduceCtorEq, rn1, rn2, rn3, rn4, rn5, rn6, rn7, ri1, ri2, ri3, ri4, ri5]
  intro ⟨i, hi, hm, hok⟩
  simp -dsimp -implicitDefEqProofs only [go_sem, ↓reduceIte, reduceCtorEq, rn1, rn2, rn3, rn4, rn5, rn6, rn7, ri1, ri2, ri3, ri4, ri5]
  have fin : (i = L.length ∨ i = 140) → decide ((L.length : Int) ≤ 140) = fewC L := fun h => by
    unfold fewC
    rw [all_take h hok hm, Bool.true_and, decide_eq_decide]; omega
  refine ⟨fun hlt => ⟨fun h20 => ?_, fun h20 => fin (.inr (by omega))⟩, fun hge => fin (.inl (by omega))⟩
  have hil : i < L.length := by omega
  obtain ⟨x, hx⟩ : ∃ x, L[i]? = some x := ⟨_, List.getElem?_eq_getElem hil⟩
  have bad : fewK x = false → false = fewC L := fun h => by unfold fewC; rw [all_take_bad hx (by omega) h]; rfl
  have hw : IntKind.i64.wrap ((i : Int) + 1) = ((i + 1 : Nat) : Int) := by rw [wrap64] <;> omega
  have good : (x.R.length : Int) ≤ 70 → (x.N.length : Int) ≤ 200 → ∀ j y, j < i + 1 → L[j]? = some y → fewK y = true := fun h1 h2 j y hj hy => by
    by_cases hji : j = i
    · subst hji; rw [hx] at hy; cases hy
      unfold fewK
      rw [decide_eq_true (by omega), decide_eq_true (by omega)]; rfl
    · exact hok j y (by omega) hy
  simp -dsimp -implicitDefEqProofs only [hx, forall_eq', go_sem, ↓reduceIte, reduceCtorEq, rn1, rn2, rn3, rn4, rn5, rn6, rn7, ri1, ri2, ri3, ri4, ri5]
  refine ⟨by omega, hil, fun h1 => ⟨by omega, hil, fun h2 => ?_, fun h2 => ?_⟩, fun h1 => ?_⟩
  · exact bad (by unfold fewK; rw [decide_eq_false (by omega : ¬ x.N.length ≤ 200), Bool.and_false])
  · refine again ⟨i + 1, by omega, by omega, good h1 h2⟩ (by simp; omega) ?_
    simp -dsimp -implicitDefEqProofs only [hw, go_sem, ↓reduceIte, reduceCtorEq, rn1, rn2, rn3, rn4, rn5, rn6, rn7, ri1, ri2, ri3, ri4, ri5]
  · exact bad (by unfold fewK; rw [decide_eq_false (by omega : ¬ x.R.length ≤ 70), Bool.false_and])
end Go.Proofs.YtolpobgfcokoaaaGreatDoor
namespace Go.Proofs.YtolpobgfcokoaaaGreatDoor
open Go.Eng
set_option linter.unusedSimpArgs false
set_option maxRecDepth 10000

theorem okF_iff {e : Int} : okF e = true ↔ e = 0 ∨ e = 130 ∨ e = 131 := by
  unfold okF
  simp [or_assoc]
/-- What Find asks ahead of all. -/
structure Fg (n : Nt) (seen : Int) (L : List Kp) (now : Int) (name : Bs) (k : Int) : Prop where
  c : chkC L = 0
  t : chkN n = 0
  q : goodQ n seen now k = true
  s : isName name = true
theorem find_good {n : Nt} {seen : Int} {L : List Kp} {now : Int} {name : Bs} {k : Int} (h : okF (findE n seen L now name k) = true) : Fg n seen L now name k := by
  have h := okF_iff.1 h
  unfold findE at h
  split at h
  · rcases chkC_vals L with h1 | h1 | h1 <;> rw [h1] at h <;> omega
  · rename_i h0
    split at h
    · rcases chkN_vals n with h1 | h1 | h1 <;> rw [h1] at h <;> omega
    · rename_i h1
      split at h
      · omega
      · rename_i h2
        split at h
        · omega
        · rename_i h3
          exact ⟨Classical.not_not.1 h0, Classical.not_not.1 h1, by simpa using h2, by simpa using h3⟩
theorem find_e {n : Nt} {seen : Int} {L : List Kp} {now : Int} {name : Bs} {k : Int} (g : Fg n seen L now name k) : findE n seen L now name k = match heldV L now name k with
    | some R => if R = [] then 131 else 0
    | none => (wayV n seen name k).E := by
  unfold findE
  rw [if_neg (by rw [g.c]; simp), if_neg (by rw [g.t]; simp), if_neg (by rw [g.q]; simp), if_neg (by rw [g.s]; simp)]
  cases heldV L now name k <;> rfl
theorem find_hit {n : Nt} {seen : Int} {L : List Kp} {now : Int} {name : Bs} {k : Int} (g : Fg n seen L now name k) {R : List Rec} (h : heldV L now name k = some R) :
    findE n seen L now name k = (if R = [] then 131 else 0) ∧ findL n seen L now name k = R ∧ findC n seen L now name k = L := by
  have he := find_e g
  rw [h] at he
  have he : findE n seen L now name k = if R = [] then 131 else 0 := he
  have hok : okF (findE n seen L now name k) = true := by rw [he]; split <;> rfl
  refine ⟨he, ?_, ?_⟩
  · unfold findL; rw [hok, h]; rfl
  · unfold findC; rw [hok, h]; rfl
theorem find_miss {n : Nt} {seen : Int} {L : List Kp} {now : Int} {name : Bs} {k : Int} (g : Fg n seen L now name k) (h : heldV L now name k = none) :
    findE n seen L now name k = (wayV n seen name k).E ∧ findL n seen L now name k = (wayV n seen name k).L ∧ findC n seen L now name k = if (wayV n seen name k).E = 130 then L else keepV (trimL L now) (keptOf n seen now name k) := by
  have he := find_e g
  rw [h] at he
  have he : findE n seen L now name k = (wayV n seen name k).E := he
  have hok : okF (findE n seen L now name k) = true := by
    rw [he]; exact okF_iff.2 (wayV_ok n seen name k).kind
  refine ⟨he, ?_, ?_⟩
  · unfold findL; rw [hok, h]; rfl
  · unfold findC; rw [hok, h]; rfl
theorem find_bad' {n : Nt} {seen : Int} {L : List Kp} {now : Int} {name : Bs} {k : Int} (h : okF (findE n seen L now name k) = false) : findL n seen L now name k = [] ∧ findC n seen L now name k = [] :=
  let b := find_bad rfl h
  ⟨b.1, b.2.1⟩
theorem quest {n : Nt} {seen now k : Int} (h : goodQ n seen now k = true) : 0 ≤ now ∧ now ≤ 1099511627776 ∧ -1 ≤ seen ∧ seen < n.N ∧ kindB k = true := by
  unfold goodQ timeB at h
  simp only [Bool.and_eq_true, decide_eq_true_eq] at h
  exact ⟨h.1.1.1.1, h.1.1.1.2, h.1.1.2, h.1.2, h.2⟩
theorem quest_of {n : Nt} {seen now k : Int} (h : 0 ≤ now ∧ now ≤ 1099511627776 ∧ -1 ≤ seen ∧ seen < n.N ∧ kindB k = true) : goodQ n seen now k = true := by
  unfold goodQ timeB
  simp only [Bool.and_eq_true, decide_eq_true_eq]
  exact ⟨⟨⟨⟨h.1, h.2.1⟩, h.2.2.1⟩, h.2.2.2.1⟩, h.2.2.2.2⟩
/-- What was found on the way, and is not lost. -/
theorem way_kept {n : Nt} {seen : Int} {name : Bs} {k : Int} (h : (wayV n seen name k).E ≠ 130) : 1 ≤ (wayV n seen name k).F ∧ (wayV n seen name k).F ≤ 1000 ∧ (wayV n seen name k).L.length ≤ 64 ∧ (∀ r ∈ (wayV n seen name k).L, r.K = k) ∧
    (((wayV n seen name k).E = 0 ∧ (wayV n seen name k).L ≠ []) ∨ ((wayV n seen name k).E = 131 ∧ (wayV n seen name k).L = [] ∧ (wayV n seen name k).F = 10)) := by
  have hwo := wayV_ok n seen name k
  rcases hwo.kind with h0 | h0 | h0
  · obtain ⟨h1, h2, h3, h4, addr, nm, z, hz, _, hL⟩ := hwo.some h0
    exact ⟨h2, h3, h4, fun r hr => by rw [hL] at hr; exact (mem_ofL hr).2.2, .inl ⟨h0, h1⟩⟩
  · exact absurd h0 h
  · have hw := hwo.none h0
    rw [hw]
    simp
theorem may_kept {n : Nt} {seen now : Int} {name : Bs} {k : Int} {L : List Kp} (g : Fg n seen L now name k) (h : (wayV n seen name k).E ≠ 130) : mayB (keptOf n seen now name k) = true := by
  obtain ⟨h1, h2, h3, h4, _⟩ := way_kept h
  obtain ⟨q1, q2, _, _, q5⟩ := quest g.q
  unfold mayB keptOf timeB
  simp only [Bool.and_eq_true, decide_eq_true_eq, List.all_eq_true, beq_iff_eq]
  exact ⟨⟨⟨⟨g.s, q5⟩, by omega, by omega⟩, h3⟩, h4⟩
theorem fc14_ok {n : Nt} {seen : Int} {L : List Kp} {now : Int} {name : Bs} {k : Int} (g : Fg n seen L now name k) : chkC (findC n seen L now name k) = 0 := by
  cases hh : heldV L now name k with
  | some R => rw [(find_hit g hh).2.2]; exact g.c
  | none =>
    rw [(find_miss g hh).2.2]
    by_cases hl : (wayV n seen name k).E = 130
    · rw [if_pos hl]; exact g.c
    · rw [if_neg hl]
      exact keep_ok (trim_ok g.c now) (may_kept g hl)
theorem chk_cz {L : List Kp} (h : chkC L = 0) : Cz L := by
  obtain ⟨h1, h2, _⟩ := chkC_iff.1 h
  refine ⟨by omega, fun x hx => ?_⟩
  have := h2 x hx
  unfold mayB at this
  simp only [Bool.and_eq_true, decide_eq_true_eq] at this
  have := this.1.2
  omega
theorem nil_cz : Cz [] := ⟨by simp, by simp⟩
theorem fc14_cz (n : Nt) (seen : Int) (L : List Kp) (now : Int) (name : Bs) (k : Int) : Cz (findC n seen L now name k) := by
  cases h : okF (findE n seen L now name k) with
  | false => rw [(find_bad' h).2]; exact nil_cz
  | true => exact chk_cz (fc14_ok (find_good h))
theorem held_len {L : List Kp} (hc : Cz L) {now : Int} {name : Bs} {k : Int} {R : List Rec} (h : heldV L now name k = some R) : R.length ≤ 1000 := by
  unfold heldV at h
  split at h
  · split at h
    · rename_i x hx
      split at h
      · cases h
        exact hc.r x (find_some hx).1
      · cases h
    · cases h
  · cases h
theorem findL_len (n : Nt) (seen : Int) {L : List Kp} (hc : Cz L) (now : Int) (name : Bs) (k : Int) : (findL n seen L now name k).length ≤ 1000 := by
  cases h : okF (findE n seen L now name k) with
  | false => rw [(find_bad' h).1]; simp
  | true =>
    have g := find_good h
    cases hh : heldV L now name k with
    | some R => rw [(find_hit g hh).2.1]; exact held_len hc hh
    | none =>
      rw [(find_miss g hh).2.1]
      by_cases hl : (wayV n seen name k).E = 130
      · rw [(wayV_ok n seen name k).lost hl]; simp [lostW]
      · have := (way_kept hl).2.2.1; omega
theorem few_cz {L : List Kp} (h : fewC L = true) : Cz L := by
  unfold fewC at h
  simp only [Bool.and_eq_true, decide_eq_true_eq] at h
  refine ⟨by omega, fun x hx => ?_⟩
  have h1 := h.1
  rw [List.take_of_length_le (by omega), List.all_eq_true] at h1
  have := h1 x hx
  unfold fewK at this
  simp only [Bool.and_eq_true, decide_eq_true_eq] at this
  omega
end Go.Proofs.YtolpobgfcokoaaaGreatDoor
namespace Go.Proofs.YtolpobgfcokoaaaGreatDoor
open Go.Eng
set_option linter.unusedSimpArgs false
set_option maxRecDepth 10000

theorem arg_cache (ds : List D) : argC Tryz.prog 41 ds = (true, ds.map .d) := by
  unfold argC; rw [show isStruct Tryz.prog 41 = true from by kernel_rfl]
theorem read_recs {rr : List (List D)} (h : ∀ r ∈ rr, ∃ x : Rec, r = x.cells) : ∃ R : List Rec, rr = R.map Rec.cells := read_rows h
theorem read_cache {ds : List D} (h : shpG tys 10 41 ds) : ∃ L : List Kp, ds = [kpsD L] := by
  simp -dsimp -implicitDefEqProofs only [shpG, tileG, go_sem] at h
  obtain ⟨_, _, ⟨rl, rfl, _, hl⟩, rfl, rfl⟩ := h
  obtain ⟨L, rfl⟩ := read_rows (cells := Kp.cells) fun r hr => by
    obtain ⟨_, _, ⟨s, rfl, _⟩, rfl, _, _, ⟨b, rfl, _⟩, rfl, _, _, ⟨rr, rfl, _, hrr⟩, rfl, _, _, ⟨u, rfl, _⟩, rfl, rfl⟩ := hl r hr
    obtain ⟨n, rfl⟩ := bytes_all s
    obtain ⟨R, rfl⟩ := read_rows (cells := Rec.cells) fun r hr => by
      obtain ⟨_, _, ⟨a, rfl, _⟩, rfl, _, _, ⟨b, rfl, _⟩, rfl, _, _, ⟨c, rfl, _⟩, rfl, _, _, ⟨d, rfl, _⟩, rfl, rfl⟩ := hrr r hr
      obtain ⟨l, rfl⟩ := bytes_all a
      obtain ⟨m, rfl⟩ := bytes_all c
      exact ⟨⟨l, b, m, d⟩, rfl⟩
    exact ⟨⟨n, b, R, u⟩, rfl⟩
  exact ⟨L, rfl⟩
theorem read_zone {ds : List D} (h : shpG tys 10 59 ds) : ∃ z : Zn, ds = z.cells := by
  simp -dsimp -implicitDefEqProofs only [shpG, tileG, go_sem] at h
  obtain ⟨_, _, ⟨s, rfl, _⟩, rfl, _, _, ⟨rr, rfl, _, hrr⟩, rfl, rfl⟩ := h
  obtain ⟨n, rfl⟩ := bytes_all s
  obtain ⟨R, rfl⟩ := read_rows (cells := Rec.cells) fun r hr => by
    obtain ⟨_, _, ⟨a, rfl, _⟩, rfl, _, _, ⟨b, rfl, _⟩, rfl, _, _, ⟨c, rfl, _⟩, rfl, _, _, ⟨d, rfl, _⟩, rfl, rfl⟩ := hrr r hr
    obtain ⟨l, rfl⟩ := bytes_all a
    obtain ⟨m, rfl⟩ := bytes_all c
    exact ⟨⟨l, b, m, d⟩, rfl⟩
  exact ⟨⟨n, R⟩, rfl⟩
end Go.Proofs.YtolpobgfcokoaaaGreatDoor
