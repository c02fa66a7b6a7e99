
/- Plain laws: how far the document's walk is that puts one in its place. The document's answer: kept. The document's answer: Find. -/
import Derived.Test.YtolpobgfcokoaaaGreatDoorQD
open Nat renaming reduceLT → rn1, reduceLeDiff → rn2, reduceEqDiff → rn3, reduceAdd → rn4, reduceMul → rn5, reduceSub → rn6, reduceBEq → rn7
open Int renaming reduceLT → ri1, reduceLE → ri2, reduceEq → ri3, reduceBEq → ri4, reduceNeg → ri5
namespace Go.Proofs.YtolpobgfcokoaaaGreatDoor
open Go.Eng
set_option linter.unusedSimpArgs false
set_option maxRecDepth 10000

/-- A list in parts, with one in its place. -/
theorem kwith_parts {A M B : List Kp} {k : Kp} (hr : Ris koQ kQ (A ++ M ++ B)) (hA : ∀ x ∈ A, koQ.cmp (kQ x) (kQ k) < 0) (hM : ∀ x ∈ M, kQ x = kQ k) (hB : ∀ x ∈ B, koQ.cmp (kQ k) (kQ x) < 0) : withK koQ kQ (A ++ M ++ B) k = A ++ k :: B := by
  have hw := with_ris hr k
  have hz : Ris koQ kQ (A ++ k :: B) := by
    have h1 := ris_append.1 hr
    have h2 := ris_append.1 h1.1
    exact ris_append.2 ⟨h2.1, ris_cons.2 ⟨hB, h1.2.1⟩, fun x hx y hy => by
      rcases List.mem_cons.1 hy with rfl | hy
      · exact hA x hx
      · exact koQ.tr (hA x hx) (hB y hy)⟩
  refine ris_ext hw hz fun x => ?_
  rw [mem_with hr]
  simp only [List.mem_append, List.mem_cons]
  constructor
  · rintro (h | ⟨(h | h) | h, hn⟩)
    · exact .inr (.inl h)
    · exact .inl h
    · exact absurd (hM x h) hn
    · exact .inr (.inr h)
  · rintro (h | h | h)
    · exact .inr ⟨.inl (.inl h), koQ.ne (hA x h)⟩
    · exact .inl h
    · exact .inr ⟨.inr h, fun e => koQ.ne (hB x h) e.symm⟩
/-- How far the walk is. -/
def KtOk (L : List Kp) (k : Kp) (i : Nat) (out : List Kp) (at_ : Int) : Prop :=
  (at_ = -1 ∧ out = L.take i ∧ ∀ j x, j < i → L[j]? = some x → koQ.cmp (kQ x) (kQ k) < 0) ∨
  (∃ p : Nat, at_ = p ∧ out[p]? = some k ∧ out = withK koQ kQ (L.take i) k ∧ ∃ j y, j < i ∧ L[j]? = some y ∧ ¬ koQ.cmp (kQ y) (kQ k) < 0)
theorem kt_zero (L : List Kp) (k : Kp) : KtOk L k 0 [] (-1) := .inl ⟨rfl, by simp, fun j x hj => by omega⟩
theorem kt_take {L : List Kp} {k : Kp} {i : Nat} (h : ∀ j x, j < i → L[j]? = some x → koQ.cmp (kQ x) (kQ k) < 0) : ∀ y ∈ L.take i, koQ.cmp (kQ y) (kQ k) < 0 := fun y hy => by
  obtain ⟨j, hj⟩ := List.mem_iff_getElem?.1 hy
  rw [List.getElem?_take] at hj
  split at hj
  · exact h j y (by assumption) hj
  · cases hj
theorem kris_take {L : List Kp} (hr : Ris koQ kQ L) (i : Nat) : Ris koQ kQ (L.take i) := List.Pairwise.sublist (List.take_sublist i L) hr
theorem ktake_add {L : List Kp} {i : Nat} {x : Kp} (hx : L[i]? = some x) : L.take (i + 1) = L.take i ++ [x] := by rw [List.take_add_one, hx]; rfl
theorem kt_len {L : List Kp} (hr : Ris koQ kQ L) {k : Kp} {i : Nat} {out : List Kp} {at_ : Int} (h : KtOk L k i out at_) : out.length ≤ i + 1 := by
  rcases h with ⟨_, rfl, _⟩ | ⟨p, _, _, rfl, _⟩
  · simp; omega
  · rw [with_length (kris_take hr i)]
    have : (L.take i).length ≤ i := by simp; omega
    split <;> omega
theorem kt_s1 {L : List Kp} {k x : Kp} {i : Nat} {out : List Kp} (h : KtOk L k i out (-1)) (hx : L[i]? = some x) (hc : koQ.cmp (kQ x) (kQ k) < 0) : KtOk L k (i + 1) (out ++ [x]) (-1) := by
  rcases h with ⟨_, rfl, h⟩ | ⟨p, hp, _⟩
  · refine .inl ⟨rfl, (ktake_add hx).symm, fun j y hj hy => ?_⟩
    by_cases hji : j = i
    · subst hji; rw [hx] at hy; cases hy; exact hc
    · exact h j y (by omega) hy
  · omega
theorem kt_s2 {L : List Kp} (hr : Ris koQ kQ L) {k x : Kp} {i : Nat} {out : List Kp} (h : KtOk L k i out (-1)) (hx : L[i]? = some x) (he : kQ x = kQ k) : KtOk L k (i + 1) (out ++ [k]) (out.length : Nat) := by
  rcases h with ⟨_, rfl, h⟩ | ⟨p, hp, _⟩
  · refine .inr ⟨_, rfl, by simp, ?_, i, x, by omega, hx, fun e => koQ.ne e he⟩
    have hp := kwith_parts (A := L.take i) (M := [x]) (B := []) (k := k) (by rw [List.append_nil, ← ktake_add hx]; exact kris_take hr _) (kt_take h) (fun y hy => by rw [List.mem_singleton.1 hy]; exact he) (fun y hy => by cases hy)
    rw [List.append_nil] at hp
    rw [ktake_add hx, hp]
  · omega
theorem kt_s3 {L : List Kp} (hr : Ris koQ kQ L) {k x : Kp} {i : Nat} {out : List Kp} (h : KtOk L k i out (-1)) (hx : L[i]? = some x) (hc : ¬ koQ.cmp (kQ x) (kQ k) < 0) (he : kQ x ≠ kQ k) : KtOk L k (i + 1) (out ++ [k] ++ [x]) (out.length : Nat) := by
  rcases h with ⟨_, rfl, h⟩ | ⟨p, hp, _⟩
  · refine .inr ⟨_, rfl, by simp, ?_, i, x, by omega, hx, hc⟩
    have hgt : koQ.cmp (kQ k) (kQ x) < 0 := by
      rcases koQ.tri (kQ x) (kQ k) with h1 | h1 | h1
      · exact absurd h1 hc
      · exact absurd h1 he
      · exact h1
    have hp := kwith_parts (A := L.take i) (M := []) (B := [x]) (k := k) (by rw [List.append_nil, ← ktake_add hx]; exact kris_take hr _) (kt_take h) (fun y hy => by cases hy) (fun y hy => by rw [List.mem_singleton.1 hy]; exact hgt)
    rw [List.append_nil] at hp
    rw [ktake_add hx, hp, List.append_assoc]
    rfl
  · omega
theorem kt_s4 {L : List Kp} (hr : Ris koQ kQ L) {k x : Kp} {i : Nat} {out : List Kp} {at_ : Int} (ha : 0 ≤ at_) (h : KtOk L k i out at_) (hx : L[i]? = some x) : kQ x ≠ kQ k ∧ KtOk L k (i + 1) (out ++ [x]) at_ := by
  rcases h with ⟨h1, _⟩ | ⟨p, hp, hk, ho, j, y, hj, hy, hc⟩
  · omega
  · have hyx := ris_at hr hj hy hx
    have hgt : koQ.cmp (kQ k) (kQ x) < 0 := by
      rcases koQ.tri (kQ y) (kQ k) with h1 | h1 | h1
      · exact absurd h1 hc
      · rw [← h1]; exact hyx
      · exact koQ.tr h1 hyx
    refine ⟨fun e => koQ.ne hgt e.symm, .inr ⟨p, hp, ?_, ?_, j, y, by omega, hy, hc⟩⟩
    · have hlt := (List.getElem?_eq_some_iff.1 hk).1
      rw [List.getElem?_append_left hlt]; exact hk
    · have hrt := kris_take hr i
      have hrs : Ris koQ kQ (L.take i ++ [x]) := by rw [← ktake_add hx]; exact kris_take hr _
      have hsx := (ris_append.1 hrs).2.2
      rw [ktake_add hx, ho]
      refine ris_ext (ris_append.2 ⟨with_ris hrt k, ris_cons.2 ⟨fun y hy => (by cases hy), List.Pairwise.nil⟩, fun a ha b hb => ?_⟩) (with_ris hrs k) fun z => ?_
      · rw [List.mem_singleton.1 hb]
        rcases (mem_with hrt).1 ha with rfl | ⟨ha, _⟩
        · exact hgt
        · exact hsx a ha x (by simp)
      · rw [mem_with hrs]
        simp only [List.mem_append, List.mem_singleton]
        rw [mem_with hrt]
        constructor
        · rintro ((h | ⟨h, hn⟩) | h)
          · exact .inl h
          · exact .inr ⟨.inl h, hn⟩
          · exact .inr ⟨.inr h, by rw [h]; exact fun e => koQ.ne hgt e.symm⟩
        · rintro (h | ⟨h | h, hn⟩)
          · exact .inl (.inl h)
          · exact .inl (.inr ⟨h, hn⟩)
          · exact .inr h
theorem kt_fin1 {L : List Kp} (hr : Ris koQ kQ L) {k : Kp} {out : List Kp} (h : KtOk L k L.length out (-1)) : out = L ∧ out ++ [k] = withK koQ kQ L k := by
  rcases h with ⟨_, rfl, h⟩ | ⟨p, hp, _⟩
  · have hp := kwith_parts (A := L) (M := []) (B := []) (k := k) (by simpa using hr) (by have := kt_take h; rwa [List.take_length] at this) (fun y hy => by cases hy) (fun y hy => by cases hy)
    rw [List.append_nil, List.append_nil] at hp
    rw [List.take_length, hp]
    exact ⟨rfl, rfl⟩
  · omega
theorem kt_fin2 {L : List Kp} {k : Kp} {out : List Kp} {at_ : Int} (ha : 0 ≤ at_) (h : KtOk L k L.length out at_) : ∃ p : Nat, at_ = p ∧ out[p]? = some k ∧ out = withK koQ kQ L k := by
  rcases h with ⟨h1, _⟩ | ⟨p, hp, hk, ho, _⟩
  · omega
  · rw [List.take_length] at ho
    exact ⟨p, hp, hk, ho⟩
theorem kt_neg {L : List Kp} {k : Kp} {i : Nat} {out : List Kp} {at_ : Int} (h : KtOk L k i out at_) : at_ = -1 ∨ 0 ≤ at_ := by
  rcases h with ⟨h1, _⟩ | ⟨p, hp, _⟩ <;> omega
theorem kQ_ne {x k : Kp} : kQ x ≠ kQ k ↔ ¬ (x.N = k.N ∧ x.K = k.K) := by
  constructor
  · exact fun h e => h (Prod.ext e.1 e.2)
  · exact fun h e => h ⟨congrArg Prod.fst e, congrArg Prod.snd e⟩
end Go.Proofs.YtolpobgfcokoaaaGreatDoor
namespace Go.Proofs.YtolpobgfcokoaaaGreatDoor
open Go.Eng
set_option linter.unusedSimpArgs false
set_option maxRecDepth 10000

def lstI (o : Option Nat) : Int := match o with
  | some j => (j : Int)
  | none => -1
theorem lst_lt {l : List Kp} {but : Nat} : ∀ {i j : Nat}, lst l but i = some j → j < i ∧ j < l.length
  | 0, j, h => by cases h
  | i + 1, j, h => by
    unfold lst at h
    split at h
    · have := lst_lt h; omega
    · rename_i x hx
      have hi := (List.getElem?_eq_some_iff.1 hx).1
      split at h
      · have := lst_lt h; omega
      · split at h
        · cases h; omega
        · rename_i j' hj'
          have := lst_lt hj'
          split at h
          · split at h <;> cases h <;> omega
          · cases h; omega
structure LsInv (l : List Kp) where
  i : Nat
  le : i ≤ l.length
theorem rleast_ok (l : List Kp) (hl : l.length ≤ 1000000) (but : Nat) : Meets Tryz.prog 125 [(false, [vD (kpsD l)]), (false, [vI (but : Int)])] (rOne (vI (lstI (lst l but l.length)))) := by
  refine meets Tryz.func125 rfl rfl Tryz.ntmps125 Tryz.results125 rfl ?_
  simp -dsimp -implicitDefEqProofs only [go_sem, ↓reduceIte, reduceCtorEq, rn1, rn2, rn3, rn4, rn5, rn6, rn7, ri1, ri2, ri3, ri4, ri5]
  refine vfor sitOk (ι := LsInv l) (fun v => ⟨35, [(6, aI v.i), (5, aI (lstI (lst l but v.i))), (0, aD (kpsD l)), (1, aI but)], [], 200⟩) (fun v => l.length - v.i) ⟨0, by omega⟩ ?_ ?_
  · simp -dsimp -implicitDefEqProofs only [go_sem, ↓reduceIte, reduceCtorEq, rn1, rn2, rn3, rn4, rn5, rn6, rn7, ri1, ri2, ri3, ri4, ri5]
    try rfl
  intro ⟨i, hi⟩
  by_cases hil : i < l.length
  · obtain ⟨x, hx⟩ : ∃ x, l[i]? = some x := ⟨_, List.getElem?_eq_getElem hil⟩
    have hw := wrapS hil (by omega)
    have hlt : (i : Int) < (l.length : Int) := by omega
    have hst : lst l but (i + 1) = if i = but then lst l but i else match lst l but i with
        | none => some i
        | some j => match l[j]? with
          | some y => if x.U < y.U then some i else some j
          | none => some j := by
      conv => lhs; unfold lst
      simp only [hx]
      rfl
    by_cases hb : i = but
    · have hb2 : (i : Int) = (but : Int) := by omega
      rw [if_pos hb] at hst
      have hltb : (but : Int) < (l.length : Int) := by omega
      have hst2 : lst l but (i + 1) = lst l but i := hst
      have hwb : IntKind.i64.wrap ((but : Int) + 1) = ((i + 1 : Nat) : Int) := by rw [← hb2]; exact hw
      simp -dsimp -implicitDefEqProofs only [hlt, hb2, hltb, go_sem, ↓reduceIte, reduceCtorEq, rn1, rn2, rn3, rn4, rn5, rn6, rn7, ri1, ri2, ri3, ri4, ri5]
      refine ⟨drawn (by kernel_rfl), again ⟨i + 1, by omega⟩ (by simp; omega) ?_⟩
      simp -dsimp -implicitDefEqProofs only [hwb, hst2, go_sem, ↓reduceIte, reduceCtorEq, rn1, rn2, rn3, rn4, rn5, rn6, rn7, ri1, ri2, ri3, ri4, ri5]
    · have hb2 : ¬ (i : Int) = (but : Int) := by omega
      rw [if_neg hb] at hst
      cases ho : lst l but i with
      | none =>
        rw [ho] at hst
        have ho2 : lstI none = -1 := rfl
        simp -dsimp -implicitDefEqProofs only [hlt, hb2, ho, ho2, go_sem, ↓reduceIte, reduceCtorEq, rn1, rn2, rn3, rn4, rn5, rn6, rn7, ri1, ri2, ri3, ri4, ri5]
        refine ⟨drawn (by kernel_rfl), again ⟨i + 1, by omega⟩ (by simp; omega) ?_⟩
        simp -dsimp -implicitDefEqProofs only [hw, hst, go_sem, ↓reduceIte, reduceCtorEq, rn1, rn2, rn3, rn4, rn5, rn6, rn7, ri1, ri2, ri3, ri4, ri5]
        rfl
      | some j =>
        rw [ho] at hst
        have hj := (lst_lt ho).2
        obtain ⟨y, hy⟩ : ∃ y, l[j]? = some y := ⟨_, List.getElem?_eq_getElem hj⟩
        simp only [hy] at hst
        have ho2 : lstI (some j) = (j : Int) := rfl
        have hj0 : ¬ (j : Int) < 0 := by omega
        simp -dsimp -implicitDefEqProofs only [hlt, hb2, ho, ho2, hj0, hx, hy, forall_eq', go_sem, ↓reduceIte, reduceCtorEq, rn1, rn2, rn3, rn4, rn5, rn6, rn7, ri1, ri2, ri3, ri4, ri5]
        refine ⟨by omega, hil, by omega, hj, drawn (by kernel_rfl), fun hu => ?_, fun hu => ?_⟩
        · rw [if_pos hu] at hst
          refine again ⟨i + 1, by omega⟩ (by simp; omega) ?_
          simp -dsimp -implicitDefEqProofs only [hw, hst, go_sem, ↓reduceIte, reduceCtorEq, rn1, rn2, rn3, rn4, rn5, rn6, rn7, ri1, ri2, ri3, ri4, ri5]
          rfl
        · rw [if_neg (by omega)] at hst
          refine again ⟨i + 1, by omega⟩ (by simp; omega) ?_
          simp -dsimp -implicitDefEqProofs only [hw, hst, go_sem, ↓reduceIte, reduceCtorEq, rn1, rn2, rn3, rn4, rn5, rn6, rn7, ri1, ri2, ri3, ri4, ri5]
          rfl
  · have hie : i = l.length := by omega
    subst hie
    have hlt : ¬ (l.length : Int) < (l.length : Int) := by omega
    simp -dsimp -implicitDefEqProofs only [hlt, go_sem, ↓reduceIte, reduceCtorEq, rn1, rn2, rn3, rn4, rn5, rn6, rn7, ri1, ri2, ri3, ri4, ri5]
theorem kept_end {M K : List Kp} {n : Nat} (h : K = M.eraseIdx n) : (M.map Kp.cells).take n ++ ((M.map Kp.cells).drop (n + 1)).take (M.length - (n + 1)) = K.map Kp.cells := by
  have e : ((M.map Kp.cells).drop (n + 1)).take (M.length - (n + 1)) = (M.map Kp.cells).drop (n + 1) := List.take_of_length_le (by simp)
  rw [h, List.eraseIdx_eq_take_drop_succ, e]
  simp [List.map_append, List.map_take, List.map_drop]
structure KtInv (L : List Kp) (k : Kp) where
  i : Nat
  out : List Kp
  at_ : Int
  le : i ≤ L.length
  ok : KtOk L k i out at_
set_option maxHeartbeats 4000000 in
theorem rkept_ok (L : List Kp) (hri : Ris koQ kQ L) (hl : L.length ≤ 128) (k : Kp) : Meets Tryz.prog 84 [(true, [.own 4 79 (L.map Kp.cells)]), k.arg] (rAgg [.own 4 79 ((keepV L k).map Kp.cells)]) := by
  refine meets Tryz.func84 rfl rfl Tryz.ntmps84 Tryz.results84 rfl ?_
  simp -dsimp -implicitDefEqProofs only [go_sem, ↓reduceIte, reduceCtorEq, rn1, rn2, rn3, rn4, rn5, rn6, rn7, ri1, ri2, ri3, ri4, ri5]
  refine vown 25 0 79 rfl ?_
  simp -dsimp -implicitDefEqProofs only [go_sem, ↓reduceIte, reduceCtorEq, rn1, rn2, rn3, rn4, rn5, rn6, rn7, ri1, ri2, ri3, ri4, ri5]
  refine vforR sitOk [(400, 49)] (ι := KtInv L k) (fun v => ⟨100, [(7, aI v.i), (6, aI v.at_), (5, aP 25 0), (4, aP 17 0), (3, aP 9 0), (2, aP 1 0)], [(400, some (.row 4 79 (v.out.map Kp.cells) true)), (25, some (.var [.own 400] true)), (17, some (.var [.nils 4] true)), (9, some (.var [cS k.N, cI k.K, cD (recsD k.R), cI k.U] true)), (1, some (.var [.own 0] true)), (0, some (.row 4 79 (L.map Kp.cells) true))], 500⟩) (fun v => L.length - v.i) ⟨0, [], -1, by omega, kt_zero L k⟩ ?_ ?_
  · simp -dsimp -implicitDefEqProofs only [go_sem, ↓reduceIte, reduceCtorEq, rn1, rn2, rn3, rn4, rn5, rn6, rn7, ri1, ri2, ri3, ri4, ri5]
    try rfl
  intro ⟨i, out, at_, hi, hok⟩
  have hol := kt_len hri hok
  have hput : ∀ x : Kp, out.map Kp.cells ++ [[dT x.N, dI x.K, recsD x.R, dI x.U]] = (out ++ [x]).map Kp.cells := fun x => by simp [Kp.cells]
  have hput2 : ∀ x : Kp, out.map Kp.cells ++ [[dT k.N, dI k.K, recsD k.R, dI k.U]] ++ [[dT x.N, dI x.K, recsD x.R, dI x.U]] = (out ++ [k] ++ [x]).map Kp.cells := fun x => by simp [Kp.cells]
  by_cases hil : i < L.length
  · obtain ⟨x, hx⟩ : ∃ x, L[i]? = some x := ⟨_, List.getElem?_eq_getElem hil⟩
    have hw := wrapS hil (by omega)
    have hlt : (i : Int) < (L.length : Int) := by omega
    rcases kt_neg hok with ha | ha
    · subst ha
      by_cases hc : koQ.cmp (kQ x) (kQ k) < 0
      · have hne := kQ_ne.1 (koQ.ne hc)
        simp -dsimp -implicitDefEqProofs only [hlt, hx, forall_eq', List.length_map, go_sem, ↓reduceIte, reduceCtorEq, rn1, rn2, rn3, rn4, rn5, rn6, rn7, ri1, ri2, ri3, ri4, ri5]
        refine ⟨by omega, hil, callP (rahead14_ok x k) ?_⟩
        have hcb : decide (koQ.cmp (kQ x) (kQ k) < 0) = true := decide_eq_true hc
        simp -dsimp -implicitDefEqProofs only [hcb, hx, forall_eq', List.length_map, go_sem, ↓reduceIte, reduceCtorEq, rn1, rn2, rn3, rn4, rn5, rn6, rn7, ri1, ri2, ri3, ri4, ri5]
        repeat' (first | with_reducible apply And.intro | with_reducible intro _ | with_reducible exact drawn (by kernel_rfl) | omega)
        all_goals first
          | omega
          | (exfalso; exact hne ⟨by assumption, by assumption⟩)
          | (refine againO 400 25 0 ⟨i + 1, out ++ [x], -1, by omega, kt_s1 hok hx hc⟩ (by simp; omega) ?_
             simp -dsimp -implicitDefEqProofs only [hw, hput, go_sem, ↓reduceIte, reduceCtorEq, rn1, rn2, rn3, rn4, rn5, rn6, rn7, ri1, ri2, ri3, ri4, ri5])
      · have hcb : decide (koQ.cmp (kQ x) (kQ k) < 0) = false := decide_eq_false hc
        by_cases he : kQ x = kQ k
        · simp -dsimp -implicitDefEqProofs only [hlt, hx, forall_eq', List.length_map, go_sem, ↓reduceIte, reduceCtorEq, rn1, rn2, rn3, rn4, rn5, rn6, rn7, ri1, ri2, ri3, ri4, ri5]
          refine ⟨by omega, hil, callP (rahead14_ok x k) ?_⟩
          have h1 : x.N = k.N := congrArg Prod.fst he
          have h2 : x.K = k.K := congrArg Prod.snd he
          simp -dsimp -implicitDefEqProofs only [hcb, hx, forall_eq', h1, h2, List.length_map, List.length_append, List.length_singleton, go_sem, ↓reduceIte, reduceCtorEq, rn1, rn2, rn3, rn4, rn5, rn6, rn7, ri1, ri2, ri3, ri4, ri5]
          repeat' (first | with_reducible apply And.intro | with_reducible intro _ | with_reducible exact drawn (by kernel_rfl) | omega)
          all_goals first
            | omega
            | (refine againO 400 25 0 ⟨i + 1, out ++ [k], (out.length : Nat), by omega, kt_s2 hri hok hx he⟩ (by simp; omega) ?_
               simp -dsimp -implicitDefEqProofs only [hw, hput, go_sem, ↓reduceIte, reduceCtorEq, rn1, rn2, rn3, rn4, rn5, rn6, rn7, ri1, ri2, ri3, ri4, ri5])
        · simp -dsimp -implicitDefEqProofs only [hlt, hx, forall_eq', List.length_map, go_sem, ↓reduceIte, reduceCtorEq, rn1, rn2, rn3, rn4, rn5, rn6, rn7, ri1, ri2, ri3, ri4, ri5]
          refine ⟨by omega, hil, callP (rahead14_ok x k) ?_⟩
          have hne := kQ_ne.1 he
          simp -dsimp -implicitDefEqProofs only [hcb, hx, forall_eq', List.length_map, List.length_append, List.length_singleton, go_sem, ↓reduceIte, reduceCtorEq, rn1, rn2, rn3, rn4, rn5, rn6, rn7, ri1, ri2, ri3, ri4, ri5]
          repeat' (first | with_reducible apply And.intro | with_reducible intro _ | with_reducible exact drawn (by kernel_rfl) | omega)
          all_goals first
            | omega
            | (exfalso; exact hne ⟨by assumption, by assumption⟩)
            | (refine againO 400 25 0 ⟨i + 1, out ++ [k] ++ [x], (out.length : Nat), by omega, kt_s3 hri hok hx hc he⟩ (by simp; omega) ?_
               simp -dsimp -implicitDefEqProofs only [hw, hput2, go_sem, ↓reduceIte, reduceCtorEq, rn1, rn2, rn3, rn4, rn5, rn6, rn7, ri1, ri2, ri3, ri4, ri5])
    · have ha2 : ¬ at_ < 0 := by omega
      obtain ⟨hne, hok2⟩ := kt_s4 hri ha hok hx
      have hne := kQ_ne.1 hne
      simp -dsimp -implicitDefEqProofs only [hlt, hx, forall_eq', ha2, List.length_map, go_sem, ↓reduceIte, reduceCtorEq, rn1, rn2, rn3, rn4, rn5, rn6, rn7, ri1, ri2, ri3, ri4, ri5]
      repeat' (first | with_reducible apply And.intro | with_reducible intro _ | with_reducible exact drawn (by kernel_rfl) | omega)
      all_goals first
        | omega
        | (exfalso; exact hne ⟨by assumption, by assumption⟩)
        | (refine againO 400 25 0 ⟨i + 1, out ++ [x], at_, by omega, hok2⟩ (by simp; omega) ?_
           simp -dsimp -implicitDefEqProofs only [hw, hput, go_sem, ↓reduceIte, reduceCtorEq, rn1, rn2, rn3, rn4, rn5, rn6, rn7, ri1, ri2, ri3, ri4, ri5])
  · have hie : i = L.length := by omega
    subst hie
    have hlt : ¬ (L.length : Int) < (L.length : Int) := by omega
    have htl : ∀ l : List Kp, (l.map Kp.cells).length = l.length := fun l => by simp
    have fin : ∀ (p : Nat) (M : List Kp), M = withK koQ kQ L k → M[p]? = some k → (M.length ≤ 128 → M = keepV L k) ∧ (128 < M.length → ∃ n, lst M p M.length = some n ∧ n < M.length ∧ keepV L k = M.eraseIdx n) := fun p M hM hp => by
      subst hM
      have hwl := with_length hri k
      refine ⟨fun h => (keep_room h hri).symm, fun h => ?_⟩
      cases hh : hitK koQ kQ L (kQ k) with
      | true => rw [hh] at hwl; simp at hwl; omega
      | false =>
        rw [hh] at hwl
        simp at hwl
        exact keep_full hri (by omega) hh hp
    rcases kt_neg hok with ha | ha
    · subst ha
      obtain ⟨e1, e2⟩ := kt_fin1 hri hok
      subst e1
      obtain ⟨f1, f2⟩ := fin out.length (out ++ [k]) e2 (by simp)
      simp -dsimp -implicitDefEqProofs only [hlt, htl, hput, go_sem, ↓reduceIte, reduceCtorEq, rn1, rn2, rn3, rn4, rn5, rn6, rn7, ri1, ri2, ri3, ri4, ri5]
      have hle : (out ++ [k]).length = out.length + 1 := by simp
      refine ⟨⟨by omega, by omega⟩, fun h => by rw [← f1 (by omega)], fun h => ?_⟩
      obtain ⟨n, g1, g2, g3⟩ := f2 (by omega)
      have hlo := rleast_ok (out ++ [k]) (by omega) out.length
      rw [g1] at hlo
      refine callP hlo ?_
      have hn2 : lstI (some n) = (n : Int) := rfl
      have hwn : IntKind.i64.wrap ((n : Int) + 1) = ((n + 1 : Nat) : Int) := by rw [wrap64] <;> omega
      have hto : ∀ m : Nat, Int.toNat (m : Int) = m := fun m => rfl
      have hend := kept_end g3
      simp -dsimp -implicitDefEqProofs only [hn2, hwn, hto, hend, go_sem, ↓reduceIte, reduceCtorEq, rn1, rn2, rn3, rn4, rn5, rn6, rn7, ri1, ri2, ri3, ri4, ri5]
      refine ⟨by omega, by omega, ⟨by simp; omega, by simp; omega⟩, by omega, by omega, ⟨by simp; omega, by simp; omega⟩, drawn (by kernel_rfl)⟩
    · obtain ⟨p, rfl, e1, e2⟩ := kt_fin2 ha hok
      obtain ⟨f1, f2⟩ := fin p out e2 e1
      have ha2 : ¬ (p : Int) < 0 := by omega
      simp -dsimp -implicitDefEqProofs only [hlt, htl, ha2, go_sem, ↓reduceIte, reduceCtorEq, rn1, rn2, rn3, rn4, rn5, rn6, rn7, ri1, ri2, ri3, ri4, ri5]
      refine ⟨fun h => by rw [← f1 (by omega)], fun h => ?_⟩
      obtain ⟨n, g1, g2, g3⟩ := f2 (by omega)
      have hlo := rleast_ok out (by omega) p
      rw [g1] at hlo
      refine callP hlo ?_
      have hn2 : lstI (some n) = (n : Int) := rfl
      have hwn : IntKind.i64.wrap ((n : Int) + 1) = ((n + 1 : Nat) : Int) := by rw [wrap64] <;> omega
      have hto : ∀ m : Nat, Int.toNat (m : Int) = m := fun m => rfl
      have hend := kept_end g3
      simp -dsimp -implicitDefEqProofs only [hn2, hwn, hto, hend, go_sem, ↓reduceIte, reduceCtorEq, rn1, rn2, rn3, rn4, rn5, rn6, rn7, ri1, ri2, ri3, ri4, ri5]
      refine ⟨by omega, by omega, ⟨by simp; omega, by simp; omega⟩, by omega, by omega, ⟨by simp; omega, by simp; omega⟩, drawn (by kernel_rfl)⟩
end Go.Proofs.YtolpobgfcokoaaaGreatDoor
namespace Go.Proofs.YtolpobgfcokoaaaGreatDoor
open Go.Eng
set_option linter.unusedSimpArgs false
set_option maxRecDepth 10000

set_option maxHeartbeats 4000000 in
theorem rfind14_ok (n : Nt) (hz : Sz n) (seen : Int) (L : List Kp) (hc : Cz L) (now : Int) (name : Bs) (k : Int) :
    Meets Tryz.prog 37 [n.arg, (false, [vI seen]), cacheA L, (false, [vI now]), (false, [vS name]), (false, [vI k])]
      (rTup [(false, [vD (recsD (findL n seen L now name k))]), (true, [vD (kpsD (findC n seen L now name k))]), (false, [vI (findE n seen L now name k)])]) := by
  have hcl := hc.l
  have hcr : ∀ x ∈ L, x.R.length ≤ 1000000 := fun x hx => by have := hc.r x hx; omega
  refine meetsF Tryz.func37 rfl rfl Tryz.ntmps37 Tryz.results37 rfl ?_
  simp -dsimp -implicitDefEqProofs only [go_sem, ↓reduceIte, reduceCtorEq, rn1, rn2, rn3, rn4, rn5, rn6, rn7, ri1, ri2, ri3, ri4, ri5]
  refine callP (rccheck_ok L (by omega) hcr) ?_
  by_cases h0 : chkC L = 0
  · simp -dsimp -implicitDefEqProofs only [h0, go_sem, ↓reduceIte, reduceCtorEq, rn1, rn2, rn3, rn4, rn5, rn6, rn7, ri1, ri2, ri3, ri4, ri5]
    refine callP (rcheck_okN n hz) ?_
    by_cases h1 : chkN n = 0
    · simp -dsimp -implicitDefEqProofs only [h1, go_sem, ↓reduceIte, reduceCtorEq, rn1, rn2, rn3, rn4, rn5, rn6, rn7, ri1, ri2, ri3, ri4, ri5]
      refine callP (rin_ok now) ?_
      cases hg : goodQ n seen now k with
      | false =>
        have hb := find_bad (n := n) (seen := seen) (L := L) (now := now) (name := name) (k := k) (e := 1) (by unfold findE; rw [if_neg (by omega), if_neg (by omega), if_pos hg]) rfl
        simp -dsimp -implicitDefEqProofs only [go_sem, ↓reduceIte, reduceCtorEq, rn1, rn2, rn3, rn4, rn5, rn6, rn7, ri1, ri2, ri3, ri4, ri5]
        rw [hb.1, hb.2.1, hb.2.2]
        repeat' (first | with_reducible apply And.intro | with_reducible intro _ | with_reducible exact drawn (by kernel_rfl) | (refine callP (rkind_ok k) ?_; simp -dsimp -implicitDefEqProofs only [go_sem, ↓reduceIte, reduceCtorEq, rn1, rn2, rn3, rn4, rn5, rn6, rn7, ri1, ri2, ri3, ri4, ri5]) | omega)
        all_goals first
          | (refine retF [] ?_
             simp -dsimp -implicitDefEqProofs only [go_sem, ↓reduceIte, reduceCtorEq, rn1, rn2, rn3, rn4, rn5, rn6, rn7, ri1, ri2, ri3, ri4, ri5]
             done)
          | (exfalso
             unfold goodQ at hg
             rw [show timeB now = true by assumption, show kindB k = true by assumption, decide_eq_true (show -1 ≤ seen by omega), decide_eq_true (show seen < n.N by omega)] at hg
             cases hg)
      | true =>
        have hg' := hg
        unfold goodQ at hg'
        simp only [Bool.and_eq_true, decide_eq_true_eq] at hg'
        obtain ⟨⟨⟨q1, q2⟩, q3⟩, q4⟩ := hg'
        have q2' : ¬ seen < -1 := by omega
        have q3' : ¬ n.N ≤ seen := by omega
        simp -dsimp -implicitDefEqProofs only [q1, q2, q3, q2', q3', go_sem, ↓reduceIte, reduceCtorEq, rn1, rn2, rn3, rn4, rn5, rn6, rn7, ri1, ri2, ri3, ri4, ri5]
        refine callP (rkind_ok k) ?_
        simp -dsimp -implicitDefEqProofs only [q4, go_sem, ↓reduceIte, reduceCtorEq, rn1, rn2, rn3, rn4, rn5, rn6, rn7, ri1, ri2, ri3, ri4, ri5]
        refine callP (rcheckN_ok name) ?_
        cases hnm : isName name with
        | false =>
          have hb := find_bad (n := n) (seen := seen) (L := L) (now := now) (name := name) (k := k) (e := 110) (by unfold findE; rw [if_neg (by omega), if_neg (by omega), if_neg (by simp [hg]), if_pos hnm]) rfl
          simp -dsimp -implicitDefEqProofs only [hnm, Bool.false_eq_true, go_sem, ↓reduceIte, reduceCtorEq, rn1, rn2, rn3, rn4, rn5, rn6, rn7, ri1, ri2, ri3, ri4, ri5]
          rw [hb.1, hb.2.1, hb.2.2]
          refine retF [] ?_
          simp -dsimp -implicitDefEqProofs only [go_sem, ↓reduceIte, reduceCtorEq, rn1, rn2, rn3, rn4, rn5, rn6, rn7, ri1, ri2, ri3, ri4, ri5]
        | true =>
          have hE : findE n seen L now name k = match heldV L now name k with
            | some R => if R = [] then 131 else 0
            | none => (wayV n seen name k).E := by
            unfold findE; rw [if_neg (by omega), if_neg (by omega), if_neg (by simp [hg]), if_neg (by simp [hnm])]
            cases heldV L now name k <;> rfl
          simp -dsimp -implicitDefEqProofs only [hnm, go_sem, ↓reduceIte, reduceCtorEq, rn1, rn2, rn3, rn4, rn5, rn6, rn7, ri1, ri2, ri3, ri4, ri5]
          have hho := rheld_ok L (by omega) hcr now name k
          cases hh : heldV L now name k with
          | some R =>
            rw [hh] at hE
            simp only at hE
            have hR0 : ((heldR (some R)).length : Int) = 0 ↔ R = [] := ⟨fun h => List.eq_nil_of_length_eq_zero (by have : heldR (some R) = R := rfl; rw [this] at h; omega), fun h => by rw [h]; rfl⟩
            have hL : findL n seen L now name k = R := by unfold findL; rw [hE, hh]; by_cases hR : R = [] <;> simp [hR, okF]
            have hC : findC n seen L now name k = L := by unfold findC; rw [hE, hh]; by_cases hR : R = [] <;> simp [hR, okF]
            rw [hE, hL, hC]
            rw [hh] at hho
            refine callP hho ?_
            simp -dsimp -implicitDefEqProofs only [go_sem, ↓reduceIte, reduceCtorEq, rn1, rn2, rn3, rn4, rn5, rn6, rn7, ri1, ri2, ri3, ri4, ri5]
            refine ⟨fun h => ⟨drawn (by kernel_rfl), ?_⟩, fun h => ⟨drawn (by kernel_rfl), ?_⟩⟩
            · have hRe := hR0.1 h
              subst hRe
              rw [if_pos rfl]
              refine retF [] ?_
              simp -dsimp -implicitDefEqProofs only [go_sem, ↓reduceIte, reduceCtorEq, rn1, rn2, rn3, rn4, rn5, rn6, rn7, ri1, ri2, ri3, ri4, ri5]
            · rw [if_neg (fun e => h (hR0.2 e))]
              refine retF [336] ?_
              simp -dsimp -implicitDefEqProofs only [go_sem, ↓reduceIte, reduceCtorEq, rn1, rn2, rn3, rn4, rn5, rn6, rn7, ri1, ri2, ri3, ri4, ri5]
              rfl
          | none =>
            rw [hh] at hE
            simp only at hE
            have hL : findL n seen L now name k = if okF (wayV n seen name k).E then (wayV n seen name k).L else [] := by unfold findL; rw [hE, hh]
            have hC : findC n seen L now name k = if okF (wayV n seen name k).E then (if (wayV n seen name k).E = 130 then L else keepV (trimL L now) (keptOf n seen now name k)) else [] := by unfold findC; rw [hE, hh]
            have hwo := wayV_ok n seen name k
            rw [hh] at hho
            refine callP hho ?_
            simp -dsimp -implicitDefEqProofs only [go_sem, ↓reduceIte, reduceCtorEq, rn1, rn2, rn3, rn4, rn5, rn6, rn7, ri1, ri2, ri3, ri4, ri5]
            refine callP (rasked_ok n hz seen name k) ?_
            by_cases hlost : (wayV n seen name k).E = 130
            · have hw := hwo.lost hlost
              have hL2 : findL n seen L now name k = [] := by rw [hL, hw]; rfl
              have hC2 : findC n seen L now name k = L := by rw [hC, hlost]; rfl
              rw [hE, hL2, hC2]
              simp -dsimp -implicitDefEqProofs only [hlost, go_sem, ↓reduceIte, reduceCtorEq, rn1, rn2, rn3, rn4, rn5, rn6, rn7, ri1, ri2, ri3, ri4, ri5]
              refine ⟨drawn (by kernel_rfl), retF [] ?_⟩
              simp -dsimp -implicitDefEqProofs only [go_sem, ↓reduceIte, reduceCtorEq, rn1, rn2, rn3, rn4, rn5, rn6, rn7, ri1, ri2, ri3, ri4, ri5]
            · have hok : okF (wayV n seen name k).E = true := by
                rcases hwo.kind with h | h | h
                · rw [h]; rfl
                · exact absurd h hlost
                · rw [h]; rfl
              rw [hok, if_pos rfl] at hL
              rw [hok, if_pos rfl, if_neg hlost] at hC
              rw [hE, hL, hC]
              have hF : 1 ≤ (wayV n seen name k).F ∧ (wayV n seen name k).F ≤ 1000 ∧ (wayV n seen name k).L.length ≤ 64 := by
                rcases hwo.kind with h | h | h
                · have := hwo.some h; exact ⟨this.2.1, this.2.2.1, this.2.2.2.1⟩
                · exact absurd h hlost
                · rw [hwo.none h]; simp
              have htm : 0 ≤ now ∧ now ≤ 1099511627776 := by
                unfold timeB at q1; simpa using q1
              have hwr : IntKind.i64.wrap (now + (wayV n seen name k).F) = now + (wayV n seen name k).F := by rw [wrap64] <;> omega
              have hmin : (if 1099511627776 < now + (wayV n seen name k).F then 1099511627776 else now + (wayV n seen name k).F) = min (now + (wayV n seen name k).F) 1099511627776 := by split <;> omega
              have htk := trim_ok h0 now
              obtain ⟨t1, _, t3⟩ := chkC_iff.1 htk
              have hko := rkept_ok (trimL L now) t3 t1 (keptOf n seen now name k)
              have hkU : (keptOf n seen now name k).U = min (now + (wayV n seen name k).F) 1099511627776 := rfl
              simp -dsimp -implicitDefEqProofs only [hlost, go_sem, ↓reduceIte, reduceCtorEq, rn1, rn2, rn3, rn4, rn5, rn6, rn7, ri1, ri2, ri3, ri4, ri5]
              simp -dsimp -implicitDefEqProofs only [hwr, hmin, go_sem, ↓reduceIte, reduceCtorEq, rn1, rn2, rn3, rn4, rn5, rn6, rn7, ri1, ri2, ri3, ri4, ri5]
              refine ⟨⟨by omega, by omega⟩, drawn (by kernel_rfl), ⟨by omega, by omega⟩, callP (rtrim_ok L (by omega) hcr now) ?_⟩
              simp -dsimp -implicitDefEqProofs only [hwr, hmin, go_sem, ↓reduceIte, reduceCtorEq, rn1, rn2, rn3, rn4, rn5, rn6, rn7, ri1, ri2, ri3, ri4, ri5]
              refine callE [true, false] ?_
              simp -dsimp -implicitDefEqProofs only [hmin, go_sem, ↓reduceIte, reduceCtorEq, rn1, rn2, rn3, rn4, rn5, rn6, rn7, ri1, ri2, ri3, ri4, ri5]
              refine ⟨_, hko, ?_⟩
              simp -dsimp -implicitDefEqProofs only [go_sem, ↓reduceIte, reduceCtorEq, rn1, rn2, rn3, rn4, rn5, rn6, rn7, ri1, ri2, ri3, ri4, ri5]
              refine ⟨drawn (by kernel_rfl), retF [656, 696] ?_⟩
              simp -dsimp -implicitDefEqProofs only [go_sem, ↓reduceIte, reduceCtorEq, rn1, rn2, rn3, rn4, rn5, rn6, rn7, ri1, ri2, ri3, ri4, ri5]
    · have hb := find_bad (n := n) (seen := seen) (L := L) (now := now) (name := name) (k := k) (e := chkN n) (by unfold findE; rw [if_neg (by omega), if_pos h1]) (by rcases chkN_vals n with h | h | h <;> rw [h] <;> first | rfl | exact absurd h h1)
      simp -dsimp -implicitDefEqProofs only [h1, go_sem, ↓reduceIte, reduceCtorEq, rn1, rn2, rn3, rn4, rn5, rn6, rn7, ri1, ri2, ri3, ri4, ri5]
      rw [hb.1, hb.2.1, hb.2.2]
      refine retF [] ?_
      simp -dsimp -implicitDefEqProofs only [go_sem, ↓reduceIte, reduceCtorEq, rn1, rn2, rn3, rn4, rn5, rn6, rn7, ri1, ri2, ri3, ri4, ri5]
  · have hb := find_bad (n := n) (seen := seen) (L := L) (now := now) (name := name) (k := k) (e := chkC L) (by unfold findE; rw [if_pos h0]) (by rcases chkC_vals L with h | h | h <;> rw [h] <;> first | rfl | exact absurd h h0)
    simp -dsimp -implicitDefEqProofs only [h0, go_sem, ↓reduceIte, reduceCtorEq, rn1, rn2, rn3, rn4, rn5, rn6, rn7, ri1, ri2, ri3, ri4, ri5]
    rw [hb.1, hb.2.1, hb.2.2]
    refine retF [] ?_
    simp -dsimp -implicitDefEqProofs only [go_sem, ↓reduceIte, reduceCtorEq, rn1, rn2, rn3, rn4, rn5, rn6, rn7, ri1, ri2, ri3, ri4, ri5]
end Go.Proofs.YtolpobgfcokoaaaGreatDoor
