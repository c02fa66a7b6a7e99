/- ZoneCuts: the law's contract. -/
import Derived.Test.YtfgejhlgenaniaaDoorZ21
namespace Go.Proofs.YtfgejhlgenaniaaDoor
open Go.Eng
set_option linter.unusedSimpArgs false
set_option maxRecDepth 10000

/-- A record of a cut. -/
def IsCut (a : Bs) (l : List Rec) (d : Rec) : Prop := d ∈ l ∧ d.K = 3 ∧ d.N ≠ a
/-- A name, or what is above it. -/
def Up0 (s t : Bs) : Prop := s = t ∨ belowB s t = true
theorem cut_mem {a : Bs} {l : List Rec} : ∀ (m : Nat) {s : Bs} {c : Option Rec} {d : Rec}, s.length ≤ m → cutV a l s c = some d → c = some d ∨ (IsCut a l d ∧ Up0 s d.N)
  | 0, s, c, d, hm, h => by
    have : s = [] := List.length_eq_zero_iff.1 (by omega)
    subst this
    rw [cutV_eq, if_pos rfl] at h
    exact .inl h
  | m + 1, s, c, d, hm, h => by
    rw [cutV_eq] at h
    split at h
    · exact .inl h
    · rename_i hs
      split at h
      · exact .inl h
      · rename_i ha
        have hlt := upB_lt' hs
        have key : orO (firstNs l s) c = some d → c = some d ∨ (IsCut a l d ∧ Up0 s d.N) := fun h1 => by
          unfold orO at h1
          split at h1
          · rename_i x hx
            cases h1
            obtain ⟨q1, q2, q3⟩ := firstNs_mem hx
            exact .inr ⟨⟨q1, q2, by rw [q3]; exact ha⟩, .inl q3.symm⟩
          · exact .inl h1
        by_cases hu : upB s = []
        · rw [hu, cutV_eq, if_pos rfl] at h
          exact key h
        · rcases cut_mem m (by omega) h with h1 | ⟨h1, h2⟩
          · exact key h1
          · exact .inr ⟨h1, .inr (below_up.2 ⟨hu, h2⟩)⟩
theorem cut_start {a : Bs} {l : List Rec} : ∀ (m : Nat) {s : Bs} {c : Rec}, s.length ≤ m → ∃ d, cutV a l s (some c) = some d
  | 0, s, c, hm => by
    have : s = [] := List.length_eq_zero_iff.1 (by omega)
    subst this
    exact ⟨c, by rw [cutV_eq, if_pos rfl]⟩
  | m + 1, s, c, hm => by
    rw [cutV_eq]
    split
    · exact ⟨c, rfl⟩
    · rename_i hs
      split
      · exact ⟨c, rfl⟩
      · have hlt := upB_lt' hs
        unfold orO
        split
        · exact cut_start m (by omega)
        · exact cut_start m (by omega)
theorem firstNs_some {l : List Rec} {r : Rec} (hr : r ∈ l) (hk : r.K = 3) : ∃ d, firstNs l r.N = some d := by
  cases h : firstNs l r.N with
  | some d => exact ⟨d, rfl⟩
  | none =>
    unfold firstNs at h
    rw [List.find?_eq_none] at h
    exact absurd (by simpa using hk) (h r (mem_atB.2 ⟨hr, rfl⟩))
theorem cut_reach {a : Bs} {l : List Rec} {r : Rec} (hr : r ∈ l) (hk : r.K = 3) (hne : r.N ≠ []) (ha : a = [] ∨ belowB r.N a = true) : ∀ (m : Nat) {s : Bs} {c : Option Rec}, s.length ≤ m → Up0 s r.N → ∃ d, cutV a l s c = some d ∧ Up0 r.N d.N
  | 0, s, c, hm, h => by
    have : s = [] := List.length_eq_zero_iff.1 (by omega)
    subst this
    rcases h with h | h
    · exact absurd h.symm hne
    · rw [belowB_nil] at h; cases h
  | m + 1, s, c, hm, h => by
    have hs : s ≠ [] := fun e => by
      subst e
      rcases h with h | h
      · exact hne h.symm
      · rw [belowB_nil] at h; cases h
    have hsa : s ≠ a := fun e => by
      subst e
      rcases ha with ha | ha
      · exact hs ha
      · have h1 := below_lt ha
        rcases h with h | h
        · rw [h] at h1; omega
        · have := below_lt h; omega
    have hlt := upB_lt' hs
    rw [cutV_eq, if_neg hs, if_neg hsa]
    rcases h with h | h
    · obtain ⟨d0, hd0⟩ := firstNs_some hr hk
      rw [h, hd0]
      simp only [orO]
      obtain ⟨d, hd⟩ := cut_start (a := a) (l := l) m (s := upB r.N) (c := d0) (by rw [← h]; omega)
      refine ⟨d, hd, ?_⟩
      have hN := (firstNs_mem hd0).2.2
      by_cases hu : upB r.N = []
      · rw [hu, cutV_eq, if_pos rfl] at hd
        cases hd
        exact .inl hN.symm
      · rcases cut_mem m (by rw [← h]; omega) hd with h1 | ⟨_, h2⟩
        · cases h1; exact .inl hN.symm
        · exact .inr (below_up.2 ⟨hu, h2⟩)
    · obtain ⟨h1, h2⟩ := below_up.1 h
      exact cut_reach hr hk hne ha m (by omega) h2
theorem under_name {s t : Bs} (h : underB s t = true) : isName s = true := by
  unfold underB at h
  rw [Bool.and_eq_true] at h
  exact h.1
/-- The cut of a name stands in the zone, at the name or above it. -/
theorem cut_is {a : Bs} {l : List Rec} {n : Bs} {c : Rec} (h : cutV a l n none = some c) : IsCut a l c ∧ Up0 n c.N := by
  rcases cut_mem n.length (Nat.le_refl _) h with h | h
  · cases h
  · exact h
theorem cut_of {a : Bs} {l : List Rec} (hk : Ok a l) {n : Bs} {r : Rec} (hr : IsCut a l r) (hu : Up0 n r.N) : ∃ c, cutV a l n none = some c ∧ Up0 r.N c.N := by
  have hn := under_name (hk.und r hr.1)
  refine cut_reach hr.1 hr.2.1 (name_ne hn) ?_ n.length (Nat.le_refl _) hu
  by_cases ha : a = []
  · exact .inl ha
  · rcases ((under_iff ha).1 (hk.und r hr.1)).2 with h | h
    · exact absurd h hr.2.2
    · exact .inr h
def cutsB (a : Bs) (n : Bs) (l : List Rec) : Bool := l.any fun r => r.K == 3 && r.N != a && underB n r.N
theorem up0_under {n t : Bs} (hn : isName n = true) (ht : isName t = true) : underB n t = true ↔ Up0 n t := by
  rw [under_iff (name_ne ht)]
  exact ⟨fun h => h.2, fun h => ⟨hn, h⟩⟩
theorem cuts_iff {a : Bs} {n : Bs} {l : List Rec} : cutsB a n l = true ↔ ∃ r, IsCut a l r ∧ underB n r.N = true := by
  unfold cutsB IsCut
  rw [List.any_eq_true]
  simp only [Bool.and_eq_true, beq_iff_eq, bne_iff_ne, ne_eq]
  exact ⟨fun ⟨x, h1, ⟨h2, h3⟩, h4⟩ => ⟨x, ⟨h1, h2, h3⟩, h4⟩, fun ⟨x, ⟨h1, h2, h3⟩, h4⟩ => ⟨x, h1, ⟨h2, h3⟩, h4⟩⟩
theorem ask_parts {a : Bs} {l : List Rec} {n : Bs} {k : Int} (h : askE a l n k = 0) : Ok a l ∧ l.length ≤ 64 ∧ isName n = true ∧ underB n a = true := by
  unfold askE at h
  split at h
  · rename_i h0
    have := check_zero.1 h0
    split at h
    · rename_i h1
      split at h
      · rename_i h2
        exact ⟨this.1, this.2, h1.1, h2⟩
      · cases h
    · cases h
  · rename_i h0; exact absurd h h0
theorem cuts_law {a : Bs} {l : List Rec} {n : Bs} {k : Int} (h : askE a l n k = 0) :
    (cutsB a n l = false ∧ (askV a l n k).K ≠ 4) ∨ (cutsB a n l = true ∧ ∃ c, askV a l n k = ⟨4, [c], digV c.V, []⟩ ∧ c ∈ l ∧ underB n c.N = true ∧ 0 ≤ digV c.V ∧ digV c.V ≤ 7 ∧
      ∀ r, r ∈ l → r.K = 3 → r.N ≠ a → r.N ≠ c.N → underB c.N r.N = true → False) := by
  obtain ⟨hk, hl, hn, hu⟩ := ask_parts h
  cases hc : cutV a l n none with
  | none =>
    left
    constructor
    · rw [Bool.eq_false_iff]
      intro hb
      obtain ⟨r, hr, hru⟩ := cuts_iff.1 hb
      obtain ⟨c, hc', _⟩ := cut_of hk hr ((up0_under hn (under_name (hk.und r hr.1))).1 hru)
      rw [hc] at hc'; cases hc'
    · unfold askV askW
      rw [if_pos h, hc]
      simp only
      split
      · simp
      · split
        · simp
        · split <;> simp
  | some c =>
    right
    obtain ⟨h1, h2⟩ := cut_is hc
    have hcn := under_name (hk.und c h1.1)
    have huc := (up0_under hn hcn).2 h2
    refine ⟨cuts_iff.2 ⟨c, h1, huc⟩, c, ?_, h1.1, huc, ?_⟩
    · unfold askV askW
      rw [if_pos h, hc]
    · have hf := hk.form c h1.1
      have hd : 0 ≤ digV c.V ∧ digV c.V ≤ 7 := by
        obtain ⟨d, hd, h3, h4⟩ := form_ns hf h1.2.1
        have e : digV c.V = (d.toNat : Int) - 48 := by rw [hd]; rfl
        rw [e]
        omega
      refine ⟨hd.1, hd.2, fun r hr hrk hra hrc hur => ?_⟩
      have hrn := under_name (hk.und r hr)
      have hcr : belowB c.N r.N = true := (((up0_under hcn hrn).1 hur).resolve_left (fun e => hrc e.symm))
      have hnr : Up0 n r.N := by
        rcases h2 with h2 | h2
        · rw [h2]; exact .inr hcr
        · exact .inr (below_trans h2 hcr)
      obtain ⟨c', hc', hup⟩ := cut_of hk ⟨hr, hrk, hra⟩ hnr
      rw [hc] at hc'
      cases hc'
      have := below_lt hcr
      rcases hup with h3 | h3
      · rw [h3] at this; omega
      · have := below_lt h3; omega
theorem zcuts_ok (a : Bs) (l : List Rec) (n : Bs) (k : Int) : Meets Tryd.prog 6 [zoneA a l, (false, [vS n]), (false, [vI k])] (rOne (vB true)) := by
  refine meets Tryd.func6 rfl rfl Tryd.ntmps6 Tryd.results6 rfl ?_
  simp -dsimp -implicitDefEqProofs only [go_sem, ↓reduceIte, reduceCtorEq, Nat.reduceLT, Nat.reduceLeDiff, Nat.reduceEqDiff, Nat.reduceAdd, Nat.reduceMul, Nat.reduceSub, Nat.reduceBEq, Int.reduceLT, Int.reduceLE, Int.reduceEq, Int.reduceBEq, Int.reduceNeg]
  refine callP live_ok ?_
  simp -dsimp -implicitDefEqProofs only [go_sem, ↓reduceIte, reduceCtorEq, Nat.reduceLT, Nat.reduceLeDiff, Nat.reduceEqDiff, Nat.reduceAdd, Nat.reduceMul, Nat.reduceSub, Nat.reduceBEq, Int.reduceLT, Int.reduceLE, Int.reduceEq, Int.reduceBEq, Int.reduceNeg]
  refine callP (few_ok a l) ?_
  simp -dsimp -implicitDefEqProofs only [go_sem, ↓reduceIte, reduceCtorEq, Nat.reduceLT, Nat.reduceLeDiff, Nat.reduceEqDiff, Nat.reduceAdd, Nat.reduceMul, Nat.reduceSub, Nat.reduceBEq, Int.reduceLT, Int.reduceLE, Int.reduceEq, Int.reduceBEq, Int.reduceNeg]
  intro hf hn
  refine callP (ask_ok a l n k (by omega)) ?_
  by_cases h0 : askE a l n k = 0
  · have hR := askV_len a l n k
    obtain ⟨hk, hl, hnm, hu⟩ := ask_parts h0
    simp -dsimp -implicitDefEqProofs only [h0, go_sem, ↓reduceIte, reduceCtorEq, Nat.reduceLT, Nat.reduceLeDiff, Nat.reduceEqDiff, Nat.reduceAdd, Nat.reduceMul, Nat.reduceSub, Nat.reduceBEq, Int.reduceLT, Int.reduceLE, Int.reduceEq, Int.reduceBEq, Int.reduceNeg]
    refine vfreeze 120 rfl (vfreeze 152 rfl ?_)
    have hlaw := cuts_law h0
    generalize askV a l n k = x at *
    simp -dsimp -implicitDefEqProofs only [go_sem, ↓reduceIte, reduceCtorEq, Nat.reduceLT, Nat.reduceLeDiff, Nat.reduceEqDiff, Nat.reduceAdd, Nat.reduceMul, Nat.reduceSub, Nat.reduceBEq, Int.reduceLT, Int.reduceLE, Int.reduceEq, Int.reduceBEq, Int.reduceNeg]
    refine vfor sitOk (ι := CwInv l) (fun v => ⟨147, [(10, aI v.i), (9, aB (cutsB a n (l.take v.i))), (7, aP 152 0), (3, aP 0 0), (1, aS n), (2, aI k)], [(152, some (.var [cI x.K, cD (recsD x.R), cI x.T, cS x.A] false)), (0, some (.var [cS a, cD (recsD l)] true))], 300⟩) (fun v => l.length - v.i) ⟨0, by omega⟩ ?_ ?_
    · simp -dsimp -implicitDefEqProofs only [go_sem, ↓reduceIte, reduceCtorEq, Nat.reduceLT, Nat.reduceLeDiff, Nat.reduceEqDiff, Nat.reduceAdd, Nat.reduceMul, Nat.reduceSub, Nat.reduceBEq, Int.reduceLT, Int.reduceLE, Int.reduceEq, Int.reduceBEq, Int.reduceNeg]
      rfl
    intro ⟨i, hi⟩
    simp -dsimp -implicitDefEqProofs only [go_sem, ↓reduceIte, reduceCtorEq, Nat.reduceLT, Nat.reduceLeDiff, Nat.reduceEqDiff, Nat.reduceAdd, Nat.reduceMul, Nat.reduceSub, Nat.reduceBEq, Int.reduceLT, Int.reduceLE, Int.reduceEq, Int.reduceBEq, Int.reduceNeg]
    refine ⟨fun hlt => ?_, fun hge => ?_⟩
    · have hil : i < l.length := by omega
      obtain ⟨r, hx⟩ : ∃ r, l[i]? = some r := ⟨_, List.getElem?_eq_getElem hil⟩
      have hw := wrapS hil (by omega)
      have hst : cutsB a n (l.take (i + 1)) = (cutsB a n (l.take i) || (r.K == 3 && r.N != a && underB n r.N)) := by
        unfold cutsB; rw [List.take_add_one, hx]; simp
      simp -dsimp -implicitDefEqProofs only [hx, forall_eq', hw, go_sem, ↓reduceIte, reduceCtorEq, Nat.reduceLT, Nat.reduceLeDiff, Nat.reduceEqDiff, Nat.reduceAdd, Nat.reduceMul, Nat.reduceSub, Nat.reduceBEq, Int.reduceLT, Int.reduceLE, Int.reduceEq, Int.reduceBEq, Int.reduceNeg]
      refine ⟨by omega, hil, fun hc => ⟨fun hK => ⟨fun hN => callP (under_ok _ _) ?_, fun hN => ?_⟩, fun hK => ?_⟩, fun hc => ?_⟩
      · have e : cutsB a n (l.take (i + 1)) = underB n r.N := by rw [hst, hc]; simp [hK, hN]
        simp -dsimp -implicitDefEqProofs only [go_sem, ↓reduceIte, reduceCtorEq, Nat.reduceLT, Nat.reduceLeDiff, Nat.reduceEqDiff, Nat.reduceAdd, Nat.reduceMul, Nat.reduceSub, Nat.reduceBEq, Int.reduceLT, Int.reduceLE, Int.reduceEq, Int.reduceBEq, Int.reduceNeg]
        refine again ⟨i + 1, by omega⟩ (by simp; omega) ?_
        simp -dsimp -implicitDefEqProofs only [hw, e, go_sem, ↓reduceIte, reduceCtorEq, Nat.reduceLT, Nat.reduceLeDiff, Nat.reduceEqDiff, Nat.reduceAdd, Nat.reduceMul, Nat.reduceSub, Nat.reduceBEq, Int.reduceLT, Int.reduceLE, Int.reduceEq, Int.reduceBEq, Int.reduceNeg]
      · have e : cutsB a n (l.take (i + 1)) = false := by rw [hst, hc]; simp [hN]
        refine again ⟨i + 1, by omega⟩ (by simp; omega) ?_
        simp -dsimp -implicitDefEqProofs only [hw, e, hN, go_sem, ↓reduceIte, reduceCtorEq, Nat.reduceLT, Nat.reduceLeDiff, Nat.reduceEqDiff, Nat.reduceAdd, Nat.reduceMul, Nat.reduceSub, Nat.reduceBEq, Int.reduceLT, Int.reduceLE, Int.reduceEq, Int.reduceBEq, Int.reduceNeg]
      · have e : cutsB a n (l.take (i + 1)) = false := by rw [hst, hc]; simp [hK]
        refine again ⟨i + 1, by omega⟩ (by simp; omega) ?_
        simp -dsimp -implicitDefEqProofs only [hw, e, hK, go_sem, ↓reduceIte, reduceCtorEq, Nat.reduceLT, Nat.reduceLeDiff, Nat.reduceEqDiff, Nat.reduceAdd, Nat.reduceMul, Nat.reduceSub, Nat.reduceBEq, Int.reduceLT, Int.reduceLE, Int.reduceEq, Int.reduceBEq, Int.reduceNeg]
      · have e : cutsB a n (l.take (i + 1)) = true := by rw [hst, hc]; rfl
        refine again ⟨i + 1, by omega⟩ (by simp; omega) ?_
        simp -dsimp -implicitDefEqProofs only [hw, e, go_sem, ↓reduceIte, reduceCtorEq, Nat.reduceLT, Nat.reduceLeDiff, Nat.reduceEqDiff, Nat.reduceAdd, Nat.reduceMul, Nat.reduceSub, Nat.reduceBEq, Int.reduceLT, Int.reduceLE, Int.reduceEq, Int.reduceBEq, Int.reduceNeg]
    · have hil : i = l.length := by omega
      subst hil
      rw [List.take_length] at *
      rcases hlaw with ⟨hc, hK⟩ | ⟨hc, c, rfl, hcl, huc, hd1, hd2, hno⟩
      · simp -dsimp -implicitDefEqProofs only [hc, hK, go_sem, ↓reduceIte, reduceCtorEq, Nat.reduceLT, Nat.reduceLeDiff, Nat.reduceEqDiff, Nat.reduceAdd, Nat.reduceMul, Nat.reduceSub, Nat.reduceBEq, Int.reduceLT, Int.reduceLE, Int.reduceEq, Int.reduceBEq, Int.reduceNeg]
      · simp -dsimp -implicitDefEqProofs only [hc, go_sem, ↓reduceIte, reduceCtorEq, Nat.reduceLT, Nat.reduceLeDiff, Nat.reduceEqDiff, Nat.reduceAdd, Nat.reduceMul, Nat.reduceSub, Nat.reduceBEq, Int.reduceLT, Int.reduceLE, Int.reduceEq, Int.reduceBEq, Int.reduceNeg]
        refine ⟨fun _ => ⟨fun _ y hy => ?_, by omega⟩, by omega⟩
        subst hy
        refine callP (under_ok n c.N) ?_
        simp -dsimp -implicitDefEqProofs only [huc, go_sem, ↓reduceIte, reduceCtorEq, Nat.reduceLT, Nat.reduceLeDiff, Nat.reduceEqDiff, Nat.reduceAdd, Nat.reduceMul, Nat.reduceSub, Nat.reduceBEq, Int.reduceLT, Int.reduceLE, Int.reduceEq, Int.reduceBEq, Int.reduceNeg]
        refine callP (has_ok l c (by omega)) ?_
        simp -dsimp -implicitDefEqProofs only [hcl, go_sem, ↓reduceIte, reduceCtorEq, Nat.reduceLT, Nat.reduceLeDiff, Nat.reduceEqDiff, Nat.reduceAdd, Nat.reduceMul, Nat.reduceSub, Nat.reduceBEq, Int.reduceLT, Int.reduceLE, Int.reduceEq, Int.reduceBEq, Int.reduceNeg]
        refine ⟨drawn (by kernel_rfl), ?_⟩
        refine vfor sitOk (ι := CwInv l) (fun v => ⟨147, [(12, aI v.i), (7, aP 152 0), (3, aP 0 0)], [(152, some (.var [cI 4, cD (recsD [c]), cI (digV c.V), cS []] false)), (0, some (.var [cS a, cD (recsD l)] true))], 700⟩) (fun v => l.length - v.i) ⟨0, by omega⟩ ?_ ?_
        · simp -dsimp -implicitDefEqProofs only [go_sem, ↓reduceIte, reduceCtorEq, Nat.reduceLT, Nat.reduceLeDiff, Nat.reduceEqDiff, Nat.reduceAdd, Nat.reduceMul, Nat.reduceSub, Nat.reduceBEq, Int.reduceLT, Int.reduceLE, Int.reduceEq, Int.reduceBEq, Int.reduceNeg]
        intro ⟨i, hi⟩
        simp -dsimp -implicitDefEqProofs only [go_sem, ↓reduceIte, reduceCtorEq, Nat.reduceLT, Nat.reduceLeDiff, Nat.reduceEqDiff, Nat.reduceAdd, Nat.reduceMul, Nat.reduceSub, Nat.reduceBEq, Int.reduceLT, Int.reduceLE, Int.reduceEq, Int.reduceBEq, Int.reduceNeg]
        intro hlt
        have hil : i < l.length := by omega
        obtain ⟨r, hx⟩ : ∃ r, l[i]? = some r := ⟨_, List.getElem?_eq_getElem hil⟩
        have hw := wrapS hil (by omega)
        repeat' (first | with_reducible apply And.intro | with_reducible intro _ | with_reducible exact drawn (by kernel_rfl) | (refine callP (under_ok _ _) ?_; simp -dsimp -implicitDefEqProofs only [hx, forall_eq', hw, go_sem, ↓reduceIte, reduceCtorEq, Nat.reduceLT, Nat.reduceLeDiff, Nat.reduceEqDiff, Nat.reduceAdd, Nat.reduceMul, Nat.reduceSub, Nat.reduceBEq, Int.reduceLT, Int.reduceLE, Int.reduceEq, Int.reduceBEq, Int.reduceNeg]) | omega)
        all_goals first
          | (refine again ⟨i + 1, by omega⟩ (by simp; omega) ?_
             simp -dsimp -implicitDefEqProofs only [hw, go_sem, ↓reduceIte, reduceCtorEq, Nat.reduceLT, Nat.reduceLeDiff, Nat.reduceEqDiff, Nat.reduceAdd, Nat.reduceMul, Nat.reduceSub, Nat.reduceBEq, Int.reduceLT, Int.reduceLE, Int.reduceEq, Int.reduceBEq, Int.reduceNeg]
             done)
          | exact hno _ (List.mem_of_getElem? (by assumption)) (by assumption) (by assumption) (by assumption) (by assumption)
  · simp -dsimp -implicitDefEqProofs only [h0, go_sem, ↓reduceIte, reduceCtorEq, Nat.reduceLT, Nat.reduceLeDiff, Nat.reduceEqDiff, Nat.reduceAdd, Nat.reduceMul, Nat.reduceSub, Nat.reduceBEq, Int.reduceLT, Int.reduceLE, Int.reduceEq, Int.reduceBEq, Int.reduceNeg]
end Go.Proofs.YtfgejhlgenaniaaDoor
