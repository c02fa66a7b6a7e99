/- Of any steps, as time goes on, from a fence of nothing: a number is taken just if it was told, was not taken already, and is not too old; it is told once: the row 'NonceOnceSaid', for every input. -/
import Derived.Test.YtmkolmgpcmceaaaL4
import Derived.Test.YtmkolmgpcmceaaaL5
namespace Go.Proofs.Ytmkolmgpcmceaaa
open Go.Eng
set_option linter.unusedSimpArgs false
set_option maxRecDepth 10000

/-- A step. -/
structure Sp where
  K : Int
  N : Int
  B : Int
  deriving DecidableEq
def Sp.cells (x : Sp) : List D := [dI x.K, dI x.N, dI x.B]
attribute [go_sem] Sp.cells
abbrev spsD (l : List Sp) : D := .vec 3 (l.map Sp.cells)

/-- What the loop over what was told finds. -/
def openV (N : Int) (o : Int) (t : List No) : Int := t.foldl (fun o x => if x.N = N then x.U else o) o
theorem openV_spec {N : Int} : ∀ (t : List No) (o : Int), (∃ x ∈ t, x.N = N ∧ openV N o t = x.U) ∨ ((∀ x ∈ t, x.N ≠ N) ∧ openV N o t = o)
  | [], o => .inr ⟨by simp, rfl⟩
  | x :: r, o => by
    rcases openV_spec r (if x.N = N then x.U else o) with ⟨y, hy, h1, h2⟩ | ⟨h1, h2⟩
    · exact .inl ⟨y, by simp [hy], h1, h2⟩
    · by_cases hx : x.N = N
      · rw [if_pos hx] at h2
        exact .inl ⟨x, by simp, hx, by show openV N (if x.N = N then x.U else o) r = _; rw [if_pos hx]; exact h2⟩
      · rw [if_neg hx] at h2
        exact .inr ⟨by simpa [hx] using h1, by show openV N (if x.N = N then x.U else o) r = _; rw [if_neg hx]; exact h2⟩
theorem openV_take {N : Int} {t : List No} {k : Nat} {x : No} (h : t[k]? = some x) : openV N (-1) (t.take (k + 1)) = if x.N = N then x.U else openV N (-1) (t.take k) := by
  rw [List.take_add_one, h]
  simp [openV]

/-- What a fence of nothing has become, and what was told. -/
structure Sound (now : Int) (fl tl : List No) : Prop where
  n0 : 0 ≤ now
  n1 : now ≤ 1000000
  ck : checkV tl.length fl = 0
  nm : ∀ (k : Nat) (x : No), tl[k]? = some x → x.N = k
  mem : ∀ x ∈ fl, x ∈ tl
  live : ∀ x ∈ tl, now ≤ x.U → x ∈ fl

theorem Sound.uniq {now : Int} {fl tl : List No} (h : Sound now fl tl) {x y : No} (hx : x ∈ tl) (hy : y ∈ tl) (e : x.N = y.N) : x = y := by
  obtain ⟨i, hi⟩ := List.getElem?_of_mem hx
  obtain ⟨j, hj⟩ := List.getElem?_of_mem hy
  have h1 := h.nm i x hi
  have h2 := h.nm j y hj
  have : i = j := by omega
  subst this
  rw [hi] at hj; cases hj; rfl

theorem Sound.time {now : Int} {fl tl : List No} (h : Sound now fl tl) : timeB now = true := by
  have := h.n0; have := h.n1; simp [timeB]; omega

theorem Sound.later {now now' : Int} {fl tl : List No} (h : Sound now fl tl) (h1 : now ≤ now') (h2 : now' ≤ 1000000) : Sound now' fl tl :=
  ⟨by have := h.n0; omega, h2, h.ck, h.nm, h.mem, fun x hx hu => h.live x hx (by omega)⟩

theorem Sound.any {now : Int} {fl tl : List No} (h : Sound now fl tl) (N : Int) : fl.any (hitB N now) = decide (now ≤ openV N (-1) tl) := by
  have h0 := h.n0
  rcases openV_spec (N := N) tl (-1) with ⟨x, hx, h1, h2⟩ | ⟨h1, h2⟩
  · rw [h2]
    by_cases hu : now ≤ x.U
    · rw [decide_eq_true hu]
      exact List.any_eq_true.2 ⟨x, h.live x hx hu, by simp [hitB, h1, hu]⟩
    · rw [decide_eq_false hu, List.any_eq_false]
      intro y hy
      by_cases hyN : y.N = N
      · have := h.uniq (h.mem y hy) hx (hyN.trans h1.symm)
        subst this
        simp [hitB]; omega
      · simp [hitB, hyN]
  · rw [h2, decide_eq_false (by omega), List.any_eq_false]
    intro y hy
    simp [hitB, h1 y (h.mem y hy)]

def gone (N : Int) (x : No) : No := if x.N = N then ⟨x.N, -1⟩ else x

theorem Sound.used {now : Int} {fl tl : List No} (h : Sound now fl tl) {N : Int} (ha : fl.any (hitB N now) = true) : Sound now (fl.filter fun x => !hitB N now x) (tl.map (gone N)) := by
  have h0 := h.n0
  refine ⟨h0, h.n1, by rw [List.length_map]; exact checkV_filter _ h.ck, fun k x hx => ?_, fun x hx => ?_, fun x hx hu => ?_⟩
  · rw [List.getElem?_map, Option.map_eq_some_iff] at hx
    obtain ⟨y, hy, rfl⟩ := hx
    have := h.nm k y hy
    unfold gone; split <;> exact this
  · obtain ⟨h1, h2⟩ := List.mem_filter.1 hx
    have h3 : x.N ≠ N := by
      intro e
      have ho := (checkV_zero h.ck).2.1
      rw [hit_is ho ha] at hx
      have := (List.mem_filter.1 hx).2
      simp [e] at this
    exact List.mem_map.2 ⟨x, h.mem x h1, by simp [gone, h3]⟩
  · obtain ⟨y, hy, rfl⟩ := List.mem_map.1 hx
    unfold gone at hu ⊢
    split
    · rename_i e; rw [if_pos e] at hu; simp only at hu; omega
    · rename_i e
      rw [if_neg e] at hu
      exact List.mem_filter.2 ⟨h.live y hy hu, by simp [hitB, e]⟩

theorem Sound.trimmed {now : Int} {fl tl : List No} (h : Sound now fl tl) : Sound now (fl.filter (keepB now)) tl :=
  ⟨h.n0, h.n1, checkV_filter _ h.ck, h.nm, fun x hx => h.mem x (List.mem_filter.1 hx).1, fun x hx hu => List.mem_filter.2 ⟨h.live x hx hu, by simp [keepB]; omega⟩⟩

theorem Sound.told {now life : Int} {fl tl : List No} (h : Sound now fl tl) (h3 : 1 ≤ life) (h4 : now + life ≤ 1099511627776) (h5 : (fl.filter (keepB now)).length < 64) (h6 : (tl.length : Int) < 1099511627776) :
    Sound now (fl.filter (keepB now) ++ [(⟨tl.length, now + life⟩ : No)]) (tl ++ [(⟨tl.length, now + life⟩ : No)]) := by
  refine ⟨h.n0, h.n1, ?_, fun k x hx => ?_, fun x hx => ?_, fun x hx hu => ?_⟩
  · have := (told_law (thn := now) h.ck h.time h3 h4 h5 h6).1
    simpa using this
  · by_cases hk : k < tl.length
    · rw [List.getElem?_append_left hk] at hx; exact h.nm k x hx
    · rw [List.getElem?_append_right (by omega)] at hx
      by_cases he : k - tl.length = 0
      · rw [he] at hx; simp at hx; subst hx; simp only; omega
      · rw [List.getElem?_eq_none (by simp; omega)] at hx; cases hx
  · rcases List.mem_append.1 hx with hx | hx
    · exact List.mem_append.2 (.inl (h.mem x (List.mem_filter.1 hx).1))
    · exact List.mem_append.2 (.inr hx)
  · rcases List.mem_append.1 hx with hx | hx
    · exact List.mem_append.2 (.inl (List.mem_filter.2 ⟨h.live x hx hu, by simp [keepB]; omega⟩))
    · exact List.mem_append.2 (.inr hx)

structure OnInv (l : List Sp) where
  i : Nat
  now : Int
  fl : List No
  tl : List No
  le : i ≤ l.length
  nb : now ≤ 1000 * i
  tn : tl.length ≤ i
  so : Sound now fl tl

structure OpInv (t : List No) where
  k : Nat
  le : k ≤ t.length

structure GnInv (N : Int) (t : List No) where
  k : Nat
  R : List No
  le : k ≤ t.length
  len : R.length = t.length
  eq : R = (t.take k).map (gone N) ++ t.drop k

theorem gone_at {N : Int} {t R : List No} {j : Nat} {y : No} (h : R = (t.take j).map (gone N) ++ t.drop j) (hy : R[j]? = some y) : t[j]? = some y ∧ t.drop j = y :: t.drop (j + 1) := by
  have hj : j < t.length := by
    have := (List.getElem?_eq_some_iff.1 hy).1
    rw [h] at this; simp at this; omega
  have hl : ((t.take j).map (gone N)).length = j := by simp; omega
  have : t[j]? = some y := by
    rw [h, List.getElem?_append_right (by omega), hl, Nat.sub_self, List.getElem?_drop] at hy
    simpa using hy
  exact ⟨this, drop_at this⟩
theorem gone_keep {N : Int} {t R : List No} {j : Nat} {y : No} (h : R = (t.take j).map (gone N) ++ t.drop j) (hy : R[j]? = some y) (c : ¬ y.N = N) : R = (t.take (j + 1)).map (gone N) ++ t.drop (j + 1) := by
  obtain ⟨h1, h2⟩ := gone_at h hy
  rw [h, h2, List.take_add_one, h1]
  simp [gone, c]
theorem gone_set {N : Int} {t R : List No} {j : Nat} {y : No} (h : R = (t.take j).map (gone N) ++ t.drop j) (hy : R[j]? = some y) : R.set j (gone N y) = (t.take (j + 1)).map (gone N) ++ t.drop (j + 1) := by
  obtain ⟨h1, h2⟩ := gone_at h hy
  have hj : j < t.length := (List.getElem?_eq_some_iff.1 h1).1
  have hl : ((t.take j).map (gone N)).length = j := by simp; omega
  have hs : ∀ (zs : List No), (((t.take j).map (gone N)) ++ zs).set j (gone N y) = (t.take j).map (gone N) ++ zs.set 0 (gone N y) := fun zs => by
    rw [List.set_append, if_neg (by omega), hl, Nat.sub_self]
  rw [h, h2, List.take_add_one, h1, hs]
  simp
theorem gone_cells {N : Int} {y : No} (c : y.N = N) {R : List No} {j : Nat} : (R.set j (gone N y)).map No.cells = (R.map No.cells).set j [dI y.N, dI (-1)] := by
  rw [List.map_set]; simp [gone, c, No.cells]

theorem once_ok (l : List Sp) (hbd : ∀ x ∈ l, -9223372036854775808 ≤ x.N ∧ x.N ≤ 9223372036854775807) : Meets Try.prog 5 [(false, [vD (spsD l)])] (rOne (vB true)) := by
  refine meets Try.func5 rfl rfl Try.ntmps5 Try.results5 rfl ?_
  simp -dsimp -implicitDefEqProofs only [go_sem, ↓reduceIte, reduceCtorEq, Nat.reduceLT, Nat.reduceLeDiff, Nat.reduceEqDiff, Nat.reduceAdd, Nat.reduceMul, Nat.reduceSub, Nat.reduceBEq, Int.reduceLT, Int.reduceLE, Int.reduceEq, Int.reduceBEq, Int.reduceNeg]
  refine callP live_ok ?_
  simp -dsimp -implicitDefEqProofs only [go_sem, ↓reduceIte, reduceCtorEq, Nat.reduceLT, Nat.reduceLeDiff, Nat.reduceEqDiff, Nat.reduceAdd, Nat.reduceMul, Nat.reduceSub, Nat.reduceBEq, Int.reduceLT, Int.reduceLE, Int.reduceEq, Int.reduceBEq, Int.reduceNeg]
  intro hl
  refine vdata 56 1 ?_
  simp -dsimp -implicitDefEqProofs only [go_sem, ↓reduceIte, reduceCtorEq, Nat.reduceLT, Nat.reduceLeDiff, Nat.reduceEqDiff, Nat.reduceAdd, Nat.reduceMul, Nat.reduceSub, Nat.reduceBEq, Int.reduceLT, Int.reduceLE, Int.reduceEq, Int.reduceBEq, Int.reduceNeg]
  refine vownE 4 41 rfl ?_
  refine vfor sitOk (ι := OnInv l) (fun v => ⟨145, [(6, aI v.i), (5, aI v.now), (4, aO 96), (3, aP 56 0), (2, aB false), (0, aD (spsD l))], [(56, some (.var [cI v.tl.length, cD (nosD v.fl)] true)), (96, some (.row 2 41 (v.tl.map No.cells) true))], 97⟩) (fun v => l.length - v.i)
    ⟨0, 0, [], [], by omega, by omega, by simp, ⟨by omega, by omega, by kernel_rfl, by simp, by simp, by simp⟩⟩ ?_ ?_
  · simp -dsimp -implicitDefEqProofs only [go_sem, ↓reduceIte, reduceCtorEq, Nat.reduceLT, Nat.reduceLeDiff, Nat.reduceEqDiff, Nat.reduceAdd, Nat.reduceMul, Nat.reduceSub, Nat.reduceBEq, Int.reduceLT, Int.reduceLE, Int.reduceEq, Int.reduceBEq, Int.reduceNeg]
  intro ⟨i, now, fl, tl, hi, hnb, htn, hso⟩
  have hn0 := hso.n0
  simp -dsimp -implicitDefEqProofs only [go_sem, ↓reduceIte, reduceCtorEq, Nat.reduceLT, Nat.reduceLeDiff, Nat.reduceEqDiff, Nat.reduceAdd, Nat.reduceMul, Nat.reduceSub, Nat.reduceBEq, Int.reduceLT, Int.reduceLE, Int.reduceEq, Int.reduceBEq, Int.reduceNeg]
  refine fun hlt => ⟨by omega, by omega, fun x hx => ?_⟩
  · obtain ⟨by_, hby⟩ : ∃ b : Int, b = (if (1000 : Int) < (if x.B < 0 then 0 else x.B) then 1000 else if x.B < 0 then 0 else x.B) := ⟨_, rfl⟩
    have hb0 : 0 ≤ by_ ∧ by_ ≤ 1000 := by rw [hby]; split <;> split <;> omega
    have hw : IntKind.i64.wrap (now + by_) = now + by_ := by rw [wrap64] <;> omega
    have hso' : Sound (now + by_) fl tl := hso.later (by omega) (by omega)
    rw [← hby, hw]
    obtain ⟨nw, hnw⟩ : ∃ b : Int, b = now + by_ := ⟨_, rfl⟩
    rw [← hnw] at hso' ⊢
    refine vfor sitOk (ι := OpInv tl) (fun v => ⟨145, [(9, aI v.k), (8, aI (openV x.N (-1) (tl.take v.k))), (7, aP 161 0), (6, aI i), (5, aI nw), (4, aO 96), (3, aP 56 0), (2, aB false), (0, aD (spsD l))],
      [(161, some (.var [cI x.K, cI x.N, cI x.B] true)), (56, some (.var [cI tl.length, cD (nosD fl)] true)), (96, some (.row 2 41 (tl.map No.cells) true))], 249⟩) (fun v => tl.length - v.k) ⟨0, by omega⟩ ?_ ?_
    · simp -dsimp -implicitDefEqProofs only [go_sem, ↓reduceIte, reduceCtorEq, Nat.reduceLT, Nat.reduceLeDiff, Nat.reduceEqDiff, Nat.reduceAdd, Nat.reduceMul, Nat.reduceSub, Nat.reduceBEq, Int.reduceLT, Int.reduceLE, Int.reduceEq, Int.reduceBEq, Int.reduceNeg]
      simp [openV]
    intro ⟨k, hk⟩
    simp -dsimp -implicitDefEqProofs only [go_sem, ↓reduceIte, reduceCtorEq, Nat.reduceLT, Nat.reduceLeDiff, Nat.reduceEqDiff, Nat.reduceAdd, Nat.reduceMul, Nat.reduceSub, Nat.reduceBEq, Int.reduceLT, Int.reduceLE, Int.reduceEq, Int.reduceBEq, Int.reduceNeg]
    have hxN := hbd x (List.mem_of_getElem? hx)
    have htt : tl.take tl.length = tl := List.take_of_length_le (Nat.le_refl _)
    have hil : i < l.length := by omega
    have hnext : ∀ nw', nw' = nw → (i + 1 : Nat) ≤ l.length ∧ nw' ≤ 1000 * ((i + 1 : Nat) : Int) := fun _ e => ⟨hil, by rw [e]; omega⟩
    have hwi := wrapS hil (by omega)
    have hfl64 := (checkV_zero hso'.ck).2.2
    refine ⟨fun hlt => ⟨⟨by omega, by omega⟩, by omega, fun y hy => ⟨drawn (by kernel_rfl), fun c => ⟨⟨by omega, by omega⟩, by omega, fun z hz => ?_⟩, fun c => ?_⟩⟩, fun hge => ⟨fun c0 => ?_, fun c0 => ⟨fun c1 => ?_, fun c1 => ⟨fun c2 => ?_, fun c2 => ?_⟩⟩⟩⟩
    · rw [hy] at hz; cases hz
      refine again ⟨k + 1, by omega⟩ (by simp; omega) ?_
      simp -dsimp -implicitDefEqProofs only [openV_take hy, if_pos c, wrapS (show k < tl.length by omega) (show tl.length ≤ 4611686018427387904 by omega), go_sem, ↓reduceIte, reduceCtorEq, Nat.reduceLT, Nat.reduceLeDiff, Nat.reduceEqDiff, Nat.reduceAdd, Nat.reduceMul, Nat.reduceSub, Nat.reduceBEq, Int.reduceLT, Int.reduceLE, Int.reduceEq, Int.reduceBEq, Int.reduceNeg]
    · refine again ⟨k + 1, by omega⟩ (by simp; omega) ?_
      simp -dsimp -implicitDefEqProofs only [openV_take hy, if_neg c, wrapS (show k < tl.length by omega) (show tl.length ≤ 4611686018427387904 by omega), go_sem, ↓reduceIte, reduceCtorEq, Nat.reduceLT, Nat.reduceLeDiff, Nat.reduceEqDiff, Nat.reduceAdd, Nat.reduceMul, Nat.reduceSub, Nat.reduceBEq, Int.reduceLT, Int.reduceLE, Int.reduceEq, Int.reduceBEq, Int.reduceNeg]
    · have hkt : tl.take k = tl := List.take_of_length_le (by omega)
      rcases tell_inv (rfl : tellV tl.length fl nw x.N = _) with ⟨e1, e2, e3⟩ | ⟨ha, h1, h2, h3, h4, h5, h6⟩
      · obtain ⟨⟨a1, a2, a3, a4⟩, ha⟩ : ∃ a, tellV tl.length fl nw x.N = a := ⟨_, rfl⟩
        rw [ha] at e1 e2 e3
        simp only at e1 e2 e3
        subst e2; subst e3
        refine callP (ha ▸ tell_ok tl.length fl nw x.N (by omega)) ?_
        simp -dsimp -implicitDefEqProofs only [go_sem, ↓reduceIte, reduceCtorEq, Nat.reduceLT, Nat.reduceLeDiff, Nat.reduceEqDiff, Nat.reduceAdd, Nat.reduceMul, Nat.reduceSub, Nat.reduceBEq, Int.reduceLT, Int.reduceLE, Int.reduceEq, Int.reduceBEq, Int.reduceNeg]
        refine ⟨fun _ => ?_, fun h => absurd h e1⟩
        refine again ⟨i + 1, nw, fl, tl, (hnext _ rfl).1, (hnext _ rfl).2, by omega, hso'⟩ (by simp; omega) ?_
        simp -dsimp -implicitDefEqProofs only [hwi, go_sem, ↓reduceIte, reduceCtorEq, Nat.reduceLT, Nat.reduceLeDiff, Nat.reduceEqDiff, Nat.reduceAdd, Nat.reduceMul, Nat.reduceSub, Nat.reduceBEq, Int.reduceLT, Int.reduceLE, Int.reduceEq, Int.reduceBEq, Int.reduceNeg]
      · refine callP (ha ▸ tell_ok tl.length fl nw x.N (by omega)) ?_
        simp -dsimp -implicitDefEqProofs only [go_sem, ↓reduceIte, reduceCtorEq, Nat.reduceLT, Nat.reduceLeDiff, Nat.reduceEqDiff, Nat.reduceAdd, Nat.reduceMul, Nat.reduceSub, Nat.reduceBEq, Int.reduceLT, Int.reduceLE, Int.reduceEq, Int.reduceBEq, Int.reduceNeg]
        refine vfor sitOk (ι := OpInv tl) (fun v => ⟨145, [(13, aI v.k), (12, aI 0), (11, aI tl.length), (10, aP 385 0), (7, aP 161 0), (6, aI i), (5, aI nw), (4, aO 96), (3, aP 56 0), (2, aB false), (0, aD (spsD l))],
          [(385, some (.var [cI (tl.length + 1), .own 345] true)), (345, some (.row 2 41 ((fl.filter (keepB nw) ++ [(⟨tl.length, nw + x.N⟩ : No)]).map No.cells) true)), (161, some (.var [cI x.K, cI x.N, cI x.B] true)), (56, some (.var [cI tl.length, cD (nosD fl)] true)), (96, some (.row 2 41 (tl.map No.cells) true))], 441⟩) (fun v => tl.length - v.k) ⟨0, by omega⟩ ?_ ?_
        · simp -dsimp -implicitDefEqProofs only [go_sem, ↓reduceIte, reduceCtorEq, Nat.reduceLT, Nat.reduceLeDiff, Nat.reduceEqDiff, Nat.reduceAdd, Nat.reduceMul, Nat.reduceSub, Nat.reduceBEq, Int.reduceLT, Int.reduceLE, Int.reduceEq, Int.reduceBEq, Int.reduceNeg]
        intro ⟨j, hj⟩
        simp -dsimp -implicitDefEqProofs only [go_sem, ↓reduceIte, reduceCtorEq, Nat.reduceLT, Nat.reduceLeDiff, Nat.reduceEqDiff, Nat.reduceAdd, Nat.reduceMul, Nat.reduceSub, Nat.reduceBEq, Int.reduceLT, Int.reduceLE, Int.reduceEq, Int.reduceBEq, Int.reduceNeg]
        refine ⟨fun hlt => ⟨⟨by omega, by omega⟩, by omega, fun y hy => ⟨fun c => ?_, fun c => ?_⟩⟩, fun hge => ?_⟩
        · have := hso'.nm j y hy
          have := (List.getElem?_eq_some_iff.1 hy).1
          omega
        · refine again ⟨j + 1, by omega⟩ (by simp; omega) ?_
          simp -dsimp -implicitDefEqProofs only [wrapS (show j < tl.length by omega) (show tl.length ≤ 4611686018427387904 by omega), go_sem, ↓reduceIte, reduceCtorEq, Nat.reduceLT, Nat.reduceLeDiff, Nat.reduceEqDiff, Nat.reduceAdd, Nat.reduceMul, Nat.reduceSub, Nat.reduceBEq, Int.reduceLT, Int.reduceLE, Int.reduceEq, Int.reduceBEq, Int.reduceNeg]
        · have hwl : IntKind.i64.wrap (nw + x.N) = nw + x.N := by rw [wrap64] <;> omega
          refine ⟨⟨by omega, by omega⟩, ?_⟩
          have htd := hso'.told h3 h4 h5 h6
          have hck := (told_law (thn := nw) h1 h2 h3 h4 h5 h6).1
          refine callP (hck ▸ check_ok (tl.length + 1) (fl.filter (keepB nw) ++ [(⟨tl.length, nw + x.N⟩ : No)]) (by simp; omega)) ?_
          simp -dsimp -implicitDefEqProofs only [hwl, go_sem, ↓reduceIte, reduceCtorEq, Nat.reduceLT, Nat.reduceLeDiff, Nat.reduceEqDiff, Nat.reduceAdd, Nat.reduceMul, Nat.reduceSub, Nat.reduceBEq, Int.reduceLT, Int.reduceLE, Int.reduceEq, Int.reduceBEq, Int.reduceNeg]
          refine againS 56 1 ?_
          simp -dsimp -implicitDefEqProofs only [go_sem, ↓reduceIte, reduceCtorEq, Nat.reduceLT, Nat.reduceLeDiff, Nat.reduceEqDiff, Nat.reduceAdd, Nat.reduceMul, Nat.reduceSub, Nat.reduceBEq, Int.reduceLT, Int.reduceLE, Int.reduceEq, Int.reduceBEq, Int.reduceNeg]
          refine againT 96 4 ⟨i + 1, nw, fl.filter (keepB nw) ++ [(⟨tl.length, nw + x.N⟩ : No)], tl ++ [(⟨tl.length, nw + x.N⟩ : No)], (hnext _ rfl).1, (hnext _ rfl).2, by simp; omega, htd⟩ (by simp; omega) ?_
          simp -dsimp -implicitDefEqProofs only [hwi, List.map_append, List.length_append, go_sem, ↓reduceIte, reduceCtorEq, Nat.reduceLT, Nat.reduceLeDiff, Nat.reduceEqDiff, Nat.reduceAdd, Nat.reduceMul, Nat.reduceSub, Nat.reduceBEq, Int.reduceLT, Int.reduceLE, Int.reduceEq, Int.reduceBEq, Int.reduceNeg]
          omega
    · have hkt : tl.take k = tl := List.take_of_length_le (by omega)
      rw [hkt]
      have hany := hso'.any x.N
      have htm := hso'.time
      cases ha : fl.any (hitB x.N nw) with
      | false =>
        have hu := use_stale hso'.ck htm ha
        rw [ha] at hany
        have hop : ¬ nw ≤ openV x.N (-1) tl := by simpa using hany.symm
        refine callP (hu ▸ use_ok tl.length fl x.N nw (by omega) hxN.1 hxN.2) ?_
        simp -dsimp -implicitDefEqProofs only [hop, go_sem, ↓reduceIte, reduceCtorEq, Nat.reduceLT, Nat.reduceLeDiff, Nat.reduceEqDiff, Nat.reduceAdd, Nat.reduceMul, Nat.reduceSub, Nat.reduceBEq, Int.reduceLT, Int.reduceLE, Int.reduceEq, Int.reduceBEq, Int.reduceNeg]
        refine vfor sitOk (ι := OpInv tl) (fun v => ⟨145, [(16, aI v.k), (15, aI 210), (14, aP 393 0), (7, aP 161 0), (6, aI i), (5, aI nw), (4, aO 96), (3, aP 56 0), (2, aB false), (0, aD (spsD l))],
          [(393, some (.var [cI 0, .own 361] true)), (361, some (.row 2 41 [] true)), (161, some (.var [cI x.K, cI x.N, cI x.B] true)), (56, some (.var [cI tl.length, cD (nosD fl)] true)), (96, some (.row 2 41 (tl.map No.cells) true))], 473⟩) (fun v => tl.length - v.k) ⟨0, by omega⟩ ?_ ?_
        · simp -dsimp -implicitDefEqProofs only [go_sem, ↓reduceIte, reduceCtorEq, Nat.reduceLT, Nat.reduceLeDiff, Nat.reduceEqDiff, Nat.reduceAdd, Nat.reduceMul, Nat.reduceSub, Nat.reduceBEq, Int.reduceLT, Int.reduceLE, Int.reduceEq, Int.reduceBEq, Int.reduceNeg]
        intro ⟨j, hj⟩
        simp -dsimp -implicitDefEqProofs only [go_sem, ↓reduceIte, reduceCtorEq, Nat.reduceLT, Nat.reduceLeDiff, Nat.reduceEqDiff, Nat.reduceAdd, Nat.reduceMul, Nat.reduceSub, Nat.reduceBEq, Int.reduceLT, Int.reduceLE, Int.reduceEq, Int.reduceBEq, Int.reduceNeg]
        refine ⟨fun hlt => ⟨drawn (by kernel_rfl), ?_⟩, fun hge => ?_⟩
        · refine again ⟨j + 1, by omega⟩ (by simp; omega) ?_
          simp -dsimp -implicitDefEqProofs only [wrapS (show j < tl.length by omega) (show tl.length ≤ 4611686018427387904 by omega), go_sem, ↓reduceIte, reduceCtorEq, Nat.reduceLT, Nat.reduceLeDiff, Nat.reduceEqDiff, Nat.reduceAdd, Nat.reduceMul, Nat.reduceSub, Nat.reduceBEq, Int.reduceLT, Int.reduceLE, Int.reduceEq, Int.reduceBEq, Int.reduceNeg]
        · refine callP (hso'.ck ▸ check_ok _ fl (by omega)) ?_
          simp -dsimp -implicitDefEqProofs only [go_sem, ↓reduceIte, reduceCtorEq, Nat.reduceLT, Nat.reduceLeDiff, Nat.reduceEqDiff, Nat.reduceAdd, Nat.reduceMul, Nat.reduceSub, Nat.reduceBEq, Int.reduceLT, Int.reduceLE, Int.reduceEq, Int.reduceBEq, Int.reduceNeg]
          refine again ⟨i + 1, nw, fl, tl, (hnext _ rfl).1, (hnext _ rfl).2, by omega, hso'⟩ (by simp; omega) ?_
          simp -dsimp -implicitDefEqProofs only [hwi, go_sem, ↓reduceIte, reduceCtorEq, Nat.reduceLT, Nat.reduceLeDiff, Nat.reduceEqDiff, Nat.reduceAdd, Nat.reduceMul, Nat.reduceSub, Nat.reduceBEq, Int.reduceLT, Int.reduceLE, Int.reduceEq, Int.reduceBEq, Int.reduceNeg]
      | true =>
        have hu := use_done hso'.ck htm ha
        rw [ha] at hany
        have hop : nw ≤ openV x.N (-1) tl := by simpa using hany.symm
        refine callP (hu ▸ use_ok tl.length fl x.N nw (by omega) hxN.1 hxN.2) ?_
        simp -dsimp -implicitDefEqProofs only [hop, go_sem, ↓reduceIte, reduceCtorEq, Nat.reduceLT, Nat.reduceLeDiff, Nat.reduceEqDiff, Nat.reduceAdd, Nat.reduceMul, Nat.reduceSub, Nat.reduceBEq, Int.reduceLT, Int.reduceLE, Int.reduceEq, Int.reduceBEq, Int.reduceNeg]
        refine vfor sitOk (ι := GnInv x.N tl) (fun v => ⟨145, [(16, aI v.k), (15, aI 0), (14, aP 393 0), (7, aP 161 0), (6, aI i), (5, aI nw), (4, aO 96), (3, aP 56 0), (2, aB false), (0, aD (spsD l))],
          [(393, some (.var [cI tl.length, .own 361] true)), (361, some (.row 2 41 ((fl.filter fun y => !hitB x.N nw y).map No.cells) true)), (161, some (.var [cI x.K, cI x.N, cI x.B] true)), (56, some (.var [cI tl.length, cD (nosD fl)] true)), (96, some (.row 2 41 (v.R.map No.cells) true))], 473⟩) (fun v => tl.length - v.k) ⟨0, tl, by omega, rfl, by simp⟩ ?_ ?_
        · simp -dsimp -implicitDefEqProofs only [go_sem, ↓reduceIte, reduceCtorEq, Nat.reduceLT, Nat.reduceLeDiff, Nat.reduceEqDiff, Nat.reduceAdd, Nat.reduceMul, Nat.reduceSub, Nat.reduceBEq, Int.reduceLT, Int.reduceLE, Int.reduceEq, Int.reduceBEq, Int.reduceNeg]
        intro ⟨j, R, hj, hRl, hR⟩
        simp -dsimp -implicitDefEqProofs only [go_sem, ↓reduceIte, reduceCtorEq, Nat.reduceLT, Nat.reduceLeDiff, Nat.reduceEqDiff, Nat.reduceAdd, Nat.reduceMul, Nat.reduceSub, Nat.reduceBEq, Int.reduceLT, Int.reduceLE, Int.reduceEq, Int.reduceBEq, Int.reduceNeg]
        refine ⟨fun hlt => ⟨by omega, by omega, fun y hy => ⟨drawn (by kernel_rfl), fun c => ⟨by omega, by omega, fun z hz => ?_⟩, fun c => ?_⟩⟩, fun hge => ?_⟩
        · rw [hy] at hz; cases hz
          have hjl : j < tl.length := by omega
          refine again ⟨j + 1, R.set j (gone x.N y), by omega, by simp [hRl], gone_set hR hy⟩ (by simp; omega) ?_
          simp -dsimp -implicitDefEqProofs only [wrapS hjl (show tl.length ≤ 4611686018427387904 by omega), gone_cells c, go_sem, ↓reduceIte, reduceCtorEq, Nat.reduceLT, Nat.reduceLeDiff, Nat.reduceEqDiff, Nat.reduceAdd, Nat.reduceMul, Nat.reduceSub, Nat.reduceBEq, Int.reduceLT, Int.reduceLE, Int.reduceEq, Int.reduceBEq, Int.reduceNeg]
        · have hjl : j < tl.length := by omega
          refine again ⟨j + 1, R, by omega, hRl, gone_keep hR hy c⟩ (by simp; omega) ?_
          simp -dsimp -implicitDefEqProofs only [wrapS hjl (show tl.length ≤ 4611686018427387904 by omega), go_sem, ↓reduceIte, reduceCtorEq, Nat.reduceLT, Nat.reduceLeDiff, Nat.reduceEqDiff, Nat.reduceAdd, Nat.reduceMul, Nat.reduceSub, Nat.reduceBEq, Int.reduceLT, Int.reduceLE, Int.reduceEq, Int.reduceBEq, Int.reduceNeg]
        · have hR' : R = tl.map (gone x.N) := by rw [hR, List.take_of_length_le (by omega), List.drop_eq_nil_of_le (by omega), List.append_nil]
          have hus := hso'.used (N := x.N) ha
          have hft := filter_len (fun y => !hitB x.N nw y) fl
          have hck := hus.ck
          rw [List.length_map] at hck
          refine callP (hck ▸ check_ok tl.length _ (by omega)) ?_
          simp -dsimp -implicitDefEqProofs only [go_sem, ↓reduceIte, reduceCtorEq, Nat.reduceLT, Nat.reduceLeDiff, Nat.reduceEqDiff, Nat.reduceAdd, Nat.reduceMul, Nat.reduceSub, Nat.reduceBEq, Int.reduceLT, Int.reduceLE, Int.reduceEq, Int.reduceBEq, Int.reduceNeg]
          refine againS 56 1 ?_
          simp -dsimp -implicitDefEqProofs only [go_sem, ↓reduceIte, reduceCtorEq, Nat.reduceLT, Nat.reduceLeDiff, Nat.reduceEqDiff, Nat.reduceAdd, Nat.reduceMul, Nat.reduceSub, Nat.reduceBEq, Int.reduceLT, Int.reduceLE, Int.reduceEq, Int.reduceBEq, Int.reduceNeg]
          refine again ⟨i + 1, nw, fl.filter fun y => !hitB x.N nw y, tl.map (gone x.N), (hnext _ rfl).1, (hnext _ rfl).2, by simp; omega, hus⟩ (by simp; omega) ?_
          simp -dsimp -implicitDefEqProofs only [hwi, hR', go_sem, ↓reduceIte, reduceCtorEq, Nat.reduceLT, Nat.reduceLeDiff, Nat.reduceEqDiff, Nat.reduceAdd, Nat.reduceMul, Nat.reduceSub, Nat.reduceBEq, Int.reduceLT, Int.reduceLE, Int.reduceEq, Int.reduceBEq, Int.reduceNeg]
    · refine callP (trim_ok _ fl nw (by omega)) ?_
      simp -dsimp -implicitDefEqProofs only [go_sem, ↓reduceIte, reduceCtorEq, Nat.reduceLT, Nat.reduceLeDiff, Nat.reduceEqDiff, Nat.reduceAdd, Nat.reduceMul, Nat.reduceSub, Nat.reduceBEq, Int.reduceLT, Int.reduceLE, Int.reduceEq, Int.reduceBEq, Int.reduceNeg]
      have hft := filter_len (keepB nw) fl
      refine callP (hso'.trimmed.ck ▸ check_ok tl.length (fl.filter (keepB nw)) (by omega)) ?_
      simp -dsimp -implicitDefEqProofs only [go_sem, ↓reduceIte, reduceCtorEq, Nat.reduceLT, Nat.reduceLeDiff, Nat.reduceEqDiff, Nat.reduceAdd, Nat.reduceMul, Nat.reduceSub, Nat.reduceBEq, Int.reduceLT, Int.reduceLE, Int.reduceEq, Int.reduceBEq, Int.reduceNeg]
      refine againS 56 1 ?_
      simp -dsimp -implicitDefEqProofs only [go_sem, ↓reduceIte, reduceCtorEq, Nat.reduceLT, Nat.reduceLeDiff, Nat.reduceEqDiff, Nat.reduceAdd, Nat.reduceMul, Nat.reduceSub, Nat.reduceBEq, Int.reduceLT, Int.reduceLE, Int.reduceEq, Int.reduceBEq, Int.reduceNeg]
      refine again ⟨i + 1, nw, fl.filter (keepB nw), tl, (hnext _ rfl).1, (hnext _ rfl).2, by omega, hso'.trimmed⟩ (by simp; omega) ?_
      simp -dsimp -implicitDefEqProofs only [hwi, go_sem, ↓reduceIte, reduceCtorEq, Nat.reduceLT, Nat.reduceLeDiff, Nat.reduceEqDiff, Nat.reduceAdd, Nat.reduceMul, Nat.reduceSub, Nat.reduceBEq, Int.reduceLT, Int.reduceLE, Int.reduceEq, Int.reduceBEq, Int.reduceNeg]
    · refine callP (hso'.ck ▸ check_ok _ fl (by omega)) ?_
      simp -dsimp -implicitDefEqProofs only [go_sem, ↓reduceIte, reduceCtorEq, Nat.reduceLT, Nat.reduceLeDiff, Nat.reduceEqDiff, Nat.reduceAdd, Nat.reduceMul, Nat.reduceSub, Nat.reduceBEq, Int.reduceLT, Int.reduceLE, Int.reduceEq, Int.reduceBEq, Int.reduceNeg]
      refine again ⟨i + 1, nw, fl, tl, (hnext _ rfl).1, (hnext _ rfl).2, by omega, hso'⟩ (by simp; omega) ?_
      simp -dsimp -implicitDefEqProofs only [hwi, go_sem, ↓reduceIte, reduceCtorEq, Nat.reduceLT, Nat.reduceLeDiff, Nat.reduceEqDiff, Nat.reduceAdd, Nat.reduceMul, Nat.reduceSub, Nat.reduceBEq, Int.reduceLT, Int.reduceLE, Int.reduceEq, Int.reduceBEq, Int.reduceNeg]

theorem read_steps {ds : List D} (h : shpG tys 6 37 ds) : ∃ l : List Sp, ds = [spsD l] ∧ ∀ x ∈ l, -9223372036854775808 ≤ x.N ∧ x.N ≤ 9223372036854775807 := by
  simp -dsimp -implicitDefEqProofs only [shpG, tileG, go_sem] at h
  obtain ⟨rows, rfl, _, hr⟩ := h
  obtain ⟨l, rfl, hl⟩ := rows_map (cells := Sp.cells) (ok := fun x => -9223372036854775808 ≤ x.N ∧ x.N ≤ 9223372036854775807) fun r hr' => by
    obtain ⟨_, _, ⟨a, rfl, _⟩, rfl, _, _, ⟨b, rfl, hb⟩, rfl, _, _, ⟨c, rfl, _⟩, rfl, rfl⟩ := hr r hr'
    exact ⟨⟨a, b, c⟩, rfl, hb⟩
  exact ⟨l, rfl, hl⟩

theorem arg_steps (ds : List D) : argC Try.prog 37 ds = (false, ds.map .d) := by
  unfold argC; rw [show isStruct Try.prog 37 = false from by kernel_rfl]

theorem nonceOnce_read (x0 : List D) (h0 : shpG tys 6 37 x0) : Meets Try.prog 5 [argC Try.prog 37 x0] (rOne (vB true)) := by
  obtain ⟨l, rfl, hl⟩ := read_steps h0
  rw [arg_steps]
  exact once_ok l hl
section
open Go.ChangeShapes Go.WideShapes Go.ChangeAt Go.RowKit
set_option maxRecDepth 100000 in
theorem nonceOnce_lifted (os : Os) (started : os.Started) (H : Type) (enc : TypeId × Value → H) :
    ReturnsInHanded {} Try.checked os 5 .any (Rows.nonceOnceSpec.pre6 enc Try.prog Try.f5 Rows.nonceOnceRow.domain false) (Rows.nonceOnceSpec.post enc Try.prog Try.f5 false true false false) := by
  refine returnsInHanded_of_change (C := Try.checked) own started (by kernel_rfl) Try.func5
    (ChangeSpec.witness6 (enc := enc) (C := Try.checked) false ⟨#[], #[.slice none 0 0], []⟩ 8 (by kernel_rfl) (by kernel_rfl) (by kernel_rfl) (by kernel_rfl)) ?_
  exact row_ok (C := Try.checked) 6 4 laidOut (by kernel_rfl) rfl (by kernel_rfl) rfl (fun ds h => match ds, h with | [_], _ => rfl) fun dss h => match dss, h with
    | [x0], .cons h0 .nil => nonceOnce_read x0 (shp_table tysOk _ _ _ h0)
theorem nonceOnce_holds : Rows.NonceOnceSaid :=
  OpenClaim.holds_of_wide 5 Try.f5 rfl rfl rfl rfl rfl rfl rfl ⟨rfl, rfl, rfl, rfl, rfl⟩ rfl rfl rfl rfl rfl (by kernel_rfl) Try.func5 (by kernel_rfl)
    (of_decide_eq_true (by kernel_rfl)) (by unfold Func.isWrapper; rw [if_neg (of_decide_eq_false (by kernel_rfl))]; exact ⟨rfl, rfl⟩)
    (fun os started H enc _ => nonceOnce_lifted os started H enc)
end
end Go.Proofs.Ytmkolmgpcmceaaa
