/- What a name is; the library's functions on strings that names call. -/
import Derived.Test.YtfgejhlgenaniaaDoorZ1
import Derived.Lib.IndexLaws
namespace Go.Proofs.YtfgejhlgenaniaaDoor
open Go.Eng
set_option linter.unusedSimpArgs false
set_option maxRecDepth 10000

theorem u8_round (c : UInt8) : c.toNat.toUInt8 = c := by simp
attribute [go_sem] u8_round
abbrev vU (c : UInt8) : CV := .d (.v (.int .u8 c.toNat))
abbrev vR (n : Int) : CV := .d (.v (.int .i32 n))

theorem indexByte_ok (l : Bs) (c : UInt8) : Meets Tryd.prog 108 [(false, [vS l]), (false, [vU c])] (rOne (vI (Lib.indexByte l c))) := by
  refine meets Tryd.func108 rfl rfl Tryd.ntmps108 Tryd.results108 rfl ?_
  simp -dsimp -implicitDefEqProofs only [go_sem, ↓reduceIte, reduceCtorEq, Nat.reduceLT, Nat.reduceLeDiff, Nat.reduceEqDiff, Nat.reduceAdd, Nat.reduceMul, Nat.reduceSub, Nat.reduceBEq, Int.reduceLT, Int.reduceLE, Int.reduceEq, Int.reduceBEq, Int.reduceNeg]
theorem indexL_ok (l : Bs) (c : UInt8) : Meets Tryd.prog 102 [(false, [vS l]), (false, [vS [c]])] (rOne (vI (Lib.indexByte l c))) := by
  refine meets Tryd.func102 rfl rfl Tryd.ntmps102 Tryd.results102 rfl ?_
  simp -dsimp -implicitDefEqProofs only [go_sem, ↓reduceIte, reduceCtorEq, Nat.reduceLT, Nat.reduceLeDiff, Nat.reduceEqDiff, Nat.reduceAdd, Nat.reduceMul, Nat.reduceSub, Nat.reduceBEq, Int.reduceLT, Int.reduceLE, Int.reduceEq, Int.reduceBEq, Int.reduceNeg]
  refine ⟨fun h => by subst h; simp [Lib.indexByte], fun h => callP (indexByte_ok l c) ?_⟩
  simp -dsimp -implicitDefEqProofs only [go_sem, ↓reduceIte, reduceCtorEq, Nat.reduceLT, Nat.reduceLeDiff, Nat.reduceEqDiff, Nat.reduceAdd, Nat.reduceMul, Nat.reduceSub, Nat.reduceBEq, Int.reduceLT, Int.reduceLE, Int.reduceEq, Int.reduceBEq, Int.reduceNeg]
theorem index_ok (l : Bs) (c : UInt8) : Meets Tryd.prog 90 [(false, [vS l]), (false, [vS [c]])] (rOne (vI (Lib.indexByte l c))) := by
  refine meets Tryd.func90 rfl rfl Tryd.ntmps90 Tryd.results90 rfl ?_
  simp -dsimp -implicitDefEqProofs only [go_sem, ↓reduceIte, reduceCtorEq, Nat.reduceLT, Nat.reduceLeDiff, Nat.reduceEqDiff, Nat.reduceAdd, Nat.reduceMul, Nat.reduceSub, Nat.reduceBEq, Int.reduceLT, Int.reduceLE, Int.reduceEq, Int.reduceBEq, Int.reduceNeg]
  refine callP (indexL_ok l c) ?_
  simp -dsimp -implicitDefEqProofs only [go_sem, ↓reduceIte, reduceCtorEq, Nat.reduceLT, Nat.reduceLeDiff, Nat.reduceEqDiff, Nat.reduceAdd, Nat.reduceMul, Nat.reduceSub, Nat.reduceBEq, Int.reduceLT, Int.reduceLE, Int.reduceEq, Int.reduceBEq, Int.reduceNeg]
theorem count_ok (l : Bs) (c : UInt8) : Meets Tryd.prog 84 [(false, [vS l]), (false, [vS [c]])] (rOne (vI (l.count c : Nat))) := by
  refine meets Tryd.func84 rfl rfl Tryd.ntmps84 Tryd.results84 rfl ?_
  simp -dsimp -implicitDefEqProofs only [go_sem, ↓reduceIte, reduceCtorEq, Nat.reduceLT, Nat.reduceLeDiff, Nat.reduceEqDiff, Nat.reduceAdd, Nat.reduceMul, Nat.reduceSub, Nat.reduceBEq, Int.reduceLT, Int.reduceLE, Int.reduceEq, Int.reduceBEq, Int.reduceNeg]
  rfl

/-! ### Pieces between dots -/
def splitB : Bs → List Bs
  | [] => [[]]
  | c :: r => if c = 46 then [] :: splitB r else match splitB r with
    | [] => [[c]]
    | x :: xs => (c :: x) :: xs
def afterDot : Bs → Bs
  | [] => []
  | c :: r => if c = 46 then r else afterDot r
theorem splitB_ne : ∀ l, splitB l ≠ []
  | [] => by simp [splitB]
  | c :: r => by
    unfold splitB
    split
    · simp
    · split <;> simp
theorem splitB_none : ∀ {l : Bs}, 46 ∉ l → splitB l = [l]
  | [], _ => rfl
  | c :: r, h => by
    have hc : ¬ c = 46 := fun e => h (by simp [e])
    have ih := splitB_none (l := r) (fun hh => h (List.mem_cons_of_mem _ hh))
    simp [splitB, hc, ih]
theorem splitB_dot : ∀ {a b : Bs}, 46 ∉ a → splitB (a ++ 46 :: b) = a :: splitB b
  | [], b, _ => by simp [splitB]
  | c :: a, b, h => by
    have hc : ¬ c = 46 := fun e => h (by simp [e])
    have ih := splitB_dot (a := a) (b := b) (fun hh => h (List.mem_cons_of_mem _ hh))
    simp [splitB, hc, ih]
theorem splitB_length : ∀ l : Bs, (splitB l).length = l.count 46 + 1
  | [] => rfl
  | c :: r => by
    have ih := splitB_length r
    unfold splitB
    split
    · rename_i h; subst h; simp [ih]
    · rename_i h
      have h2 : List.count 46 (c :: r) = r.count 46 := by rw [List.count_cons_of_ne h]
      split
      · rename_i e; exact absurd e (splitB_ne r)
      · rename_i x xs e; rw [e] at ih; rw [h2]; simpa using ih
theorem afterDot_none : ∀ {l : Bs}, 46 ∉ l → afterDot l = []
  | [], _ => rfl
  | c :: r, h => by
    have hc : ¬ c = 46 := fun e => h (by simp [e])
    simp [afterDot, hc, afterDot_none (l := r) (fun hh => h (List.mem_cons_of_mem _ hh))]
theorem afterDot_dot : ∀ {a b : Bs}, 46 ∉ a → afterDot (a ++ 46 :: b) = b
  | [], b, _ => by simp [afterDot]
  | c :: a, b, h => by
    have hc : ¬ c = 46 := fun e => h (by simp [e])
    simp [afterDot, hc, afterDot_dot (a := a) (b := b) (fun hh => h (List.mem_cons_of_mem _ hh))]
/-- Where the first dot stands. -/
theorem dot_cases (l : Bs) : (Lib.indexByte l 46 = -1 ∧ 46 ∉ l) ∨ ∃ a b, l = a ++ 46 :: b ∧ 46 ∉ a ∧ Lib.indexByte l 46 = (a.length : Nat) := by
  have hge := Lib.indexByte_ge l 46
  by_cases h : Lib.indexByte l 46 = -1
  · refine .inl ⟨h, fun hm => ?_⟩
    obtain ⟨k, hk⟩ := List.mem_iff_getElem?.1 hm
    exact Lib.indexByte_none h k hk
  · obtain ⟨o, ho⟩ : ∃ o : Nat, Lib.indexByte l 46 = o := ⟨(Lib.indexByte l 46).toNat, by omega⟩
    obtain ⟨h1, h2⟩ := Lib.indexByte_some ho
    have hlt := (List.getElem?_eq_some_iff.1 h1).1
    refine .inr ⟨l.take o, l.drop (o + 1), ?_, fun hm => ?_, ?_⟩
    · rw [← drop_at h1, List.take_append_drop]
    · obtain ⟨k, hk⟩ := List.mem_iff_getElem?.1 hm
      rw [List.getElem?_take] at hk
      split at hk
      · rename_i hko; exact h2 k hko hk
      · cases hk
    · rw [ho, List.length_take]; omega
theorem afterDot_le : ∀ l : Bs, (afterDot l).length ≤ l.length
  | [] => Nat.le_refl _
  | c :: r => by
    have := afterDot_le r
    unfold afterDot
    split <;> simp <;> omega
theorem afterDot_lt {l : Bs} (h : l ≠ []) : (afterDot l).length < l.length := by
  cases l with
  | nil => exact absurd rfl h
  | cons c r =>
    have := afterDot_le r
    unfold afterDot
    split <;> simp <;> omega

/-! ### Labels and names -/
def edgeI (n : Int) : Bool := decide (97 ≤ n) && decide (n ≤ 122) || decide (48 ≤ n) && decide (n ≤ 57)
def edgeB (c : UInt8) : Bool := edgeI c.toNat
/-- May a label have this byte there? -/
def okAt (l : Bs) (i : Nat) : Bool := match l[i]? with
  | some c => if i + 1 = l.length then edgeB c else if i = 0 then edgeB c || c == 95 else c == 45 || edgeB c
  | none => true
def labelB (l : Bs) : Bool := decide (1 ≤ l.length) && decide (l.length ≤ 16) && (List.range l.length).all (okAt l)
def isName (l : Bs) : Bool := decide (l.length ≤ 64) && decide ((splitB l).length ≤ 8) && (splitB l).all labelB
def upB (l : Bs) : Bs := if isName l then afterDot l else []
theorem isName_nil : isName [] = false := by decide
theorem upB_lt {l : Bs} (h : upB l ≠ []) : (upB l).length < l.length := by
  unfold upB at *
  split
  · rename_i h1
    refine afterDot_lt fun e => ?_
    subst e
    simp [isName_nil] at h1
  · rename_i h1; rw [if_neg h1] at h; exact absurd rfl h
theorem upB_lt' {l : Bs} (h : l ≠ []) : (upB l).length < l.length := by
  unfold upB
  split
  · exact afterDot_lt h
  · cases l <;> simp_all
def belowF : Nat → Bs → Bs → Bool
  | 0, _, _ => false
  | m + 1, s, t => if upB s = [] then false else upB s == t || belowF m (upB s) t
def belowB (s t : Bs) : Bool := belowF s.length s t
theorem upB_nil : upB [] = [] := by simp [upB, isName_nil]
theorem belowF_same : ∀ (m k : Nat) (s t : Bs), s.length ≤ m → s.length ≤ k → belowF m s t = belowF k s t
  | 0, 0, _, _, _, _ => rfl
  | 0, k + 1, s, t, h, _ => by
    have : s = [] := List.length_eq_zero_iff.1 (by omega)
    subst this
    simp [belowF, upB_nil]
  | m + 1, 0, s, t, _, h => by
    have : s = [] := List.length_eq_zero_iff.1 (by omega)
    subst this
    simp [belowF, upB_nil]
  | m + 1, k + 1, s, t, h1, h2 => by
    unfold belowF
    split
    · rfl
    · rename_i h
      have := upB_lt h
      rw [belowF_same m k (upB s) t (by omega) (by omega)]
theorem belowB_eq (s t : Bs) : belowB s t = if upB s = [] then false else upB s == t || belowB (upB s) t := by
  unfold belowB
  rw [belowF_same s.length (s.length + 1) s t (Nat.le_refl _) (by omega), belowF]
  split
  · rfl
  · rename_i h
    have := upB_lt h
    rw [belowF_same s.length (upB s).length (upB s) t (by omega) (Nat.le_refl _)]
def underB (s a : Bs) : Bool := isName s && (a == [] || s == a || belowB s a)

theorem edge_ok (n : Int) : Meets Tryd.prog 99 [(false, [vR n])] (rOne (vB (edgeI n))) := by
  refine meets Tryd.func99 rfl rfl Tryd.ntmps99 Tryd.results99 rfl ?_
  simp -dsimp -implicitDefEqProofs only [go_sem, ↓reduceIte, reduceCtorEq, Nat.reduceLT, Nat.reduceLeDiff, Nat.reduceEqDiff, Nat.reduceAdd, Nat.reduceMul, Nat.reduceSub, Nat.reduceBEq, Int.reduceLT, Int.reduceLE, Int.reduceEq, Int.reduceBEq, Int.reduceNeg]
  repeat' (first | with_reducible apply And.intro | with_reducible intro _ | with_reducible exact drawn (by kernel_rfl) | omega)
  all_goals (unfold edgeI; rw [Bool.eq_iff_iff]; simp; omega)
theorem inner_ok (n : Int) : Meets Tryd.prog 100 [(false, [vR n])] (rOne (vB (n == 45 || edgeI n))) := by
  refine meets Tryd.func100 rfl rfl Tryd.ntmps100 Tryd.results100 rfl ?_
  simp -dsimp -implicitDefEqProofs only [go_sem, ↓reduceIte, reduceCtorEq, Nat.reduceLT, Nat.reduceLeDiff, Nat.reduceEqDiff, Nat.reduceAdd, Nat.reduceMul, Nat.reduceSub, Nat.reduceBEq, Int.reduceLT, Int.reduceLE, Int.reduceEq, Int.reduceBEq, Int.reduceNeg]
  repeat' (first | with_reducible apply And.intro | with_reducible intro _ | with_reducible exact drawn (by kernel_rfl) | (refine callP (edge_ok _) ?_; simp -dsimp -implicitDefEqProofs only [go_sem, ↓reduceIte, reduceCtorEq, Nat.reduceLT, Nat.reduceLeDiff, Nat.reduceEqDiff, Nat.reduceAdd, Nat.reduceMul, Nat.reduceSub, Nat.reduceBEq, Int.reduceLT, Int.reduceLE, Int.reduceEq, Int.reduceBEq, Int.reduceNeg]) | omega)
  all_goals simp [*]
theorem rword_ok (c : UInt8) : Meets Tryd.prog 95 [(false, [vU c])] (rOne (vB (edgeB c))) := by
  refine meets Tryd.func95 rfl rfl Tryd.ntmps95 Tryd.results95 rfl ?_
  simp -dsimp -implicitDefEqProofs only [go_sem, ↓reduceIte, reduceCtorEq, Nat.reduceLT, Nat.reduceLeDiff, Nat.reduceEqDiff, Nat.reduceAdd, Nat.reduceMul, Nat.reduceSub, Nat.reduceBEq, Int.reduceLT, Int.reduceLE, Int.reduceEq, Int.reduceBEq, Int.reduceNeg]
  repeat' (first | with_reducible apply And.intro | with_reducible intro _ | with_reducible exact drawn (by kernel_rfl) | omega)
  all_goals (unfold edgeB edgeI; rw [Bool.eq_iff_iff]; simp; omega)

/-! ### label -/
theorem u8_is (c : UInt8) (n : Nat) (h : n < 256 := by omega) : (c == n.toUInt8) = decide ((c.toNat : Int) = n) := by
  rw [Bool.eq_iff_iff]
  simp only [beq_iff_eq, decide_eq_true_eq]
  constructor
  · intro e; subst e; simp; omega
  · intro e
    apply UInt8.toNat_inj.1
    simp; omega
structure LbInv (l : Bs) where
  p : Nat
  le : p ≤ l.length
  ok : ∀ j, j < p → okAt l j = true
theorem okAt_lt {l : Bs} {i : Nat} {c : UInt8} (h : l[i]? = some c) : okAt l i = if i + 1 = l.length then edgeB c else if i = 0 then edgeB c || c == 95 else c == 45 || edgeB c := by
  unfold okAt; rw [h]
theorem labelB_bad {l : Bs} {i : Nat} (hi : i < l.length) (h : okAt l i = false) : labelB l = false := by
  unfold labelB
  have : (List.range l.length).all (okAt l) = false := by
    rw [Bool.eq_false_iff]
    intro hh
    rw [List.all_eq_true] at hh
    have := hh i (List.mem_range.2 hi)
    rw [h] at this; cases this
  rw [this, Bool.and_false]
theorem labelB_good {l : Bs} (h1 : l ≠ []) (h2 : l.length ≤ 16) (h : ∀ j, j < l.length → okAt l j = true) : labelB l = true := by
  unfold labelB
  have h3 : 1 ≤ l.length := by cases l <;> simp_all
  have : (List.range l.length).all (okAt l) = true := by
    rw [List.all_eq_true]
    exact fun j hj => h j (List.mem_range.1 hj)
  simp [this, h3, h2]

theorem label_ok (l : Bs) : Meets Tryd.prog 86 [(false, [vS l])] (rOne (vB (labelB l))) := by
  refine meets Tryd.func86 rfl rfl Tryd.ntmps86 Tryd.results86 rfl ?_
  simp -dsimp -implicitDefEqProofs only [go_sem, ↓reduceIte, reduceCtorEq, Nat.reduceLT, Nat.reduceLeDiff, Nat.reduceEqDiff, Nat.reduceAdd, Nat.reduceMul, Nat.reduceSub, Nat.reduceBEq, Int.reduceLT, Int.reduceLE, Int.reduceEq, Int.reduceBEq, Int.reduceNeg]
  refine ⟨fun h0 => ⟨fun h1 => ?_, fun h1 => ?_⟩, fun h0 => by subst h0; decide⟩
  · unfold labelB
    rw [show decide (l.length ≤ 16) = false by simp; omega]; simp
  have h2 : l.length ≤ 16 := by omega
  have hl1 : 1 ≤ l.length := by cases l <;> simp_all
  refine vfor sitOk (ι := LbInv l) (fun v => ⟨53, [(13, aP 72 0), (0, aS l)], [(72, some (.it (bytes l) v.p))], 80⟩) (fun v => l.length - v.p) ⟨0, by omega, fun j hj => by omega⟩ ?_ ?_
  · simp -dsimp -implicitDefEqProofs only [go_sem, ↓reduceIte, reduceCtorEq, Nat.reduceLT, Nat.reduceLeDiff, Nat.reduceEqDiff, Nat.reduceAdd, Nat.reduceMul, Nat.reduceSub, Nat.reduceBEq, Int.reduceLT, Int.reduceLE, Int.reduceEq, Int.reduceBEq, Int.reduceNeg]
  intro ⟨p, hp, hok⟩
  have hw : IntKind.i64.wrap ((l.length : Int) - 1) = ((l.length - 1 : Nat) : Int) := by rw [wrap64] <;> omega
  simp -dsimp -implicitDefEqProofs only [hw, go_sem, ↓reduceIte, reduceCtorEq, Nat.reduceLT, Nat.reduceLeDiff, Nat.reduceEqDiff, Nat.reduceAdd, Nat.reduceMul, Nat.reduceSub, Nat.reduceBEq, Int.reduceLT, Int.reduceLE, Int.reduceEq, Int.reduceBEq, Int.reduceNeg]
  refine ⟨fun hlt => ?_, fun hge => ?_⟩
  · obtain ⟨c, hx⟩ : ∃ c, l[p]? = some c := ⟨_, List.getElem?_eq_getElem hlt⟩
    have hat := okAt_lt hx
    have h95 : (c == 95) = decide ((c.toNat : Int) = 95) := u8_is c 95
    have h45 : (c == 45) = decide ((c.toNat : Int) = 45) := u8_is c 45
    have bad : okAt l p = false → false = labelB l := fun h => (labelB_bad hlt h).symm
    have hi2 : ((p : Int) = ((l.length - 1 : Nat) : Int)) = (p + 1 = l.length) := by rw [eq_iff_iff]; omega
    have hi3 : ((p : Int) = 0) = (p = 0) := by rw [eq_iff_iff]; omega
    rw [h95, h45] at hat
    by_cases hc : c.toNat < 128
    · have hd := dec_lo hx hc
      simp -dsimp -implicitDefEqProofs only [hd, go_sem, ↓reduceIte, reduceCtorEq, Nat.reduceLT, Nat.reduceLeDiff, Nat.reduceEqDiff, Nat.reduceAdd, Nat.reduceMul, Nat.reduceSub, Nat.reduceBEq, Int.reduceLT, Int.reduceLE, Int.reduceEq, Int.reduceBEq, Int.reduceNeg]
      repeat' (first | with_reducible apply And.intro | with_reducible intro _ | with_reducible exact drawn (by kernel_rfl) | (refine callP (edge_ok _) ?_; simp -dsimp -implicitDefEqProofs only [hw, hd, go_sem, ↓reduceIte, reduceCtorEq, Nat.reduceLT, Nat.reduceLeDiff, Nat.reduceEqDiff, Nat.reduceAdd, Nat.reduceMul, Nat.reduceSub, Nat.reduceBEq, Int.reduceLT, Int.reduceLE, Int.reduceEq, Int.reduceBEq, Int.reduceNeg]) | (refine callP (inner_ok _) ?_; simp -dsimp -implicitDefEqProofs only [hw, hd, go_sem, ↓reduceIte, reduceCtorEq, Nat.reduceLT, Nat.reduceLeDiff, Nat.reduceEqDiff, Nat.reduceAdd, Nat.reduceMul, Nat.reduceSub, Nat.reduceBEq, Int.reduceLT, Int.reduceLE, Int.reduceEq, Int.reduceBEq, Int.reduceNeg]) | omega)
      all_goals simp only [hi2, hi3, beq_iff_eq, Bool.or_eq_true, Bool.or_eq_false_iff, beq_eq_false_iff_ne, ne_eq] at *
      all_goals first
        | (with_reducible refine bad ?_; rw [hat]; simp [edgeB, *]; done)
        | (refine again ⟨p + 1, by omega, fun j hj => by
            by_cases hjp : j = p
            · subst hjp; rw [hat]; split <;> (try split) <;> simp_all [edgeB]
            · exact hok j (by omega)⟩ (by simp; omega) ?_
           simp -dsimp -implicitDefEqProofs only [go_sem, ↓reduceIte, reduceCtorEq, Nat.reduceLT, Nat.reduceLeDiff, Nat.reduceEqDiff, Nat.reduceAdd, Nat.reduceMul, Nat.reduceSub, Nat.reduceBEq, Int.reduceLT, Int.reduceLE, Int.reduceEq, Int.reduceBEq, Int.reduceNeg]; done)
        | trace_state
    · have hd : 128 ≤ (Utf8.decode (bytes l) p).1 := dec_hi hx (by omega)
      obtain ⟨n, w, he⟩ : ∃ n w, Utf8.decode (bytes l) p = (n, w) := ⟨_, _, rfl⟩
      rw [he] at hd
      have hn : edgeI n = false := by simp only at hd; unfold edgeI; simp; omega
      have hb : okAt l p = false := by
        have h1 : edgeB c = false := by unfold edgeB edgeI; simp; omega
        have h2 : decide ((c.toNat : Int) = 95) = false := by simp; omega
        have h3 : decide ((c.toNat : Int) = 45) = false := by simp; omega
        rw [hat, h1, h2, h3]; simp
      have hbad := bad hb
      simp only at hd
      simp -dsimp -implicitDefEqProofs only [he, go_sem, ↓reduceIte, reduceCtorEq, Nat.reduceLT, Nat.reduceLeDiff, Nat.reduceEqDiff, Nat.reduceAdd, Nat.reduceMul, Nat.reduceSub, Nat.reduceBEq, Int.reduceLT, Int.reduceLE, Int.reduceEq, Int.reduceBEq, Int.reduceNeg]
      repeat' (first | with_reducible apply And.intro | with_reducible intro _ | with_reducible exact drawn (by kernel_rfl) | (refine callP (edge_ok _) ?_; simp -dsimp -implicitDefEqProofs only [hw, he, go_sem, ↓reduceIte, reduceCtorEq, Nat.reduceLT, Nat.reduceLeDiff, Nat.reduceEqDiff, Nat.reduceAdd, Nat.reduceMul, Nat.reduceSub, Nat.reduceBEq, Int.reduceLT, Int.reduceLE, Int.reduceEq, Int.reduceBEq, Int.reduceNeg]) | (refine callP (inner_ok _) ?_; simp -dsimp -implicitDefEqProofs only [hw, he, go_sem, ↓reduceIte, reduceCtorEq, Nat.reduceLT, Nat.reduceLeDiff, Nat.reduceEqDiff, Nat.reduceAdd, Nat.reduceMul, Nat.reduceSub, Nat.reduceBEq, Int.reduceLT, Int.reduceLE, Int.reduceEq, Int.reduceBEq, Int.reduceNeg]) | omega)
      all_goals first
        | exact hbad
        | (exfalso; simp_all; done)
        | (exfalso; simp [hn] at *; omega)
        | trace_state
  · exact (labelB_good h0 h2 fun j hj => hok j (by omega)).symm
end Go.Proofs.YtfgejhlgenaniaaDoor
