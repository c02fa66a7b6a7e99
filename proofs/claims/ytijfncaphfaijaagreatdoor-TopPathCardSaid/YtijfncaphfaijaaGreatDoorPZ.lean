
/- Strings as lists of bytes; how they stand to each other. What a name is; the library's functions on strings that names call. The contracts of names: name, is, Check, Up, below, Under. -/
import Derived.Test.YtijfncaphfaijaaGreatDoorPE
import Derived.Sort.Walk0
import Derived.Lib.OthersKept
import Derived.Lib.IndexLaws
namespace Go.Proofs.YtijfncaphfaijaaGreatDoor
open Go.Eng
set_option linter.unusedSimpArgs false
set_option maxRecDepth 10000

abbrev Bs := List UInt8
/-- A string of these bytes. -/
def bytes (l : Bs) : ByteArray := ⟨l.toArray⟩
theorem bytes_mk (l : Bs) : ByteArray.mk l.toArray = bytes l := rfl
theorem bytes_empty : ByteArray.empty = bytes [] := rfl
theorem bytes_all (s : ByteArray) : ∃ l, s = bytes l := ⟨s.data.toList, by cases s; rfl⟩
theorem bytes_data (l : Bs) : (bytes l).data.toList = l := rfl
theorem bytes_list (l : Bs) : (bytes l).toList = l := by rw [ByteArray.toList_eq]; rfl
theorem bytes_size (l : Bs) : (bytes l).size = l.length := rfl
theorem bytes_get (l : Bs) (i : Nat) : (bytes l)[i]? = l[i]? := by
  by_cases h : i < l.length
  · rw [List.getElem?_eq_getElem h]
    exact getElem?_pos (bytes l) i h
  · rw [List.getElem?_eq_none (by omega)]
    exact getElem?_neg (bytes l) i h
theorem bytes_get! (l : Bs) (i : Nat) : (bytes l).get! i = l.getD i 0 := by
  show l.toArray[i]! = _
  simp [getElem!_def]
  cases l[i]? <;> rfl
theorem bytes_extract (l : Bs) (a b : Nat) : (bytes l).extract a b = bytes ((l.take b).drop a) := by
  apply ByteArray.ext
  rw [ByteArray.data_extract]
  show (Array.mk l).extract a b = Array.mk ((l.take b).drop a)
  rw [List.extract_toArray, List.extract_eq_take_drop, List.drop_take]
theorem bytes_inj {l m : Bs} (h : bytes l = bytes m) : l = m := congrArg (fun s : ByteArray => s.data.toList) h
theorem bytes_eq {l m : Bs} : bytes l = bytes m ↔ l = m := ⟨bytes_inj, fun h => by rw [h]⟩
theorem bytes_append (l m : Bs) : bytes l ++ bytes m = bytes (l ++ m) := by
  apply ByteArray.ext
  simp [bytes]
theorem bytes_beq (l m : Bs) : ((bytes l).toList == (bytes m).toList) = (l == m) := by rw [bytes_list, bytes_list]
theorem bytes_less (l m : Bs) : Op.bytesLess (bytes l).toList (bytes m).toList = decide (l < m) := by rw [bytes_list, bytes_list, bytesLess_eq]
theorem vbyteH_bytes (l : Bs) (i : Nat) {K : UInt8 → Prop} (h : Hold K) : vbyteH (bytes l) i h = (i < l.length ∧ ∀ b, l[i]? = some b → K b) := by
  simp only [vbyteH, vbyte, bytes_size, bytes_get]
theorem vbyteH_cons (c : UInt8) (l : Bs) {K : UInt8 → Prop} (h : Hold K) : vbyteH (bytes (c :: l)) 0 h = K c := by
  simp [vbyteH, vbyte, bytes_size, bytes_get]
attribute [go_sem high] vbyteH_cons
abbrev vS (l : Bs) : CV := .d (.v (.string (bytes l)))
abbrev cS (l : Bs) : AV := .d (.v (.string (bytes l)))
abbrev aS (l : Bs) : AT := .cs false [.d (.v (.string (bytes l)))]
abbrev dT (l : Bs) : D := .v (.string (bytes l))
attribute [go_sem] bytes_mk bytes_empty bytes_size bytes_extract bytes_append bytes_beq bytes_less vbyteH_bytes bytes_eq vS cS aS dT List.take_length
theorem wrapS {i n : Nat} (h : i < n) (hn : n ≤ 4611686018427387904) : IntKind.i64.wrap ((i : Int) + 1) = ((i + 1 : Nat) : Int) := by
  rw [wrap64] <;> omega
theorem drop_at {α : Type} {l : List α} {i : Nat} {x : α} (hx : l[i]? = some x) : l.drop i = x :: l.drop (i + 1) := by
  have hil := (List.getElem?_eq_some_iff.1 hx).1
  rw [List.drop_eq_getElem_cons hil]; congr 1; exact Option.some.inj ((List.getElem?_eq_getElem hil).symm.trans hx)

/-! ### The order of strings -/
theorem lt_irr (l : Bs) : ¬ l < l := List.lt_irrefl l
theorem lt_tr {l m n : Bs} (h : l < m) (h' : m < n) : l < n := List.lt_trans h h'
theorem lt_tri (l m : Bs) : l < m ∨ l = m ∨ m < l := by
  by_cases h1 : l < m
  · exact .inl h1
  · by_cases h2 : m < l
    · exact .inr (.inr h2)
    · exact .inr (.inl (List.le_antisymm h2 h1))
theorem lt_as {l m : Bs} (h : l < m) : ¬ m < l := fun h' => lt_irr l (lt_tr h h')
/-- How two strings stand to each other. -/
def cmpB (l m : Bs) : Int := if l = m then 0 else if l < m then -1 else 1
theorem compare_eq : ∀ (l m : Bs), Lib.compareBytes l m = cmpB l m
  | [], [] => rfl
  | [], y :: m => rfl
  | x :: l, [] => rfl
  | x :: l, y :: m => by
    have ih := compare_eq l m
    unfold Lib.compareBytes
    unfold cmpB at ih ⊢
    have h0 : (x :: l < y :: m) ↔ x < y ∨ x = y ∧ l < m := List.cons_lt_cons_iff
    by_cases hxy : x = y
    · subst hxy
      have h1 : ¬ x < x := UInt8.lt_irrefl x
      rw [if_neg h1, if_neg h1, ih]
      simp [h0, h1]
    · by_cases hlt : x < y
      · rw [if_pos hlt]; simp [h0, hlt, hxy]
      · have hgt : y < x := UInt8.lt_of_le_of_ne (UInt8.not_lt.1 hlt) (Ne.symm hxy)
        rw [if_neg hlt, if_pos hgt]; simp [h0, hlt, hxy]
theorem compare_data (l m : Bs) : Lib.compareBytes (bytes l).data.toList (bytes m).data.toList = cmpB l m := compare_eq l m
theorem cmpB_lt {l m : Bs} : cmpB l m < 0 ↔ l < m := by
  unfold cmpB
  split
  · rename_i h; subst h; simp [lt_irr]
  · split <;> simp [*]
theorem cmpB_eq {l m : Bs} : cmpB l m = 0 ↔ l = m := by
  unfold cmpB
  split
  · simp [*]
  · split <;> simp [*]
theorem cmpB_range (l m : Bs) : cmpB l m = 0 ∨ cmpB l m = -1 ∨ cmpB l m = 1 := by
  unfold cmpB; split <;> (try split) <;> simp
attribute [go_sem] compare_data bytes_data

/-! ### Runes -/
theorem dec_lo {l : Bs} {p : Nat} {c : UInt8} (hx : l[p]? = some c) (h : c.toNat < 128) : Utf8.decode (bytes l) p = (c.toNat, 1) := by
  have h1 : (bytes l).get! p = c := by rw [bytes_get!]; simp [List.getD, hx]
  unfold Utf8.decode
  simp only [Nat.add_zero, h1]
  rw [if_pos h]
theorem dec_hi {l : Bs} {p : Nat} {c : UInt8} (hx : l[p]? = some c) (h : 128 ≤ c.toNat) : 128 ≤ (Utf8.decode (bytes l) p).1 := by
  have h1 : (bytes l).get! p = c := by rw [bytes_get!]; simp [List.getD, hx]
  unfold Utf8.decode
  simp only [Nat.add_zero, h1]
  rw [if_neg (by omega)]
  repeat' split
  all_goals first
    | exact (by decide : 128 ≤ Utf8.runeError)
    | (rename_i h2; simp only [Bool.and_eq_true, decide_eq_true_eq, ge_iff_le] at h2; omega)
    | (rename_i h2; simp only [ge_iff_le] at h2; omega)
end Go.Proofs.YtijfncaphfaijaaGreatDoor
namespace Go.Proofs.YtijfncaphfaijaaGreatDoor
open Go.Eng
set_option linter.unusedSimpArgs false
set_option maxRecDepth 10000

theorem u8_round (c : UInt8) : c.toNat.toUInt8 = c := by simp
attribute [go_sem] u8_round
abbrev vU (c : UInt8) : CV := .d (.v (.int .u8 c.toNat))
abbrev vR (n : Int) : CV := .d (.v (.int .i32 n))

theorem indexByte_ok (l : Bs) (c : UInt8) : Meets Tryz.prog 239 [(false, [vS l]), (false, [vU c])] (rOne (vI (Lib.indexByte l c))) := by
  refine meets Tryz.func239 rfl rfl Tryz.ntmps239 Tryz.results239 rfl ?_
  simp -dsimp -implicitDefEqProofs only [go_sem, ↓reduceIte, reduceCtorEq, Nat.reduceLT, Nat.reduceLeDiff, Nat.reduceEqDiff, Nat.reduceAdd, Nat.reduceMul, Nat.reduceSub, Nat.reduceBEq, Int.reduceLT, Int.reduceLE, Int.reduceEq, Int.reduceBEq, Int.reduceNeg]
theorem indexL_ok (l : Bs) (c : UInt8) : Meets Tryz.prog 221 [(false, [vS l]), (false, [vS [c]])] (rOne (vI (Lib.indexByte l c))) := by
  refine meets Tryz.func221 rfl rfl Tryz.ntmps221 Tryz.results221 rfl ?_
  simp -dsimp -implicitDefEqProofs only [go_sem, ↓reduceIte, reduceCtorEq, Nat.reduceLT, Nat.reduceLeDiff, Nat.reduceEqDiff, Nat.reduceAdd, Nat.reduceMul, Nat.reduceSub, Nat.reduceBEq, Int.reduceLT, Int.reduceLE, Int.reduceEq, Int.reduceBEq, Int.reduceNeg]
  refine ⟨fun h => by subst h; simp [Lib.indexByte], fun h => callP (indexByte_ok l c) ?_⟩
  simp -dsimp -implicitDefEqProofs only [go_sem, ↓reduceIte, reduceCtorEq, Nat.reduceLT, Nat.reduceLeDiff, Nat.reduceEqDiff, Nat.reduceAdd, Nat.reduceMul, Nat.reduceSub, Nat.reduceBEq, Int.reduceLT, Int.reduceLE, Int.reduceEq, Int.reduceBEq, Int.reduceNeg]
theorem index_ok (l : Bs) (c : UInt8) : Meets Tryz.prog 190 [(false, [vS l]), (false, [vS [c]])] (rOne (vI (Lib.indexByte l c))) := by
  refine meets Tryz.func190 rfl rfl Tryz.ntmps190 Tryz.results190 rfl ?_
  simp -dsimp -implicitDefEqProofs only [go_sem, ↓reduceIte, reduceCtorEq, Nat.reduceLT, Nat.reduceLeDiff, Nat.reduceEqDiff, Nat.reduceAdd, Nat.reduceMul, Nat.reduceSub, Nat.reduceBEq, Int.reduceLT, Int.reduceLE, Int.reduceEq, Int.reduceBEq, Int.reduceNeg]
  refine callP (indexL_ok l c) ?_
  simp -dsimp -implicitDefEqProofs only [go_sem, ↓reduceIte, reduceCtorEq, Nat.reduceLT, Nat.reduceLeDiff, Nat.reduceEqDiff, Nat.reduceAdd, Nat.reduceMul, Nat.reduceSub, Nat.reduceBEq, Int.reduceLT, Int.reduceLE, Int.reduceEq, Int.reduceBEq, Int.reduceNeg]
theorem count_ok (l : Bs) (c : UInt8) : Meets Tryz.prog 147 [(false, [vS l]), (false, [vS [c]])] (rOne (vI (l.count c : Nat))) := by
  refine meets Tryz.func147 rfl rfl Tryz.ntmps147 Tryz.results147 rfl ?_
  simp -dsimp -implicitDefEqProofs only [go_sem, ↓reduceIte, reduceCtorEq, Nat.reduceLT, Nat.reduceLeDiff, Nat.reduceEqDiff, Nat.reduceAdd, Nat.reduceMul, Nat.reduceSub, Nat.reduceBEq, Int.reduceLT, Int.reduceLE, Int.reduceEq, Int.reduceBEq, Int.reduceNeg]
  rfl

/-! ### Pieces between dots -/
def splitB : Bs → List Bs
  | [] => [[]]
  | c :: r => if c = 46 then [] :: splitB r else match splitB r with
    | [] => [[c]]
    | x :: xs => (c :: x) :: xs
def afterDot : Bs → Bs
  | [] => []
  | c :: r => if c = 46 then r else afterDot r
theorem splitB_ne : ∀ l, splitB l ≠ []
  | [] => by simp [splitB]
  | c :: r => by
    unfold splitB
    split
    · simp
    · split <;> simp
theorem splitB_none : ∀ {l : Bs}, 46 ∉ l → splitB l = [l]
  | [], _ => rfl
  | c :: r, h => by
    have hc : ¬ c = 46 := fun e => h (by simp [e])
    have ih := splitB_none (l := r) (fun hh => h (List.mem_cons_of_mem _ hh))
    simp [splitB, hc, ih]
theorem splitB_dot : ∀ {a b : Bs}, 46 ∉ a → splitB (a ++ 46 :: b) = a :: splitB b
  | [], b, _ => by simp [splitB]
  | c :: a, b, h => by
    have hc : ¬ c = 46 := fun e => h (by simp [e])
    have ih := splitB_dot (a := a) (b := b) (fun hh => h (List.mem_cons_of_mem _ hh))
    simp [splitB, hc, ih]
theorem splitB_length : ∀ l : Bs, (splitB l).length = l.count 46 + 1
  | [] => rfl
  | c :: r => by
    have ih := splitB_length r
    unfold splitB
    split
    · rename_i h; subst h; simp [ih]
    · rename_i h
      have h2 : List.count 46 (c :: r) = r.count 46 := by rw [List.count_cons_of_ne h]
      split
      · rename_i e; exact absurd e (splitB_ne r)
      · rename_i x xs e; rw [e] at ih; rw [h2]; simpa using ih
theorem afterDot_none : ∀ {l : Bs}, 46 ∉ l → afterDot l = []
  | [], _ => rfl
  | c :: r, h => by
    have hc : ¬ c = 46 := fun e => h (by simp [e])
    simp [afterDot, hc, afterDot_none (l := r) (fun hh => h (List.mem_cons_of_mem _ hh))]
theorem afterDot_dot : ∀ {a b : Bs}, 46 ∉ a → afterDot (a ++ 46 :: b) = b
  | [], b, _ => by simp [afterDot]
  | c :: a, b, h => by
    have hc : ¬ c = 46 := fun e => h (by simp [e])
    simp [afterDot, hc, afterDot_dot (a := a) (b := b) (fun hh => h (List.mem_cons_of_mem _ hh))]
/-- Where the first dot stands. -/
theorem dot_cases (l : Bs) : (Lib.indexByte l 46 = -1 ∧ 46 ∉ l) ∨ ∃ a b, l = a ++ 46 :: b ∧ 46 ∉ a ∧ Lib.indexByte l 46 = (a.length : Nat) := by
  have hge := Lib.indexByte_ge l 46
  by_cases h : Lib.indexByte l 46 = -1
  · refine .inl ⟨h, fun hm => ?_⟩
    obtain ⟨k, hk⟩ := List.mem_iff_getElem?.1 hm
    exact Lib.indexByte_none h k hk
  · obtain ⟨o, ho⟩ : ∃ o : Nat, Lib.indexByte l 46 = o := ⟨(Lib.indexByte l 46).toNat, by omega⟩
    obtain ⟨h1, h2⟩ := Lib.indexByte_some ho
    have hlt := (List.getElem?_eq_some_iff.1 h1).1
    refine .inr ⟨l.take o, l.drop (o + 1), ?_, fun hm => ?_, ?_⟩
    · rw [← drop_at h1, List.take_append_drop]
    · obtain ⟨k, hk⟩ := List.mem_iff_getElem?.1 hm
      rw [List.getElem?_take] at hk
      split at hk
      · rename_i hko; exact h2 k hko hk
      · cases hk
    · rw [ho, List.length_take]; omega
theorem afterDot_le : ∀ l : Bs, (afterDot l).length ≤ l.length
  | [] => Nat.le_refl _
  | c :: r => by
    have := afterDot_le r
    unfold afterDot
    split <;> simp <;> omega
theorem afterDot_lt {l : Bs} (h : l ≠ []) : (afterDot l).length < l.length := by
  cases l with
  | nil => exact absurd rfl h
  | cons c r =>
    have := afterDot_le r
    unfold afterDot
    split <;> simp <;> omega

/-! ### Labels and names -/
def edgeI (n : Int) : Bool := decide (97 ≤ n) && decide (n ≤ 122) || decide (48 ≤ n) && decide (n ≤ 57)
def edgeB (c : UInt8) : Bool := edgeI c.toNat
/-- May a label have this byte there? -/
def okAt (l : Bs) (i : Nat) : Bool := match l[i]? with
  | some c => if i + 1 = l.length then edgeB c else if i = 0 then edgeB c || c == 95 else c == 45 || edgeB c
  | none => true
def labelB (l : Bs) : Bool := decide (1 ≤ l.length) && decide (l.length ≤ 16) && (List.range l.length).all (okAt l)
def isName (l : Bs) : Bool := decide (l.length ≤ 64) && decide ((splitB l).length ≤ 8) && (splitB l).all labelB
def upB (l : Bs) : Bs := if isName l then afterDot l else []
theorem isName_nil : isName [] = false := by decide
theorem upB_lt {l : Bs} (h : upB l ≠ []) : (upB l).length < l.length := by
  unfold upB at *
  split
  · rename_i h1
    refine afterDot_lt fun e => ?_
    subst e
    simp [isName_nil] at h1
  · rename_i h1; rw [if_neg h1] at h; exact absurd rfl h
theorem upB_lt' {l : Bs} (h : l ≠ []) : (upB l).length < l.length := by
  unfold upB
  split
  · exact afterDot_lt h
  · cases l <;> simp_all
def belowF : Nat → Bs → Bs → Bool
  | 0, _, _ => false
  | m + 1, s, t => if upB s = [] then false else upB s == t || belowF m (upB s) t
def belowB (s t : Bs) : Bool := belowF s.length s t
theorem upB_nil : upB [] = [] := by simp [upB, isName_nil]
theorem belowF_same : ∀ (m k : Nat) (s t : Bs), s.length ≤ m → s.length ≤ k → belowF m s t = belowF k s t
  | 0, 0, _, _, _, _ => rfl
  | 0, k + 1, s, t, h, _ => by
    have : s = [] := List.length_eq_zero_iff.1 (by omega)
    subst this
    simp [belowF, upB_nil]
  | m + 1, 0, s, t, _, h => by
    have : s = [] := List.length_eq_zero_iff.1 (by omega)
    subst this
    simp [belowF, upB_nil]
  | m + 1, k + 1, s, t, h1, h2 => by
    unfold belowF
    split
    · rfl
    · rename_i h
      have := upB_lt h
      rw [belowF_same m k (upB s) t (by omega) (by omega)]
theorem belowB_eq (s t : Bs) : belowB s t = if upB s = [] then false else upB s == t || belowB (upB s) t := by
  unfold belowB
  rw [belowF_same s.length (s.length + 1) s t (Nat.le_refl _) (by omega), belowF]
  split
  · rfl
  · rename_i h
    have := upB_lt h
    rw [belowF_same s.length (upB s).length (upB s) t (by omega) (Nat.le_refl _)]
def underB (s a : Bs) : Bool := isName s && (a == [] || s == a || belowB s a)

theorem edge_ok (n : Int) : Meets Tryz.prog 192 [(false, [vR n])] (rOne (vB (edgeI n))) := by
  refine meets Tryz.func192 rfl rfl Tryz.ntmps192 Tryz.results192 rfl ?_
  simp -dsimp -implicitDefEqProofs only [go_sem, ↓reduceIte, reduceCtorEq, Nat.reduceLT, Nat.reduceLeDiff, Nat.reduceEqDiff, Nat.reduceAdd, Nat.reduceMul, Nat.reduceSub, Nat.reduceBEq, Int.reduceLT, Int.reduceLE, Int.reduceEq, Int.reduceBEq, Int.reduceNeg]
  repeat' (first | with_reducible apply And.intro | with_reducible intro _ | with_reducible exact drawn (by kernel_rfl) | omega)
  all_goals (unfold edgeI; rw [Bool.eq_iff_iff]; simp; omega)
theorem inner_ok (n : Int) : Meets Tryz.prog 193 [(false, [vR n])] (rOne (vB (n == 45 || edgeI n))) := by
  refine meets Tryz.func193 rfl rfl Tryz.ntmps193 Tryz.results193 rfl ?_
  simp -dsimp -implicitDefEqProofs only [go_sem, ↓reduceIte, reduceCtorEq, Nat.reduceLT, Nat.reduceLeDiff, Nat.reduceEqDiff, Nat.reduceAdd, Nat.reduceMul, Nat.reduceSub, Nat.reduceBEq, Int.reduceLT, Int.reduceLE, Int.reduceEq, Int.reduceBEq, Int.reduceNeg]
  repeat' (first | with_reducible apply And.intro | with_reducible intro _ | with_reducible exact drawn (by kernel_rfl) | (refine callP (edge_ok _) ?_; simp -dsimp -implicitDefEqProofs only [go_sem, ↓reduceIte, reduceCtorEq, Nat.reduceLT, Nat.reduceLeDiff, Nat.reduceEqDiff, Nat.reduceAdd, Nat.reduceMul, Nat.reduceSub, Nat.reduceBEq, Int.reduceLT, Int.reduceLE, Int.reduceEq, Int.reduceBEq, Int.reduceNeg]) | omega)
  all_goals simp [*]
/-! ### label -/
theorem u8_is (c : UInt8) (n : Nat) (h : n < 256 := by omega) : (c == n.toUInt8) = decide ((c.toNat : Int) = n) := by
  rw [Bool.eq_iff_iff]
  simp only [beq_iff_eq, decide_eq_true_eq]
  constructor
  · intro e; subst e; simp; omega
  · intro e
    apply UInt8.toNat_inj.1
    simp; omega
structure LbInv (l : Bs) where
  p : Nat
  le : p ≤ l.length
  ok : ∀ j, j < p → okAt l j = true
theorem okAt_lt {l : Bs} {i : Nat} {c : UInt8} (h : l[i]? = some c) : okAt l i = if i + 1 = l.length then edgeB c else if i = 0 then edgeB c || c == 95 else c == 45 || edgeB c := by
  unfold okAt; rw [h]
theorem labelB_bad {l : Bs} {i : Nat} (hi : i < l.length) (h : okAt l i = false) : labelB l = false := by
  unfold labelB
  have : (List.range l.length).all (okAt l) = false := by
    rw [Bool.eq_false_iff]
    intro hh
    rw [List.all_eq_true] at hh
    have := hh i (List.mem_range.2 hi)
    rw [h] at this; cases this
  rw [this, Bool.and_false]
theorem labelB_good {l : Bs} (h1 : l ≠ []) (h2 : l.length ≤ 16) (h : ∀ j, j < l.length → okAt l j = true) : labelB l = true := by
  unfold labelB
  have h3 : 1 ≤ l.length := by cases l <;> simp_all
  have : (List.range l.length).all (okAt l) = true := by
    rw [List.all_eq_true]
    exact fun j hj => h j (List.mem_range.1 hj)
  simp [this, h3, h2]

theorem label_ok (l : Bs) : Meets Tryz.prog 149 [(false, [vS l])] (rOne (vB (labelB l))) := by
  refine meets Tryz.func149 rfl rfl Tryz.ntmps149 Tryz.results149 rfl ?_
  simp -dsimp -implicitDefEqProofs only [go_sem, ↓reduceIte, reduceCtorEq, Nat.reduceLT, Nat.reduceLeDiff, Nat.reduceEqDiff, Nat.reduceAdd, Nat.reduceMul, Nat.reduceSub, Nat.reduceBEq, Int.reduceLT, Int.reduceLE, Int.reduceEq, Int.reduceBEq, Int.reduceNeg]
  refine ⟨fun h0 => ⟨fun h1 => ?_, fun h1 => ?_⟩, fun h0 => by subst h0; decide⟩
  · unfold labelB
    rw [show decide (l.length ≤ 16) = false by simp; omega]; simp
  have h2 : l.length ≤ 16 := by omega
  have hl1 : 1 ≤ l.length := by cases l <;> simp_all
  refine vfor sitOk (ι := LbInv l) (fun v => ⟨53, [(13, aP 72 0), (0, aS l)], [(72, some (.it (bytes l) v.p))], 80⟩) (fun v => l.length - v.p) ⟨0, by omega, fun j hj => by omega⟩ ?_ ?_
  · simp -dsimp -implicitDefEqProofs only [go_sem, ↓reduceIte, reduceCtorEq, Nat.reduceLT, Nat.reduceLeDiff, Nat.reduceEqDiff, Nat.reduceAdd, Nat.reduceMul, Nat.reduceSub, Nat.reduceBEq, Int.reduceLT, Int.reduceLE, Int.reduceEq, Int.reduceBEq, Int.reduceNeg]
  intro ⟨p, hp, hok⟩
  have hw : IntKind.i64.wrap ((l.length : Int) - 1) = ((l.length - 1 : Nat) : Int) := by rw [wrap64] <;> omega
  simp -dsimp -implicitDefEqProofs only [hw, go_sem, ↓reduceIte, reduceCtorEq, Nat.reduceLT, Nat.reduceLeDiff, Nat.reduceEqDiff, Nat.reduceAdd, Nat.reduceMul, Nat.reduceSub, Nat.reduceBEq, Int.reduceLT, Int.reduceLE, Int.reduceEq, Int.reduceBEq, Int.reduceNeg]
  refine ⟨fun hlt => ?_, fun hge => ?_⟩
  · obtain ⟨c, hx⟩ : ∃ c, l[p]? = some c := ⟨_, List.getElem?_eq_getElem hlt⟩
    have hat := okAt_lt hx
    have h95 : (c == 95) = decide ((c.toNat : Int) = 95) := u8_is c 95
    have h45 : (c == 45) = decide ((c.toNat : Int) = 45) := u8_is c 45
    have bad : okAt l p = false → false = labelB l := fun h => (labelB_bad hlt h).symm
    have hi2 : ((p : Int) = ((l.length - 1 : Nat) : Int)) = (p + 1 = l.length) := by rw [eq_iff_iff]; omega
    have hi3 : ((p : Int) = 0) = (p = 0) := by rw [eq_iff_iff]; omega
    rw [h95, h45] at hat
    by_cases hc : c.toNat < 128
    · have hd := dec_lo hx hc
      simp -dsimp -implicitDefEqProofs only [hd, go_sem, ↓reduceIte, reduceCtorEq, Nat.reduceLT, Nat.reduceLeDiff, Nat.reduceEqDiff, Nat.reduceAdd, Nat.reduceMul, Nat.reduceSub, Nat.reduceBEq, Int.reduceLT, Int.reduceLE, Int.reduceEq, Int.reduceBEq, Int.reduceNeg]
      repeat' (first | with_reducible apply And.intro | with_reducible intro _ | with_reducible exact drawn (by kernel_rfl) | (refine callP (edge_ok _) ?_; simp -dsimp -implicitDefEqProofs only [hw, hd, go_sem, ↓reduceIte, reduceCtorEq, Nat.reduceLT, Nat.reduceLeDiff, Nat.reduceEqDiff, Nat.reduceAdd, Nat.reduceMul, Nat.reduceSub, Nat.reduceBEq, Int.reduceLT, Int.reduceLE, Int.reduceEq, Int.reduceBEq, Int.reduceNeg]) | (refine callP (inner_ok _) ?_; simp -dsimp -implicitDefEqProofs only [hw, hd, go_sem, ↓reduceIte, reduceCtorEq, Nat.reduceLT, Nat.reduceLeDiff, Nat.reduceEqDiff, Nat.reduceAdd, Nat.reduceMul, Nat.reduceSub, Nat.reduceBEq, Int.reduceLT, Int.reduceLE, Int.reduceEq, Int.reduceBEq, Int.reduceNeg]) | omega)
      all_goals simp only [hi2, hi3, beq_iff_eq, Bool.or_eq_true, Bool.or_eq_false_iff, beq_eq_false_iff_ne, ne_eq] at *
      all_goals first
        | (with_reducible refine bad ?_; rw [hat]; simp [edgeB, *]; done)
        | (refine again ⟨p + 1, by omega, fun j hj => by
            by_cases hjp : j = p
            · subst hjp; rw [hat]; split <;> (try split) <;> simp_all [edgeB]
            · exact hok j (by omega)⟩ (by simp; omega) ?_
           simp -dsimp -implicitDefEqProofs only [go_sem, ↓reduceIte, reduceCtorEq, Nat.reduceLT, Nat.reduceLeDiff, Nat.reduceEqDiff, Nat.reduceAdd, Nat.reduceMul, Nat.reduceSub, Nat.reduceBEq, Int.reduceLT, Int.reduceLE, Int.reduceEq, Int.reduceBEq, Int.reduceNeg]; done)
        | trace_state
    · have hd : 128 ≤ (Utf8.decode (bytes l) p).1 := dec_hi hx (by omega)
      obtain ⟨n, w, he⟩ : ∃ n w, Utf8.decode (bytes l) p = (n, w) := ⟨_, _, rfl⟩
      rw [he] at hd
      have hn : edgeI n = false := by simp only at hd; unfold edgeI; simp; omega
      have hb : okAt l p = false := by
        have h1 : edgeB c = false := by unfold edgeB edgeI; simp; omega
        have h2 : decide ((c.toNat : Int) = 95) = false := by simp; omega
        have h3 : decide ((c.toNat : Int) = 45) = false := by simp; omega
        rw [hat, h1, h2, h3]; simp
      have hbad := bad hb
      simp only at hd
      simp -dsimp -implicitDefEqProofs only [he, go_sem, ↓reduceIte, reduceCtorEq, Nat.reduceLT, Nat.reduceLeDiff, Nat.reduceEqDiff, Nat.reduceAdd, Nat.reduceMul, Nat.reduceSub, Nat.reduceBEq, Int.reduceLT, Int.reduceLE, Int.reduceEq, Int.reduceBEq, Int.reduceNeg]
      repeat' (first | with_reducible apply And.intro | with_reducible intro _ | with_reducible exact drawn (by kernel_rfl) | (refine callP (edge_ok _) ?_; simp -dsimp -implicitDefEqProofs only [hw, he, go_sem, ↓reduceIte, reduceCtorEq, Nat.reduceLT, Nat.reduceLeDiff, Nat.reduceEqDiff, Nat.reduceAdd, Nat.reduceMul, Nat.reduceSub, Nat.reduceBEq, Int.reduceLT, Int.reduceLE, Int.reduceEq, Int.reduceBEq, Int.reduceNeg]) | (refine callP (inner_ok _) ?_; simp -dsimp -implicitDefEqProofs only [hw, he, go_sem, ↓reduceIte, reduceCtorEq, Nat.reduceLT, Nat.reduceLeDiff, Nat.reduceEqDiff, Nat.reduceAdd, Nat.reduceMul, Nat.reduceSub, Nat.reduceBEq, Int.reduceLT, Int.reduceLE, Int.reduceEq, Int.reduceBEq, Int.reduceNeg]) | omega)
      all_goals first
        | exact hbad
        | (exfalso; simp_all; done)
        | (exfalso; simp [hn] at *; omega)
        | trace_state
  · exact (labelB_good h0 h2 fun j hj => hok j (by omega)).symm
end Go.Proofs.YtijfncaphfaijaaGreatDoor
namespace Go.Proofs.YtijfncaphfaijaaGreatDoor
open Go.Eng
set_option linter.unusedSimpArgs false
set_option maxRecDepth 10000

structure NmInv (l : Bs) where
  s : Bs
  eq : (splitB l).all labelB = (splitB s).all labelB
  le : s.length ≤ l.length

theorem name_ok (l : Bs) : Meets Tryz.prog 94 [(false, [vS l]), (false, [vI 8]), (false, [vI 64])] (rOne (vB (isName l))) := by
  have hcount := splitB_length l
  refine meets Tryz.func94 rfl rfl Tryz.ntmps94 Tryz.results94 rfl ?_
  simp -dsimp -implicitDefEqProofs only [go_sem, ↓reduceIte, reduceCtorEq, Nat.reduceLT, Nat.reduceLeDiff, Nat.reduceEqDiff, Nat.reduceAdd, Nat.reduceMul, Nat.reduceSub, Nat.reduceBEq, Int.reduceLT, Int.reduceLE, Int.reduceEq, Int.reduceBEq, Int.reduceNeg]
  refine ⟨fun h1 => callP (count_ok l 46) ?_, fun h1 => by unfold isName; rw [show decide (l.length ≤ 64) = false by simp; omega]; simp⟩
  simp -dsimp -implicitDefEqProofs only [go_sem, ↓reduceIte, reduceCtorEq, Nat.reduceLT, Nat.reduceLeDiff, Nat.reduceEqDiff, Nat.reduceAdd, Nat.reduceMul, Nat.reduceSub, Nat.reduceBEq, Int.reduceLT, Int.reduceLE, Int.reduceEq, Int.reduceBEq, Int.reduceNeg]
  refine ⟨fun h2 => by unfold isName; rw [show decide ((splitB l).length ≤ 8) = false by simp; omega]; simp, fun h2 => ?_⟩
  refine callW rfl Tryz.func148 rfl rfl Tryz.ntmps148 Tryz.results148 rfl ?_
  simp -dsimp -implicitDefEqProofs only [go_sem, ↓reduceIte, reduceCtorEq, Nat.reduceLT, Nat.reduceLeDiff, Nat.reduceEqDiff, Nat.reduceAdd, Nat.reduceMul, Nat.reduceSub, Nat.reduceBEq, Int.reduceLT, Int.reduceLE, Int.reduceEq, Int.reduceBEq, Int.reduceNeg]
  refine callW rfl Tryz.func191 rfl rfl Tryz.ntmps191 Tryz.results191 rfl ?_
  simp -dsimp -implicitDefEqProofs only [retH, go_sem, ↓reduceIte, reduceCtorEq, Nat.reduceLT, Nat.reduceLeDiff, Nat.reduceEqDiff, Nat.reduceAdd, Nat.reduceMul, Nat.reduceSub, Nat.reduceBEq, Int.reduceLT, Int.reduceLE, Int.reduceEq, Int.reduceBEq, Int.reduceNeg]
  refine vrange sitOk rfl [] [(6, aP 0 0)] rfl rfl ?_ Tryz.func222 rfl rfl Tryz.ntmps222 Tryz.results222 rfl ?_
  · simp -dsimp -implicitDefEqProofs only [go_sem, ↓reduceIte, reduceCtorEq, Nat.reduceLT, Nat.reduceLeDiff, Nat.reduceEqDiff, Nat.reduceAdd, Nat.reduceMul, Nat.reduceSub, Nat.reduceBEq, Int.reduceLT, Int.reduceLE, Int.reduceEq, Int.reduceBEq, Int.reduceNeg]
  simp -dsimp -implicitDefEqProofs only [go_sem, ↓reduceIte, reduceCtorEq, Nat.reduceLT, Nat.reduceLeDiff, Nat.reduceEqDiff, Nat.reduceAdd, Nat.reduceMul, Nat.reduceSub, Nat.reduceBEq, Int.reduceLT, Int.reduceLE, Int.reduceEq, Int.reduceBEq, Int.reduceNeg]
  generalize hL : Lp.mk 24 _ _ _ _ _ = L
  refine vfor sitOk (ι := NmInv l) (fun v => ⟨52, [(0, .cs false [.yld 216]), (1, aP 128 0), (2, aP 120 0), (3, aP 136 0)], [(216, some (.lp L)), (136, some (.var [cI 0] true)), (128, some (.var [cS [46]] true)), (120, some (.var [cS v.s] true)), (0, some (.var [cB false] true))], 500⟩) (fun v => v.s.length) ⟨l, rfl, Nat.le_refl _⟩ ?_ ?_
  · simp -dsimp -implicitDefEqProofs only [← hL, go_sem, ↓reduceIte, reduceCtorEq, Nat.reduceLT, Nat.reduceLeDiff, Nat.reduceEqDiff, Nat.reduceAdd, Nat.reduceMul, Nat.reduceSub, Nat.reduceBEq, Int.reduceLT, Int.reduceLE, Int.reduceEq, Int.reduceBEq, Int.reduceNeg]
  intro ⟨s, he, hle⟩
  simp -dsimp -implicitDefEqProofs only [go_sem, ↓reduceIte, reduceCtorEq, Nat.reduceLT, Nat.reduceLeDiff, Nat.reduceEqDiff, Nat.reduceAdd, Nat.reduceMul, Nat.reduceSub, Nat.reduceBEq, Int.reduceLT, Int.reduceLE, Int.reduceEq, Int.reduceBEq, Int.reduceNeg]
  refine callP (index_ok s 46) ?_
  rcases dot_cases s with ⟨hi, hn⟩ | ⟨a, b, rfl, ha, hi⟩
  · simp -dsimp -implicitDefEqProofs only [hi, go_sem, ↓reduceIte, reduceCtorEq, Nat.reduceLT, Nat.reduceLeDiff, Nat.reduceEqDiff, Nat.reduceAdd, Nat.reduceMul, Nat.reduceSub, Nat.reduceBEq, Int.reduceLT, Int.reduceLE, Int.reduceEq, Int.reduceBEq, Int.reduceNeg]
    refine yieldW sitOk ?_
    simp -dsimp -implicitDefEqProofs only [← hL, go_sem, ↓reduceIte, reduceCtorEq, Nat.reduceLT, Nat.reduceLeDiff, Nat.reduceEqDiff, Nat.reduceAdd, Nat.reduceMul, Nat.reduceSub, Nat.reduceBEq, Int.reduceLT, Int.reduceLE, Int.reduceEq, Int.reduceBEq, Int.reduceNeg]
    intro ro
    refine callP (label_ok s) ?_
    have hs : (splitB l).all labelB = labelB s := by rw [he, splitB_none hn]; simp
    simp -dsimp -implicitDefEqProofs only [retH, ← hL, go_sem, ↓reduceIte, reduceCtorEq, Nat.reduceLT, Nat.reduceLeDiff, Nat.reduceEqDiff, Nat.reduceAdd, Nat.reduceMul, Nat.reduceSub, Nat.reduceBEq, Int.reduceLT, Int.reduceLE, Int.reduceEq, Int.reduceBEq, Int.reduceNeg]
    refine ⟨fun h => ?_, fun h => ?_⟩
    all_goals simp [isName, hs, h]
    all_goals omega
  · have hw : IntKind.i64.wrap ((a.length : Int) + 0) = (a.length : Int) := by rw [wrap64] <;> simp at hle ⊢ <;> omega
    have hw2 : IntKind.i64.wrap ((a.length : Int) + 1) = ((a.length + 1 : Nat) : Int) := by rw [wrap64] <;> simp at hle ⊢ <;> omega
    have hs : (splitB l).all labelB = (labelB a && (splitB b).all labelB) := by rw [he, splitB_dot ha]; simp
    have hlen : (a.length : Int) ≤ ((a ++ 46 :: b).length : Nat) := by simp; omega
    have hlen2 : ((a.length + 1 : Nat) : Int) ≤ ((a ++ 46 :: b).length : Nat) := by simp; omega
    have ht : (a ++ 46 :: b).take a.length = a := by simp
    have hd : ((a ++ 46 :: b).drop (a.length + 1)) = b := by simp
    have h0 : ¬ ((a.length : Int) < 0) := by omega
    simp -dsimp -implicitDefEqProofs only [hi, hw, hw2, hlen, hlen2, ht, hd, h0, go_sem, ↓reduceIte, reduceCtorEq, Nat.reduceLT, Nat.reduceLeDiff, Nat.reduceEqDiff, Nat.reduceAdd, Nat.reduceMul, Nat.reduceSub, Nat.reduceBEq, Int.reduceLT, Int.reduceLE, Int.reduceEq, Int.reduceBEq, Int.reduceNeg]
    refine ⟨by omega, yieldW sitOk ?_⟩
    simp -dsimp -implicitDefEqProofs only [← hL, go_sem, ↓reduceIte, reduceCtorEq, Nat.reduceLT, Nat.reduceLeDiff, Nat.reduceEqDiff, Nat.reduceAdd, Nat.reduceMul, Nat.reduceSub, Nat.reduceBEq, Int.reduceLT, Int.reduceLE, Int.reduceEq, Int.reduceBEq, Int.reduceNeg]
    intro ro
    refine callP (label_ok a) ?_
    simp -dsimp -implicitDefEqProofs only [hi, hw, hw2, hlen, hlen2, ht, hd, h0, go_sem, ↓reduceIte, reduceCtorEq, Nat.reduceLT, Nat.reduceLeDiff, Nat.reduceEqDiff, Nat.reduceAdd, Nat.reduceMul, Nat.reduceSub, Nat.reduceBEq, Int.reduceLT, Int.reduceLE, Int.reduceEq, Int.reduceBEq, Int.reduceNeg]
    refine ⟨fun h => ?_, fun h => ?_⟩
    · simp -dsimp -implicitDefEqProofs only [retH, ← hL, go_sem, ↓reduceIte, reduceCtorEq, Nat.reduceLT, Nat.reduceLeDiff, Nat.reduceEqDiff, Nat.reduceAdd, Nat.reduceMul, Nat.reduceSub, Nat.reduceBEq, Int.reduceLT, Int.reduceLE, Int.reduceEq, Int.reduceBEq, Int.reduceNeg]
      simp [isName, hs, h]
    · refine ⟨by omega, again ⟨b, by rw [hs, h]; simp, by simp at hle; omega⟩ (by simp; omega) ?_⟩
      simp -dsimp -implicitDefEqProofs only [← hL, go_sem, ↓reduceIte, reduceCtorEq, Nat.reduceLT, Nat.reduceLeDiff, Nat.reduceEqDiff, Nat.reduceAdd, Nat.reduceMul, Nat.reduceSub, Nat.reduceBEq, Int.reduceLT, Int.reduceLE, Int.reduceEq, Int.reduceBEq, Int.reduceNeg]
theorem is_ok (l : Bs) : Meets Tryz.prog 49 [(false, [vS l])] (rOne (vB (isName l))) := by
  refine meets Tryz.func49 rfl rfl Tryz.ntmps49 Tryz.results49 rfl ?_
  simp -dsimp -implicitDefEqProofs only [go_sem, ↓reduceIte, reduceCtorEq, Nat.reduceLT, Nat.reduceLeDiff, Nat.reduceEqDiff, Nat.reduceAdd, Nat.reduceMul, Nat.reduceSub, Nat.reduceBEq, Int.reduceLT, Int.reduceLE, Int.reduceEq, Int.reduceBEq, Int.reduceNeg]
  refine callP (name_ok l) ?_
  simp -dsimp -implicitDefEqProofs only [go_sem, ↓reduceIte, reduceCtorEq, Nat.reduceLT, Nat.reduceLeDiff, Nat.reduceEqDiff, Nat.reduceAdd, Nat.reduceMul, Nat.reduceSub, Nat.reduceBEq, Int.reduceLT, Int.reduceLE, Int.reduceEq, Int.reduceBEq, Int.reduceNeg]
theorem told_ok (b : Bool) : Meets Tryz.prog 48 [(false, [vB b])] (rOne (vI (if b then 0 else 110))) := by
  cases b
  · refine meets Tryz.func48 rfl rfl Tryz.ntmps48 Tryz.results48 rfl ?_
    simp -dsimp -implicitDefEqProofs only [go_sem, ↓reduceIte, reduceCtorEq, Nat.reduceLT, Nat.reduceLeDiff, Nat.reduceEqDiff, Nat.reduceAdd, Nat.reduceMul, Nat.reduceSub, Nat.reduceBEq, Int.reduceLT, Int.reduceLE, Int.reduceEq, Int.reduceBEq, Int.reduceNeg]
  · refine meets Tryz.func48 rfl rfl Tryz.ntmps48 Tryz.results48 rfl ?_
    simp -dsimp -implicitDefEqProofs only [go_sem, ↓reduceIte, reduceCtorEq, Nat.reduceLT, Nat.reduceLeDiff, Nat.reduceEqDiff, Nat.reduceAdd, Nat.reduceMul, Nat.reduceSub, Nat.reduceBEq, Int.reduceLT, Int.reduceLE, Int.reduceEq, Int.reduceBEq, Int.reduceNeg]
theorem check_ok (l : Bs) : Meets Tryz.prog 11 [(false, [vS l])] (rOne (vI (if isName l then 0 else 110))) := by
  refine meets Tryz.func11 rfl rfl Tryz.ntmps11 Tryz.results11 rfl ?_
  simp -dsimp -implicitDefEqProofs only [go_sem, ↓reduceIte, reduceCtorEq, Nat.reduceLT, Nat.reduceLeDiff, Nat.reduceEqDiff, Nat.reduceAdd, Nat.reduceMul, Nat.reduceSub, Nat.reduceBEq, Int.reduceLT, Int.reduceLE, Int.reduceEq, Int.reduceBEq, Int.reduceNeg]
  refine callP (is_ok l) ?_
  simp -dsimp -implicitDefEqProofs only [go_sem, ↓reduceIte, reduceCtorEq, Nat.reduceLT, Nat.reduceLeDiff, Nat.reduceEqDiff, Nat.reduceAdd, Nat.reduceMul, Nat.reduceSub, Nat.reduceBEq, Int.reduceLT, Int.reduceLE, Int.reduceEq, Int.reduceBEq, Int.reduceNeg]
  refine callP (told_ok _) ?_
  simp -dsimp -implicitDefEqProofs only [go_sem, ↓reduceIte, reduceCtorEq, Nat.reduceLT, Nat.reduceLeDiff, Nat.reduceEqDiff, Nat.reduceAdd, Nat.reduceMul, Nat.reduceSub, Nat.reduceBEq, Int.reduceLT, Int.reduceLE, Int.reduceEq, Int.reduceBEq, Int.reduceNeg]
theorem cutL_ok (l : Bs) (hlen : l.length ≤ 64) : ∃ a c, Meets Tryz.prog 224 [(false, [vS l]), (false, [vS [46]])] (rTup [(false, [vS a]), (false, [vS (afterDot l)]), (false, [vB c])]) := by
  rcases dot_cases l with ⟨hi, hn⟩ | ⟨a, b, rfl, ha, hi⟩
  · refine ⟨l, false, ?_⟩
    rw [afterDot_none hn]
    refine meets Tryz.func224 rfl rfl Tryz.ntmps224 Tryz.results224 rfl ?_
    simp -dsimp -implicitDefEqProofs only [go_sem, ↓reduceIte, reduceCtorEq, Nat.reduceLT, Nat.reduceLeDiff, Nat.reduceEqDiff, Nat.reduceAdd, Nat.reduceMul, Nat.reduceSub, Nat.reduceBEq, Int.reduceLT, Int.reduceLE, Int.reduceEq, Int.reduceBEq, Int.reduceNeg]
    refine callP (indexL_ok l 46) ?_
    simp -dsimp -implicitDefEqProofs only [hi, go_sem, ↓reduceIte, reduceCtorEq, Nat.reduceLT, Nat.reduceLeDiff, Nat.reduceEqDiff, Nat.reduceAdd, Nat.reduceMul, Nat.reduceSub, Nat.reduceBEq, Int.reduceLT, Int.reduceLE, Int.reduceEq, Int.reduceBEq, Int.reduceNeg]
  · refine ⟨a, true, ?_⟩
    rw [afterDot_dot ha]
    have hw2 : IntKind.i64.wrap ((a.length : Int) + 1) = ((a.length + 1 : Nat) : Int) := by rw [wrap64] <;> simp at hlen ⊢ <;> omega
    have ht : (a ++ 46 :: b).take a.length = a := by simp
    have hd : ((a ++ 46 :: b).drop (a.length + 1)) = b := by simp
    refine meets Tryz.func224 rfl rfl Tryz.ntmps224 Tryz.results224 rfl ?_
    simp -dsimp -implicitDefEqProofs only [go_sem, ↓reduceIte, reduceCtorEq, Nat.reduceLT, Nat.reduceLeDiff, Nat.reduceEqDiff, Nat.reduceAdd, Nat.reduceMul, Nat.reduceSub, Nat.reduceBEq, Int.reduceLT, Int.reduceLE, Int.reduceEq, Int.reduceBEq, Int.reduceNeg]
    refine callP (indexL_ok _ 46) ?_
    simp -dsimp -implicitDefEqProofs only [hi, hw2, ht, hd, go_sem, ↓reduceIte, reduceCtorEq, Nat.reduceLT, Nat.reduceLeDiff, Nat.reduceEqDiff, Nat.reduceAdd, Nat.reduceMul, Nat.reduceSub, Nat.reduceBEq, Int.reduceLT, Int.reduceLE, Int.reduceEq, Int.reduceBEq, Int.reduceNeg]
    exact ⟨fun _ => ⟨⟨by omega, by simp; omega⟩, ⟨by omega, by simp; omega⟩, drawn (by kernel_rfl)⟩, fun h => by omega⟩
theorem cut_ok (l : Bs) (hlen : l.length ≤ 64) : ∃ a c, Meets Tryz.prog 195 [(false, [vS l]), (false, [vS [46]])] (rTup [(false, [vS a]), (false, [vS (afterDot l)]), (false, [vB c])]) := by
  obtain ⟨a, c, h⟩ := cutL_ok l hlen
  refine ⟨a, c, ?_⟩
  refine meets Tryz.func195 rfl rfl Tryz.ntmps195 Tryz.results195 rfl ?_
  simp -dsimp -implicitDefEqProofs only [go_sem, ↓reduceIte, reduceCtorEq, Nat.reduceLT, Nat.reduceLeDiff, Nat.reduceEqDiff, Nat.reduceAdd, Nat.reduceMul, Nat.reduceSub, Nat.reduceBEq, Int.reduceLT, Int.reduceLE, Int.reduceEq, Int.reduceBEq, Int.reduceNeg]
  refine callP h ?_
  simp -dsimp -implicitDefEqProofs only [go_sem, ↓reduceIte, reduceCtorEq, Nat.reduceLT, Nat.reduceLeDiff, Nat.reduceEqDiff, Nat.reduceAdd, Nat.reduceMul, Nat.reduceSub, Nat.reduceBEq, Int.reduceLT, Int.reduceLE, Int.reduceEq, Int.reduceBEq, Int.reduceNeg]
theorem isName_len {l : Bs} (h : isName l = true) : l.length ≤ 64 := by
  simp only [isName, Bool.and_eq_true, decide_eq_true_eq] at h; exact h.1.1
theorem up_ok (l : Bs) : Meets Tryz.prog 156 [(false, [vS l])] (rOne (vS (upB l))) := by
  cases hn : isName l with
  | false =>
    refine meets Tryz.func156 rfl rfl Tryz.ntmps156 Tryz.results156 rfl ?_
    simp -dsimp -implicitDefEqProofs only [go_sem, ↓reduceIte, reduceCtorEq, Nat.reduceLT, Nat.reduceLeDiff, Nat.reduceEqDiff, Nat.reduceAdd, Nat.reduceMul, Nat.reduceSub, Nat.reduceBEq, Int.reduceLT, Int.reduceLE, Int.reduceEq, Int.reduceBEq, Int.reduceNeg]
    refine callP (is_ok l) ?_
    simp -dsimp -implicitDefEqProofs only [hn, upB, Bool.false_eq_true, go_sem, ↓reduceIte, reduceCtorEq, Nat.reduceLT, Nat.reduceLeDiff, Nat.reduceEqDiff, Nat.reduceAdd, Nat.reduceMul, Nat.reduceSub, Nat.reduceBEq, Int.reduceLT, Int.reduceLE, Int.reduceEq, Int.reduceBEq, Int.reduceNeg]
  | true =>
    obtain ⟨a, c, h⟩ := cut_ok l (isName_len hn)
    refine meets Tryz.func156 rfl rfl Tryz.ntmps156 Tryz.results156 rfl ?_
    simp -dsimp -implicitDefEqProofs only [go_sem, ↓reduceIte, reduceCtorEq, Nat.reduceLT, Nat.reduceLeDiff, Nat.reduceEqDiff, Nat.reduceAdd, Nat.reduceMul, Nat.reduceSub, Nat.reduceBEq, Int.reduceLT, Int.reduceLE, Int.reduceEq, Int.reduceBEq, Int.reduceNeg]
    refine callP (is_ok l) ?_
    simp -dsimp -implicitDefEqProofs only [hn, go_sem, ↓reduceIte, reduceCtorEq, Nat.reduceLT, Nat.reduceLeDiff, Nat.reduceEqDiff, Nat.reduceAdd, Nat.reduceMul, Nat.reduceSub, Nat.reduceBEq, Int.reduceLT, Int.reduceLE, Int.reduceEq, Int.reduceBEq, Int.reduceNeg]
    refine callP h ?_
    simp -dsimp -implicitDefEqProofs only [upB, hn, go_sem, ↓reduceIte, reduceCtorEq, Nat.reduceLT, Nat.reduceLeDiff, Nat.reduceEqDiff, Nat.reduceAdd, Nat.reduceMul, Nat.reduceSub, Nat.reduceBEq, Int.reduceLT, Int.reduceLE, Int.reduceEq, Int.reduceBEq, Int.reduceNeg]

structure AbInv (s : Bs) (t : Bs) where
  u : Bs
  eq : belowB s t = if u = [] then false else u == t || belowB u t
theorem below_ok (s t : Bs) : Meets Tryz.prog 57 [(false, [vS s]), (false, [vS t])] (rOne (vB (belowB s t))) := by
  refine meets Tryz.func57 rfl rfl Tryz.ntmps57 Tryz.results57 rfl ?_
  simp -dsimp -implicitDefEqProofs only [go_sem, ↓reduceIte, reduceCtorEq, Nat.reduceLT, Nat.reduceLeDiff, Nat.reduceEqDiff, Nat.reduceAdd, Nat.reduceMul, Nat.reduceSub, Nat.reduceBEq, Int.reduceLT, Int.reduceLE, Int.reduceEq, Int.reduceBEq, Int.reduceNeg]
  refine callW rfl Tryz.func101 rfl rfl Tryz.ntmps101 Tryz.results101 rfl ?_
  simp -dsimp -implicitDefEqProofs only [retH, go_sem, ↓reduceIte, reduceCtorEq, Nat.reduceLT, Nat.reduceLeDiff, Nat.reduceEqDiff, Nat.reduceAdd, Nat.reduceMul, Nat.reduceSub, Nat.reduceBEq, Int.reduceLT, Int.reduceLE, Int.reduceEq, Int.reduceBEq, Int.reduceNeg]
  refine vrange sitOk rfl [] [(4, aP 8 0), (3, aP 0 0)] rfl rfl ?_ Tryz.func155 rfl rfl Tryz.ntmps155 Tryz.results155 rfl ?_
  · simp -dsimp -implicitDefEqProofs only [go_sem, ↓reduceIte, reduceCtorEq, Nat.reduceLT, Nat.reduceLeDiff, Nat.reduceEqDiff, Nat.reduceAdd, Nat.reduceMul, Nat.reduceSub, Nat.reduceBEq, Int.reduceLT, Int.reduceLE, Int.reduceEq, Int.reduceBEq, Int.reduceNeg]
  simp -dsimp -implicitDefEqProofs only [go_sem, ↓reduceIte, reduceCtorEq, Nat.reduceLT, Nat.reduceLeDiff, Nat.reduceEqDiff, Nat.reduceAdd, Nat.reduceMul, Nat.reduceSub, Nat.reduceBEq, Int.reduceLT, Int.reduceLE, Int.reduceEq, Int.reduceBEq, Int.reduceNeg]
  refine callP (up_ok s) ?_
  simp -dsimp -implicitDefEqProofs only [go_sem, ↓reduceIte, reduceCtorEq, Nat.reduceLT, Nat.reduceLeDiff, Nat.reduceEqDiff, Nat.reduceAdd, Nat.reduceMul, Nat.reduceSub, Nat.reduceBEq, Int.reduceLT, Int.reduceLE, Int.reduceEq, Int.reduceBEq, Int.reduceNeg]
  generalize hL : Lp.mk 12 _ _ _ _ _ = L
  refine vfor sitOk (ι := AbInv s t) (fun v => ⟨14, [(0, .cs false [.yld 72]), (1, aP 24 0)], [(72, some (.lp L)), (24, some (.var [cS v.u] true)), (8, some (.var [cB false] true)), (0, some (.var [cS t] true))], 500⟩) (fun v => v.u.length) ⟨upB s, belowB_eq s t⟩ ?_ ?_
  · simp -dsimp -implicitDefEqProofs only [← hL, go_sem, ↓reduceIte, reduceCtorEq, Nat.reduceLT, Nat.reduceLeDiff, Nat.reduceEqDiff, Nat.reduceAdd, Nat.reduceMul, Nat.reduceSub, Nat.reduceBEq, Int.reduceLT, Int.reduceLE, Int.reduceEq, Int.reduceBEq, Int.reduceNeg]
  intro ⟨u, he⟩
  simp -dsimp -implicitDefEqProofs only [go_sem, ↓reduceIte, reduceCtorEq, Nat.reduceLT, Nat.reduceLeDiff, Nat.reduceEqDiff, Nat.reduceAdd, Nat.reduceMul, Nat.reduceSub, Nat.reduceBEq, Int.reduceLT, Int.reduceLE, Int.reduceEq, Int.reduceBEq, Int.reduceNeg]
  refine ⟨fun h => ?_, fun h => ?_⟩
  · refine yieldW sitOk ?_
    simp -dsimp -implicitDefEqProofs only [← hL, go_sem, ↓reduceIte, reduceCtorEq, Nat.reduceLT, Nat.reduceLeDiff, Nat.reduceEqDiff, Nat.reduceAdd, Nat.reduceMul, Nat.reduceSub, Nat.reduceBEq, Int.reduceLT, Int.reduceLE, Int.reduceEq, Int.reduceBEq, Int.reduceNeg]
    intro ro
    refine ⟨fun h2 => ?_, fun h2 => ?_⟩
    · simp -dsimp -implicitDefEqProofs only [retH, ← hL, go_sem, ↓reduceIte, reduceCtorEq, Nat.reduceLT, Nat.reduceLeDiff, Nat.reduceEqDiff, Nat.reduceAdd, Nat.reduceMul, Nat.reduceSub, Nat.reduceBEq, Int.reduceLT, Int.reduceLE, Int.reduceEq, Int.reduceBEq, Int.reduceNeg]
      rw [he, if_neg h]; simp [h2]
    · refine callP (up_ok u) ?_
      simp -dsimp -implicitDefEqProofs only [go_sem, ↓reduceIte, reduceCtorEq, Nat.reduceLT, Nat.reduceLeDiff, Nat.reduceEqDiff, Nat.reduceAdd, Nat.reduceMul, Nat.reduceSub, Nat.reduceBEq, Int.reduceLT, Int.reduceLE, Int.reduceEq, Int.reduceBEq, Int.reduceNeg]
      refine again ⟨upB u, by rw [he, if_neg h, belowB_eq u t]; simp [h2]⟩ ?_ ?_
      · exact upB_lt' h
      · simp -dsimp -implicitDefEqProofs only [← hL, go_sem, ↓reduceIte, reduceCtorEq, Nat.reduceLT, Nat.reduceLeDiff, Nat.reduceEqDiff, Nat.reduceAdd, Nat.reduceMul, Nat.reduceSub, Nat.reduceBEq, Int.reduceLT, Int.reduceLE, Int.reduceEq, Int.reduceBEq, Int.reduceNeg]
  · simp -dsimp -implicitDefEqProofs only [retH, ← hL, go_sem, ↓reduceIte, reduceCtorEq, Nat.reduceLT, Nat.reduceLeDiff, Nat.reduceEqDiff, Nat.reduceAdd, Nat.reduceMul, Nat.reduceSub, Nat.reduceBEq, Int.reduceLT, Int.reduceLE, Int.reduceEq, Int.reduceBEq, Int.reduceNeg]
    rw [he, if_pos h]
end Go.Proofs.YtijfncaphfaijaaGreatDoor
