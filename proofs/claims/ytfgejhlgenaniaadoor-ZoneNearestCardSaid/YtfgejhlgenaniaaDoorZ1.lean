/- Strings as lists of bytes; how they stand to each other. -/
import Derived.Test.YtfgejhlgenaniaaDoorTyp
import Derived.Sort.Walk0
import Derived.Lib.OthersKept
namespace Go.Proofs.YtfgejhlgenaniaaDoor
open Go.Eng
set_option linter.unusedSimpArgs false
set_option maxRecDepth 10000

abbrev Bs := List UInt8
/-- A string of these bytes. -/
def bytes (l : Bs) : ByteArray := ⟨l.toArray⟩
theorem bytes_mk (l : Bs) : ByteArray.mk l.toArray = bytes l := rfl
theorem bytes_empty : ByteArray.empty = bytes [] := rfl
theorem bytes_all (s : ByteArray) : ∃ l, s = bytes l := ⟨s.data.toList, by cases s; rfl⟩
theorem bytes_data (l : Bs) : (bytes l).data.toList = l := rfl
theorem bytes_list (l : Bs) : (bytes l).toList = l := by rw [ByteArray.toList_eq]; rfl
theorem bytes_size (l : Bs) : (bytes l).size = l.length := rfl
theorem bytes_get (l : Bs) (i : Nat) : (bytes l)[i]? = l[i]? := by
  by_cases h : i < l.length
  · rw [List.getElem?_eq_getElem h]
    exact getElem?_pos (bytes l) i h
  · rw [List.getElem?_eq_none (by omega)]
    exact getElem?_neg (bytes l) i h
theorem bytes_get! (l : Bs) (i : Nat) : (bytes l).get! i = l.getD i 0 := by
  show l.toArray[i]! = _
  simp [getElem!_def]
  cases l[i]? <;> rfl
theorem bytes_extract (l : Bs) (a b : Nat) : (bytes l).extract a b = bytes ((l.take b).drop a) := by
  apply ByteArray.ext
  rw [ByteArray.data_extract]
  show (Array.mk l).extract a b = Array.mk ((l.take b).drop a)
  rw [List.extract_toArray, List.extract_eq_take_drop, List.drop_take]
theorem bytes_inj {l m : Bs} (h : bytes l = bytes m) : l = m := congrArg (fun s : ByteArray => s.data.toList) h
theorem bytes_eq {l m : Bs} : bytes l = bytes m ↔ l = m := ⟨bytes_inj, fun h => by rw [h]⟩
theorem bytes_append (l m : Bs) : bytes l ++ bytes m = bytes (l ++ m) := by
  apply ByteArray.ext
  simp [bytes]
theorem bytes_beq (l m : Bs) : ((bytes l).toList == (bytes m).toList) = (l == m) := by rw [bytes_list, bytes_list]
theorem bytes_less (l m : Bs) : Op.bytesLess (bytes l).toList (bytes m).toList = decide (l < m) := by rw [bytes_list, bytes_list, bytesLess_eq]
theorem vbyteH_bytes (l : Bs) (i : Nat) {K : UInt8 → Prop} (h : Hold K) : vbyteH (bytes l) i h = (i < l.length ∧ ∀ b, l[i]? = some b → K b) := by
  simp only [vbyteH, vbyte, bytes_size, bytes_get]
theorem vbyteH_cons (c : UInt8) (l : Bs) {K : UInt8 → Prop} (h : Hold K) : vbyteH (bytes (c :: l)) 0 h = K c := by
  simp [vbyteH, vbyte, bytes_size, bytes_get]
attribute [go_sem high] vbyteH_cons
abbrev vS (l : Bs) : CV := .d (.v (.string (bytes l)))
abbrev cS (l : Bs) : AV := .d (.v (.string (bytes l)))
abbrev aS (l : Bs) : AT := .cs false [.d (.v (.string (bytes l)))]
abbrev dT (l : Bs) : D := .v (.string (bytes l))
attribute [go_sem] bytes_mk bytes_empty bytes_size bytes_extract bytes_append bytes_beq bytes_less vbyteH_bytes bytes_eq vS cS aS dT List.take_length
theorem wrapS {i n : Nat} (h : i < n) (hn : n ≤ 4611686018427387904) : IntKind.i64.wrap ((i : Int) + 1) = ((i + 1 : Nat) : Int) := by
  rw [wrap64] <;> omega
theorem drop_at {α : Type} {l : List α} {i : Nat} {x : α} (hx : l[i]? = some x) : l.drop i = x :: l.drop (i + 1) := by
  have hil := (List.getElem?_eq_some_iff.1 hx).1
  rw [List.drop_eq_getElem_cons hil]; congr 1; exact Option.some.inj ((List.getElem?_eq_getElem hil).symm.trans hx)

/-! ### The order of strings -/
theorem lt_irr (l : Bs) : ¬ l < l := List.lt_irrefl l
theorem lt_tr {l m n : Bs} (h : l < m) (h' : m < n) : l < n := List.lt_trans h h'
theorem lt_tri (l m : Bs) : l < m ∨ l = m ∨ m < l := by
  by_cases h1 : l < m
  · exact .inl h1
  · by_cases h2 : m < l
    · exact .inr (.inr h2)
    · exact .inr (.inl (List.le_antisymm h2 h1))
theorem lt_as {l m : Bs} (h : l < m) : ¬ m < l := fun h' => lt_irr l (lt_tr h h')
/-- How two strings stand to each other. -/
def cmpB (l m : Bs) : Int := if l = m then 0 else if l < m then -1 else 1
theorem compare_eq : ∀ (l m : Bs), Lib.compareBytes l m = cmpB l m
  | [], [] => rfl
  | [], y :: m => rfl
  | x :: l, [] => rfl
  | x :: l, y :: m => by
    have ih := compare_eq l m
    unfold Lib.compareBytes
    unfold cmpB at ih ⊢
    have h0 : (x :: l < y :: m) ↔ x < y ∨ x = y ∧ l < m := List.cons_lt_cons_iff
    by_cases hxy : x = y
    · subst hxy
      have h1 : ¬ x < x := UInt8.lt_irrefl x
      rw [if_neg h1, if_neg h1, ih]
      simp [h0, h1]
    · by_cases hlt : x < y
      · rw [if_pos hlt]; simp [h0, hlt, hxy]
      · have hgt : y < x := UInt8.lt_of_le_of_ne (UInt8.not_lt.1 hlt) (Ne.symm hxy)
        rw [if_neg hlt, if_pos hgt]; simp [h0, hlt, hxy]
theorem compare_data (l m : Bs) : Lib.compareBytes (bytes l).data.toList (bytes m).data.toList = cmpB l m := compare_eq l m
theorem cmpB_lt {l m : Bs} : cmpB l m < 0 ↔ l < m := by
  unfold cmpB
  split
  · rename_i h; subst h; simp [lt_irr]
  · split <;> simp [*]
theorem cmpB_eq {l m : Bs} : cmpB l m = 0 ↔ l = m := by
  unfold cmpB
  split
  · simp [*]
  · split <;> simp [*]
theorem cmpB_range (l m : Bs) : cmpB l m = 0 ∨ cmpB l m = -1 ∨ cmpB l m = 1 := by
  unfold cmpB; split <;> (try split) <;> simp
attribute [go_sem] compare_data bytes_data

/-! ### Runes -/
theorem dec_lo {l : Bs} {p : Nat} {c : UInt8} (hx : l[p]? = some c) (h : c.toNat < 128) : Utf8.decode (bytes l) p = (c.toNat, 1) := by
  have h1 : (bytes l).get! p = c := by rw [bytes_get!]; simp [List.getD, hx]
  unfold Utf8.decode
  simp only [Nat.add_zero, h1]
  rw [if_pos h]
theorem dec_hi {l : Bs} {p : Nat} {c : UInt8} (hx : l[p]? = some c) (h : 128 ≤ c.toNat) : 128 ≤ (Utf8.decode (bytes l) p).1 := by
  have h1 : (bytes l).get! p = c := by rw [bytes_get!]; simp [List.getD, hx]
  unfold Utf8.decode
  simp only [Nat.add_zero, h1]
  rw [if_neg (by omega)]
  repeat' split
  all_goals first
    | exact (by decide : 128 ≤ Utf8.runeError)
    | (rename_i h2; simp only [Bool.and_eq_true, decide_eq_true_eq, ge_iff_le] at h2; omega)
    | (rename_i h2; simp only [ge_iff_le] at h2; omega)
end Go.Proofs.YtfgejhlgenaniaaDoor
