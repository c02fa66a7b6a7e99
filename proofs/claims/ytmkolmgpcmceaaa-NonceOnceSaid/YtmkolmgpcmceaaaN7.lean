/- Plain laws of a fence. -/
import Derived.Test.YtmkolmgpcmceaaaN6
namespace Go.Proofs.Ytmkolmgpcmceaaa
open Go.Eng
set_option linter.unusedSimpArgs false

theorem okFrom_weaken {next : Int} : ∀ {l : List No} {last last' : Int}, last ≤ last' → okFrom next last' l = true → okFrom next last l = true
  | [], _, _, _, _ => rfl
  | x :: r, last, last', h, ho => by
    simp only [okFrom, Bool.and_eq_true, decide_eq_true_eq] at ho ⊢
    exact ⟨⟨⟨by omega, ho.1.1.2⟩, ho.1.2⟩, ho.2⟩
theorem okFrom_filter {next : Int} (p : No → Bool) : ∀ {l : List No} {last : Int}, okFrom next last l = true → okFrom next last (l.filter p) = true
  | [], _, _ => rfl
  | x :: r, last, ho => by
    simp only [okFrom, Bool.and_eq_true, decide_eq_true_eq] at ho
    have ih := okFrom_filter p ho.2
    rw [List.filter_cons]
    split
    · simp only [okFrom, Bool.and_eq_true, decide_eq_true_eq]
      exact ⟨ho.1, ih⟩
    · exact okFrom_weaken (by omega) ih
theorem checkV_of {n : Int} {l : List No} (h1 : timeB n = true) (h2 : okFrom n (-1) l = true) (h3 : l.length ≤ 64) : checkV n l = 0 := by
  simp [checkV, h1, h2]; omega
theorem checkV_filter {n : Int} {l : List No} (p : No → Bool) (h : checkV n l = 0) : checkV n (l.filter p) = 0 := by
  obtain ⟨h1, h2, h3⟩ := checkV_zero h
  exact checkV_of h1 (okFrom_filter p h2) (Nat.le_trans (filter_len p l) h3)

theorem use_done {n : Int} {l : List No} {k now : Int} (h1 : checkV n l = 0) (h2 : timeB now = true) (h3 : l.any (hitB k now) = true) : useV n l k now = (n, l.filter (fun x => !hitB k now x), 0) := by
  simp [useV, h1, h2, h3]
theorem use_stale {n : Int} {l : List No} {k now : Int} (h1 : checkV n l = 0) (h2 : timeB now = true) (h3 : l.any (hitB k now) = false) : useV n l k now = (0, [], 210) := by
  simp [useV, h1, h2, h3]
theorem use_inv {n : Int} {l : List No} {k now : Int} {a : Int × List No × Int} (h : useV n l k now = a) : (a.2.2 ≠ 0 ∧ a.1 = 0 ∧ a.2.1 = []) ∨
    (a.2.2 = 0 ∧ a.1 = n ∧ a.2.1 = l.filter (fun x => !hitB k now x) ∧ checkV n l = 0 ∧ timeB now = true ∧ l.any (hitB k now) = true) := by
  subst h
  unfold useV
  split
  · rename_i c; exact .inl ⟨c, rfl, rfl⟩
  · rename_i c
    split
    · exact .inl ⟨by simp, rfl, rfl⟩
    · rename_i c2
      split
      · rename_i c3; exact .inr ⟨rfl, rfl, rfl, by omega, by simpa using c2, c3⟩
      · exact .inl ⟨by simp, rfl, rfl⟩
theorem use_len (n : Int) (l : List No) (k now : Int) : (useV n l k now).2.1.length ≤ l.length := by
  rcases use_inv (rfl : useV n l k now = _) with ⟨_, _, h⟩ | ⟨_, _, h, _⟩ <;> rw [h]
  · simp
  · exact filter_len _ _
theorem tell_len (n : Int) (l : List No) (now life : Int) : (tellV n l now life).2.1.length ≤ l.length + 1 := by
  have := filter_len (keepB now) l
  unfold tellV
  split
  · simp
  · split
    · simp
    · split
      · simp
      · simp; omega

/-- A use of another one sees the same. -/
theorem any_other {k m now now' : Int} (l : List No) (h : k ≠ m) : (l.filter fun x => !hitB k now x).any (hitB m now') = l.any (hitB m now') := by
  rw [List.any_filter]
  congr 1
  funext x
  by_cases hx : x.N = m
  · have : ¬ x.N = k := fun e => h (e.symm.trans hx)
    have : ¬ m = k := fun e => h e.symm
    simp [hitB, hx, this]
  · simp [hitB, hx]
theorem any_gone {n k now now' : Int} {l : List No} (ho : okFrom n (-1) l = true) (h : l.any (hitB k now) = true) : (l.filter fun x => !hitB k now x).any (hitB k now') = false := by
  obtain ⟨x, hx, hh⟩ := List.any_eq_true.1 h
  obtain ⟨i, hi⟩ := List.getElem?_of_mem hx
  simp only [hitB, Bool.and_eq_true, beq_iff_eq, decide_eq_true_eq] at hh
  rw [List.any_eq_false]
  intro y hy
  obtain ⟨hy1, hy2⟩ := List.mem_filter.1 hy
  obtain ⟨j, hj⟩ := List.getElem?_of_mem hy1
  have hs := okFrom_sorted ho
  by_cases hji : j = i
  · subst hji
    rw [hi] at hj; cases hj
    simp [hitB, hh] at hy2
  · have : y.N ≠ k := by
      by_cases hlt : j < i
      · have := (hs j y hj).2.2 i x hlt hi; omega
      · have := (hs i x hi).2.2 j y (by omega) hj; omega
    simp [hitB, this]
theorem len_gone {n k now : Int} {l : List No} (ho : okFrom n (-1) l = true) (h : l.any (hitB k now) = true) : (l.filter fun x => !hitB k now x).length + 1 = l.length := by
  obtain ⟨x, hx, hh⟩ := List.any_eq_true.1 h
  obtain ⟨i, hi⟩ := List.getElem?_of_mem hx
  simp only [hitB, Bool.and_eq_true, beq_iff_eq, decide_eq_true_eq] at hh
  have hil := (List.getElem?_eq_some_iff.1 hi).1
  rw [(filter_out ho hi hh.1 hh.2).2]
  simp; omega
end Go.Proofs.Ytmkolmgpcmceaaa
