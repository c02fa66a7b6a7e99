/- Plain laws: what is left after a spending. -/
import Derived.Test.YtfidbkmogileiaaB7
namespace Go.Proofs.Ytfidbkmogileiaa
open Go.Eng
set_option linter.unusedSimpArgs false

theorem SpendV_short (l : List Sp) (M W r a now : Int) (hl : l.length ≤ 1100) : (SpendV l M W r a now).1.length ≤ 1100 := by
  unfold SpendV spendV
  split
  · simp
  · split
    · simp
    · split
      · exact hl
      · split
        · simp
        · split
          · simp
          · simp only; omega
theorem LeftV_of {l : List Sp} {M W r a now : Int} (hc : checkV l = 0) (hm : mayB M W r a now = true) : LeftV l M W r a now = leftV l M W a r now := by
  simp [LeftV, hc, hm]
theorem LeftV_bd (l : List Sp) (M W r a now : Int) : 0 ≤ LeftV l M W r a now ∧ LeftV l M W r a now ≤ 1099511627776 := by
  by_cases h : checkV l ≠ 0 ∨ mayB M W r a now = false
  · rw [LeftV, if_pos h]; omega
  · have hc : checkV l = 0 := by
      by_cases h2 : checkV l = 0
      · exact h2
      · exact absurd (.inl h2) h
    have hm : mayB M W r a now = true := by
      cases h2 : mayB M W r a now with
      | true => rfl
      | false => exact absurd (.inr h2) h
    rw [LeftV_of hc hm]
    have hb := mayB_true hm
    unfold leftV
    split
    · omega
    · cases ho : onS l W a r now with
      | none => simp only; omega
      | some s =>
        have hs := okS_bounds (onS_ok (checkV_zero hc).1 ho).1
        simp only; omega
theorem left_spent {l l' : List Sp} {M W r a now : Int} (g : Granted l M W r a now l') (hM : M ≠ 0) : LeftV l' M W r a now = LeftV l M W r a now - 1 ∧ 0 < LeftV l M W r a now := by
  obtain ⟨h1, h2, h3, h4, h5, h6⟩ := g.put hM
  rw [LeftV_of g.ck g.may, LeftV_of g.ck' g.may]
  have e : leftV l' M W a r now = max 0 (M - (begun l W a r now).M) := by simp only [leftV, if_neg hM, h5]
  rw [e]
  unfold begun
  unfold leftV at h3 ⊢
  rw [if_neg hM] at h3 ⊢
  cases ho : onS l W a r now with
  | none => simp only; omega
  | some s =>
    rw [ho] at h3
    simp only at h3 ⊢
    omega
theorem left_free {l l' : List Sp} {W r a now : Int} (g : Granted l 0 W r a now l') : LeftV l 0 W r a now = 1099511627776 := by
  rw [LeftV_of g.ck g.may]; simp [leftV]
theorem onS_other {l l' : List Sp} {M W r a now : Int} (g : Granted l M W r a now l') (W2 a2 r2 now2 : Int) (h : ¬ (a2 = a ∧ r2 = r)) : onS l' W2 a2 r2 now2 = onS l W2 a2 r2 now2 := by
  by_cases hM : M = 0
  · rw [g.free hM]
  · obtain ⟨_, _, _, e, _⟩ := g.put hM
    obtain ⟨k1, k2⟩ := begun_key l W a r now
    rw [e, onS_put (okFrom_rises (checkV_zero g.ck).1), if_neg fun hk => h ?_]
    have := keyB_iff.1 hk
    exact ⟨by omega, by omega⟩
theorem left_other {l l' : List Sp} {M W r a now : Int} (g : Granted l M W r a now l') (M2 W2 a2 r2 now2 : Int) (h : ¬ (a2 = a ∧ r2 = r)) : LeftV l' M2 W2 r2 a2 now2 = LeftV l M2 W2 r2 a2 now2 := by
  unfold LeftV leftV
  rw [g.ck, g.ck', onS_other g W2 a2 r2 now2 h]
theorem again_left {l l' : List Sp} {M W r a now : Int} (g : Granted l M W r a now l') (hM : M ≠ 0) (hS : (begun l W a r now).S ≤ now) (hn : now + W ≤ 1099511627776) : LeftV l' M W r a (now + W) = M := by
  obtain ⟨h1, h2, h3, h4, h5, h6⟩ := g.put hM
  obtain ⟨b1, b2, b3, b4, b5, b6⟩ := mayB_true g.may
  rw [LeftV_of g.ck' (mayB_of ⟨b1, b2, b3, b4, b5, by omega, hn⟩)]
  have ho : onS l' W a r (now + W) = none := by
    obtain ⟨k1, k2⟩ := begun_key l W a r now
    rw [h4, onS_put (okFrom_rises (checkV_zero g.ck).1), if_pos (keyB_iff.2 ⟨k1, k2⟩), if_pos (by omega)]
  simp only [leftV, if_neg hM, ho]
theorem again_len {l l' : List Sp} {M W r a now : Int} (g : Granted l M W r a now l') (hM : M ≠ 0) (hS : now < (begun l W a r now).S) : l.length = l'.length := by
  obtain ⟨h1, h2, h3, h4, h5, h6⟩ := g.put hM
  cases ho : onS l W a r now with
  | none => simp only [begun, ho] at hS; omega
  | some s =>
    obtain ⟨_, hm, hk, _⟩ := onS_ok (checkV_zero g.ck).1 ho
    obtain ⟨k1, k2⟩ := begun_key l W a r now
    rw [h4, put_same (okFrom_rises (checkV_zero g.ck).1) hm (by rw [k1, k2]; exact hk)]
theorem again_here {l l' : List Sp} {M W r a now : Int} (g : Granted l M W r a now l') (hM : M ≠ 0) : begun l W a r now ∈ l' ∧ ∀ x ∈ l', keyB a r x = true → x = begun l W a r now := by
  obtain ⟨h1, h2, h3, h4, h5, h6⟩ := g.put hM
  have hr := okFrom_rises (checkV_zero g.ck).1
  obtain ⟨k1, k2⟩ := begun_key l W a r now
  have hm : begun l W a r now ∈ l' := by rw [h4, put_mem hr]; exact .inl rfl
  refine ⟨hm, fun x hx hk => ?_⟩
  obtain ⟨e1, e2⟩ := keyB_iff.1 hk
  exact rises_key (okFrom_rises (checkV_zero g.ck').1) hx hm (by omega) (by omega)

theorem spendV_grant {l : List Sp} {M W r a now : Int} (hc : checkV l = 0) (hm : mayB M W r a now = true) (hM : M ≠ 0) (hL : leftV l M W a r now ≠ 0) (hlen : (put (begun l W a r now) l).length ≤ 1024) : SpendV l M W r a now = (put (begun l W a r now) l, 0) := by
  rw [SpendV, if_neg (by omega), if_neg (by simp [hm]), spendV, if_neg hM, if_neg hL, if_neg (by omega)]
theorem spendV_free {l : List Sp} {W r a now : Int} (hc : checkV l = 0) (hm : mayB 0 W r a now = true) : SpendV l 0 W r a now = (l, 0) := by
  rw [SpendV, if_neg (by omega), if_neg (by simp [hm]), spendV, if_pos rfl]

theorem apart_law {l l1 l2 : List Sp} {M W r a r2 a2 now : Int} (g1 : Granted l M W r a now l1) (g2 : Granted l M W r2 a2 now l2) (hl : l.length ≤ 1000) (hk : ¬ (r = r2 ∧ a = a2)) :
    ∃ u, SpendV l1 M W r2 a2 now = (u, 0) ∧ SpendV l2 M W r a now = (u, 0) ∧ u.length ≤ 1100 := by
  by_cases hM : M = 0
  · subst hM
    have e1 := g1.free rfl
    have e2 := g2.free rfl
    subst e1; subst e2
    exact ⟨_, spendV_free g2.ck g2.may, spendV_free g1.ck g1.may, by omega⟩
  · obtain ⟨p1, p2, p3, p4, p5, p6⟩ := g1.put hM
    obtain ⟨q1, q2, q3, q4, q5, q6⟩ := g2.put hM
    have o1 := onS_other g1 W a2 r2 now (by omega)
    have o2 := onS_other g2 W a r now (by omega)
    have b1 : begun l1 W a2 r2 now = begun l W a2 r2 now := by unfold begun; rw [o1]
    have b2 : begun l2 W a r now = begun l W a r now := by unfold begun; rw [o2]
    have v1 : leftV l1 M W a2 r2 now = leftV l M W a2 r2 now := by unfold leftV; rw [o1]
    have v2 : leftV l2 M W a r now = leftV l M W a r now := by unfold leftV; rw [o2]
    have n1 := (put_len (begun l W a r now) l).1
    have n2 := (put_len (begun l W a2 r2 now) l).1
    have n3 := (put_len (begun l W a2 r2 now) l1).1
    have n4 := (put_len (begun l W a r now) l2).1
    rw [← p4] at n1; rw [← q4] at n2
    obtain ⟨k1, k2⟩ := begun_key l W a r now
    obtain ⟨k3, k4⟩ := begun_key l W a2 r2 now
    have hcm : put (begun l W a2 r2 now) l1 = put (begun l W a r now) l2 := by
      rw [p4, q4]
      exact put_comm (okFrom_rises (checkV_zero g1.ck).1) (by omega)
    refine ⟨_, spendV_grant g1.ck' g2.may hM (by rw [v1]; exact q3) (by rw [b1]; omega), ?_, by rw [b1]; omega⟩
    rw [spendV_grant g2.ck' g1.may hM (by rw [v2]; exact p3) (by rw [b2]; omega), b1, b2, hcm]
end Go.Proofs.Ytfidbkmogileiaa
