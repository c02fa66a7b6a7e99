/- Plain laws of Find. -/
import Derived.Test.YtbgcpopmippbiaaGreatDoorQC
namespace Go.Proofs.YtbgcpopmippbiaaGreatDoor
open Go.Eng
set_option linter.unusedSimpArgs false
set_option maxRecDepth 10000

theorem okF_iff {e : Int} : okF e = true ↔ e = 0 ∨ e = 130 ∨ e = 131 := by
  unfold okF
  simp [or_assoc]
/-- What Find asks ahead of all. -/
structure Fg (n : Nt) (seen : Int) (L : List Kp) (now : Int) (name : Bs) (k : Int) : Prop where
  c : chkC L = 0
  t : chkN n = 0
  q : goodQ n seen now k = true
  s : isName name = true
theorem find_good {n : Nt} {seen : Int} {L : List Kp} {now : Int} {name : Bs} {k : Int} (h : okF (findE n seen L now name k) = true) : Fg n seen L now name k := by
  have h := okF_iff.1 h
  unfold findE at h
  split at h
  · rcases chkC_vals L with h1 | h1 | h1 <;> rw [h1] at h <;> omega
  · rename_i h0
    split at h
    · rcases chkN_vals n with h1 | h1 | h1 <;> rw [h1] at h <;> omega
    · rename_i h1
      split at h
      · omega
      · rename_i h2
        split at h
        · omega
        · rename_i h3
          exact ⟨Classical.not_not.1 h0, Classical.not_not.1 h1, by simpa using h2, by simpa using h3⟩
theorem find_e {n : Nt} {seen : Int} {L : List Kp} {now : Int} {name : Bs} {k : Int} (g : Fg n seen L now name k) : findE n seen L now name k = match heldV L now name k with
    | some R => if R = [] then 131 else 0
    | none => (wayV n seen name k).E := by
  unfold findE
  rw [if_neg (by rw [g.c]; simp), if_neg (by rw [g.t]; simp), if_neg (by rw [g.q]; simp), if_neg (by rw [g.s]; simp)]
  cases heldV L now name k <;> rfl
theorem find_hit {n : Nt} {seen : Int} {L : List Kp} {now : Int} {name : Bs} {k : Int} (g : Fg n seen L now name k) {R : List Rec} (h : heldV L now name k = some R) :
    findE n seen L now name k = (if R = [] then 131 else 0) ∧ findL n seen L now name k = R ∧ findC n seen L now name k = L := by
  have he := find_e g
  rw [h] at he
  have he : findE n seen L now name k = if R = [] then 131 else 0 := he
  have hok : okF (findE n seen L now name k) = true := by rw [he]; split <;> rfl
  refine ⟨he, ?_, ?_⟩
  · unfold findL; rw [hok, h]; rfl
  · unfold findC; rw [hok, h]; rfl
theorem find_miss {n : Nt} {seen : Int} {L : List Kp} {now : Int} {name : Bs} {k : Int} (g : Fg n seen L now name k) (h : heldV L now name k = none) :
    findE n seen L now name k = (wayV n seen name k).E ∧ findL n seen L now name k = (wayV n seen name k).L ∧ findC n seen L now name k = if (wayV n seen name k).E = 130 then L else keepV (trimL L now) (keptOf n seen now name k) := by
  have he := find_e g
  rw [h] at he
  have he : findE n seen L now name k = (wayV n seen name k).E := he
  have hok : okF (findE n seen L now name k) = true := by
    rw [he]; exact okF_iff.2 (wayV_ok n seen name k).kind
  refine ⟨he, ?_, ?_⟩
  · unfold findL; rw [hok, h]; rfl
  · unfold findC; rw [hok, h]; rfl
theorem find_bad' {n : Nt} {seen : Int} {L : List Kp} {now : Int} {name : Bs} {k : Int} (h : okF (findE n seen L now name k) = false) : findL n seen L now name k = [] ∧ findC n seen L now name k = [] :=
  let b := find_bad rfl h
  ⟨b.1, b.2.1⟩
theorem quest {n : Nt} {seen now k : Int} (h : goodQ n seen now k = true) : 0 ≤ now ∧ now ≤ 1099511627776 ∧ -1 ≤ seen ∧ seen < n.N ∧ kindB k = true := by
  unfold goodQ timeB at h
  simp only [Bool.and_eq_true, decide_eq_true_eq] at h
  exact ⟨h.1.1.1.1, h.1.1.1.2, h.1.1.2, h.1.2, h.2⟩
/-- What was found on the way, and is not lost. -/
theorem way_kept {n : Nt} {seen : Int} {name : Bs} {k : Int} (h : (wayV n seen name k).E ≠ 130) : 1 ≤ (wayV n seen name k).F ∧ (wayV n seen name k).F ≤ 1000 ∧ (wayV n seen name k).L.length ≤ 64 ∧ (∀ r ∈ (wayV n seen name k).L, r.K = k) ∧
    (((wayV n seen name k).E = 0 ∧ (wayV n seen name k).L ≠ []) ∨ ((wayV n seen name k).E = 131 ∧ (wayV n seen name k).L = [] ∧ (wayV n seen name k).F = 10)) := by
  have hwo := wayV_ok n seen name k
  rcases hwo.kind with h0 | h0 | h0
  · obtain ⟨h1, h2, h3, h4, addr, nm, z, hz, _, hL⟩ := hwo.some h0
    exact ⟨h2, h3, h4, fun r hr => by rw [hL] at hr; exact (mem_ofL hr).2.2, .inl ⟨h0, h1⟩⟩
  · exact absurd h0 h
  · have hw := hwo.none h0
    rw [hw]
    simp
theorem may_kept {n : Nt} {seen now : Int} {name : Bs} {k : Int} {L : List Kp} (g : Fg n seen L now name k) (h : (wayV n seen name k).E ≠ 130) : mayB (keptOf n seen now name k) = true := by
  obtain ⟨h1, h2, h3, h4, _⟩ := way_kept h
  obtain ⟨q1, q2, _, _, q5⟩ := quest g.q
  unfold mayB keptOf timeB
  simp only [Bool.and_eq_true, decide_eq_true_eq, List.all_eq_true, beq_iff_eq]
  exact ⟨⟨⟨⟨g.s, q5⟩, by omega, by omega⟩, h3⟩, h4⟩
theorem fc14_ok {n : Nt} {seen : Int} {L : List Kp} {now : Int} {name : Bs} {k : Int} (g : Fg n seen L now name k) : chkC (findC n seen L now name k) = 0 := by
  cases hh : heldV L now name k with
  | some R => rw [(find_hit g hh).2.2]; exact g.c
  | none =>
    rw [(find_miss g hh).2.2]
    by_cases hl : (wayV n seen name k).E = 130
    · rw [if_pos hl]; exact g.c
    · rw [if_neg hl]
      exact keep_ok (trim_ok g.c now) (may_kept g hl)
theorem chk_cz {L : List Kp} (h : chkC L = 0) : Cz L := by
  obtain ⟨h1, h2, _⟩ := chkC_iff.1 h
  refine ⟨by omega, fun x hx => ?_⟩
  have := h2 x hx
  unfold mayB at this
  simp only [Bool.and_eq_true, decide_eq_true_eq] at this
  have := this.1.2
  omega
theorem nil_cz : Cz [] := ⟨by simp, by simp⟩
theorem fc14_cz (n : Nt) (seen : Int) (L : List Kp) (now : Int) (name : Bs) (k : Int) : Cz (findC n seen L now name k) := by
  cases h : okF (findE n seen L now name k) with
  | false => rw [(find_bad' h).2]; exact nil_cz
  | true => exact chk_cz (fc14_ok (find_good h))
theorem held_len {L : List Kp} (hc : Cz L) {now : Int} {name : Bs} {k : Int} {R : List Rec} (h : heldV L now name k = some R) : R.length ≤ 1000 := by
  unfold heldV at h
  split at h
  · split at h
    · rename_i x hx
      split at h
      · cases h
        exact hc.r x (find_some hx).1
      · cases h
    · cases h
  · cases h
theorem findL_len (n : Nt) (seen : Int) {L : List Kp} (hc : Cz L) (now : Int) (name : Bs) (k : Int) : (findL n seen L now name k).length ≤ 1000 := by
  cases h : okF (findE n seen L now name k) with
  | false => rw [(find_bad' h).1]; simp
  | true =>
    have g := find_good h
    cases hh : heldV L now name k with
    | some R => rw [(find_hit g hh).2.1]; exact held_len hc hh
    | none =>
      rw [(find_miss g hh).2.1]
      by_cases hl : (wayV n seen name k).E = 130
      · rw [(wayV_ok n seen name k).lost hl]; simp [lostW]
      · have := (way_kept hl).2.2.1; omega
end Go.Proofs.YtbgcpopmippbiaaGreatDoor
