/- Loops by lists; forgetting by lists. -/
import Derived.Test.YtfgejhlgenaniaaDoorEngZ
namespace Go.Eng

def weakE (σ : Nat → Nat) (n : Nat) (env : List (Nat × AT)) : List (Nat × AT) → Prop
  | [] => True
  | p :: r => (getE env p.1 = p.2.ren σ ∧ p.2.below n) ∧ weakE σ n env r

def weakO (σ : Nat → Nat) (n : Nat) (objs : List (Nat × Option AObj)) : List (Nat × Option AObj) → Prop
  | [] => True
  | (o, some x) :: r => (o < n ∧ getO objs (σ o) = some (x.ren σ) ∧ x.below n) ∧ weakO σ n objs r
  | (_, none) :: _ => False

theorem weak_of {pin : Pin} {σ : List (Nat × Nat)} {st st' : St} (hp : (decide (pin.n ≤ st'.next) && σ.all fun p => decide (pin.n ≤ p.1) || pin.free.contains p.1) = true) (h0 : st.nt = st'.nt) (h1 : weakE (look σ) st'.next st.env st'.env) (h2 : weakO (look σ) st'.next st.objs st'.objs)
    (h3 : (st'.objs.map fun p => look σ p.1).Nodup ∨ ∀ n, look σ n = n) : Weak pin (look σ) st st' := by
  simp only [Bool.and_eq_true, decide_eq_true_eq] at hp
  refine ⟨fun o ho => ⟨?_, Nat.lt_of_lt_of_le ho.1 hp.1⟩, h0, ?_, ?_, ?_⟩
  · have h4 := hp.2
    clear h1 h2 h3 hp h0
    induction σ with
    | nil => rfl
    | cons q r ih =>
      simp only [List.all_cons, Bool.and_eq_true, Bool.or_eq_true, decide_eq_true_eq, List.contains_iff_mem] at h4
      simp only [look]
      rw [if_neg fun e => by
        rcases h4.1 with h5 | h5
        · have := ho.1; omega
        · exact ho.2 (e ▸ h5)]
      exact ih h4.2
  · intro p hp
    generalize st'.env = l at h1 hp
    induction l with
    | nil => cases hp
    | cons q r ih =>
      rcases List.mem_cons.1 hp with rfl | hp
      · exact h1.1
      · exact ih h1.2 hp
  · clear h3
    generalize st'.objs = l at h2
    induction l with
    | nil => intro p hp; cases hp
    | cons q r ih =>
      intro p hp
      obtain ⟨o, x⟩ := q
      cases x with
      | none => exact h2.elim
      | some x =>
        rcases List.mem_cons.1 hp with rfl | hp
        · exact ⟨h2.1.1, fun y hy => by cases hy; exact h2.1.2⟩
        · exact ih h2.2 p hp
  · rcases h3 with h3 | h3
    · clear h2
      generalize st'.objs = l at h3
      induction l with
      | nil => intro p hp; cases hp
      | cons q r ih =>
        intro p hp p' hp' he
        simp only [List.map_cons, List.nodup_cons, List.mem_map, not_exists, not_and] at h3
        rcases List.mem_cons.1 hp with rfl | hp <;> rcases List.mem_cons.1 hp' with rfl | hp'
        · rfl
        · exact absurd he.symm (h3.1 p' hp')
        · exact absurd he (h3.1 p (by assumption))
        · exact ih h3.2 p hp p' hp' he
    · intro p _ q _ he
      rw [h3, h3] at he
      exact he

/-- The round hands on a state of the loop's, by a letter for which the number is less. -/
def Again {ι : Type} (E : Sit) (I : ι → St) (m : ι → Nat) (i : ι) (st' : St) : Prop := ∃ j, m j < m i ∧ ∀ (c : Base) (a : Act) (w : World), OkB E c → RelE c st' st'.next a w → RelE c (I j) (I j).next a w

theorem awp_for {E : Sit} {Q : Exit → St → Prop} {st : St} {x : Code} {ι : Type} (I : ι → St) (m : ι → Nat) (i : ι) (σ0 : List (Nat × Nat)) (hi : Weak E.pin (look σ0) st (I i))
    (round : ∀ i, AWp E x (thenQ (Again E I m i) Q) (I i)) : AWp E (.loop x) Q st :=
  awp_loop I m i (fun _ _ _ ho h => h.weak ho hi) fun i => awp_mono (round i) fun e st' h => by
    cases e with
    | normal =>
      obtain ⟨j, h1, h2⟩ := h
      exact ⟨j, h1, h2⟩
    | _ => exact h

theorem splice_cc {α : Type} (x y : α) (xs ys : List α) : splice (x :: xs) 0 (y :: ys) = y :: splice xs 0 ys := by simp [splice]
theorem splice_cs {α : Type} (x : α) (xs ys : List α) (n : Nat) : splice (x :: xs) (n + 1) ys = x :: splice xs n ys := by
  simp [splice, Nat.add_right_comm]

theorem wrap64 {n : Int} (h1 : -9223372036854775808 ≤ n) (h2 : n ≤ 9223372036854775807) : IntKind.i64.wrap n = n := by
  simp [IntKind.wrap, IntKind.signed, IntKind.bits]
  omega


end Go.Eng
