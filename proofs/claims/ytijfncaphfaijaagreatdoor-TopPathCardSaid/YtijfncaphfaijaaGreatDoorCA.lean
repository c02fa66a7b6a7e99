
/- Plain laws of the group: powers, the greatest common divisor's steps, what a signature is. Plain laws: the steps of the greatest common divisor over whole numbers; a signature's equation. Plain laws: a power by the bits of its exponent. Plain laws: where the steps of the greatest common divisor end. -/
import Derived.Test.YtijfncaphfaijaaGreatDoorUB
namespace Go.Proofs.YtijfncaphfaijaaGreatDoor

abbrev qQ : Nat := 2305843009213691579
abbrev qR : Nat := 1152921504606845789
abbrev qG : Nat := 4
/-- A power, by halves. -/
def pmF (q : Nat) : Nat → Nat → Nat → Nat
  | 0, _, _ => 1 % q
  | f + 1, a, n => let h := pmF q f a (n / 2); if n % 2 = 1 then h * h % q * a % q else h * h % q
theorem pmF_eq (q a : Nat) : ∀ (f n : Nat), n < 2 ^ f → pmF q f a n = a ^ n % q
  | 0, n, h => by
    have : n = 0 := by simpa using h
    subst this; rfl
  | f + 1, n, h => by
    have ih := pmF_eq q a f (n / 2) (by rw [Nat.pow_succ] at h; omega)
    unfold pmF
    simp only [ih]
    have e1 : a ^ (n / 2) % q * (a ^ (n / 2) % q) % q = a ^ (n / 2 + n / 2) % q := by rw [← Nat.mul_mod, Nat.pow_add]
    split
    · rename_i h1
      have e2 : a ^ n = a ^ (n / 2 + n / 2) * a := by rw [← Nat.pow_succ]; congr 1; omega
      rw [e1, e2, Nat.mul_mod (a ^ (n / 2 + n / 2) % q), Nat.mod_mod, ← Nat.mul_mod]
    · have e2 : n / 2 + n / 2 = n := by omega
      rw [e1, e2]
theorem base_order : qG ^ qR % qQ = 1 := by
  rw [← pmF_eq qQ qG 61 qR (by decide)]
  decide +kernel
theorem base_pow (n : Nat) : qG ^ (n % qR) % qQ = qG ^ n % qQ := by
  have h1 : qG ^ n = qG ^ (n % qR) * (qG ^ qR) ^ (n / qR) := by
    rw [← Nat.pow_mul, ← Nat.pow_add, Nat.mod_add_div]
  rw [h1, Nat.mul_mod, Nat.pow_mod (qG ^ qR), base_order]
  simp
/-- What has an inverse among powers of the base. -/
theorem base_unit (n : Nat) : ∃ k, qG ^ n % qQ * (qG ^ k % qQ) % qQ = 1 := by
  refine ⟨qR - n % qR, ?_⟩
  have hlt : n % qR < qR := Nat.mod_lt _ (by decide)
  rw [← base_pow n, ← Nat.mul_mod, ← Nat.pow_add, show n % qR + (qR - n % qR) = qR by omega]
  exact base_order
end Go.Proofs.YtijfncaphfaijaaGreatDoor
namespace Go.Proofs.YtijfncaphfaijaaGreatDoor

/-- Where the steps stand: x and y are what u and v take of a, but for m; the signs go opposite ways. -/
structure Eu (m a x y : Nat) (u v : Int) : Prop where
  sum : u.natAbs * y + v.natAbs * x = m
  op : (0 ≤ u ∧ v ≤ 0) ∨ (u ≤ 0 ∧ 0 ≤ v)
  ub : u.natAbs ≤ m
  vb : v.natAbs ≤ m
  xm : ∃ k : Int, (x : Int) = u * a + k * m
  ym : ∃ k : Int, (y : Int) = v * a + k * m
  g : Nat.gcd x y = Nat.gcd a m
theorem eu_start {m a : Nat} (hm : 0 < m) : Eu m a a m 1 0 :=
  ⟨by simp, .inl ⟨by omega, by omega⟩, by simp; omega, by simp, ⟨0, by simp⟩, ⟨1, by simp⟩, rfl⟩
theorem abs_step {u v : Int} (q : Nat) (op : (0 ≤ u ∧ v ≤ 0) ∨ (u ≤ 0 ∧ 0 ≤ v)) : (u - (q : Int) * v).natAbs = u.natAbs + q * v.natAbs ∧ ((0 ≤ v ∧ u - (q : Int) * v ≤ 0) ∨ (v ≤ 0 ∧ 0 ≤ u - (q : Int) * v)) := by
  rcases op with ⟨h1, h2⟩ | ⟨h1, h2⟩
  · obtain ⟨n, rfl⟩ : ∃ n : Nat, v = -(n : Int) := ⟨v.natAbs, by omega⟩
    obtain ⟨k, rfl⟩ : ∃ k : Nat, u = k := ⟨u.natAbs, by omega⟩
    have e : (k : Int) - (q : Int) * -(n : Int) = ((k + q * n : Nat) : Int) := by rw [Int.mul_neg, Int.sub_neg]; simp
    rw [e]
    refine ⟨by rw [Int.natAbs_natCast, Int.natAbs_natCast, Int.natAbs_neg, Int.natAbs_natCast], .inr ⟨by omega, by omega⟩⟩
  · obtain ⟨n, rfl⟩ : ∃ n : Nat, v = n := ⟨v.natAbs, by omega⟩
    obtain ⟨k, rfl⟩ : ∃ k : Nat, u = -(k : Int) := ⟨u.natAbs, by omega⟩
    have e : -(k : Int) - (q : Int) * (n : Int) = -((k + q * n : Nat) : Int) := by simp [Int.neg_add]; omega
    rw [e]
    refine ⟨by rw [Int.natAbs_neg, Int.natAbs_natCast, Int.natAbs_neg, Int.natAbs_natCast, Int.natAbs_natCast], .inl ⟨by omega, by omega⟩⟩
theorem Eu.step {m a x y : Nat} {u v : Int} (h : Eu m a x y u v) (hy : 0 < y) : Eu m a y (x % y) v (u - ((x / y : Nat) : Int) * v) ∧ (x / y) * v.natAbs ≤ m := by
  obtain ⟨e1, e2⟩ := abs_step (x / y) h.op
  have hd := Nat.div_add_mod x y
  have hs : v.natAbs * (x % y) + (u - ((x / y : Nat) : Int) * v).natAbs * y = m := by
    rw [e1, ← h.sum, Nat.add_mul]
    have : v.natAbs * x = v.natAbs * (x % y) + x / y * v.natAbs * y := by
      conv => lhs; rw [← hd]
      rw [Nat.mul_add, Nat.add_comm]
      congr 1
      rw [← Nat.mul_assoc, Nat.mul_comm v.natAbs y, Nat.mul_comm (x / y * v.natAbs) y, Nat.mul_assoc, Nat.mul_comm v.natAbs]
    omega
  have hb : (u - ((x / y : Nat) : Int) * v).natAbs ≤ m := by
    have h1 : (u - ((x / y : Nat) : Int) * v).natAbs * 1 ≤ (u - ((x / y : Nat) : Int) * v).natAbs * y := Nat.mul_le_mul_left _ hy
    omega
  obtain ⟨k1, hk1⟩ := h.xm
  obtain ⟨k2, hk2⟩ := h.ym
  refine ⟨⟨hs, ?_, h.vb, hb, h.ym, ⟨k1 - ((x / y : Nat) : Int) * k2, ?_⟩, ?_⟩, by omega⟩
  · exact e2
  · have hx : (x : Int) = ((y : Nat) : Int) * ((x / y : Nat) : Int) + ((x % y : Nat) : Int) := by rw [← Int.natCast_mul, ← Int.natCast_add, hd]
    have hr : ((x % y : Nat) : Int) = (x : Int) - ((x / y : Nat) : Int) * (y : Int) := by rw [Int.mul_comm]; omega
    rw [hr, hk1, hk2, Int.sub_mul, Int.sub_mul, Int.mul_add, Int.mul_assoc, Int.mul_assoc]
    omega
  · rw [← h.g, Nat.gcd_comm x y, Nat.gcd_rec y x, Nat.gcd_comm]
/-- How it ends. -/
theorem Eu.stop {m a x : Nat} {u v : Int} (h : Eu m a x 0 u v) (hg : Nat.gcd a m = 1) : ∃ o : Nat, (o : Int) = (if u < 0 then u + m else u) ∧ o ≤ m ∧ a * o % m = 1 % m := by
  have hx : x = 1 := by have := h.g; rw [Nat.gcd_zero_right, hg] at this; exact this
  subst hx
  obtain ⟨k, hk⟩ := h.xm
  have hub := h.ub
  obtain ⟨o, ho, k', hk'⟩ : ∃ o : Nat, (o : Int) = (if u < 0 then u + m else u) ∧ ∃ k' : Int, (o : Int) * a = 1 + k' * m := by
    by_cases hu : u < 0
    · refine ⟨(u + m).toNat, by rw [if_pos hu]; omega, a - k, ?_⟩
      have e : (((u + m).toNat : Nat) : Int) = u + m := by omega
      rw [e, Int.add_mul, Int.sub_mul]
      have : (m : Int) * a = a * m := Int.mul_comm _ _
      omega
    · refine ⟨u.toNat, by rw [if_neg hu]; omega, -k, ?_⟩
      have e : ((u.toNat : Nat) : Int) = u := by omega
      rw [e, Int.neg_mul]
      omega
  refine ⟨o, ho, ?_, ?_⟩
  · split at ho <;> omega
  · have h1 : ((a * o % m : Nat) : Int) = ((1 % m : Nat) : Int) := by
      rw [Int.natCast_emod, Int.natCast_emod, Int.natCast_mul, Int.mul_comm, hk', Int.add_mul_emod_self_right]
      rfl
    exact Int.ofNat_inj.1 h1
theorem gcd_of_inv {w z m : Nat} (h : w * z % m = 1) : Nat.gcd w m = 1 := by
  have h1 : Nat.gcd w m ∣ w * z := Nat.dvd_trans (Nat.gcd_dvd_left w m) (Nat.dvd_mul_right w z)
  have h2 : Nat.gcd w m ∣ m := Nat.gcd_dvd_right w m
  have h3 : Nat.gcd w m ∣ w * z % m := (Nat.dvd_mod_iff h2).2 h1
  rw [h] at h3
  exact Nat.dvd_one.1 h3
/-- A signature's equation. -/
theorem sign_eq (s c k off : Nat) (h : (qG ^ s % qQ) ^ c % qQ * off % qQ = 1) : qG ^ ((c * s % qR + k) % qR) % qQ * off % qQ = qG ^ k % qQ := by
  have e1 : (c * s % qR + k) % qR = (c * s + k) % qR := by rw [Nat.add_mod, Nat.mod_mod, ← Nat.add_mod]
  rw [e1, base_pow, Nat.pow_add, Nat.mul_comm c s, Nat.pow_mul]
  rw [← Nat.pow_mod] at h
  generalize (qG ^ s) ^ c = W at h
  generalize qG ^ k = K
  have h' : W * off % qQ = 1 := by rw [← h, Nat.mod_mul_mod]
  rw [Nat.mod_mul_mod, Nat.mul_right_comm, Nat.mul_mod, h', Nat.one_mul, Nat.mod_mod]
end Go.Proofs.YtijfncaphfaijaaGreatDoor
namespace Go.Proofs.YtijfncaphfaijaaGreatDoor

theorem half_div (n k : Nat) : n / 2 ^ k / 2 = n / 2 ^ (k + 1) := by rw [Nat.div_div_eq_div_mul, Nat.pow_succ]
theorem pow_bit0 {a n k q : Nat} (h : n / 2 ^ k % 2 = 0) : a ^ (n / 2 ^ (k + 1)) % q * (a ^ (n / 2 ^ (k + 1)) % q) % q = a ^ (n / 2 ^ k) % q := by
  have e : n / 2 ^ k = n / 2 ^ (k + 1) + n / 2 ^ (k + 1) := by have := half_div n k; omega
  rw [← Nat.mul_mod, ← Nat.pow_add, ← e]
theorem pow_bit1 {a n k q : Nat} (h : n / 2 ^ k % 2 = 1) : a ^ (n / 2 ^ (k + 1)) % q * (a ^ (n / 2 ^ (k + 1)) % q) % q * a % q = a ^ (n / 2 ^ k) % q := by
  have e : n / 2 ^ k = n / 2 ^ (k + 1) + n / 2 ^ (k + 1) + 1 := by have := half_div n k; omega
  rw [← Nat.mul_mod, ← Nat.pow_add, Nat.mod_mul_mod, ← Nat.pow_succ, Nat.succ_eq_add_one, ← e]
theorem bit_cases (n k : Nat) : n / 2 ^ k % 2 = 0 ∨ n / 2 ^ k % 2 = 1 := by omega
theorem and_bit (n k : Nat) : n &&& 2 ^ k = n / 2 ^ k % 2 * 2 ^ k := by
  have ht : n.testBit k = decide (n / 2 ^ k % 2 = 1) := Nat.testBit_eq_decide_div_mod_eq
  rcases bit_cases n k with h | h
  · rw [h, Nat.zero_mul]
    refine Nat.eq_of_testBit_eq fun i => ?_
    rw [Nat.testBit_and, Nat.testBit_two_pow, Nat.zero_testBit]
    by_cases hi : k = i
    · subst hi; rw [ht, h]; rfl
    · simp [hi]
  · rw [h, Nat.one_mul]
    refine Nat.eq_of_testBit_eq fun i => ?_
    rw [Nat.testBit_and, Nat.testBit_two_pow]
    by_cases hi : k = i
    · subst hi; rw [ht, h]; simp
    · simp [hi]
theorem pow_lt64 {k : Nat} (h : k < 64) : 2 ^ k < 18446744073709551616 := Nat.pow_lt_pow_right (by decide) h
end Go.Proofs.YtijfncaphfaijaaGreatDoor
namespace Go.Proofs.YtijfncaphfaijaaGreatDoor

def eucF (x y : Nat) (u v : Int) : Int := if _h : y = 0 then u else eucF y (x % y) v (u - ((x / y : Nat) : Int) * v)
termination_by y
decreasing_by exact Nat.mod_lt _ (Nat.pos_of_ne_zero _h)
theorem eucF_zero (x : Nat) (u v : Int) : eucF x 0 u v = u := by rw [eucF]; simp
theorem eucF_step {x y : Nat} {u v : Int} (h : 0 < y) : eucF x y u v = eucF y (x % y) v (u - ((x / y : Nat) : Int) * v) := by
  rw [eucF]
  rw [dif_neg (by omega)]
theorem Eu.final {m a : Nat} : ∀ (y x : Nat) (u v : Int), Eu m a x y u v → ∃ x' v', Eu m a x' 0 (eucF x y u v) v' := by
  intro y
  induction y using Nat.strongRecOn with
  | _ y ih =>
    intro x u v h
    by_cases hy : y = 0
    · subst hy; rw [eucF_zero]; exact ⟨x, v, h⟩
    · have hp : 0 < y := by omega
      rw [eucF_step hp]
      exact ih (x % y) (Nat.mod_lt _ hp) y v _ (h.step hp).1
/-- What `inverse` answers. -/
def invI (m a : Nat) : Int := if eucF (a % m) m 1 0 < 0 then eucF (a % m) m 1 0 + m else eucF (a % m) m 1 0
def invN (m a : Nat) : Nat := (invI m a).toNat
theorem invN_ok {m a : Nat} (hm : 0 < m) (hg : Nat.gcd (a % m) m = 1) : ((invN m a : Nat) : Int) = invI m a ∧ invN m a ≤ m ∧ a * invN m a % m = 1 % m := by
  obtain ⟨x', v', h⟩ := (eu_start (a := a % m) hm).final
  obtain ⟨o, ho, h1, h2⟩ := h.stop hg
  have ho' : (o : Int) = invI m a := ho
  have e : invN m a = o := by unfold invN; rw [← ho']; rfl
  rw [e]
  exact ⟨ho', h1, by rw [← h2, Nat.mod_mul_mod]⟩
theorem inv_unique {m a o o' : Nat} (h : a * o % m = 1 % m) (h' : a * o' % m = 1 % m) : o % m = o' % m := by
  have e1 : o * (a * o') % m = o % m := by rw [Nat.mul_mod, h', ← Nat.mul_mod, Nat.mul_one]
  have e2 : o * (a * o') % m = o' % m := by rw [show o * (a * o') = a * o * o' by rw [← Nat.mul_assoc, Nat.mul_comm o a], Nat.mul_mod, h, ← Nat.mul_mod, Nat.one_mul]
  rw [← e1, e2]
end Go.Proofs.YtijfncaphfaijaaGreatDoor
