
/- Plain laws: powers of the base; what one signer signs. Plain laws: a crew's shares, what some of it sign together. Plain laws: what some of a crew sign together. TopCrew: parted. -/
import Derived.Test.YtijfncaphfaijaaGreatDoorCH
namespace Go.Proofs.YtijfncaphfaijaaGreatDoor
open Go.Eng
set_option linter.unusedSimpArgs false
set_option maxRecDepth 10000

def pw4 (n : Nat) : Nat := qG ^ n % qQ
theorem pw4_qR : pw4 qR = 1 := by rw [pw4]; exact base_order
theorem pw4_lt (n : Nat) : pw4 n < 2305843009213691579 := Nat.mod_lt _ (by decide)
theorem pw4_R : pw4 1152921504606845789 = 1 := pw4_qR
theorem pw4_me {a b : Nat} (h : a % 1152921504606845789 = b % 1152921504606845789) : pw4 a = pw4 b := by
  have h1 : pw4 (a % qR) = pw4 a := base_pow a
  have h2 : pw4 (b % qR) = pw4 b := base_pow b
  have h3 : pw4 (a % qR) = pw4 (b % qR) := congrArg pw4 h
  rw [← h1, ← h2, h3]
theorem pw4_mod (a : Nat) : pw4 (a % 1152921504606845789) = pw4 a := pw4_me (Nat.mod_mod _ _)
theorem pw4_add (a b : Nat) : pw4 (a + b) = pw4 a * pw4 b % 2305843009213691579 := by
  show qG ^ (a + b) % qQ = qG ^ a % qQ * (qG ^ b % qQ) % qQ
  rw [Nat.pow_add, Nat.mul_mod]
theorem pw4_mul (a b : Nat) : pw4 (a * b) = pw4 a ^ b % 2305843009213691579 := by
  show qG ^ (a * b) % qQ = (qG ^ a % qQ) ^ b % qQ
  rw [Nat.pow_mul, Nat.pow_mod]
theorem pw4_pos (n : Nat) : 0 < pw4 n := by
  obtain ⟨k, hk⟩ := base_unit n
  rcases Nat.eq_zero_or_pos (pw4 n) with h | h
  · have h' : qG ^ n % qQ = 0 := h
    rw [h', Nat.zero_mul] at hk
    cases hk
  · exact h
theorem pw4_ring (r n : Nat) (h : pw4 r = 1) : pw4 n ^ r % 2305843009213691579 = 1 := by
  rw [← pw4_mul, Nat.mul_comm, pw4_mul, h, Nat.one_pow]
theorem pw4_in (n : Nat) : 0 < pw4 n ∧ pw4 n < 2305843009213691579 ∧ pw4 n ^ 1152921504606845789 % 2305843009213691579 = 1 :=
  ⟨pw4_pos n, pw4_lt n, pw4_ring 1152921504606845789 n pw4_R⟩
theorem gcd_pw (n : Nat) : Nat.gcd (pw4 n) 2305843009213691579 = 1 := by
  obtain ⟨k, hk⟩ := base_unit n
  exact gcd_of_inv hk
end Go.Proofs.YtijfncaphfaijaaGreatDoor
namespace Go.Proofs.YtijfncaphfaijaaGreatDoor
open Go.Eng
set_option linter.unusedSimpArgs false
set_option maxRecDepth 10000

theorem inG_pw (n : Nat) : InG (pw4 n) := pw4_in n
/-- A sum over shares. -/
def smS (f : Sh → Nat) : List Sh → Nat
  | [] => 0
  | s :: r => f s + smS f r
theorem prW_pub (ids : List Nat) (x : Nat) : ∀ (S : List Sh) (a : Nat), prW (fW ids x) (S.map Sh.pub) a % 2305843009213691579 = a * pw4 (smS (fun s => lwt ids x s.id * s.x) S) % 2305843009213691579
  | [], a => by simp only [List.map_nil, prW, smS]; rw [show pw4 0 = 1 from rfl, Nat.mul_one]
  | s :: r, a => by
    simp only [List.map_cons, prW, smS]
    rw [prW_pub ids x r, pw4_add]
    have e1 : fW ids x s.pub = pw4 (lwt ids x s.id * s.x) := by
      rw [Nat.mul_comm, pw4_mul]
      rfl
    rw [e1]
    rw [Nat.mod_mul_mod, Nat.mul_mod_mod, Nat.mul_assoc]
theorem prW_lt1 (g : Sh → Nat) (l : List Sh) : prW g l 1 < 2305843009213691579 := prW_lt g l 1 (by decide)
theorem prW_pub1 (ids : List Nat) (x : Nat) (S : List Sh) : prW (fW ids x) (S.map Sh.pub) 1 = pw4 (smS (fun s => lwt ids x s.id * s.x) S) := by
  have h := prW_pub ids x S 1
  rw [Nat.mod_eq_of_lt (prW_lt1 _ _), Nat.one_mul, Nat.mod_eq_of_lt (pw4_lt _)] at h
  exact h
/-- Shares of a polynomial. -/
def OnP (p : List Nat) (S : List Sh) : Prop := ∀ s ∈ S, s.x = evN s.id p 0 1
theorem evN_me (i : Nat) (p : List Nat) : evN i p 0 1 % 1152921504606845789 = polyN p i % 1152921504606845789 := by
  have := evN_eq i p 0 1
  rwa [Nat.zero_add, Nat.one_mul] at this
theorem smS_on {p : List Nat} (w : Nat → Nat) : ∀ {S : List Sh}, OnP p S → smS (fun s => w s.id * s.x) S % 1152921504606845789 = sumF (fun i => w i * polyN p i) (S.map Sh.id) % 1152921504606845789
  | [], _ => rfl
  | s :: r, h => by
    simp only [smS, List.map_cons, sumF]
    refine me_add (me_mul rfl ?_) (smS_on w fun q hq => h q (List.mem_cons_of_mem _ hq))
    rw [h s (List.mem_cons_self ..)]
    exact evN_me _ _
/-- What the weights make of shares. -/
theorem sm_lag {p : List Nat} {S : List Sh} {x : Nat} (hS : OnP p S) (hw : LwOk (S.map Sh.id) x) (hl : p.length ≤ S.length) : smS (fun s => lwt (S.map Sh.id) x s.id * s.x) S % 1152921504606845789 = polyN p x % 1152921504606845789 := by
  rw [smS_on (fun i => lwt (S.map Sh.id) x i) hS]
  exact lag hw p (by rw [List.length_map]; exact hl)
theorem sp_on (seed : List Int) (secret t n : Nat) : OnP (polyL seed secret t) (spL seed secret t n) := fun s hs => by
  obtain ⟨k, _, rfl⟩ := List.mem_map.1 hs
  rfl
theorem idsB_true : ∀ (t k : Nat), idsB k (List.replicate t true) = (List.range t).map (· + k)
  | 0, _ => rfl
  | t + 1, k => by
    rw [List.replicate_succ, idsB, idsB_true t (k + 1), List.range_succ_eq_map, List.map_cons, List.map_map, Nat.zero_add]
    congr 1
    refine List.map_congr_left fun i _ => ?_
    simp only [Function.comp]
    omega
theorem poly_zero (seed : List Int) (secret t : Nat) (ht : 1 ≤ t) : polyN (polyL seed secret t) 0 = secret := by
  obtain ⟨k, rfl⟩ : ∃ k, t = k + 1 := ⟨t - 1, by omega⟩
  unfold polyL
  rw [List.range_succ_eq_map, List.map_cons, polyN, Nat.zero_mul, Nat.add_zero]
  rfl
theorem deal_cr (seed : List Int) (t n : Nat) (_hs : seed.length ≤ 10000) (ht : 1 ≤ t) (htn : t ≤ n) (hn : n ≤ 7) : CrOk (deC seed t n) := by
  obtain ⟨S, hS⟩ : ∃ S, S = spL seed (secN seed) t n := ⟨_, rfl⟩
  have hSl : S.length = n := by rw [hS, spL_len]
  have hon : OnP (polyL seed (secN seed) t) S := by rw [hS]; exact sp_on _ _ _ _
  have hids : S.map Sh.id = (List.range n).map (· + 1) := by rw [hS, sp_ids]
  have hpid : (S.map Sh.pub).map Sh.id = (List.range n).map (· + 1) := by rw [← hids, List.map_map]; rfl
  have hF : OnP (polyL seed (secN seed) t) (S.take t) := fun s h => hon s (List.mem_of_mem_take h)
  have hFid : (S.take t).map Sh.id = idsB 1 (List.replicate t true) := by
    rw [List.map_take, hids, idsB_true, ← List.map_take, List.take_range, Nat.min_eq_left htn]
  have hFp : ((S.map Sh.pub).take t).map Sh.id = (S.take t).map Sh.id := by rw [← List.map_take, List.map_map]; rfl
  have hFl : (S.take t).length = t := by rw [List.length_take]; omega
  have hlw : ∀ x, x ≤ 7 → LwOk ((S.take t).map Sh.id) x := fun x hx => by rw [hFid]; exact lw_first t x (by omega) hx
  have hprod : ∀ x, x ≤ 7 → prW (fW ((S.take t).map Sh.id) x) ((S.map Sh.pub).take t) 1 = pw4 (polyN (polyL seed (secN seed) t) x) := fun x hx => by
    rw [← List.map_take, prW_pub1]
    exact pw4_me (sm_lag hF (hlw x hx) (by rw [polyL_len, hFl]; exact Nat.le_refl _))
  have hparts : (deC seed t n).parts = S.map Sh.pub := by rw [hS]; rfl
  have hsid : ∀ i s, (S.map Sh.pub)[i]? = some s → s.id = i + 1 := fun i s h => by
    have h1 : ((S.map Sh.pub).map Sh.id)[i]? = some s.id := by rw [List.getElem?_map, h]; rfl
    rw [hpid, List.getElem?_map] at h1
    by_cases hi : i < n
    · rw [List.getElem?_range hi] at h1
      simpa using h1.symm
    · rw [List.getElem?_eq_none (by simpa using hi)] at h1
      cases h1
  refine ⟨ht, htn, hn, by rw [hparts, List.length_map]; exact hSl, inG_pw _, by rw [hparts]; exact hsid, ⟨?_, ht, ?_, ?_, ?_, ?_⟩, ?_, ?_⟩
  · rw [hparts, hpid]; exact range_ids n (by omega) hn
  · rw [hparts, List.length_map, hSl]; exact htn
  · rw [hparts]
    intro s h
    obtain ⟨q, _, rfl⟩ := List.mem_map.1 h
    exact inG_pw _
  · show ∀ s ∈ (deC seed t n).parts.drop t, LwOk (((deC seed t n).parts.take t).map Sh.id) s.id
    rw [hparts, hFp]
    intro s h
    have hm : s.id ∈ (S.map Sh.pub).map Sh.id := List.mem_map.2 ⟨s, List.mem_of_mem_drop h, rfl⟩
    rw [hpid] at hm
    obtain ⟨i, hi, he⟩ := List.mem_map.1 hm
    have := List.mem_range.1 hi
    exact hlw _ (by omega)
  · show ∀ s ∈ (deC seed t n).parts.drop t, prW (fW (((deC seed t n).parts.take t).map Sh.id) s.id) ((deC seed t n).parts.take t) 1 = s.x
    rw [hparts, hFp]
    intro s h
    have hmm := List.mem_of_mem_drop h
    have hm : s.id ∈ (S.map Sh.pub).map Sh.id := List.mem_map.2 ⟨s, hmm, rfl⟩
    rw [hpid] at hm
    obtain ⟨i, hi, he⟩ := List.mem_map.1 hm
    have := List.mem_range.1 hi
    show prW (fW ((S.take t).map Sh.id) s.id) ((S.map Sh.pub).take t) 1 = s.x
    rw [hprod _ (by omega)]
    obtain ⟨q, hq, rfl⟩ := List.mem_map.1 hmm
    have hqx := hon q hq
    refine pw4_me ?_
    rw [← evN_me, hqx]
    rfl
  · show LwOk (((deC seed t n).parts.take t).map Sh.id) 0
    rw [hparts, hFp]
    exact hlw 0 (by omega)
  · show prW (fW (((deC seed t n).parts.take t).map Sh.id) 0) ((deC seed t n).parts.take t) 1 = pw4 (secN seed)
    rw [hparts, hFp, hprod 0 (by omega), poly_zero _ _ _ ht]
end Go.Proofs.YtijfncaphfaijaaGreatDoor
namespace Go.Proofs.YtijfncaphfaijaaGreatDoor
open Go.Eng
set_option linter.unusedSimpArgs false
set_option maxRecDepth 10000

/-- Those of a list that are marked. -/
def pickB : List Bool → List Sh → List Sh
  | true :: us, s :: r => s :: pickB us r
  | false :: us, _ :: r => pickB us r
  | _, _ => []
def cntB : List Bool → Nat
  | [] => 0
  | true :: r => cntB r + 1
  | false :: r => cntB r
theorem pickB_sub : ∀ (us : List Bool) (l : List Sh), (pickB us l).Sublist l
  | [], l => by rw [show pickB [] l = [] from by cases l <;> rfl]; exact List.nil_sublist _
  | true :: us, [] => by rw [show pickB (true :: us) [] = [] from rfl]; exact List.nil_sublist _
  | false :: us, [] => by rw [show pickB (false :: us) [] = [] from rfl]; exact List.nil_sublist _
  | true :: us, s :: r => (pickB_sub us r).cons_cons s
  | false :: us, s :: r => (pickB_sub us r).cons s
theorem pickB_len : ∀ (us : List Bool) (l : List Sh), us.length = l.length → (pickB us l).length = cntB us
  | [], [], _ => rfl
  | true :: us, s :: r, h => by simp only [pickB, cntB, List.length_cons]; rw [pickB_len us r (by simpa using h)]
  | false :: us, s :: r, h => by simp only [pickB, cntB]; exact pickB_len us r (by simpa using h)
  | [], _ :: _, h => by simp at h
  | _ :: _, [], h => by simp at h
theorem pickB_ids : ∀ (us : List Bool) (l : List Sh) (k : Nat), us.length = l.length → (∀ i s, l[i]? = some s → s.id = k + i) → (pickB us l).map Sh.id = idsB k us
  | [], [], _, _, _ => rfl
  | true :: us, s :: r, k, h, hi => by
    simp only [pickB, idsB, List.map_cons]
    rw [pickB_ids us r (k + 1) (by simpa using h) fun i q hq => by have := hi (i + 1) q hq; omega, hi 0 s rfl]
    rfl
  | false :: us, s :: r, k, h, hi => by
    simp only [pickB, idsB]
    exact pickB_ids us r (k + 1) (by simpa using h) fun i q hq => by have := hi (i + 1) q hq; omega
  | [], _ :: _, _, h, _ => by simp at h
  | _ :: _, [], _, h, _ => by simp at h
theorem sp_id (seed : List Int) (secret t n i : Nat) (s : Sh) (h : (spL seed secret t n)[i]? = some s) : s.id = 1 + i ∧ i < n := by
  by_cases hi : i < n
  · rw [spL_get hi] at h
    cases h
    exact ⟨by show i + 1 = 1 + i; omega, hi⟩
  · rw [List.getElem?_eq_none (by rw [spL_len]; omega)] at h
    cases h
theorem sp_up (seed : List Int) (secret t n : Nat) : (spL seed secret t n).Pairwise fun a b => a.id < b.id := by
  unfold spL
  rw [List.pairwise_map]
  exact List.pairwise_lt_range.imp fun h => by show _ + 1 < _ + 1; omega
theorem smS_map (f : Sh → Nat) (g : Sh → Sh) : ∀ l : List Sh, smS f (l.map g) = smS (fun s => f (g s)) l
  | [] => rfl
  | s :: r => by simp only [List.map_cons, smS, smS_map f g r]
theorem smS_add (f g : Sh → Nat) : ∀ l : List Sh, smS (fun s => f s + g s) l = smS f l + smS g l
  | [] => rfl
  | s :: r => by simp only [smS, smS_add f g r]; omega
theorem smS_mul (c : Nat) (f : Sh → Nat) : ∀ l : List Sh, smS (fun s => c * f s) l = c * smS f l
  | [] => rfl
  | s :: r => by simp only [smS, smS_mul c f r, Nat.mul_add]
theorem smS_me {m : Nat} {f g : Sh → Nat} : ∀ {l : List Sh}, (∀ s ∈ l, f s % m = g s % m) → smS f l % m = smS g l % m
  | [], _ => rfl
  | s :: _, h => me_add (h s (List.mem_cons_self ..)) (smS_me fun q hq => h q (List.mem_cons_of_mem _ hq))
theorem ov_sum : ∀ (l : List Sh) (a : Nat), ovL (fun n p => (n + p.x) % 1152921504606845789) l a % 1152921504606845789 = (a + smS Sh.x l) % 1152921504606845789
  | [], a => rfl
  | s :: r, a => by
    simp only [ovL, smS]
    rw [ov_sum r, ← Nat.add_assoc]
    exact me_add (Nat.mod_mod _ _) rfl
theorem ov_lt : ∀ (l : List Sh) (a : Nat), a < 1152921504606845789 → ovL (fun n p => (n + p.x) % 1152921504606845789) l a < 1152921504606845789
  | [], _, h => h
  | s :: r, a, _ => ov_lt r _ (Nat.mod_lt _ (by decide))
theorem smN_lt (l : List Sh) : smN l < 1152921504606845789 := ov_lt l 0 (by decide)
theorem smN_me (l : List Sh) : smN l % 1152921504606845789 = smS Sh.x l % 1152921504606845789 := by
  have := ov_sum l 0
  rwa [Nat.zero_add] at this
theorem prW_pw (f : Sh → Nat) (e : Sh → Nat) : ∀ (S : List Sh) (a : Nat), (∀ s ∈ S, f s = pw4 (e s)) → prW f S a % 2305843009213691579 = a * pw4 (smS e S) % 2305843009213691579
  | [], a, _ => by simp only [prW, smS]; rw [show pw4 0 = 1 from rfl, Nat.mul_one]
  | s :: r, a, h => by
    simp only [prW, smS]
    rw [prW_pw f e r _ fun q hq => h q (List.mem_cons_of_mem _ hq), pw4_add, h s (List.mem_cons_self ..)]
    rw [Nat.mod_mul_mod, Nat.mul_mod_mod, Nat.mul_assoc]
theorem prW_map (f : Sh → Nat) (g : Sh → Sh) : ∀ (l : List Sh) (a : Nat), prW f (l.map g) a = prW (fun s => f (g s)) l a
  | [], _ => rfl
  | _ :: r, _ => prW_map f g r _
/-- What some of a crew sign. -/
structure SgOk (c : Cr) (msg : List Int) (S : List Sh) (ses : Nat) : Prop where
  cm : CmOk c (S.map fun s => cmN s ses msg)
  lw : LwOk ((S.map fun s => cmN s ses msg).map Sh.id) 0
  ids : (S.map fun s => (⟨s.id, paN c msg (S.map fun s => cmN s ses msg) s ses⟩ : Sh)).map Sh.id = (S.map fun s => cmN s ses msg).map Sh.id
  rt : ∀ p ∈ (S.map fun s => (⟨s.id, paN c msg (S.map fun s => cmN s ses msg) s ses⟩ : Sh)), RtOk c msg (S.map fun s => cmN s ses msg) p
  gc : Nat.gcd (c.key ^ chC c msg (S.map fun s => cmN s ses msg) % 2305843009213691579) 2305843009213691579 = 1
  eq : chaN (4 ^ smN (S.map fun s => (⟨s.id, paN c msg (S.map fun s => cmN s ses msg) s ses⟩ : Sh)) % 2305843009213691579 * invN 2305843009213691579 (c.key ^ chC c msg (S.map fun s => cmN s ses msg) % 2305843009213691579) % 2305843009213691579) c.key msg = chC c msg (S.map fun s => cmN s ses msg)
theorem mk_id (a x : Nat) : (⟨a, x⟩ : Sh).id = a := rfl
theorem mk_x (a x : Nat) : (⟨a, x⟩ : Sh).x = x := rfl
theorem cm_eq (s : Sh) (ses : Nat) (msg : List Int) : cmN s ses msg = ⟨s.id, 4 ^ ncN s ses msg % 2305843009213691579⟩ := by unfold cmN; exact rfl
attribute [local irreducible] ncN
theorem cm_id (s : Sh) (ses : Nat) (msg : List Int) : (cmN s ses msg).id = s.id := (congrArg Sh.id (cm_eq s ses msg)).trans (mk_id _ _)
theorem cm_mid (S : List Sh) (ses : Nat) (msg : List Int) : (S.map fun s => cmN s ses msg).map Sh.id = S.map Sh.id := by
  induction S with
  | nil => rfl
  | cons s r ih => rw [List.map_cons, List.map_cons, List.map_cons, ih, cm_id]
theorem pw4_eq (n : Nat) : 4 ^ n % 2305843009213691579 = pw4 n := rfl
theorem cm_x (s : Sh) (ses : Nat) (msg : List Int) : (cmN s ses msg).x = pw4 (ncN s ses msg) := (congrArg Sh.x (cm_eq s ses msg)).trans ((mk_x _ _).trans (pw4_eq _))
theorem pub_x (s : Sh) : s.pub.x = pw4 s.x := rfl
theorem pub_id (s : Sh) : s.pub.id = s.id := rfl
theorem crew_signs (seed : List Int) (t n : Nat) (us : List Bool) (ses : Nat) (msg : List Int) (_hs : seed.length ≤ 10000) (ht : 1 ≤ t) (htn : t ≤ n) (hn : n ≤ 7) (hu : us.length = n) (hc : cntB us = t) :
    SgOk (deC seed t n) msg (pickB us (deL seed t n)) ses := by
  obtain ⟨A, hA⟩ : ∃ A, A = deL seed t n := ⟨_, rfl⟩
  obtain ⟨S, hS⟩ : ∃ S, S = pickB us A := ⟨_, rfl⟩
  obtain ⟨c, hcc⟩ : ∃ c, c = deC seed t n := ⟨_, rfl⟩
  have hAl : A.length = n := by rw [hA]; exact spL_len _ _ _ _
  have hsub : S.Sublist A := by rw [hS]; exact pickB_sub us A
  have hSl : S.length = t := by rw [hS, pickB_len us A (by omega)]; exact hc
  have hAid : ∀ i s, A[i]? = some s → s.id = 1 + i ∧ i < n := by rw [hA]; exact sp_id _ _ _ _
  have hSid : S.map Sh.id = idsB 1 us := by rw [hS]; exact pickB_ids us A 1 (by omega) fun i s h => (hAid i s h).1
  have hSup : S.Pairwise fun a b => a.id < b.id := by
    have := sp_up seed (secN seed) t n
    rw [← show A = spL seed (secN seed) t n from hA] at this
    exact this.sublist hsub
  have hSb : ∀ s ∈ S, 1 ≤ s.id ∧ s.id ≤ n ∧ A[s.id - 1]? = some s := fun s h => by
    obtain ⟨i, hi⟩ := List.getElem?_of_mem (hsub.subset h)
    obtain ⟨h1, h2⟩ := hAid i s hi
    exact ⟨by omega, by omega, by rw [h1, Nat.add_sub_cancel_left]; exact hi⟩
  have hon : OnP (polyL seed (secN seed) t) S := fun s h => by
    refine sp_on seed (secN seed) t n s ?_
    rw [← show A = spL seed (secN seed) t n from hA]
    exact hsub.subset h
  have hlw : LwOk (S.map Sh.id) 0 := by rw [hSid]; exact lw_zero us (by omega)
  have hct : c.t = t := by rw [hcc]; rfl
  have hcn : c.n = n := by rw [hcc]; rfl
  have hck : c.key = pw4 (secN seed) := by rw [hcc]; rfl
  have hcp : c.parts = A.map Sh.pub := by rw [hcc, hA]; rfl
  rw [← hA, ← hS, ← hcc]
  obtain ⟨L, hL⟩ : ∃ L, L = S.map fun s => cmN s ses msg := ⟨_, rfl⟩
  have hLid : L.map Sh.id = S.map Sh.id := by rw [hL]; exact cm_mid S ses msg
  have hcm : CmOk c L := by
    refine ⟨fun s h => ?_, fun s h => ?_, fun s h => ?_, ?_, ?_, ?_⟩
    · rw [hL] at h
      obtain ⟨q, _, rfl⟩ := List.mem_map.1 h
      rw [cm_x]; exact inG_pw _
    · rw [hL] at h
      obtain ⟨q, hq, rfl⟩ := List.mem_map.1 h
      rw [cm_id, hcn]; exact (hSb q hq).2.1
    · rw [hL] at h
      obtain ⟨q, hq, rfl⟩ := List.mem_map.1 h
      rw [cm_id]; exact (hSb q hq).1
    · rw [hL, List.pairwise_map]; exact hSup.imp fun h => by rw [cm_id, cm_id]; exact h
    · rw [hL, List.length_map, hSl, hct]; exact Nat.le_refl _
    · rw [hL, List.length_map, hSl]; omega
  have hlwL : LwOk (L.map Sh.id) 0 := by rw [hLid]; exact hlw
  obtain ⟨e, he⟩ : ∃ e, e = chC c msg L := ⟨_, rfl⟩
  have hall : allC L = pw4 (smS (fun s => ncN s ses msg) S) := by
    have h1 := prW_pw (fun s => (cmN s ses msg).x) (fun s => ncN s ses msg) S 1 fun s _ => cm_x s ses msg
    have h3 : allC L = prW (fun s => (cmN s ses msg).x) S 1 := by rw [hL, allC]; exact prW_map Sh.x _ S 1
    have h4 := Nat.mod_eq_of_lt (prW_lt1 (fun s => (cmN s ses msg).x) S)
    have h5 := Nat.mod_eq_of_lt (pw4_lt (smS (fun s => ncN s ses msg) S))
    rw [h4, Nat.one_mul, h5] at h1
    rw [h3, h1]
  have hpa : ∀ s, paN c msg L s ses % 1152921504606845789 = (ncN s ses msg + e * (lwt (S.map Sh.id) 0 s.id * s.x)) % 1152921504606845789 := fun s => by
    rw [paN, Nat.mod_mod, scN, hLid, ← he]
    refine me_add rfl ?_
    rw [Nat.mod_mod, ← Nat.mul_assoc]
    exact me_mul (Nat.mod_mod _ _) rfl
  have hke : c.key ^ e % 2305843009213691579 = pw4 (secN seed * e) := by rw [hck, pw4_mul]
  have f3 : (S.map fun s => (⟨s.id, paN c msg L s ses⟩ : Sh)).map Sh.id = L.map Sh.id := by rw [List.map_map, hLid]; rfl
  have f4 : ∀ p ∈ (S.map fun s => (⟨s.id, paN c msg L s ses⟩ : Sh)), RtOk c msg L p := by
    intro p hp
    obtain ⟨s, hs', rfl⟩ := List.mem_map.1 hp
    obtain ⟨b1, b2, b3⟩ := hSb s hs'
    refine ⟨by show paN c msg L s ses < _; rw [paN]; exact Nat.mod_lt _ (by decide), cmN s ses msg, s.pub, by rw [hL]; exact List.mem_map.2 ⟨s, hs', rfl⟩, cm_id s ses msg, ?_, ?_⟩
    · show c.parts[s.id - 1]? = some s.pub
      rw [hcp, List.getElem?_map, b3]; rfl
    · show pw4 (paN c msg L s ses) = (cmN s ses msg).x * (pw4 s.x ^ scN c msg L s.id % 2305843009213691579) % 2305843009213691579
      rw [cm_x, ← pw4_mul, ← pw4_add]
      refine pw4_me ?_
      rw [paN, Nat.mod_mod, Nat.mul_comm s.x]
      exact me_add rfl (Nat.mod_mod _ _)
  have f5 : Nat.gcd (c.key ^ chC c msg L % 2305843009213691579) 2305843009213691579 = 1 := by rw [← he, hke]; exact gcd_pw _
  have f6 : chaN (4 ^ smN (S.map fun s => (⟨s.id, paN c msg L s ses⟩ : Sh)) % 2305843009213691579 * invN 2305843009213691579 (c.key ^ chC c msg L % 2305843009213691579) % 2305843009213691579) c.key msg = chC c msg L := by
    rw [← he, hke]
    obtain ⟨PS, hPS⟩ : ∃ PS, PS = S.map fun s => (⟨s.id, paN c msg L s ses⟩ : Sh) := ⟨_, rfl⟩
    rw [← hPS]
    have h1 : smN PS % 1152921504606845789 = (smS (fun s => ncN s ses msg) S + secN seed * e) % 1152921504606845789 := by
      rw [smN_me, hPS, smS_map]
      have h2 : smS (fun s => paN c msg L s ses) S % 1152921504606845789 = (smS (fun s => ncN s ses msg) S + e * smS (fun s => lwt (S.map Sh.id) 0 s.id * s.x) S) % 1152921504606845789 := by
        rw [← smS_mul, ← smS_add]
        exact smS_me fun s _ => hpa s
      rw [h2]
      refine me_add rfl ?_
      rw [Nat.mul_comm (secN seed)]
      refine me_mul rfl ?_
      rw [sm_lag hon hlw (by rw [polyL_len, hSl]; exact Nat.le_refl _), poly_zero _ _ _ ht]
    have h3 : 4 ^ smN PS % 2305843009213691579 = pw4 (smS (fun s => ncN s ses msg) S) * pw4 (secN seed * e) % 2305843009213691579 := by
      rw [← pw4_add]
      exact pw4_me h1
    obtain ⟨_, _, h4⟩ := invN_ok (m := 2305843009213691579) (a := pw4 (secN seed * e)) (by decide) (by rw [Nat.mod_eq_of_lt (pw4_lt _)]; exact gcd_pw _)
    have h5 : 4 ^ smN PS % 2305843009213691579 * invN 2305843009213691579 (pw4 (secN seed * e)) % 2305843009213691579 = allC L := by
      rw [h3, hall, Nat.mod_mul_mod, Nat.mul_assoc, Nat.mul_mod, h4]
      rw [show 1 % 2305843009213691579 = 1 from rfl, Nat.mul_one, Nat.mod_mod, Nat.mod_eq_of_lt (pw4_lt _)]
    rw [h5, he]
    rfl
  subst hL
  exact ⟨hcm, hlwL, f3, f4, f5, f6⟩
end Go.Proofs.YtijfncaphfaijaaGreatDoor
namespace Go.Proofs.YtijfncaphfaijaaGreatDoor
open Go.Eng
set_option linter.unusedSimpArgs false
set_option maxRecDepth 10000

noncomputable abbrev cmL (S : List Sh) (ses : Nat) (msg : List Int) : List Sh := S.map fun s => cmN s ses msg
noncomputable abbrev psL (c : Cr) (S : List Sh) (ses : Nat) (msg : List Int) : List Sh := S.map fun s => (⟨s.id, paN c msg (cmL S ses msg) s ses⟩ : Sh)
noncomputable abbrev psX (c : Cr) (S T : List Sh) (ses : Nat) (msg : List Int) : List Sh := T.map fun s => (⟨s.id, paN c msg (cmL S ses msg) s ses⟩ : Sh)
theorem parted_ok (c : Cr) (S : List Sh) (ses : Nat) (msg : List Int) (hc : CrOk c) (h : SgOk c msg S ses) (h0 : 0 < S.length) (hx : ∀ s ∈ S, 1 ≤ s.id ∧ s.id ≤ 7 ∧ s.x < 1152921504606845789) (hses : ses ≤ 1099511627776) (hm : msg.length ≤ 10000) :
    Meets Tryz.prog 8 [(true, [vI c.t, vI c.n, vU64 c.key, vD (shD c.parts)]), (false, [vD (shD S)]), (false, [vI ses]), (false, [vD (byD msg)])] (rTup [(false, [vD (shD (cmL S ses msg))]), (false, [vD (shD (psL c S ses msg))]), (false, [vB true])]) := by
  have hl7 : S.length ≤ 7 := by have := h.cm.l7; rwa [List.length_map] at this
  refine meetsF Tryz.func8 rfl rfl Tryz.ntmps8 Tryz.results8 rfl ?_
  simp -dsimp -implicitDefEqProofs only [go_sem, ↓reduceIte, reduceCtorEq, Nat.reduceLT, Nat.reduceLeDiff, Nat.reduceEqDiff, Nat.reduceAdd, Nat.reduceMul, Nat.reduceSub, Nat.reduceBEq, Int.reduceLT, Int.reduceLE, Int.reduceEq, Int.reduceBEq, Int.reduceNeg]
  refine vownE 11 79 rfl ?_
  refine vownE 12 79 rfl ?_
  refine vfor sitOk (ι := MpInv S) (fun v => ⟨65, [(23, aI v.i), (22, aI S.length), (21, aD (shD S)), (11, aO 72), (12, aO 73), (4, aP 0 0), (1, aD (shD S)), (2, aI ses), (3, aD (byD msg))],
    [(72, some (.row 2 79 (shR (cmL (S.take v.i) ses msg)) true)), (73, some (.row 2 79 [] true)), (0, some (.var [cI c.t, cI c.n, cU c.key, cD (shD c.parts)] true))], 74⟩) (fun v => S.length - v.i) ⟨0, by omega⟩ ?_ ?_
  · simp -dsimp -implicitDefEqProofs only [go_sem, ↓reduceIte, reduceCtorEq, Nat.reduceLT, Nat.reduceLeDiff, Nat.reduceEqDiff, Nat.reduceAdd, Nat.reduceMul, Nat.reduceSub, Nat.reduceBEq, Int.reduceLT, Int.reduceLE, Int.reduceEq, Int.reduceBEq, Int.reduceNeg]
  intro ⟨i, hi⟩
  by_cases hil : i < S.length
  · have c1 : ((i : Int) < (S.length : Int)) = True := by simp; omega
    obtain ⟨s, hs⟩ := get_of hil
    have w2 : IntKind.i64.wrap ((i : Int) + 1) = ((i + 1 : Nat) : Int) := by rw [wrap64] <;> omega
    obtain ⟨b1, b2, b3⟩ := hx s (List.mem_of_getElem? hs)
    have h1 := commit_ok s ses msg b1 b2 b3 hses hm
    have ht : cmL (S.take (i + 1)) ses msg = cmL (S.take i) ses msg ++ [cmN s ses msg] := by rw [List.take_add_one, hs, cmL, List.map_append]; rfl
    have htl : (S.take i).length ≤ 7 := by rw [List.length_take]; omega
    simp -dsimp -implicitDefEqProofs only [c1, hs, forall_eq', Sh.cells, go_sem, ↓reduceIte, reduceCtorEq, Nat.reduceLT, Nat.reduceLeDiff, Nat.reduceEqDiff, Nat.reduceAdd, Nat.reduceMul, Nat.reduceSub, Nat.reduceBEq, Int.reduceLT, Int.reduceLE, Int.reduceEq, Int.reduceBEq, Int.reduceNeg]
    refine ⟨by omega, hil, callP h1 ?_⟩
    simp -dsimp -implicitDefEqProofs only [go_sem, ↓reduceIte, reduceCtorEq, Nat.reduceLT, Nat.reduceLeDiff, Nat.reduceEqDiff, Nat.reduceAdd, Nat.reduceMul, Nat.reduceSub, Nat.reduceBEq, Int.reduceLT, Int.reduceLE, Int.reduceEq, Int.reduceBEq, Int.reduceNeg]
    have hcell : Sh.cells (cmN s ses msg) = [.v (.int .i64 (s.id : Int)), .v (.int .u64 ((4 ^ ncN s ses msg % 2305843009213691579 : Nat) : Int))] := by rw [cm_eq]; rfl
    refine ⟨⟨by omega, by omega⟩, againT 72 11 ⟨i + 1, by omega⟩ (by simp; omega) ?_⟩
    simp -dsimp -implicitDefEqProofs only [w2, ht, List.map_append, List.map_cons, List.map_nil, hcell, go_sem, ↓reduceIte, reduceCtorEq, Nat.reduceLT, Nat.reduceLeDiff, Nat.reduceEqDiff, Nat.reduceAdd, Nat.reduceMul, Nat.reduceSub, Nat.reduceBEq, Int.reduceLT, Int.reduceLE, Int.reduceEq, Int.reduceBEq, Int.reduceNeg]
  · have c1 : ((i : Int) < (S.length : Int)) = False := by simp; omega
    obtain rfl : i = S.length := by omega
    simp -dsimp -implicitDefEqProofs only [c1, List.take_length, go_sem, ↓reduceIte, reduceCtorEq, Nat.reduceLT, Nat.reduceLeDiff, Nat.reduceEqDiff, Nat.reduceAdd, Nat.reduceMul, Nat.reduceSub, Nat.reduceBEq, Int.reduceLT, Int.reduceLE, Int.reduceEq, Int.reduceBEq, Int.reduceNeg]
    refine vfor sitOk (ι := MpInv S) (fun v => ⟨65, [(43, aI v.i), (42, aI S.length), (41, aD (shD S)), (11, aO 72), (12, aO 73), (4, aP 0 0), (2, aI ses), (3, aD (byD msg))],
      [(72, some (.row 2 79 (shR (cmL S ses msg)) true)), (73, some (.row 2 79 (shR (psX c S (S.take v.i) ses msg)) true)), (0, some (.var [cI c.t, cI c.n, cU c.key, cD (shD c.parts)] true))], 106⟩) (fun v => S.length - v.i) ⟨0, by omega⟩ ?_ ?_
    · simp -dsimp -implicitDefEqProofs only [go_sem, ↓reduceIte, reduceCtorEq, Nat.reduceLT, Nat.reduceLeDiff, Nat.reduceEqDiff, Nat.reduceAdd, Nat.reduceMul, Nat.reduceSub, Nat.reduceBEq, Int.reduceLT, Int.reduceLE, Int.reduceEq, Int.reduceBEq, Int.reduceNeg]
    intro ⟨i, hi⟩
    by_cases hil : i < S.length
    · have c1 : ((i : Int) < (S.length : Int)) = True := by simp; omega
      obtain ⟨s, hs⟩ := get_of hil
      have hsm := List.mem_of_getElem? hs
      have w2 : IntKind.i64.wrap ((i : Int) + 1) = ((i + 1 : Nat) : Int) := by rw [wrap64] <;> omega
      obtain ⟨b1, b2, b3⟩ := hx s hsm
      have h1 := part_ok c s ses msg (cmL S ses msg) hc h.cm h.lw b1 b2 b3 hses hm (List.mem_map.2 ⟨s, hsm, rfl⟩)
      have ht : psX c S (S.take (i + 1)) ses msg = psX c S (S.take i) ses msg ++ [⟨s.id, paN c msg (cmL S ses msg) s ses⟩] := by rw [List.take_add_one, hs, psX, List.map_append]; rfl
      have htl : (S.take i).length ≤ 7 := by rw [List.length_take]; omega
      simp -dsimp -implicitDefEqProofs only [c1, hs, forall_eq', Sh.cells, go_sem, ↓reduceIte, reduceCtorEq, Nat.reduceLT, Nat.reduceLeDiff, Nat.reduceEqDiff, Nat.reduceAdd, Nat.reduceMul, Nat.reduceSub, Nat.reduceBEq, Int.reduceLT, Int.reduceLE, Int.reduceEq, Int.reduceBEq, Int.reduceNeg]
      refine ⟨by omega, hil, callP h1 ?_⟩
      simp -dsimp -implicitDefEqProofs only [go_sem, ↓reduceIte, reduceCtorEq, Nat.reduceLT, Nat.reduceLeDiff, Nat.reduceEqDiff, Nat.reduceAdd, Nat.reduceMul, Nat.reduceSub, Nat.reduceBEq, Int.reduceLT, Int.reduceLE, Int.reduceEq, Int.reduceBEq, Int.reduceNeg]
      refine ⟨⟨by omega, by omega⟩, againT 73 12 ⟨i + 1, by omega⟩ (by simp; omega) ?_⟩
      simp -dsimp -implicitDefEqProofs only [w2, ht, List.map_append, List.map_cons, List.map_nil, Sh.cells, go_sem, ↓reduceIte, reduceCtorEq, Nat.reduceLT, Nat.reduceLeDiff, Nat.reduceEqDiff, Nat.reduceAdd, Nat.reduceMul, Nat.reduceSub, Nat.reduceBEq, Int.reduceLT, Int.reduceLE, Int.reduceEq, Int.reduceBEq, Int.reduceNeg]
    · have c1 : ((i : Int) < (S.length : Int)) = False := by simp; omega
      obtain rfl : i = S.length := by omega
      simp -dsimp -implicitDefEqProofs only [c1, List.take_length, go_sem, ↓reduceIte, reduceCtorEq, Nat.reduceLT, Nat.reduceLeDiff, Nat.reduceEqDiff, Nat.reduceAdd, Nat.reduceMul, Nat.reduceSub, Nat.reduceBEq, Int.reduceLT, Int.reduceLE, Int.reduceEq, Int.reduceBEq, Int.reduceNeg]
      refine retF [72, 73] ?_
      simp -dsimp -implicitDefEqProofs only [go_sem, ↓reduceIte, reduceCtorEq, Nat.reduceLT, Nat.reduceLeDiff, Nat.reduceEqDiff, Nat.reduceAdd, Nat.reduceMul, Nat.reduceSub, Nat.reduceBEq, Int.reduceLT, Int.reduceLE, Int.reduceEq, Int.reduceBEq, Int.reduceNeg]
end Go.Proofs.YtijfncaphfaijaaGreatDoor
