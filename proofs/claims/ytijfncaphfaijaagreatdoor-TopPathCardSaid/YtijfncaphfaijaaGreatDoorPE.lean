
/- sign: some, Secret, Public, Challenge, Sign, Check. Plain laws: powers of the base; what one signer signs. -/
import Derived.Test.YtijfncaphfaijaaGreatDoorCD
namespace Go.Proofs.YtijfncaphfaijaaGreatDoor
open Go.Eng
set_option linter.unusedSimpArgs false
set_option maxRecDepth 10000

/-- A number of a hash, by choice. -/
noncomputable def numN (m s0 s1 : Nat) : Nat := open Classical in if h : ∃ n, n < m ∧ Meets Tryz.prog 79 [(true, [vU64 s0, vU64 s1]), (false, [vU64 m])] (rOne (vU64 (n : Nat))) then Classical.choose h else 0
theorem numN_ok {m s : Nat} (h : LzOk m s) (s0 s1 : Nat) (h0 : s0 < 18446744073709551616) (h1 : s1 < 18446744073709551616) : numN m s0 s1 < m ∧ Meets Tryz.prog 79 [(true, [vU64 s0, vU64 s1]), (false, [vU64 m])] (rOne (vU64 (numN m s0 s1 : Nat))) := by
  have hx := num_ok h s0 s1 h0 h1
  unfold numN
  rw [dif_pos hx]
  exact Classical.choose_spec hx
theorem sumG_ok : ∀ (l : List Nat) (w : W3), w.ok → (sumG l w).ok
  | [], w, h => by rw [sumG_nil]; exact h
  | [x], w, h => by rw [sumG_one]; exact mix8_ok (w3_ok (faN_lt _ _) h.2.1 h.2.2)
  | x :: y :: r, w, h => by rw [sumG_two]; exact sumG_ok r _ (mix8_ok (w3_ok (faN_lt _ _) (faN_lt _ _) h.2.2))
theorem sumN_ok (b : List Int) (hb : b.length ≤ 1099511627776) : (sumN b).ok := by
  have h0 : W3.ok ⟨0, 0, b.length⟩ := w3_ok (by decide) (by decide) (by omega)
  unfold sumN
  generalize ofG b = l
  cases l with
  | nil => rw [sum0_nil]; exact mix8_ok h0
  | cons x r => rw [sum0_cons]; exact sumG_ok _ _ h0
/-- The number that a tag and parts give below m. -/
noncomputable def tagN (m : Nat) (t : ByteArray) (ps : List (List Int)) : Nat := numN m (sumN (frm t ps)).a (sumN (frm t ps)).b
theorem frm_len (t : ByteArray) (ps : List (List Int)) : (frm t ps).length = 1 + t.size + (frmL ps).length := by unfold frm; simp [tagL_len]; omega
theorem some_ok (t : ByteArray) (ps : List (List Int)) (ht : t.size < 256) (hl : (frmL ps).length ≤ 549755813888) : Meets Tryz.prog 51 [(false, [vD (.v (.string t))]), (false, [vD (paD ps)])] (rOne (vU64 (tagN 1152921504606845788 t ps + 1 : Nat))) := by
  have h1 := tagged_ok t ps ht hl
  have hs := sumN_ok (frm t ps) (by rw [frm_len]; omega)
  obtain ⟨h2, h3⟩ := numN_ok lzR1 (sumN (frm t ps)).a (sumN (frm t ps)).b hs.1 hs.2.1
  have w1 : IntKind.u64.wrap (((numN 1152921504606845788 (sumN (frm t ps)).a (sumN (frm t ps)).b : Nat) : Int) + 1) = ((tagN 1152921504606845788 t ps + 1 : Nat) : Int) := by
    rw [IntKind.wrap_u64]; unfold tagN; omega
  refine meets Tryz.func51 rfl rfl Tryz.ntmps51 Tryz.results51 rfl ?_
  simp -dsimp -implicitDefEqProofs only [go_sem, ↓reduceIte, reduceCtorEq, Nat.reduceLT, Nat.reduceLeDiff, Nat.reduceEqDiff, Nat.reduceAdd, Nat.reduceMul, Nat.reduceSub, Nat.reduceBEq, Int.reduceLT, Int.reduceLE, Int.reduceEq, Int.reduceBEq, Int.reduceNeg]
  refine callP h1 ?_
  simp -dsimp -implicitDefEqProofs only [go_sem, ↓reduceIte, reduceCtorEq, Nat.reduceLT, Nat.reduceLeDiff, Nat.reduceEqDiff, Nat.reduceAdd, Nat.reduceMul, Nat.reduceSub, Nat.reduceBEq, Int.reduceLT, Int.reduceLE, Int.reduceEq, Int.reduceBEq, Int.reduceNeg]
  refine callP h3 ?_
  simp -dsimp -implicitDefEqProofs only [w1, go_sem, ↓reduceIte, reduceCtorEq, Nat.reduceLT, Nat.reduceLeDiff, Nat.reduceEqDiff, Nat.reduceAdd, Nat.reduceMul, Nat.reduceSub, Nat.reduceBEq, Int.reduceLT, Int.reduceLE, Int.reduceEq, Int.reduceBEq, Int.reduceNeg]
theorem tagN_lt1 (t : ByteArray) (ps : List (List Int)) (ht : t.size < 256) (hl : (frmL ps).length ≤ 549755813888) : tagN 1152921504606845788 t ps < 1152921504606845788 := by
  have hs := sumN_ok (frm t ps) (by rw [frm_len]; omega)
  exact (numN_ok lzR1 _ _ hs.1 hs.2.1).1
theorem tagN_lt (t : ByteArray) (ps : List (List Int)) (ht : t.size < 256) (hl : (frmL ps).length ≤ 549755813888) : tagN 1152921504606845789 t ps < 1152921504606845789 := by
  have hs := sumN_ok (frm t ps) (by rw [frm_len]; omega)
  exact (numN_ok lzR _ _ hs.1 hs.2.1).1
abbrev strB' (l : List UInt8) : ByteArray := ⟨l.toArray⟩
def secT : ByteArray := ⟨#[115, 101, 99, 114, 101, 116]⟩
def nonT : ByteArray := ⟨#[110, 111, 110, 99, 101]⟩
def sigT : ByteArray := ⟨#[115, 105, 103, 110]⟩
noncomputable def secN (seed : List Int) : Nat := tagN 1152921504606845788 secT [seed] + 1
theorem secN_rng (seed : List Int) (h : seed.length ≤ 10000) : 0 < secN seed ∧ secN seed < 1152921504606845789 := by
  have := tagN_lt1 secT [seed] (by decide) (by simp [frmL, putL_len]; omega)
  unfold secN
  omega
theorem secret_ok (seed : List Int) (h : seed.length ≤ 10000) : Meets Tryz.prog 13 [(false, [vD (byD seed)])] (rOne (vU64 (secN seed : Nat))) := by
  have h1 := some_ok secT [seed] (by decide) (by simp [frmL, putL_len]; omega)
  refine meets Tryz.func13 rfl rfl Tryz.ntmps13 Tryz.results13 rfl ?_
  simp -dsimp -implicitDefEqProofs only [go_sem, ↓reduceIte, reduceCtorEq, Nat.reduceLT, Nat.reduceLeDiff, Nat.reduceEqDiff, Nat.reduceAdd, Nat.reduceMul, Nat.reduceSub, Nat.reduceBEq, Int.reduceLT, Int.reduceLE, Int.reduceEq, Int.reduceBEq, Int.reduceNeg]
  refine callP h1 ?_
  simp -dsimp -implicitDefEqProofs only [go_sem, ↓reduceIte, reduceCtorEq, Nat.reduceLT, Nat.reduceLeDiff, Nat.reduceEqDiff, Nat.reduceAdd, Nat.reduceMul, Nat.reduceSub, Nat.reduceBEq, Int.reduceLT, Int.reduceLE, Int.reduceEq, Int.reduceBEq, Int.reduceNeg]
  rfl
theorem odd_ok (s : Nat) (h0 : 0 < s) (h : s < 1152921504606845789) : Meets Tryz.prog 52 [(false, [vU64 s])] (rOne (vB false)) := by
  have c1 : ((s : Int) = 0) = False := by simp; omega
  have c2 : ((1152921504606845789 : Int) ≤ (s : Int)) = False := by simp; omega
  refine meets Tryz.func52 rfl rfl Tryz.ntmps52 Tryz.results52 rfl ?_
  simp -dsimp -implicitDefEqProofs only [c1, c2, go_sem, ↓reduceIte, reduceCtorEq, Nat.reduceLT, Nat.reduceLeDiff, Nat.reduceEqDiff, Nat.reduceAdd, Nat.reduceMul, Nat.reduceSub, Nat.reduceBEq, Int.reduceLT, Int.reduceLE, Int.reduceEq, Int.reduceBEq, Int.reduceNeg]
theorem public_ok (s : Nat) (h0 : 0 < s) (h : s < 1152921504606845789) : Meets Tryz.prog 14 [(false, [vU64 s])] (rTup [(false, [vU64 (4 ^ s % 2305843009213691579 : Nat)]), (false, [vI 0])]) := by
  have h1 := odd_ok s h0 h
  have h2 := base_ok s (by omega)
  refine meets Tryz.func14 rfl rfl Tryz.ntmps14 Tryz.results14 rfl ?_
  simp -dsimp -implicitDefEqProofs only [go_sem, ↓reduceIte, reduceCtorEq, Nat.reduceLT, Nat.reduceLeDiff, Nat.reduceEqDiff, Nat.reduceAdd, Nat.reduceMul, Nat.reduceSub, Nat.reduceBEq, Int.reduceLT, Int.reduceLE, Int.reduceEq, Int.reduceBEq, Int.reduceNeg]
  refine callP h1 ?_
  simp -dsimp -implicitDefEqProofs only [go_sem, ↓reduceIte, reduceCtorEq, Nat.reduceLT, Nat.reduceLeDiff, Nat.reduceEqDiff, Nat.reduceAdd, Nat.reduceMul, Nat.reduceSub, Nat.reduceBEq, Int.reduceLT, Int.reduceLE, Int.reduceEq, Int.reduceBEq, Int.reduceNeg]
  refine callP h2 ?_
  simp -dsimp -implicitDefEqProofs only [go_sem, ↓reduceIte, reduceCtorEq, Nat.reduceLT, Nat.reduceLeDiff, Nat.reduceEqDiff, Nat.reduceAdd, Nat.reduceMul, Nat.reduceSub, Nat.reduceBEq, Int.reduceLT, Int.reduceLE, Int.reduceEq, Int.reduceBEq, Int.reduceNeg]
/-- A number's bytes, by choice. -/
noncomputable def sbN (n : Nat) : List Int := Classical.choose (sbytes_ok n)
theorem sbN_len (n : Nat) : (sbN n).length = 8 := (Classical.choose_spec (sbytes_ok n)).1
theorem sbN_ok (n : Nat) : Meets Tryz.prog 55 [(false, [vU64 n])] (rOne (vD (byD (sbN n)))) := (Classical.choose_spec (sbytes_ok n)).2.2
noncomputable def chaN (c p : Nat) (msg : List Int) : Nat := tagN 1152921504606845789 sigT [sbN c, sbN p, msg]
theorem cha_fl (c p : Nat) (msg : List Int) (h : msg.length ≤ 10000) : (frmL [sbN c, sbN p, msg]).length ≤ 549755813888 := by simp [frmL, putL_len, sbN_len]; omega
theorem chaN_lt (c p : Nat) (msg : List Int) (h : msg.length ≤ 10000) : chaN c p msg < 1152921504606845789 := tagN_lt sigT _ (by decide) (cha_fl c p msg h)
theorem challenge_ok (c p : Nat) (msg : List Int) (h : msg.length ≤ 10000) : Meets Tryz.prog 45 [(false, [vU64 c]), (false, [vU64 p]), (false, [vD (byD msg)])] (rOne (vU64 (chaN c p msg : Nat))) := by
  have hl := cha_fl c p msg h
  have h1 := tagged_ok sigT [sbN c, sbN p, msg] (by decide) hl
  have hs := sumN_ok (frm sigT [sbN c, sbN p, msg]) (by rw [frm_len]; have : sigT.size = 4 := rfl; omega)
  obtain ⟨h2, h3⟩ := numN_ok lzR _ _ hs.1 hs.2.1
  have hc := sbN_ok c
  have hp := sbN_ok p
  refine meets Tryz.func45 rfl rfl Tryz.ntmps45 Tryz.results45 rfl ?_
  simp -dsimp -implicitDefEqProofs only [go_sem, ↓reduceIte, reduceCtorEq, Nat.reduceLT, Nat.reduceLeDiff, Nat.reduceEqDiff, Nat.reduceAdd, Nat.reduceMul, Nat.reduceSub, Nat.reduceBEq, Int.reduceLT, Int.reduceLE, Int.reduceEq, Int.reduceBEq, Int.reduceNeg]
  refine callP hc ?_
  simp -dsimp -implicitDefEqProofs only [go_sem, ↓reduceIte, reduceCtorEq, Nat.reduceLT, Nat.reduceLeDiff, Nat.reduceEqDiff, Nat.reduceAdd, Nat.reduceMul, Nat.reduceSub, Nat.reduceBEq, Int.reduceLT, Int.reduceLE, Int.reduceEq, Int.reduceBEq, Int.reduceNeg]
  refine callP hp ?_
  simp -dsimp -implicitDefEqProofs only [go_sem, ↓reduceIte, reduceCtorEq, Nat.reduceLT, Nat.reduceLeDiff, Nat.reduceEqDiff, Nat.reduceAdd, Nat.reduceMul, Nat.reduceSub, Nat.reduceBEq, Int.reduceLT, Int.reduceLE, Int.reduceEq, Int.reduceBEq, Int.reduceNeg]
  refine callP h1 ?_
  simp -dsimp -implicitDefEqProofs only [go_sem, ↓reduceIte, reduceCtorEq, Nat.reduceLT, Nat.reduceLeDiff, Nat.reduceEqDiff, Nat.reduceAdd, Nat.reduceMul, Nat.reduceSub, Nat.reduceBEq, Int.reduceLT, Int.reduceLE, Int.reduceEq, Int.reduceBEq, Int.reduceNeg]
  refine callP h3 ?_
  simp -dsimp -implicitDefEqProofs only [go_sem, ↓reduceIte, reduceCtorEq, Nat.reduceLT, Nat.reduceLeDiff, Nat.reduceEqDiff, Nat.reduceAdd, Nat.reduceMul, Nat.reduceSub, Nat.reduceBEq, Int.reduceLT, Int.reduceLE, Int.reduceEq, Int.reduceBEq, Int.reduceNeg]
  rfl
/-- A signature. -/
noncomputable def nonN (s : Nat) (msg : List Int) : Nat := tagN 1152921504606845788 nonT [sbN s, msg] + 1
noncomputable def sigE (s : Nat) (msg : List Int) : Nat := chaN (4 ^ nonN s msg % 2305843009213691579) (4 ^ s % 2305843009213691579) msg
noncomputable def sigS (s : Nat) (msg : List Int) : Nat := (sigE s msg * s % 1152921504606845789 + nonN s msg) % 1152921504606845789
theorem sign_ok (s : Nat) (msg : List Int) (h0 : 0 < s) (hs : s < 1152921504606845789) (h : msg.length ≤ 10000) : Meets Tryz.prog 17 [(false, [vU64 s]), (false, [vD (byD msg)])] (rTup [(true, [vU64 (sigE s msg : Nat), vU64 (sigS s msg : Nat)]), (false, [vI 0])]) := by
  have hl : (frmL [sbN s, msg]).length ≤ 549755813888 := by simp [frmL, putL_len, sbN_len]; omega
  have h1 := public_ok s h0 hs
  have h2 := sbN_ok s
  have h3 := some_ok nonT [sbN s, msg] (by decide) hl
  have hn := tagN_lt1 nonT [sbN s, msg] (by decide) hl
  have hnn : nonN s msg < 18446744073709551616 := by unfold nonN; omega
  have h4 := base_ok (nonN s msg) hnn
  have h5 := challenge_ok (4 ^ nonN s msg % 2305843009213691579) (4 ^ s % 2305843009213691579) msg h
  have he : sigE s msg < 1152921504606845789 := chaN_lt _ _ _ h
  have h6 := mulR_ok (sigE s msg) s (by omega) (by omega)
  have h7 := addR_ok (sigE s msg * s % 1152921504606845789) (nonN s msg)
  refine meets Tryz.func17 rfl rfl Tryz.ntmps17 Tryz.results17 rfl ?_
  simp -dsimp -implicitDefEqProofs only [go_sem, ↓reduceIte, reduceCtorEq, Nat.reduceLT, Nat.reduceLeDiff, Nat.reduceEqDiff, Nat.reduceAdd, Nat.reduceMul, Nat.reduceSub, Nat.reduceBEq, Int.reduceLT, Int.reduceLE, Int.reduceEq, Int.reduceBEq, Int.reduceNeg]
  refine callP h1 ?_
  simp -dsimp -implicitDefEqProofs only [go_sem, ↓reduceIte, reduceCtorEq, Nat.reduceLT, Nat.reduceLeDiff, Nat.reduceEqDiff, Nat.reduceAdd, Nat.reduceMul, Nat.reduceSub, Nat.reduceBEq, Int.reduceLT, Int.reduceLE, Int.reduceEq, Int.reduceBEq, Int.reduceNeg]
  refine callP h2 ?_
  simp -dsimp -implicitDefEqProofs only [go_sem, ↓reduceIte, reduceCtorEq, Nat.reduceLT, Nat.reduceLeDiff, Nat.reduceEqDiff, Nat.reduceAdd, Nat.reduceMul, Nat.reduceSub, Nat.reduceBEq, Int.reduceLT, Int.reduceLE, Int.reduceEq, Int.reduceBEq, Int.reduceNeg]
  refine callP h3 ?_
  simp -dsimp -implicitDefEqProofs only [go_sem, ↓reduceIte, reduceCtorEq, Nat.reduceLT, Nat.reduceLeDiff, Nat.reduceEqDiff, Nat.reduceAdd, Nat.reduceMul, Nat.reduceSub, Nat.reduceBEq, Int.reduceLT, Int.reduceLE, Int.reduceEq, Int.reduceBEq, Int.reduceNeg]
  refine callP h4 ?_
  simp -dsimp -implicitDefEqProofs only [go_sem, ↓reduceIte, reduceCtorEq, Nat.reduceLT, Nat.reduceLeDiff, Nat.reduceEqDiff, Nat.reduceAdd, Nat.reduceMul, Nat.reduceSub, Nat.reduceBEq, Int.reduceLT, Int.reduceLE, Int.reduceEq, Int.reduceBEq, Int.reduceNeg]
  refine callP h5 ?_
  simp -dsimp -implicitDefEqProofs only [go_sem, ↓reduceIte, reduceCtorEq, Nat.reduceLT, Nat.reduceLeDiff, Nat.reduceEqDiff, Nat.reduceAdd, Nat.reduceMul, Nat.reduceSub, Nat.reduceBEq, Int.reduceLT, Int.reduceLE, Int.reduceEq, Int.reduceBEq, Int.reduceNeg]
  refine callP h6 ?_
  simp -dsimp -implicitDefEqProofs only [go_sem, ↓reduceIte, reduceCtorEq, Nat.reduceLT, Nat.reduceLeDiff, Nat.reduceEqDiff, Nat.reduceAdd, Nat.reduceMul, Nat.reduceSub, Nat.reduceBEq, Int.reduceLT, Int.reduceLE, Int.reduceEq, Int.reduceBEq, Int.reduceNeg]
  refine callP h7 ?_
  simp -dsimp -implicitDefEqProofs only [go_sem, ↓reduceIte, reduceCtorEq, Nat.reduceLT, Nat.reduceLeDiff, Nat.reduceEqDiff, Nat.reduceAdd, Nat.reduceMul, Nat.reduceSub, Nat.reduceBEq, Int.reduceLT, Int.reduceLE, Int.reduceEq, Int.reduceBEq, Int.reduceNeg]
  exact ⟨rfl, rfl⟩
/-- A signature is right. -/
theorem sigchk_ok (p e s : Nat) (msg : List Int) (h : msg.length ≤ 10000) (hp0 : 0 < p) (hp : p < 2305843009213691579) (hin : p ^ 1152921504606845789 % 2305843009213691579 = 1) (he : e < 1152921504606845789) (hs : s < 1152921504606845789)
    (hg : Nat.gcd (p ^ e % 2305843009213691579) 2305843009213691579 = 1) (hc : chaN (4 ^ s % 2305843009213691579 * invN 2305843009213691579 (p ^ e % 2305843009213691579) % 2305843009213691579) p msg = e) :
    Meets Tryz.prog 10 [(false, [vU64 p]), (false, [vD (byD msg)]), (true, [vU64 e, vU64 s])] (rOne (vI 0)) := by
  have h1 := in_ok p (by omega)
  rw [decide_eq_true hp0, decide_eq_true hp, decide_eq_true hin] at h1
  have h2 := pow_ok p e (by omega) (by omega)
  have hq : p ^ e % 2305843009213691579 < 18446744073709551616 := mod_w (by decide) (by decide)
  have hmm : p ^ e % 2305843009213691579 % 2305843009213691579 = p ^ e % 2305843009213691579 := Nat.mod_mod _ _
  have h3 := inv_ok (p ^ e % 2305843009213691579) (by rw [hmm]; exact hg) (fun h0 => by rw [hmm] at h0; rw [h0] at hg; simp at hg)
  have hio := invN_ok (m := 2305843009213691579) (a := p ^ e % 2305843009213691579) (by decide) (by rw [hmm]; exact hg)
  have h4 := base_ok s (by omega)
  have h5 := gmul_ok (4 ^ s % 2305843009213691579) (invN 2305843009213691579 (p ^ e % 2305843009213691579)) (mod_w (by decide) (by decide)) (by have := hio.2.1; omega)
  have h6 := challenge_ok (4 ^ s % 2305843009213691579 * invN 2305843009213691579 (p ^ e % 2305843009213691579) % 2305843009213691579) p msg h
  rw [hc] at h6
  have c1 : ((1152921504606845789 : Int) ≤ (if (e : Int) < (s : Int) then (s : Int) else (e : Int))) = False := by simp only [eq_iff_iff, iff_false]; split <;> omega
  refine meets Tryz.func10 rfl rfl Tryz.ntmps10 Tryz.results10 rfl ?_
  simp -dsimp -implicitDefEqProofs only [go_sem, ↓reduceIte, reduceCtorEq, Nat.reduceLT, Nat.reduceLeDiff, Nat.reduceEqDiff, Nat.reduceAdd, Nat.reduceMul, Nat.reduceSub, Nat.reduceBEq, Int.reduceLT, Int.reduceLE, Int.reduceEq, Int.reduceBEq, Int.reduceNeg]
  refine callP h1 ?_
  simp -dsimp -implicitDefEqProofs only [c1, Bool.true_and, go_sem, ↓reduceIte, reduceCtorEq, Nat.reduceLT, Nat.reduceLeDiff, Nat.reduceEqDiff, Nat.reduceAdd, Nat.reduceMul, Nat.reduceSub, Nat.reduceBEq, Int.reduceLT, Int.reduceLE, Int.reduceEq, Int.reduceBEq, Int.reduceNeg]
  refine callP h2 ?_
  simp -dsimp -implicitDefEqProofs only [go_sem, ↓reduceIte, reduceCtorEq, Nat.reduceLT, Nat.reduceLeDiff, Nat.reduceEqDiff, Nat.reduceAdd, Nat.reduceMul, Nat.reduceSub, Nat.reduceBEq, Int.reduceLT, Int.reduceLE, Int.reduceEq, Int.reduceBEq, Int.reduceNeg]
  refine callP h3 ?_
  simp -dsimp -implicitDefEqProofs only [go_sem, ↓reduceIte, reduceCtorEq, Nat.reduceLT, Nat.reduceLeDiff, Nat.reduceEqDiff, Nat.reduceAdd, Nat.reduceMul, Nat.reduceSub, Nat.reduceBEq, Int.reduceLT, Int.reduceLE, Int.reduceEq, Int.reduceBEq, Int.reduceNeg]
  refine callP h4 ?_
  simp -dsimp -implicitDefEqProofs only [go_sem, ↓reduceIte, reduceCtorEq, Nat.reduceLT, Nat.reduceLeDiff, Nat.reduceEqDiff, Nat.reduceAdd, Nat.reduceMul, Nat.reduceSub, Nat.reduceBEq, Int.reduceLT, Int.reduceLE, Int.reduceEq, Int.reduceBEq, Int.reduceNeg]
  refine callP h5 ?_
  simp -dsimp -implicitDefEqProofs only [go_sem, ↓reduceIte, reduceCtorEq, Nat.reduceLT, Nat.reduceLeDiff, Nat.reduceEqDiff, Nat.reduceAdd, Nat.reduceMul, Nat.reduceSub, Nat.reduceBEq, Int.reduceLT, Int.reduceLE, Int.reduceEq, Int.reduceBEq, Int.reduceNeg]
  refine callP h6 ?_
  simp -dsimp -implicitDefEqProofs only [go_sem, ↓reduceIte, reduceCtorEq, Nat.reduceLT, Nat.reduceLeDiff, Nat.reduceEqDiff, Nat.reduceAdd, Nat.reduceMul, Nat.reduceSub, Nat.reduceBEq, Int.reduceLT, Int.reduceLE, Int.reduceEq, Int.reduceBEq, Int.reduceNeg]
  exact drawn (by kernel_rfl)
end Go.Proofs.YtijfncaphfaijaaGreatDoor
namespace Go.Proofs.YtijfncaphfaijaaGreatDoor
open Go.Eng
set_option linter.unusedSimpArgs false
set_option maxRecDepth 10000

def pw4 (n : Nat) : Nat := qG ^ n % qQ
theorem pw4_qR : pw4 qR = 1 := by rw [pw4]; exact base_order
theorem pw4_lt (n : Nat) : pw4 n < 2305843009213691579 := Nat.mod_lt _ (by decide)
theorem pw4_R : pw4 1152921504606845789 = 1 := pw4_qR
theorem pw4_me {a b : Nat} (h : a % 1152921504606845789 = b % 1152921504606845789) : pw4 a = pw4 b := by
  have h1 : pw4 (a % qR) = pw4 a := base_pow a
  have h2 : pw4 (b % qR) = pw4 b := base_pow b
  have h3 : pw4 (a % qR) = pw4 (b % qR) := congrArg pw4 h
  rw [← h1, ← h2, h3]
theorem pw4_mod (a : Nat) : pw4 (a % 1152921504606845789) = pw4 a := pw4_me (Nat.mod_mod _ _)
theorem pw4_add (a b : Nat) : pw4 (a + b) = pw4 a * pw4 b % 2305843009213691579 := by
  show qG ^ (a + b) % qQ = qG ^ a % qQ * (qG ^ b % qQ) % qQ
  rw [Nat.pow_add, Nat.mul_mod]
theorem pw4_mul (a b : Nat) : pw4 (a * b) = pw4 a ^ b % 2305843009213691579 := by
  show qG ^ (a * b) % qQ = (qG ^ a % qQ) ^ b % qQ
  rw [Nat.pow_mul, Nat.pow_mod]
theorem pw4_pos (n : Nat) : 0 < pw4 n := by
  obtain ⟨k, hk⟩ := base_unit n
  rcases Nat.eq_zero_or_pos (pw4 n) with h | h
  · have h' : qG ^ n % qQ = 0 := h
    rw [h', Nat.zero_mul] at hk
    cases hk
  · exact h
theorem pw4_ring (r n : Nat) (h : pw4 r = 1) : pw4 n ^ r % 2305843009213691579 = 1 := by
  rw [← pw4_mul, Nat.mul_comm, pw4_mul, h, Nat.one_pow]
theorem pw4_in (n : Nat) : 0 < pw4 n ∧ pw4 n < 2305843009213691579 ∧ pw4 n ^ 1152921504606845789 % 2305843009213691579 = 1 :=
  ⟨pw4_pos n, pw4_lt n, pw4_ring 1152921504606845789 n pw4_R⟩
theorem gcd_pw (n : Nat) : Nat.gcd (pw4 n) 2305843009213691579 = 1 := by
  obtain ⟨k, hk⟩ := base_unit n
  exact gcd_of_inv hk
end Go.Proofs.YtijfncaphfaijaaGreatDoor
