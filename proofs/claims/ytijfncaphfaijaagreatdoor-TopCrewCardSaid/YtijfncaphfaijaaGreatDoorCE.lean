
/- sign: some, Secret, Public, Challenge, Sign, Check. Plain laws: the weights of shares. cyclic.SubR, InvR; share.weights. -/
import Derived.Test.YtijfncaphfaijaaGreatDoorCD
namespace Go.Proofs.YtijfncaphfaijaaGreatDoor
open Go.Eng
set_option linter.unusedSimpArgs false
set_option maxRecDepth 10000

/-- A number of a hash, by choice. -/
noncomputable def numN (m s0 s1 : Nat) : Nat := open Classical in if h : ∃ n, n < m ∧ Meets Tryz.prog 79 [(true, [vU64 s0, vU64 s1]), (false, [vU64 m])] (rOne (vU64 (n : Nat))) then Classical.choose h else 0
theorem numN_ok {m s : Nat} (h : LzOk m s) (s0 s1 : Nat) (h0 : s0 < 18446744073709551616) (h1 : s1 < 18446744073709551616) : numN m s0 s1 < m ∧ Meets Tryz.prog 79 [(true, [vU64 s0, vU64 s1]), (false, [vU64 m])] (rOne (vU64 (numN m s0 s1 : Nat))) := by
  have hx := num_ok h s0 s1 h0 h1
  unfold numN
  rw [dif_pos hx]
  exact Classical.choose_spec hx
theorem sumG_ok : ∀ (l : List Nat) (w : W3), w.ok → (sumG l w).ok
  | [], w, h => by rw [sumG_nil]; exact h
  | [x], w, h => by rw [sumG_one]; exact mix8_ok (w3_ok (faN_lt _ _) h.2.1 h.2.2)
  | x :: y :: r, w, h => by rw [sumG_two]; exact sumG_ok r _ (mix8_ok (w3_ok (faN_lt _ _) (faN_lt _ _) h.2.2))
theorem sumN_ok (b : List Int) (hb : b.length ≤ 1099511627776) : (sumN b).ok := by
  have h0 : W3.ok ⟨0, 0, b.length⟩ := w3_ok (by decide) (by decide) (by omega)
  unfold sumN
  generalize ofG b = l
  cases l with
  | nil => rw [sum0_nil]; exact mix8_ok h0
  | cons x r => rw [sum0_cons]; exact sumG_ok _ _ h0
/-- The number that a tag and parts give below m. -/
noncomputable def tagN (m : Nat) (t : ByteArray) (ps : List (List Int)) : Nat := numN m (sumN (frm t ps)).a (sumN (frm t ps)).b
theorem frm_len (t : ByteArray) (ps : List (List Int)) : (frm t ps).length = 1 + t.size + (frmL ps).length := by unfold frm; simp [tagL_len]; omega
theorem some_ok (t : ByteArray) (ps : List (List Int)) (ht : t.size < 256) (hl : (frmL ps).length ≤ 549755813888) : Meets Tryz.prog 51 [(false, [vD (.v (.string t))]), (false, [vD (paD ps)])] (rOne (vU64 (tagN 1152921504606845788 t ps + 1 : Nat))) := by
  have h1 := tagged_ok t ps ht hl
  have hs := sumN_ok (frm t ps) (by rw [frm_len]; omega)
  obtain ⟨h2, h3⟩ := numN_ok lzR1 (sumN (frm t ps)).a (sumN (frm t ps)).b hs.1 hs.2.1
  have w1 : IntKind.u64.wrap (((numN 1152921504606845788 (sumN (frm t ps)).a (sumN (frm t ps)).b : Nat) : Int) + 1) = ((tagN 1152921504606845788 t ps + 1 : Nat) : Int) := by
    rw [IntKind.wrap_u64]; unfold tagN; omega
  refine meets Tryz.func51 rfl rfl Tryz.ntmps51 Tryz.results51 rfl ?_
  simp -dsimp -implicitDefEqProofs only [go_sem, ↓reduceIte, reduceCtorEq, Nat.reduceLT, Nat.reduceLeDiff, Nat.reduceEqDiff, Nat.reduceAdd, Nat.reduceMul, Nat.reduceSub, Nat.reduceBEq, Int.reduceLT, Int.reduceLE, Int.reduceEq, Int.reduceBEq, Int.reduceNeg]
  refine callP h1 ?_
  simp -dsimp -implicitDefEqProofs only [go_sem, ↓reduceIte, reduceCtorEq, Nat.reduceLT, Nat.reduceLeDiff, Nat.reduceEqDiff, Nat.reduceAdd, Nat.reduceMul, Nat.reduceSub, Nat.reduceBEq, Int.reduceLT, Int.reduceLE, Int.reduceEq, Int.reduceBEq, Int.reduceNeg]
  refine callP h3 ?_
  simp -dsimp -implicitDefEqProofs only [w1, go_sem, ↓reduceIte, reduceCtorEq, Nat.reduceLT, Nat.reduceLeDiff, Nat.reduceEqDiff, Nat.reduceAdd, Nat.reduceMul, Nat.reduceSub, Nat.reduceBEq, Int.reduceLT, Int.reduceLE, Int.reduceEq, Int.reduceBEq, Int.reduceNeg]
theorem tagN_lt1 (t : ByteArray) (ps : List (List Int)) (ht : t.size < 256) (hl : (frmL ps).length ≤ 549755813888) : tagN 1152921504606845788 t ps < 1152921504606845788 := by
  have hs := sumN_ok (frm t ps) (by rw [frm_len]; omega)
  exact (numN_ok lzR1 _ _ hs.1 hs.2.1).1
theorem tagN_lt (t : ByteArray) (ps : List (List Int)) (ht : t.size < 256) (hl : (frmL ps).length ≤ 549755813888) : tagN 1152921504606845789 t ps < 1152921504606845789 := by
  have hs := sumN_ok (frm t ps) (by rw [frm_len]; omega)
  exact (numN_ok lzR _ _ hs.1 hs.2.1).1
abbrev strB' (l : List UInt8) : ByteArray := ⟨l.toArray⟩
def secT : ByteArray := ⟨#[115, 101, 99, 114, 101, 116]⟩
def nonT : ByteArray := ⟨#[110, 111, 110, 99, 101]⟩
def sigT : ByteArray := ⟨#[115, 105, 103, 110]⟩
noncomputable def secN (seed : List Int) : Nat := tagN 1152921504606845788 secT [seed] + 1
theorem secN_rng (seed : List Int) (h : seed.length ≤ 10000) : 0 < secN seed ∧ secN seed < 1152921504606845789 := by
  have := tagN_lt1 secT [seed] (by decide) (by simp [frmL, putL_len]; omega)
  unfold secN
  omega
theorem secret_ok (seed : List Int) (h : seed.length ≤ 10000) : Meets Tryz.prog 13 [(false, [vD (byD seed)])] (rOne (vU64 (secN seed : Nat))) := by
  have h1 := some_ok secT [seed] (by decide) (by simp [frmL, putL_len]; omega)
  refine meets Tryz.func13 rfl rfl Tryz.ntmps13 Tryz.results13 rfl ?_
  simp -dsimp -implicitDefEqProofs only [go_sem, ↓reduceIte, reduceCtorEq, Nat.reduceLT, Nat.reduceLeDiff, Nat.reduceEqDiff, Nat.reduceAdd, Nat.reduceMul, Nat.reduceSub, Nat.reduceBEq, Int.reduceLT, Int.reduceLE, Int.reduceEq, Int.reduceBEq, Int.reduceNeg]
  refine callP h1 ?_
  simp -dsimp -implicitDefEqProofs only [go_sem, ↓reduceIte, reduceCtorEq, Nat.reduceLT, Nat.reduceLeDiff, Nat.reduceEqDiff, Nat.reduceAdd, Nat.reduceMul, Nat.reduceSub, Nat.reduceBEq, Int.reduceLT, Int.reduceLE, Int.reduceEq, Int.reduceBEq, Int.reduceNeg]
  rfl
theorem odd_ok (s : Nat) (h0 : 0 < s) (h : s < 1152921504606845789) : Meets Tryz.prog 52 [(false, [vU64 s])] (rOne (vB false)) := by
  have c1 : ((s : Int) = 0) = False := by simp; omega
  have c2 : ((1152921504606845789 : Int) ≤ (s : Int)) = False := by simp; omega
  refine meets Tryz.func52 rfl rfl Tryz.ntmps52 Tryz.results52 rfl ?_
  simp -dsimp -implicitDefEqProofs only [c1, c2, go_sem, ↓reduceIte, reduceCtorEq, Nat.reduceLT, Nat.reduceLeDiff, Nat.reduceEqDiff, Nat.reduceAdd, Nat.reduceMul, Nat.reduceSub, Nat.reduceBEq, Int.reduceLT, Int.reduceLE, Int.reduceEq, Int.reduceBEq, Int.reduceNeg]
theorem public_ok (s : Nat) (h0 : 0 < s) (h : s < 1152921504606845789) : Meets Tryz.prog 14 [(false, [vU64 s])] (rTup [(false, [vU64 (4 ^ s % 2305843009213691579 : Nat)]), (false, [vI 0])]) := by
  have h1 := odd_ok s h0 h
  have h2 := base_ok s (by omega)
  refine meets Tryz.func14 rfl rfl Tryz.ntmps14 Tryz.results14 rfl ?_
  simp -dsimp -implicitDefEqProofs only [go_sem, ↓reduceIte, reduceCtorEq, Nat.reduceLT, Nat.reduceLeDiff, Nat.reduceEqDiff, Nat.reduceAdd, Nat.reduceMul, Nat.reduceSub, Nat.reduceBEq, Int.reduceLT, Int.reduceLE, Int.reduceEq, Int.reduceBEq, Int.reduceNeg]
  refine callP h1 ?_
  simp -dsimp -implicitDefEqProofs only [go_sem, ↓reduceIte, reduceCtorEq, Nat.reduceLT, Nat.reduceLeDiff, Nat.reduceEqDiff, Nat.reduceAdd, Nat.reduceMul, Nat.reduceSub, Nat.reduceBEq, Int.reduceLT, Int.reduceLE, Int.reduceEq, Int.reduceBEq, Int.reduceNeg]
  refine callP h2 ?_
  simp -dsimp -implicitDefEqProofs only [go_sem, ↓reduceIte, reduceCtorEq, Nat.reduceLT, Nat.reduceLeDiff, Nat.reduceEqDiff, Nat.reduceAdd, Nat.reduceMul, Nat.reduceSub, Nat.reduceBEq, Int.reduceLT, Int.reduceLE, Int.reduceEq, Int.reduceBEq, Int.reduceNeg]
/-- A number's bytes, by choice. -/
noncomputable def sbN (n : Nat) : List Int := Classical.choose (sbytes_ok n)
theorem sbN_len (n : Nat) : (sbN n).length = 8 := (Classical.choose_spec (sbytes_ok n)).1
theorem sbN_ok (n : Nat) : Meets Tryz.prog 55 [(false, [vU64 n])] (rOne (vD (byD (sbN n)))) := (Classical.choose_spec (sbytes_ok n)).2.2
noncomputable def chaN (c p : Nat) (msg : List Int) : Nat := tagN 1152921504606845789 sigT [sbN c, sbN p, msg]
theorem cha_fl (c p : Nat) (msg : List Int) (h : msg.length ≤ 10000) : (frmL [sbN c, sbN p, msg]).length ≤ 549755813888 := by simp [frmL, putL_len, sbN_len]; omega
theorem chaN_lt (c p : Nat) (msg : List Int) (h : msg.length ≤ 10000) : chaN c p msg < 1152921504606845789 := tagN_lt sigT _ (by decide) (cha_fl c p msg h)
theorem challenge_ok (c p : Nat) (msg : List Int) (h : msg.length ≤ 10000) : Meets Tryz.prog 45 [(false, [vU64 c]), (false, [vU64 p]), (false, [vD (byD msg)])] (rOne (vU64 (chaN c p msg : Nat))) := by
  have hl := cha_fl c p msg h
  have h1 := tagged_ok sigT [sbN c, sbN p, msg] (by decide) hl
  have hs := sumN_ok (frm sigT [sbN c, sbN p, msg]) (by rw [frm_len]; have : sigT.size = 4 := rfl; omega)
  obtain ⟨h2, h3⟩ := numN_ok lzR _ _ hs.1 hs.2.1
  have hc := sbN_ok c
  have hp := sbN_ok p
  refine meets Tryz.func45 rfl rfl Tryz.ntmps45 Tryz.results45 rfl ?_
  simp -dsimp -implicitDefEqProofs only [go_sem, ↓reduceIte, reduceCtorEq, Nat.reduceLT, Nat.reduceLeDiff, Nat.reduceEqDiff, Nat.reduceAdd, Nat.reduceMul, Nat.reduceSub, Nat.reduceBEq, Int.reduceLT, Int.reduceLE, Int.reduceEq, Int.reduceBEq, Int.reduceNeg]
  refine callP hc ?_
  simp -dsimp -implicitDefEqProofs only [go_sem, ↓reduceIte, reduceCtorEq, Nat.reduceLT, Nat.reduceLeDiff, Nat.reduceEqDiff, Nat.reduceAdd, Nat.reduceMul, Nat.reduceSub, Nat.reduceBEq, Int.reduceLT, Int.reduceLE, Int.reduceEq, Int.reduceBEq, Int.reduceNeg]
  refine callP hp ?_
  simp -dsimp -implicitDefEqProofs only [go_sem, ↓reduceIte, reduceCtorEq, Nat.reduceLT, Nat.reduceLeDiff, Nat.reduceEqDiff, Nat.reduceAdd, Nat.reduceMul, Nat.reduceSub, Nat.reduceBEq, Int.reduceLT, Int.reduceLE, Int.reduceEq, Int.reduceBEq, Int.reduceNeg]
  refine callP h1 ?_
  simp -dsimp -implicitDefEqProofs only [go_sem, ↓reduceIte, reduceCtorEq, Nat.reduceLT, Nat.reduceLeDiff, Nat.reduceEqDiff, Nat.reduceAdd, Nat.reduceMul, Nat.reduceSub, Nat.reduceBEq, Int.reduceLT, Int.reduceLE, Int.reduceEq, Int.reduceBEq, Int.reduceNeg]
  refine callP h3 ?_
  simp -dsimp -implicitDefEqProofs only [go_sem, ↓reduceIte, reduceCtorEq, Nat.reduceLT, Nat.reduceLeDiff, Nat.reduceEqDiff, Nat.reduceAdd, Nat.reduceMul, Nat.reduceSub, Nat.reduceBEq, Int.reduceLT, Int.reduceLE, Int.reduceEq, Int.reduceBEq, Int.reduceNeg]
  rfl
/-- A signature. -/
noncomputable def nonN (s : Nat) (msg : List Int) : Nat := tagN 1152921504606845788 nonT [sbN s, msg] + 1
noncomputable def sigE (s : Nat) (msg : List Int) : Nat := chaN (4 ^ nonN s msg % 2305843009213691579) (4 ^ s % 2305843009213691579) msg
noncomputable def sigS (s : Nat) (msg : List Int) : Nat := (sigE s msg * s % 1152921504606845789 + nonN s msg) % 1152921504606845789
theorem sign_ok (s : Nat) (msg : List Int) (h0 : 0 < s) (hs : s < 1152921504606845789) (h : msg.length ≤ 10000) : Meets Tryz.prog 17 [(false, [vU64 s]), (false, [vD (byD msg)])] (rTup [(true, [vU64 (sigE s msg : Nat), vU64 (sigS s msg : Nat)]), (false, [vI 0])]) := by
  have hl : (frmL [sbN s, msg]).length ≤ 549755813888 := by simp [frmL, putL_len, sbN_len]; omega
  have h1 := public_ok s h0 hs
  have h2 := sbN_ok s
  have h3 := some_ok nonT [sbN s, msg] (by decide) hl
  have hn := tagN_lt1 nonT [sbN s, msg] (by decide) hl
  have hnn : nonN s msg < 18446744073709551616 := by unfold nonN; omega
  have h4 := base_ok (nonN s msg) hnn
  have h5 := challenge_ok (4 ^ nonN s msg % 2305843009213691579) (4 ^ s % 2305843009213691579) msg h
  have he : sigE s msg < 1152921504606845789 := chaN_lt _ _ _ h
  have h6 := mulR_ok (sigE s msg) s (by omega) (by omega)
  have h7 := addR_ok (sigE s msg * s % 1152921504606845789) (nonN s msg)
  refine meets Tryz.func17 rfl rfl Tryz.ntmps17 Tryz.results17 rfl ?_
  simp -dsimp -implicitDefEqProofs only [go_sem, ↓reduceIte, reduceCtorEq, Nat.reduceLT, Nat.reduceLeDiff, Nat.reduceEqDiff, Nat.reduceAdd, Nat.reduceMul, Nat.reduceSub, Nat.reduceBEq, Int.reduceLT, Int.reduceLE, Int.reduceEq, Int.reduceBEq, Int.reduceNeg]
  refine callP h1 ?_
  simp -dsimp -implicitDefEqProofs only [go_sem, ↓reduceIte, reduceCtorEq, Nat.reduceLT, Nat.reduceLeDiff, Nat.reduceEqDiff, Nat.reduceAdd, Nat.reduceMul, Nat.reduceSub, Nat.reduceBEq, Int.reduceLT, Int.reduceLE, Int.reduceEq, Int.reduceBEq, Int.reduceNeg]
  refine callP h2 ?_
  simp -dsimp -implicitDefEqProofs only [go_sem, ↓reduceIte, reduceCtorEq, Nat.reduceLT, Nat.reduceLeDiff, Nat.reduceEqDiff, Nat.reduceAdd, Nat.reduceMul, Nat.reduceSub, Nat.reduceBEq, Int.reduceLT, Int.reduceLE, Int.reduceEq, Int.reduceBEq, Int.reduceNeg]
  refine callP h3 ?_
  simp -dsimp -implicitDefEqProofs only [go_sem, ↓reduceIte, reduceCtorEq, Nat.reduceLT, Nat.reduceLeDiff, Nat.reduceEqDiff, Nat.reduceAdd, Nat.reduceMul, Nat.reduceSub, Nat.reduceBEq, Int.reduceLT, Int.reduceLE, Int.reduceEq, Int.reduceBEq, Int.reduceNeg]
  refine callP h4 ?_
  simp -dsimp -implicitDefEqProofs only [go_sem, ↓reduceIte, reduceCtorEq, Nat.reduceLT, Nat.reduceLeDiff, Nat.reduceEqDiff, Nat.reduceAdd, Nat.reduceMul, Nat.reduceSub, Nat.reduceBEq, Int.reduceLT, Int.reduceLE, Int.reduceEq, Int.reduceBEq, Int.reduceNeg]
  refine callP h5 ?_
  simp -dsimp -implicitDefEqProofs only [go_sem, ↓reduceIte, reduceCtorEq, Nat.reduceLT, Nat.reduceLeDiff, Nat.reduceEqDiff, Nat.reduceAdd, Nat.reduceMul, Nat.reduceSub, Nat.reduceBEq, Int.reduceLT, Int.reduceLE, Int.reduceEq, Int.reduceBEq, Int.reduceNeg]
  refine callP h6 ?_
  simp -dsimp -implicitDefEqProofs only [go_sem, ↓reduceIte, reduceCtorEq, Nat.reduceLT, Nat.reduceLeDiff, Nat.reduceEqDiff, Nat.reduceAdd, Nat.reduceMul, Nat.reduceSub, Nat.reduceBEq, Int.reduceLT, Int.reduceLE, Int.reduceEq, Int.reduceBEq, Int.reduceNeg]
  refine callP h7 ?_
  simp -dsimp -implicitDefEqProofs only [go_sem, ↓reduceIte, reduceCtorEq, Nat.reduceLT, Nat.reduceLeDiff, Nat.reduceEqDiff, Nat.reduceAdd, Nat.reduceMul, Nat.reduceSub, Nat.reduceBEq, Int.reduceLT, Int.reduceLE, Int.reduceEq, Int.reduceBEq, Int.reduceNeg]
  exact ⟨rfl, rfl⟩
/-- A signature is right. -/
theorem sigchk_ok (p e s : Nat) (msg : List Int) (h : msg.length ≤ 10000) (hp0 : 0 < p) (hp : p < 2305843009213691579) (hin : p ^ 1152921504606845789 % 2305843009213691579 = 1) (he : e < 1152921504606845789) (hs : s < 1152921504606845789)
    (hg : Nat.gcd (p ^ e % 2305843009213691579) 2305843009213691579 = 1) (hc : chaN (4 ^ s % 2305843009213691579 * invN 2305843009213691579 (p ^ e % 2305843009213691579) % 2305843009213691579) p msg = e) :
    Meets Tryz.prog 10 [(false, [vU64 p]), (false, [vD (byD msg)]), (true, [vU64 e, vU64 s])] (rOne (vI 0)) := by
  have h1 := in_ok p (by omega)
  rw [decide_eq_true hp0, decide_eq_true hp, decide_eq_true hin] at h1
  have h2 := pow_ok p e (by omega) (by omega)
  have hq : p ^ e % 2305843009213691579 < 18446744073709551616 := mod_w (by decide) (by decide)
  have hmm : p ^ e % 2305843009213691579 % 2305843009213691579 = p ^ e % 2305843009213691579 := Nat.mod_mod _ _
  have h3 := inv_ok (p ^ e % 2305843009213691579) (by rw [hmm]; exact hg) (fun h0 => by rw [hmm] at h0; rw [h0] at hg; simp at hg)
  have hio := invN_ok (m := 2305843009213691579) (a := p ^ e % 2305843009213691579) (by decide) (by rw [hmm]; exact hg)
  have h4 := base_ok s (by omega)
  have h5 := gmul_ok (4 ^ s % 2305843009213691579) (invN 2305843009213691579 (p ^ e % 2305843009213691579)) (mod_w (by decide) (by decide)) (by have := hio.2.1; omega)
  have h6 := challenge_ok (4 ^ s % 2305843009213691579 * invN 2305843009213691579 (p ^ e % 2305843009213691579) % 2305843009213691579) p msg h
  rw [hc] at h6
  have c1 : ((1152921504606845789 : Int) ≤ (if (e : Int) < (s : Int) then (s : Int) else (e : Int))) = False := by simp only [eq_iff_iff, iff_false]; split <;> omega
  refine meets Tryz.func10 rfl rfl Tryz.ntmps10 Tryz.results10 rfl ?_
  simp -dsimp -implicitDefEqProofs only [go_sem, ↓reduceIte, reduceCtorEq, Nat.reduceLT, Nat.reduceLeDiff, Nat.reduceEqDiff, Nat.reduceAdd, Nat.reduceMul, Nat.reduceSub, Nat.reduceBEq, Int.reduceLT, Int.reduceLE, Int.reduceEq, Int.reduceBEq, Int.reduceNeg]
  refine callP h1 ?_
  simp -dsimp -implicitDefEqProofs only [c1, Bool.true_and, go_sem, ↓reduceIte, reduceCtorEq, Nat.reduceLT, Nat.reduceLeDiff, Nat.reduceEqDiff, Nat.reduceAdd, Nat.reduceMul, Nat.reduceSub, Nat.reduceBEq, Int.reduceLT, Int.reduceLE, Int.reduceEq, Int.reduceBEq, Int.reduceNeg]
  refine callP h2 ?_
  simp -dsimp -implicitDefEqProofs only [go_sem, ↓reduceIte, reduceCtorEq, Nat.reduceLT, Nat.reduceLeDiff, Nat.reduceEqDiff, Nat.reduceAdd, Nat.reduceMul, Nat.reduceSub, Nat.reduceBEq, Int.reduceLT, Int.reduceLE, Int.reduceEq, Int.reduceBEq, Int.reduceNeg]
  refine callP h3 ?_
  simp -dsimp -implicitDefEqProofs only [go_sem, ↓reduceIte, reduceCtorEq, Nat.reduceLT, Nat.reduceLeDiff, Nat.reduceEqDiff, Nat.reduceAdd, Nat.reduceMul, Nat.reduceSub, Nat.reduceBEq, Int.reduceLT, Int.reduceLE, Int.reduceEq, Int.reduceBEq, Int.reduceNeg]
  refine callP h4 ?_
  simp -dsimp -implicitDefEqProofs only [go_sem, ↓reduceIte, reduceCtorEq, Nat.reduceLT, Nat.reduceLeDiff, Nat.reduceEqDiff, Nat.reduceAdd, Nat.reduceMul, Nat.reduceSub, Nat.reduceBEq, Int.reduceLT, Int.reduceLE, Int.reduceEq, Int.reduceBEq, Int.reduceNeg]
  refine callP h5 ?_
  simp -dsimp -implicitDefEqProofs only [go_sem, ↓reduceIte, reduceCtorEq, Nat.reduceLT, Nat.reduceLeDiff, Nat.reduceEqDiff, Nat.reduceAdd, Nat.reduceMul, Nat.reduceSub, Nat.reduceBEq, Int.reduceLT, Int.reduceLE, Int.reduceEq, Int.reduceBEq, Int.reduceNeg]
  refine callP h6 ?_
  simp -dsimp -implicitDefEqProofs only [go_sem, ↓reduceIte, reduceCtorEq, Nat.reduceLT, Nat.reduceLeDiff, Nat.reduceEqDiff, Nat.reduceAdd, Nat.reduceMul, Nat.reduceSub, Nat.reduceBEq, Int.reduceLT, Int.reduceLE, Int.reduceEq, Int.reduceBEq, Int.reduceNeg]
  exact drawn (by kernel_rfl)
end Go.Proofs.YtijfncaphfaijaaGreatDoor
namespace Go.Proofs.YtijfncaphfaijaaGreatDoor

theorem me_add {m a b c d : Nat} (h1 : a % m = b % m) (h2 : c % m = d % m) : (a + c) % m = (b + d) % m := by rw [Nat.add_mod, h1, h2, ← Nat.add_mod]
theorem me_mul {m a b c d : Nat} (h1 : a % m = b % m) (h2 : c % m = d % m) : a * c % m = b * d % m := by rw [Nat.mul_mod, h1, h2, ← Nat.mul_mod]
def subR (a b : Nat) : Nat := (a + (qR - b % qR)) % qR
/-- The product of the differences to all others. -/
def abv (id x : Nat) : List Nat → Nat → Nat
  | [], acc => acc
  | k :: r, acc => abv id x r (if k = id then acc else acc * subR x k % qR)
/-- A weight, as the code has it; one by a power. -/
def lwt (ids : List Nat) (x id : Nat) : Nat := abv id x ids 1 * invN qR (abv id id ids 1) % qR
def ivP (b : Nat) : Nat := pmF qR 61 b (qR - 2)
def lwP (ids : List Nat) (x id : Nat) : Nat := abv id x ids 1 * ivP (abv id id ids 1) % qR
def sumW (ids : List Nat) (x j : Nat) : List Nat → Nat
  | [] => 0
  | id :: r => lwP ids x id * id ^ j + sumW ids x j r
/-- Sums over ids by given weights. -/
def sumF (f : Nat → Nat) : List Nat → Nat
  | [] => 0
  | id :: r => f id + sumF f r
theorem sumF_me {m : Nat} {f g : Nat → Nat} : ∀ {l : List Nat}, (∀ i ∈ l, f i % m = g i % m) → sumF f l % m = sumF g l % m
  | [], _ => rfl
  | i :: _, h => me_add (h i (List.mem_cons_self ..)) (sumF_me fun j hj => h j (List.mem_cons_of_mem _ hj))
theorem sumF_add (f g : Nat → Nat) : ∀ l : List Nat, sumF (fun i => f i + g i) l = sumF f l + sumF g l
  | [] => rfl
  | i :: r => by simp only [sumF, sumF_add f g r]; omega
theorem sumF_mul (c : Nat) (f : Nat → Nat) : ∀ l : List Nat, sumF (fun i => c * f i) l = c * sumF f l
  | [] => rfl
  | i :: r => by simp only [sumF, sumF_mul c f r, Nat.mul_add]
/-- The weights are those of Lagrange. -/
structure LwOk (ids : List Nat) (x : Nat) : Prop where
  inv : ∀ id ∈ ids, abv id id ids 1 * ivP (abv id id ids 1) % qR = 1
  sum : ∀ j, j < ids.length → sumF (fun i => lwP ids x i * i ^ j) ids % qR = x ^ j % qR
def sumP : List (Nat × Nat) → Nat
  | [] => 0
  | p :: r => p.1 * p.2 + sumP r
def powsL : List (Nat × Nat) → List (Nat × Nat)
  | [] => []
  | p :: r => (p.1, p.2 * p.2) :: powsL r
def chkW (ids : List Nat) (x : Nat) : Bool := (ids.all fun id => abv id id ids 1 * ivP (abv id id ids 1) % qR == 1) && (List.range ids.length).all fun j => sumF (fun i => lwP ids x i * i ^ j) ids % qR == x ^ j % qR
theorem chkW_ok {ids : List Nat} {x : Nat} (h : chkW ids x = true) : LwOk ids x := by
  unfold chkW at h
  simp only [Bool.and_eq_true, List.all_eq_true, beq_iff_eq, List.mem_range] at h
  exact ⟨h.1, h.2⟩
theorem lwt_eq {ids : List Nat} {x : Nat} (h : LwOk ids x) {id : Nat} (hid : id ∈ ids) : lwt ids x id = lwP ids x id := by
  have h1 := h.inv id hid
  have hg : Nat.gcd (abv id id ids 1) qR = 1 := gcd_of_inv h1
  have hg' : Nat.gcd (abv id id ids 1 % qR) qR = 1 := by rw [← Nat.gcd_rec, Nat.gcd_comm]; exact hg
  obtain ⟨_, _, h2⟩ := invN_ok (m := qR) (a := abv id id ids 1) (by decide) hg'
  have h3 := inv_unique (o' := ivP (abv id id ids 1)) h2 (by rw [h1]; rfl)
  exact me_mul rfl h3
def idsB (k : Nat) : List Bool → List Nat
  | [] => []
  | true :: r => k :: idsB (k + 1) r
  | false :: r => idsB (k + 1) r
def chkAll : Nat → (List Bool → Bool) → Bool
  | 0, f => f []
  | n + 1, f => f [] && chkAll n (fun l => f (true :: l)) && chkAll n (fun l => f (false :: l))
theorem chkAll_ok : ∀ {n : Nat} {f : List Bool → Bool}, chkAll n f = true → ∀ l : List Bool, l.length ≤ n → f l = true
  | 0, f, h, [], _ => h
  | 0, f, h, _ :: _, hl => by simp at hl
  | n + 1, f, h, [], _ => by simp only [chkAll, Bool.and_eq_true] at h; exact h.1.1
  | n + 1, f, h, b :: l, hl => by
    simp only [chkAll, Bool.and_eq_true] at h
    cases b with
    | true => exact chkAll_ok h.1.2 l (by simpa using hl)
    | false => exact chkAll_ok h.2 l (by simpa using hl)
theorem lw_zero (us : List Bool) (h : us.length ≤ 7) : LwOk (idsB 1 us) 0 :=
  chkW_ok (chkAll_ok (f := fun us => chkW (idsB 1 us) 0) (by decide +kernel) us h)
theorem lw_first (t x : Nat) (ht : t ≤ 7) (hx : x ≤ 7) : LwOk (idsB 1 (List.replicate t true)) x := by
  have : ∀ t : Fin 8, ∀ x : Fin 8, chkW (idsB 1 (List.replicate t.1 true)) x.1 = true := by decide +kernel
  exact chkW_ok (this ⟨t, by omega⟩ ⟨x, by omega⟩)
/-- A polynomial's value. -/
def polyN : List Nat → Nat → Nat
  | [], _ => 0
  | c :: r, i => c + i * polyN r i
/-- The like, as the code works it out. -/
def evN (i : Nat) : List Nat → Nat → Nat → Nat
  | [], acc, _ => acc
  | c :: r, acc, pw => evN i r ((acc + c * pw % qR) % qR) (pw * i % qR)
theorem evN_eq (i : Nat) : ∀ (cs : List Nat) (acc pw : Nat), evN i cs acc pw % qR = (acc + pw * polyN cs i) % qR
  | [], acc, pw => by simp [evN, polyN]
  | c :: r, acc, pw => by
    simp only [evN, polyN]
    rw [evN_eq i r]
    have e1 : (acc + c * pw % qR) % qR % qR = (acc + c * pw) % qR := by rw [Nat.mod_mod]; exact me_add rfl (Nat.mod_mod _ _)
    have e2 : pw * i % qR * polyN r i % qR = pw * i * polyN r i % qR := me_mul (Nat.mod_mod _ _) rfl
    rw [me_add e1 e2]
    congr 1
    rw [Nat.mul_add, Nat.mul_comm c pw, Nat.mul_assoc, Nat.add_assoc]
theorem lag_go {ids : List Nat} {x : Nat} (h : LwOk ids x) : ∀ (cs : List Nat) (j : Nat), j + cs.length ≤ ids.length → sumF (fun i => lwP ids x i * i ^ j * polyN cs i) ids % qR = x ^ j * polyN cs x % qR
  | [], j, _ => by
    have : ∀ l : List Nat, sumF (fun i => lwP ids x i * i ^ j * polyN [] i) l = 0 := fun l => by
      induction l with
      | nil => rfl
      | cons a r ih => simp only [sumF, polyN, Nat.mul_zero, Nat.zero_add] at *; exact ih
    rw [this]
    simp [polyN]
  | c :: r, j, hl => by
    have e1 : ∀ l : List Nat, sumF (fun i => lwP ids x i * i ^ j * polyN (c :: r) i) l = c * sumF (fun i => lwP ids x i * i ^ j) l + sumF (fun i => lwP ids x i * i ^ (j + 1) * polyN r i) l := fun l => by
      rw [← sumF_mul, ← sumF_add]
      congr 1
      funext i
      simp only [polyN, Nat.mul_add, Nat.pow_succ]
      rw [Nat.mul_comm c]
      congr 1
      simp only [Nat.mul_assoc]
    rw [e1, me_add (me_mul (rfl : c % qR = c % qR) (h.sum j (by simp at hl; omega))) (lag_go h r (j + 1) (by simp at hl; omega))]
    congr 1
    simp only [polyN, Nat.mul_add, Nat.pow_succ]
    rw [Nat.mul_comm c, Nat.mul_assoc]
/-- What the weights make of a polynomial's values. -/
theorem lag {ids : List Nat} {x : Nat} (h : LwOk ids x) (cs : List Nat) (hl : cs.length ≤ ids.length) : sumF (fun i => lwt ids x i * polyN cs i) ids % qR = polyN cs x % qR := by
  have h0 := lag_go h cs 0 (by omega)
  simp only [Nat.pow_zero, Nat.mul_one, Nat.one_mul] at h0
  rw [← h0]
  exact sumF_me fun i hi => by rw [lwt_eq h hi]
end Go.Proofs.YtijfncaphfaijaaGreatDoor
namespace Go.Proofs.YtijfncaphfaijaaGreatDoor
open Go.Eng
set_option linter.unusedSimpArgs false
set_option maxRecDepth 10000

theorem subR_ok (a b : Nat) (_hb : b < 18446744073709551616) : Meets Tryz.prog 219 [(false, [vU64 a]), (false, [vU64 b])] (rOne (vU64 (subR a b : Nat))) := by
  have hlt : b % 1152921504606845789 < 1152921504606845789 := Nat.mod_lt _ (by decide)
  have w1 : Int.tmod (b : Int) 1152921504606845789 = ((b % 1152921504606845789 : Nat) : Int) := tmodN b 1152921504606845789
  have w2 : IntKind.u64.wrap (1152921504606845789 - ((b % 1152921504606845789 : Nat) : Int)) = ((1152921504606845789 - b % 1152921504606845789 : Nat) : Int) := by
    rw [IntKind.wrap_u64]
    generalize b % 1152921504606845789 = z at hlt
    omega
  have h1 := radd_ok lzR a (1152921504606845789 - b % 1152921504606845789)
  refine meets Tryz.func219 rfl rfl Tryz.ntmps219 Tryz.results219 rfl ?_
  simp -dsimp -implicitDefEqProofs only [w1, w2, go_sem, ↓reduceIte, reduceCtorEq, Nat.reduceLT, Nat.reduceLeDiff, Nat.reduceEqDiff, Nat.reduceAdd, Nat.reduceMul, Nat.reduceSub, Nat.reduceBEq, Int.reduceLT, Int.reduceLE, Int.reduceEq, Int.reduceBEq, Int.reduceNeg]
  refine callP h1 ?_
  simp -dsimp -implicitDefEqProofs only [go_sem, ↓reduceIte, reduceCtorEq, Nat.reduceLT, Nat.reduceLeDiff, Nat.reduceEqDiff, Nat.reduceAdd, Nat.reduceMul, Nat.reduceSub, Nat.reduceBEq, Int.reduceLT, Int.reduceLE, Int.reduceEq, Int.reduceBEq, Int.reduceNeg]
  rfl
theorem invR_ok (a : Nat) (hg : Nat.gcd (a % 1152921504606845789) 1152921504606845789 = 1) : Meets Tryz.prog 220 [(false, [vU64 a])] (rTup [(false, [vU64 (invN 1152921504606845789 a : Nat)]), (false, [vI 0])]) := by
  have h1 := inverse_ok 1152921504606845789 a (by decide) (by decide) hg (fun h => by rw [h] at hg; simp at hg)
  refine meets Tryz.func220 rfl rfl Tryz.ntmps220 Tryz.results220 rfl ?_
  simp -dsimp -implicitDefEqProofs only [go_sem, ↓reduceIte, reduceCtorEq, Nat.reduceLT, Nat.reduceLeDiff, Nat.reduceEqDiff, Nat.reduceAdd, Nat.reduceMul, Nat.reduceSub, Nat.reduceBEq, Int.reduceLT, Int.reduceLE, Int.reduceEq, Int.reduceBEq, Int.reduceNeg]
  refine callP h1 ?_
  simp -dsimp -implicitDefEqProofs only [go_sem, ↓reduceIte, reduceCtorEq, Nat.reduceLT, Nat.reduceLeDiff, Nat.reduceEqDiff, Nat.reduceAdd, Nat.reduceMul, Nat.reduceSub, Nat.reduceBEq, Int.reduceLT, Int.reduceLE, Int.reduceEq, Int.reduceBEq, Int.reduceNeg]
/-- Numbers of signers, as data. -/
abbrev idD (l : List Nat) : D := .vec 1 (l.map fun (n : Nat) => [.v (.int .i64 (n : Int))])
theorem abv_lt {id x : Nat} : ∀ {l : List Nat} {acc : Nat}, acc < 1152921504606845789 → abv id x l acc < 1152921504606845789
  | [], _, h => h
  | k :: r, acc, h => by
    unfold abv
    split
    · exact abv_lt h
    · exact abv_lt (Nat.mod_lt _ (by decide))
structure WtInv (ids : List Nat) (x id : Nat) where
  i : Nat
  a : Nat
  b : Nat
  hi : i ≤ ids.length
  ha : abv id x (ids.drop i) a = abv id x ids 1
  hb : abv id id (ids.drop i) b = abv id id ids 1
  la : a < 1152921504606845789
  lb : b < 1152921504606845789
theorem drop_get {α : Type} {l : List α} {i : Nat} {x : α} (h : l[i]? = some x) : l.drop i = x :: l.drop (i + 1) := by
  obtain ⟨hlt, he⟩ := List.getElem?_eq_some_iff.1 h
  rw [List.drop_eq_getElem_cons hlt, he]
theorem get_of {α : Type} {l : List α} {i : Nat} (h : i < l.length) : ∃ x, l[i]? = some x := ⟨_, List.getElem?_eq_getElem h⟩
theorem wt_ok (ids : List Nat) (x id : Nat) (hl : ids.length ≤ 100) (hall : ∀ k ∈ ids, k < 100) (hid : id < 100) (_hx : x < 18446744073709551616) (hg : Nat.gcd (abv id id ids 1) 1152921504606845789 = 1) :
    Meets Tryz.prog 218 [(false, [vI id]), (false, [vD (.pt [idD ids])]), (false, [vD (.pt [.v (.int .u64 (x : Int))])])] (rOne (vU64 (lwt ids x id : Nat))) := by
  have wid : IntKind.u64.wrap (id : Int) = ((id : Nat) : Int) := wS _ (by omega)
  have hbl : abv id id ids 1 < 1152921504606845789 := abv_lt (by decide)
  have hinv := invR_ok (abv id id ids 1) (by rw [Nat.mod_eq_of_lt hbl]; exact hg)
  have hio := invN_ok (m := 1152921504606845789) (a := abv id id ids 1) (by decide) (by rw [Nat.mod_eq_of_lt hbl]; exact hg)
  have hal : abv id x ids 1 < 1152921504606845789 := abv_lt (by decide)
  have hmul := mulR_ok (abv id x ids 1) (invN 1152921504606845789 (abv id id ids 1)) (by omega) (by have := hio.2.1; omega)
  refine meets Tryz.func218 rfl rfl Tryz.ntmps218 Tryz.results218 rfl ?_
  simp -dsimp -implicitDefEqProofs only [go_sem, ↓reduceIte, reduceCtorEq, Nat.reduceLT, Nat.reduceLeDiff, Nat.reduceEqDiff, Nat.reduceAdd, Nat.reduceMul, Nat.reduceSub, Nat.reduceBEq, Int.reduceLT, Int.reduceLE, Int.reduceEq, Int.reduceBEq, Int.reduceNeg]
  refine vfor sitOk (ι := WtInv ids x id) (fun v => ⟨42, [(13, aI v.i), (12, aI ids.length), (11, aD (idD ids)), (5, .cs false [.d (.v (.int .u64 (v.a : Int)))]), (6, .cs false [.d (.v (.int .u64 (v.b : Int)))]), (0, aI id), (2, aD (.pt [.v (.int .u64 (x : Int))]))], [], 100⟩) (fun v => ids.length - v.i) ⟨0, 1, 1, by omega, rfl, rfl, by decide, by decide⟩ ?_ ?_
  · simp -dsimp -implicitDefEqProofs only [go_sem, ↓reduceIte, reduceCtorEq, Nat.reduceLT, Nat.reduceLeDiff, Nat.reduceEqDiff, Nat.reduceAdd, Nat.reduceMul, Nat.reduceSub, Nat.reduceBEq, Int.reduceLT, Int.reduceLE, Int.reduceEq, Int.reduceBEq, Int.reduceNeg]
  intro ⟨i, a, b, hi, ha, hb, la, lb⟩
  by_cases hil : i < ids.length
  · have c1 : ((i : Int) < (ids.length : Int)) = True := by simp; omega
    obtain ⟨k, hk⟩ := get_of hil
    have hk1 := hall k (List.mem_of_getElem? hk)
    have w2 : IntKind.i64.wrap ((i : Int) + 1) = ((i + 1 : Nat) : Int) := by rw [wrap64] <;> omega
    have wk : IntKind.u64.wrap (k : Int) = ((k : Nat) : Int) := wS _ (by omega)
    rw [drop_get hk] at ha hb
    have hs1 := subR_ok x k (by omega)
    have hs2 := subR_ok id k (by omega)
    have hr1 : subR x k < 1152921504606845789 := Nat.mod_lt _ (by decide)
    have hr2 : subR id k < 1152921504606845789 := Nat.mod_lt _ (by decide)
    have hm1 := mulR_ok a (subR x k) (by omega) (by omega)
    have hm2 := mulR_ok b (subR id k) (by omega) (by omega)
    by_cases hki : k = id
    · subst hki
      rw [abv, if_pos rfl] at ha hb
      simp -dsimp -implicitDefEqProofs only [c1, hk, forall_eq', w2, go_sem, ↓reduceIte, reduceCtorEq, Nat.reduceLT, Nat.reduceLeDiff, Nat.reduceEqDiff, Nat.reduceAdd, Nat.reduceMul, Nat.reduceSub, Nat.reduceBEq, Int.reduceLT, Int.reduceLE, Int.reduceEq, Int.reduceBEq, Int.reduceNeg]
      refine ⟨by omega, hil, again ⟨i + 1, a, b, by omega, ha, hb, la, lb⟩ (by simp; omega) ?_⟩
      simp -dsimp -implicitDefEqProofs only [w2, go_sem, ↓reduceIte, reduceCtorEq, Nat.reduceLT, Nat.reduceLeDiff, Nat.reduceEqDiff, Nat.reduceAdd, Nat.reduceMul, Nat.reduceSub, Nat.reduceBEq, Int.reduceLT, Int.reduceLE, Int.reduceEq, Int.reduceBEq, Int.reduceNeg]
    · rw [abv, if_neg hki] at ha hb
      have c2 : ((k : Int) = (id : Int)) = False := by simp; omega
      simp -dsimp -implicitDefEqProofs only [c1, hk, forall_eq', w2, c2, wk, wid, go_sem, ↓reduceIte, reduceCtorEq, Nat.reduceLT, Nat.reduceLeDiff, Nat.reduceEqDiff, Nat.reduceAdd, Nat.reduceMul, Nat.reduceSub, Nat.reduceBEq, Int.reduceLT, Int.reduceLE, Int.reduceEq, Int.reduceBEq, Int.reduceNeg]
      refine ⟨by omega, hil, callP hs1 ?_⟩
      simp -dsimp -implicitDefEqProofs only [wk, wid, go_sem, ↓reduceIte, reduceCtorEq, Nat.reduceLT, Nat.reduceLeDiff, Nat.reduceEqDiff, Nat.reduceAdd, Nat.reduceMul, Nat.reduceSub, Nat.reduceBEq, Int.reduceLT, Int.reduceLE, Int.reduceEq, Int.reduceBEq, Int.reduceNeg]
      refine callP hm1 ?_
      simp -dsimp -implicitDefEqProofs only [wk, wid, go_sem, ↓reduceIte, reduceCtorEq, Nat.reduceLT, Nat.reduceLeDiff, Nat.reduceEqDiff, Nat.reduceAdd, Nat.reduceMul, Nat.reduceSub, Nat.reduceBEq, Int.reduceLT, Int.reduceLE, Int.reduceEq, Int.reduceBEq, Int.reduceNeg]
      refine callP hs2 ?_
      simp -dsimp -implicitDefEqProofs only [wk, wid, go_sem, ↓reduceIte, reduceCtorEq, Nat.reduceLT, Nat.reduceLeDiff, Nat.reduceEqDiff, Nat.reduceAdd, Nat.reduceMul, Nat.reduceSub, Nat.reduceBEq, Int.reduceLT, Int.reduceLE, Int.reduceEq, Int.reduceBEq, Int.reduceNeg]
      refine callP hm2 ?_
      simp -dsimp -implicitDefEqProofs only [wk, wid, go_sem, ↓reduceIte, reduceCtorEq, Nat.reduceLT, Nat.reduceLeDiff, Nat.reduceEqDiff, Nat.reduceAdd, Nat.reduceMul, Nat.reduceSub, Nat.reduceBEq, Int.reduceLT, Int.reduceLE, Int.reduceEq, Int.reduceBEq, Int.reduceNeg]
      refine again ⟨i + 1, a * subR x k % 1152921504606845789, b * subR id k % 1152921504606845789, by omega, ha, hb, Nat.mod_lt _ (by decide), Nat.mod_lt _ (by decide)⟩ (by simp; omega) ?_
      simp -dsimp -implicitDefEqProofs only [w2, go_sem, ↓reduceIte, reduceCtorEq, Nat.reduceLT, Nat.reduceLeDiff, Nat.reduceEqDiff, Nat.reduceAdd, Nat.reduceMul, Nat.reduceSub, Nat.reduceBEq, Int.reduceLT, Int.reduceLE, Int.reduceEq, Int.reduceBEq, Int.reduceNeg]
  · have c1 : ((i : Int) < (ids.length : Int)) = False := by simp; omega
    have hd : ids.drop i = [] := List.drop_eq_nil_iff.2 (by omega)
    rw [hd] at ha hb
    have ha' : a = abv id x ids 1 := ha
    have hb' : b = abv id id ids 1 := hb
    subst ha'
    subst hb'
    simp -dsimp -implicitDefEqProofs only [c1, go_sem, ↓reduceIte, reduceCtorEq, Nat.reduceLT, Nat.reduceLeDiff, Nat.reduceEqDiff, Nat.reduceAdd, Nat.reduceMul, Nat.reduceSub, Nat.reduceBEq, Int.reduceLT, Int.reduceLE, Int.reduceEq, Int.reduceBEq, Int.reduceNeg]
    refine callP hinv ?_
    simp -dsimp -implicitDefEqProofs only [go_sem, ↓reduceIte, reduceCtorEq, Nat.reduceLT, Nat.reduceLeDiff, Nat.reduceEqDiff, Nat.reduceAdd, Nat.reduceMul, Nat.reduceSub, Nat.reduceBEq, Int.reduceLT, Int.reduceLE, Int.reduceEq, Int.reduceBEq, Int.reduceNeg]
    refine callP hmul ?_
    simp -dsimp -implicitDefEqProofs only [go_sem, ↓reduceIte, reduceCtorEq, Nat.reduceLT, Nat.reduceLeDiff, Nat.reduceEqDiff, Nat.reduceAdd, Nat.reduceMul, Nat.reduceSub, Nat.reduceBEq, Int.reduceLT, Int.reduceLE, Int.reduceEq, Int.reduceBEq, Int.reduceNeg]
    rfl
/-- The weights, a function that is told its numbers. -/
abbrev wtD (ids : List Nat) (x : Nat) : D := .fn 218 [.pt [idD ids], .pt [.v (.int .u64 (x : Int))]]
theorem weights_ok (ids : List Nat) (x : Nat) : Meets Tryz.prog 186 [(false, [vD (idD ids)]), (false, [vU64 x])] (rOne (vD (wtD ids x))) := by
  refine meetsF Tryz.func186 rfl rfl Tryz.ntmps186 Tryz.results186 rfl ?_
  simp -dsimp -implicitDefEqProofs only [go_sem, ↓reduceIte, reduceCtorEq, Nat.reduceLT, Nat.reduceLeDiff, Nat.reduceEqDiff, Nat.reduceAdd, Nat.reduceMul, Nat.reduceSub, Nat.reduceBEq, Int.reduceLT, Int.reduceLE, Int.reduceEq, Int.reduceBEq, Int.reduceNeg]
  refine retF [8, 0] ?_
  simp -dsimp -implicitDefEqProofs only [go_sem, ↓reduceIte, reduceCtorEq, Nat.reduceLT, Nat.reduceLeDiff, Nat.reduceEqDiff, Nat.reduceAdd, Nat.reduceMul, Nat.reduceSub, Nat.reduceBEq, Int.reduceLT, Int.reduceLE, Int.reduceEq, Int.reduceBEq, Int.reduceNeg]
/-- Shares, as rows; as data. -/
structure Sh where
  id : Nat
  x : Nat
def Sh.cells (s : Sh) : List D := [.v (.int .i64 (s.id : Int)), .v (.int .u64 (s.x : Int))]
abbrev shR (l : List Sh) : List (List D) := l.map Sh.cells
abbrev shD (l : List Sh) : D := .vec 2 (l.map Sh.cells)
theorem id_ok (s : Sh) : Meets Tryz.prog 138 [(true, [vI s.id, vU64 s.x])] (rOne (vI s.id)) := by
  refine meets Tryz.func138 rfl rfl Tryz.ntmps138 Tryz.results138 rfl ?_
  simp -dsimp -implicitDefEqProofs only [go_sem, ↓reduceIte, reduceCtorEq, Nat.reduceLT, Nat.reduceLeDiff, Nat.reduceEqDiff, Nat.reduceAdd, Nat.reduceMul, Nat.reduceSub, Nat.reduceBEq, Int.reduceLT, Int.reduceLE, Int.reduceEq, Int.reduceBEq, Int.reduceNeg]
structure MpInv (l : List Sh) where
  i : Nat
  hi : i ≤ l.length
theorem ids_ok (l : List Sh) (hl : l.length ≤ 100) : Meets Tryz.prog 137 [(false, [vD (shD l)]), (false, [vD (.fn 138 [])])] (rOne (.own 1 3 ((l.map Sh.id).map fun (n : Nat) => [.v (.int .i64 (n : Int))]))) := by
  refine meets Tryz.func137 rfl rfl Tryz.ntmps137 Tryz.results137 rfl ?_
  simp -dsimp -implicitDefEqProofs only [go_sem, ↓reduceIte, reduceCtorEq, Nat.reduceLT, Nat.reduceLeDiff, Nat.reduceEqDiff, Nat.reduceAdd, Nat.reduceMul, Nat.reduceSub, Nat.reduceBEq, Int.reduceLT, Int.reduceLE, Int.reduceEq, Int.reduceBEq, Int.reduceNeg]
  refine vfor sitOk (ι := MpInv l) (fun v => ⟨23, [(11, aI v.i), (10, aI l.length), (9, aD (shD l)), (5, aO 8), (1, aD (.fn 138 []))], [(8, some (.row 1 3 (((l.take v.i).map Sh.id).map fun (n : Nat) => [.v (.int .i64 (n : Int))]) true))], 48⟩) (fun v => l.length - v.i) ⟨0, by omega⟩ ?_ ?_
  · simp -dsimp -implicitDefEqProofs only [go_sem, ↓reduceIte, reduceCtorEq, Nat.reduceLT, Nat.reduceLeDiff, Nat.reduceEqDiff, Nat.reduceAdd, Nat.reduceMul, Nat.reduceSub, Nat.reduceBEq, Int.reduceLT, Int.reduceLE, Int.reduceEq, Int.reduceBEq, Int.reduceNeg]
  intro ⟨i, hi⟩
  by_cases hil : i < l.length
  · have c1 : ((i : Int) < (l.length : Int)) = True := by simp; omega
    obtain ⟨s, hs⟩ := get_of hil
    have w2 : IntKind.i64.wrap ((i : Int) + 1) = ((i + 1 : Nat) : Int) := by rw [wrap64] <;> omega
    have ht : l.take (i + 1) = l.take i ++ [s] := by rw [List.take_add_one, hs]; rfl
    have htl : (l.take i).length ≤ 100 := by rw [List.length_take]; omega
    simp -dsimp -implicitDefEqProofs only [c1, hs, forall_eq', w2, Sh.cells, go_sem, ↓reduceIte, reduceCtorEq, Nat.reduceLT, Nat.reduceLeDiff, Nat.reduceEqDiff, Nat.reduceAdd, Nat.reduceMul, Nat.reduceSub, Nat.reduceBEq, Int.reduceLT, Int.reduceLE, Int.reduceEq, Int.reduceBEq, Int.reduceNeg]
    refine ⟨by omega, hil, callP (id_ok s) ?_⟩
    simp -dsimp -implicitDefEqProofs only [go_sem, ↓reduceIte, reduceCtorEq, Nat.reduceLT, Nat.reduceLeDiff, Nat.reduceEqDiff, Nat.reduceAdd, Nat.reduceMul, Nat.reduceSub, Nat.reduceBEq, Int.reduceLT, Int.reduceLE, Int.reduceEq, Int.reduceBEq, Int.reduceNeg]
    refine ⟨⟨by omega, by omega⟩, againT 8 5 ⟨i + 1, by omega⟩ (by simp; omega) ?_⟩
    simp -dsimp -implicitDefEqProofs only [w2, ht, List.map_append, List.map_cons, List.map_nil, go_sem, ↓reduceIte, reduceCtorEq, Nat.reduceLT, Nat.reduceLeDiff, Nat.reduceEqDiff, Nat.reduceAdd, Nat.reduceMul, Nat.reduceSub, Nat.reduceBEq, Int.reduceLT, Int.reduceLE, Int.reduceEq, Int.reduceBEq, Int.reduceNeg]
  · have c1 : ((i : Int) < (l.length : Int)) = False := by simp; omega
    obtain rfl : i = l.length := by omega
    simp -dsimp -implicitDefEqProofs only [c1, List.take_length, go_sem, ↓reduceIte, reduceCtorEq, Nat.reduceLT, Nat.reduceLeDiff, Nat.reduceEqDiff, Nat.reduceAdd, Nat.reduceMul, Nat.reduceSub, Nat.reduceBEq, Int.reduceLT, Int.reduceLE, Int.reduceEq, Int.reduceBEq, Int.reduceNeg]
abbrev kyV (n : Nat) : Value := .int .i64 (n : Int)
theorem hasK_ids : ∀ (l : List Nat) (k : Nat), k ∉ l → hasK (l.map kyV) (kyV k) = false
  | [], _, _ => rfl
  | y :: r, k, h => by
    simp only [List.map_cons, hasK, Bool.or_eq_false_iff, keyEq, decide_eq_false_iff_not]
    exact ⟨fun e => h (by rw [show y = k by omega]; exact List.mem_cons_self ..), hasK_ids r k fun hm => h (List.mem_cons_of_mem _ hm)⟩
structure RgInv (ids : List Nat) where
  i : Nat
  hi : i ≤ ids.length
theorem right_ok (ids : List Nat) (h0 : 0 < ids.length) (hl : ids.length ≤ 7) (hnd : ids.Nodup) (hall : ∀ k ∈ ids, 1 ≤ k ∧ k < 100) : Meets Tryz.prog 136 [(false, [vD (idD ids)])] (rOne (vB true)) := by
  refine meets Tryz.func136 rfl rfl Tryz.ntmps136 Tryz.results136 rfl ?_
  simp -dsimp -implicitDefEqProofs only [go_sem, ↓reduceIte, reduceCtorEq, Nat.reduceLT, Nat.reduceLeDiff, Nat.reduceEqDiff, Nat.reduceAdd, Nat.reduceMul, Nat.reduceSub, Nat.reduceBEq, Int.reduceLT, Int.reduceLE, Int.reduceEq, Int.reduceBEq, Int.reduceNeg]
  refine vfor sitOk (ι := RgInv ids) (fun v => ⟨35, [(9, aI v.i), (8, aI ids.length), (7, aD (idD ids)), (3, .cs false [.mph 8]), (0, aD (idD ids))], [(8, some (.ms (some .i64) ((ids.take v.i).reverse.map kyV)))], 48⟩) (fun v => ids.length - v.i) ⟨0, by omega⟩ ?_ ?_
  · simp -dsimp -implicitDefEqProofs only [go_sem, ↓reduceIte, reduceCtorEq, Nat.reduceLT, Nat.reduceLeDiff, Nat.reduceEqDiff, Nat.reduceAdd, Nat.reduceMul, Nat.reduceSub, Nat.reduceBEq, Int.reduceLT, Int.reduceLE, Int.reduceEq, Int.reduceBEq, Int.reduceNeg]
    rfl
  intro ⟨i, hi⟩
  by_cases hil : i < ids.length
  · have c1 : ((i : Int) < (ids.length : Int)) = True := by simp; omega
    obtain ⟨k, hk⟩ := get_of hil
    obtain ⟨hk1, hk2⟩ := hall k (List.mem_of_getElem? hk)
    have w2 : IntKind.i64.wrap ((i : Int) + 1) = ((i + 1 : Nat) : Int) := by rw [wrap64] <;> omega
    have c2 : ((k : Int) < 1) = False := by simp; omega
    have c3 : ((1152921504606845789 : Int) ≤ (k : Int)) = False := by simp; omega
    have hnk : k ∉ (ids.take i).reverse := fun hm => by
      have h1 := hnd
      rw [← List.take_append_drop i ids] at h1
      exact (List.nodup_append.1 h1).2.2 k (List.mem_reverse.1 hm) k (by rw [drop_get hk]; exact List.mem_cons_self ..) rfl
    have hh : hasK ((ids.take i).reverse.map kyV) (.int .i64 (k : Int)) = false := hasK_ids _ _ hnk
    have ht : (ids.take (i + 1)).reverse = k :: (ids.take i).reverse := by rw [List.take_add_one, hk]; simp
    simp -dsimp -implicitDefEqProofs only [c1, hk, forall_eq', w2, c2, c3, hh, go_sem, ↓reduceIte, reduceCtorEq, Nat.reduceLT, Nat.reduceLeDiff, Nat.reduceEqDiff, Nat.reduceAdd, Nat.reduceMul, Nat.reduceSub, Nat.reduceBEq, Int.reduceLT, Int.reduceLE, Int.reduceEq, Int.reduceBEq, Int.reduceNeg]
    refine ⟨by omega, hil, ?_⟩
    intro _ _
    refine again ⟨i + 1, by omega⟩ (by simp; omega) ?_
    simp -dsimp -implicitDefEqProofs only [w2, ht, List.map_cons, go_sem, ↓reduceIte, reduceCtorEq, Nat.reduceLT, Nat.reduceLeDiff, Nat.reduceEqDiff, Nat.reduceAdd, Nat.reduceMul, Nat.reduceSub, Nat.reduceBEq, Int.reduceLT, Int.reduceLE, Int.reduceEq, Int.reduceBEq, Int.reduceNeg]
  · have c1 : ((i : Int) < (ids.length : Int)) = False := by simp; omega
    have c2 : (0 < (ids.length : Int)) = True := by simp; omega
    have c3 : ((ids.length : Int) ≤ 7) = True := by simp; omega
    simp -dsimp -implicitDefEqProofs only [c1, c2, c3, go_sem, ↓reduceIte, reduceCtorEq, Nat.reduceLT, Nat.reduceLeDiff, Nat.reduceEqDiff, Nat.reduceAdd, Nat.reduceMul, Nat.reduceSub, Nat.reduceBEq, Int.reduceLT, Int.reduceLE, Int.reduceEq, Int.reduceBEq, Int.reduceNeg]
end Go.Proofs.YtijfncaphfaijaaGreatDoor
