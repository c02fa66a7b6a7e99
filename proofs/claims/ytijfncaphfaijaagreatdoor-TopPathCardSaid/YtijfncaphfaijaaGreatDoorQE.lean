
/- Names are text; what TopPath's certificates are. authority; TopPath. path.Build. -/
import Derived.Test.YtijfncaphfaijaaGreatDoorQD
namespace Go.Proofs.YtijfncaphfaijaaGreatDoor
open Go.Eng
set_option linter.unusedSimpArgs false
set_option maxRecDepth 10000

theorem mem_split : ∀ (l : Bs) (c : UInt8), c ∈ l → c = 46 ∨ ∃ x ∈ splitB l, c ∈ x
  | [], c, h => by cases h
  | d :: r, c, h => by
    have hn := splitB_ne r
    have ih := mem_split r c
    unfold splitB
    by_cases hd : d = 46
    · rw [if_pos hd]
      rcases List.mem_cons.1 h with rfl | h
      · exact .inl hd
      · rcases ih h with h | ⟨x, h1, h2⟩
        · exact .inl h
        · exact .inr ⟨x, List.mem_cons_of_mem _ h1, h2⟩
    · rw [if_neg hd]
      cases hs : splitB r with
      | nil => exact absurd hs hn
      | cons y ys =>
        rw [hs] at ih
        rcases List.mem_cons.1 h with rfl | h
        · exact .inr ⟨c :: y, List.mem_cons_self .., List.mem_cons_self ..⟩
        · rcases ih h with h | ⟨x, h1, h2⟩
          · exact .inl h
          · rcases List.mem_cons.1 h1 with rfl | h1
            · exact .inr ⟨d :: x, List.mem_cons_self .., List.mem_cons_of_mem _ h2⟩
            · exact .inr ⟨x, List.mem_cons_of_mem _ h1, h2⟩
theorem or_of {a b : Bool} (h : (a || b) = true) : a = true ∨ b = true := by simpa using h
theorem edge_pr {c : UInt8} (h : edgeB c = true) : 32 ≤ c.toNat ∧ c.toNat ≤ 126 := by
  unfold edgeB edgeI at h
  simp at h
  omega
theorem label_pr {x : Bs} (h : labelB x = true) : PrS x := by
  intro c hc
  unfold labelB at h
  simp only [Bool.and_eq_true, List.all_eq_true, List.mem_range] at h
  obtain ⟨i, hi⟩ := List.getElem?_of_mem hc
  have hil : i < x.length := (List.getElem?_eq_some_iff.1 hi).1
  have := h.2 i hil
  unfold okAt at this
  rw [hi] at this
  simp only at this
  split at this
  · exact edge_pr this
  · split at this
    · rcases or_of this with h1 | h1
      · exact edge_pr h1
      · rw [eq_of_beq h1]; decide
    · rcases or_of this with h1 | h1
      · rw [eq_of_beq h1]; decide
      · exact edge_pr h1
theorem split_pr {l : Bs} (h : (splitB l).all labelB = true) : PrS l := by
  intro c hc
  rcases mem_split l c hc with rfl | ⟨x, h1, h2⟩
  · decide
  · exact label_pr (List.all_eq_true.1 h x h1) c h2
theorem name_pr {l : Bs} (h : isName l = true) : PrS l ∧ l.length ≤ 64 := by
  unfold isName at h
  simp only [Bool.and_eq_true, decide_eq_true_eq] at h
  exact ⟨split_pr h.2, h.1.1⟩
theorem pat_pr {l : Bs} (h : patOk l = true) : PrS l ∧ l.length ≤ 64 := by
  unfold patOk at h
  rcases or_of h with h | h
  · exact name_pr h
  · simp only [Bool.and_eq_true] at h
    obtain ⟨h1, h2⟩ := h
    unfold starB at h1
    unfold isNm at h2
    simp only [Bool.and_eq_true, decide_eq_true_eq, beq_iff_eq] at h1 h2
    have h3 := split_pr h2.2
    have h4 : l = [42, 46] ++ l.drop 2 := by rw [← h1.2, List.take_append_drop]
    refine ⟨fun c hc => ?_, by have := h2.1.1; rw [List.length_drop] at this; omega⟩
    rw [h4] at hc
    rcases List.mem_append.1 hc with hc | hc
    · simp only [List.mem_cons, List.not_mem_nil, or_false] at hc
      rcases hc with rfl | rfl <;> decide
    · exact h3 c hc
end Go.Proofs.YtijfncaphfaijaaGreatDoor
namespace Go.Proofs.YtijfncaphfaijaaGreatDoor
open Go.Eng
set_option linter.unusedSimpArgs false
set_option maxRecDepth 10000

/-- Signed by a key. -/
noncomputable def sgn (s : Nat) (c : Ct) : Ct := { c with e := sigE s (enc (bodyI c)), s := sigS s (enc (bodyI c)) }
theorem body_es (c : Ct) (e s : Nat) : bodyI { c with e := e, s := s } = bodyI c := rfl
theorem sgn_eq (s : Nat) (c : Ct) : ∃ e t, e = sigE s (enc (bodyI c)) ∧ t = sigS s (enc (bodyI c)) ∧ sgn s c = { c with e := e, s := t } := ⟨_, _, rfl, rfl, by unfold sgn; rfl⟩
theorem sgn_body (s : Nat) (c : Ct) : bodyI (sgn s c) = bodyI c := by
  obtain ⟨e, t, _, _, h⟩ := sgn_eq s c
  rw [h]
  exact body_es c e t
theorem sgn_e (s : Nat) (c : Ct) : (sgn s c).e = sigE s (enc (bodyI c)) := by simp only [sgn]
theorem sgn_s (s : Nat) (c : Ct) : (sgn s c).s = sigS s (enc (bodyI c)) := by simp only [sgn]
/-- Before it is signed. -/
def auC (serial : Nat) (issuer subject : Bs) (pub depth : Nat) (permit : List Bs) : Ct := ⟨serial, issuer, subject, pub, [], 0, 1000, true, depth, permit, 0, 0⟩
def lfC (name : Bs) : Ct := ⟨3, midS, [], 16, [name], 5, 50, false, 0, [], 0, 0⟩
theorem root_pr : PrS rootS ∧ rootS.length ≤ 64 := ⟨fun c hc => by
  simp only [rootS, List.mem_cons, List.not_mem_nil, or_false] at hc
  rcases hc with rfl | rfl | rfl | rfl <;> exact ⟨by decide, by decide⟩, by decide⟩
theorem mid_pr : PrS midS ∧ midS.length ≤ 64 := ⟨fun c hc => by
  simp only [midS, List.mem_cons, List.not_mem_nil, or_false] at hc
  rcases hc with rfl | rfl | rfl <;> exact ⟨by decide, by decide⟩, by decide⟩
theorem sigE_lt (s : Nat) (msg : List Int) (h : msg.length ≤ 10000) : sigE s msg < 1152921504606845789 := chaN_lt _ _ _ h
theorem sigS_lt (s : Nat) (msg : List Int) : sigS s msg < 1152921504606845789 := Nat.mod_lt _ (by decide)
theorem au_ok (serial : Nat) (subject : Bs) (pub depth e s : Nat) (permit : List Bs) (hs : serial ≤ 100) (hsub : subject = rootS ∨ subject = midS) (h0 : 0 < pub) (hp : pub < 2305843009213691579) (hd : depth ≤ 4) (he : e < 1152921504606845789) (hsg : s < 1152921504606845789)
    (hpm : permit = [] ∨ ∃ p, permit = [p] ∧ patOk p = true) : CaOk ⟨serial, rootS, subject, pub, [], 0, 1000, true, depth, permit, e, s⟩ := by
  refine ⟨⟨⟨root_pr, ?_, hp, ⟨by simp, fun s hs => by cases hs⟩, ?_, he, hsg⟩, by show serial ≤ _; omega, by show (0 : Nat) ≤ _; omega, by show (1000 : Nat) ≤ _; omega, by show (0 : Nat) < 1000; omega, h0, text_root⟩, rfl, ?_, rfl, hd, hpm⟩
  · rcases hsub with rfl | rfl
    · exact root_pr
    · exact mid_pr
  · rcases hpm with rfl | ⟨p, rfl, hp⟩
    · exact ⟨by simp, fun s hs => by cases hs⟩
    · refine ⟨by simp, fun s hs => ?_⟩
      simp only [List.mem_singleton] at hs
      subst hs
      exact pat_pr hp
  · rcases hsub with rfl | rfl
    · exact text_root
    · exact text_mid
theorem lfC_ok (name : Bs) (e s : Nat) (hn : isName name = true) (he : e < 1152921504606845789) (hsg : s < 1152921504606845789) : LfOk ⟨3, midS, [], 16, [name], 5, 50, false, 0, [], e, s⟩ := by
  refine ⟨⟨⟨mid_pr, ⟨fun c hc => (by cases hc), by simp⟩, by show (16 : Nat) < _; omega, ⟨by simp, fun s hs => ?_⟩, ⟨by simp, fun s hs => by cases hs⟩, he, hsg⟩, by show (3 : Nat) ≤ _; omega, by show (5 : Nat) ≤ _; omega, by show (50 : Nat) ≤ _; omega, by show (5 : Nat) < 50; omega, by show (0 : Nat) < 16; omega, text_mid⟩, rfl, rfl, ⟨name, rfl, hn⟩, rfl, rfl⟩
  simp only [List.mem_singleton] at hs
  subst hs
  exact name_pr hn
theorem authority_ok (serial : Nat) (subject : Bs) (k pub depth : Nat) (permit : List Bs) (hs : serial ≤ 100) (hsub : subject = rootS ∨ subject = midS) (hk0 : 0 < k) (hk : k < 1152921504606845789) (h0 : 0 < pub) (hp : pub < 2305843009213691579) (hd : depth ≤ 4)
    (hpm : permit = [] ∨ ∃ p, permit = [p] ∧ patOk p = true) : Meets Tryz.prog 15 [(false, [vI serial]), (false, [vS rootS]), (false, [vS subject]), (false, [vU64 k]), (false, [vU64 pub]), (false, [vI depth]), (false, [vD (stD permit)])]
      (rTup [(true, ctV (sgn k (auC serial rootS subject pub depth permit))), (false, [vB true])]) := by
  have hc : CaOk (auC serial rootS subject pub depth permit) := au_ok serial subject pub depth 0 0 permit hs hsub h0 hp hd (by decide) (by decide) hpm
  have h1 := cbody_ok _ (formed_ca _ hc) hc.g.b
  have hl := body_len hc.g.b
  have h2 := sign_ok k (enc (bodyI (auC serial rootS subject pub depth permit))) hk0 hk (by omega)
  refine meets Tryz.func15 rfl rfl Tryz.ntmps15 Tryz.results15 rfl ?_
  simp -dsimp -implicitDefEqProofs only [go_sem, ↓reduceIte, reduceCtorEq, Nat.reduceLT, Nat.reduceLeDiff, Nat.reduceEqDiff, Nat.reduceAdd, Nat.reduceMul, Nat.reduceSub, Nat.reduceBEq, Int.reduceLT, Int.reduceLE, Int.reduceEq, Int.reduceBEq, Int.reduceNeg]
  refine callP h1 ?_
  simp -dsimp -implicitDefEqProofs only [go_sem, ↓reduceIte, reduceCtorEq, Nat.reduceLT, Nat.reduceLeDiff, Nat.reduceEqDiff, Nat.reduceAdd, Nat.reduceMul, Nat.reduceSub, Nat.reduceBEq, Int.reduceLT, Int.reduceLE, Int.reduceEq, Int.reduceBEq, Int.reduceNeg]
  refine callP h2 ?_
  simp -dsimp -implicitDefEqProofs only [go_sem, ↓reduceIte, reduceCtorEq, Nat.reduceLT, Nat.reduceLeDiff, Nat.reduceEqDiff, Nat.reduceAdd, Nat.reduceMul, Nat.reduceSub, Nat.reduceBEq, Int.reduceLT, Int.reduceLE, Int.reduceEq, Int.reduceBEq, Int.reduceNeg]
  rw [sgn_e, sgn_s]
  exact ⟨rfl, rfl, rfl, rfl, rfl, rfl, rfl, rfl, rfl, rfl, rfl, rfl⟩
end Go.Proofs.YtijfncaphfaijaaGreatDoor
namespace Go.Proofs.YtijfncaphfaijaaGreatDoor
open Go.Eng
set_option linter.unusedSimpArgs false
set_option maxRecDepth 10000

theorem cloneP_ok (rows : List (List D)) (hl : rows.length ≤ 1000000) :
    Meets Tryz.prog 103 [(false, [vD (.vec 1 rows)])] (rOne (.own 1 110 rows)) := by
  refine meets Tryz.func103 rfl rfl Tryz.ntmps103 Tryz.results103 rfl ?_
  simp -dsimp -implicitDefEqProofs only [go_sem, ↓reduceIte, reduceCtorEq, Nat.reduceLT, Nat.reduceLeDiff, Nat.reduceEqDiff, Nat.reduceAdd, Nat.reduceMul, Nat.reduceSub, Nat.reduceBEq, Int.reduceLT, Int.reduceLE, Int.reduceEq, Int.reduceBEq, Int.reduceNeg]
  exact fun b hb => ⟨fun h => Classical.byContradiction fun hn => absurd ((hb hn).symm.trans h) (by simp), fun _ => ⟨by omega, by omega⟩⟩
theorem clip_mo (rows : List (List D)) (h : 0 < rows.length) : MeetsO Tryz.prog 104 [(false, [.own 224])] [(224, .row 13 49 rows false)] [(224, .row 13 49 rows false)] (.cs false [.d (.cvec 13 rows)]) := by
  refine meetsO 300 rfl Tryz.func104 rfl rfl Tryz.ntmps104 Tryz.results104 rfl ?_
  simp -dsimp -implicitDefEqProofs only [retH, h, go_sem, ↓reduceIte, reduceCtorEq, Nat.reduceLT, Nat.reduceLeDiff, Nat.reduceEqDiff, Nat.reduceAdd, Nat.reduceMul, Nat.reduceSub, Nat.reduceBEq, Int.reduceLT, Int.reduceLE, Int.reduceEq, Int.reduceBEq, Int.reduceNeg]
theorem build_no {r m l : Ct} {name pat : Bs} (h : Trip r m l name pat) (now k1 k2 : Nat) (h1 : Meets Tryz.prog 20 [(false, [vD (ctD [r])]), (false, [vD (ctD [l])]), (false, [vS name]), (false, [vI now])] (rOne (vI k1)))
    (h2 : Meets Tryz.prog 20 [(false, [vD (ctD [r])]), (false, [vD (ctD [l, m])]), (false, [vS name]), (false, [vI now])] (rOne (vI k2))) (n1 : k1 ≠ 0) (n2 : k2 ≠ 0) :
    Meets Tryz.prog 19 [(false, [vD (ctD [r])]), (false, [vD (ctD [m])]), (true, ctV l), (false, [vS name]), (false, [vI now])] (rOne (vD (.vec 1 []))) := by
  have c1 : ((k1 : Int) = 0) = False := by simp [n1]
  have c2 : ((k2 : Int) = 0) = False := by simp [n2]
  have hl := h.lm
  have hcp := cloneP_ok [[.pt m.cells]] (by simp)
  refine meets Tryz.func19 rfl rfl Tryz.ntmps19 Tryz.results19 rfl ?_
  simp -dsimp -implicitDefEqProofs only [go_sem, ↓reduceIte, reduceCtorEq, Nat.reduceLT, Nat.reduceLeDiff, Nat.reduceEqDiff, Nat.reduceAdd, Nat.reduceMul, Nat.reduceSub, Nat.reduceBEq, Int.reduceLT, Int.reduceLE, Int.reduceEq, Int.reduceBEq, Int.reduceNeg]
  refine vrounds 2 sitOk ?_
  simp -dsimp -implicitDefEqProofs only [go_sem, ↓reduceIte, reduceCtorEq, Nat.reduceLT, Nat.reduceLeDiff, Nat.reduceEqDiff, Nat.reduceAdd, Nat.reduceMul, Nat.reduceSub, Nat.reduceBEq, Int.reduceLT, Int.reduceLE, Int.reduceEq, Int.reduceBEq, Int.reduceNeg]
  refine vround ?_
  simp -dsimp -implicitDefEqProofs only [Ct.cells, i01, go_sem, ↓reduceIte, reduceCtorEq, Nat.reduceLT, Nat.reduceLeDiff, Nat.reduceEqDiff, Nat.reduceAdd, Nat.reduceMul, Nat.reduceSub, Nat.reduceBEq, Int.reduceLT, Int.reduceLE, Int.reduceEq, Int.reduceBEq, Int.reduceNeg]
  refine vround ?_
  simp -dsimp -implicitDefEqProofs only [go_sem, ↓reduceIte, reduceCtorEq, Nat.reduceLT, Nat.reduceLeDiff, Nat.reduceEqDiff, Nat.reduceAdd, Nat.reduceMul, Nat.reduceSub, Nat.reduceBEq, Int.reduceLT, Int.reduceLE, Int.reduceEq, Int.reduceBEq, Int.reduceNeg]
  refine callW rfl Tryz.func58 rfl rfl Tryz.ntmps58 Tryz.results58 rfl ?_
  simp -dsimp -implicitDefEqProofs only [retH, go_sem, ↓reduceIte, reduceCtorEq, Nat.reduceLT, Nat.reduceLeDiff, Nat.reduceEqDiff, Nat.reduceAdd, Nat.reduceMul, Nat.reduceSub, Nat.reduceBEq, Int.reduceLT, Int.reduceLE, Int.reduceEq, Int.reduceBEq, Int.reduceNeg]
  refine vrange sitOk rfl [] [(5, aP 0 0), (8, aP 16 0), (9, aP 24 0), (11, aP 40 0)] rfl rfl ?_ Tryz.func102 rfl rfl Tryz.ntmps102 Tryz.results102 rfl ?_
  · simp -dsimp -implicitDefEqProofs only [go_sem, ↓reduceIte, reduceCtorEq, Nat.reduceLT, Nat.reduceLeDiff, Nat.reduceEqDiff, Nat.reduceAdd, Nat.reduceMul, Nat.reduceSub, Nat.reduceBEq, Int.reduceLT, Int.reduceLE, Int.reduceEq, Int.reduceBEq, Int.reduceNeg]
  generalize hL : Lp.mk 47 _ _ _ _ _ = L
  simp -dsimp -implicitDefEqProofs only [go_sem, ↓reduceIte, reduceCtorEq, Nat.reduceLT, Nat.reduceLeDiff, Nat.reduceEqDiff, Nat.reduceAdd, Nat.reduceMul, Nat.reduceSub, Nat.reduceBEq, Int.reduceLT, Int.reduceLE, Int.reduceEq, Int.reduceBEq, Int.reduceNeg]
  refine yieldW sitOk ?_
  simp -dsimp -implicitDefEqProofs only [← hL, go_sem, ↓reduceIte, reduceCtorEq, Nat.reduceLT, Nat.reduceLeDiff, Nat.reduceEqDiff, Nat.reduceAdd, Nat.reduceMul, Nat.reduceSub, Nat.reduceBEq, Int.reduceLT, Int.reduceLE, Int.reduceEq, Int.reduceBEq, Int.reduceNeg]
  intro ro
  refine callP h1 ?_
  simp -dsimp -implicitDefEqProofs only [c1, ← hL, go_sem, ↓reduceIte, reduceCtorEq, Nat.reduceLT, Nat.reduceLeDiff, Nat.reduceEqDiff, Nat.reduceAdd, Nat.reduceMul, Nat.reduceSub, Nat.reduceBEq, Int.reduceLT, Int.reduceLE, Int.reduceEq, Int.reduceBEq, Int.reduceNeg]
  refine vfz sitOk 224 ?_
  simp -dsimp -implicitDefEqProofs only [go_sem, ↓reduceIte, reduceCtorEq, Nat.reduceLT, Nat.reduceLeDiff, Nat.reduceEqDiff, Nat.reduceAdd, Nat.reduceMul, Nat.reduceSub, Nat.reduceBEq, Int.reduceLT, Int.reduceLE, Int.reduceEq, Int.reduceBEq, Int.reduceNeg]
  refine vrounds 2 sitOk ?_
  simp -dsimp -implicitDefEqProofs only [go_sem, ↓reduceIte, reduceCtorEq, Nat.reduceLT, Nat.reduceLeDiff, Nat.reduceEqDiff, Nat.reduceAdd, Nat.reduceMul, Nat.reduceSub, Nat.reduceBEq, Int.reduceLT, Int.reduceLE, Int.reduceEq, Int.reduceBEq, Int.reduceNeg]
  refine vround ?_
  simp -dsimp -implicitDefEqProofs only [← hL, s11, Ct.cells, go_sem, ↓reduceIte, reduceCtorEq, Nat.reduceLT, Nat.reduceLeDiff, Nat.reduceEqDiff, Nat.reduceAdd, Nat.reduceMul, Nat.reduceSub, Nat.reduceBEq, Int.reduceLT, Int.reduceLE, Int.reduceEq, Int.reduceBEq, Int.reduceNeg]
  refine callP hl ?_
  simp -dsimp -implicitDefEqProofs only [go_sem, ↓reduceIte, reduceCtorEq, Nat.reduceLT, Nat.reduceLeDiff, Nat.reduceEqDiff, Nat.reduceAdd, Nat.reduceMul, Nat.reduceSub, Nat.reduceBEq, Int.reduceLT, Int.reduceLE, Int.reduceEq, Int.reduceBEq, Int.reduceNeg]
  refine ⟨drawn (by kernel_rfl), ?_⟩
  refine callP hcp ?_
  simp -dsimp -implicitDefEqProofs only [Ct.cells, go_sem, ↓reduceIte, reduceCtorEq, Nat.reduceLT, Nat.reduceLeDiff, Nat.reduceEqDiff, Nat.reduceAdd, Nat.reduceMul, Nat.reduceSub, Nat.reduceBEq, Int.reduceLT, Int.reduceLE, Int.reduceEq, Int.reduceBEq, Int.reduceNeg]
  refine callO (clip_mo [l.cells] (by simp)) rfl ?_
  simp -dsimp -implicitDefEqProofs only [Ct.cells, go_sem, ↓reduceIte, reduceCtorEq, Nat.reduceLT, Nat.reduceLeDiff, Nat.reduceEqDiff, Nat.reduceAdd, Nat.reduceMul, Nat.reduceSub, Nat.reduceBEq, Int.reduceLT, Int.reduceLE, Int.reduceEq, Int.reduceBEq, Int.reduceNeg]
  refine callWd (by kernel_rfl) (by kernel_rfl) Tryz.func58 rfl rfl Tryz.ntmps58 Tryz.results58 rfl ?_
  simp -dsimp -implicitDefEqProofs only [retH, go_sem, ↓reduceIte, reduceCtorEq, Nat.reduceLT, Nat.reduceLeDiff, Nat.reduceEqDiff, Nat.reduceAdd, Nat.reduceMul, Nat.reduceSub, Nat.reduceBEq, Int.reduceLT, Int.reduceLE, Int.reduceEq, Int.reduceBEq, Int.reduceNeg]
  refine ⟨drawn (by kernel_rfl), ?_⟩
  refine vrange sitOk rfl [] [(19, aI 0), (18, aI 1), (17, aO 168), (3, aP 312 0), (1, aP 240 0), (2, aP 232 0)] rfl rfl ?_ Tryz.func102 rfl rfl Tryz.ntmps102 Tryz.results102 rfl ?_
  · simp -dsimp -implicitDefEqProofs only [go_sem, ↓reduceIte, reduceCtorEq, Nat.reduceLT, Nat.reduceLeDiff, Nat.reduceEqDiff, Nat.reduceAdd, Nat.reduceMul, Nat.reduceSub, Nat.reduceBEq, Int.reduceLT, Int.reduceLE, Int.reduceEq, Int.reduceBEq, Int.reduceNeg]
  generalize hL2 : Lp.mk 59 _ _ _ _ _ = L2
  simp -dsimp -implicitDefEqProofs only [go_sem, ↓reduceIte, reduceCtorEq, Nat.reduceLT, Nat.reduceLeDiff, Nat.reduceEqDiff, Nat.reduceAdd, Nat.reduceMul, Nat.reduceSub, Nat.reduceBEq, Int.reduceLT, Int.reduceLE, Int.reduceEq, Int.reduceBEq, Int.reduceNeg]
  refine yieldW sitOk ?_
  simp -dsimp -implicitDefEqProofs only [← hL2, go_sem, ↓reduceIte, reduceCtorEq, Nat.reduceLT, Nat.reduceLeDiff, Nat.reduceEqDiff, Nat.reduceAdd, Nat.reduceMul, Nat.reduceSub, Nat.reduceBEq, Int.reduceLT, Int.reduceLE, Int.reduceEq, Int.reduceBEq, Int.reduceNeg]
  intro ro2
  refine yieldW sitOk ?_
  simp -dsimp -implicitDefEqProofs only [← hL, go_sem, ↓reduceIte, reduceCtorEq, Nat.reduceLT, Nat.reduceLeDiff, Nat.reduceEqDiff, Nat.reduceAdd, Nat.reduceMul, Nat.reduceSub, Nat.reduceBEq, Int.reduceLT, Int.reduceLE, Int.reduceEq, Int.reduceBEq, Int.reduceNeg]
  intro ro3
  refine callP h2 ?_
  simp -dsimp -implicitDefEqProofs only [c2, ← hL, ← hL2, go_sem, ↓reduceIte, reduceCtorEq, Nat.reduceLT, Nat.reduceLeDiff, Nat.reduceEqDiff, Nat.reduceAdd, Nat.reduceMul, Nat.reduceSub, Nat.reduceBEq, Int.reduceLT, Int.reduceLE, Int.reduceEq, Int.reduceBEq, Int.reduceNeg]
  refine vrounds 2 sitOk ?_
  simp -dsimp -implicitDefEqProofs only [go_sem, ↓reduceIte, reduceCtorEq, Nat.reduceLT, Nat.reduceLeDiff, Nat.reduceEqDiff, Nat.reduceAdd, Nat.reduceMul, Nat.reduceSub, Nat.reduceBEq, Int.reduceLT, Int.reduceLE, Int.reduceEq, Int.reduceBEq, Int.reduceNeg]
  refine vround ?_
  simp -dsimp -implicitDefEqProofs only [i01, go_sem, ↓reduceIte, reduceCtorEq, Nat.reduceLT, Nat.reduceLeDiff, Nat.reduceEqDiff, Nat.reduceAdd, Nat.reduceMul, Nat.reduceSub, Nat.reduceBEq, Int.reduceLT, Int.reduceLE, Int.reduceEq, Int.reduceBEq, Int.reduceNeg]
  refine ⟨drawn (by kernel_rfl), ?_⟩
  refine vround ?_
  simp -dsimp -implicitDefEqProofs only [i01, retH, ← hL, ← hL2, go_sem, ↓reduceIte, reduceCtorEq, Nat.reduceLT, Nat.reduceLeDiff, Nat.reduceEqDiff, Nat.reduceAdd, Nat.reduceMul, Nat.reduceSub, Nat.reduceBEq, Int.reduceLT, Int.reduceLE, Int.reduceEq, Int.reduceBEq, Int.reduceNeg]
  refine vround ?_
  simp -dsimp -implicitDefEqProofs only [retH, ← hL, ← hL2, go_sem, ↓reduceIte, reduceCtorEq, Nat.reduceLT, Nat.reduceLeDiff, Nat.reduceEqDiff, Nat.reduceAdd, Nat.reduceMul, Nat.reduceSub, Nat.reduceBEq, Int.reduceLT, Int.reduceLE, Int.reduceEq, Int.reduceBEq, Int.reduceNeg]
  exact ⟨_, rfl⟩
theorem build_yes {r m l : Ct} {name pat : Bs} (h : Trip r m l name pat) (now k1 k2 : Nat) (h1 : Meets Tryz.prog 20 [(false, [vD (ctD [r])]), (false, [vD (ctD [l])]), (false, [vS name]), (false, [vI now])] (rOne (vI k1)))
    (h2 : Meets Tryz.prog 20 [(false, [vD (ctD [r])]), (false, [vD (ctD [l, m])]), (false, [vS name]), (false, [vI now])] (rOne (vI k2))) (n1 : k1 ≠ 0) (n2 : k2 = 0) :
    Meets Tryz.prog 19 [(false, [vD (ctD [r])]), (false, [vD (ctD [m])]), (true, ctV l), (false, [vS name]), (false, [vI now])] (rOne (.own 1 56 [[ctD [l, m]]])) := by
  have c1 : ((k1 : Int) = 0) = False := by simp [n1]
  have c2 : ((k2 : Int) = 0) = True := by simp [n2]
  have hcc := cloneC_ok [l.cells, m.cells] (by simp)
  have hl := h.lm
  have hcp := cloneP_ok [[.pt m.cells]] (by simp)
  refine meets Tryz.func19 rfl rfl Tryz.ntmps19 Tryz.results19 rfl ?_
  simp -dsimp -implicitDefEqProofs only [go_sem, ↓reduceIte, reduceCtorEq, Nat.reduceLT, Nat.reduceLeDiff, Nat.reduceEqDiff, Nat.reduceAdd, Nat.reduceMul, Nat.reduceSub, Nat.reduceBEq, Int.reduceLT, Int.reduceLE, Int.reduceEq, Int.reduceBEq, Int.reduceNeg]
  refine vrounds 2 sitOk ?_
  simp -dsimp -implicitDefEqProofs only [go_sem, ↓reduceIte, reduceCtorEq, Nat.reduceLT, Nat.reduceLeDiff, Nat.reduceEqDiff, Nat.reduceAdd, Nat.reduceMul, Nat.reduceSub, Nat.reduceBEq, Int.reduceLT, Int.reduceLE, Int.reduceEq, Int.reduceBEq, Int.reduceNeg]
  refine vround ?_
  simp -dsimp -implicitDefEqProofs only [Ct.cells, i01, go_sem, ↓reduceIte, reduceCtorEq, Nat.reduceLT, Nat.reduceLeDiff, Nat.reduceEqDiff, Nat.reduceAdd, Nat.reduceMul, Nat.reduceSub, Nat.reduceBEq, Int.reduceLT, Int.reduceLE, Int.reduceEq, Int.reduceBEq, Int.reduceNeg]
  refine vround ?_
  simp -dsimp -implicitDefEqProofs only [go_sem, ↓reduceIte, reduceCtorEq, Nat.reduceLT, Nat.reduceLeDiff, Nat.reduceEqDiff, Nat.reduceAdd, Nat.reduceMul, Nat.reduceSub, Nat.reduceBEq, Int.reduceLT, Int.reduceLE, Int.reduceEq, Int.reduceBEq, Int.reduceNeg]
  refine callW rfl Tryz.func58 rfl rfl Tryz.ntmps58 Tryz.results58 rfl ?_
  simp -dsimp -implicitDefEqProofs only [retH, go_sem, ↓reduceIte, reduceCtorEq, Nat.reduceLT, Nat.reduceLeDiff, Nat.reduceEqDiff, Nat.reduceAdd, Nat.reduceMul, Nat.reduceSub, Nat.reduceBEq, Int.reduceLT, Int.reduceLE, Int.reduceEq, Int.reduceBEq, Int.reduceNeg]
  refine vrange sitOk rfl [] [(5, aP 0 0), (8, aP 16 0), (9, aP 24 0), (11, aP 40 0)] rfl rfl ?_ Tryz.func102 rfl rfl Tryz.ntmps102 Tryz.results102 rfl ?_
  · simp -dsimp -implicitDefEqProofs only [go_sem, ↓reduceIte, reduceCtorEq, Nat.reduceLT, Nat.reduceLeDiff, Nat.reduceEqDiff, Nat.reduceAdd, Nat.reduceMul, Nat.reduceSub, Nat.reduceBEq, Int.reduceLT, Int.reduceLE, Int.reduceEq, Int.reduceBEq, Int.reduceNeg]
  generalize hL : Lp.mk 47 _ _ _ _ _ = L
  simp -dsimp -implicitDefEqProofs only [go_sem, ↓reduceIte, reduceCtorEq, Nat.reduceLT, Nat.reduceLeDiff, Nat.reduceEqDiff, Nat.reduceAdd, Nat.reduceMul, Nat.reduceSub, Nat.reduceBEq, Int.reduceLT, Int.reduceLE, Int.reduceEq, Int.reduceBEq, Int.reduceNeg]
  refine yieldW sitOk ?_
  simp -dsimp -implicitDefEqProofs only [← hL, go_sem, ↓reduceIte, reduceCtorEq, Nat.reduceLT, Nat.reduceLeDiff, Nat.reduceEqDiff, Nat.reduceAdd, Nat.reduceMul, Nat.reduceSub, Nat.reduceBEq, Int.reduceLT, Int.reduceLE, Int.reduceEq, Int.reduceBEq, Int.reduceNeg]
  intro ro
  refine callP h1 ?_
  simp -dsimp -implicitDefEqProofs only [c1, ← hL, go_sem, ↓reduceIte, reduceCtorEq, Nat.reduceLT, Nat.reduceLeDiff, Nat.reduceEqDiff, Nat.reduceAdd, Nat.reduceMul, Nat.reduceSub, Nat.reduceBEq, Int.reduceLT, Int.reduceLE, Int.reduceEq, Int.reduceBEq, Int.reduceNeg]
  refine vfz sitOk 224 ?_
  simp -dsimp -implicitDefEqProofs only [go_sem, ↓reduceIte, reduceCtorEq, Nat.reduceLT, Nat.reduceLeDiff, Nat.reduceEqDiff, Nat.reduceAdd, Nat.reduceMul, Nat.reduceSub, Nat.reduceBEq, Int.reduceLT, Int.reduceLE, Int.reduceEq, Int.reduceBEq, Int.reduceNeg]
  refine vrounds 2 sitOk ?_
  simp -dsimp -implicitDefEqProofs only [go_sem, ↓reduceIte, reduceCtorEq, Nat.reduceLT, Nat.reduceLeDiff, Nat.reduceEqDiff, Nat.reduceAdd, Nat.reduceMul, Nat.reduceSub, Nat.reduceBEq, Int.reduceLT, Int.reduceLE, Int.reduceEq, Int.reduceBEq, Int.reduceNeg]
  refine vround ?_
  simp -dsimp -implicitDefEqProofs only [← hL, s11, Ct.cells, go_sem, ↓reduceIte, reduceCtorEq, Nat.reduceLT, Nat.reduceLeDiff, Nat.reduceEqDiff, Nat.reduceAdd, Nat.reduceMul, Nat.reduceSub, Nat.reduceBEq, Int.reduceLT, Int.reduceLE, Int.reduceEq, Int.reduceBEq, Int.reduceNeg]
  refine callP hl ?_
  simp -dsimp -implicitDefEqProofs only [go_sem, ↓reduceIte, reduceCtorEq, Nat.reduceLT, Nat.reduceLeDiff, Nat.reduceEqDiff, Nat.reduceAdd, Nat.reduceMul, Nat.reduceSub, Nat.reduceBEq, Int.reduceLT, Int.reduceLE, Int.reduceEq, Int.reduceBEq, Int.reduceNeg]
  refine ⟨drawn (by kernel_rfl), ?_⟩
  refine callP hcp ?_
  simp -dsimp -implicitDefEqProofs only [Ct.cells, go_sem, ↓reduceIte, reduceCtorEq, Nat.reduceLT, Nat.reduceLeDiff, Nat.reduceEqDiff, Nat.reduceAdd, Nat.reduceMul, Nat.reduceSub, Nat.reduceBEq, Int.reduceLT, Int.reduceLE, Int.reduceEq, Int.reduceBEq, Int.reduceNeg]
  refine callO (clip_mo [l.cells] (by simp)) rfl ?_
  simp -dsimp -implicitDefEqProofs only [Ct.cells, go_sem, ↓reduceIte, reduceCtorEq, Nat.reduceLT, Nat.reduceLeDiff, Nat.reduceEqDiff, Nat.reduceAdd, Nat.reduceMul, Nat.reduceSub, Nat.reduceBEq, Int.reduceLT, Int.reduceLE, Int.reduceEq, Int.reduceBEq, Int.reduceNeg]
  refine callWd (by kernel_rfl) (by kernel_rfl) Tryz.func58 rfl rfl Tryz.ntmps58 Tryz.results58 rfl ?_
  simp -dsimp -implicitDefEqProofs only [retH, go_sem, ↓reduceIte, reduceCtorEq, Nat.reduceLT, Nat.reduceLeDiff, Nat.reduceEqDiff, Nat.reduceAdd, Nat.reduceMul, Nat.reduceSub, Nat.reduceBEq, Int.reduceLT, Int.reduceLE, Int.reduceEq, Int.reduceBEq, Int.reduceNeg]
  refine ⟨drawn (by kernel_rfl), ?_⟩
  refine vrange sitOk rfl [] [(19, aI 0), (18, aI 1), (17, aO 168), (3, aP 312 0), (1, aP 240 0), (2, aP 232 0)] rfl rfl ?_ Tryz.func102 rfl rfl Tryz.ntmps102 Tryz.results102 rfl ?_
  · simp -dsimp -implicitDefEqProofs only [go_sem, ↓reduceIte, reduceCtorEq, Nat.reduceLT, Nat.reduceLeDiff, Nat.reduceEqDiff, Nat.reduceAdd, Nat.reduceMul, Nat.reduceSub, Nat.reduceBEq, Int.reduceLT, Int.reduceLE, Int.reduceEq, Int.reduceBEq, Int.reduceNeg]
  generalize hL2 : Lp.mk 59 _ _ _ _ _ = L2
  simp -dsimp -implicitDefEqProofs only [go_sem, ↓reduceIte, reduceCtorEq, Nat.reduceLT, Nat.reduceLeDiff, Nat.reduceEqDiff, Nat.reduceAdd, Nat.reduceMul, Nat.reduceSub, Nat.reduceBEq, Int.reduceLT, Int.reduceLE, Int.reduceEq, Int.reduceBEq, Int.reduceNeg]
  refine yieldW sitOk ?_
  simp -dsimp -implicitDefEqProofs only [← hL2, go_sem, ↓reduceIte, reduceCtorEq, Nat.reduceLT, Nat.reduceLeDiff, Nat.reduceEqDiff, Nat.reduceAdd, Nat.reduceMul, Nat.reduceSub, Nat.reduceBEq, Int.reduceLT, Int.reduceLE, Int.reduceEq, Int.reduceBEq, Int.reduceNeg]
  intro ro2
  refine yieldW sitOk ?_
  simp -dsimp -implicitDefEqProofs only [← hL, go_sem, ↓reduceIte, reduceCtorEq, Nat.reduceLT, Nat.reduceLeDiff, Nat.reduceEqDiff, Nat.reduceAdd, Nat.reduceMul, Nat.reduceSub, Nat.reduceBEq, Int.reduceLT, Int.reduceLE, Int.reduceEq, Int.reduceBEq, Int.reduceNeg]
  intro ro3
  refine callP h2 ?_
  simp -dsimp -implicitDefEqProofs only [c2, ← hL, ← hL2, Ct.cells, go_sem, ↓reduceIte, reduceCtorEq, Nat.reduceLT, Nat.reduceLeDiff, Nat.reduceEqDiff, Nat.reduceAdd, Nat.reduceMul, Nat.reduceSub, Nat.reduceBEq, Int.reduceLT, Int.reduceLE, Int.reduceEq, Int.reduceBEq, Int.reduceNeg]
  refine callP hcc ?_
  simp -dsimp -implicitDefEqProofs only [← hL, ← hL2, go_sem, ↓reduceIte, reduceCtorEq, Nat.reduceLT, Nat.reduceLeDiff, Nat.reduceEqDiff, Nat.reduceAdd, Nat.reduceMul, Nat.reduceSub, Nat.reduceBEq, Int.reduceLT, Int.reduceLE, Int.reduceEq, Int.reduceBEq, Int.reduceNeg]
  refine ⟨drawn (by kernel_rfl), ?_⟩
  refine vrounds 2 sitOk ?_
  simp -dsimp -implicitDefEqProofs only [go_sem, ↓reduceIte, reduceCtorEq, Nat.reduceLT, Nat.reduceLeDiff, Nat.reduceEqDiff, Nat.reduceAdd, Nat.reduceMul, Nat.reduceSub, Nat.reduceBEq, Int.reduceLT, Int.reduceLE, Int.reduceEq, Int.reduceBEq, Int.reduceNeg]
  refine vround ?_
  simp -dsimp -implicitDefEqProofs only [i01, go_sem, ↓reduceIte, reduceCtorEq, Nat.reduceLT, Nat.reduceLeDiff, Nat.reduceEqDiff, Nat.reduceAdd, Nat.reduceMul, Nat.reduceSub, Nat.reduceBEq, Int.reduceLT, Int.reduceLE, Int.reduceEq, Int.reduceBEq, Int.reduceNeg]
  refine ⟨drawn (by kernel_rfl), ?_⟩
  refine vround ?_
  simp -dsimp -implicitDefEqProofs only [i01, retH, ← hL, ← hL2, go_sem, ↓reduceIte, reduceCtorEq, Nat.reduceLT, Nat.reduceLeDiff, Nat.reduceEqDiff, Nat.reduceAdd, Nat.reduceMul, Nat.reduceSub, Nat.reduceBEq, Int.reduceLT, Int.reduceLE, Int.reduceEq, Int.reduceBEq, Int.reduceNeg]
  refine vround ?_
  simp -dsimp -implicitDefEqProofs only [retH, ← hL, ← hL2, go_sem, ↓reduceIte, reduceCtorEq, Nat.reduceLT, Nat.reduceLeDiff, Nat.reduceEqDiff, Nat.reduceAdd, Nat.reduceMul, Nat.reduceSub, Nat.reduceBEq, Int.reduceLT, Int.reduceLE, Int.reduceEq, Int.reduceBEq, Int.reduceNeg]
  exact ⟨_, rfl⟩
end Go.Proofs.YtijfncaphfaijaaGreatDoor
