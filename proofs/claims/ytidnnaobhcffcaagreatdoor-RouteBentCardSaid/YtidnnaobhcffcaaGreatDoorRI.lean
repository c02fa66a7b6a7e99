
/- Plain laws: what a bend that is made, or mended, makes of what is seen. Plain laws: what a zone that is put makes of what is seen. RouteBends: the law's contract. RouteSees: the law's contract. RouteMends: the law's contract. -/
import Derived.Test.YtidnnaobhcffcaaGreatDoorRH
namespace Go.Proofs.YtidnnaobhcffcaaGreatDoor
open Go.Eng
set_option linter.unusedSimpArgs false
set_option maxRecDepth 10000

theorem chk_iff {n : Nt} : chkN n = 0 ↔ 0 ≤ n.N ∧ n.N ≤ 8 ∧ svsOk n = true ∧ bnsOk n = true ∧ cksOk n = true ∧ manyB n = false := by
  constructor
  · exact chk_parts
  · rintro ⟨h1, h2, h3, h4, h5, h6⟩
    unfold chkN seenB
    rw [decide_eq_true h1, decide_eq_true h2, h3, h4, h5, h6]
    rfl
theorem svs_parts {n : Nt} (h : svsOk n = true) : (∀ s ∈ n.V, svB s = true) ∧ Ris koI kS n.V := rises_iff.1 h
/-- Another list of bends. -/
abbrev Nt.bs (n : Nt) (B : List Bn) : Nt := { n with B := B }
theorem bs_chk {n : Nt} (h : chkN n = 0) {B : List Bn} (hB : ∀ b ∈ B, bendB n b = true) (hr : Ris koP kB B) : chkN (n.bs B) = 0 := by
  obtain ⟨h1, h2, h3, _, h5, h6⟩ := chk_iff.1 h
  exact chk_iff.2 ⟨h1, h2, h3, rises_iff.2 ⟨hB, hr⟩, h5, h6⟩
theorem bend_ok0 {n : Nt} {b : Bn} (h : nbendE n b = 0) : chkN n = 0 ∧ bendOk n b = true ∧ (svF n b.F).isSome = true ∧ (svF n b.T).isSome = true ∧ nbendN n b = n.bs (withK koP kB n.B b) := by
  have h' := h
  unfold nbendE at h
  split at h
  · rename_i h0
    split at h
    · rename_i h1
      split at h
      · rename_i h2
        rw [Bool.and_eq_true] at h2
        exact ⟨h0, h1, h2.1, h2.2, by unfold nbendN; rw [if_pos h']⟩
      · cases h
    · cases h
  · rename_i h0; exact absurd h h0
theorem bendOk_B {n : Nt} {b : Bn} (h1 : bendOk n b = true) (h2 : (svF n b.F).isSome = true) (h3 : (svF n b.T).isSome = true) : bendB n b = true := by
  unfold bendOk at h1
  simp only [Bool.and_eq_true, decide_eq_true_eq, Bool.not_eq_true', decide_eq_false_iff_not] at h1
  unfold bendB
  simp only [Bool.and_eq_true, decide_eq_true_eq, Bool.not_eq_true', decide_eq_false_iff_not]
  exact ⟨⟨⟨⟨h1.1.1.1.1, h1.1.1.1.2⟩, h2⟩, h3⟩, h1.2⟩
theorem bend_chk {n : Nt} {b : Bn} (h : nbendE n b = 0) : chkN (nbendN n b) = 0 := by
  obtain ⟨h0, h1, h2, h3, e⟩ := bend_ok0 h
  obtain ⟨_, _, _, hb, _, _⟩ := chk_iff.1 h0
  obtain ⟨hb1, hb2⟩ := bns_parts hb
  rw [e]
  refine bs_chk h0 (fun x hx => ?_) (with_ris hb2 b)
  rcases (mem_with hb2).1 hx with rfl | ⟨hx, _⟩
  · exact bendOk_B h1 h2 h3
  · exact hb1 x hx
/-- Made again it is as it was. -/
theorem bend_again {n : Nt} {b : Bn} (h : nbendE n b = 0) : nbendE (nbendN n b) b = 0 ∧ nbendN (nbendN n b) b = nbendN n b := by
  have hc := bend_chk h
  obtain ⟨h0, h1, h2, h3, e⟩ := bend_ok0 h
  obtain ⟨_, _, _, hb, _, _⟩ := chk_iff.1 h0
  obtain ⟨hb1, hb2⟩ := bns_parts hb
  have hE : nbendE (nbendN n b) b = 0 := by
    unfold nbendE
    rw [if_pos hc, e, show bendOk (n.bs (withK koP kB n.B b)) b = bendOk n b from rfl, if_pos h1,
      show svF (n.bs (withK koP kB n.B b)) b.F = svF n b.F from rfl, show svF (n.bs (withK koP kB n.B b)) b.T = svF n b.T from rfl, h2, h3]
    rfl
  refine ⟨hE, ?_⟩
  rw [(bend_ok0 hE).2.2.2.2, e]
  show (⟨n.V, n.N, withK koP kB (withK koP kB n.B b) b, n.C⟩ : Nt) = ⟨n.V, n.N, withK koP kB n.B b, n.C⟩
  rw [with_over hb2 rfl]
theorem no_bend {n : Nt} (h : chkN n = 0) {seen addr : Int} (hs : seen < 0 ∨ n.N ≤ seen) (t : Int) : bnF n ⟨seen, addr, t⟩ = none := by
  obtain ⟨_, _, _, hb, _, _⟩ := chk_iff.1 h
  obtain ⟨hb1, hb2⟩ := bns_parts hb
  refine find_none.2 fun x hx e => ?_
  have h1 := hb1 x hx
  unfold bendB at h1
  simp only [Bool.and_eq_true, decide_eq_true_eq] at h1
  have h2 : x.S = seen := congrArg Prod.fst e
  omega
theorem srvB_iff {n : Nt} {seen addr : Int} : srvB n seen addr = true ↔ (svF n addr).isSome = true ∧ -1 ≤ seen ∧ seen < n.N ∧ chkN n = 0 := by
  unfold srvB
  simp only [Bool.and_eq_true, decide_eq_true_eq, beq_iff_eq, and_assoc]
theorem srvS_yes {n : Nt} {seen addr : Int} (h : srvB n seen addr = true) : srvS n seen addr = ⟨addr, srvZ n seen addr⟩ := by unfold srvS; rw [if_pos h]
theorem srvS_no {n : Nt} {seen addr : Int} (h : srvB n seen addr = false) : srvS n seen addr = noV := by unfold srvS; rw [if_neg (by simp [h])]
/-- What a bend shows from its own vantage point. -/
theorem bend_seen {n : Nt} {b : Bn} (h : nbendE n b = 0) : srvB (nbendN n b) b.S b.F = true ∧ srvB n (-1) b.T = true ∧ (srvS (nbendN n b) b.S b.F).A = b.F ∧ (srvS (nbendN n b) b.S b.F).Z = (srvS n (-1) b.T).Z := by
  have hc := bend_chk h
  obtain ⟨h0, h1, h2, h3, e⟩ := bend_ok0 h
  obtain ⟨hN, _, _, hb, _, _⟩ := chk_iff.1 h0
  obtain ⟨hb1, hb2⟩ := bns_parts hb
  have hbb := bendOk_B h1 h2 h3
  unfold bendB at hbb
  simp only [Bool.and_eq_true, decide_eq_true_eq] at hbb
  have s1 : srvB (nbendN n b) b.S b.F = true := srvB_iff.2 ⟨by rw [e]; exact h2, by omega, by rw [e]; exact hbb.1.1.1.2, hc⟩
  have s2 : srvB n (-1) b.T = true := srvB_iff.2 ⟨h3, by omega, by omega, h0⟩
  refine ⟨s1, s2, by rw [srvS_yes s1], ?_⟩
  rw [srvS_yes s1, srvS_yes s2]
  show srvZ (nbendN n b) b.S b.F = srvZ n (-1) b.T
  have f1 : bnF (nbendN n b) ⟨b.S, b.F, 0⟩ = some b := by rw [e]; exact find_with hb2 b
  have f2 : bnF n ⟨-1, b.T, 0⟩ = none := no_bend h0 (.inl (by omega)) 0
  unfold srvZ bnG
  rw [f1, f2, e]
  rfl
/-- From everywhere else, and of all other servers, the same is seen. -/
theorem bend_other {n : Nt} {b : Bn} (h : nbendE n b = 0) {seen addr : Int} (hne : ¬ (seen = b.S ∧ addr = b.F)) : srvB (nbendN n b) seen addr = srvB n seen addr ∧ srvS (nbendN n b) seen addr = srvS n seen addr := by
  have hc := bend_chk h
  obtain ⟨h0, h1, h2, h3, e⟩ := bend_ok0 h
  obtain ⟨_, _, _, hb, _, _⟩ := chk_iff.1 h0
  obtain ⟨hb1, hb2⟩ := bns_parts hb
  have f1 : bnF (nbendN n b) ⟨seen, addr, 0⟩ = bnF n ⟨seen, addr, 0⟩ := by
    rw [e]
    exact find_other hb2 b (fun e => hne ⟨congrArg Prod.fst e, congrArg Prod.snd e⟩)
  have g1 : srvB (nbendN n b) seen addr = srvB n seen addr := by
    unfold srvB
    rw [hc, h0, e]
  have g2 : srvZ (nbendN n b) seen addr = srvZ n seen addr := by
    unfold srvZ bnG
    rw [f1, e]
    rfl
  refine ⟨g1, ?_⟩
  unfold srvS
  rw [g1, g2]
theorem drop_chk {n : Nt} (h : chkN n = 0) (k : Int × Int) : chkN (n.bs (dropK koP kB n.B k)) = 0 := by
  obtain ⟨_, _, _, hb, _, _⟩ := chk_iff.1 h
  obtain ⟨hb1, hb2⟩ := bns_parts hb
  exact bs_chk h (fun x hx => hb1 x (mem_dropK.1 hx).1) (dropK_ris hb2 k)
theorem mend_ok0 {n : Nt} {b : Bn} (h0 : chkN n = 0) : (∃ c, bnF n b = some c ∧ nmendE n b = 0 ∧ nmendN n b = n.bs (dropK koP kB n.B (kB b))) ∨ (bnF n b = none ∧ nmendE n b = 131 ∧ nmendN n b = noN) := by
  cases hf : bnF n b with
  | some c =>
    have : nmendE n b = 0 := by unfold nmendE; rw [if_pos h0, hf]; rfl
    exact .inl ⟨c, rfl, this, by unfold nmendN; rw [if_pos this]⟩
  | none =>
    have : nmendE n b = 131 := by unfold nmendE; rw [if_pos h0, hf]; rfl
    exact .inr ⟨rfl, this, by unfold nmendN; rw [this]; rfl⟩
/-- Mended it is gone; where there was none, the net is as it was. -/
theorem bend_mend {n : Nt} {b : Bn} (h : nbendE n b = 0) {c : Bn} (hk : kB c = kB b) : nmendE (nbendN n b) c = 0 ∧ nmendE (nmendN (nbendN n b) c) b = 131 ∧ (nmendE n b = 0 ∨ (nmendE n b = 131 ∧ nmendN (nbendN n b) c = n)) := by
  have hc := bend_chk h
  obtain ⟨h0, h1, h2, h3, e⟩ := bend_ok0 h
  obtain ⟨_, _, _, hb, _, _⟩ := chk_iff.1 h0
  obtain ⟨hb1, hb2⟩ := bns_parts hb
  have f1 : bnF (nbendN n b) c = some b := by rw [e]; show findK koP kB (withK koP kB n.B b) (kB c) = some b; rw [hk]; exact find_with hb2 b
  rcases mend_ok0 (b := c) hc with ⟨_, _, m1, m2⟩ | ⟨f2, _⟩
  · refine ⟨m1, ?_, ?_⟩
    · have hx := drop_chk hc (kB c)
      rw [← m2] at hx
      rcases mend_ok0 (b := b) hx with ⟨d, f3, _, _⟩ | ⟨_, q, _⟩
      · exfalso
        rw [m2] at f3
        obtain ⟨d1, d2⟩ := find_some f3
        exact (mem_dropK.1 d1).2 (d2.trans hk.symm)
      · exact q
    · rcases mend_ok0 (b := b) h0 with ⟨d, _, q, _⟩ | ⟨f3, q, _⟩
      · exact .inl q
      · refine .inr ⟨q, ?_⟩
        rw [m2, e, hk]
        show (⟨n.V, n.N, dropK koP kB (withK koP kB n.B b) (kB b), n.C⟩ : Nt) = n
        rw [dropK_with hb2 f3]
  · rw [f1] at f2; cases f2
theorem bend_len {n : Nt} {b : Bn} (h : nbendE n b = 0) {c : Bn} (hk : kB c = kB b) (hi : nbendE (nbendN n b) c = 0) : (nbendN (nbendN n b) c).B.length = (nbendN n b).B.length := by
  obtain ⟨h0, h1, h2, h3, e⟩ := bend_ok0 h
  obtain ⟨_, _, _, hb, _, _⟩ := chk_iff.1 h0
  obtain ⟨hb1, hb2⟩ := bns_parts hb
  have hr := with_ris hb2 b
  rw [(bend_ok0 hi).2.2.2.2, e]
  show (withK koP kB (withK koP kB n.B b) c).length = (withK koP kB n.B b).length
  rw [with_length hr, hit_find hr, hk, find_with hb2 b]
  simp
/-- Sizes. -/
theorem bend_sz {n : Nt} (hz : Sz n) (hb : n.B.length ≤ 900) (b : Bn) : Sz (nbendN n b) := by
  unfold nbendN
  split
  · have := withK_len (o := koP) (key := kB) n.B b
    exact ⟨hz.v, by show (withK koP kB n.B b).length ≤ 1000; omega, hz.c, hz.z, hz.r, hz.k, hz.w⟩
  · exact ⟨by simp [noN], by simp [noN], by simp [noN], by simp [noN], by simp [noN], by simp [noN], by simp [noN]⟩
theorem mend_sz {n : Nt} (hz : Sz n) (b : Bn) : Sz (nmendN n b) := by
  unfold nmendN
  split
  · have := List.length_filter_le (fun x => !(koP.cmp (kB x) (kB b) == 0)) n.B
    exact ⟨hz.v, by show (dropK koP kB n.B (kB b)).length ≤ 1000; unfold dropK; have := hz.b; omega, hz.c, hz.z, hz.r, hz.k, hz.w⟩
  · exact ⟨by simp [noN], by simp [noN], by simp [noN], by simp [noN], by simp [noN], by simp [noN], by simp [noN]⟩
theorem bend_bad {n : Nt} {b : Bn} (h : nbendE n b ≠ 0) : nbendN n b = noN := by unfold nbendN; rw [if_neg h]
theorem bend_lenB {n : Nt} {b : Bn} : (nbendN n b).B.length ≤ n.B.length + 1 := by
  unfold nbendN
  split
  · exact withK_len _ _
  · simp [noN]
theorem srvS_len {n : Nt} (hz : Sz n) (seen addr : Int) : (srvS n seen addr).Z.length ≤ 1000 ∧ ∀ z ∈ (srvS n seen addr).Z, z.R.length ≤ 1000 := by
  unfold srvS
  split
  · unfold srvZ
    split
    · exact svG_len hz _
    · exact svG_len hz _
  · simp [noV]
end Go.Proofs.YtidnnaobhcffcaaGreatDoor
namespace Go.Proofs.YtidnnaobhcffcaaGreatDoor
open Go.Eng
set_option linter.unusedSimpArgs false
set_option maxRecDepth 10000

/-- Other servers. -/
abbrev Nt.vs (n : Nt) (V : List Sv) : Nt := { n with V := V }
theorem put_ok0 {n : Nt} {a : Int} {z : Zn} (h : nputE n a z = 0) : chkN n = 0 ∧ addrB a = true ∧ checkV z.A z.R = 0 ∧ (newSv n a z).Z.length ≤ 8 ∧ nputN n a z = n.vs (withK koI kS n.V (newSv n a z)) := by
  have h' := h
  unfold nputE at h
  split at h
  · rename_i h0
    split at h
    · rename_i h1
      split at h
      · rename_i h2
        split at h
        · cases h
        · exact ⟨h0, h1, h2, by omega, by unfold nputN; rw [if_pos h']⟩
      · rename_i h2; exact absurd h h2
    · cases h
  · rename_i h0; exact absurd h h0
theorem put_bad {n : Nt} {a : Int} {z : Zn} (h : nputE n a z ≠ 0) : nputN n a z = noN := by unfold nputN; rw [if_neg h]
theorem zs_ris {n : Nt} (h : chkN n = 0) (a : Int) : Ris koS kZ (svG n a).Z ∧ (∀ z ∈ (svG n a).Z, zoneB z = true) ∧ (svG n a).Z.length ≤ 8 := by
  obtain ⟨_, _, hv, _, _, hm⟩ := chk_iff.1 h
  obtain ⟨hv1, hv2⟩ := svs_parts hv
  unfold svG
  cases hf : svF n a with
  | none => exact ⟨ris_nil, by simp [noV], by simp [noV]⟩
  | some s =>
    have hs := (find_some hf).1
    have h1 := hv1 s hs
    unfold svB at h1
    rw [Bool.and_eq_true] at h1
    obtain ⟨h2, h3⟩ := rises_iff.1 h1.2
    refine ⟨h3, h2, ?_⟩
    unfold manyB at hm
    rw [Bool.or_eq_false_iff] at hm
    have h4 := List.any_eq_false.1 hm.2 s hs
    unfold bigZ at h4
    simpa using h4
theorem put_chk {n : Nt} {a : Int} {z : Zn} (h : nputE n a z = 0) : chkN (nputN n a z) = 0 := by
  obtain ⟨h0, h1, h2, h3, e⟩ := put_ok0 h
  obtain ⟨c1, c2, c3, c4, c5, c6⟩ := chk_iff.1 h0
  obtain ⟨v1, v2⟩ := svs_parts c3
  obtain ⟨b1, b2⟩ := bns_parts c4
  obtain ⟨z1, z2, _⟩ := zs_ris h0 a
  have hm : ∀ s ∈ withK koI kS n.V (newSv n a z), s = newSv n a z ∨ s ∈ n.V := fun s hs => by
    rcases (mem_with v2).1 hs with h4 | ⟨h4, _⟩
    · exact .inl h4
    · exact .inr h4
  have hfind : ∀ x : Int, (svF n x).isSome = true → (svF (nputN n a z) x).isSome = true := fun x hx => by
    rw [e]
    by_cases hxa : x = a
    · subst hxa
      show (findK koI kS (withK koI kS n.V (newSv n x z)) x).isSome = true
      have : findK koI kS (withK koI kS n.V (newSv n x z)) (kS (newSv n x z)) = some (newSv n x z) := find_with v2 _
      exact Option.isSome_iff_exists.2 ⟨_, this⟩
    · show (findK koI kS (withK koI kS n.V (newSv n a z)) x).isSome = true
      rw [find_other v2 _ (show x ≠ kS (newSv n a z) from hxa)]
      exact hx
  refine chk_iff.2 ⟨by rw [e]; exact c1, by rw [e]; exact c2, ?_, ?_, by rw [e]; exact c5, ?_⟩
  · rw [e]
    refine rises_iff.2 ⟨fun s hs => ?_, with_ris v2 _⟩
    rcases hm s hs with rfl | hs
    · unfold svB
      rw [Bool.and_eq_true]
      refine ⟨h1, rises_iff.2 ⟨fun y hy => ?_, with_ris z1 z⟩⟩
      rcases (mem_with z1).1 hy with rfl | ⟨hy, _⟩
      · unfold zoneB; rw [h2]; rfl
      · exact z2 y hy
    · exact v1 s hs
  · have hB : (nputN n a z).B = n.B := by rw [e]
    unfold bnsOk
    rw [hB]
    refine rises_iff.2 ⟨fun x hx => ?_, b2⟩
    have h5 := b1 x hx
    unfold bendB at h5 ⊢
    simp only [Bool.and_eq_true, decide_eq_true_eq] at h5 ⊢
    exact ⟨⟨⟨⟨h5.1.1.1.1, by rw [e]; exact h5.1.1.1.2⟩, hfind _ h5.1.1.2⟩, hfind _ h5.1.2⟩, h5.2⟩
  · unfold manyB at c6 ⊢
    rw [Bool.or_eq_false_iff] at c6 ⊢
    rw [e]
    refine ⟨c6.1, List.any_eq_false.2 fun s hs => ?_⟩
    rcases hm s hs with rfl | hs
    · unfold bigZ; simp; omega
    · exact List.any_eq_false.1 c6.2 s hs
theorem put_svF {n : Nt} {a : Int} {z : Zn} (h : nputE n a z = 0) : svF (nputN n a z) a = some (newSv n a z) := by
  obtain ⟨h0, _, _, _, e⟩ := put_ok0 h
  obtain ⟨_, _, c3, _, _, _⟩ := chk_iff.1 h0
  rw [e]
  exact find_with (svs_parts c3).2 (newSv n a z)
theorem put_svF_other {n : Nt} {a : Int} {z : Zn} (h : nputE n a z = 0) {x : Int} (hx : x ≠ a) : svF (nputN n a z) x = svF n x := by
  obtain ⟨h0, _, _, _, e⟩ := put_ok0 h
  obtain ⟨_, _, c3, _, _, _⟩ := chk_iff.1 h0
  rw [e]
  exact find_other (svs_parts c3).2 (newSv n a z) hx
theorem put_again {n : Nt} {a : Int} {z : Zn} (h : nputE n a z = 0) : nputE (nputN n a z) a z = 0 ∧ nputN (nputN n a z) a z = nputN n a z := by
  have hc := put_chk h
  have hf := put_svF h
  obtain ⟨h0, h1, h2, h3, e⟩ := put_ok0 h
  obtain ⟨_, _, c3, _, _, _⟩ := chk_iff.1 h0
  obtain ⟨z1, _, _⟩ := zs_ris h0 a
  have hn : newSv (nputN n a z) a z = newSv n a z := by
    have : (svG (nputN n a z) a).Z = withK koS kZ (svG n a).Z z := by unfold svG; rw [hf]; rfl
    unfold newSv
    rw [this, with_over z1 rfl]
  have hE : nputE (nputN n a z) a z = 0 := by
    unfold nputE
    rw [if_pos hc, if_pos h1, if_pos h2, hn, if_neg (by omega)]
  refine ⟨hE, ?_⟩
  rw [(put_ok0 hE).2.2.2.2, hn, e]
  show (⟨withK koI kS (withK koI kS n.V (newSv n a z)) (newSv n a z), n.N, n.B, n.C⟩ : Nt) = ⟨withK koI kS n.V (newSv n a z), n.N, n.B, n.C⟩
  rw [with_over (svs_parts c3).2 rfl]
/-- What nobody redirected sees. -/
theorem straight {n : Nt} (h : chkN n = 0) (a : Int) : srvB n (-1) a = (svF n a).isSome ∧ srvS n (-1) a = if (svF n a).isSome then ⟨a, (svG n a).Z⟩ else noV := by
  obtain ⟨hN, _⟩ := chk_iff.1 h
  have hb : srvB n (-1) a = (svF n a).isSome := by
    unfold srvB
    rw [h, decide_eq_true (by omega : (-1 : Int) ≤ -1), decide_eq_true (by omega : (-1 : Int) < n.N)]
    simp
  refine ⟨hb, ?_⟩
  unfold srvS srvZ
  rw [hb, no_bend h (.inl (by omega)) 0]
  rfl
theorem put_seen {n : Nt} {a : Int} {z : Zn} (h : nputE n a z = 0) : srvB (nputN n a z) (-1) a = true ∧ srvS (nputN n a z) (-1) a = newSv n a z := by
  obtain ⟨h1, h2⟩ := straight (put_chk h) a
  have hf := put_svF h
  rw [h1, h2]
  unfold svG
  rw [hf]
  exact ⟨rfl, rfl⟩
theorem put_other {n : Nt} {a : Int} {z : Zn} (h : nputE n a z = 0) {x : Int} (hx : x ≠ a) : srvB (nputN n a z) (-1) x = srvB n (-1) x ∧ srvS (nputN n a z) (-1) x = srvS n (-1) x := by
  obtain ⟨h1, h2⟩ := straight (put_chk h) x
  obtain ⟨h3, h4⟩ := straight (put_ok0 h).1 x
  have hf := put_svF_other h hx
  rw [h1, h2, h3, h4]
  unfold svG
  rw [hf]
  exact ⟨rfl, rfl⟩
theorem put_sz {n : Nt} (hz : Sz n) (hv : n.V.length ≤ 900) (_hs : ∀ s ∈ n.V, s.Z.length ≤ 900) (a : Int) {z : Zn} (hr : z.R.length ≤ 1000) : Sz (nputN n a z) := by
  by_cases he : nputE n a z = 0
  · obtain ⟨h0, _, _, h3, e⟩ := put_ok0 he
    obtain ⟨_, _, c3, _, _, _⟩ := chk_iff.1 h0
    obtain ⟨z1, _, _⟩ := zs_ris h0 a
    have hm := fun s (hs : s ∈ withK koI kS n.V (newSv n a z)) => (mem_with (svs_parts c3).2).1 hs
    have hl := withK_len (o := koI) (key := kS) n.V (newSv n a z)
    rw [e]
    refine ⟨by show (withK koI kS n.V (newSv n a z)).length ≤ 1000; omega, hz.b, hz.c, fun s hs => ?_, fun s hs y hy => ?_, hz.k, hz.w⟩
    · rcases hm s hs with rfl | ⟨hs, _⟩
      · omega
      · exact hz.z s hs
    · rcases hm s hs with rfl | ⟨hs, _⟩
      · rcases (mem_with z1).1 hy with rfl | ⟨hy, _⟩
        · exact hr
        · exact (svG_len hz a).2 y hy
      · exact hz.r s hs y hy
  · rw [put_bad he]
    exact ⟨by simp [noN], by simp [noN], by simp [noN], by simp [noN], by simp [noN], by simp [noN], by simp [noN]⟩
/-- How many of some zones have an Apex. -/
def metN (l : List Zn) (k : Bs) : Nat := (l.filter fun x => decide (x.A = k)).length
theorem met_with {l : List Zn} (hr : Ris koS kZ l) (z : Zn) : metN (withK koS kZ l z) z.A = 1 := by
  have hw := with_ris hr z
  have hz : z ∈ withK koS kZ l z := (mem_with hr).2 (.inl rfl)
  have hall : ∀ x ∈ (withK koS kZ l z).filter (fun x => decide (x.A = z.A)), x = z := fun x hx => by
    rw [List.mem_filter] at hx
    exact ris_key hw hx.1 hz (by simpa using hx.2)
  have hpw : ((withK koS kZ l z).filter (fun x => decide (x.A = z.A))).Pairwise (fun a b => koS.cmp (kZ a) (kZ b) < 0) := List.Pairwise.filter _ hw
  unfold metN
  match hm : (withK koS kZ l z).filter (fun x => decide (x.A = z.A)) with
  | [] =>
    have : z ∈ (withK koS kZ l z).filter (fun x => decide (x.A = z.A)) := List.mem_filter.2 ⟨hz, by simp⟩
    rw [hm] at this; cases this
  | [x] => rw [hm]; rfl
  | x :: y :: r =>
    rw [hm] at hall hpw
    have e1 := hall x (by simp)
    have e2 := hall y (by simp)
    have := (List.pairwise_cons.1 hpw).1 y (by simp)
    rw [e1, e2] at this
    exact absurd this (fun h => koS.irr h)
end Go.Proofs.YtidnnaobhcffcaaGreatDoor
namespace Go.Proofs.YtidnnaobhcffcaaGreatDoor
open Go.Eng
set_option linter.unusedSimpArgs false
set_option maxRecDepth 10000

theorem rbends13_ok (n : Nt) (b : Bn) (seen addr : Int) (hk : ∀ c ∈ n.C, -9223372036854775808 ≤ c.B ∧ c.B ≤ 9223372036854775807) (hw : ∀ c ∈ n.C, c.W.length ≤ 9223372036854775807) :
    Meets Tryz.prog 6 [n.arg, b.arg, (false, [vI seen]), (false, [vI addr])] (rOne (vB true)) := by
  refine meets Tryz.func6 rfl rfl Tryz.ntmps6 Tryz.results6 rfl ?_
  simp -dsimp -implicitDefEqProofs only [go_sem, ↓reduceIte, reduceCtorEq, Nat.reduceLT, Nat.reduceLeDiff, Nat.reduceEqDiff, Nat.reduceAdd, Nat.reduceMul, Nat.reduceSub, Nat.reduceBEq, Int.reduceLT, Int.reduceLE, Int.reduceEq, Int.reduceBEq, Int.reduceNeg]
  refine callP live13_ok ?_
  simp -dsimp -implicitDefEqProofs only [go_sem, ↓reduceIte, reduceCtorEq, Nat.reduceLT, Nat.reduceLeDiff, Nat.reduceEqDiff, Nat.reduceAdd, Nat.reduceMul, Nat.reduceSub, Nat.reduceBEq, Int.reduceLT, Int.reduceLE, Int.reduceEq, Int.reduceBEq, Int.reduceNeg]
  refine callP (rfewN_ok n) ?_
  simp -dsimp -implicitDefEqProofs only [go_sem, ↓reduceIte, reduceCtorEq, Nat.reduceLT, Nat.reduceLeDiff, Nat.reduceEqDiff, Nat.reduceAdd, Nat.reduceMul, Nat.reduceSub, Nat.reduceBEq, Int.reduceLT, Int.reduceLE, Int.reduceEq, Int.reduceBEq, Int.reduceNeg]
  intro hf
  have hz := sz_of hf hk hw
  have hfz := few_sz hf
  refine callP (nbend_ok n hz b) ?_
  by_cases he : nbendE n b = 0
  · have hzm := bend_sz hz (by have := hfz.2.1; omega) b
    obtain ⟨s1, s2, s3, s4⟩ := bend_seen he
    have l1 := srvS_len hzm b.S b.F
    simp -dsimp -implicitDefEqProofs only [he, go_sem, ↓reduceIte, reduceCtorEq, Nat.reduceLT, Nat.reduceLeDiff, Nat.reduceEqDiff, Nat.reduceAdd, Nat.reduceMul, Nat.reduceSub, Nat.reduceBEq, Int.reduceLT, Int.reduceLE, Int.reduceEq, Int.reduceBEq, Int.reduceNeg]
    refine callP (srv_ok _ hzm b.S b.F) ?_
    simp -dsimp -implicitDefEqProofs only [go_sem, ↓reduceIte, reduceCtorEq, Nat.reduceLT, Nat.reduceLeDiff, Nat.reduceEqDiff, Nat.reduceAdd, Nat.reduceMul, Nat.reduceSub, Nat.reduceBEq, Int.reduceLT, Int.reduceLE, Int.reduceEq, Int.reduceBEq, Int.reduceNeg]
    refine callP (srv_ok n hz (-1) b.T) ?_
    simp -dsimp -implicitDefEqProofs only [s1, s2, s3, go_sem, ↓reduceIte, reduceCtorEq, Nat.reduceLT, Nat.reduceLeDiff, Nat.reduceEqDiff, Nat.reduceAdd, Nat.reduceMul, Nat.reduceSub, Nat.reduceBEq, Int.reduceLT, Int.reduceLE, Int.reduceEq, Int.reduceBEq, Int.reduceNeg]
    refine callP (samez_ok _ (srvS n (-1) b.T).Z l1.1 l1.2) ?_
    simp -dsimp -implicitDefEqProofs only [s4, decide_true, go_sem, ↓reduceIte, reduceCtorEq, Nat.reduceLT, Nat.reduceLeDiff, Nat.reduceEqDiff, Nat.reduceAdd, Nat.reduceMul, Nat.reduceSub, Nat.reduceBEq, Int.reduceLT, Int.reduceLE, Int.reduceEq, Int.reduceBEq, Int.reduceNeg]
    repeat' (first | with_reducible apply And.intro | with_reducible intro _ | with_reducible exact drawn (by kernel_rfl) | (refine callP (srv_ok _ hzm seen addr) ?_; simp -dsimp -implicitDefEqProofs only [go_sem, ↓reduceIte, reduceCtorEq, Nat.reduceLT, Nat.reduceLeDiff, Nat.reduceEqDiff, Nat.reduceAdd, Nat.reduceMul, Nat.reduceSub, Nat.reduceBEq, Int.reduceLT, Int.reduceLE, Int.reduceEq, Int.reduceBEq, Int.reduceNeg]) | (refine callP (srv_ok n hz seen addr) ?_; simp -dsimp -implicitDefEqProofs only [go_sem, ↓reduceIte, reduceCtorEq, Nat.reduceLT, Nat.reduceLeDiff, Nat.reduceEqDiff, Nat.reduceAdd, Nat.reduceMul, Nat.reduceSub, Nat.reduceBEq, Int.reduceLT, Int.reduceLE, Int.reduceEq, Int.reduceBEq, Int.reduceNeg]) | omega)
    all_goals
      have ho := bend_other he (seen := seen) (addr := addr) fun h => by
        first
          | exact absurd h.1 (by assumption)
          | exact absurd h.2 (by assumption)
      first
        | (refine absurd ho.1 ?_
           assumption)
        | (refine absurd (congrArg Sv.A ho.2) ?_
           assumption)
        | (refine callP (samez_ok _ (srvS n seen addr).Z (srvS_len hzm seen addr).1 (srvS_len hzm seen addr).2) ?_
           simp -dsimp -implicitDefEqProofs only [ho.2, decide_true, go_sem, ↓reduceIte, reduceCtorEq, Nat.reduceLT, Nat.reduceLeDiff, Nat.reduceEqDiff, Nat.reduceAdd, Nat.reduceMul, Nat.reduceSub, Nat.reduceBEq, Int.reduceLT, Int.reduceLE, Int.reduceEq, Int.reduceBEq, Int.reduceNeg])
  · rw [bend_bad he]
    simp -dsimp -implicitDefEqProofs only [he, noN, go_sem, ↓reduceIte, reduceCtorEq, Nat.reduceLT, Nat.reduceLeDiff, Nat.reduceEqDiff, Nat.reduceAdd, Nat.reduceMul, Nat.reduceSub, Nat.reduceBEq, Int.reduceLT, Int.reduceLE, Int.reduceEq, Int.reduceBEq, Int.reduceNeg]
    decide
end Go.Proofs.YtidnnaobhcffcaaGreatDoor
namespace Go.Proofs.YtidnnaobhcffcaaGreatDoor
open Go.Eng
set_option linter.unusedSimpArgs false
set_option maxRecDepth 10000

theorem rsees13_ok (n : Nt) (seen addr : Int) (hk : ∀ c ∈ n.C, -9223372036854775808 ≤ c.B ∧ c.B ≤ 9223372036854775807) (hw : ∀ c ∈ n.C, c.W.length ≤ 9223372036854775807) :
    Meets Tryz.prog 4 [n.arg, (false, [vI seen]), (false, [vI addr])] (rOne (vB true)) := by
  refine meets Tryz.func4 rfl rfl Tryz.ntmps4 Tryz.results4 rfl ?_
  simp -dsimp -implicitDefEqProofs only [go_sem, ↓reduceIte, reduceCtorEq, Nat.reduceLT, Nat.reduceLeDiff, Nat.reduceEqDiff, Nat.reduceAdd, Nat.reduceMul, Nat.reduceSub, Nat.reduceBEq, Int.reduceLT, Int.reduceLE, Int.reduceEq, Int.reduceBEq, Int.reduceNeg]
  refine callP live13_ok ?_
  simp -dsimp -implicitDefEqProofs only [go_sem, ↓reduceIte, reduceCtorEq, Nat.reduceLT, Nat.reduceLeDiff, Nat.reduceEqDiff, Nat.reduceAdd, Nat.reduceMul, Nat.reduceSub, Nat.reduceBEq, Int.reduceLT, Int.reduceLE, Int.reduceEq, Int.reduceBEq, Int.reduceNeg]
  refine callP (rfewN_ok n) ?_
  simp -dsimp -implicitDefEqProofs only [go_sem, ↓reduceIte, reduceCtorEq, Nat.reduceLT, Nat.reduceLeDiff, Nat.reduceEqDiff, Nat.reduceAdd, Nat.reduceMul, Nat.reduceSub, Nat.reduceBEq, Int.reduceLT, Int.reduceLE, Int.reduceEq, Int.reduceBEq, Int.reduceNeg]
  intro hf
  have hz := sz_of hf hk hw
  have hl := srvS_len hz seen addr
  refine callP (srv_ok n hz seen addr) ?_
  simp -dsimp -implicitDefEqProofs only [go_sem, ↓reduceIte, reduceCtorEq, Nat.reduceLT, Nat.reduceLeDiff, Nat.reduceEqDiff, Nat.reduceAdd, Nat.reduceMul, Nat.reduceSub, Nat.reduceBEq, Int.reduceLT, Int.reduceLE, Int.reduceEq, Int.reduceBEq, Int.reduceNeg]
  refine callP (rsrv_ok n hz seen addr) ?_
  simp -dsimp -implicitDefEqProofs only [go_sem, ↓reduceIte, reduceCtorEq, Nat.reduceLT, Nat.reduceLeDiff, Nat.reduceEqDiff, Nat.reduceAdd, Nat.reduceMul, Nat.reduceSub, Nat.reduceBEq, Int.reduceLT, Int.reduceLE, Int.reduceEq, Int.reduceBEq, Int.reduceNeg]
  refine callP (samez_ok _ (srvS n seen addr).Z hl.1 hl.2) ?_
  simp -dsimp -implicitDefEqProofs only [go_sem, ↓reduceIte, reduceCtorEq, Nat.reduceLT, Nat.reduceLeDiff, Nat.reduceEqDiff, Nat.reduceAdd, Nat.reduceMul, Nat.reduceSub, Nat.reduceBEq, Int.reduceLT, Int.reduceLE, Int.reduceEq, Int.reduceBEq, Int.reduceNeg]
end Go.Proofs.YtidnnaobhcffcaaGreatDoor
namespace Go.Proofs.YtidnnaobhcffcaaGreatDoor
open Go.Eng
set_option linter.unusedSimpArgs false
set_option maxRecDepth 10000

theorem rmends13_ok (n : Nt) (b : Bn) (to : Int) (hk : ∀ c ∈ n.C, -9223372036854775808 ≤ c.B ∧ c.B ≤ 9223372036854775807) (hw : ∀ c ∈ n.C, c.W.length ≤ 9223372036854775807) :
    Meets Tryz.prog 7 [n.arg, b.arg, (false, [vI to])] (rOne (vB true)) := by
  refine meets Tryz.func7 rfl rfl Tryz.ntmps7 Tryz.results7 rfl ?_
  simp -dsimp -implicitDefEqProofs only [go_sem, ↓reduceIte, reduceCtorEq, Nat.reduceLT, Nat.reduceLeDiff, Nat.reduceEqDiff, Nat.reduceAdd, Nat.reduceMul, Nat.reduceSub, Nat.reduceBEq, Int.reduceLT, Int.reduceLE, Int.reduceEq, Int.reduceBEq, Int.reduceNeg]
  refine callP live13_ok ?_
  simp -dsimp -implicitDefEqProofs only [go_sem, ↓reduceIte, reduceCtorEq, Nat.reduceLT, Nat.reduceLeDiff, Nat.reduceEqDiff, Nat.reduceAdd, Nat.reduceMul, Nat.reduceSub, Nat.reduceBEq, Int.reduceLT, Int.reduceLE, Int.reduceEq, Int.reduceBEq, Int.reduceNeg]
  refine callP (rfewN_ok n) ?_
  simp -dsimp -implicitDefEqProofs only [go_sem, ↓reduceIte, reduceCtorEq, Nat.reduceLT, Nat.reduceLeDiff, Nat.reduceEqDiff, Nat.reduceAdd, Nat.reduceMul, Nat.reduceSub, Nat.reduceBEq, Int.reduceLT, Int.reduceLE, Int.reduceEq, Int.reduceBEq, Int.reduceNeg]
  intro hf
  have hz := sz_of hf hk hw
  have hfz := few_sz hf
  refine callP (nmend_ok n hz b) ?_
  simp -dsimp -implicitDefEqProofs only [go_sem, ↓reduceIte, reduceCtorEq, Nat.reduceLT, Nat.reduceLeDiff, Nat.reduceEqDiff, Nat.reduceAdd, Nat.reduceMul, Nat.reduceSub, Nat.reduceBEq, Int.reduceLT, Int.reduceLE, Int.reduceEq, Int.reduceBEq, Int.reduceNeg]
  refine callP (nbend_ok n hz b) ?_
  by_cases he : nbendE n b = 0
  · have hzm := bend_sz hz (by have := hfz.2.1; omega) b
    have hlm := bend_lenB (n := n) (b := b)
    obtain ⟨a1, a2⟩ := bend_again he
    obtain ⟨m1, m2, m3⟩ := bend_mend he (c := ⟨b.S, b.F, to⟩) rfl
    have hzx := mend_sz hzm ⟨b.S, b.F, to⟩
    have hlen := bend_len he (c := ⟨b.S, b.F, to⟩) rfl
    have hcm := bend_chk he
    simp -dsimp -implicitDefEqProofs only [he, go_sem, ↓reduceIte, reduceCtorEq, Nat.reduceLT, Nat.reduceLeDiff, Nat.reduceEqDiff, Nat.reduceAdd, Nat.reduceMul, Nat.reduceSub, Nat.reduceBEq, Int.reduceLT, Int.reduceLE, Int.reduceEq, Int.reduceBEq, Int.reduceNeg]
    refine callP (nbend_ok (nbendN n b) hzm b) ?_
    rw [a1, a2]
    simp -dsimp -implicitDefEqProofs only [go_sem, ↓reduceIte, reduceCtorEq, Nat.reduceLT, Nat.reduceLeDiff, Nat.reduceEqDiff, Nat.reduceAdd, Nat.reduceMul, Nat.reduceSub, Nat.reduceBEq, Int.reduceLT, Int.reduceLE, Int.reduceEq, Int.reduceBEq, Int.reduceNeg]
    refine callP (nmend_ok (nbendN n b) hzm ⟨b.S, b.F, to⟩) ?_
    rw [m1]
    simp -dsimp -implicitDefEqProofs only [go_sem, ↓reduceIte, reduceCtorEq, Nat.reduceLT, Nat.reduceLeDiff, Nat.reduceEqDiff, Nat.reduceAdd, Nat.reduceMul, Nat.reduceSub, Nat.reduceBEq, Int.reduceLT, Int.reduceLE, Int.reduceEq, Int.reduceBEq, Int.reduceNeg]
    refine callP (nmend_ok _ hzx b) ?_
    rw [m2]
    simp -dsimp -implicitDefEqProofs only [go_sem, ↓reduceIte, reduceCtorEq, Nat.reduceLT, Nat.reduceLeDiff, Nat.reduceEqDiff, Nat.reduceAdd, Nat.reduceMul, Nat.reduceSub, Nat.reduceBEq, Int.reduceLT, Int.reduceLE, Int.reduceEq, Int.reduceBEq, Int.reduceNeg]
    refine callP (sameN_ok (nbendN n b) (nbendN n b) hzm) ?_
    simp -dsimp -implicitDefEqProofs only [decide_true, go_sem, ↓reduceIte, reduceCtorEq, Nat.reduceLT, Nat.reduceLeDiff, Nat.reduceEqDiff, Nat.reduceAdd, Nat.reduceMul, Nat.reduceSub, Nat.reduceBEq, Int.reduceLT, Int.reduceLE, Int.reduceEq, Int.reduceBEq, Int.reduceNeg]
    refine callP (nbend_ok (nbendN n b) hzm ⟨b.S, b.F, to⟩) ?_
    simp -dsimp -implicitDefEqProofs only [go_sem, ↓reduceIte, reduceCtorEq, Nat.reduceLT, Nat.reduceLeDiff, Nat.reduceEqDiff, Nat.reduceAdd, Nat.reduceMul, Nat.reduceSub, Nat.reduceBEq, Int.reduceLT, Int.reduceLE, Int.reduceEq, Int.reduceBEq, Int.reduceNeg]
    have hl2 : ∀ h : nbendE (nbendN n b) ⟨b.S, b.F, to⟩ = 0, ((nbendN (nbendN n b) ⟨b.S, b.F, to⟩).B.length : Int) = ((nbendN n b).B.length : Int) := fun h => by rw [hlen h]
    rcases m3 with m3 | ⟨m3, m4⟩
    · repeat' (first | with_reducible apply And.intro | with_reducible intro _ | with_reducible exact drawn (by kernel_rfl) | (refine callP (check_okN (nbendN n b) hzm) ?_; simp -dsimp -implicitDefEqProofs only [m3, hcm, go_sem, ↓reduceIte, reduceCtorEq, Nat.reduceLT, Nat.reduceLeDiff, Nat.reduceEqDiff, Nat.reduceAdd, Nat.reduceMul, Nat.reduceSub, Nat.reduceBEq, Int.reduceLT, Int.reduceLE, Int.reduceEq, Int.reduceBEq, Int.reduceNeg]) | omega)
    · repeat' (first | with_reducible apply And.intro | with_reducible intro _ | with_reducible exact drawn (by kernel_rfl) | (refine callP (check_okN (nbendN n b) hzm) ?_; simp -dsimp -implicitDefEqProofs only [m3, hcm, m4, decide_true, go_sem, ↓reduceIte, reduceCtorEq, Nat.reduceLT, Nat.reduceLeDiff, Nat.reduceEqDiff, Nat.reduceAdd, Nat.reduceMul, Nat.reduceSub, Nat.reduceBEq, Int.reduceLT, Int.reduceLE, Int.reduceEq, Int.reduceBEq, Int.reduceNeg]) | (refine callP (sameN_ok n n hz) ?_; simp -dsimp -implicitDefEqProofs only [m3, hcm, m4, decide_true, go_sem, ↓reduceIte, reduceCtorEq, Nat.reduceLT, Nat.reduceLeDiff, Nat.reduceEqDiff, Nat.reduceAdd, Nat.reduceMul, Nat.reduceSub, Nat.reduceBEq, Int.reduceLT, Int.reduceLE, Int.reduceEq, Int.reduceBEq, Int.reduceNeg]) | omega)
  · simp -dsimp -implicitDefEqProofs only [he, go_sem, ↓reduceIte, reduceCtorEq, Nat.reduceLT, Nat.reduceLeDiff, Nat.reduceEqDiff, Nat.reduceAdd, Nat.reduceMul, Nat.reduceSub, Nat.reduceBEq, Int.reduceLT, Int.reduceLE, Int.reduceEq, Int.reduceBEq, Int.reduceNeg]
end Go.Proofs.YtidnnaobhcffcaaGreatDoor
