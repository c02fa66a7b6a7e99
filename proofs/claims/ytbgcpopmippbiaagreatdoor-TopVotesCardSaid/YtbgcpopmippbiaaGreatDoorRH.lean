/- What is handed in, as data. The empty list rises. Plain laws: what a bend that is made, or mended, makes of what is seen. Plain laws: what a zone that is put makes of what is seen. -/
import Derived.Test.YtbgcpopmippbiaaGreatDoorRG
namespace Go.Proofs.YtbgcpopmippbiaaGreatDoor
open Go.Eng
set_option linter.unusedSimpArgs false
set_option maxRecDepth 10000

theorem arg_str (ds : List D) : argC Tryz.prog 9 ds = (false, ds.map .d) := by
  unfold argC; rw [show isStruct Tryz.prog 9 = false from by kernel_rfl]
theorem arg_int (ds : List D) : argC Tryz.prog 3 ds = (false, ds.map .d) := by
  unfold argC; rw [show isStruct Tryz.prog 3 = false from by kernel_rfl]
theorem read_int {ds : List D} (h : shpG tys 10 3 ds) : ∃ n : Int, ds = [dI n] ∧ -9223372036854775808 ≤ n ∧ n ≤ 9223372036854775807 := h
theorem read_str {ds : List D} (h : shpG tys 10 9 ds) : ∃ l : Bs, ds = [dT l] := by
  simp -dsimp -implicitDefEqProofs only [shpG, tileG, go_sem] at h
  obtain ⟨s, rfl, _⟩ := h
  obtain ⟨l, rfl⟩ := bytes_all s
  exact ⟨l, rfl⟩
theorem read_rows {α : Type} {cells : α → List D} {rows : List (List D)} (h : ∀ r ∈ rows, ∃ x : α, r = cells x) : ∃ l : List α, rows = l.map cells := by
  obtain ⟨l, rfl, _⟩ := rows_map (cells := cells) (ok := fun _ => True) fun r hr => let ⟨x, hx⟩ := h r hr; ⟨x, hx, trivial⟩
  exact ⟨l, rfl⟩
end Go.Proofs.YtbgcpopmippbiaaGreatDoor
namespace Go.Proofs.YtbgcpopmippbiaaGreatDoor
theorem ris_nil {α κ : Type} {o : KO κ} {key : α → κ} : Ris o key ([] : List α) := List.Pairwise.nil
end Go.Proofs.YtbgcpopmippbiaaGreatDoor
namespace Go.Proofs.YtbgcpopmippbiaaGreatDoor
open Go.Eng
set_option linter.unusedSimpArgs false
set_option maxRecDepth 10000

theorem chk_iff {n : Nt} : chkN n = 0 ↔ 0 ≤ n.N ∧ n.N ≤ 8 ∧ svsOk n = true ∧ bnsOk n = true ∧ cksOk n = true ∧ manyB n = false := by
  constructor
  · exact chk_parts
  · rintro ⟨h1, h2, h3, h4, h5, h6⟩
    unfold chkN seenB
    rw [decide_eq_true h1, decide_eq_true h2, h3, h4, h5, h6]
    rfl
theorem svs_parts {n : Nt} (h : svsOk n = true) : (∀ s ∈ n.V, svB s = true) ∧ Ris koI kS n.V := rises_iff.1 h
/-- Another list of bends. -/
abbrev Nt.bs (n : Nt) (B : List Bn) : Nt := { n with B := B }
theorem bs_chk {n : Nt} (h : chkN n = 0) {B : List Bn} (hB : ∀ b ∈ B, bendB n b = true) (hr : Ris koP kB B) : chkN (n.bs B) = 0 := by
  obtain ⟨h1, h2, h3, _, h5, h6⟩ := chk_iff.1 h
  exact chk_iff.2 ⟨h1, h2, h3, rises_iff.2 ⟨hB, hr⟩, h5, h6⟩
theorem bend_ok0 {n : Nt} {b : Bn} (h : nbendE n b = 0) : chkN n = 0 ∧ bendOk n b = true ∧ (svF n b.F).isSome = true ∧ (svF n b.T).isSome = true ∧ nbendN n b = n.bs (withK koP kB n.B b) := by
  have h' := h
  unfold nbendE at h
  split at h
  · rename_i h0
    split at h
    · rename_i h1
      split at h
      · rename_i h2
        rw [Bool.and_eq_true] at h2
        exact ⟨h0, h1, h2.1, h2.2, by unfold nbendN; rw [if_pos h']⟩
      · cases h
    · cases h
  · rename_i h0; exact absurd h h0
theorem bendOk_B {n : Nt} {b : Bn} (h1 : bendOk n b = true) (h2 : (svF n b.F).isSome = true) (h3 : (svF n b.T).isSome = true) : bendB n b = true := by
  unfold bendOk at h1
  simp only [Bool.and_eq_true, decide_eq_true_eq, Bool.not_eq_true', decide_eq_false_iff_not] at h1
  unfold bendB
  simp only [Bool.and_eq_true, decide_eq_true_eq, Bool.not_eq_true', decide_eq_false_iff_not]
  exact ⟨⟨⟨⟨h1.1.1.1.1, h1.1.1.1.2⟩, h2⟩, h3⟩, h1.2⟩
theorem bend_chk {n : Nt} {b : Bn} (h : nbendE n b = 0) : chkN (nbendN n b) = 0 := by
  obtain ⟨h0, h1, h2, h3, e⟩ := bend_ok0 h
  obtain ⟨_, _, _, hb, _, _⟩ := chk_iff.1 h0
  obtain ⟨hb1, hb2⟩ := bns_parts hb
  rw [e]
  refine bs_chk h0 (fun x hx => ?_) (with_ris hb2 b)
  rcases (mem_with hb2).1 hx with rfl | ⟨hx, _⟩
  · exact bendOk_B h1 h2 h3
  · exact hb1 x hx
/-- Sizes. -/
theorem bend_sz {n : Nt} (hz : Sz n) (hb : n.B.length ≤ 900) (b : Bn) : Sz (nbendN n b) := by
  unfold nbendN
  split
  · have := withK_len (o := koP) (key := kB) n.B b
    exact ⟨hz.v, by show (withK koP kB n.B b).length ≤ 1000; omega, hz.c, hz.z, hz.r, hz.k, hz.w⟩
  · exact ⟨by simp [noN], by simp [noN], by simp [noN], by simp [noN], by simp [noN], by simp [noN], by simp [noN]⟩
theorem srvS_len {n : Nt} (hz : Sz n) (seen addr : Int) : (srvS n seen addr).Z.length ≤ 1000 ∧ ∀ z ∈ (srvS n seen addr).Z, z.R.length ≤ 1000 := by
  unfold srvS
  split
  · unfold srvZ
    split
    · exact svG_len hz _
    · exact svG_len hz _
  · simp [noV]
end Go.Proofs.YtbgcpopmippbiaaGreatDoor
namespace Go.Proofs.YtbgcpopmippbiaaGreatDoor
open Go.Eng
set_option linter.unusedSimpArgs false
set_option maxRecDepth 10000

/-- Other servers. -/
abbrev Nt.vs (n : Nt) (V : List Sv) : Nt := { n with V := V }
theorem put_ok0 {n : Nt} {a : Int} {z : Zn} (h : nputE n a z = 0) : chkN n = 0 ∧ addrB a = true ∧ checkV z.A z.R = 0 ∧ (newSv n a z).Z.length ≤ 8 ∧ nputN n a z = n.vs (withK koI kS n.V (newSv n a z)) := by
  have h' := h
  unfold nputE at h
  split at h
  · rename_i h0
    split at h
    · rename_i h1
      split at h
      · rename_i h2
        split at h
        · cases h
        · exact ⟨h0, h1, h2, by omega, by unfold nputN; rw [if_pos h']⟩
      · rename_i h2; exact absurd h h2
    · cases h
  · rename_i h0; exact absurd h h0
theorem put_bad {n : Nt} {a : Int} {z : Zn} (h : nputE n a z ≠ 0) : nputN n a z = noN := by unfold nputN; rw [if_neg h]
theorem zs_ris {n : Nt} (h : chkN n = 0) (a : Int) : Ris koS kZ (svG n a).Z ∧ (∀ z ∈ (svG n a).Z, zoneB z = true) ∧ (svG n a).Z.length ≤ 8 := by
  obtain ⟨_, _, hv, _, _, hm⟩ := chk_iff.1 h
  obtain ⟨hv1, hv2⟩ := svs_parts hv
  unfold svG
  cases hf : svF n a with
  | none => exact ⟨ris_nil, by simp [noV], by simp [noV]⟩
  | some s =>
    have hs := (find_some hf).1
    have h1 := hv1 s hs
    unfold svB at h1
    rw [Bool.and_eq_true] at h1
    obtain ⟨h2, h3⟩ := rises_iff.1 h1.2
    refine ⟨h3, h2, ?_⟩
    unfold manyB at hm
    rw [Bool.or_eq_false_iff] at hm
    have h4 := List.any_eq_false.1 hm.2 s hs
    unfold bigZ at h4
    simpa using h4
theorem put_chk {n : Nt} {a : Int} {z : Zn} (h : nputE n a z = 0) : chkN (nputN n a z) = 0 := by
  obtain ⟨h0, h1, h2, h3, e⟩ := put_ok0 h
  obtain ⟨c1, c2, c3, c4, c5, c6⟩ := chk_iff.1 h0
  obtain ⟨v1, v2⟩ := svs_parts c3
  obtain ⟨b1, b2⟩ := bns_parts c4
  obtain ⟨z1, z2, _⟩ := zs_ris h0 a
  have hm : ∀ s ∈ withK koI kS n.V (newSv n a z), s = newSv n a z ∨ s ∈ n.V := fun s hs => by
    rcases (mem_with v2).1 hs with h4 | ⟨h4, _⟩
    · exact .inl h4
    · exact .inr h4
  have hfind : ∀ x : Int, (svF n x).isSome = true → (svF (nputN n a z) x).isSome = true := fun x hx => by
    rw [e]
    by_cases hxa : x = a
    · subst hxa
      show (findK koI kS (withK koI kS n.V (newSv n x z)) x).isSome = true
      have : findK koI kS (withK koI kS n.V (newSv n x z)) (kS (newSv n x z)) = some (newSv n x z) := find_with v2 _
      exact Option.isSome_iff_exists.2 ⟨_, this⟩
    · show (findK koI kS (withK koI kS n.V (newSv n a z)) x).isSome = true
      rw [find_other v2 _ (show x ≠ kS (newSv n a z) from hxa)]
      exact hx
  refine chk_iff.2 ⟨by rw [e]; exact c1, by rw [e]; exact c2, ?_, ?_, by rw [e]; exact c5, ?_⟩
  · rw [e]
    refine rises_iff.2 ⟨fun s hs => ?_, with_ris v2 _⟩
    rcases hm s hs with rfl | hs
    · unfold svB
      rw [Bool.and_eq_true]
      refine ⟨h1, rises_iff.2 ⟨fun y hy => ?_, with_ris z1 z⟩⟩
      rcases (mem_with z1).1 hy with rfl | ⟨hy, _⟩
      · unfold zoneB; rw [h2]; rfl
      · exact z2 y hy
    · exact v1 s hs
  · have hB : (nputN n a z).B = n.B := by rw [e]
    unfold bnsOk
    rw [hB]
    refine rises_iff.2 ⟨fun x hx => ?_, b2⟩
    have h5 := b1 x hx
    unfold bendB at h5 ⊢
    simp only [Bool.and_eq_true, decide_eq_true_eq] at h5 ⊢
    exact ⟨⟨⟨⟨h5.1.1.1.1, by rw [e]; exact h5.1.1.1.2⟩, hfind _ h5.1.1.2⟩, hfind _ h5.1.2⟩, h5.2⟩
  · unfold manyB at c6 ⊢
    rw [Bool.or_eq_false_iff] at c6 ⊢
    rw [e]
    refine ⟨c6.1, List.any_eq_false.2 fun s hs => ?_⟩
    rcases hm s hs with rfl | hs
    · unfold bigZ; simp; omega
    · exact List.any_eq_false.1 c6.2 s hs
theorem put_svF {n : Nt} {a : Int} {z : Zn} (h : nputE n a z = 0) : svF (nputN n a z) a = some (newSv n a z) := by
  obtain ⟨h0, _, _, _, e⟩ := put_ok0 h
  obtain ⟨_, _, c3, _, _, _⟩ := chk_iff.1 h0
  rw [e]
  exact find_with (svs_parts c3).2 (newSv n a z)
theorem put_svF_other {n : Nt} {a : Int} {z : Zn} (h : nputE n a z = 0) {x : Int} (hx : x ≠ a) : svF (nputN n a z) x = svF n x := by
  obtain ⟨h0, _, _, _, e⟩ := put_ok0 h
  obtain ⟨_, _, c3, _, _, _⟩ := chk_iff.1 h0
  rw [e]
  exact find_other (svs_parts c3).2 (newSv n a z) hx
theorem put_sz {n : Nt} (hz : Sz n) (hv : n.V.length ≤ 900) (_hs : ∀ s ∈ n.V, s.Z.length ≤ 900) (a : Int) {z : Zn} (hr : z.R.length ≤ 1000) : Sz (nputN n a z) := by
  by_cases he : nputE n a z = 0
  · obtain ⟨h0, _, _, h3, e⟩ := put_ok0 he
    obtain ⟨_, _, c3, _, _, _⟩ := chk_iff.1 h0
    obtain ⟨z1, _, _⟩ := zs_ris h0 a
    have hm := fun s (hs : s ∈ withK koI kS n.V (newSv n a z)) => (mem_with (svs_parts c3).2).1 hs
    have hl := withK_len (o := koI) (key := kS) n.V (newSv n a z)
    rw [e]
    refine ⟨by show (withK koI kS n.V (newSv n a z)).length ≤ 1000; omega, hz.b, hz.c, fun s hs => ?_, fun s hs y hy => ?_, hz.k, hz.w⟩
    · rcases hm s hs with rfl | ⟨hs, _⟩
      · omega
      · exact hz.z s hs
    · rcases hm s hs with rfl | ⟨hs, _⟩
      · rcases (mem_with z1).1 hy with rfl | ⟨hy, _⟩
        · exact hr
        · exact (svG_len hz a).2 y hy
      · exact hz.r s hs y hy
  · rw [put_bad he]
    exact ⟨by simp [noN], by simp [noN], by simp [noN], by simp [noN], by simp [noN], by simp [noN], by simp [noN]⟩
/-- How many of some zones have an Apex. -/
def metN (l : List Zn) (k : Bs) : Nat := (l.filter fun x => decide (x.A = k)).length
end Go.Proofs.YtbgcpopmippbiaaGreatDoor
