
/- What is handed in, as data. Plain laws of nets: what is seen. -/
import Derived.Test.YtolpobgfcokoaaaGreatDoorRG
namespace Go.Proofs.YtolpobgfcokoaaaGreatDoor
open Go.Eng
set_option linter.unusedSimpArgs false
set_option maxRecDepth 10000

theorem arg_net (ds : List D) : argC Tryz.prog 26 ds = (true, ds.map .d) := by
  unfold argC; rw [show isStruct Tryz.prog 26 = true from by kernel_rfl]
theorem arg_bend (ds : List D) : argC Tryz.prog 104 ds = (true, ds.map .d) := by
  unfold argC; rw [show isStruct Tryz.prog 104 = true from by kernel_rfl]
theorem arg_zone (ds : List D) : argC Tryz.prog 59 ds = (true, ds.map .d) := by
  unfold argC; rw [show isStruct Tryz.prog 59 = true from by kernel_rfl]
theorem arg_str (ds : List D) : argC Tryz.prog 9 ds = (false, ds.map .d) := by
  unfold argC; rw [show isStruct Tryz.prog 9 = false from by kernel_rfl]
theorem arg_int (ds : List D) : argC Tryz.prog 3 ds = (false, ds.map .d) := by
  unfold argC; rw [show isStruct Tryz.prog 3 = false from by kernel_rfl]
theorem read_int {ds : List D} (h : shpG tys 10 3 ds) : ∃ n : Int, ds = [dI n] ∧ -9223372036854775808 ≤ n ∧ n ≤ 9223372036854775807 := h
theorem read_str {ds : List D} (h : shpG tys 10 9 ds) : ∃ l : Bs, ds = [dT l] := by
  simp -dsimp -implicitDefEqProofs only [shpG, tileG, go_sem] at h
  obtain ⟨s, rfl, _⟩ := h
  obtain ⟨l, rfl⟩ := bytes_all s
  exact ⟨l, rfl⟩
theorem read_rows {α : Type} {cells : α → List D} {rows : List (List D)} (h : ∀ r ∈ rows, ∃ x : α, r = cells x) : ∃ l : List α, rows = l.map cells := by
  obtain ⟨l, rfl, _⟩ := rows_map (cells := cells) (ok := fun _ => True) fun r hr => let ⟨x, hx⟩ := h r hr; ⟨x, hx, trivial⟩
  exact ⟨l, rfl⟩
theorem read_net {ds : List D} (h : shpG tys 10 26 ds) : ∃ n : Nt, ds = n.cells ∧ (∀ c ∈ n.C, -9223372036854775808 ≤ c.B ∧ c.B ≤ 9223372036854775807) ∧ ∀ c ∈ n.C, c.W.length ≤ 9223372036854775807 := by
  simp -dsimp -implicitDefEqProofs only [shpG, tileG, go_sem] at h
  obtain ⟨_, _, ⟨rv, rfl, _, hv⟩, rfl, _, _, ⟨x, rfl, _⟩, rfl, _, _, ⟨rb, rfl, _, hb⟩, rfl, _, _, ⟨rc, rfl, _, hc⟩, rfl, rfl⟩ := h
  obtain ⟨V, rfl⟩ := read_rows (cells := Sv.cells) fun r hr => by
    obtain ⟨_, _, ⟨a, rfl, _⟩, rfl, _, _, ⟨rz, rfl, _, hz⟩, rfl, rfl⟩ := hv r hr
    obtain ⟨Z, rfl⟩ := read_rows (cells := Zn.cells) fun r hr => by
      obtain ⟨_, _, ⟨s, rfl, _⟩, rfl, _, _, ⟨rr, rfl, _, hrr⟩, rfl, rfl⟩ := hz r hr
      obtain ⟨n, rfl⟩ := bytes_all s
      obtain ⟨R, rfl⟩ := read_rows (cells := Rec.cells) fun r hr => by
        obtain ⟨_, _, ⟨a, rfl, _⟩, rfl, _, _, ⟨b, rfl, _⟩, rfl, _, _, ⟨c, rfl, _⟩, rfl, _, _, ⟨d, rfl, _⟩, rfl, rfl⟩ := hrr r hr
        obtain ⟨l, rfl⟩ := bytes_all a
        obtain ⟨m, rfl⟩ := bytes_all c
        exact ⟨⟨l, b, m, d⟩, rfl⟩
      exact ⟨⟨n, R⟩, rfl⟩
    exact ⟨⟨a, Z⟩, rfl⟩
  obtain ⟨B, rfl⟩ := read_rows (cells := Bn.cells) fun r hr => by
    obtain ⟨_, _, ⟨a, rfl, _⟩, rfl, _, _, ⟨b, rfl, _⟩, rfl, _, _, ⟨c, rfl, _⟩, rfl, rfl⟩ := hb r hr
    exact ⟨⟨a, b, c⟩, rfl⟩
  obtain ⟨C, rfl, hC⟩ := rows_map (cells := Ck.cells) (ok := fun c => (-9223372036854775808 ≤ c.B ∧ c.B ≤ 9223372036854775807) ∧ c.W.length ≤ 9223372036854775807) (rows := rc) fun r hr => by
    obtain ⟨_, _, ⟨s, rfl, hs⟩, rfl, _, _, ⟨b, rfl, hb1, hb2⟩, rfl, rfl⟩ := hc r hr
    obtain ⟨l, rfl⟩ := bytes_all s
    exact ⟨⟨l, b⟩, rfl, ⟨hb1, hb2⟩, hs⟩
  exact ⟨⟨V, x, B, C⟩, rfl, fun c hc => (hC c hc).1, fun c hc => (hC c hc).2⟩
end Go.Proofs.YtolpobgfcokoaaaGreatDoor
namespace Go.Proofs.YtolpobgfcokoaaaGreatDoor
open Go.Eng
set_option linter.unusedSimpArgs false
set_option maxRecDepth 10000

theorem ris_nil {α κ : Type} {o : KO κ} {key : α → κ} : Ris o key ([] : List α) := List.Pairwise.nil
theorem chk_iff {n : Nt} : chkN n = 0 ↔ 0 ≤ n.N ∧ n.N ≤ 8 ∧ svsOk n = true ∧ bnsOk n = true ∧ cksOk n = true ∧ manyB n = false := by
  constructor
  · exact chk_parts
  · rintro ⟨h1, h2, h3, h4, h5, h6⟩
    unfold chkN seenB
    rw [decide_eq_true h1, decide_eq_true h2, h3, h4, h5, h6]
    rfl
theorem svs_parts {n : Nt} (h : svsOk n = true) : (∀ s ∈ n.V, svB s = true) ∧ Ris koI kS n.V := rises_iff.1 h
theorem srvB_iff {n : Nt} {seen addr : Int} : srvB n seen addr = true ↔ (svF n addr).isSome = true ∧ -1 ≤ seen ∧ seen < n.N ∧ chkN n = 0 := by
  unfold srvB
  simp only [Bool.and_eq_true, decide_eq_true_eq, beq_iff_eq, and_assoc]
theorem srvS_yes {n : Nt} {seen addr : Int} (h : srvB n seen addr = true) : srvS n seen addr = ⟨addr, srvZ n seen addr⟩ := by unfold srvS; rw [if_pos h]
theorem srvS_no {n : Nt} {seen addr : Int} (h : srvB n seen addr = false) : srvS n seen addr = noV := by unfold srvS; rw [if_neg (by simp [h])]
theorem no_bend {n : Nt} (h : chkN n = 0) {seen addr : Int} (hs : seen < 0 ∨ n.N ≤ seen) (t : Int) : bnF n ⟨seen, addr, t⟩ = none := by
  obtain ⟨_, _, _, hb, _, _⟩ := chk_iff.1 h
  obtain ⟨hb1, hb2⟩ := bns_parts hb
  refine find_none.2 fun x hx e => ?_
  have h1 := hb1 x hx
  unfold bendB at h1
  simp only [Bool.and_eq_true, decide_eq_true_eq] at h1
  have h2 : x.S = seen := congrArg Prod.fst e
  omega
theorem srvS_len {n : Nt} (hz : Sz n) (seen addr : Int) : (srvS n seen addr).Z.length ≤ 1000 ∧ ∀ z ∈ (srvS n seen addr).Z, z.R.length ≤ 1000 := by
  unfold srvS
  split
  · unfold srvZ
    split
    · exact svG_len hz _
    · exact svG_len hz _
  · simp [noV]
theorem zs_ris {n : Nt} (h : chkN n = 0) (a : Int) : Ris koS kZ (svG n a).Z ∧ (∀ z ∈ (svG n a).Z, zoneB z = true) ∧ (svG n a).Z.length ≤ 8 := by
  obtain ⟨_, _, hv, _, _, hm⟩ := chk_iff.1 h
  obtain ⟨hv1, hv2⟩ := svs_parts hv
  unfold svG
  cases hf : svF n a with
  | none => exact ⟨ris_nil, by simp [noV], by simp [noV]⟩
  | some s =>
    have hs := (find_some hf).1
    have h1 := hv1 s hs
    unfold svB at h1
    rw [Bool.and_eq_true] at h1
    obtain ⟨h2, h3⟩ := rises_iff.1 h1.2
    refine ⟨h3, h2, ?_⟩
    unfold manyB at hm
    rw [Bool.or_eq_false_iff] at hm
    have h4 := List.any_eq_false.1 hm.2 s hs
    unfold bigZ at h4
    simpa using h4
/-- What nobody redirected sees. -/
theorem straight {n : Nt} (h : chkN n = 0) (a : Int) : srvB n (-1) a = (svF n a).isSome ∧ srvS n (-1) a = if (svF n a).isSome then ⟨a, (svG n a).Z⟩ else noV := by
  obtain ⟨hN, _⟩ := chk_iff.1 h
  have hb : srvB n (-1) a = (svF n a).isSome := by
    unfold srvB
    rw [h, decide_eq_true (by omega : (-1 : Int) ≤ -1), decide_eq_true (by omega : (-1 : Int) < n.N)]
    simp
  refine ⟨hb, ?_⟩
  unfold srvS srvZ
  rw [hb, no_bend h (.inl (by omega)) 0]
  rfl
end Go.Proofs.YtolpobgfcokoaaaGreatDoor
