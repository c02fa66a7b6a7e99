/- What is handed in, as data. -/
import Derived.Test.YtfgejhlgenaniaaDoorZ19
namespace Go.Proofs.YtfgejhlgenaniaaDoor
open Go.Eng
set_option linter.unusedSimpArgs false
set_option maxRecDepth 10000

theorem arg_zone (ds : List D) : argC Tryd.prog 24 ds = (true, ds.map .d) := by
  unfold argC; rw [show isStruct Tryd.prog 24 = true from by kernel_rfl]
theorem arg_rec (ds : List D) : argC Tryd.prog 39 ds = (true, ds.map .d) := by
  unfold argC; rw [show isStruct Tryd.prog 39 = true from by kernel_rfl]
theorem arg_zones (ds : List D) : argC Tryd.prog 34 ds = (false, ds.map .d) := by
  unfold argC; rw [show isStruct Tryd.prog 34 = false from by kernel_rfl]
theorem arg_str (ds : List D) : argC Tryd.prog 9 ds = (false, ds.map .d) := by
  unfold argC; rw [show isStruct Tryd.prog 9 = false from by kernel_rfl]
theorem arg_int (ds : List D) : argC Tryd.prog 3 ds = (false, ds.map .d) := by
  unfold argC; rw [show isStruct Tryd.prog 3 = false from by kernel_rfl]
theorem arg_u8 (ds : List D) : argC Tryd.prog 5 ds = (false, ds.map .d) := by
  unfold argC; rw [show isStruct Tryd.prog 5 = false from by kernel_rfl]
theorem read_int {ds : List D} (h : shpG tys 6 3 ds) : ∃ n : Int, ds = [dI n] ∧ -9223372036854775808 ≤ n ∧ n ≤ 9223372036854775807 := h
theorem read_str {ds : List D} (h : shpG tys 6 9 ds) : ∃ l : Bs, ds = [dT l] := by
  simp -dsimp -implicitDefEqProofs only [shpG, tileG, go_sem] at h
  obtain ⟨s, rfl, _⟩ := h
  obtain ⟨l, rfl⟩ := bytes_all s
  exact ⟨l, rfl⟩
theorem read_rec {ds : List D} (h : shpG tys 6 39 ds) : ∃ r : Rec, ds = r.cells := by
  simp -dsimp -implicitDefEqProofs only [shpG, tileG, go_sem] at h
  obtain ⟨_, _, ⟨a, rfl, _⟩, rfl, _, _, ⟨b, rfl, _⟩, rfl, _, _, ⟨c, rfl, _⟩, rfl, _, _, ⟨d, rfl, _⟩, rfl, rfl⟩ := h
  obtain ⟨l, rfl⟩ := bytes_all a
  obtain ⟨m, rfl⟩ := bytes_all c
  exact ⟨⟨l, b, m, d⟩, rfl⟩
theorem rows_recs {rows : List (List D)} (h : ∀ r ∈ rows, ∃ x : Rec, r = x.cells) : ∃ l : List Rec, rows = l.map Rec.cells := by
  obtain ⟨l, rfl, _⟩ := rows_map (cells := Rec.cells) (ok := fun _ => True) fun r hr => let ⟨x, hx⟩ := h r hr; ⟨x, hx, trivial⟩
  exact ⟨l, rfl⟩
theorem read_zone {ds : List D} (h : shpG tys 6 24 ds) : ∃ z : Zn, ds = z.cells := by
  simp -dsimp -implicitDefEqProofs only [shpG, tileG, go_sem] at h
  obtain ⟨_, _, ⟨s, rfl, _⟩, rfl, _, _, ⟨rows, rfl, _, hr⟩, rfl, rfl⟩ := h
  obtain ⟨n, rfl⟩ := bytes_all s
  obtain ⟨l, rfl⟩ := rows_recs fun r hr' => by
    obtain ⟨_, _, ⟨a, rfl, _⟩, rfl, _, _, ⟨b, rfl, _⟩, rfl, _, _, ⟨c, rfl, _⟩, rfl, _, _, ⟨d, rfl, _⟩, rfl, rfl⟩ := hr r hr'
    obtain ⟨l, rfl⟩ := bytes_all a
    obtain ⟨m, rfl⟩ := bytes_all c
    exact ⟨⟨l, b, m, d⟩, rfl⟩
  exact ⟨⟨n, l⟩, rfl⟩
theorem read_zones {ds : List D} (h : shpG tys 6 34 ds) : ∃ l : List Zn, ds = [zonesD l] := by
  simp -dsimp -implicitDefEqProofs only [shpG, tileG, go_sem] at h
  obtain ⟨rows, rfl, _, hr⟩ := h
  obtain ⟨l, rfl, _⟩ := rows_map (cells := Zn.cells) (ok := fun _ => True) fun r hr' => by
    obtain ⟨_, _, ⟨s, rfl, _⟩, rfl, _, _, ⟨rows, rfl, _, hr⟩, rfl, rfl⟩ := hr r hr'
    obtain ⟨n, rfl⟩ := bytes_all s
    obtain ⟨l, rfl⟩ := rows_recs fun r hr' => by
      obtain ⟨_, _, ⟨a, rfl, _⟩, rfl, _, _, ⟨b, rfl, _⟩, rfl, _, _, ⟨c, rfl, _⟩, rfl, _, _, ⟨d, rfl, _⟩, rfl, rfl⟩ := hr r hr'
      obtain ⟨l, rfl⟩ := bytes_all a
      obtain ⟨m, rfl⟩ := bytes_all c
      exact ⟨⟨l, b, m, d⟩, rfl⟩
    exact ⟨⟨n, l⟩, rfl, trivial⟩
  exact ⟨l, rfl⟩
theorem askV_len (a : Bs) (l : List Rec) (n : Bs) (k : Int) : (askV a l n k).R.length ≤ l.length + 1 := by
  unfold askV
  split
  · unfold askW
    split
    · simp
    · split
      · have := aliasL_len l n k; simp only; omega
      · split
        · have := ofL_len l n k; simp only; omega
        · split <;> simp
  · simp
end Go.Proofs.YtfgejhlgenaniaaDoor
