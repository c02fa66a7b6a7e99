/- slices.Sort at int: an own row of integers is sorted in place (by the library's contract). -/
import Derived.Test.YtbgcpopmippbiaaGreatDoorTyp
import Derived.Sort.EveryDepth
import Derived.Shelf.Sort.AssemblyIn
import Derived.Shelf.Slices.CompactI
import Derived.Shelf.Slices.In.SortNone
namespace Go.Eng
open Go.Sort Go.Shelf

abbrev rowI (z : Int) : List D := [.v (.int .i64 z)]
def sortI (zs : List Int) : List Int := zs.mergeSort fun x y => decide (x ≤ y)
theorem sortI_len (zs : List Int) : (sortI zs).length = zs.length := List.length_mergeSort zs

theorem heap_sorted {w : World} {n g : Nat} {ys : List Int} {os : Array Obj} {cur : Array Value} {ety : TypeId} (hg : w.heap[g]? = some (.cells cur ety (0, 0))) :
    (grow (putRow (Value.int .i64) (Sort.ahead w n) g 0 ys.toArray) os).heap[g]? = some (.cells (putCells (Value.int .i64) 0 ys.toArray cur) ety (0, 0)) := by
  have hlt : g < w.heap.size := (Array.getElem?_eq_some_iff.1 hg).1
  rw [heap_grow_old _ _ (by simpa using hlt)]
  simp only [putRow, mapBlock, Sort.heap_ahead, Array.getElem?_modify, if_true, hg, Option.map_some, onCells]
theorem heap_sorted_other {w : World} {n g b : Nat} {ys : List Int} {os : Array Obj} (hb : b < w.heap.size) (hne : b ≠ g) :
    (grow (putRow (Value.int .i64) (Sort.ahead w n) g 0 ys.toArray) os).heap[b]? = w.heap[b]? := by
  rw [heap_grow_old _ _ (by simpa using hb)]
  simp only [putRow, mapBlock, Sort.heap_ahead, Array.getElem?_modify, if_neg (Ne.symm hne)]

theorem hcall_sort {E : Sit} {r : Ren} (L : Proofs.Lays.n189 E.P r) (he : Enterable E.P (r.f 189)) {o : Nat} {e : TypeId} {zs : List Int} (hl : zs.length < 4611686018427387904) {objs : List (Nat × Option AObj)} {next : Nat} {K : AT → List (Nat × Option AObj) → Nat → Prop}
    (ho : getO objs o = some (.row 1 e (zs.map rowI) true)) (hK : K (.tup []) ((o, some (.row 1 e ((sortI zs).map rowI) true)) :: objs) next) : HCall E (r.f 189) [(false, [.own o])] objs next K := by
  refine ⟨he, fun c ρ S w vals _ hr hfr hall => ?_⟩
  obtain ⟨u, rfl, hu⟩ : ∃ u, vals = [u] ∧ ρ o = some u := by
    cases hall with
    | cons h1 h2 =>
      cases h2
      obtain ⟨x, hx, hx2⟩ := h1
      cases hx
      exact ⟨_, rfl, hx2.1⟩
  obtain ⟨h, q1, q2, q3⟩ := hr.obj o _ ho
  rw [hu] at q1
  cases q1
  rcases q3 with ⟨hnil, A, rfl⟩ | ⟨g, cc, hc0, rfl, ⟨r1, r2, r3, cur, r4, r5, r7, r6⟩, hlive, _⟩
  · have hz : zs = [] := by simpa using hnil
    subst hz
    refine (Proofs.Any.slices_Sort_int_none L A 0 w).mono ?_
    rintro e' w' ⟨rfl, rfl⟩
    refine ⟨_, .tup [], _, next, ρ, S, rfl, ?_, hfr, ⟨[], rfl, .nil⟩, hK⟩
    have e1 : getO ((o, some (.row 1 e ((sortI []).map rowI) true)) :: objs) = getO objs := by
      funext m
      simp only [getO]
      split
      · rename_i em; rw [em, ho, show sortI [] = [] from List.eq_nil_of_length_eq_zero (sortI_len [])]
      · rfl
    unfold RelH
    rw [e1]
    exact hr
  · have hlt : g < w.heap.size := (Array.getElem?_eq_some_iff.1 r4).1
    have hnS : ¬ S g := hlive rfl
    have hrl : (zs.map rowI).length = zs.length := List.length_map ..
    rw [hrl]
    rw [hrl] at r1
    have hcell : ∀ j (hj : j < zs.length), cur[j]? = some (.int .i64 zs[j]) := fun j hj => by
      obtain ⟨v, hv1, hv2⟩ := r6 j 0 (rowI zs[j]) (.v (.int .i64 zs[j])) (by rw [List.getElem?_map, List.getElem?_eq_getElem hj]; rfl) rfl
      cases hv2
      simpa using hv1
    have hH : Holds (Value.int .i64) w g 0 zs.toArray := fun j hj => by
      have hj' : j < zs.length := by simpa using hj
      have e2 : zs.toArray[j]! = zs[j] := by rw [getElem!_pos zs.toArray j hj]; simp
      rw [e2]
      refine ⟨?_, ?_⟩
      · simp only [World.cell?, r4, Nat.zero_add]
        simpa using hcell j hj'
      · simp [World.frozen?, r4]
    refine (Go.calls_of_every_depth fun D => Proofs.AnyS.slices_Sort_int_in L D g 0 cc zs w hH hlt hl).mono ?_
    rintro e' w' ⟨rfl, n, os, rfl⟩
    have hbg : blkOf (.slice (some ⟨g, 0, none⟩) zs.length cc) = some g := by simp [blkOf]; omega
    rw [hrl] at hu
    obtain ⟨ys, hys⟩ : ∃ ys, ys = sortI zs := ⟨_, rfl⟩
    have hyl : ys.length = zs.length := by rw [hys]; exact sortI_len zs
    have hsame : ∀ b, b < w.heap.size → b ≠ g → (grow (putRow (Value.int .i64) (Sort.ahead w n) g 0 ys.toArray) os).heap[b]? = w.heap[b]? := fun b h1 h2 => heap_sorted_other h1 h2
    have hg2 := heap_sorted (n := n) (ys := ys) (os := os) r4
    show ∃ v t objs' next' ρ' S', Ending.returned (.tuple #[]) = Ending.returned v ∧ RelH c objs' ρ' S' (grow (putRow (Value.int .i64) (Sort.ahead w n) g 0 (sortI zs).toArray) os) ∧ _
    rw [← hys]
    rw [← hys] at hK
    obtain ⟨w', hw'⟩ : ∃ w', w' = grow (putRow (Value.int .i64) (Sort.ahead w n) g 0 ys.toArray) os := ⟨_, rfl⟩
    have hos : w'.os = w.os := by rw [hw']; rfl
    have htape : w'.tape = w.tape := by rw [hw']; rfl
    have hout : w'.output = w.output := by rw [hw']; rfl
    have hsz : w.heap.size ≤ w'.heap.size := by rw [hw']; simp
    rw [← hw'] at hsame hg2 ⊢
    clear hw'
    have hkeep : Keeps S w w' := fun b hb => hsame b (hr.lim b hb) (fun e3 => hnS (e3 ▸ hb))
    have hgr : Grows ρ ρ w w' S S := ⟨fun _ _ h => h, fun _ h => h, hkeep⟩
    refine ⟨_, .tup [], _, next, ρ, S, rfl, ?_, hfr, ⟨[], rfl, .nil⟩, hK⟩
    have h7 := hr.step (dst := none) (v := Go.undef) (out := .junk) (ob' := updO [(o, some (.row 1 e (ys.map rowI) true))] (getO objs)) (w' := w') (S' := S) (ρ' := ρ) rfl hgr trivial
      (fun m y hy => by
        simp only [updO] at hy
        split at hy
        · rename_i em
          subst em
          cases hy
          refine .inr ⟨_, hu, ⟨by simp [rowI], .inr ⟨g, cc, hc0, by rw [List.length_map, hyl], ⟨by rw [List.length_map, hyl]; exact r1, r2, r3, _, hg2, by simp [putCells, r5], ?_, ?_⟩, fun _ => hnS, fun hl => by cases hl⟩⟩, fun b hb => ⟨hr.place _ _ _ _ ho hu hb, fun o2 x2 h2 hx2 hh2 hb2 => ?_⟩⟩
          · intro v hv
            simp only [putCells, Array.toList_mapIdx, List.mem_iff_getElem?, List.getElem?_mapIdx, Option.map_eq_some_iff] at hv
            obtain ⟨j, x, hx, rfl⟩ := hv
            split
            · exact ⟨.v (.int .i64 _), .v _ rfl⟩
            · obtain ⟨d, hd⟩ := r7 x (List.mem_of_getElem? hx)
              exact ⟨d, hd.mono (fun _ h => h) hkeep⟩
          · intro i j row d hi hj
            rw [List.getElem?_map, Option.map_eq_some_iff] at hi
            obtain ⟨z, hz, rfl⟩ := hi
            have hil : i < ys.length := (List.getElem?_eq_some_iff.1 hz).1
            cases j with
            | succ j => simp [rowI] at hj
            | zero =>
              simp only [rowI, List.getElem?_cons_zero, Option.some.injEq] at hj
              subst hj
              refine ⟨.int .i64 z, ?_, .v _ rfl⟩
              have hic : i < cur.size := by rw [r5]; omega
              have hya : ys.toArray[i]! = z := by
                rw [getElem!_pos ys.toArray i (by simpa using hil)]
                have := (List.getElem?_eq_some_iff.1 hz).2
                simpa using this
              simp only [putCells, Nat.mul_one, Nat.add_zero, Array.getElem?_mapIdx, Array.getElem?_eq_getElem hic, Option.map_some]
              rw [if_pos (by simp; omega), Nat.sub_zero, hya]
          · simp only [updO] at hx2
            split at hx2
            · assumption
            · exact hr.sep _ _ _ _ _ _ b hx2 ho hh2 hu hb2 hb
        · rename_i em
          refine .inl ⟨hy, fun h b hh hb => ⟨hsame b (blk_lt hr hy hh hb) (fun e3 => ?_), id⟩⟩
          subst e3
          exact em (hr.sep _ _ _ _ _ _ b hy ho hh hu hb hbg))
      hos htape hout hsz
      (fun b h1 h2 => hsame b (Nat.lt_of_lt_of_le h1 hr.hsize) (fun e3 => by
        subst e3
        rcases hr.place _ _ _ _ ho hu hbg with (h3 | h3) | h3
        · omega
        · exact h2 h3
        · exact hnS h3))
      (fun b hb => Nat.lt_of_lt_of_le (hr.lim b hb) hsz) hr.foot
    have e1 : putF (fun _ => AT.junk) none .junk = fun _ => AT.junk := by funext m; simp [putF]
    have e2 : getO ((o, some (.row 1 e (ys.map rowI) true)) :: objs) = updO [(o, some (.row 1 e (ys.map rowI) true))] (getO objs) := getO_upd [_] objs
    unfold RelH
    rw [e1, ← e2] at h7
    exact h7

/-- slices.Compact at int: an own row is handed over, and comes back. -/
theorem meets_compact {P : Program} {r : Ren} (L : Proofs.Lays2.n20 P r) (he : Enterable P (r.f 20)) {e : TypeId} (zs : List Int) (hl : zs.length ≤ 9223372036854775807) :
    Meets P (r.f 20) [(false, [.own 1 e (zs.map rowI)])] ⟨false, [(false, [.own 1 e ((Lib.compact zs).map rowI)])]⟩ := by
  refine ⟨he, fun w S vals bs hlim _ hcomps hnd => ?_⟩
  have hrl : (zs.map rowI).length = zs.length := List.length_map ..
  generalize hrows : zs.map rowI = rows at hcomps hrl
  cases hcomps with
  | one h1 h2 =>
    cases h2
    cases h1 with
    | ownNil t =>
      cases t
      have hz : zs = [] := by simpa using hrows
      subst hz
      refine (Proofs.Any.slices_Compact_int_empty L _ 0 w).mono ?_
      rintro e' w' ⟨rfl, rfl⟩
      refine ⟨_, S, [], rfl, ?_, .nil, ⟨rfl, rfl, rfl, Nat.le_refl _, fun _ _ _ => rfl, fun _ h => h, hlim, fun _ h => .inl h, by simp⟩⟩
      exact Comps.one (CVs.ownNil .nil) .nil
    | @own _ _ _ g cc _ _ _ hc hk hblk hS t =>
      cases t
      subst hrows
      obtain ⟨r1, r2, r3, cur, r4, r5, r7, r6⟩ := hblk
      rw [hrl] at r1 ⊢
      have hlt : g < w.heap.size := (Array.getElem?_eq_some_iff.1 r4).1
      have hcell : ∀ j (hj : j < zs.length), cur[j]? = some (.int .i64 zs[j]) := fun j hj => by
        obtain ⟨v, hv1, hv2⟩ := r6 j 0 (rowI zs[j]) (.v (.int .i64 zs[j])) (by rw [List.getElem?_map, List.getElem?_eq_getElem hj]; rfl) rfl
        cases hv2
        simpa using hv1
      have hH : Holds (Value.int .i64) w g 0 zs.toArray := fun j hj => by
        have hj' : j < zs.length := by simpa using hj
        have e2 : zs.toArray[j]! = zs[j] := by rw [getElem!_pos zs.toArray j hj]; simp
        rw [e2]
        refine ⟨?_, ?_⟩
        · simp only [World.cell?, r4, Nat.zero_add]
          simpa using hcell j hj'
        · simp [World.frozen?, r4]
      refine (Proofs.Any.slices_Compact_int L g 0 cc zs w hH hl r1).mono ?_
      rintro e' w' ⟨rfl, n, rfl⟩
      have hcl : (Lib.compact zs).length ≤ zs.length := by
        unfold Lib.compact Lib.compactUpTo
        rw [List.length_map]
        exact Nat.le_trans (List.length_filter_le _ _) (by simp)
      obtain ⟨ys, hys⟩ : ∃ ys, ys = Lib.compact zs ++ List.replicate (zs.length - (Lib.compact zs).length) 0 := ⟨_, rfl⟩
      have hyl : ys.length = zs.length := by rw [hys]; simp; omega
      have hget : ∀ i z, (Lib.compact zs)[i]? = some z → ys[i]? = some z := fun i z h => by
        rw [hys, List.getElem?_append_left (List.getElem?_eq_some_iff.1 h).1]; exact h
      have hg2 : ∀ n, (putRow (Value.int .i64) (Sort.ahead w n) g 0 ys.toArray).heap[g]? = some (.cells (putCells (Value.int .i64) 0 ys.toArray cur) e (0, 0)) := fun n => by
        have := heap_sorted (n := n) (ys := ys) (os := #[]) r4
        simpa using this
      have hsame : ∀ n b, b < w.heap.size → b ≠ g → (putRow (Value.int .i64) (Sort.ahead w n) g 0 ys.toArray).heap[b]? = w.heap[b]? := fun n b h1 h2 => by
        have := heap_sorted_other (n := n) (ys := ys) (os := #[]) h1 h2
        simpa using this
      rw [← hys]
      obtain ⟨w', hw'⟩ : ∃ w', w' = putRow (Value.int .i64) (Sort.ahead w n) g 0 ys.toArray := ⟨_, rfl⟩
      have hos : w'.os = w.os := by rw [hw']; rfl
      have htape : w'.tape = w.tape := by rw [hw']; rfl
      have hout : w'.output = w.output := by rw [hw']; rfl
      have hsz : w.heap.size = w'.heap.size := by rw [hw']; simp
      have hg3 := hg2 n
      have hsame3 := hsame n
      rw [← hw'] at hg3 hsame3 ⊢
      clear hw' hg2 hsame
      have hkeep : Keeps S w w' := fun b hb => hsame3 b (hlim b hb) (fun e3 => hS (e3 ▸ hb))
      refine ⟨_, S, [g], rfl, ?_, by simp, ⟨hos, htape, hout, by omega, fun b h1 h2 => hsame3 b h1 (by simpa using h2), fun _ h => h, fun b hb => by have := hlim b hb; omega, fun _ h => .inl h, fun b hb => ?_⟩⟩
      · have hml : ((Lib.compact zs).map rowI).length = (Lib.compact zs).length := List.length_map ..
        refine Comps.one (bs := [g]) ?_ .nil
        have hb2 : RowBlk w' S 1 e ((Lib.compact zs).map rowI) g cc := ⟨by rw [hml]; omega, r2, r3, _, hg3, by simp [putCells, r5], ?_, ?_⟩
        · have := CVs.own (cs := []) (us := []) (bs := []) hc (by simp [rowI]) hb2 hS .nil
          rw [hml] at this
          exact this
        · intro v hv
          simp only [putCells, Array.toList_mapIdx, List.mem_iff_getElem?, List.getElem?_mapIdx, Option.map_eq_some_iff] at hv
          obtain ⟨j, x, hx, rfl⟩ := hv
          split
          · exact ⟨.v (.int .i64 _), .v _ rfl⟩
          · obtain ⟨d, hd⟩ := r7 x (List.mem_of_getElem? hx)
            exact ⟨d, hd.mono (fun _ h => h) hkeep⟩
        · intro i j row d hi hj
          rw [List.getElem?_map, Option.map_eq_some_iff] at hi
          obtain ⟨z, hz, rfl⟩ := hi
          have hz' := hget i z hz
          have hil : i < ys.length := (List.getElem?_eq_some_iff.1 hz').1
          cases j with
          | succ j => simp [rowI] at hj
          | zero =>
            simp only [rowI, List.getElem?_cons_zero, Option.some.injEq] at hj
            subst hj
            refine ⟨.int .i64 z, ?_, .v _ rfl⟩
            have hic : i < cur.size := by rw [r5]; omega
            have hya : ys.toArray[i]! = z := by
              rw [getElem!_pos ys.toArray i (by simpa using hil)]
              have := (List.getElem?_eq_some_iff.1 hz').2
              simpa using this
            simp only [putCells, Nat.mul_one, Nat.add_zero, Array.getElem?_mapIdx, Array.getElem?_eq_getElem hic, Option.map_some]
            rw [if_pos (by simp; omega), Nat.sub_zero, hya]
      · simp at hb
        subst hb
        exact ⟨hS, .inl (by simp), by omega⟩
end Go.Eng
namespace Go.Proofs
open Go.Shelf
def Tryz.lays189_ren : Go.Shelf.Ren := ⟨fun | 189 => 45 | 125 => 117 | 257 => 116 | 128 => 192 | 129 => 193 | 294 => 183 | 295 => 184 | 296 => 185 | 297 => 186 | 298 => 187 | 299 => 188 | 216 => 189 | 300 => 190 | 301 => 191 | 328 => 237 | 329 => 238 | 330 => 239 | 331 => 240 | 332 => 241 | 215 => 163 | 343 => 278 | n => n, fun | 28 => 53 | 3 => 3 | 46 => 158 | 0 => 0 | 51 => 257 | 53 => 56 | 4 => 4 | 183 => 250 | 182 => 249 | 131 => 95 | 5 => 5 | 9 => 9 | 218 => 300 | 222 => 304 | 228 => 332 | 229 => 333 | n => n, fun | n => n⟩
theorem Tryz.lays189 : Go.Proofs.Lays.n189 Tryz.prog Tryz.lays189_ren := {
  mixed := by kernel_rfl
  f125 := Tryz.func117.trans (congrArg some (by kernel_rfl))
  f128 := Tryz.func192.trans (congrArg some (by kernel_rfl))
  f129 := Tryz.func193.trans (congrArg some (by kernel_rfl))
  f189 := Tryz.func45.trans (congrArg some (by kernel_rfl))
  f215 := Tryz.func163.trans (congrArg some (by kernel_rfl))
  f216 := Tryz.func189.trans (congrArg some (by kernel_rfl))
  f257 := Tryz.func116.trans (congrArg some (by kernel_rfl))
  f294 := Tryz.func183.trans (congrArg some (by kernel_rfl))
  f295 := Tryz.func184.trans (congrArg some (by kernel_rfl))
  f296 := Tryz.func185.trans (congrArg some (by kernel_rfl))
  f297 := Tryz.func186.trans (congrArg some (by kernel_rfl))
  f298 := Tryz.func187.trans (congrArg some (by kernel_rfl))
  f299 := Tryz.func188.trans (congrArg some (by kernel_rfl))
  f300 := Tryz.func190.trans (congrArg some (by kernel_rfl))
  f301 := Tryz.func191.trans (congrArg some (by kernel_rfl))
  f328 := Tryz.func237.trans (congrArg some (by kernel_rfl))
  f329 := Tryz.func238.trans (congrArg some (by kernel_rfl))
  f330 := Tryz.func239.trans (congrArg some (by kernel_rfl))
  f331 := Tryz.func240.trans (congrArg some (by kernel_rfl))
  f332 := Tryz.func241.trans (congrArg some (by kernel_rfl))
  f343 := Tryz.func278.trans (congrArg some (by kernel_rfl))
  t0 := Tryz.underlying0
  a0 := Tryz.isAgg0
  z0 := Tryz.sizeOf0
  v0 := Tryz.zeroValue0
  t3 := Tryz.underlying3
  a3 := Tryz.isAgg3
  z3 := Tryz.sizeOf3
  v3 := Tryz.zeroValue3
  t4 := Tryz.underlying4
  a4 := Tryz.isAgg4
  z4 := Tryz.sizeOf4
  v4 := Tryz.zeroValue4
  t5 := Tryz.underlying5
  a5 := Tryz.isAgg5
  z5 := Tryz.sizeOf5
  v5 := Tryz.zeroValue5
  t9 := Tryz.underlying9
  a9 := Tryz.isAgg9
  z9 := Tryz.sizeOf9
  v9 := Tryz.zeroValue9
  t28 := Tryz.underlying53
  a28 := Tryz.isAgg53
  z28 := Tryz.sizeOf53
  v28 := Tryz.zeroValue53
  t46 := Tryz.underlying158
  a46 := Tryz.isAgg158
  z46 := Tryz.sizeOf158
  v46 := Tryz.zeroValue158
  t51 := Tryz.underlying257
  a51 := Tryz.isAgg257
  z51 := Tryz.sizeOf257
  v51 := Tryz.zeroValue257
  t53 := Tryz.underlying56
  a53 := Tryz.isAgg56
  z53 := Tryz.sizeOf56
  v53 := Tryz.zeroValue56
  t131 := Tryz.underlying95
  a131 := Tryz.isAgg95
  z131 := Tryz.sizeOf95
  v131 := Tryz.zeroValue95
  t182 := Tryz.underlying249
  a182 := Tryz.isAgg249
  z182 := Tryz.sizeOf249
  v182 := Tryz.zeroValue249
  t183 := Tryz.underlying250
  a183 := Tryz.isAgg250
  z183 := Tryz.sizeOf250
  v183 := Tryz.zeroValue250
  t218 := Tryz.underlying300
  a218 := Tryz.isAgg300
  z218 := Tryz.sizeOf300
  v218 := Tryz.zeroValue300
  t222 := Tryz.underlying304
  a222 := Tryz.isAgg304
  z222 := Tryz.sizeOf304
  v222 := Tryz.zeroValue304
  t228 := Tryz.underlying332
  a228 := Tryz.isAgg332
  z228 := Tryz.sizeOf332
  v228 := Tryz.zeroValue332
  t229 := Tryz.underlying333
  a229 := Tryz.isAgg333
  z229 := Tryz.sizeOf333
  v229 := Tryz.zeroValue333 }
def Tryz.laysCompact_ren : Go.Shelf.Ren := ⟨fun | 20 => 46 | n => n, fun | 22 => 53 | 3 => 3 | 4 => 4 | 0 => 0 | n => n, fun | n => n⟩
theorem Tryz.laysCompact : Go.Proofs.Lays2.n20 Tryz.prog Tryz.laysCompact_ren := {
  mixed := by kernel_rfl
  f20 := Tryz.func46.trans (congrArg some (by kernel_rfl))
  t0 := Tryz.underlying0
  a0 := Tryz.isAgg0
  z0 := Tryz.sizeOf0
  v0 := Tryz.zeroValue0
  t3 := Tryz.underlying3
  a3 := Tryz.isAgg3
  z3 := Tryz.sizeOf3
  v3 := Tryz.zeroValue3
  t4 := Tryz.underlying4
  a4 := Tryz.isAgg4
  z4 := Tryz.sizeOf4
  v4 := Tryz.zeroValue4
  t22 := Tryz.underlying53
  a22 := Tryz.isAgg53
  z22 := Tryz.sizeOf53
  v22 := Tryz.zeroValue53
  i3 := by kernel_rfl }
end Go.Proofs
namespace Go.Proofs.YtbgcpopmippbiaaGreatDoor
open Go.Eng
/-- A call of slices.Sort: the own row is sorted. -/
theorem vsort {ro : Option Nat} {pin : Pin} {R : Reg} {acc : List Ft} {st : St} {j : Nat} {cv : Option (List (Bool × List CV))} {K : Kop} {KH : AT → List (Nat × Option AObj) → Nat → Prop} {o : Nat} {e : TypeId} (zs : List Int) (hl : zs.length < 4611686018427387904) (hd : R.draw = false)
    (ho : getO st.objs o = some (.row 1 e (zs.map rowI) true)) (h : KH (.tup []) ((o, some (.row 1 e ((sortI zs).map rowI) true)) :: st.objs) (R.N + 8 * j)) : VCall ⟨Tryz.prog, tys, ro, pin⟩ R acc st j (some (45, [(false, [.own o])])) cv K KH :=
  callH hd (hcall_sort (E := ⟨Tryz.prog, tys, ro, pin⟩) Tryz.lays189 (enterable (Tryz.func45) rfl rfl) hl ho h)
theorem compact_ok {e : TypeId} (zs : List Int) (hl : zs.length ≤ 9223372036854775807) : Meets Tryz.prog 46 [(false, [.own 1 e (zs.map rowI)])] (rOne (.own 1 e ((Lib.compact zs).map rowI))) :=
  meets_compact Tryz.laysCompact (enterable (Tryz.func46) rfl rfl) zs hl
end Go.Proofs.YtbgcpopmippbiaaGreatDoor
