/- Soundness: aggregates, stores, slices, functions made. -/
import Derived.Test.YtfgejhlgenaniaaDoorEngF
namespace Go.Eng

theorem foldl_set (off : Nat) : ∀ (vs : List Value) (n : Nat) (cells : Array Value), off + n + vs.length ≤ cells.size →
    ((vs.zipIdx n).foldl (fun cs (x : Value × Nat) => cs.setIfInBounds (off + x.2) x.1) cells).toList = splice cells.toList (off + n) vs
  | [], n, cells, _ => by simp [splice]
  | v :: vs, n, cells, h => by
    simp only [List.length_cons] at h
    simp only [List.zipIdx_cons, List.foldl_cons]
    rw [foldl_set off vs (n + 1) _ (by simp; omega)]
    unfold splice
    have hn : off + n < cells.toList.length := by simp; omega
    simp only [Array.toList_setIfInBounds, List.length_cons]
    rw [← Nat.add_assoc]
    have e1 : (cells.toList.set (off + n) v).take (off + n + 1) = cells.toList.take (off + n) ++ [v] := by
      rw [List.take_succ_eq_append_getElem (by simpa using hn), List.take_set_of_le (Nat.le_refl _)]
      simp
    have e2 : (cells.toList.set (off + n) v).drop (off + n + 1 + vs.length) = cells.toList.drop (off + n + (vs.length + 1)) := by
      rw [List.drop_set_of_lt (by omega)]
      congr 1
      omega
    rw [e1, e2]
    simp

theorem fold_splice (v : Value) (off : Nat) (cells : Array Value) (h : off + v.cells.size ≤ cells.size) :
    (v.cells.zipIdx.foldl (fun cs (x : Value × Nat) => cs.setIfInBounds (off + x.2) x.1) cells).toList = splice cells.toList off v.cells.toList := by
  have := foldl_set off v.cells.toList 0 cells (by simpa using h)
  rw [← Array.foldl_toList]
  simpa using this

theorem All2.splice {α β : Type} {R : α → β → Prop} {cs ys : List α} {us vs : List β} (h : All2 R cs us) (h' : All2 R ys vs) (off : Nat) : All2 R (splice cs off ys) (splice us off vs) := by
  unfold Eng.splice
  rw [h'.len]
  exact ((h.take off).append h').append (h.drop _)

theorem splice_len {α : Type} {cs ys : List α} {off : Nat} (h : off + ys.length ≤ cs.length) : (splice cs off ys).length = cs.length := by
  unfold splice
  simp
  omega

theorem splice_get {α : Type} {cs ys : List α} {off : Nat} (h : off + ys.length ≤ cs.length) (i : Nat) :
    (splice cs off ys)[i]? = if i < off then cs[i]? else if i < off + ys.length then ys[i - off]? else cs[i]? := by
  unfold splice
  by_cases h1 : i < off
  · rw [if_pos h1, List.append_assoc, List.getElem?_append_left (by simp; omega), List.getElem?_take, if_pos h1]
  · rw [if_neg h1]
    by_cases h2 : i < off + ys.length
    · rw [if_pos h2, List.append_assoc, List.getElem?_append_right (by simp; omega), List.getElem?_append_left (by simp; omega)]
      congr 1
      simp
      omega
    · rw [if_neg h2, List.getElem?_append_right (by simp; omega), List.getElem?_drop]
      congr 1
      simp
      omega

section
variable {P : Program} {Γ : Ctx} {c : Base} {nt : Nat} {env : Nat → AT} {ob : Nat → Option AObj} {ρ : Where} {S : Nat → Prop} {a : Act} {w : World}
variable {N : Nat} {o : Oper} {r : AOut}

theorem run_places (flds : List Field) (hi : ∀ f ∈ flds, (P.info? f.type).isSome = true) (w : World) :
    (flds.mapM (fun f => do let s ← sizeOf f.type; pure (f.offset, s) : Field → Sem (Nat × Nat))).run P w = .ok (flds.map fun f => (f.offset, P.cellsOf f.type)) w := by
  induction flds with
  | nil => simp
  | cons f flds ih =>
    have h1 := hi f (List.mem_cons_self ..)
    obtain ⟨i, h2⟩ := Option.isSome_iff_exists.mp h1
    have ih := ih fun g hg => hi g (List.mem_cons_of_mem _ hg)
    simp only [List.mapM_cons, Sem.run_bind, sizeOf, typeInfo, run_program, Result.andThen_ok, h2, Sem.run_pure] at ih ⊢
    rw [ih]
    simp [Program.cellsOf, h2]

theorem cellsOf_size (hΓ : CtxOk P Γ) {t : TypeId} {k : Nat} (h : Γ.size t = some k) : P.cellsOf t = k := by
  unfold Ctx.size at h
  cases hti : Γ.ty t with
  | none => rw [hti] at h; cases h
  | some ti =>
    rw [hti] at h; cases h
    obtain ⟨i, z, h1, h2, _⟩ := (hΓ.ty t ti hti).info
    simp [Program.cellsOf, h1, h2]

theorem fillA_run (hΓ : CtxOk P Γ) (hr : Rel c nt env ob ρ S a w) (flds : List Field) : ∀ (parts : List (Nat × Operand)) (cells : List AV) (arr : Array Value) (out : List AV),
    fillA Γ (aval Γ env) (flds.map fun f => (f.offset, f.type)) cells parts = some out → All2 (RepAV ρ w S) cells arr.toList →
    ∃ arr', Instr.fill (fun i => (flds.map fun f => (f.offset, P.cellsOf f.type))[i]?) arr (parts.map fun p => (p.1, a.eval p.2)) = some arr' ∧ All2 (RepAV ρ w S) out arr'.toList
  | [], cells, arr, out, h, hc => by
    simp only [fillA, Option.some.injEq] at h
    subst h
    exact ⟨arr, rfl, hc⟩
  | (i, x) :: parts, cells, arr, out, h, hc => by
    simp only [fillA] at h
    split at h
    · rename_i off t hi
      split at h
      · rename_i k ys hk hys
        split at h
        · rename_i hle
          have h4 := cells_rep (eval_rep (Γ := Γ) hr t x) hys
          have hl := h4.len
          have hl2 := hc.len
          have hsz : (a.eval x).cells.size = k := by rw [← hle.1, hl]; simp
          have hoff : off + (a.eval x).cells.size ≤ arr.size := by rw [hsz]; simp at hl2; omega
          have hs := fold_splice (a.eval x) off arr hoff
          obtain ⟨arr', e1, e2⟩ := fillA_run hΓ hr flds parts _ _ out h (by rw [hs]; exact hc.splice h4 off)
          refine ⟨arr', ?_, e2⟩
          simp only [List.getElem?_map, Option.map_eq_some_iff] at hi
          obtain ⟨f, hf, hfe⟩ := hi
          cases hfe
          simp only [List.map_cons, Instr.fill, List.getElem?_map, hf, Option.map_some, cellsOf_size hΓ hk]
          rw [if_neg (by simp [hsz]; omega)]
          simpa [List.getElem?_map] using e1
        · cases h
      · cases h
    · cases h

theorem sound_build (hΓ : CtxOk P Γ) (hr : Rel c nt env ob ρ S a w) (hd : dstOk nt o.dst = true) {t : TypeId} {parts : Array (Nat × Operand)} (ho : o.op = .build t parts) (h : aop0 Γ N (aval Γ env) ob o = some r) : Goes P c nt N env ob ρ a w o r := by
  simp only [aop0, ho] at h
  split at h
  · rename_i ti fs hti hfs
    simp only [Option.map_eq_some_iff] at h
    obtain ⟨cells, hcells, rfl⟩ := h
    obtain ⟨flds, hund, rfl, _, _, _, hinfo⟩ := und_fields hΓ hfs
    obtain ⟨i, z, h1, h2, _, _, h3, h4⟩ := run_typeInfo' hΓ hti w
    obtain ⟨arr', e1, e2⟩ := fillA_run hΓ hr flds.toList parts.toList ti.zero z.cells cells hcells (zero_rep h4)
    refine goes_value hr hd (v := .agg arr') ?_ ⟨arr'.toList, by simp, e2⟩
    have hm := run_places (P := P) flds.toList hinfo w
    have hp : (parts.map fun x => (x.1, a.eval x.2)).toList = parts.toList.map fun p => (p.1, a.eval p.2) := by simp
    have hmm : (flds.mapM (fun f => do let s ← sizeOf f.type; pure (f.offset, s) : Field → Sem (Nat × Nat))).run P w = .ok (flds.map fun f => (f.offset, P.cellsOf f.type)) w := by
      rw [Array.mapM_eq_mapM_toList]
      simp only [Sem.run_map, hm, Result.andThen_ok]
      congr 1
      apply Array.ext'
      simp
    have e1' : Instr.fill (fun i => (flds.map fun f => (f.offset, P.cellsOf f.type))[i]?) z.cells (parts.toList.map fun p => (p.1, a.eval p.2)) = some arr' := by
      rw [← e1]
      congr 1
      funext i
      simp
    simp only [execOp, ho, Instr.build, Sem.run_bind, zeroValue, h1, Result.andThen_ok, h3, Sem.run_pure, run_underlying hund, hmm, hp, e1']
  · cases h

theorem ptrD_rep (hr : Rel c nt env ob ρ S a w) {oo off : Nat} {cells : List AV} {u : Value} (hob : ob oo = some (.var cells false)) (hx : ∃ g, ρ oo = some (.pointer (some ⟨g, 0, none⟩)) ∧ u = .pointer (some ⟨g, off, none⟩)) : Rep w S (.pt ((cells.drop off).map unD)) u := by
  obtain ⟨g, hρ, rfl⟩ := hx
  obtain ⟨hh, h1, h2⟩ := hr.obj oo _ hob
  rw [hρ] at h1; cases h1
  obtain ⟨g', cur, ety, e1, e2, e3, _, e5⟩ := h2
  cases e1
  obtain ⟨hs, hall⟩ := e5 rfl
  refine pt_mk (ρ := ρ) (us := cur.toList.drop off) ?_ (fun j u hju => ?_)
  · have e : ((cells.drop off).map unD).map AV.d = cells.drop off := by
      rw [List.map_map]
      conv => rhs; rw [← List.map_id (cells.drop off)]
      apply List.map_congr_left
      intro y hy
      obtain ⟨z, rfl⟩ := hall y (List.mem_of_mem_drop hy)
      rfl
    rw [e]
    exact e3.drop off
  · refine ⟨?_, hs⟩
    rw [add_lit', cell_of_row w g _ cur ety (0, 0) e2]
    simpa [List.getElem?_drop] using hju

theorem capsD_rep (hr : Rel c nt env ob ρ S a w) : ∀ {ks : List CapV} {ds : List D} {us : List Value}, capsD ob ks = some ds → All2 (RepCap ρ w S) ks us → All2 (Rep w S) ds us
  | [], ds, us, h, hu => by
    simp only [capsD, Option.some.injEq] at h
    subst h
    cases hu
    exact .nil
  | .d x :: ks, ds, us, h, hu => by
    simp only [capsD, Option.map_eq_some_iff] at h
    obtain ⟨ds', h1, rfl⟩ := h
    cases hu with
    | cons h2 h3 => exact .cons h2 (capsD_rep hr h1 h3)
  | .ptr oo off :: ks, ds, us, h, hu => by
    simp only [capsD] at h
    split at h
    · rename_i cells ds' hob h1
      cases h
      cases hu with
      | cons h2 h3 => exact .cons (ptrD_rep hr hob h2) (capsD_rep hr h1 h3)
    · cases h

theorem avD_rep (hr : Rel c nt env ob ρ S a w) {x : AV} {d : D} {u : Value} (h : avD ob x = some d) (hx : RepAV ρ w S x u) : Rep w S d u := by
  cases x with
  | d y => cases h; exact hx
  | nils k =>
    cases h
    obtain ⟨A, rfl⟩ := hx
    exact .vec k [] A 0 (fun _ _ => undef) (Nat.le_refl _) (by simp [maxLen]) (by simp) (fun i j hi _ => absurd hi (by simp)) (fun i j r d hi _ => by simp at hi)
  | own oo =>
    obtain ⟨hρ, A, n, cc, rfl⟩ := hx
    simp only [avD] at h
    split at h
    · rename_i k ety rows hob
      cases h
      obtain ⟨hh, h1, h2⟩ := hr.obj oo _ hob
      rw [hρ] at h1; cases h1
      obtain ⟨hk, h3⟩ := h2
      rcases h3 with ⟨rfl, A', e⟩ | ⟨g, c', _, e, ⟨r1, r2, r3, cur, r4, r5, r7, r6⟩, _, hs⟩
      · cases e
        exact .vec k [] A 0 (fun _ _ => undef) (Nat.le_refl _) (by simp [maxLen]) (by simp) (fun i j hi _ => absurd hi (by simp)) (fun i j r d hi _ => by simp at hi)
      · cases e
        refine .vec k rows _ _ (fun i j => cur.getD (i * k + j) undef) r1 r2 hk (fun i j hi hj => ?_) (fun i j rr d hi hj => ?_)
        · have hri : rows[i]? = some rows[i] := List.getElem?_eq_getElem hi
          have hrl := hk _ (List.getElem_mem hi)
          have hjd : rows[i][j]? = some (rows[i][j]'(by omega)) := List.getElem?_eq_getElem (by omega)
          obtain ⟨u, hu, _⟩ := r6 i j _ _ hri hjd
          refine ⟨_, rfl, hs rfl, ?_⟩
          rw [add_lit, cell_of_row w g _ cur ety (0, 0) r4, hu]
          simp [Array.getD_eq_getD_getElem?, hu]
        · obtain ⟨u, hu, hru⟩ := r6 i j _ _ hi hj
          simp only [Array.getD_eq_getD_getElem?, hu, Option.getD_some]
          exact hru
    · cases h
  | ptr oo off =>
    simp only [avD] at h
    split at h
    · rename_i cells hob
      cases h
      exact ptrD_rep hr hob hx
    · cases h
  | eptr => cases h
  | win => cases h
  | wx => cases h
  | yld => cases h
  | vsl => cases h
  | clo f ks =>
    simp only [avD, Option.map_eq_some_iff] at h
    obtain ⟨ds, h1, rfl⟩ := h
    obtain ⟨vs, rfl, h2⟩ := hx
    have h3 := capsD_rep hr h1 h2
    refine .fn f ds _ (by simpa using h3.len.symm) fun j d u hj hu => ?_
    obtain ⟨u', hu', hru⟩ := h3.get hj
    have : vs.toArray[j]? = some u' := by simpa using hu'
    rw [this] at hu
    cases hu
    exact hru

theorem allD_rep (hr : Rel c nt env ob ρ S a w) : ∀ {xs : List AV} {ds : List D} {us : List Value}, allD ob xs = some ds → All2 (RepAV ρ w S) xs us → All2 (Rep w S) ds us
  | [], ds, us, h, hu => by
    cases hu
    simp only [allD, Option.some.injEq] at h
    subst h
    exact .nil
  | x :: xs, ds, us, h, hu => by
    simp only [allD] at h
    split at h
    · rename_i d ds' hd hds
      cases h
      cases hu with
      | cons h1 h2 => exact .cons (avD_rep hr hd h1) (allD_rep hr hds h2)
    · cases h

/-- Rows laid end to end. -/
structure Flat (w : World) (S : Nat → Prop) (k : Nat) (rows : List (List D)) (us : List Value) : Prop where
  len : us.length = rows.length * k
  rowLen : ∀ r ∈ rows, r.length = k
  get : ∀ (i j : Nat) (r : List D) (d : D), rows[i]? = some r → r[j]? = some d → ∃ u, us[i * k + j]? = some u ∧ Rep w S d u

theorem row_idx {i i' k j j' : Nat} (hj : j < k) (hj' : j' < k) (h : i * k + j = i' * k + j') : i = i' ∧ j = j' := by
  have h1 : (i * k + j) / k = i := by rw [Nat.mul_comm, Nat.mul_add_div (by omega), Nat.div_eq_of_lt hj]; omega
  have h2 : (i' * k + j') / k = i' := by rw [Nat.mul_comm, Nat.mul_add_div (by omega), Nat.div_eq_of_lt hj']; omega
  have : i = i' := by rw [← h1, ← h2, h]
  subst this
  exact ⟨rfl, by omega⟩

theorem row_lt {i n k j : Nat} (hi : i < n) (hj : j < k) : i * k + j < n * k := by
  have : (i + 1) * k ≤ n * k := Nat.mul_le_mul_right _ hi
  rw [Nat.add_mul] at this
  omega

theorem Spare.splice {w : World} {S : Nat → Prop} {cur : Array Value} {ys : List Value} (h : Spare w S cur) (hy : ∀ v ∈ ys, ∃ d, Rep w S d v) (off : Nat) : Spare w S (Go.Eng.splice cur.toList off ys).toArray := fun u hu => by
  simp only [Go.Eng.splice, List.mem_append] at hu
  rcases hu with (hu | hu) | hu
  · exact h u (List.mem_of_mem_take hu)
  · exact hy u hu
  · exact h u (List.mem_of_mem_drop hu)

theorem flat_rep {k : Nat} {rows : List (List D)} {us : List Value} (h : Flat w S k rows us) : ∀ v ∈ us, ∃ d, Rep w S d v := fun v hv => by
  obtain ⟨j, hj⟩ := List.getElem?_of_mem hv
  have hjl : j < rows.length * k := by rw [← h.len]; exact (List.getElem?_eq_some_iff.1 hj).1
  have hk0 : 0 < k := Nat.pos_of_ne_zero (fun h0 => by subst h0; simp at hjl)
  have h1 : j / k < rows.length := by rw [Nat.div_lt_iff_lt_mul hk0]; exact hjl
  have h2 : j % k < k := Nat.mod_lt _ hk0
  have h3 : rows[j / k]? = some rows[j / k] := List.getElem?_eq_getElem h1
  have h4 := h.rowLen _ (List.getElem_mem h1)
  have h5 : (rows[j / k])[j % k]? = some ((rows[j / k])[j % k]'(by omega)) := List.getElem?_eq_getElem (by omega)
  obtain ⟨u, hu, hru⟩ := h.get _ _ _ _ h3 h5
  have h6 : j / k * k + j % k = j := by rw [Nat.mul_comm]; exact Nat.div_add_mod j k
  rw [h6, hj] at hu
  cases hu
  exact ⟨_, hru⟩

theorem Flat.set {k : Nat} {rows : List (List D)} {us vs : List Value} (h : Flat w S k rows us) {i : Nat} {ds : List D} (hi : i < rows.length) (hl : ds.length = k) (hv : All2 (Rep w S) ds vs) :
    Flat w S k (rows.set i ds) (splice us (i * k) vs) := by
  have hvl := hv.len
  have hle : i * k + vs.length ≤ us.length := by
    rw [h.len, ← hvl, hl]
    have : (i + 1) * k ≤ rows.length * k := Nat.mul_le_mul_right _ hi
    rw [Nat.add_mul] at this
    omega
  refine ⟨by rw [splice_len hle, h.len]; simp, fun r hr => ?_, fun i' j r d hi' hj => ?_⟩
  · rcases List.mem_or_eq_of_mem_set hr with hr | rfl
    · exact h.rowLen r hr
    · exact hl
  · rw [List.getElem?_set] at hi'
    split at hi'
    · rename_i e
      subst e
      first | (rw [if_pos hi] at hi'; cases hi') | cases hi'
      obtain ⟨u, hu, hru⟩ := hv.get hj
      have hjk : j < vs.length := (List.getElem?_eq_some_iff.1 hu).1
      refine ⟨u, ?_, hru⟩
      rw [splice_get hle, if_neg (by omega), if_pos (by omega)]
      simpa using hu
    · rename_i e
      obtain ⟨u, hu, hru⟩ := h.get i' j r d hi' hj
      refine ⟨u, ?_, hru⟩
      have hjk : j < k := by
        have := (List.getElem?_eq_some_iff.1 hj).1
        rwa [h.rowLen r (List.mem_of_getElem? hi')] at this
      rw [splice_get hle]
      split
      · exact hu
      · rename_i h1
        split
        · rename_i h2
          exfalso
          have h3 : i * k ≤ i' * k + j := by omega
          have h4 : i' * k + j < i * k + k := by omega
          rcases Nat.lt_trichotomy i i' with h5 | h5 | h5
          · have : (i + 1) * k ≤ i' * k := Nat.mul_le_mul_right _ h5
            rw [Nat.add_mul] at this
            omega
          · exact e h5
          · have : (i' + 1) * k ≤ i * k := Nat.mul_le_mul_right _ h5
            rw [Nat.add_mul] at this
            omega
        · exact hu

theorem fillRows_run (hr : Rel c nt env ob ρ S a w) (e : TypeId) (k n : Nat) : ∀ (parts : List (Nat × Operand)) (rows : List (List D)) (arr : Array Value) (out : List (List D) × List Nat),
    fillRows ob (aval Γ env) e k rows parts = some out → Flat w S k rows arr.toList → rows.length = n →
    ∃ arr', Instr.fill (fun i => some (i * k, k)) arr (parts.map fun p => (p.1, a.eval p.2)) = some arr' ∧ Flat w S k out.1 arr'.toList ∧ out.1.length = n
  | [], rows, arr, out, h, hc, hn => by
    simp only [fillRows, Option.some.injEq] at h
    subst h
    exact ⟨arr, rfl, hc, hn⟩
  | (i, x) :: parts, rows, arr, out, h, hc, hn => by
    simp only [fillRows] at h
    split at h
    · rename_i ys hys
      split at h
      · rename_i ds hds
        split at h
        · rename_i hle
          simp only [Option.map_eq_some_iff] at h
          obtain ⟨q, hq, rfl⟩ := h
          have h4 := cells_rep (eval_rep (Γ := Γ) hr e x) hys
          have h5 := allD_rep hr hds h4
          have hl := h5.len
          have hsz : (a.eval x).cells.size = k := by rw [← hle.1, hl]; simp
          have hoff : i * k + (a.eval x).cells.size ≤ arr.size := by
            have := hc.len
            simp at this
            rw [hsz, this]
            have : (i + 1) * k ≤ rows.length * k := Nat.mul_le_mul_right _ hle.2
            rw [Nat.add_mul] at this
            omega
          have hs := fold_splice (a.eval x) (i * k) arr hoff
          obtain ⟨arr', e1, e2, e3⟩ := fillRows_run hr e k n parts _ _ q hq (by rw [hs]; exact hc.set hle.2 hle.1 h5) (by simpa using hn)
          refine ⟨arr', ?_, e2, e3⟩
          simp only [List.map_cons, Instr.fill]
          rw [if_neg (by simp [hsz]; omega)]
          simpa using e1
        · cases h
      · cases h
    · cases h

theorem Flat.grows {k : Nat} {rows : List (List D)} {us : List Value} {w' : World} {S' : Nat → Prop} (h : Flat w S k rows us) (hS : ∀ b, S b → S' b) (hk : Keeps S w w') : Flat w' S' k rows us :=
  ⟨h.len, h.rowLen, fun i j r d hi hj => let ⟨u, hu, hru⟩ := h.get i j r d hi hj; ⟨u, hu, hru.mono hS hk⟩⟩

theorem sound_buildSlice (hΓ : CtxOk P Γ) (hr : Rel c nt env ob ρ S a w) (hf : ∀ n, N ≤ n → n < N + 8 → ρ n = none) (hd : dstOk nt o.dst = true) {t : TypeId} {len : Nat} {parts : Array (Nat × Operand)} (ho : o.op = .buildSlice t len parts) (h : aop0 Γ N (aval Γ env) ob o = some r) : Goes P c nt N env ob ρ a w o r := by
  simp only [aop0, ho] at h
  split at h
  · rename_i e he
    split at h
    · rename_i ti hti
      split at h
      · rename_i z hz
        split at h
        · rename_i hc
          obtain ⟨hc1, hc2, hc3, hc4⟩ := hc
          simp only [Option.map_eq_some_iff] at h
          obtain ⟨q, hq, rfl⟩ := h
          have hund := und_elem hΓ he
          obtain ⟨i, zv, h1, h2, hsz, _, h3, h4⟩ := run_typeInfo' hΓ hti w
          have hz' := allD_rep hr hz (zero_rep h4)
          have hzl := hz'.len
          have hzsz : zv.cells.size = ti.size := by rw [← hc1, hzl]; simp
          let arr0 : Array Value := (Array.range (len * ti.size)).map fun x => zv.cells[x % zv.cells.size]!
          have hflat : Flat w S ti.size (List.replicate len z) arr0.toList := by
            refine ⟨by simp [arr0], fun r hr => by rw [List.mem_replicate] at hr; rw [hr.2, hc1], fun i j r d hi hj => ?_⟩
            rw [List.getElem?_replicate] at hi
            split at hi
            · rename_i hil
              cases hi
              obtain ⟨u, hu, hru⟩ := hz'.get hj
              refine ⟨u, ?_, hru⟩
              have hjk : j < ti.size := by rw [← hc1]; exact (List.getElem?_eq_some_iff.1 hj).1
              have hidx := row_lt (k := ti.size) hil hjk
              simp only [arr0, Array.toList_map, List.getElem?_map, Array.toList_range, List.getElem?_range hidx, Option.map_some]
              have hm : (i * ti.size + j) % zv.cells.size = j := by rw [hzsz, Nat.mul_comm, Nat.mul_add_mod, Nat.mod_eq_of_lt hjk]
              rw [hm]
              simp only [Array.getElem?_toList] at hu
              simp only [getElem!_def, hu]
            · cases hi
          obtain ⟨arr', e1, e2, e3⟩ := fillRows_run hr e ti.size len parts.toList _ arr0 q hq hflat (by simp)
          have hp : (parts.map fun x => (x.1, a.eval x.2)).toList = parts.toList.map fun p => (p.1, a.eval p.2) := by simp
          have hrun : (execOp a.eval o).run P w = .ok (.value (.slice (some ⟨w.heap.size, 0, none⟩) len len)) (w.alloc (.cells arr' e)) := by
            by_cases hl0 : len = 0
            · subst hl0
              have : arr0 = #[] := by simp [arr0]
              rw [this] at e1
              simp only [execOp, ho, Instr.buildSlice, Sem.run_bind, run_underlying hund, Result.andThen_ok, sizeOf, h1, hsz, Sem.run_pure, hp]
              simp [show Array.range 0 = #[] from rfl, e1, newRow]
            · have hne : ¬ (len * ti.size = 0) := by
                intro h0
                rcases Nat.mul_eq_zero.1 h0 with h0 | h0 <;> omega
              have hgt : ¬ (2 ^ 24 < len * ti.size) := by omega
              simp only [execOp, ho, Instr.buildSlice, Sem.run_bind, run_underlying hund, Result.andThen_ok, sizeOf, h1, hsz, Sem.run_pure, hp]
              have e1' : Instr.fill (fun i => some (i * ti.size, ti.size)) ((Array.range (len * ti.size)).map fun x => zv.cells[x % zv.cells.size]!) (parts.toList.map fun p => (p.1, a.eval p.2)) = some arr' := e1
              simp [hne, hgt, zeroValue, h1, h3, e1', newRow]
          have hlen' := e2.len
          intro Q
          obtain ⟨ρ', f2, hrel⟩ := hr.new (N := N) (x := .row ti.size e q.1 true) (h := .slice (some ⟨w.heap.size, 0, none⟩) len len) (v := .slice (some ⟨w.heap.size, 0, none⟩) len len) (out := .cs false [.own N]) (o := .cells arr' e) hd (hf N (by omega) (by omega))
            (by by_cases hl0 : len = 0
                · right; simp [blkOf, hl0]
                · left; simp [blkOf, hl0])
            (fun ρ' f1 g => by
              have hgf := e2.grows g.sub g.keeps
              refine ⟨hgf.rowLen, ?_⟩
              by_cases hl0 : len = 0
              · left
                refine ⟨List.length_eq_zero_iff.1 (by omega), some ⟨w.heap.size, 0, none⟩, by rw [hl0]⟩
              · right
                refine ⟨w.heap.size, len, by omega, by rw [e3], ⟨by omega, by simp [maxLen]; omega, hc2, arr', heap_alloc_new w _, ?_, flat_rep hgf, fun i j r d hi hj => ?_⟩, fun _ hs => absurd (hr.lim _ hs) (by omega), fun hh => by cases hh⟩
                · simp at hlen'; rw [hlen', e3]
                · obtain ⟨u, hu, hru⟩ := hgf.get i j r d hi hj
                  exact ⟨u, by simpa using hu, hru⟩)
            (fun ρ' f1 => ⟨_, rfl, f1, _, _, _, rfl⟩)
          exact wp_value hrun ⟨ρ', S, hrel, fun n hn => f2 n (by omega)⟩
        · cases h
      · cases h
    · cases h
  · cases h

/-- A store into the block of a live object. -/
theorem Rel.write (hr : Rel c nt env ob ρ S a w) {oo g : Nat} {x x' : AObj} {h : Value} {out : AT} {v : Value} {dst : Option Tmp} {cs : Array Value} (hd : dstOk nt dst = true) (hob : ob oo = some x) (hρ : ρ oo = some h) (hb : blkOf h = some g) (hlive : ¬ S g)
    (hx' : Keeps S w (w.setRow g cs) → ObjRep ρ (w.setRow g cs) S h x') (hv : ∀ w', RepT ρ w' S out v) :
    Rel c nt (putF env dst out) (updO [(oo, some x')] ob) ρ S (a.put dst v) (w.setRow g cs) := by
  have hk : Keeps S w (w.setRow g cs) := fun b hbS => setRow_other w g b cs (fun e => hlive (e ▸ hbS))
  refine hr.step hd ⟨fun _ _ h => h, fun _ h => h, hk⟩ (hv _) (fun n y hy => ?_) rfl rfl rfl (by simp) (fun b hb1 hb2 => setRow_other w g b cs ?_) (fun b hbS => by simpa using hr.lim b hbS) hr.foot
  · simp only [updO] at hy
    split at hy
    · rename_i hn
      subst hn
      cases hy
      refine .inr ⟨h, hρ, hx' hk, fun b hbb => ?_⟩
      refine ⟨hr.place _ _ _ _ hob hρ hbb, fun o2 x2 h2 hx2 hh2 hb2 => ?_⟩
      simp only [updO] at hx2
      split at hx2
      · assumption
      · exact hr.sep _ _ _ _ _ _ b hx2 hob hh2 hρ hb2 hbb
    · rename_i hn
      refine .inl ⟨hy, fun h' b hh hb' => ⟨setRow_other w g b cs (fun e => hn ?_), id⟩⟩
      subst e
      exact hr.sep _ _ _ _ _ _ b hy hob hh hρ hb' hb
  · rintro rfl
    rcases hr.place _ _ _ _ hob hρ hb with (h1 | h1) | h1
    · omega
    · exact hb2 h1
    · exact hlive h1

theorem All2.cellsOne {xs : List AV} {us : List Value} (h : All2 (RepAV ρ w S) xs us) : ∀ v ∈ us, v.oneCell' = true := by
  induction h with
  | nil => simp
  | cons h _ ih =>
    intro v hv
    rcases List.mem_cons.1 hv with rfl | hv
    · exact h.one
    · exact ih v hv

theorem sound_store (hΓ : CtxOk P Γ) (hr : Rel c nt env ob ρ S a w) (hd : dstOk nt o.dst = true) {t : TypeId} {x y : Operand} (ho : o.op = .store t x y) (h : aop0 Γ N (aval Γ env) ob o = some r) : Goes P c nt N env ob ρ a w o r := by
  simp only [aop0, ho] at h
  have hx := eval_rep (Γ := Γ) hr 0 x
  have hy := eval_rep (Γ := Γ) hr t y
  have run : ∀ (g off : Nat) (ety : TypeId) (cur : Array Value) (k : Nat) (ys : List AV), a.eval x = .pointer (some ⟨g, off, none⟩) → w.heap[g]? = some (.cells cur ety (0, 0)) → Γ.size t = some k → All2 (RepAV ρ w S) ys (a.eval y).cells.toList →
      ys.length = k → off + k ≤ cur.size → (execOp a.eval o).run P w = .ok .skip (w.setRow g (splice cur.toList off (a.eval y).cells.toList).toArray) := by
    intro g off ety cur k ys he hg hk h4 hl hle
    have hl4 := h4.len
    have hsz : (a.eval y).cells.size = k := by rw [← hl, hl4]; simp
    have hs := run_storeCells_at P g off ety (a.eval y).cells.toList 0 cur w hg (by simp [hsz]; omega) h4.cellsOne
    simp only [Nat.add_zero] at hs
    simp only [execOp, ho, Instr.storeAt, he, Instr.sureAddr, Sem.run_bind, Sem.run_pure, Result.andThen_ok, storeVar, run_sizeOf' hΓ hk, hsz, ne_eq, not_true_eq_false, if_false, hs, splice]
  split at h <;> first | cases h | skip
  · rename_i oo off ys k e eys hk
    obtain ⟨g, hρ, hu⟩ := one_rep hx e
    have h4 := cells_rep hy eys
    split at h
    · rename_i cells hob
      split at h
      · rename_i hc
        cases h
        obtain ⟨hh, h1, h2⟩ := hr.obj oo _ hob
        rw [hρ] at h1; cases h1
        obtain ⟨g', cur, ety, e1, e2, e3, e4, _⟩ := h2
        cases e1
        have hl3 := e3.len
        have hl4 := h4.len
        have hrun := run g off ety cur k ys hu e2 hk h4 hc.1 (by simp at hl3; omega)
        intro Q
        refine wp_skip' hrun ⟨ρ, S, ?_, fun _ _ => rfl⟩
        refine hr.write hd hob hρ rfl (e4 rfl) (fun hk => ⟨g, _, ety, rfl, setRow_heap w g cur _ ety _ e2, ?_, e4, fun hh => by cases hh⟩) (fun w' => rfl)
        have g1 : Grows ρ ρ w (w.setRow g (splice cur.toList off (a.eval y).cells.toList).toArray) S S := ⟨fun _ _ h => h, fun _ h => h, hk⟩
        exact (e3.splice h4 off).mono fun _ _ => RepAV.grows g1
      · cases h
    · cases h
  · rename_i oo kk i j ys k e eys hk
    obtain ⟨g, n, cc, hρ, hu⟩ := one_rep hx e
    have h4 := cells_rep hy eys
    split at h
    · rename_i k' ety rows ds hob hds
      split at h
      · rename_i hc
        obtain ⟨rfl, hc2, hc3⟩ := hc
        split at h
        · rename_i rr hrr
          cases h
          have h5 := allD_rep hr hds h4
          obtain ⟨hh, h1, h2⟩ := hr.obj oo _ hob
          rw [hρ] at h1; cases h1
          obtain ⟨hkk, h3⟩ := h2
          have hi : i < rows.length := (List.getElem?_eq_some_iff.1 hrr).1
          rcases h3 with ⟨hnil, _⟩ | ⟨g', c', hc0, e1, ⟨r1, r2, r3, cur, r4, r5, r7, r6⟩, hlive, _⟩
          · subst hnil; simp at hi
          · cases e1
            have hrl : rr.length = kk := hkk rr (List.mem_of_getElem? hrr)
            have hl4 := h4.len
            have hl5 := h5.len
            have hys : ys.length = k := by rw [hl4, ← hl5, hc2]
            have hfit : i * kk + j + k ≤ cur.size := by
              have : (i + 1) * kk ≤ cc * kk := Nat.mul_le_mul_right _ (by omega)
              rw [Nat.add_mul] at this
              omega
            have hrun := run g (i * kk + j) ety cur k ys hu r4 hk h4 hys hfit
            intro Q
            refine wp_skip' hrun ⟨ρ, S, ?_, fun _ _ => rfl⟩
            refine hr.write hd hob hρ (by simp [blkOf]; omega) (hlive rfl) (fun hk => ?_) (fun w' => rfl)
            have hvl : (a.eval y).cells.toList.length = k := by rw [← hl5, hc2]
            have hle : i * kk + j + (a.eval y).cells.toList.length ≤ cur.toList.length := by rw [hvl]; simpa using hfit
            have hsl : (splice rr j ds).length = kk := by rw [splice_len (by omega), hrl]
            refine ⟨fun q hq => ?_,   .inr ⟨g, cc, hc0, by simp, ⟨by simpa using r1, r2, r3, _, setRow_heap w g cur _ ety _ r4, by simp only [List.size_toArray]; rw [splice_len hle]; simpa using r5, (r7.mono (fun _ h => h) hk).splice (fun v hv => let ⟨_, _, hd⟩ := h5.mem_right v hv; ⟨_, hd.mono (fun _ h => h) hk⟩) _, fun i' j' q d hi' hj' => ?_⟩, hlive, fun hh => by cases hh⟩⟩
            · rcases List.mem_or_eq_of_mem_set hq with hq | rfl
              · exact hkk q hq
              · exact hsl
            · simp only [List.getElem?_toArray]
              have hj'k : j' < kk := by
                have := (List.getElem?_eq_some_iff.1 hj').1
                have hql : q.length = kk := by
                  rcases List.mem_or_eq_of_mem_set (List.mem_of_getElem? hi') with hq | rfl
                  · exact hkk q hq
                  · exact hsl
                omega
              rw [splice_get hle, hvl]
              rw [List.getElem?_set] at hi'
              split at hi'
              · rename_i hii
                subst hii
                first | (rw [if_pos hi] at hi'; cases hi') | cases hi'
                rw [splice_get (by omega), hc2] at hj'
                by_cases hb1 : j' < j
                · rw [if_pos hb1] at hj'
                  rw [if_pos (by omega)]
                  obtain ⟨u, hu, hru⟩ := r6 _ _ _ _ hrr hj'
                  exact ⟨u, by simpa using hu, hru.mono (fun _ h => h) hk⟩
                · rw [if_neg hb1] at hj'
                  rw [if_neg (by omega)]
                  by_cases hb2 : j' < j + k
                  · rw [if_pos hb2] at hj'
                    rw [if_pos (by omega)]
                    obtain ⟨u, hu, hru⟩ := h5.get hj'
                    refine ⟨u, ?_, hru.mono (fun _ h => h) hk⟩
                    rw [← hu]
                    congr 1
                    omega
                  · rw [if_neg hb2] at hj'
                    rw [if_neg (by omega)]
                    obtain ⟨u, hu, hru⟩ := r6 _ _ _ _ hrr hj'
                    exact ⟨u, by simpa using hu, hru.mono (fun _ h => h) hk⟩
              · rename_i hii
                obtain ⟨u, hu, hru⟩ := r6 _ _ _ _ hi' hj'
                refine ⟨u, ?_, hru.mono (fun _ h => h) hk⟩
                have hne : ¬ (i * kk + j ≤ i' * kk + j' ∧ i' * kk + j' < i * kk + j + k) := by
                  rintro ⟨q1, q2⟩
                  rcases Nat.lt_trichotomy i i' with h7 | h7 | h7
                  · have : (i + 1) * kk ≤ i' * kk := Nat.mul_le_mul_right _ h7
                    rw [Nat.add_mul] at this
                    omega
                  · exact hii h7
                  · have : (i' + 1) * kk ≤ i * kk := Nat.mul_le_mul_right _ h7
                    rw [Nat.add_mul] at this
                    omega
                split
                · simpa using hu
                · rw [if_neg (by omega)]
                  simpa using hu
        · cases h
      · cases h
    · cases h

end
end Go.Eng
