/- Soundness: lengths, slices of slices, functions made, append. -/
import Derived.Test.YtfgejhlgenaniaaDoorEngG
namespace Go.Eng

section
variable {P : Program} {Γ : Ctx} {c : Base} {nt : Nat} {env : Nat → AT} {ob : Nat → Option AObj} {ρ : Where} {S : Nat → Prop} {a : Act} {w : World}
variable {N : Nat} {o : Oper} {r : AOut}

theorem rows_own (hr : Rel c nt env ob ρ S a w) {oo k : Nat} {ety : TypeId} {rows : List (List D)} {live : Bool} {A : Option Addr} {n cc : Nat} (hob : ob oo = some (.row k ety rows live)) (hρ : ρ oo = some (.slice A n cc)) :
    n = rows.length ∧ rows.length ≤ cc ∧ ∃ us, Flat w S k rows us ∧ ∀ (j : Nat) (v : Value), us[j]? = some v → ∃ ad, A = some ad ∧ w.cell? (ad.add j) = some v := by
  obtain ⟨hh, h1, h2⟩ := hr.obj oo _ hob
  rw [hρ] at h1; cases h1
  obtain ⟨hk, h3⟩ := h2
  rcases h3 with ⟨rfl, A', e⟩ | ⟨g, c', hc0, e, ⟨r1, r2, r3, cur, r4, r5, _, r6⟩, _, _⟩
  · cases e
    exact ⟨rfl, Nat.le_refl _, [], ⟨by simp, by simp, fun i j r d hi _ => by simp at hi⟩, fun j v hv => by simp at hv⟩
  · cases e
    have hle : rows.length * k ≤ cc * k := Nat.mul_le_mul_right _ r1
    refine ⟨rfl, r1, cur.toList.take (rows.length * k), ⟨by simp; omega, hk, fun i j r d hi hj => ?_⟩, fun j v hv => ?_⟩
    · obtain ⟨u, hu, hru⟩ := r6 i j r d hi hj
      have hil : i < rows.length := (List.getElem?_eq_some_iff.1 hi).1
      have hjk : j < k := by
        have := (List.getElem?_eq_some_iff.1 hj).1
        rwa [hk r (List.mem_of_getElem? hi)] at this
      refine ⟨u, ?_, hru⟩
      rw [List.getElem?_take, if_pos (row_lt hil hjk)]
      simpa using hu
    · rw [List.getElem?_take] at hv
      split at hv
      · refine ⟨_, rfl, ?_⟩
        rw [add_lit, cell_of_row w g _ cur ety (0, 0) r4]
        simpa using hv
      · cases hv

theorem Flat.window {k : Nat} {rows : List (List D)} {us : List Value} (h : Flat w S k rows us) {lo n : Nat} (hn : lo + n ≤ rows.length) : Flat w S k ((rows.drop lo).take n) ((us.drop (lo * k)).take (n * k)) := by
  have h1 : (lo + n) * k ≤ rows.length * k := Nat.mul_le_mul_right _ hn
  rw [Nat.add_mul] at h1
  have hl := h.len
  have hlen : ((rows.drop lo).take n).length = n := by simp; omega
  have hl2 : ((us.drop (lo * k)).take (n * k)).length = n * k := by rw [List.length_take, List.length_drop]; omega
  refine ⟨by rw [hl2, hlen], fun r hr => h.rowLen r (List.mem_of_mem_drop (List.mem_of_mem_take hr)), fun i j r d hi hj => ?_⟩
  rw [List.getElem?_take] at hi
  split at hi
  · rename_i hin
    rw [List.getElem?_drop] at hi
    obtain ⟨u, hu, hru⟩ := h.get _ j r d hi hj
    have hjk : j < k := by
      have h2 := (List.getElem?_eq_some_iff.1 hj).1
      rwa [h.rowLen r (List.mem_of_getElem? hi)] at h2
    refine ⟨u, ?_, hru⟩
    rw [List.getElem?_take, if_pos (row_lt hin hjk), List.getElem?_drop, ← hu]
    congr 1
    rw [Nat.add_mul]
    omega
  · cases hi

/-- A slice that is read: its header, its cells laid end to end. -/
theorem rows_src (hr : Rel c nt env ob ρ S a w) {x : AV} {u : Value} {k : Nat} {rows : List (List D)} {tc : List Nat} (h : rowsOf ob x = some (k, rows, tc)) (hx : RepAV ρ w S x u) :
    ∃ A cc us, u = .slice A rows.length cc ∧ rows.length ≤ cc ∧ Flat w S k rows us ∧ ∀ (j : Nat) (v : Value), us[j]? = some v → ∃ ad, A = some ad ∧ w.cell? (ad.add j) = some v := by
  have nil : ∀ A, ∃ A' cc us, (Value.slice A 0 0) = .slice A' ([] : List (List D)).length cc ∧ ([] : List (List D)).length ≤ cc ∧ Flat w S k [] us ∧ ∀ (j : Nat) (v : Value), us[j]? = some v → ∃ ad, A' = some ad ∧ w.cell? (ad.add j) = some v :=
    fun A => ⟨A, 0, [], rfl, Nat.le_refl _, ⟨by simp, by simp, fun i j r d hi _ => by simp at hi⟩, fun j v hv => by simp at hv⟩
  unfold rowsOf at h
  split at h
  · rename_i k' rows'
    cases h
    have hx' : Rep w S (.vec k rows) u := hx
    cases hx' with
    | vec _ _ A cc uf hc hm hk hcell hrep =>
      have key : ∀ m, m < rows.length * k → 0 < k ∧ m / k < rows.length ∧ m % k < k := fun m hm => by
        have hk0 : 0 < k := Nat.pos_of_ne_zero (fun h0 => by subst h0; simp at hm)
        refine ⟨hk0, ?_, Nat.mod_lt _ hk0⟩
        rw [Nat.div_lt_iff_lt_mul hk0]; exact hm
      refine ⟨A, cc, (List.range (rows.length * k)).map (fun m => uf (m / k) (m % k)), rfl, hc, ⟨by simp, hk, fun i j r d hi hj => ?_⟩, fun j v hv => ?_⟩
      · have hil : i < rows.length := (List.getElem?_eq_some_iff.1 hi).1
        have hjk : j < k := by
          have := (List.getElem?_eq_some_iff.1 hj).1
          rwa [hk r (List.mem_of_getElem? hi)] at this
        refine ⟨uf i j, ?_, hrep i j r d hi hj⟩
        rw [List.getElem?_map, List.getElem?_range (row_lt hil hjk)]
        simp only [Option.map_some]
        have h1 : (i * k + j) / k = i := by rw [Nat.mul_comm, Nat.mul_add_div (by omega), Nat.div_eq_of_lt hjk]; omega
        have h2 : (i * k + j) % k = j := by rw [Nat.mul_comm, Nat.mul_add_mod, Nat.mod_eq_of_lt hjk]
        rw [h1, h2]
      · simp only [List.getElem?_map, Option.map_eq_some_iff] at hv
        obtain ⟨m, hm', rfl⟩ := hv
        have hj : j < rows.length * k := by
          have := (List.getElem?_eq_some_iff.1 hm').1
          simpa using this
        rw [List.getElem?_range hj] at hm'
        cases hm'
        obtain ⟨h1, h2, h3⟩ := key j hj
        obtain ⟨ad, e, _, hcl⟩ := hcell (j / k) (j % k) h2 h3
        refine ⟨ad, e, ?_⟩
        rw [← hcl]
        congr 2
        rw [Nat.mul_comm]
        exact (Nat.div_add_mod j k).symm
  · cases h
    obtain ⟨A, rfl⟩ := hx
    exact nil A
  · rename_i oo
    split at h
    · rename_i k' ety rows' live hob
      cases h
      obtain ⟨hρ, A, n, cc, rfl⟩ := hx
      obtain ⟨rfl, h2, us, h3, h4⟩ := rows_own hr hob hρ
      exact ⟨A, cc, us, rfl, h2, h3, h4⟩
    · cases h
  · rename_i oo k2 lo n
    split at h
    · rename_i k' ety rows' live hob
      split at h
      · rename_i hc
        obtain ⟨rfl, hc⟩ := hc
        cases h
        obtain ⟨A, m, cc, A', hρ, rfl, hA⟩ := hx
        obtain ⟨rfl, h2, us, h3, h4⟩ := rows_own hr hob hρ
        have hlen : ((rows'.drop lo).take n).length = n := by simp; omega
        have h5 := h3.window hc
        refine ⟨A', cc - lo, _, by rw [hlen], by rw [hlen]; omega, h5, fun j v hv => ?_⟩
        have hjn : j < n * k := by
          have := (List.getElem?_eq_some_iff.1 hv).1
          rw [h5.len, hlen] at this
          exact this
        rw [List.getElem?_take, if_pos hjn, List.getElem?_drop] at hv
        obtain ⟨ad, e, h6⟩ := h4 _ v hv
        subst e
        have hn0 : 0 < n := Nat.pos_of_ne_zero (fun h0 => by subst h0; simp at hjn)
        refine ⟨_, hA (by omega), ?_⟩
        rw [add_add]
        exact h6
      · cases h
    · cases h
  · rename_i oo k2 lo n
    split at h
    · rename_i k' ety rows' live hob
      split at h
      · rename_i hc
        obtain ⟨rfl, hc⟩ := hc
        cases h
        obtain ⟨A, cc, A', hρ, rfl, hA⟩ := hx
        obtain ⟨h2, _, us, h3, h4⟩ := rows_own hr hob hρ
        have hlen : ((rows'.drop lo).take n).length = n := by simp; omega
        have h5 := h3.window hc
        refine ⟨A', cc - lo, _, by rw [hlen], by rw [hlen]; omega, h5, fun j v hv => ?_⟩
        have hjn : j < n * k := by
          have := (List.getElem?_eq_some_iff.1 hv).1
          rw [h5.len, hlen] at this
          exact this
        rw [List.getElem?_take, if_pos hjn, List.getElem?_drop] at hv
        obtain ⟨ad, e, h6⟩ := h4 _ v hv
        subst e
        have hn0 : 0 < n := Nat.pos_of_ne_zero (fun h0 => by subst h0; simp at hjn)
        refine ⟨_, hA (by omega), ?_⟩
        rw [add_add]
        exact h6
      · cases h
    · cases h
  · cases h

theorem sound_len (hΓ : CtxOk P Γ) (hr : Rel c nt env ob ρ S a w) (hd : dstOk nt o.dst = true) {cl : Call} (ho : o.op = .call cl) (hb : cl.callee = .builtin .len) (h : aop0 Γ N (aval Γ env) ob o = some r) : Goes P c nt N env ob ρ a w o r := by
  simp only [aop0, ho, hb] at h
  split at h
  · rename_i x t ex et
    have hx := eval_rep (Γ := Γ) hr t x
    have hargs : cl.args.map a.eval = #[a.eval x] := by
      apply Array.ext'; simp [ex]
    have htys : cl.argTypes = #[t] := by
      apply Array.ext'; simp [et]
    split at h
    · rename_i v ti ev hti
      have h1 := one_rep hx ev
      have hdd := (hΓ.ty t ti hti).desc
      split at h
      · rename_i hde
        rw [hde] at hdd
        have hund : P.underlying t = some .string := hdd
        split at h
        · rename_i s
          cases h
          have hu := v_rep (ρ := ρ) (w := w) (S := S) ⟨_, rfl, h1⟩
          exact goes_value hr hd (v := .int .i64 s.size) (by simp [execOp, ho, resolve, hb, invoke, builtin, hargs, htys, hu, Builtin.len_, run_underlying hund, goInt]) (rep_int _ _)
        · cases h
      · rename_i e hde
        rw [hde] at hdd
        have hund : P.underlying t = some (.slice e) := hdd
        simp only [Option.map_eq_some_iff] at h
        obtain ⟨⟨k, rows, tc'⟩, hrows, rfl⟩ := h
        obtain ⟨A, cc, us, hu, _⟩ := rows_src hr hrows h1
        exact goes_value hr hd (v := .int .i64 rows.length) (by simp [execOp, ho, resolve, hb, invoke, builtin, hargs, htys, hu, Builtin.len_, run_underlying hund, goInt]) (rep_int _ _)
      · cases h
    · cases h
  · cases h

theorem opt_rep (hr : Rel c nt env ob ρ S a w) {d : Nat} {x : Option Operand} {n : Int} (h : optInt (aval Γ env) d x = some n) :
    (x = none ∧ n = d) ∨ ∃ y k, x = some y ∧ a.eval y = .int k n := by
  cases x with
  | none => simp only [optInt, Option.some.injEq] at h; exact .inl ⟨rfl, h.symm⟩
  | some y =>
    obtain ⟨k, hk⟩ := int_rep (eval_rep (Γ := Γ) hr 0 y) h
    exact .inr ⟨y, k, rfl, hk⟩

theorem run_bound {k : IntKind} {n : Int} {y : Nat} {code : BoundsCode} (h : 0 ≤ n ∧ n ≤ y) (w : World) : (Instr.sliceBound (.int k n) y code).run P w = .ok n.toNat w := by
  simp [Instr.sliceBound, asIntOf, h]

theorem run_bounds (hr : Rel c nt env ob ρ S a w) {b : Bool} {len cap : Nat} {lo hi : Option Operand} {l h : Int} (hl : optInt (aval Γ env) 0 lo = some l) (hh : optInt (aval Γ env) len hi = some h) (h1 : 0 ≤ l) (h2 : l ≤ h) (h3 : h ≤ cap) (_hlc : len ≤ cap) :
    (Instr.sliceBounds b len cap (lo.map a.eval) (hi.map a.eval) none).run P w = .ok (l.toNat, h.toNat, cap) w := by
  rcases opt_rep hr hl with ⟨rfl, rfl⟩ | ⟨y, k, rfl, hy⟩ <;> rcases opt_rep hr hh with ⟨rfl, rfl⟩ | ⟨y', k', rfl, hy'⟩
  · simp [Instr.sliceBounds]
  · simp [Instr.sliceBounds, hy', run_bound (P := P) (w := w) (k := k') (n := h) (y := cap) ⟨by omega, h3⟩]
  · simp [Instr.sliceBounds, hy, run_bound (P := P) (w := w) (k := k) (n := l) (y := len) ⟨h1, h2⟩]
  · have h4 : l ≤ (h.toNat : Nat) := by omega
    simp [Instr.sliceBounds, hy, hy', run_bound (P := P) (w := w) (k := k') (n := h) (y := cap) ⟨by omega, h3⟩, run_bound (P := P) (w := w) (k := k) (n := l) (y := h.toNat) ⟨h1, h4⟩]

theorem run_bounds3 (hr : Rel c nt env ob ρ S a w) {b : Bool} {len cap : Nat} {lo : Option Operand} {hi m : Operand} {l h n : Int} (hl : optInt (aval Γ env) 0 lo = some l) (hh : (aval Γ env 0 hi).int? = some h) (hm : (aval Γ env 0 m).int? = some n) (h1 : 0 ≤ l) (h2 : l ≤ h) (h3 : h ≤ n) (h4 : n ≤ cap) :
    (Instr.sliceBounds b len cap (lo.map a.eval) (some (a.eval hi)) (some (a.eval m))).run P w = .ok (l.toNat, h.toNat, n.toNat) w := by
  obtain ⟨kh, eh⟩ := int_rep (eval_rep (Γ := Γ) hr 0 hi) hh
  obtain ⟨km, em⟩ := int_rep (eval_rep (Γ := Γ) hr 0 m) hm
  have h5 : h ≤ (n.toNat : Nat) := by omega
  have h6 : l ≤ (h.toNat : Nat) := by omega
  rcases opt_rep hr hl with ⟨rfl, rfl⟩ | ⟨y, k, rfl, hy⟩
  · simp [Instr.sliceBounds, eh, em, run_bound (P := P) (w := w) (k := km) (n := n) (y := cap) ⟨by omega, h4⟩, run_bound (P := P) (w := w) (k := kh) (n := h) (y := n.toNat) ⟨by omega, h5⟩]
  · simp [Instr.sliceBounds, eh, em, hy, run_bound (P := P) (w := w) (k := km) (n := n) (y := cap) ⟨by omega, h4⟩, run_bound (P := P) (w := w) (k := kh) (n := h) (y := n.toNat) ⟨by omega, h5⟩, run_bound (P := P) (w := w) (k := k) (n := l) (y := h.toNat) ⟨h1, h6⟩]

theorem sound_slice (hΓ : CtxOk P Γ) (hr : Rel c nt env ob ρ S a w) (hd : dstOk nt o.dst = true) {t : TypeId} {x : Operand} {lo hi mx : Option Operand} (ho : o.op = .slice t x lo hi mx) (h : aop0 Γ N (aval Γ env) ob o = some r) : Goes P c nt N env ob ρ a w o r := by
  simp only [aop0, ho] at h
  have hx := eval_rep (Γ := Γ) hr t x
  split at h
  · rename_i v ev
    have h1 := one_rep hx ev
    unfold sliceA at h
    split at h
    · rename_i s
      have hu := v_rep (ρ := ρ) (w := w) (S := S) ⟨_, rfl, h1⟩
      split at h
      · rename_i ti hti
        have hdd := (hΓ.ty t ti hti).desc
        split at h
        · rename_i l hh hde el eh
          rw [hde] at hdd
          have hund : P.underlying t = some .string := hdd
          split at h
          · rename_i hc
            cases h
            have hb := run_bounds (P := P) (b := false) hr el eh hc.1 hc.2.1 hc.2.2 (Nat.le_refl _)
            refine goes_value hr hd (v := .string (s.extract l.toNat hh.toNat)) ?_ (rep_string _)
            simp only [execOp, ho, Instr.sliceAt, Sem.run_bind, run_underlying hund, Result.andThen_ok, Instr.slice, hu, Option.map_none, Option.isSome_none, Bool.false_eq_true, if_false, Sem.run_pure, hb]
          · cases h
        · cases h
      · cases h
    · split at h
      · rename_i e he
        have hund := und_elem hΓ he
        split at h
        · rename_i k k2 rows2 tc hk hrows
          obtain ⟨A, cc, us, hu, hle, _⟩ := rows_src hr hrows h1
          split at h
          · rename_i m
            split at h
            · rename_i l0 m0 h0 e1 e2 e3
              split at h
              · rename_i hz
                obtain ⟨rfl, rfl, rfl⟩ := hz
                cases h
                obtain ⟨km, hm⟩ := int_rep (eval_rep (Γ := Γ) hr 0 m) e2
                cases hi with
                | none => cases e3
                | some hi' =>
                  obtain ⟨kh, hh⟩ := int_rep (eval_rep (Γ := Γ) hr 0 hi') e3
                  refine goes_value hr hd (v := .slice A 0 0) ?_ ⟨_, rfl, A, rfl⟩
                  rcases opt_rep hr e1 with ⟨rfl, _⟩ | ⟨y, ky, rfl, hy⟩
                  · simp [execOp, ho, Instr.sliceAt, run_underlying hund, Instr.slice, hu, Instr.sliceBounds, Instr.sliceBound, hm, hh, asIntOf, run_sizeOf' hΓ hk]
                  · simp [execOp, ho, Instr.sliceAt, run_underlying hund, Instr.slice, hu, Instr.sliceBounds, Instr.sliceBound, hm, hh, hy, asIntOf, run_sizeOf' hΓ hk]
              · split at h
                · rename_i hc
                  cases h
                  cases hi with
                  | none => cases e3
                  | some hi' =>
                    have hb := run_bounds3 (P := P) (b := true) (len := rows2.length) (cap := cc) hr e1 e3 e2 hc.1 hc.2.1 hc.2.2.1 (by omega)
                    refine goes_value hr hd (v := .slice (if m0.toNat = l0.toNat then A else A.map (·.add (l0.toNat * k))) (h0.toNat - l0.toNat) (m0.toNat - l0.toNat)) ?_ trivial
                    simp only [execOp, ho, Instr.sliceAt, Sem.run_bind, run_underlying hund, Result.andThen_ok, Instr.slice, hu, Option.map_some, hb, run_sizeOf' hΓ hk, Sem.run_pure]
                · cases h
            · cases h
          · split at h
            · rename_i k3 rows3 hav
              split at h
              · rename_i l hh el eh
                split at h
                · rename_i hc
                  obtain ⟨rfl, hc1, hc2, hc3⟩ := hc
                  cases h
                  have h2 := avD_rep hr hav h1
                  generalize hau : a.eval x = u at h2
                  cases h2 with
                  | vec _ _ A' c' uf q1 q2 q3 q4 q5 =>
                    have hb := run_bounds (P := P) (b := true) (cap := c') hr el eh hc1 hc2 (by omega) q1
                    have hl1 : l.toNat ≤ hh.toNat := by omega
                    have hl2 : hh.toNat ≤ rows3.length := by omega
                    have hlen : ((rows3.take hh.toNat).drop l.toNat).length = hh.toNat - l.toNat := by simp; omega
                    refine goes_value hr hd (v := .slice (if c' = l.toNat then A' else A'.map (·.add (l.toNat * k))) ((rows3.take hh.toNat).drop l.toNat).length (c' - l.toNat)) ?_ ⟨_, rfl, ?_⟩
                    · rw [hlen]
                      simp only [execOp, ho, Instr.sliceAt, Sem.run_bind, run_underlying hund, Result.andThen_ok, Instr.slice, hau, Option.map_none, hb, run_sizeOf' hΓ hk, Sem.run_pure]
                    · refine .vec k _ _ _ (fun i j => uf (l.toNat + i) j) (by omega) (by omega) (fun r hr => q3 r (List.mem_of_mem_take (List.mem_of_mem_drop hr))) (fun i j hi hj => ?_) (fun i j r d hi hj => ?_)
                      · rw [hlen] at hi
                        obtain ⟨ad, rfl, hS, hcl⟩ := q4 (l.toNat + i) j (by omega) hj
                        rw [if_neg (by omega)]
                        refine ⟨_, rfl, by rw [block_add]; exact hS, ?_⟩
                        rw [add_add, ← hcl]
                        congr 2
                        rw [Nat.add_mul]
                        omega
                      · rw [List.getElem?_drop, List.getElem?_take] at hi
                        split at hi
                        · exact q5 _ j r d hi hj
                        · cases hi
                · cases h
              · cases h
            · cases h
            · split at h
              · rename_i oo
                split at h
                · rename_i k3 ety3 rows3 live3 l hh hob el eh
                  split at h
                  · rename_i hc
                    obtain ⟨rfl, hc1, hc2, hc3⟩ := hc
                    cases h
                    obtain ⟨hρ, _⟩ := h1
                    rw [hu] at hρ
                    have hb := run_bounds (P := P) (b := true) (cap := cc) hr el eh hc1 hc2 (by omega) hle
                    refine goes_value hr hd (v := .slice (if cc = l.toNat then A else A.map (·.add (l.toNat * k))) (hh.toNat - l.toNat) (cc - l.toNat)) ?_ ⟨_, rfl, A, _, cc, _, hρ, rfl, fun hlt => by rw [if_neg (by omega)]⟩
                    simp only [execOp, ho, Instr.sliceAt, Sem.run_bind, run_underlying hund, Result.andThen_ok, Instr.slice, hu, Option.map_none, hb, run_sizeOf' hΓ hk, Sem.run_pure]
                  · cases h
                · cases h
              · rename_i oo k3 lo0 n0 _ _
                split at h
                · rename_i k4 ety3 rows3 live3 l hh hob el eh
                  split at h
                  · rename_i hc
                    obtain ⟨rfl, hc1, hc2, hc3⟩ := hc
                    cases h
                    obtain ⟨A1, m1, c1, A2, hρ, hu2, hA⟩ := h1
                    obtain ⟨rfl, h2, _⟩ := rows_own hr hob hρ
                    simp only [rowsOf, hob] at hrows
                    split at hrows
                    · rename_i hc4
                      have hlen : ((rows3.drop lo0).take n0).length = n0 := by simp; omega
                      have hb := run_bounds (P := P) (b := true) (cap := c1 - lo0) (len := n0) hr el eh hc1 hc2 (by omega) (by omega)
                      refine goes_value hr hd (v := .slice (if c1 - lo0 = l.toNat then A2 else A2.map (·.add (l.toNat * k))) (hh.toNat - l.toNat) (c1 - lo0 - l.toNat)) ?_ ⟨_, rfl, A1, _, c1, _, hρ, by rw [Nat.sub_sub], fun hlt => ?_⟩
                      · simp only [execOp, ho, Instr.sliceAt, Sem.run_bind, run_underlying hund, Result.andThen_ok, Instr.slice, hu2, Option.map_none, hb, run_sizeOf' hΓ hk, Sem.run_pure]
                      · rw [if_neg (by omega), hA (by omega), Option.map_map]
                        congr 1
                        funext ad
                        simp only [Function.comp, add_add, Nat.add_mul]
                    · cases hrows
                  · cases h
                · cases h
              · cases h
        · cases h
      · cases h
  · cases h

theorem ones_rep (hr : Rel c nt env ob ρ S a w) : ∀ {xs : List Operand} {ys : List AV}, onesOf (aval Γ env) xs = some ys → All2 (RepAV ρ w S) ys (xs.map a.eval)
  | [], ys, h => by
    simp only [onesOf, Option.some.injEq] at h
    subst h
    exact .nil
  | x :: xs, ys, h => by
    simp only [onesOf] at h
    split at h
    · rename_i y ys' hy hys
      cases h
      exact .cons (one_rep (eval_rep (Γ := Γ) hr 0 x) hy) (ones_rep hr hys)
    · cases h

theorem caps_rep (hr : Rel c nt env ob ρ S a w) : ∀ {xs : List AV} {ks : List CapV} {us : List Value}, capsOf ob xs = some ks → All2 (RepAV ρ w S) xs us → All2 (RepCap ρ w S) ks us
  | [], ks, us, h, hu => by
    simp only [capsOf, Option.some.injEq] at h
    subst h
    cases hu
    exact .nil
  | x :: xs, ks, us, h, hu => by
    cases hu with
    | cons h1 h2 =>
      have plain : (match avD ob x, capsOf ob xs with
          | some d, some ds => some (CapV.d d :: ds)
          | _, _ => none) = some ks → All2 (RepCap ρ w S) ks _ := fun h => by
        split at h
        · rename_i d ds hd hds
          cases h
          exact .cons (avD_rep hr hd h1) (caps_rep hr hds h2)
        · cases h
      cases x with
      | ptr o off =>
        simp only [capsOf, Option.map_eq_some_iff] at h
        obtain ⟨r, hr', rfl⟩ := h
        exact .cons h1 (caps_rep hr hr' h2)
      | _ => exact plain h

theorem sound_makeFunc (hr : Rel c nt env ob ρ S a w) (hd : dstOk nt o.dst = true) {f : FuncId} {first captured : Array Operand} (ho : o.op = .makeFunc (.func f) first captured) (h : aop0 Γ N (aval Γ env) ob o = some r) : Goes P c nt N env ob ρ a w o r := by
  simp only [aop0, ho] at h
  split at h
  · rename_i hf
    have hfirst : first = #[] := by apply Array.ext'; simpa using hf
    split at h
    · rename_i cs hcs
      have hones := ones_rep hr hcs
      split at h
      · rename_i ds hds
        cases h
        have h1 := allD_rep hr hds hones
        have hl := h1.len
        refine goes_value hr hd (v := .func (.func f) #[] (captured.map a.eval)) ?_ ⟨_, rfl, .fn f ds _ (by simpa using hl.symm) (fun j d u hj hu => ?_)⟩
        · simp [execOp, ho, Instr.makeFunc, hfirst]
        · obtain ⟨u', hu', hru⟩ := h1.get hj
          have : (captured.map a.eval)[j]? = some u' := by simpa using hu'
          rw [this] at hu
          cases hu
          exact hru
      · split at h
        · rename_i ks hks
          cases h
          refine goes_value hr hd (v := .func (.func f) #[] (captured.map a.eval)) ?_ ⟨_, rfl, captured.toList.map a.eval, ?_, caps_rep hr hks hones⟩
          · simp [execOp, ho, Instr.makeFunc, hfirst]
          · congr 1
            apply Array.ext'; simp
        · cases h
    · cases h
  · cases h

end
end Go.Eng
