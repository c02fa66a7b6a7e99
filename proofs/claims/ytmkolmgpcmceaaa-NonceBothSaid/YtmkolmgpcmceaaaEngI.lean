/- Soundness: append; calls. -/
import Derived.Test.YtmkolmgpcmceaaaEngH
namespace Go.Eng

section
variable {P : Program} {Γ : Ctx} {c : Base} {nt : Nat} {env : Nat → AT} {ob : Nat → Option AObj} {ρ : Where} {S : Nat → Prop} {a : Act} {w : World}
variable {N : Nat} {o : Oper} {r : AOut}

theorem updO_cases : ∀ {l : List (Nat × Option AObj)} {ob : Nat → Option AObj} {n : Nat} {x : Option AObj}, updO l ob n = x → (n, x) ∈ l ∨ ((∀ y, (n, y) ∉ l) ∧ ob n = x)
  | [], ob, n, x, h => .inr ⟨fun y hy => by simp at hy, h⟩
  | (k, y) :: l, ob, n, x, h => by
    simp only [updO] at h
    split at h
    · rename_i e
      subst e; subst h
      exact .inl (List.mem_cons_self ..)
    · rename_i e
      rcases updO_cases h with h | ⟨h1, h2⟩
      · exact .inl (List.mem_cons_of_mem _ h)
      · refine .inr ⟨fun z hz => ?_, h2⟩
        rcases List.mem_cons.1 hz with hz | hz
        · cases hz; exact e rfl
        · exact h1 z hz

/-- One object in the place of others. -/
theorem Rel.replace (hr : Rel c nt env ob ρ S a w) {N : Nat} {ts : List Nat} {x : AObj} {h v : Value} {out : AT} {dst : Option Tmp} {w' : World} (hd : dstOk nt dst = true) (hN : ρ N = none)
    (hk : Keeps S w w') (hos : w'.os = w.os) (htape : w'.tape = w.tape) (hout : w'.output = w.output) (hsz : w.heap.size ≤ w'.heap.size)
    (hsame : ∀ b, b < c.W.heap.size → ¬ c.B b → w'.heap[b]? = w.heap[b]?)
    (hx : ∀ ρ' : Where, ρ' N = some h → Grows ρ ρ' w w' S S → ObjRep ρ' w' S h x)
    (hb : ∀ b, blkOf h = some b → (c.W.heap.size ≤ b ∨ c.B b) ∧ ∀ o x' h', ob o = some x' → o ∉ ts → ρ o = some h' → blkOf h' ≠ some b)
    (hoth : ∀ o x' h' b, ob o = some x' → o ∉ ts → ρ o = some h' → blkOf h' = some b → w'.heap[b]? = w.heap[b]?)
    (hv : ∀ ρ' : Where, ρ' N = some h → RepT ρ' w' S out v) :
    ∃ ρ', (∀ n, n ≠ N → ρ' n = ρ n) ∧ Rel c nt (putF env dst out) (updO ((N, some x) :: ts.map fun o => (o, none)) ob) ρ' S (a.put dst v) w' := by
  have hne : ∀ n y, ob n = some y → n ≠ N := by
    rintro n y hy rfl
    obtain ⟨h', h1, _⟩ := hr.obj n y hy
    rw [hN] at h1; cases h1
  let ρ' : Where := fun n => if n = N then some h else ρ n
  have e1 : ρ' N = some h := by simp [ρ']
  have e2 : ∀ n, n ≠ N → ρ' n = ρ n := fun n hn => by simp [ρ', hn]
  have hg : Grows ρ ρ' w w' S S := ⟨fun n y hy => by
    rw [e2 n (fun e => by subst e; rw [hN] at hy; cases hy)]; exact hy, fun _ h => h, hk⟩
  have look : ∀ n y, updO ((N, some x) :: ts.map fun o => (o, none)) ob n = some y → (n = N ∧ y = x) ∨ (n ≠ N ∧ n ∉ ts ∧ ob n = some y) := by
    intro n y hy
    rcases updO_cases hy with h1 | ⟨h1, h2⟩
    · rcases List.mem_cons.1 h1 with h1 | h1
      · cases h1; exact .inl ⟨rfl, rfl⟩
      · simp at h1
    · refine .inr ⟨hne n y h2, fun hm => h1 none (List.mem_cons_of_mem _ (List.mem_map.2 ⟨n, hm, rfl⟩)), h2⟩
  refine ⟨ρ', e2, hr.step hd hg (hv ρ' e1) (fun n y hy => ?_) hos htape hout hsz hsame (fun b hbS => Nat.lt_of_lt_of_le (hr.lim b hbS) hsz) hr.foot⟩
  rcases look n y hy with ⟨rfl, rfl⟩ | ⟨h1, h2, h3⟩
  · refine .inr ⟨h, e1, hx ρ' e1 hg, fun b hbb => ⟨.inl (hb b hbb).1, fun o2 x2 h2 hx2 hh2 hb2 => ?_⟩⟩
    rcases look o2 x2 hx2 with ⟨rfl, _⟩ | ⟨h1, h2', h3⟩
    · rfl
    · rw [e2 _ h1] at hh2
      exact absurd hb2 ((hb b hbb).2 o2 x2 _ h3 h2' hh2)
  · exact .inl ⟨h3, fun h' b hh hb' => ⟨hoth n y h' b h3 h2 hh hb', id⟩⟩

theorem run_first {w : World} {k : Nat} {A : Option Addr} {n cc : Nat} {us : List Value} (hl : us.length = n * k) (hu : ∀ (j : Nat) (v : Value), us[j]? = some v → ∃ ad, A = some ad ∧ w.cell? (ad.add j) = some v) :
    (Builtin.firstCells k n (.slice A n cc)).run P w = .ok us.toArray w := by
  cases A with
  | none =>
    have : us = [] := by
      cases us with
      | nil => rfl
      | cons u us =>
        obtain ⟨ad, e, _⟩ := hu 0 u rfl
        cases e
    subst this
    exact run_firstCells_none w k n n cc
  | some ad =>
    refine run_firstCells_some w k n ad n cc us hl (fun j v hv => ?_)
    obtain ⟨ad', e, h⟩ := hu j v hv
    cases e
    exact h

theorem run_app_grow (t ty e : TypeId) (i : TypeInfo) (z : Value) (ht : P.underlying t = some (.slice e)) (hi : P.info? e = some i) (hz : i.zero = some z) {A A2 : Option Addr} {n m cc c2 : Nat} {olds news : List Value}
    (ho : (Builtin.firstCells i.size n (.slice A n cc)).run P w.drew = .ok olds.toArray w.drew) (hn : (Builtin.firstCells i.size m (.slice A2 m c2)).run P w.drew = .ok news.toArray w.drew)
    (hg : cc < n + m) (h63 : n + m ≤ 9223372036854775807) (hb : (n + m) * i.bytes ≤ 140737488355328) :
    (Builtin.append_ #[t, t] ty #[.slice A n cc, .slice A2 m c2]).run P w =
      .ok (.slice (some ⟨w.heap.size, 0, none⟩) (n + m) (grownCap w (n + m) cc e)) (w.drew.alloc (.cells (olds.toArray ++ news.toArray ++ Builtin.zeroCells z.cells (grownCap w (n + m) cc e - (n + m))) e)) := by
  have h1 : ¬ (n + m ≤ cc) := by omega
  have h63' : ¬ (9223372036854775807 < ((n : Int) + (m : Int))) := by omega
  have h48' : ¬ (281474976710656 < Builtin.nextslicecap (n + m) cc * i.bytes) := by have := growslice_fits hg hb; omega
  simp [Builtin.append_, run_underlying ht, sizeOf, typeInfo, zeroValue, hi, hz, Builtin.lenOf, h1, h63', h48', Question.forced, hn, ho, newRow, grownCap]
  congr 2
  apply Array.ext'
  simp [List.append_assoc]

theorem run_app_room (t ty e : TypeId) (i : TypeInfo) (ht : P.underlying t = some (.slice e)) (hi : P.info? e = some i) {A A2 : Option Addr} {n m cc c2 : Nat} {news : List Value} {w' : World}
    (hn : (Builtin.firstCells i.size m (.slice A2 m c2)).run P w = .ok news.toArray w) (hg : n + m ≤ cc)
    (hs : match A with | some ad => (storeCells (ad.add (n * i.size)) news).run P w = .ok () w' | none => w' = w) :
    (Builtin.append_ #[t, t] ty #[.slice A n cc, .slice A2 m c2]).run P w = .ok (.slice A (n + m) cc) w' := by
  cases A with
  | none => subst hs; simp [Builtin.append_, run_underlying ht, sizeOf, typeInfo, hi, Builtin.lenOf, hg, hn]
  | some ad => simp only at hs; simp [Builtin.append_, run_underlying ht, sizeOf, typeInfo, hi, Builtin.lenOf, hg, hn, hs]

theorem Flat.append {k : Nat} {rows rows2 : List (List D)} {us us2 : List Value} (h : Flat w S k rows us) (h2 : Flat w S k rows2 us2) : Flat w S k (rows ++ rows2) (us ++ us2) := by
  refine ⟨by rw [List.length_append, List.length_append, h.len, h2.len, Nat.add_mul], fun r hr => ?_, fun i j r d hi hj => ?_⟩
  · rcases List.mem_append.1 hr with hr | hr
    · exact h.rowLen r hr
    · exact h2.rowLen r hr
  · by_cases hil : i < rows.length
    · rw [List.getElem?_append_left hil] at hi
      obtain ⟨u, hu, hru⟩ := h.get i j r d hi hj
      have : i * k + j < us.length := (List.getElem?_eq_some_iff.1 hu).1
      exact ⟨u, by rw [List.getElem?_append_left this]; exact hu, hru⟩
    · rw [List.getElem?_append_right (by omega)] at hi
      obtain ⟨u, hu, hru⟩ := h2.get _ j r d hi hj
      refine ⟨u, ?_, hru⟩
      have hm : rows.length * k ≤ i * k := Nat.mul_le_mul_right _ (by omega)
      rw [List.getElem?_append_right (by rw [h.len]; omega), h.len, ← hu]
      congr 1
      rw [Nat.sub_mul]
      omega

theorem Flat.pref {k : Nat} {rows : List (List D)} {us more : List Value} (h : Flat w S k rows us) (i j : Nat) (r : List D) (d : D) (hi : rows[i]? = some r) (hj : r[j]? = some d) : ∃ u, (us ++ more)[i * k + j]? = some u ∧ Rep w S d u := by
  obtain ⟨u, hu, hru⟩ := h.get i j r d hi hj
  have : i * k + j < us.length := (List.getElem?_eq_some_iff.1 hu).1
  exact ⟨u, by rw [List.getElem?_append_left this]; exact hu, hru⟩

theorem splice_nil {α : Type} (cs : List α) (off : Nat) : splice cs off [] = cs := by simp [splice]

theorem flat_one {k : Nat} {rows : List (List D)} {us : List Value} (h : Flat w S k rows us) : ∀ v ∈ us, v.oneCell' = true := fun v hv => by
  obtain ⟨j, hj⟩ := List.getElem?_of_mem hv
  have hjl : j < rows.length * k := by rw [← h.len]; exact (List.getElem?_eq_some_iff.1 hj).1
  have hk0 : 0 < k := Nat.pos_of_ne_zero (fun h0 => by subst h0; simp at hjl)
  have h1 : j / k < rows.length := by rw [Nat.div_lt_iff_lt_mul hk0]; exact hjl
  have h2 : j % k < k := Nat.mod_lt _ hk0
  have h3 : rows[j / k]? = some rows[j / k] := List.getElem?_eq_getElem h1
  have h4 := h.rowLen _ (List.getElem_mem h1)
  have h5 : (rows[j / k])[j % k]? = some ((rows[j / k])[j % k]'(by omega)) := List.getElem?_eq_getElem (by omega)
  obtain ⟨u, hu, hru⟩ := h.get _ _ _ _ h3 h5
  have h6 : j / k * k + j % k = j := by rw [Nat.mul_comm]; exact Nat.div_add_mod j k
  rw [h6, hj] at hu
  cases hu
  exact hru.one

/-- Rows are written into an own row, from row p on. -/
theorem write_rows (hr : Rel c nt env ob ρ S a w) {dst : Option Tmp} (hd : dstOk nt dst = true) {oo k p : Nat} {ety : TypeId} {rows rows2 : List (List D)} {A : Option Addr} {m cc : Nat} {us2 : List Value}
    (hob : ob oo = some (.row k ety rows true)) (hρ : ρ oo = some (.slice A m cc)) (hf2 : Flat w S k rows2 us2) (hp : p + rows2.length ≤ rows.length) (h0 : rows2 ≠ []) {v : Value} {out : AT} (hv : ∀ w', RepT ρ w' S out v) :
    ∃ g w', A = some ⟨g, 0, none⟩ ∧ p < cc ∧ (storeCells ⟨g, p * k, none⟩ us2).run P w = .ok () w' ∧
      Rel c nt (putF env dst out) (updO [(oo, some (.row k ety (splice rows p rows2) true))] ob) ρ S (a.put dst v) w' := by
  have hl0 : 0 < rows2.length := List.length_pos_iff.2 h0
  obtain ⟨hh, h1, h2⟩ := hr.obj oo _ hob
  rw [hρ] at h1; cases h1
  obtain ⟨hkk, h3⟩ := h2
  rcases h3 with ⟨hnil, _⟩ | ⟨g, c', hc0, e1, ⟨r1, r2, r3, cur, r4, r5, r6⟩, hlive, _⟩
  · subst hnil; simp only [List.length_nil] at hp; omega
  · cases e1
    have hl2 := hf2.len
    have hfit : p * k + us2.length ≤ cur.size := by
      rw [r5, hl2, ← Nat.add_mul]; exact Nat.mul_le_mul_right _ (by omega)
    have hle : p * k + us2.length ≤ cur.toList.length := by simpa using hfit
    have hst := run_storeCells_at P g (p * k) ety us2 0 cur w r4 (by simpa using hfit) (flat_one hf2)
    simp only [Nat.add_zero] at hst
    refine ⟨g, w.setRow g (splice cur.toList (p * k) us2).toArray, rfl, by omega, hst, ?_⟩
    refine hr.write hd hob hρ (by simp [blkOf]; omega) (hlive rfl) (fun hk => ?_) hv
    refine ⟨fun q hq => ?_, .inr ⟨g, cc, hc0, by rw [splice_len hp], ⟨by rw [splice_len hp]; exact r1, r2, r3, _, setRow_heap w g cur _ ety _ r4, by simp only [List.size_toArray]; rw [splice_len hle]; simpa using r5, fun i j q d hi hj => ?_⟩, hlive, fun hh => by cases hh⟩⟩
    · simp only [splice, List.mem_append] at hq
      rcases hq with (hq | hq) | hq
      · exact hkk q (List.mem_of_mem_take hq)
      · exact hf2.rowLen q hq
      · exact hkk q (List.mem_of_mem_drop hq)
    · simp only [List.getElem?_toArray]
      rw [splice_get hle, hl2]
      rw [splice_get hp] at hi
      split at hi
      · rename_i hb
        obtain ⟨u, hu, hru⟩ := r6 _ _ _ _ hi hj
        have hjk : j < k := by
          have h4 := (List.getElem?_eq_some_iff.1 hj).1
          rwa [hkk q (List.mem_of_getElem? hi)] at h4
        rw [if_pos (row_lt hb hjk)]
        exact ⟨u, by simpa using hu, hru.mono (fun _ h => h) hk⟩
      · rename_i hb
        split at hi
        · rename_i hb2
          obtain ⟨u, hu, hru⟩ := hf2.get _ _ _ _ hi hj
          have hjk : j < k := by
            have h4 := (List.getElem?_eq_some_iff.1 hj).1
            rwa [hf2.rowLen q (List.mem_of_getElem? hi)] at h4
          have h5 : p * k ≤ i * k := Nat.mul_le_mul_right _ (by omega)
          have h6 := row_lt hb2 hjk
          rw [Nat.add_mul] at h6
          rw [if_neg (by omega), if_pos h6]
          refine ⟨u, ?_, hru.mono (fun _ h => h) hk⟩
          rw [← hu]
          congr 1
          rw [Nat.sub_mul]
          omega
        · rename_i hb2
          obtain ⟨u, hu, hru⟩ := r6 _ _ _ _ hi hj
          have h5 : (p + rows2.length) * k ≤ i * k := Nat.mul_le_mul_right _ (by omega)
          have h6 : p * k ≤ i * k := Nat.mul_le_mul_right _ (by omega)
          rw [Nat.add_mul] at h5
          rw [if_neg (by omega), if_neg (by omega)]
          exact ⟨u, by simpa using hu, hru.mono (fun _ h => h) hk⟩

theorem updO_same {oo : Nat} {x : AObj} (h : ob oo = some x) : updO [(oo, some x)] ob = ob := by
  funext n
  simp only [updO]
  split
  · rename_i e; rw [e, h]
  · rfl

theorem sound_appendW (hΓ : CtxOk P Γ) (hr : Rel c nt env ob ρ S a w) (hd : dstOk nt o.dst = true) {cl : Call} (ho : o.op = .call cl) (hb : cl.callee = .builtin .append) {s x : Operand} {t t2 : TypeId} (ex : cl.args.toList = [s, x]) (et : cl.argTypes.toList = [t, t2])
    {oo k lo n : Nat} {vx : AV} (es : (aval Γ env t s).one? = some (.win oo k lo n)) (exx : (aval Γ env t2 x).one? = some vx) (h : appendW Γ ob t t2 oo k lo n vx = some r) : Goes P c nt N env ob ρ a w o r := by
  have h1 := one_rep (eval_rep (Γ := Γ) hr t s) es
  have h2 := one_rep (eval_rep (Γ := Γ) hr t2 x) exx
  have hargs : cl.args.map a.eval = #[a.eval s, a.eval x] := by
    apply Array.ext'; simp [ex]
  unfold appendW at h
  split at h
  · rename_i _ _ e uu hel ht2
    have hund := und_elem hΓ hel
    split at ht2
    · rename_i htt
      subst htt
      have htys : cl.argTypes = #[t, t] := by
        apply Array.ext'; simp [et]
      split at h
      · rename_i sz hsz
        obtain ⟨ti, hti, rfl⟩ : ∃ ti, Γ.ty e = some ti ∧ ti.size = sz := by
          unfold Ctx.size at hsz
          cases hte : Γ.ty e with
          | none => simp [hte] at hsz
          | some ti => exact ⟨ti, rfl, by simpa [hte] using hsz⟩
        obtain ⟨i, z, hrunI, hi, hisz, _⟩ := run_typeInfo' hΓ hti w
        split at h
        · rename_i k2 rows2 tx k3 ety rows hrows2 hob
          split at h
          · rename_i hc
            obtain ⟨rfl, rfl, hk, rfl, hfit⟩ := hc
            cases h
            obtain ⟨A2, c2, us2, hux, _, hflat2, hcell2⟩ := rows_src hr hrows2 h2
            obtain ⟨A, m, cc, A', hρ, hus, hA⟩ := h1
            obtain ⟨rfl, hle, _⟩ := rows_own hr hob hρ
            have hnew : (Builtin.firstCells i.size rows2.length (.slice A2 rows2.length c2)).run P w = .ok us2.toArray w := by
              rw [hisz, ← hk]; exact run_first hflat2.len hcell2
            have hrunO : ∀ v w', (Builtin.append_ #[t, t] o.type #[a.eval s, a.eval x]).run P w = .ok v w' → (execOp a.eval o).run P w = .ok (.value v) w' := fun v w' hh => by
              simp [execOp, ho, resolve, hb, invoke, builtin, hargs, htys, hh]
            intro Q
            by_cases h0 : rows2 = []
            · subst h0
              have hu2 : us2 = [] := List.length_eq_zero_iff.1 (by simpa using hflat2.len)
              subst hu2
              have hrun := run_app_room (P := P) (w := w) (w' := w) t o.type ety i hund hi (A := A') (n := n) (cc := cc - lo) hnew (by simp at hfit ⊢; omega) (by cases A' <;> simp [storeCells])
              refine wp_value (hrunO _ _ (by rw [hus, hux]; exact hrun)) ⟨ρ, S, ?_, fun _ _ => rfl⟩
              rw [splice_nil, updO_same hob]
              exact hr.value hd ⟨_, rfl, A, _, cc, A', hρ, by simp, hA⟩
            · obtain ⟨g, w', rfl, hpc, hst, hrel⟩ := write_rows (P := P) hr hd hob hρ hflat2 hfit h0 (v := .slice A' (n + rows2.length) (cc - lo)) (out := .cs false [.win oo k lo (n + rows2.length)]) (fun w' => ⟨_, rfl, _, _, cc, A', hρ, rfl, hA⟩)
              have hA' := hA (by omega)
              have hrun := run_app_room (P := P) (w := w) (w' := w') t o.type ety i hund hi (A := A') (n := n) (cc := cc - lo) hnew (by omega) (by
                subst hA'
                simp only [Option.map_some, add_lit]
                rw [hisz, ← hk, add_lit', ← Nat.add_mul]
                exact hst)
              exact wp_value (hrunO _ _ (by rw [hus, hux]; exact hrun)) ⟨ρ, S, hrel, fun _ _ => rfl⟩
          · cases h
        · cases h
      · cases h
    · cases ht2
  · cases h

theorem sound_clear (hΓ : CtxOk P Γ) (hr : Rel c nt env ob ρ S a w) (hd : dstOk nt o.dst = true) {cl : Call} (ho : o.op = .call cl) (hb : cl.callee = .builtin .clear) (h : aop Γ N (aval Γ env) ob o = some r) : Goes P c nt N env ob ρ a w o r := by
  simp only [aop, ho, hb] at h
  split at h
  · rename_i s t ex et
    have hs := eval_rep (Γ := Γ) hr t s
    have hargs : cl.args.map a.eval = #[a.eval s] := by
      apply Array.ext'; simp [ex]
    have htys : cl.argTypes = #[t] := by
      apply Array.ext'; simp [et]
    split at h
    · rename_i oo k lo n es
      obtain ⟨A, m, cc, A', hρ, hus, hA⟩ := one_rep hs es
      unfold clearW at h
      split at h
      · rename_i e hel
        have hund := und_elem hΓ hel
        split at h
        · rename_i ti hti
          obtain ⟨i, z, hrunI, hi, hisz, _, hz, hzr⟩ := run_typeInfo' hΓ hti w
          split at h
          · rename_i zs k3 ety rows hzs hob
            split at h
            · rename_i hc
              obtain ⟨rfl, hk, hzl, hfit⟩ := hc
              cases h
              obtain ⟨rfl, hle, _⟩ := rows_own hr hob hρ
              have hrz := allD_rep hr hzs (zero_rep (ρ := ρ) (w := w) (S := S) hzr)
              have hrunO : ∀ w', (Builtin.clear_ #[t] o.type #[a.eval s]).run P w = .ok (.tuple #[]) w' → (execOp a.eval o).run P w = .ok (.value (.tuple #[])) w' := fun w' hh => by
                simp [execOp, ho, resolve, hb, invoke, builtin, hargs, htys, hh]
              intro Q
              by_cases h0 : n = 0
              · subst h0
                refine wp_value (hrunO w ?_) ⟨ρ, S, ?_, fun _ _ => rfl⟩
                · rw [hus]
                  cases A' <;> simp [Builtin.clear_, run_underlying hund]
                · simp only [List.replicate_zero]
                  rw [splice_nil, updO_same hob]
                  exact hr.value hd ⟨[], rfl, .nil⟩
              · have hflat : Flat w S k (List.replicate n zs) (Builtin.zeroCells z.cells n).toList := by
                  have hzsz : z.cells.size = k := by rw [hk, ← hzl, hrz.len]; simp
                  refine ⟨by simp [Builtin.zeroCells, hzsz], fun r hr => by rw [List.mem_replicate] at hr; rw [hr.2, hzl, hk], fun i j r d hi hj => ?_⟩
                  rw [List.getElem?_replicate] at hi
                  split at hi
                  · rename_i hil
                    cases hi
                    obtain ⟨u, hu, hru⟩ := hrz.get hj
                    refine ⟨u, ?_, hru⟩
                    have hjk : j < k := by rw [hk, ← hzl]; exact (List.getElem?_eq_some_iff.1 hj).1
                    have hidx := row_lt (k := k) hil hjk
                    simp only [Builtin.zeroCells, Array.toList_map, List.getElem?_map, Array.toList_range, hzsz, List.getElem?_range hidx, Option.map_some]
                    have hm : (i * k + j) % k = j := by rw [Nat.mul_comm, Nat.mul_add_mod, Nat.mod_eq_of_lt hjk]
                    rw [hm]
                    simp only [Array.getElem?_toList] at hu
                    simp only [getElem!_def, hu]
                  · cases hi
                obtain ⟨g, w', rfl, hpc, hst, hrel⟩ := write_rows (P := P) hr hd hob hρ hflat (p := lo) (by simpa using hfit) (by simp [h0]) (v := .tuple #[]) (out := .tup []) (fun w' => ⟨[], rfl, .nil⟩)
                have hA' := hA (by omega)
                refine wp_value (hrunO w' ?_) ⟨ρ, S, hrel, fun _ _ => rfl⟩
                rw [hus, hA']
                simp only [Option.map_some, add_lit]
                obtain ⟨n', rfl⟩ : ∃ n', n = n' + 1 := ⟨n - 1, by omega⟩
                simp [Builtin.clear_, run_underlying hund, zeroValue, typeInfo, hi, hz, hst]
            · cases h
          · cases h
        · cases h
      · cases h
    · cases h
  · cases h

theorem sound_append (hΓ : CtxOk P Γ) (hr : Rel c nt env ob ρ S a w) (hf : ∀ n, N ≤ n → n < N + 8 → ρ n = none) (hd : dstOk nt o.dst = true) {cl : Call} (ho : o.op = .call cl) (hb : cl.callee = .builtin .append) (h : aop Γ N (aval Γ env) ob o = some r) : Goes P c nt N env ob ρ a w o r := by
  simp only [aop, ho, hb] at h
  split at h
  · rename_i s x t t2 ex et
    have hs := eval_rep (Γ := Γ) hr t s
    have hx := eval_rep (Γ := Γ) hr t2 x
    have hargs : cl.args.map a.eval = #[a.eval s, a.eval x] := by
      apply Array.ext'; simp [ex]
    split at h
    · rename_i oo k lo n vx es exx
      exact sound_appendW hΓ hr hd ho hb ex et es exx h
    · rename_i vs vx hnw es exx
      clear hnw
      have h1 := one_rep hs es
      have h2 := one_rep hx exx
      unfold appendA at h
      split at h
      · rename_i _ _ e uu hel ht2
        have hund := und_elem hΓ hel
        split at ht2
        · rename_i htt
          subst htt
          have htys : cl.argTypes = #[t, t] := by
            apply Array.ext'; simp [et]
          split at h
          · rename_i ti hti
            obtain ⟨i, z, hrunI, hi, hsz, hby, hz, hzr⟩ := run_typeInfo' hΓ hti w
            split at h
            · rename_i k2 rows2 tx hrows2
              obtain ⟨A2, c2, us2, hux, _, hflat2, hcell2⟩ := rows_src hr hrows2 h2
              split at h
              · rename_i k rows ts hsrc
                split at h
                · rename_i hc
                  obtain ⟨rfl, rfl, hzl, hk0, h63, hbytes, hdisj⟩ := hc
                  cases h
                  have hzs : z.cells.size = ti.size := by
                    have h3 := hzr.len
                    rw [← hzl, h3]; simp
                  rw [← hby] at hbytes
                  have hrunO : ∀ v w', (Builtin.append_ #[t, t] o.type #[a.eval s, a.eval x]).run P w = .ok v w' → (execOp a.eval o).run P w = .ok (.value v) w' := fun v w' hh => by
                    simp [execOp, ho, resolve, hb, invoke, builtin, hargs, htys, hh]
                  have hrl2 : ∀ rr ∈ rows2, rr.length = ti.size := hflat2.rowLen
                  have hnew : (Builtin.firstCells i.size rows2.length (.slice A2 rows2.length c2)).run P w = .ok us2.toArray w := by
                    rw [hsz]; exact run_first hflat2.len hcell2
                  have hnewD : (Builtin.firstCells i.size rows2.length (.slice A2 rows2.length c2)).run P w.drew = .ok us2.toArray w.drew := by
                    rw [hsz]; exact run_first hflat2.len hcell2
                  -- where the old row lies
                  have src : ∃ A cc us, a.eval s = .slice A rows.length cc ∧ Flat w S ti.size rows us ∧ (∀ (j : Nat) (v : Value), us[j]? = some v → ∃ ad, A = some ad ∧ w.cell? (ad.add j) = some v) ∧
                      ((cc = 0 ∧ rows = []) ∨ (∃ g oo h', ts = [oo] ∧ ob oo = some (.row ti.size e rows true) ∧ ρ oo = some h' ∧ blkOf h' = some g ∧ 0 < cc ∧ A = some ⟨g, 0, none⟩ ∧ RowBlk w S ti.size e rows g cc ∧ ¬ S g)) := by
                    unfold headOf at hsrc
                    split at hsrc
                    · cases hsrc
                      obtain ⟨A, hu⟩ := h1
                      exact ⟨A, 0, [], hu, ⟨by simp, by simp, fun i j r d hi _ => by simp at hi⟩, fun j v hv => by simp at hv, .inl ⟨rfl, rfl⟩⟩
                    · rename_i oo
                      split at hsrc
                      · rename_i k' ety' rows' hob
                        split at hsrc
                        · rename_i hety
                          subst hety
                          cases hsrc
                          obtain ⟨A, cc, us, hu, hle, hfl, hcl⟩ := rows_src (tc := [oo]) (rows := rows) (k := ti.size) hr (by simp only [rowsOf, hob]) h1
                          refine ⟨A, cc, us, hu, hfl, hcl, ?_⟩
                          obtain ⟨hρ, _⟩ := h1
                          obtain ⟨hh, h3, h4⟩ := hr.obj oo _ hob
                          rw [hρ] at h3; cases h3
                          obtain ⟨_, h5⟩ := h4
                          rcases h5 with ⟨h6, A', h7⟩ | ⟨g, c', h6, h7, h8, h9, _⟩
                          · rw [hu] at h7
                            subst h6
                            injection h7 with _ _ h7
                            exact .inl ⟨h7, rfl⟩
                          · have h7' := h7
                            rw [hu] at h7; cases h7
                            exact .inr ⟨g, oo, _, rfl, hob, hρ, by rw [h7']; simp [blkOf]; omega, h6, rfl, h8, h9 rfl⟩
                        · cases hsrc
                      · cases hsrc
                    · cases hsrc
                  obtain ⟨A, cc, us, hus, hflat, hcell, hcase⟩ := src
                  have hflat3 := hflat.append hflat2
                  have hold : (Builtin.firstCells i.size rows.length (.slice A rows.length cc)).run P w.drew = .ok us.toArray w.drew := by
                    rw [hsz]; exact run_first hflat.len hcell
                  intro Q
                  by_cases hroom : rows.length + rows2.length ≤ cc
                  · rcases hcase with ⟨rfl, rfl⟩ | ⟨g, oo, h', rfl, hob, hρ, hblk, hcc, rfl, ⟨q1, q2, q3, cur, q4, q5, q6⟩, hlive⟩
                    · have hm : rows2.length = 0 := by simp at hroom; exact by simp [hroom]
                      have hr2 : rows2 = [] := List.length_eq_zero_iff.1 hm
                      subst hr2
                      have hu2 : us2 = [] := by
                        have := hflat2.len
                        exact List.length_eq_zero_iff.1 (by simpa using this)
                      subst hu2
                      have hrun := run_app_room (P := P) (w := w) (w' := w) t o.type e i hund hi (A := A) (n := 0) (cc := 0) hnew (by simp) (by cases A <;> simp [storeCells])
                      have hne : ∀ oo ∈ ts, True := fun _ _ => trivial
                      obtain ⟨ρ', e2, hrel⟩ := hr.replace (N := N) (ts := ts) (x := .row ti.size e ([] ++ []) true) (h := .slice A 0 0) (v := .slice A 0 0) (out := .cs false [.own N]) (w' := w) hd (hf N (by omega) (by omega)) (Keeps.refl _ _) rfl rfl rfl (Nat.le_refl _) (fun _ _ _ => rfl)
                        (fun ρ' _ _ => ⟨by simp, .inl ⟨rfl, A, rfl⟩⟩) (fun b hbb => by cases A <;> simp [blkOf] at hbb) (fun _ _ _ _ _ _ _ _ => rfl) (fun ρ' e1 => ⟨_, rfl, e1, A, 0, 0, rfl⟩)
                      refine wp_value (hrunO _ _ (by rw [hus, hux]; exact hrun)) ⟨ρ', S, hrel, fun n hn => e2 n (by omega)⟩
                    · have hl := hflat.len
                      have hl2 := hflat2.len
                      have hfit : rows.length * ti.size + us2.length ≤ cur.size := by
                        rw [q5, hl2, ← Nat.add_mul]; exact Nat.mul_le_mul_right _ hroom
                      have hone : ∀ v ∈ us2, v.oneCell' = true := fun v hv => by
                        obtain ⟨j, hj⟩ := List.getElem?_of_mem hv
                        have hjl : j < rows2.length * ti.size := by rw [← hl2]; exact (List.getElem?_eq_some_iff.1 hj).1
                        have h1 : j / ti.size < rows2.length := by rw [Nat.div_lt_iff_lt_mul hk0]; exact hjl
                        have h2 : j % ti.size < ti.size := Nat.mod_lt _ hk0
                        have h3 : rows2[j / ti.size]? = some rows2[j / ti.size] := List.getElem?_eq_getElem h1
                        have h4 := hflat2.rowLen _ (List.getElem_mem h1)
                        have h5 : (rows2[j / ti.size])[j % ti.size]? = some ((rows2[j / ti.size])[j % ti.size]'(by omega)) := List.getElem?_eq_getElem (by omega)
                        obtain ⟨u, hu, hru⟩ := hflat2.get _ _ _ _ h3 h5
                        have h6 : j / ti.size * ti.size + j % ti.size = j := by rw [Nat.mul_comm]; exact Nat.div_add_mod j ti.size
                        rw [h6, hj] at hu
                        cases hu
                        exact hru.one
                      have hst := run_storeCells_at P g (rows.length * ti.size) e us2 0 cur w q4 (by simpa using hfit) hone
                      simp only [Nat.add_zero] at hst
                      have hrun := run_app_room (P := P) (w := w) (A := some ⟨g, 0, none⟩) t o.type e i hund hi (n := rows.length) (cc := cc) hnew hroom (by rw [hsz]; simp only [add_lit]; exact hst)
                      have hbl : cc ≠ 0 := by omega
                      have hkS : ∀ cs, Keeps S w (w.setRow g cs) := fun cs b hbS => setRow_other w g b cs (fun e => hlive (e ▸ hbS))
                      have hplace := (hr.place _ _ _ _ hob hρ hblk).resolve_right hlive
                      obtain ⟨ρ', e2, hrel⟩ := hr.replace (N := N) (ts := [oo]) (x := .row ti.size e (rows ++ rows2) true) (h := .slice (some ⟨g, 0, none⟩) (rows.length + rows2.length) cc) (v := .slice (some ⟨g, 0, none⟩) (rows.length + rows2.length) cc) (out := .cs false [.own N])
                        (w' := w.setRow g (cur.toList.take (rows.length * ti.size) ++ us2 ++ cur.toList.drop (rows.length * ti.size + us2.length)).toArray) hd (hf N (by omega) (by omega)) (hkS _) rfl rfl rfl (by simp)
                        (fun b hb1 hb2 => setRow_other w g b _ (fun e => by
                          subst e
                          rcases hplace with h9 | h9
                          · omega
                          · exact hb2 h9))
                        (fun ρ' _ gg => ⟨hflat3.rowLen, .inr ⟨g, cc, hcc, by simp, ⟨by simpa using hroom, q2, hk0, _, setRow_heap w g cur _ e _ q4, by simp; omega, fun i' j' rr d hi' hj' => by
                          have h7 : us = cur.toList.take (rows.length * ti.size) := by
                            apply List.ext_getElem?
                            intro j
                            by_cases hj : j < us.length
                            · have h8 : us[j]? = some us[j] := List.getElem?_eq_getElem hj
                              obtain ⟨ad, e, h9⟩ := hcell j _ h8
                              cases e
                              rw [add_lit, cell_of_row w g _ cur e (0, 0) q4] at h9
                              rw [h8, List.getElem?_take, if_pos (by omega)]
                              simpa using h9.symm
                            · have h10 : rows.length * ti.size ≤ cur.size := by omega
                              rw [List.getElem?_eq_none (by omega), List.getElem?_eq_none (by simp; omega)]
                          obtain ⟨u, hu, hru⟩ := hflat3.pref (more := cur.toList.drop (rows.length * ti.size + us2.length)) i' j' rr d hi' hj'
                          refine ⟨u, ?_, hru.mono gg.sub gg.keeps⟩
                          rw [← h7]
                          simpa using hu⟩, fun _ => hlive, fun hh => by cases hh⟩⟩)
                        (fun b hbb => by
                          simp [blkOf, hbl] at hbb
                          subst hbb
                          exact ⟨hplace, fun o2 x2 h2 hx2 hn2 hh2 hb2 => hn2 (by
                            have := hr.sep _ _ _ _ _ _ _ hx2 hob hh2 hρ hb2 hblk
                            simp [this])⟩)
                        (fun o2 x2 h2 b hx2 hn2 hh2 hb2 => setRow_other w g b _ (fun e => hn2 (by
                          subst e
                          have := hr.sep _ _ _ _ _ _ _ hx2 hob hh2 hρ hb2 hblk
                          simp [this])))
                        (fun ρ' e1 => ⟨_, rfl, e1, _, _, _, rfl⟩)
                      refine wp_value (hrunO _ _ (by rw [hus, hux]; exact hrun)) ⟨ρ', S, hrel, fun n hn => e2 n (by omega)⟩
                  · have hgc : cc < rows.length + rows2.length := by omega
                    have hrun := run_app_grow (P := P) (w := w) t o.type e i z hund hi hz hold hnewD hgc h63 hbytes
                    have hge := grownCap_ge w (rows.length + rows2.length) cc e
                    have hcm := grownCap_le_maxLen w (rows.length + rows2.length) cc e (by simp only [maxLen]; omega)
                    have hl := hflat.len
                    have hl2 := hflat2.len
                    have hkS : ∀ X, Keeps S w (w.drew.alloc X) := fun X b hbS => RowKit.Below.heap_alloc w.drew X b (hr.lim b hbS)
                    obtain ⟨C, hC⟩ : ∃ C, C = grownCap w (rows.length + rows2.length) cc e := ⟨_, rfl⟩
                    rw [← hC] at hrun hge hcm
                    have hC0 : C ≠ 0 := by omega
                    obtain ⟨ρ', e2, hrel⟩ := hr.replace (N := N) (ts := ts) (x := .row ti.size e (rows ++ rows2) true) (h := .slice (some ⟨w.heap.size, 0, none⟩) (rows.length + rows2.length) C) (v := .slice (some ⟨w.heap.size, 0, none⟩) (rows.length + rows2.length) C) (out := .cs false [.own N])
                      (w' := w.drew.alloc (.cells (us.toArray ++ us2.toArray ++ Builtin.zeroCells z.cells (C - (rows.length + rows2.length))) e)) hd (hf N (by omega) (by omega)) (hkS _) rfl rfl rfl (by simp)
                      (fun b hb1 _ => RowKit.Below.heap_alloc w.drew _ b (by have := hr.hsize; show b < w.heap.size; omega))
                      (fun ρ' _ gg => ⟨hflat3.rowLen, .inr ⟨w.heap.size, C, by omega, by simp, ⟨by simpa using hge, hcm, hk0, _, heap_alloc_new w.drew _, by
                          simp only [Array.size_append, List.size_toArray, size_zeroCells, hzs, hl, hl2, ← Nat.add_mul]
                          congr 1
                          omega, fun i' j' rr d hi' hj' => by
                        obtain ⟨u, hu, hru⟩ := hflat3.pref (more := (Builtin.zeroCells z.cells (C - (rows.length + rows2.length))).toList) i' j' rr d hi' hj'
                        refine ⟨u, ?_, hru.mono gg.sub gg.keeps⟩
                        rw [← hu, ← Array.getElem?_toList]
                        simp⟩, fun _ hs => absurd (hr.lim _ hs) (by omega), fun hh => by cases hh⟩⟩)
                      (fun b hbb => by
                        simp [blkOf, hC0] at hbb
                        subst hbb
                        exact ⟨.inl (by have := hr.hsize; omega), fun o2 x2 h2 hx2 hn2 hh2 hb2 => absurd (blk_lt hr hx2 hh2 hb2) (by omega)⟩)
                      (fun o2 x2 h2 b hx2 hn2 hh2 hb2 => RowKit.Below.heap_alloc w.drew _ b (blk_lt hr hx2 hh2 hb2))
                      (fun ρ' e1 => ⟨_, rfl, e1, _, _, _, rfl⟩)
                    refine wp_value (hrunO _ _ (by rw [hus, hux]; exact hrun)) ⟨ρ', S, hrel, fun n hn => e2 n (by omega)⟩
                · cases h
              · cases h
            · cases h
          · cases h
        · cases ht2
      · cases h
    · cases h
  · cases h

end
end Go.Eng
