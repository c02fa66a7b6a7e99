/- Soundness: append; calls. Soundness: calls. Soundness: headers of rows with all their room; copies; functions without a body. Soundness: a string's iterator; slices of function values. -/
import Derived.Test.YtbkgceobmfcapaaGreatDoorEngH
import Derived.Lib.AppendZerosOnto
import Derived.Lib.OthersKept
namespace Go.Eng

section
variable {P : Program} {Γ : Ctx} {c : Base} {nt : Nat} {env : Nat → AT} {ob : Nat → Option AObj} {ρ : Where} {S : Nat → Prop} {a : Act} {w : World}
variable {N : Nat} {o : Oper} {r : AOut}

theorem updO_cases : ∀ {l : List (Nat × Option AObj)} {ob : Nat → Option AObj} {n : Nat} {x : Option AObj}, updO l ob n = x → (n, x) ∈ l ∨ ((∀ y, (n, y) ∉ l) ∧ ob n = x)
  | [], ob, n, x, h => .inr ⟨fun y hy => by simp at hy, h⟩
  | (k, y) :: l, ob, n, x, h => by
    simp only [updO] at h
    split at h
    · rename_i e
      subst e; subst h
      exact .inl (List.mem_cons_self ..)
    · rename_i e
      rcases updO_cases h with h | ⟨h1, h2⟩
      · exact .inl (List.mem_cons_of_mem _ h)
      · refine .inr ⟨fun z hz => ?_, h2⟩
        rcases List.mem_cons.1 hz with hz | hz
        · cases hz; exact e rfl
        · exact h1 z hz

/-- One object in the place of others. -/
theorem Rel.replace (hr : Rel c nt env ob ρ S a w) {N : Nat} {ts : List Nat} {x : AObj} {h v : Value} {out : AT} {dst : Option Tmp} {w' : World} (hd : dstOk nt dst = true) (hN : ρ N = none)
    (hk : Keeps S w w') (hos : w'.os = w.os) (htape : w'.tape = w.tape) (hout : w'.output = w.output) (hsz : w.heap.size ≤ w'.heap.size)
    (hsame : ∀ b, b < c.W.heap.size → ¬ c.B b → w'.heap[b]? = w.heap[b]?)
    (hx : ∀ ρ' : Where, ρ' N = some h → Grows ρ ρ' w w' S S → ObjRep ρ' w' S h x)
    (hb : ∀ b, blkOf h = some b → (c.W.heap.size ≤ b ∨ c.B b) ∧ ∀ o x' h', ob o = some x' → o ∉ ts → ρ o = some h' → blkOf h' ≠ some b)
    (hoth : ∀ o x' h' b, ob o = some x' → o ∉ ts → ρ o = some h' → blkOf h' = some b → w'.heap[b]? = w.heap[b]?)
    (hv : ∀ ρ' : Where, ρ' N = some h → RepT ρ' w' S out v) :
    ∃ ρ', (∀ n, n ≠ N → ρ' n = ρ n) ∧ Rel c nt (putF env dst out) (updO ((N, some x) :: ts.map fun o => (o, none)) ob) ρ' S (a.put dst v) w' := by
  have hne : ∀ n y, ob n = some y → n ≠ N := by
    rintro n y hy rfl
    obtain ⟨h', h1, _⟩ := hr.obj n y hy
    rw [hN] at h1; cases h1
  let ρ' : Where := fun n => if n = N then some h else ρ n
  have e1 : ρ' N = some h := by simp [ρ']
  have e2 : ∀ n, n ≠ N → ρ' n = ρ n := fun n hn => by simp [ρ', hn]
  have hg : Grows ρ ρ' w w' S S := ⟨fun n y hy => by
    rw [e2 n (fun e => by subst e; rw [hN] at hy; cases hy)]; exact hy, fun _ h => h, hk⟩
  have look : ∀ n y, updO ((N, some x) :: ts.map fun o => (o, none)) ob n = some y → (n = N ∧ y = x) ∨ (n ≠ N ∧ n ∉ ts ∧ ob n = some y) := by
    intro n y hy
    rcases updO_cases hy with h1 | ⟨h1, h2⟩
    · rcases List.mem_cons.1 h1 with h1 | h1
      · cases h1; exact .inl ⟨rfl, rfl⟩
      · simp at h1
    · refine .inr ⟨hne n y h2, fun hm => h1 none (List.mem_cons_of_mem _ (List.mem_map.2 ⟨n, hm, rfl⟩)), h2⟩
  refine ⟨ρ', e2, hr.step hd hg (hv ρ' e1) (fun n y hy => ?_) hos htape hout hsz hsame (fun b hbS => Nat.lt_of_lt_of_le (hr.lim b hbS) hsz) hr.foot⟩
  rcases look n y hy with ⟨rfl, rfl⟩ | ⟨h1, h2, h3⟩
  · refine .inr ⟨h, e1, hx ρ' e1 hg, fun b hbb => ⟨.inl (hb b hbb).1, fun o2 x2 h2 hx2 hh2 hb2 => ?_⟩⟩
    rcases look o2 x2 hx2 with ⟨rfl, _⟩ | ⟨h1, h2', h3⟩
    · rfl
    · rw [e2 _ h1] at hh2
      exact absurd hb2 ((hb b hbb).2 o2 x2 _ h3 h2' hh2)
  · exact .inl ⟨h3, fun h' b hh hb' => ⟨hoth n y h' b h3 h2 hh hb', id⟩⟩

theorem run_first {w : World} {k : Nat} {A : Option Addr} {n cc : Nat} {us : List Value} (hl : us.length = n * k) (hu : ∀ (j : Nat) (v : Value), us[j]? = some v → ∃ ad, A = some ad ∧ w.cell? (ad.add j) = some v) :
    (Builtin.firstCells k n (.slice A n cc)).run P w = .ok us.toArray w := by
  cases A with
  | none =>
    have : us = [] := by
      cases us with
      | nil => rfl
      | cons u us =>
        obtain ⟨ad, e, _⟩ := hu 0 u rfl
        cases e
    subst this
    exact run_firstCells_none w k n n cc
  | some ad =>
    refine run_firstCells_some w k n ad n cc us hl (fun j v hv => ?_)
    obtain ⟨ad', e, h⟩ := hu j v hv
    cases e
    exact h

theorem run_first' {w : World} {k : Nat} {A : Option Addr} {n nn cc : Nat} {us : List Value} (hl : us.length = n * k) (hu : ∀ (j : Nat) (v : Value), us[j]? = some v → ∃ ad, A = some ad ∧ w.cell? (ad.add j) = some v) :
    (Builtin.firstCells k n (.slice A nn cc)).run P w = .ok us.toArray w := by
  have := run_first (P := P) (cc := cc) hl hu
  cases A <;> simpa [Builtin.firstCells] using this

theorem run_app_grow (t ty e : TypeId) (i : TypeInfo) (z : Value) (ht : P.underlying t = some (.slice e)) (hi : P.info? e = some i) (hz : i.zero = some z) {A A2 : Option Addr} {n m cc c2 : Nat} {olds news : List Value}
    (ho : (Builtin.firstCells i.size n (.slice A n cc)).run P w.drew = .ok olds.toArray w.drew) (hn : (Builtin.firstCells i.size m (.slice A2 m c2)).run P w.drew = .ok news.toArray w.drew)
    (hg : cc < n + m) (h63 : n + m ≤ 9223372036854775807) (hb : (n + m) * i.bytes ≤ 140737488355328) :
    (Builtin.append_ #[t, t] ty #[.slice A n cc, .slice A2 m c2]).run P w =
      .ok (.slice (some ⟨w.heap.size, 0, none⟩) (n + m) (grownCap w (n + m) cc e)) (w.drew.alloc (.cells (olds.toArray ++ news.toArray ++ Builtin.zeroCells z.cells (grownCap w (n + m) cc e - (n + m))) e)) := by
  have h1 : ¬ (n + m ≤ cc) := by omega
  have h63' : ¬ (9223372036854775807 < ((n : Int) + (m : Int))) := by omega
  have h48' : ¬ (281474976710656 < Builtin.nextslicecap (n + m) cc * i.bytes) := by have := growslice_fits hg hb; omega
  simp [Builtin.append_, run_underlying ht, sizeOf, typeInfo, zeroValue, hi, hz, Builtin.lenOf, h1, h63', h48', Question.forced, hn, ho, newRow, grownCap]
  congr 2
  apply Array.ext'
  simp [List.append_assoc]

theorem run_app_room (t ty e : TypeId) (i : TypeInfo) (ht : P.underlying t = some (.slice e)) (hi : P.info? e = some i) {A A2 : Option Addr} {n m cc c2 : Nat} {news : List Value} {w' : World}
    (hn : (Builtin.firstCells i.size m (.slice A2 m c2)).run P w = .ok news.toArray w) (hg : n + m ≤ cc)
    (hs : match A with | some ad => (storeCells (ad.add (n * i.size)) news).run P w = .ok () w' | none => w' = w) :
    (Builtin.append_ #[t, t] ty #[.slice A n cc, .slice A2 m c2]).run P w = .ok (.slice A (n + m) cc) w' := by
  cases A with
  | none => subst hs; simp [Builtin.append_, run_underlying ht, sizeOf, typeInfo, hi, Builtin.lenOf, hg, hn]
  | some ad => simp only at hs; simp [Builtin.append_, run_underlying ht, sizeOf, typeInfo, hi, Builtin.lenOf, hg, hn, hs]

theorem Flat.append {k : Nat} {rows rows2 : List (List D)} {us us2 : List Value} (h : Flat w S k rows us) (h2 : Flat w S k rows2 us2) : Flat w S k (rows ++ rows2) (us ++ us2) := by
  refine ⟨by rw [List.length_append, List.length_append, h.len, h2.len, Nat.add_mul], fun r hr => ?_, fun i j r d hi hj => ?_⟩
  · rcases List.mem_append.1 hr with hr | hr
    · exact h.rowLen r hr
    · exact h2.rowLen r hr
  · by_cases hil : i < rows.length
    · rw [List.getElem?_append_left hil] at hi
      obtain ⟨u, hu, hru⟩ := h.get i j r d hi hj
      have : i * k + j < us.length := (List.getElem?_eq_some_iff.1 hu).1
      exact ⟨u, by rw [List.getElem?_append_left this]; exact hu, hru⟩
    · rw [List.getElem?_append_right (by omega)] at hi
      obtain ⟨u, hu, hru⟩ := h2.get _ j r d hi hj
      refine ⟨u, ?_, hru⟩
      have hm : rows.length * k ≤ i * k := Nat.mul_le_mul_right _ (by omega)
      rw [List.getElem?_append_right (by rw [h.len]; omega), h.len, ← hu]
      congr 1
      rw [Nat.sub_mul]
      omega

theorem Flat.pref {k : Nat} {rows : List (List D)} {us more : List Value} (h : Flat w S k rows us) (i j : Nat) (r : List D) (d : D) (hi : rows[i]? = some r) (hj : r[j]? = some d) : ∃ u, (us ++ more)[i * k + j]? = some u ∧ Rep w S d u := by
  obtain ⟨u, hu, hru⟩ := h.get i j r d hi hj
  have : i * k + j < us.length := (List.getElem?_eq_some_iff.1 hu).1
  exact ⟨u, by rw [List.getElem?_append_left this]; exact hu, hru⟩

theorem splice_nil {α : Type} (cs : List α) (off : Nat) : splice cs off [] = cs := by simp [splice]

theorem flat_one {k : Nat} {rows : List (List D)} {us : List Value} (h : Flat w S k rows us) : ∀ v ∈ us, v.oneCell' = true := fun v hv => let ⟨_, hd⟩ := flat_rep h v hv; hd.one

/-- Rows are written into an own row, from row p on. -/
theorem write_rows (hr : Rel c nt env ob ρ S a w) {dst : Option Tmp} (hd : dstOk nt dst = true) {oo k p : Nat} {ety : TypeId} {rows rows2 : List (List D)} {A : Option Addr} {m cc : Nat} {us2 : List Value}
    (hob : ob oo = some (.row k ety rows true)) (hρ : ρ oo = some (.slice A m cc)) (hf2 : Flat w S k rows2 us2) (hp : p + rows2.length ≤ rows.length) (h0 : rows2 ≠ []) {v : Value} {out : AT} (hv : ∀ w', RepT ρ w' S out v) :
    ∃ g w', A = some ⟨g, 0, none⟩ ∧ p < cc ∧ (storeCells ⟨g, p * k, none⟩ us2).run P w = .ok () w' ∧
      Rel c nt (putF env dst out) (updO [(oo, some (.row k ety (splice rows p rows2) true))] ob) ρ S (a.put dst v) w' := by
  have hl0 : 0 < rows2.length := List.length_pos_iff.2 h0
  obtain ⟨hh, h1, h2⟩ := hr.obj oo _ hob
  rw [hρ] at h1; cases h1
  obtain ⟨hkk, h3⟩ := h2
  rcases h3 with ⟨hnil, _⟩ | ⟨g, c', hc0, e1, ⟨r1, r2, r3, cur, r4, r5, r7, r6⟩, hlive, _⟩
  · subst hnil; simp only [List.length_nil] at hp; omega
  · cases e1
    have hl2 := hf2.len
    have hfit : p * k + us2.length ≤ cur.size := by
      rw [r5, hl2, ← Nat.add_mul]; exact Nat.mul_le_mul_right _ (by omega)
    have hle : p * k + us2.length ≤ cur.toList.length := by simpa using hfit
    have hst := run_storeCells_at P g (p * k) ety us2 0 cur w r4 (by simpa using hfit) (flat_one hf2)
    simp only [Nat.add_zero] at hst
    refine ⟨g, w.setRow g (splice cur.toList (p * k) us2).toArray, rfl, by omega, hst, ?_⟩
    refine hr.write hd hob hρ (by simp [blkOf]; omega) (hlive rfl) (fun hk => ?_) hv
    refine ⟨fun q hq => ?_, .inr ⟨g, cc, hc0, by rw [splice_len hp], ⟨by rw [splice_len hp]; exact r1, r2, r3, _, setRow_heap w g cur _ ety _ r4, by simp only [List.size_toArray]; rw [splice_len hle]; simpa using r5, (r7.mono (fun _ h => h) hk).splice (fun v hv => let ⟨_, hd⟩ := flat_rep hf2 v hv; ⟨_, hd.mono (fun _ h => h) hk⟩) _, fun i j q d hi hj => ?_⟩, hlive, fun hh => by cases hh⟩⟩
    · simp only [splice, List.mem_append] at hq
      rcases hq with (hq | hq) | hq
      · exact hkk q (List.mem_of_mem_take hq)
      · exact hf2.rowLen q hq
      · exact hkk q (List.mem_of_mem_drop hq)
    · simp only [List.getElem?_toArray]
      rw [splice_get hle, hl2]
      rw [splice_get hp] at hi
      split at hi
      · rename_i hb
        obtain ⟨u, hu, hru⟩ := r6 _ _ _ _ hi hj
        have hjk : j < k := by
          have h4 := (List.getElem?_eq_some_iff.1 hj).1
          rwa [hkk q (List.mem_of_getElem? hi)] at h4
        rw [if_pos (row_lt hb hjk)]
        exact ⟨u, by simpa using hu, hru.mono (fun _ h => h) hk⟩
      · rename_i hb
        split at hi
        · rename_i hb2
          obtain ⟨u, hu, hru⟩ := hf2.get _ _ _ _ hi hj
          have hjk : j < k := by
            have h4 := (List.getElem?_eq_some_iff.1 hj).1
            rwa [hf2.rowLen q (List.mem_of_getElem? hi)] at h4
          have h5 : p * k ≤ i * k := Nat.mul_le_mul_right _ (by omega)
          have h6 := row_lt hb2 hjk
          rw [Nat.add_mul] at h6
          rw [if_neg (by omega), if_pos h6]
          refine ⟨u, ?_, hru.mono (fun _ h => h) hk⟩
          rw [← hu]
          congr 1
          rw [Nat.sub_mul]
          omega
        · rename_i hb2
          obtain ⟨u, hu, hru⟩ := r6 _ _ _ _ hi hj
          have h5 : (p + rows2.length) * k ≤ i * k := Nat.mul_le_mul_right _ (by omega)
          have h6 : p * k ≤ i * k := Nat.mul_le_mul_right _ (by omega)
          rw [Nat.add_mul] at h5
          rw [if_neg (by omega), if_neg (by omega)]
          exact ⟨u, by simpa using hu, hru.mono (fun _ h => h) hk⟩

theorem updO_same {oo : Nat} {x : AObj} (h : ob oo = some x) : updO [(oo, some x)] ob = ob := by
  funext n
  simp only [updO]
  split
  · rename_i e; rw [e, h]
  · rfl

theorem sound_appendW (hΓ : CtxOk P Γ) (hr : Rel c nt env ob ρ S a w) (hd : dstOk nt o.dst = true) {cl : Call} (ho : o.op = .call cl) (hb : cl.callee = .builtin .append) {s x : Operand} {t t2 : TypeId} (ex : cl.args.toList = [s, x]) (et : cl.argTypes.toList = [t, t2])
    {oo k lo n : Nat} {vx : AV} (es : (aval Γ env t s).one? = some (.win oo k lo n)) (exx : (aval Γ env t2 x).one? = some vx) (h : appendW Γ ob t t2 oo k lo n vx = some r) : Goes P c nt N env ob ρ a w o r := by
  have h1 := one_rep (eval_rep (Γ := Γ) hr t s) es
  have h2 := one_rep (eval_rep (Γ := Γ) hr t2 x) exx
  have hargs : cl.args.map a.eval = #[a.eval s, a.eval x] := by
    apply Array.ext'; simp [ex]
  unfold appendW at h
  split at h
  · rename_i _ _ e uu hel ht2
    have hund := und_elem hΓ hel
    split at ht2
    · rename_i htt
      subst htt
      have htys : cl.argTypes = #[t, t] := by
        apply Array.ext'; simp [et]
      split at h
      · rename_i sz hsz
        obtain ⟨ti, hti, rfl⟩ : ∃ ti, Γ.ty e = some ti ∧ ti.size = sz := by
          unfold Ctx.size at hsz
          cases hte : Γ.ty e with
          | none => simp [hte] at hsz
          | some ti => exact ⟨ti, rfl, by simpa [hte] using hsz⟩
        obtain ⟨i, z, hrunI, hi, hisz, _⟩ := run_typeInfo' hΓ hti w
        split at h
        · rename_i k2 rows2 tx k3 ety rows hrows2 hob
          split at h
          · rename_i hc
            obtain ⟨rfl, rfl, hk, rfl, hfit⟩ := hc
            cases h
            obtain ⟨A2, c2, us2, hux, _, hflat2, hcell2⟩ := rows_src hr hrows2 h2
            obtain ⟨A, m, cc, A', hρ, hus, hA⟩ := h1
            obtain ⟨rfl, hle, _⟩ := rows_own hr hob hρ
            have hnew : (Builtin.firstCells i.size rows2.length (.slice A2 rows2.length c2)).run P w = .ok us2.toArray w := by
              rw [hisz, ← hk]; exact run_first hflat2.len hcell2
            have hrunO : ∀ v w', (Builtin.append_ #[t, t] o.type #[a.eval s, a.eval x]).run P w = .ok v w' → (execOp a.eval o).run P w = .ok (.value v) w' := fun v w' hh => by
              simp [execOp, ho, resolve, hb, invoke, builtin, hargs, htys, hh]
            intro Q
            by_cases h0 : rows2 = []
            · subst h0
              have hu2 : us2 = [] := List.length_eq_zero_iff.1 (by simpa using hflat2.len)
              subst hu2
              have hrun := run_app_room (P := P) (w := w) (w' := w) t o.type ety i hund hi (A := A') (n := n) (cc := cc - lo) hnew (by simp at hfit ⊢; omega) (by cases A' <;> simp [storeCells])
              refine wp_value (hrunO _ _ (by rw [hus, hux]; exact hrun)) ⟨ρ, S, ?_, fun _ _ => rfl⟩
              rw [splice_nil, updO_same hob]
              exact hr.value hd ⟨_, rfl, A, _, cc, A', hρ, by simp, hA⟩
            · obtain ⟨g, w', rfl, hpc, hst, hrel⟩ := write_rows (P := P) hr hd hob hρ hflat2 hfit h0 (v := .slice A' (n + rows2.length) (cc - lo)) (out := .cs false [.win oo k lo (n + rows2.length)]) (fun w' => ⟨_, rfl, _, _, cc, A', hρ, rfl, hA⟩)
              have hA' := hA (by omega)
              have hrun := run_app_room (P := P) (w := w) (w' := w') t o.type ety i hund hi (A := A') (n := n) (cc := cc - lo) hnew (by omega) (by
                subst hA'
                simp only [Option.map_some, add_lit]
                rw [hisz, ← hk, add_lit', ← Nat.add_mul]
                exact hst)
              exact wp_value (hrunO _ _ (by rw [hus, hux]; exact hrun)) ⟨ρ, S, hrel, fun _ _ => rfl⟩
          · cases h
        · cases h
      · cases h
    · cases ht2
  · cases h

theorem sound_clear (hΓ : CtxOk P Γ) (hr : Rel c nt env ob ρ S a w) (hd : dstOk nt o.dst = true) {cl : Call} (ho : o.op = .call cl) (hb : cl.callee = .builtin .clear) (h : aop0 Γ N (aval Γ env) ob o = some r) : Goes P c nt N env ob ρ a w o r := by
  simp only [aop0, ho, hb] at h
  split at h
  · rename_i s t ex et
    have hs := eval_rep (Γ := Γ) hr t s
    have hargs : cl.args.map a.eval = #[a.eval s] := by
      apply Array.ext'; simp [ex]
    have htys : cl.argTypes = #[t] := by
      apply Array.ext'; simp [et]
    split at h
    · rename_i oo k lo n es
      obtain ⟨A, m, cc, A', hρ, hus, hA⟩ := one_rep hs es
      unfold clearW at h
      split at h
      · rename_i e hel
        have hund := und_elem hΓ hel
        split at h
        · rename_i ti hti
          obtain ⟨i, z, hrunI, hi, hisz, _, hz, hzr⟩ := run_typeInfo' hΓ hti w
          split at h
          · rename_i zs k3 ety rows hzs hob
            split at h
            · rename_i hc
              obtain ⟨rfl, hk, hzl, hfit⟩ := hc
              cases h
              obtain ⟨rfl, hle, _⟩ := rows_own hr hob hρ
              have hrz := allD_rep hr hzs (zero_rep (ρ := ρ) (w := w) (S := S) hzr)
              have hrunO : ∀ w', (Builtin.clear_ #[t] o.type #[a.eval s]).run P w = .ok (.tuple #[]) w' → (execOp a.eval o).run P w = .ok (.value (.tuple #[])) w' := fun w' hh => by
                simp [execOp, ho, resolve, hb, invoke, builtin, hargs, htys, hh]
              intro Q
              by_cases h0 : n = 0
              · subst h0
                refine wp_value (hrunO w ?_) ⟨ρ, S, ?_, fun _ _ => rfl⟩
                · rw [hus]
                  cases A' <;> simp [Builtin.clear_, run_underlying hund]
                · simp only [List.replicate_zero]
                  rw [splice_nil, updO_same hob]
                  exact hr.value hd ⟨[], rfl, .nil⟩
              · have hflat : Flat w S k (List.replicate n zs) (Builtin.zeroCells z.cells n).toList := by
                  have hzsz : z.cells.size = k := by rw [hk, ← hzl, hrz.len]; simp
                  refine ⟨by simp [Builtin.zeroCells, hzsz], fun r hr => by rw [List.mem_replicate] at hr; rw [hr.2, hzl, hk], fun i j r d hi hj => ?_⟩
                  rw [List.getElem?_replicate] at hi
                  split at hi
                  · rename_i hil
                    cases hi
                    obtain ⟨u, hu, hru⟩ := hrz.get hj
                    refine ⟨u, ?_, hru⟩
                    have hjk : j < k := by rw [hk, ← hzl]; exact (List.getElem?_eq_some_iff.1 hj).1
                    have hidx := row_lt (k := k) hil hjk
                    simp only [Builtin.zeroCells, Array.toList_map, List.getElem?_map, Array.toList_range, hzsz, List.getElem?_range hidx, Option.map_some]
                    have hm : (i * k + j) % k = j := by rw [Nat.mul_comm, Nat.mul_add_mod, Nat.mod_eq_of_lt hjk]
                    rw [hm]
                    simp only [Array.getElem?_toList] at hu
                    simp only [getElem!_def, hu]
                  · cases hi
                obtain ⟨g, w', rfl, hpc, hst, hrel⟩ := write_rows (P := P) hr hd hob hρ hflat (p := lo) (by simpa using hfit) (by simp [h0]) (v := .tuple #[]) (out := .tup []) (fun w' => ⟨[], rfl, .nil⟩)
                have hA' := hA (by omega)
                refine wp_value (hrunO w' ?_) ⟨ρ, S, hrel, fun _ _ => rfl⟩
                rw [hus, hA']
                simp only [Option.map_some, add_lit]
                obtain ⟨n', rfl⟩ : ∃ n', n = n' + 1 := ⟨n - 1, by omega⟩
                simp [Builtin.clear_, run_underlying hund, zeroValue, typeInfo, hi, hz, hst]
            · cases h
          · cases h
        · cases h
      · cases h
    · cases h
  · cases h

theorem sound_append (hΓ : CtxOk P Γ) (hr : Rel c nt env ob ρ S a w) (hf : ∀ n, N ≤ n → n < N + 8 → ρ n = none) (hd : dstOk nt o.dst = true) {cl : Call} (ho : o.op = .call cl) (hb : cl.callee = .builtin .append) (h : aop0 Γ N (aval Γ env) ob o = some r) : Goes P c nt N env ob ρ a w o r := by
  simp only [aop0, ho, hb] at h
  split at h
  · rename_i s x t t2 ex et
    have hs := eval_rep (Γ := Γ) hr t s
    have hx := eval_rep (Γ := Γ) hr t2 x
    have hargs : cl.args.map a.eval = #[a.eval s, a.eval x] := by
      apply Array.ext'; simp [ex]
    split at h
    · rename_i oo k lo n vx es exx
      exact sound_appendW hΓ hr hd ho hb ex et es exx h
    · rename_i vs vx hnw es exx
      clear hnw
      have h1 := one_rep hs es
      have h2 := one_rep hx exx
      unfold appendA at h
      split at h
      · rename_i _ _ e uu hel ht2
        have hund := und_elem hΓ hel
        split at ht2
        · rename_i htt
          subst htt
          have htys : cl.argTypes = #[t, t] := by
            apply Array.ext'; simp [et]
          split at h
          · rename_i ti hti
            obtain ⟨i, z, hrunI, hi, hsz, hby, hz, hzr⟩ := run_typeInfo' hΓ hti w
            split at h
            · rename_i k2 rows2 tx hrows2
              obtain ⟨A2, c2, us2, hux, _, hflat2, hcell2⟩ := rows_src hr hrows2 h2
              split at h
              · rename_i k rows ts hsrc
                split at h
                · rename_i hc
                  obtain ⟨rfl, rfl, hzl, hk0, h63, hbytes, hdisj⟩ := hc
                  cases h
                  have hzs : z.cells.size = ti.size := by
                    have h3 := hzr.len
                    rw [← hzl, h3]; simp
                  rw [← hby] at hbytes
                  have hrunO : ∀ v w', (Builtin.append_ #[t, t] o.type #[a.eval s, a.eval x]).run P w = .ok v w' → (execOp a.eval o).run P w = .ok (.value v) w' := fun v w' hh => by
                    simp [execOp, ho, resolve, hb, invoke, builtin, hargs, htys, hh]
                  have hrl2 : ∀ rr ∈ rows2, rr.length = ti.size := hflat2.rowLen
                  have hnew : (Builtin.firstCells i.size rows2.length (.slice A2 rows2.length c2)).run P w = .ok us2.toArray w := by
                    rw [hsz]; exact run_first hflat2.len hcell2
                  have hnewD : (Builtin.firstCells i.size rows2.length (.slice A2 rows2.length c2)).run P w.drew = .ok us2.toArray w.drew := by
                    rw [hsz]; exact run_first hflat2.len hcell2
                  -- where the old row lies
                  have src : ∃ A cc us, a.eval s = .slice A rows.length cc ∧ Flat w S ti.size rows us ∧ (∀ (j : Nat) (v : Value), us[j]? = some v → ∃ ad, A = some ad ∧ w.cell? (ad.add j) = some v) ∧
                      ((cc = 0 ∧ rows = []) ∨ (∃ g oo h', ts = [oo] ∧ ob oo = some (.row ti.size e rows true) ∧ ρ oo = some h' ∧ blkOf h' = some g ∧ 0 < cc ∧ A = some ⟨g, 0, none⟩ ∧ RowBlk w S ti.size e rows g cc ∧ ¬ S g)) := by
                    unfold headOf at hsrc
                    split at hsrc
                    · cases hsrc
                      obtain ⟨A, hu⟩ := h1
                      exact ⟨A, 0, [], hu, ⟨by simp, by simp, fun i j r d hi _ => by simp at hi⟩, fun j v hv => by simp at hv, .inl ⟨rfl, rfl⟩⟩
                    · rename_i oo
                      split at hsrc
                      · rename_i k' ety' rows' hob
                        split at hsrc
                        · rename_i hety
                          subst hety
                          cases hsrc
                          obtain ⟨A, cc, us, hu, hle, hfl, hcl⟩ := rows_src (tc := [oo]) (rows := rows) (k := ti.size) hr (by simp only [rowsOf, hob]) h1
                          refine ⟨A, cc, us, hu, hfl, hcl, ?_⟩
                          obtain ⟨hρ, _⟩ := h1
                          obtain ⟨hh, h3, h4⟩ := hr.obj oo _ hob
                          rw [hρ] at h3; cases h3
                          obtain ⟨_, h5⟩ := h4
                          rcases h5 with ⟨h6, A', h7⟩ | ⟨g, c', h6, h7, h8, h9, _⟩
                          · rw [hu] at h7
                            subst h6
                            injection h7 with _ _ h7
                            exact .inl ⟨h7, rfl⟩
                          · have h7' := h7
                            rw [hu] at h7; cases h7
                            exact .inr ⟨g, oo, _, rfl, hob, hρ, by rw [h7']; simp [blkOf]; omega, h6, rfl, h8, h9 rfl⟩
                        · cases hsrc
                      · cases hsrc
                    · cases hsrc
                  obtain ⟨A, cc, us, hus, hflat, hcell, hcase⟩ := src
                  have hflat3 := hflat.append hflat2
                  have hold : (Builtin.firstCells i.size rows.length (.slice A rows.length cc)).run P w.drew = .ok us.toArray w.drew := by
                    rw [hsz]; exact run_first hflat.len hcell
                  intro Q
                  by_cases hroom : rows.length + rows2.length ≤ cc
                  · rcases hcase with ⟨rfl, rfl⟩ | ⟨g, oo, h', rfl, hob, hρ, hblk, hcc, rfl, ⟨q1, q2, q3, cur, q4, q5, q7, q6⟩, hlive⟩
                    · have hm : rows2.length = 0 := by simp at hroom; exact by simp [hroom]
                      have hr2 : rows2 = [] := List.length_eq_zero_iff.1 hm
                      subst hr2
                      have hu2 : us2 = [] := by
                        have := hflat2.len
                        exact List.length_eq_zero_iff.1 (by simpa using this)
                      subst hu2
                      have hrun := run_app_room (P := P) (w := w) (w' := w) t o.type e i hund hi (A := A) (n := 0) (cc := 0) hnew (by simp) (by cases A <;> simp [storeCells])
                      have hne : ∀ oo ∈ ts, True := fun _ _ => trivial
                      obtain ⟨ρ', e2, hrel⟩ := hr.replace (N := N) (ts := ts) (x := .row ti.size e ([] ++ []) true) (h := .slice A 0 0) (v := .slice A 0 0) (out := .cs false [.own N]) (w' := w) hd (hf N (by omega) (by omega)) (Keeps.refl _ _) rfl rfl rfl (Nat.le_refl _) (fun _ _ _ => rfl)
                        (fun ρ' _ _ => ⟨by simp, .inl ⟨rfl, A, rfl⟩⟩) (fun b hbb => by cases A <;> simp [blkOf] at hbb) (fun _ _ _ _ _ _ _ _ => rfl) (fun ρ' e1 => ⟨_, rfl, e1, A, 0, 0, rfl⟩)
                      refine wp_value (hrunO _ _ (by rw [hus, hux]; exact hrun)) ⟨ρ', S, hrel, fun n hn => e2 n (by omega)⟩
                    · have hl := hflat.len
                      have hl2 := hflat2.len
                      have hfit : rows.length * ti.size + us2.length ≤ cur.size := by
                        rw [q5, hl2, ← Nat.add_mul]; exact Nat.mul_le_mul_right _ hroom
                      have hone : ∀ v ∈ us2, v.oneCell' = true := fun v hv => by
                        obtain ⟨j, hj⟩ := List.getElem?_of_mem hv
                        have hjl : j < rows2.length * ti.size := by rw [← hl2]; exact (List.getElem?_eq_some_iff.1 hj).1
                        have h1 : j / ti.size < rows2.length := by rw [Nat.div_lt_iff_lt_mul hk0]; exact hjl
                        have h2 : j % ti.size < ti.size := Nat.mod_lt _ hk0
                        have h3 : rows2[j / ti.size]? = some rows2[j / ti.size] := List.getElem?_eq_getElem h1
                        have h4 := hflat2.rowLen _ (List.getElem_mem h1)
                        have h5 : (rows2[j / ti.size])[j % ti.size]? = some ((rows2[j / ti.size])[j % ti.size]'(by omega)) := List.getElem?_eq_getElem (by omega)
                        obtain ⟨u, hu, hru⟩ := hflat2.get _ _ _ _ h3 h5
                        have h6 : j / ti.size * ti.size + j % ti.size = j := by rw [Nat.mul_comm]; exact Nat.div_add_mod j ti.size
                        rw [h6, hj] at hu
                        cases hu
                        exact hru.one
                      have hst := run_storeCells_at P g (rows.length * ti.size) e us2 0 cur w q4 (by simpa using hfit) hone
                      simp only [Nat.add_zero] at hst
                      have hrun := run_app_room (P := P) (w := w) (A := some ⟨g, 0, none⟩) t o.type e i hund hi (n := rows.length) (cc := cc) hnew hroom (by rw [hsz]; simp only [add_lit]; exact hst)
                      have hbl : cc ≠ 0 := by omega
                      have hkS : ∀ cs, Keeps S w (w.setRow g cs) := fun cs b hbS => setRow_other w g b cs (fun e => hlive (e ▸ hbS))
                      have hplace := (hr.place _ _ _ _ hob hρ hblk).resolve_right hlive
                      obtain ⟨ρ', e2, hrel⟩ := hr.replace (N := N) (ts := [oo]) (x := .row ti.size e (rows ++ rows2) true) (h := .slice (some ⟨g, 0, none⟩) (rows.length + rows2.length) cc) (v := .slice (some ⟨g, 0, none⟩) (rows.length + rows2.length) cc) (out := .cs false [.own N])
                        (w' := w.setRow g (cur.toList.take (rows.length * ti.size) ++ us2 ++ cur.toList.drop (rows.length * ti.size + us2.length)).toArray) hd (hf N (by omega) (by omega)) (hkS _) rfl rfl rfl (by simp)
                        (fun b hb1 hb2 => setRow_other w g b _ (fun e => by
                          subst e
                          rcases hplace with h9 | h9
                          · omega
                          · exact hb2 h9))
                        (fun ρ' _ gg => ⟨hflat3.rowLen, .inr ⟨g, cc, hcc, by simp, ⟨by simpa using hroom, q2, hk0, _, setRow_heap w g cur _ e _ q4, by simp; omega, (q7.mono gg.sub gg.keeps).splice (fun v hv => let ⟨_, hd⟩ := flat_rep hflat2 v hv; ⟨_, hd.mono gg.sub gg.keeps⟩) _, fun i' j' rr d hi' hj' => by
                          have h7 : us = cur.toList.take (rows.length * ti.size) := by
                            apply List.ext_getElem?
                            intro j
                            by_cases hj : j < us.length
                            · have h8 : us[j]? = some us[j] := List.getElem?_eq_getElem hj
                              obtain ⟨ad, e, h9⟩ := hcell j _ h8
                              cases e
                              rw [add_lit, cell_of_row w g _ cur e (0, 0) q4] at h9
                              rw [h8, List.getElem?_take, if_pos (by omega)]
                              simpa using h9.symm
                            · have h10 : rows.length * ti.size ≤ cur.size := by omega
                              rw [List.getElem?_eq_none (by omega), List.getElem?_eq_none (by simp; omega)]
                          obtain ⟨u, hu, hru⟩ := hflat3.pref (more := cur.toList.drop (rows.length * ti.size + us2.length)) i' j' rr d hi' hj'
                          refine ⟨u, ?_, hru.mono gg.sub gg.keeps⟩
                          rw [← h7]
                          simpa using hu⟩, fun _ => hlive, fun hh => by cases hh⟩⟩)
                        (fun b hbb => by
                          simp [blkOf, hbl] at hbb
                          subst hbb
                          exact ⟨hplace, fun o2 x2 h2 hx2 hn2 hh2 hb2 => hn2 (by
                            have := hr.sep _ _ _ _ _ _ _ hx2 hob hh2 hρ hb2 hblk
                            simp [this])⟩)
                        (fun o2 x2 h2 b hx2 hn2 hh2 hb2 => setRow_other w g b _ (fun e => hn2 (by
                          subst e
                          have := hr.sep _ _ _ _ _ _ _ hx2 hob hh2 hρ hb2 hblk
                          simp [this])))
                        (fun ρ' e1 => ⟨_, rfl, e1, _, _, _, rfl⟩)
                      refine wp_value (hrunO _ _ (by rw [hus, hux]; exact hrun)) ⟨ρ', S, hrel, fun n hn => e2 n (by omega)⟩
                  · have hgc : cc < rows.length + rows2.length := by omega
                    have hrun := run_app_grow (P := P) (w := w) t o.type e i z hund hi hz hold hnewD hgc h63 hbytes
                    have hge := grownCap_ge w (rows.length + rows2.length) cc e
                    have hcm := grownCap_le_maxLen w (rows.length + rows2.length) cc e (by simp only [maxLen]; omega)
                    have hl := hflat.len
                    have hl2 := hflat2.len
                    have hkS : ∀ X, Keeps S w (w.drew.alloc X) := fun X b hbS => RowKit.Below.heap_alloc w.drew X b (hr.lim b hbS)
                    obtain ⟨C, hC⟩ : ∃ C, C = grownCap w (rows.length + rows2.length) cc e := ⟨_, rfl⟩
                    rw [← hC] at hrun hge hcm
                    have hC0 : C ≠ 0 := by omega
                    obtain ⟨ρ', e2, hrel⟩ := hr.replace (N := N) (ts := ts) (x := .row ti.size e (rows ++ rows2) true) (h := .slice (some ⟨w.heap.size, 0, none⟩) (rows.length + rows2.length) C) (v := .slice (some ⟨w.heap.size, 0, none⟩) (rows.length + rows2.length) C) (out := .cs false [.own N])
                      (w' := w.drew.alloc (.cells (us.toArray ++ us2.toArray ++ Builtin.zeroCells z.cells (C - (rows.length + rows2.length))) e)) hd (hf N (by omega) (by omega)) (hkS _) rfl rfl rfl (by simp)
                      (fun b hb1 _ => RowKit.Below.heap_alloc w.drew _ b (by have := hr.hsize; show b < w.heap.size; omega))
                      (fun ρ' _ gg => ⟨hflat3.rowLen, .inr ⟨w.heap.size, C, by omega, by simp, ⟨by simpa using hge, hcm, hk0, _, heap_alloc_new w.drew _, by
                          simp only [Array.size_append, List.size_toArray, size_zeroCells, hzs, hl, hl2, ← Nat.add_mul]
                          congr 1
                          omega, fun u hu => by
                            simp only [Array.toList_append, List.mem_append] at hu
                            rcases hu with (hu | hu) | hu
                            · obtain ⟨d, hd⟩ := flat_rep hflat u hu; exact ⟨d, hd.mono gg.sub gg.keeps⟩
                            · obtain ⟨d, hd⟩ := flat_rep hflat2 u hu; exact ⟨d, hd.mono gg.sub gg.keeps⟩
                            · exact zeroCells_rep (zero_spare hzr) (by omega) _ u hu, fun i' j' rr d hi' hj' => by
                        obtain ⟨u, hu, hru⟩ := hflat3.pref (more := (Builtin.zeroCells z.cells (C - (rows.length + rows2.length))).toList) i' j' rr d hi' hj'
                        refine ⟨u, ?_, hru.mono gg.sub gg.keeps⟩
                        rw [← hu, ← Array.getElem?_toList]
                        simp⟩, fun _ hs => absurd (hr.lim _ hs) (by omega), fun hh => by cases hh⟩⟩)
                      (fun b hbb => by
                        simp [blkOf, hC0] at hbb
                        subst hbb
                        exact ⟨.inl (by have := hr.hsize; omega), fun o2 x2 h2 hx2 hn2 hh2 hb2 => absurd (blk_lt hr hx2 hh2 hb2) (by omega)⟩)
                      (fun o2 x2 h2 b hx2 hn2 hh2 hb2 => RowKit.Below.heap_alloc w.drew _ b (blk_lt hr hx2 hh2 hb2))
                      (fun ρ' e1 => ⟨_, rfl, e1, _, _, _, rfl⟩)
                    refine wp_value (hrunO _ _ (by rw [hus, hux]; exact hrun)) ⟨ρ', S, hrel, fun n hn => e2 n (by omega)⟩
                · cases h
              · cases h
            · cases h
          · cases h
        · cases ht2
      · cases h
    · cases h
  · cases h

end
end Go.Eng
namespace Go.Eng

section
variable {P : Program} {Γ : Ctx} {c : Base} {nt : Nat} {env : Nat → AT} {ob : Nat → Option AObj} {ρ : Where} {S : Nat → Prop} {a : Act} {w : World}
variable {N : Nat} {o : Oper} {r : AOut}

/-- The blocks of some objects. -/
def blks (ρ : Where) (l : List Nat) : List Nat := l.filterMap fun o => (ρ o).bind blkOf

theorem mem_blks {ρ : Where} {l : List Nat} {b : Nat} : b ∈ blks ρ l ↔ ∃ o ∈ l, ∃ h, ρ o = some h ∧ blkOf h = some b := by
  simp only [blks, List.mem_filterMap, Option.bind_eq_some_iff]

theorem blks_append {ρ : Where} (l l' : List Nat) : blks ρ (l ++ l') = blks ρ l ++ blks ρ l' := by simp [blks]

theorem mem_lives {ob : Nat → Option AObj} : ∀ {xs : List AV} {o : Nat}, o ∈ livesOf ob xs → ∃ k e rows, ob o = some (.row k e rows true)
  | [], o, h => by simp [livesOf] at h
  | x :: xs, o, h => by
    cases x with
    | own n =>
      simp only [livesOf] at h
      split at h
      · rename_i k e rows hob
        rcases List.mem_cons.1 h with rfl | h
        · exact ⟨k, e, rows, hob⟩
        · exact mem_lives h
      · exact mem_lives h
    | d _ => exact mem_lives (xs := xs) (by simpa [livesOf] using h)
    | nils _ => exact mem_lives (xs := xs) (by simpa [livesOf] using h)
    | ptr _ _ => exact mem_lives (xs := xs) (by simpa [livesOf] using h)
    | eptr _ _ _ _ => exact mem_lives (xs := xs) (by simpa [livesOf] using h)
    | win _ _ _ _ => exact mem_lives (xs := xs) (by simpa [livesOf] using h)
    | wx _ _ _ _ => exact mem_lives (xs := xs) (by simpa [livesOf] using h)
    | yld _ => exact mem_lives (xs := xs) (by simpa [livesOf] using h)
    | vsl _ _ => exact mem_lives (xs := xs) (by simpa [livesOf] using h)
    | clo _ _ => exact mem_lives (xs := xs) (by simpa [livesOf] using h)

theorem blks_nodup (hr : Rel c nt env ob ρ S a w) : ∀ {l : List Nat}, l.Nodup → (∀ o ∈ l, ∃ x, ob o = some x) → (blks ρ l).Nodup
  | [], _, _ => by simp [blks]
  | n :: l, hn, hl => by
    rw [List.nodup_cons] at hn
    have ih := blks_nodup hr hn.2 fun o ho => hl o (List.mem_cons_of_mem _ ho)
    unfold blks at ih ⊢
    rw [List.filterMap_cons]
    split
    · exact ih
    · rename_i b hb
      rw [List.nodup_cons]
      refine ⟨fun hm => ?_, ih⟩
      obtain ⟨h, h1, h2⟩ := Option.bind_eq_some_iff.1 hb
      obtain ⟨n', hn', h', h1', h2'⟩ := mem_blks.1 hm
      obtain ⟨x, hx⟩ := hl n (List.mem_cons_self ..)
      obtain ⟨x', hx'⟩ := hl n' (List.mem_cons_of_mem _ hn')
      have := hr.sep _ _ _ _ _ _ _ hx hx' h1 h1' h2 h2'
      exact hn.1 (this ▸ hn')

theorem allArg_rep (hr : Rel c nt env ob ρ S a w) (eat : Bool) (T : Nat → Prop) (hS : ∀ b, S b → T b) : ∀ {xs : List AV} {cs : List CV} {us : List Value}, allArg eat ob xs = some cs → All2 (RepAV ρ w S) xs us →
    (∀ n ∈ livesOf ob xs, ∀ h b, ρ n = some h → blkOf h = some b → if eat then ¬ T b else T b) → CVs w T cs us (if eat then blks ρ (livesOf ob xs) else [])
  | [], cs, us, h, hu, _ => by
    cases hu
    simp only [allArg, Option.some.injEq] at h
    subst h
    cases eat <;> exact .nil
  | x :: xs, cs, us, h, hu, hlv => by
    simp only [allArg] at h
    split at h
    · rename_i d ds hd hds
      cases h
      cases hu with
      | cons h1 h2 =>
        rename_i u us
        have hmono : ∀ {dd : D} {uu : Value}, Rep w S dd uu → Rep w T dd uu := fun hh => hh.mono hS (Keeps.refl _ _)
        have plain : ∀ (y : AV) (dd : D), y = x → (∀ k, y ≠ .own k) → avD ob y = some dd → d = .d dd → CVs w T (d :: ds) (u :: us) (if eat then blks ρ (livesOf ob (x :: xs)) else []) := by
          intro y dd hy hno hdd he
          subst hy; subst he
          have e : livesOf ob (y :: xs) = livesOf ob xs := by
            cases y <;> first | rfl | exact absurd rfl (hno _)
          rw [e]
          exact .d (hmono (avD_rep hr hdd h1)) (allArg_rep hr eat T hS hds h2 fun n hn => hlv n (by rw [e]; exact hn))
        cases x with
        | own n =>
          simp only [avArg] at hd
          split at hd
          · rename_i k e rows hob
            have ih := allArg_rep hr eat T hS hds h2 fun n hn => hlv n (by simp [livesOf, hob, hn])
            obtain ⟨hρ, A, nn, cc, rfl⟩ := h1
            obtain ⟨hh, h3, h4⟩ := hr.obj n _ hob
            rw [hρ] at h3; cases h3
            obtain ⟨hk, h5⟩ := h4
            have hmem := hlv n (by simp [livesOf, hob])
            cases eat with
            | true =>
              simp only [if_true, Option.some.injEq] at hd ih hmem ⊢
              subst hd
              rcases h5 with ⟨rfl, A', he⟩ | ⟨g, c', hc0, he, hblk, hlive, _⟩
              · cases he
                have e2 : blks ρ (livesOf ob (.own n :: xs)) = blks ρ (livesOf ob xs) := by
                  simp only [livesOf, hob, blks, List.filterMap_cons, hρ, Option.bind_some]
                  cases A <;> simp [blkOf]
                rw [e2]
                exact .ownNil ih
              · have hblk2 : blkOf (.slice A nn cc) = some g := by rw [he]; simp [blkOf]; omega
                have e2 : blks ρ (livesOf ob (.own n :: xs)) = g :: blks ρ (livesOf ob xs) := by
                  simp only [livesOf, hob, blks, List.filterMap_cons, hρ, Option.bind_some, hblk2]
                have hnT := hmem _ _ hρ hblk2
                rw [e2, he]
                refine .own hc0 hk ⟨hblk.cap, hblk.max, hblk.pos, ?_⟩ hnT ih
                · obtain ⟨cur, q1, q2, q6, q3⟩ := hblk.blk
                  exact ⟨cur, q1, q2, fun u hu => let ⟨_, hd⟩ := q6 u hu; ⟨_, hmono hd⟩, fun i j r dd hi hj => let ⟨v, q4, q5⟩ := q3 i j r dd hi hj; ⟨v, q4, hmono q5⟩⟩
            | false =>
              simp only [Bool.false_eq_true, if_false, Option.some.injEq] at hd ih hmem ⊢
              subst hd
              refine .d ?_ ih
              rcases h5 with ⟨rfl, A', he⟩ | ⟨g, c', hc0, he, ⟨r1, r2, r3, cur, r4, r5, r7, r6⟩, hlive, _⟩
              · cases he
                exact .vec k [] A 0 (fun _ _ => undef) (Nat.le_refl _) (by simp [maxLen]) (by simp) (fun i j hi _ => absurd hi (by simp)) (fun i j r d hi _ => by simp at hi)
              · have hblk2 : blkOf (.slice A nn cc) = some g := by rw [he]; simp [blkOf]; omega
                have hg : T g := hmem _ _ hρ hblk2
                rw [he]
                refine .vec k rows _ _ (fun i j => cur.getD (i * k + j) undef) r1 r2 hk (fun i j hi hj => ?_) (fun i j rr d hi hj => ?_)
                · have hri : rows[i]? = some rows[i] := List.getElem?_eq_getElem hi
                  have hrl := hk _ (List.getElem_mem hi)
                  have hjd : rows[i][j]? = some (rows[i][j]'(by omega)) := List.getElem?_eq_getElem (by omega)
                  obtain ⟨u, hu, _⟩ := r6 i j _ _ hri hjd
                  refine ⟨_, rfl, hg, ?_⟩
                  rw [add_lit, cell_of_row w g _ cur e (0, 0) r4, hu]
                  simp [Array.getD_eq_getD_getElem?, hu]
                · obtain ⟨u, hu, hru⟩ := r6 i j _ _ hi hj
                  simp only [Array.getD_eq_getD_getElem?, hu, Option.getD_some]
                  exact hmono hru
          · rename_i k e rows hob
            cases hd
            have e : livesOf ob (.own n :: xs) = livesOf ob xs := by simp [livesOf, hob]
            rw [e]
            exact .d (hmono (avD_rep hr (x := .own n) (by simp [avD, hob]) h1)) (allArg_rep hr eat T hS hds h2 fun n hn => hlv n (by rw [e]; exact hn))
          · cases hd
        | d y =>
          simp only [avArg, Option.map_eq_some_iff] at hd
          obtain ⟨dd, hdd, rfl⟩ := hd
          exact plain _ dd rfl (fun k => by simp) hdd rfl
        | nils k =>
          simp only [avArg, Option.map_eq_some_iff] at hd
          obtain ⟨dd, hdd, rfl⟩ := hd
          exact plain _ dd rfl (fun k => by simp) hdd rfl
        | ptr n off =>
          simp only [avArg, Option.map_eq_some_iff] at hd
          obtain ⟨dd, hdd, rfl⟩ := hd
          exact plain _ dd rfl (fun k => by simp) hdd rfl
        | eptr n k i j =>
          simp only [avArg, Option.map_eq_some_iff] at hd
          obtain ⟨dd, hdd, rfl⟩ := hd
          exact plain _ dd rfl (fun k => by simp) hdd rfl
        | win n k i j =>
          simp only [avArg, Option.map_eq_some_iff] at hd
          obtain ⟨dd, hdd, rfl⟩ := hd
          exact plain _ dd rfl (fun k => by simp) hdd rfl
        | yld n =>
          simp only [avArg, Option.map_eq_some_iff] at hd
          obtain ⟨dd, hdd, rfl⟩ := hd
          exact plain _ dd rfl (fun k => by simp) hdd rfl
        | vsl n m =>
          simp only [avArg, Option.map_eq_some_iff] at hd
          obtain ⟨dd, hdd, rfl⟩ := hd
          exact plain _ dd rfl (fun k => by simp) hdd rfl
        | wx n k i j =>
          simp only [avArg, Option.map_eq_some_iff] at hd
          obtain ⟨dd, hdd, rfl⟩ := hd
          exact plain _ dd rfl (fun k => by simp) hdd rfl
        | clo f ks =>
          simp only [avArg, Option.map_eq_some_iff] at hd
          obtain ⟨dd, hdd, rfl⟩ := hd
          exact plain _ dd rfl (fun k => by simp) hdd rfl
    · cases h

theorem allArg_len {eat : Bool} {ob : Nat → Option AObj} : ∀ {xs : List AV} {cs : List CV}, allArg eat ob xs = some cs → xs.length = cs.length
  | [], cs, h => by
    simp only [allArg, Option.some.injEq] at h
    subst h; rfl
  | x :: xs, cs, h => by
    simp only [allArg] at h
    split at h
    · rename_i d ds hd hds
      cases h
      simp [allArg_len hds]
    · cases h

theorem convArgs_rep (hr : Rel c nt env ob ρ S a w) (T : Nat → Prop) (hS : ∀ b, S b → T b) : ∀ {args : List (Bool × List AV)} {es : List Bool} {cs : List (Bool × List CV)} {vs : List Value}, convArgs ob es args = some cs → All2 (fun t u => RepC ρ w S t.1 t.2 u) args vs →
    (∀ n ∈ eatenOf ob es args, ∀ h b, ρ n = some h → blkOf h = some b → ¬ T b) → (∀ n ∈ lentOf ob es args, ∀ h b, ρ n = some h → blkOf h = some b → T b) → Comps w T cs vs (blks ρ (eatenOf ob es args))
  | [], es, cs, vs, h, hu, _, _ => by
    cases hu
    simp only [convArgs, Option.some.injEq] at h
    subst h
    exact .nil
  | (g, ys) :: args, es, cs, vs, h, hu, he, hl => by
    simp only [convArgs] at h
    split at h
    · rename_i ds rest hds hrest
      cases h
      cases hu with
      | cons h1 h2 =>
        rename_i u us
        simp only [eatenOf, lentOf] at he hl
        have ih := convArgs_rep hr T hS hrest h2 (fun n hn => he n (List.mem_append.2 (.inr hn))) (fun n hn => hl n (List.mem_append.2 (.inr hn)))
        have hh : ∀ n ∈ livesOf ob ys, ∀ h b, ρ n = some h → blkOf h = some b → if es.headD false then ¬ T b else T b := by
          intro n hn h b e1 e2
          cases hes : es.headD false with
          | true => simp only [if_true]; exact he n (List.mem_append.2 (.inl (by rw [hes]; exact hn))) h b e1 e2
          | false => simp only [Bool.false_eq_true, if_false]; exact hl n (List.mem_append.2 (.inl (by rw [hes]; exact hn))) h b e1 e2
        have e : blks ρ (eatenOf ob es ((g, ys) :: args)) = (if es.headD false then blks ρ (livesOf ob ys) else []) ++ blks ρ (eatenOf ob es.tail args) := by
          simp only [eatenOf, blks_append]
          cases es.headD false <;> rfl
        rw [e]
        cases g with
        | true =>
          obtain ⟨us', rfl, h3⟩ := h1
          exact .agg (allArg_rep hr _ T hS hds h3 hh) ih
        | false =>
          obtain ⟨x, rfl, h3⟩ := h1
          have h4 := allArg_rep hr _ T hS hds (.cons h3 .nil) hh
          have hl := allArg_len hds
          match ds, hl, h4 with
          | [d], _, h4 => exact .one h4 ih
    · cases h

/-- The headers of the own rows of a result, in order. -/
def hdrs : List CV → List Value → List Value
  | .own .. :: cs, u :: us => u :: hdrs cs us
  | _ :: cs, _ :: us => hdrs cs us
  | _, _ => []

theorem hdrs_len {w : World} {S : Nat → Prop} {cs : List CV} {us : List Value} {bs : List Nat} (h : CVs w S cs us bs) : (hdrs cs us).length = ownsIn cs := by
  induction h with
  | nil => rfl
  | d _ _ ih => simpa [hdrs, ownsIn] using ih
  | ownNil _ ih => simp [hdrs, ownsIn, ih]
  | own _ _ _ _ _ ih => simp [hdrs, ownsIn, ih]

theorem hdrs_blks {w : World} {S : Nat → Prop} {cs : List CV} {us : List Value} {bs : List Nat} (h : CVs w S cs us bs) : (hdrs cs us).filterMap blkOf = bs := by
  induction h with
  | nil => rfl
  | d _ _ ih => simpa [hdrs] using ih
  | @ownNil k e A cs us bs _ ih =>
    have : blkOf (.slice A 0 0) = none := by cases A <;> simp [blkOf]
    simp [hdrs, ih, this]
  | @own k e rows g c cs us bs hc _ _ _ _ ih => simp [hdrs, ih, blkOf, Nat.ne_of_gt hc]

theorem resAVs_rep {w : World} {S : Nat → Prop} {ρ : Where} {cs : List CV} {us : List Value} {bs : List Nat} (h : CVs w S cs us bs) : ∀ (n : Nat), (∀ (i : Nat) (u : Value), (hdrs cs us)[i]? = some u → ρ (n + i) = some u) →
    All2 (RepAV ρ w S) (resAVs n cs).1 us ∧ ∀ (m : Nat) (x : Option AObj), (m, x) ∈ (resAVs n cs).2 → ∃ i u y, m = n + i ∧ (hdrs cs us)[i]? = some u ∧ x = some y ∧ ObjRep ρ w S u y := by
  induction h with
  | nil => intro n _; exact ⟨.nil, fun m x hm => by simp [resAVs] at hm⟩
  | d hh _ ih =>
    intro n hρ
    obtain ⟨h1, h2⟩ := ih n (by simpa [hdrs] using hρ)
    exact ⟨.cons hh h1, fun m x hm => by simpa [hdrs] using h2 m x (by simpa [resAVs] using hm)⟩
  | @ownNil k e A cs us bs _ ih =>
    intro n hρ
    have h0 := hρ 0 (.slice A 0 0) rfl
    obtain ⟨h1, h2⟩ := ih (n + 1) (fun i u hu => by have := hρ (i + 1) u (by simpa [hdrs] using hu); rwa [Nat.add_assoc, Nat.add_comm 1 i])
    refine ⟨.cons ⟨h0, A, 0, 0, rfl⟩ h1, fun m x hm => ?_⟩
    simp only [resAVs, List.mem_cons] at hm
    rcases hm with hm | hm
    · cases hm
      exact ⟨0, _, _, rfl, by simp [hdrs], rfl, by simp, .inl ⟨rfl, A, rfl⟩⟩
    · obtain ⟨i, u, y, rfl, e1, e2, e3⟩ := h2 m x hm
      exact ⟨i + 1, u, y, by omega, by simpa [hdrs] using e1, e2, e3⟩
  | @own k e rows g cc cs us bs hc hk hblk hs _ ih =>
    intro n hρ
    have h0 := hρ 0 (.slice (some ⟨g, 0, none⟩) rows.length cc) rfl
    obtain ⟨h1, h2⟩ := ih (n + 1) (fun i u hu => by have := hρ (i + 1) u (by simpa [hdrs] using hu); rwa [Nat.add_assoc, Nat.add_comm 1 i])
    refine ⟨.cons ⟨h0, _, _, _, rfl⟩ h1, fun m x hm => ?_⟩
    simp only [resAVs, List.mem_cons] at hm
    rcases hm with hm | hm
    · cases hm
      exact ⟨0, _, _, rfl, by simp [hdrs], rfl, hk, .inr ⟨g, cc, hc, rfl, hblk, fun _ => hs, fun hh => by cases hh⟩⟩
    · obtain ⟨i, u, y, rfl, e1, e2, e3⟩ := h2 m x hm
      exact ⟨i + 1, u, y, by omega, by simpa [hdrs] using e1, e2, e3⟩

/-- The headers of all components, in order. -/
def hdrsAll : List (Bool × List CV) → List Value → List Value
  | (true, cs) :: r, .agg us :: vs => hdrs cs us.toList ++ hdrsAll r vs
  | (false, cs) :: r, u :: vs => hdrs cs [u] ++ hdrsAll r vs
  | _, _ => []

theorem hdrsAll_blks {w : World} {S : Nat → Prop} {cs : List (Bool × List CV)} {us : List Value} {bs : List Nat} (h : Comps w S cs us bs) : (hdrsAll cs us).filterMap blkOf = bs := by
  induction h with
  | nil => rfl
  | one h _ ih => simp [hdrsAll, ih, hdrs_blks h]
  | agg h _ ih => simp [hdrsAll, ih, hdrs_blks h]

theorem resComps_rep {w : World} {S : Nat → Prop} {ρ : Where} {cs : List (Bool × List CV)} {us : List Value} {bs : List Nat} (h : Comps w S cs us bs) : ∀ (n : Nat), (∀ (i : Nat) (u : Value), (hdrsAll cs us)[i]? = some u → ρ (n + i) = some u) →
    All2 (fun t u => RepC ρ w S t.1 t.2 u) (resComps n cs).1 us ∧ ∀ (m : Nat) (x : Option AObj), (m, x) ∈ (resComps n cs).2 → ∃ i u y, m = n + i ∧ (hdrsAll cs us)[i]? = some u ∧ x = some y ∧ ObjRep ρ w S u y := by
  have key : ∀ {cs' : List CV} {us' : List Value} {bs' : List Nat} {l : List Value} {n : Nat}, CVs w S cs' us' bs' → (∀ (i : Nat) (u : Value), (hdrs cs' us' ++ l)[i]? = some u → ρ (n + i) = some u) →
      (∀ (i : Nat) (u : Value), (hdrs cs' us')[i]? = some u → ρ (n + i) = some u) ∧ (∀ (i : Nat) (u : Value), l[i]? = some u → ρ (n + ownsIn cs' + i) = some u) := by
    intro cs' us' bs' l n h hρ
    have hl := hdrs_len h
    refine ⟨fun i u hu => hρ i u (by rw [List.getElem?_append_left (List.getElem?_eq_some_iff.1 hu).1]; exact hu), fun i u hu => ?_⟩
    rw [Nat.add_assoc]
    refine hρ _ u ?_
    rw [List.getElem?_append_right (by omega), hl, Nat.add_sub_cancel_left]
    exact hu
  induction h with
  | nil => intro n _; exact ⟨.nil, fun m x hm => by simp [resComps] at hm⟩
  | @one x u bs r vs bs' h _ ih =>
    intro n hρ
    obtain ⟨q1, q2⟩ := key h (by simpa [hdrsAll] using hρ)
    obtain ⟨h1, h2⟩ := resAVs_rep h n q1
    obtain ⟨h3, h4⟩ := ih _ q2
    refine ⟨.cons ?_ h3, fun m y hm => ?_⟩
    · obtain ⟨x', hx'⟩ : ∃ x', (resAVs n [x]).1 = [x'] := by cases x <;> exact ⟨_, rfl⟩
      rw [hx'] at h1
      refine ⟨x', hx', ?_⟩
      cases h1 with
      | cons h5 _ => exact h5
    · simp only [resComps, List.mem_append] at hm
      rcases hm with hm | hm
      · obtain ⟨i, v, z, e1, e2, e3⟩ := h2 m y hm
        exact ⟨i, v, z, e1, by simp only [hdrsAll]; rw [List.getElem?_append_left (List.getElem?_eq_some_iff.1 e2).1]; exact e2, e3⟩
      · obtain ⟨i, v, z, e1, e2, e3⟩ := h4 m y hm
        refine ⟨ownsIn [x] + i, v, z, by omega, ?_, e3⟩
        simp only [hdrsAll]
        rw [List.getElem?_append_right (by rw [hdrs_len h]; omega), hdrs_len h, Nat.add_sub_cancel_left]
        exact e2
  | @agg cs us bs r vs bs' h _ ih =>
    intro n hρ
    obtain ⟨q1, q2⟩ := key h (by simpa [hdrsAll] using hρ)
    obtain ⟨h1, h2⟩ := resAVs_rep h n q1
    obtain ⟨h3, h4⟩ := ih _ q2
    refine ⟨.cons ⟨us, rfl, h1⟩ h3, fun m y hm => ?_⟩
    simp only [resComps, List.mem_append] at hm
    rcases hm with hm | hm
    · obtain ⟨i, v, z, e1, e2, e3⟩ := h2 m y hm
      exact ⟨i, v, z, e1, by simp only [hdrsAll]; rw [List.getElem?_append_left (List.getElem?_eq_some_iff.1 e2).1]; exact e2, e3⟩
    · obtain ⟨i, v, z, e1, e2, e3⟩ := h4 m y hm
      refine ⟨ownsIn cs + i, v, z, by omega, ?_, e3⟩
      simp only [hdrsAll]
      rw [List.getElem?_append_right (by rw [hdrs_len h]; omega), hdrs_len h, Nat.add_sub_cancel_left]
      exact e2

theorem args_rep (hr : Rel c nt env ob ρ S a w) : ∀ {xs : List Operand} {ts : List TypeId} {args : List (Bool × List AV)}, argsOf (aval Γ env) xs ts = some args → All2 (fun t u => RepC ρ w S t.1 t.2 u) args (xs.map a.eval)
  | [], ts, args, h => by
    simp only [argsOf, Option.some.injEq] at h
    subst h
    exact .nil
  | x :: xs, ts, args, h => by
    simp only [argsOf] at h
    split at h
    · rename_i g ys rest e hrest
      cases h
      have hx := eval_rep (Γ := Γ) hr (ts.headD 0) x
      rw [e] at hx
      exact .cons hx (args_rep hr hrest)
    · cases h

theorem keys_news {cs : List (Bool × List CV)} {n : Nat} {m : Nat} {x : Option AObj} {us : List Value} {bs : List Nat} {w : World} {S : Nat → Prop} (h : Comps w S cs us bs) (hm : (m, x) ∈ (resComps n cs).2) :
    ∃ i, m = n + i ∧ i < (hdrsAll cs us).length := by
  have := (resComps_rep (ρ := fun k => (hdrsAll cs us)[k - n]?) h n (fun i u hu => by simp only [Nat.add_sub_cancel_left]; exact hu)).2 m x hm
  obtain ⟨i, u, y, e1, e2, _⟩ := this
  exact ⟨i, e1, (List.getElem?_eq_some_iff.1 e2).1⟩

theorem news_len {cs : List (Bool × List CV)} {us : List Value} {bs : List Nat} {w : World} {S : Nat → Prop} (h : Comps w S cs us bs) : ∀ n, (resComps n cs).2.length = (hdrsAll cs us).length := by
  have key : ∀ {cs' : List CV} {us' : List Value} {bs' : List Nat}, CVs w S cs' us' bs' → ∀ n, (resAVs n cs').2.length = (hdrs cs' us').length := by
    intro cs' us' bs' h
    induction h with
    | nil => intro n; rfl
    | d _ _ ih => intro n; simpa [resAVs, hdrs] using ih n
    | ownNil _ ih => intro n; simp [resAVs, hdrs, ih]
    | own _ _ _ _ _ ih => intro n; simp [resAVs, hdrs, ih]
  induction h with
  | nil => intro n; rfl
  | one h _ ih => intro n; simp [resComps, hdrsAll, ih, key h]
  | agg h _ ih => intro n; simp [resComps, hdrsAll, ih, key h]

/-- The result's cells as a list of components, and its news, in either make of result. -/
theorem out_comps {res : Res} {n : Nat} {t : AT} {news : List (Nat × Option AObj)} (h : res.out n = some (t, news)) :
    news = (resComps n res.cs).2 ∧ ((res.tup = true ∧ t = .tup (resComps n res.cs).1) ∨ (res.tup = false ∧ ∃ g xs, t = .cs g xs ∧ (resComps n res.cs).1 = [(g, xs)])) := by
  unfold Res.out at h
  split at h
  · rename_i ht
    cases h
    exact ⟨rfl, .inl ⟨ht, rfl⟩⟩
  · rename_i ht
    split at h
    · rename_i g cs hcs
      cases h
      rw [hcs]
      refine ⟨by simp [resComps], .inr ⟨by simpa using ht, g, _, rfl, by simp [resComps]⟩⟩
    · cases h

theorem scalar_cvs {w w' : World} {S S' : Nat → Prop} {cs : List CV} {us : List Value} {bs : List Nat} (h : CVs w S cs us bs) (hs : cs.all CV.scalar = true) : CVs w' S' cs us [] := by
  induction h with
  | nil => exact .nil
  | @d x u cs us bs hh _ ih =>
    simp only [List.all_cons, Bool.and_eq_true] at hs
    cases x with
    | v y =>
      cases hh with
      | v _ h1 => exact .d (.v _ h1) (ih hs.2)
    | _ => simp [CV.scalar] at hs
  | ownNil _ _ => simp [CV.scalar] at hs
  | own _ _ _ _ _ _ => simp [CV.scalar] at hs

theorem scalar_comps {w w' : World} {S S' : Nat → Prop} {cs : List (Bool × List CV)} {us : List Value} {bs : List Nat} (h : Comps w S cs us bs) (hs : (cs.all fun c => c.2.all CV.scalar) = true) : Comps w' S' cs us [] := by
  induction h with
  | nil => exact .nil
  | one h _ ih =>
    simp only [List.all_cons, Bool.and_eq_true] at hs
    exact .one (scalar_cvs h (by simpa using hs.1)) (ih hs.2)
  | agg h _ ih =>
    simp only [List.all_cons, Bool.and_eq_true] at hs
    exact .agg (scalar_cvs h (by simpa using hs.1)) (ih hs.2)

theorem res_rep {res : Res} {n : Nat} {t : AT} {news : List (Nat × Option AObj)} (h : res.out n = some (t, news)) {w : World} {S : Nat → Prop} {v : Value} {bs : List Nat} (hv : ResRep w S res v bs) :
    ∃ hd : List Value, hd.length = news.length ∧ hd.filterMap blkOf = bs ∧ ∀ ρ : Where, (∀ (i : Nat) (u : Value), hd[i]? = some u → ρ (n + i) = some u) →
      RepT ρ w S t v ∧ ∀ (m : Nat) (x : Option AObj), (m, x) ∈ news → ∃ i u y, m = n + i ∧ hd[i]? = some u ∧ x = some y ∧ ObjRep ρ w S u y := by
  obtain ⟨hn, ht⟩ := out_comps h
  subst hn
  have main : ∀ vs, Comps w S res.cs vs bs → ∃ hd : List Value, hd.length = (resComps n res.cs).2.length ∧ hd.filterMap blkOf = bs ∧ ∀ ρ : Where, (∀ (i : Nat) (u : Value), hd[i]? = some u → ρ (n + i) = some u) →
      All2 (fun t u => RepC ρ w S t.1 t.2 u) (resComps n res.cs).1 vs ∧ ∀ (m : Nat) (x : Option AObj), (m, x) ∈ (resComps n res.cs).2 → ∃ i u y, m = n + i ∧ hd[i]? = some u ∧ x = some y ∧ ObjRep ρ w S u y :=
    fun vs hc => ⟨hdrsAll res.cs vs, (news_len hc n).symm, hdrsAll_blks hc, fun ρ hρ => resComps_rep hc n hρ⟩
  unfold ResRep at hv
  rcases ht with ⟨h1, rfl⟩ | ⟨h1, g, xs, rfl, h2⟩
  · rw [if_pos h1] at hv
    obtain ⟨vs, rfl, hc⟩ := hv
    obtain ⟨hd, e1, e2, e3⟩ := main vs hc
    exact ⟨hd, e1, e2, fun ρ hρ => ⟨⟨vs, rfl, (e3 ρ hρ).1⟩, (e3 ρ hρ).2⟩⟩
  · rw [if_neg (by simp [h1])] at hv
    obtain ⟨hd, e1, e2, e3⟩ := main [v] hv
    refine ⟨hd, e1, e2, fun ρ hρ => ⟨?_, (e3 ρ hρ).2⟩⟩
    have h3 := (e3 ρ hρ).1
    rw [h2] at h3
    cases h3 with
    | cons h4 _ => exact h4

theorem nodup_blk {hd : List Value} (h : (hd.filterMap blkOf).Nodup) : ∀ {i j : Nat} {u v : Value} {b : Nat}, hd[i]? = some u → hd[j]? = some v → blkOf u = some b → blkOf v = some b → i = j := by
  induction hd with
  | nil => intro i j u v b hi; simp at hi
  | cons x hd ih =>
    intro i j u v b hi hj hu hv
    rw [List.filterMap_cons] at h
    have hh : (hd.filterMap blkOf).Nodup := by
      split at h
      · exact h
      · exact (List.nodup_cons.1 h).2
    cases i with
    | zero =>
      cases j with
      | zero => rfl
      | succ j =>
        simp only [List.getElem?_cons_zero, Option.some.injEq] at hi
        subst hi
        rw [hu] at h
        exact absurd (List.mem_filterMap.2 ⟨v, List.mem_of_getElem? (by simpa using hj), hv⟩) (List.nodup_cons.1 h).1
    | succ i =>
      cases j with
      | zero =>
        simp only [List.getElem?_cons_zero, Option.some.injEq] at hj
        subst hj
        rw [hv] at h
        exact absurd (List.mem_filterMap.2 ⟨u, List.mem_of_getElem? (by simpa using hi), hu⟩) (List.nodup_cons.1 h).1
      | succ j => exact congrArg (· + 1) (ih hh (by simpa using hi) (by simpa using hj) hu hv)

theorem callArgs_run (hr : Rel c nt env ob ρ S a w) {f : FuncId} {A : List (Bool × List AV)} (h : callArgs (aval Γ env) o = some (f, A)) :
    ∃ vals : List Value, All2 (fun t u => RepC ρ w S t.1 t.2 u) A vals ∧ (Enterable P f → ∀ w, (execOp a.eval o).run P w = .ok (.enter f vals.toArray) w) ∧ ∃ cl, o.op = .call cl := by
  unfold callArgs at h
  split at h
  · rename_i cl ho
    split at h
    · rename_i fx hb
      have fin : ∀ (vs : Array Value) (args : List (Bool × List AV)) (caps : List (Bool × List AV)), a.eval fx = .func (.func f) #[] vs → argsOf (aval Γ env) cl.args.toList cl.argTypes.toList = some args → All2 (fun t u => RepC ρ w S t.1 t.2 u) caps vs.toList → args ++ caps = A →
          ∃ vals : List Value, All2 (fun t u => RepC ρ w S t.1 t.2 u) A vals ∧ (Enterable P f → ∀ w, (execOp a.eval o).run P w = .ok (.enter f vals.toArray) w) ∧ ∃ cl, o.op = .call cl := by
        intro vs args caps hfv eargs hcaps hA
        subst hA
        refine ⟨_, (args_rep hr eargs).append hcaps, fun hent w => ?_, _, ho⟩
        have h1 := hent ((cl.args.toList.map a.eval ++ vs.toList).toArray) w
        have e : (cl.args.toList.map a.eval ++ vs.toList).toArray = #[] ++ cl.args.map a.eval ++ vs := by
          apply Array.ext'; simp
        rw [e] at h1 ⊢
        simp only [execOp, ho, resolve, hb, hfv, Deferred.ofValue, Sem.run_bind, Sem.run_pure, Result.andThen_ok, invoke, h1]
      split at h
      · rename_i f' caps args ef eargs
        simp only [Option.some.injEq, Prod.mk.injEq] at h
        obtain ⟨rfl, hA⟩ := h
        have hfx := one_rep (eval_rep (Γ := Γ) hr 0 fx) ef
        obtain ⟨vs, hfv, hvl, hvs⟩ := fn_val hfx
        refine fin vs args _ hfv eargs ?_ hA
        refine All2.of_get (by simp [hvl]) (fun i x y hx hy => ?_)
        simp only [List.getElem?_map, Option.map_eq_some_iff] at hx
        obtain ⟨d, hd, rfl⟩ := hx
        exact ⟨_, rfl, hvs i d y hd (by simpa using hy)⟩
      · rename_i f' caps args ef eargs
        simp only [Option.some.injEq, Prod.mk.injEq] at h
        obtain ⟨rfl, hA⟩ := h
        have hfx := one_rep (eval_rep (Γ := Γ) hr 0 fx) ef
        obtain ⟨vs, hfv, hvs⟩ := hfx
        refine fin vs.toArray args _ hfv eargs ?_ hA
        simp only
        clear hfv ef hA
        induction hvs with
        | nil => exact .nil
        | @cons x u xs us h1 _ ih =>
          refine .cons ?_ ih
          cases x with
          | d y => exact ⟨_, rfl, h1⟩
          | ptr oo off => exact ⟨_, rfl, h1⟩
      · cases h
    · cases h
  · cases h

theorem lives_eaten {ob : Nat → Option AObj} : ∀ {args : List (Bool × List AV)} {es : List Bool} {n : Nat}, n ∈ eatenOf ob es args → ∃ k e rows, ob n = some (.row k e rows true)
  | [], _, _, h => by simp [eatenOf] at h
  | (g, ys) :: args, es, n, h => by
    simp only [eatenOf, List.mem_append] at h
    rcases h with h | h
    · cases hes : es.headD false <;> rw [hes] at h
      · cases h
      · exact mem_lives h
    · exact lives_eaten h

theorem lives_lent {ob : Nat → Option AObj} : ∀ {args : List (Bool × List AV)} {es : List Bool} {n : Nat}, n ∈ lentOf ob es args → ∃ k e rows, ob n = some (.row k e rows true)
  | [], _, _, h => by simp [lentOf] at h
  | (g, ys) :: args, es, n, h => by
    simp only [lentOf, List.mem_append] at h
    rcases h with h | h
    · cases hes : es.headD false <;> rw [hes] at h
      · exact mem_lives h
      · cases h
    · exact lives_lent h

theorem sound_call (hr : Rel c nt env ob ρ S a w) (hf : ∀ n, N ≤ n → n < N + 8 → ρ n = none) (hd : dstOk nt o.dst = true) {f : FuncId} {A : List (Bool × List AV)} (hca : callArgs (aval Γ env) o = some (f, A))
    {es : List Bool} {cargs : List (Bool × List CV)} {res : Res} {t : AT} {news : List (Nat × Option AObj)} (hconv : convArgs ob es A = some cargs) (hmeets : Meets P f cargs res) (hout : res.out N = some (t, news)) (hok : callOk ob es A news.length = true) :
    Goes P c nt N env ob ρ a w o ⟨t, news ++ callUpd ob es A res.scalar, callTouch A⟩ := by
  obtain ⟨vals, hall, hrun, _⟩ := callArgs_run (P := P) hr hca
  simp only [callOk, Bool.and_eq_true, decide_eq_true_eq, List.all_eq_true, Bool.not_eq_true', List.contains_eq_mem, decide_eq_false_iff_not] at hok
  obtain ⟨⟨hlen8, hnde⟩, hdis⟩ := hok
  obtain ⟨hent, hcalls⟩ := hmeets
  obtain ⟨ea, hea⟩ : ∃ ea, ea = eatenOf ob es A := ⟨_, rfl⟩
  obtain ⟨le, hle⟩ : ∃ le, le = lentOf ob es A := ⟨_, rfl⟩
  have hupd : callUpd ob es A res.scalar = ea.map (fun o => (o, none)) ++ (match res.scalar with | true => [] | false => le.map (frz ob)) := by rw [hea, hle]; rfl
  rw [hupd]
  rw [← hea] at hnde
  rw [← hle, ← hea] at hdis
  have hlive : ∀ n, n ∈ ea ∨ n ∈ le → ∃ k e rows, ob n = some (.row k e rows true) := by
    rintro n (h | h)
    · rw [hea] at h; exact lives_eaten h
    · rw [hle] at h; exact lives_lent h
  have hblk : ∀ n b hh, n ∈ ea ∨ n ∈ le → ρ n = some hh → blkOf hh = some b → b < w.heap.size ∧ (c.W.heap.size ≤ b ∨ c.B b) ∧ ¬ S b := by
    intro n b hh hn h1 h2
    obtain ⟨k, e, rows, hob⟩ := hlive n hn
    have hnS : ¬ S b := by
      obtain ⟨h', h3, h4⟩ := hr.obj _ _ hob
      rw [h1] at h3; cases h3
      rcases h4.2 with ⟨_, A', rfl⟩ | ⟨g, c', hc0, rfl, _, hl, _⟩
      · cases A' <;> simp [blkOf] at h2
      · simp [blkOf, Nat.ne_of_gt hc0] at h2
        subst h2
        exact hl rfl
    exact ⟨blk_lt hr hob h1 h2, (hr.place _ _ _ _ hob h1 h2).resolve_right hnS, hnS⟩
  obtain ⟨T, hT⟩ : ∃ T : Nat → Prop, T = fun b => S b ∨ b ∈ blks ρ le := ⟨_, rfl⟩
  have hST : ∀ b, S b → T b := fun b hb => by rw [hT]; exact .inl hb
  have heT : ∀ n ∈ ea, ∀ h b, ρ n = some h → blkOf h = some b → ¬ T b := by
    intro n hn h b h1 h2 h3
    rw [hT] at h3
    rcases h3 with h3 | h3
    · exact (hblk n b h (.inl hn) h1 h2).2.2 h3
    · obtain ⟨n', hn', h', h1', h2'⟩ := mem_blks.1 h3
      obtain ⟨k, e, rows, hob⟩ := hlive n (.inl hn)
      obtain ⟨k', e', rows', hob'⟩ := hlive n' (.inr hn')
      have := hr.sep _ _ _ _ _ _ _ hob hob' h1 h1' h2 h2'
      subst this
      exact hdis n hn' hn
  have hlT : ∀ n ∈ le, ∀ h b, ρ n = some h → blkOf h = some b → T b := fun n hn h b h1 h2 => by rw [hT]; exact .inr (mem_blks.2 ⟨n, hn, h, h1, h2⟩)
  have hcomps := convArgs_rep hr T hST hconv hall (by rw [← hea]; exact heT) (by rw [← hle]; exact hlT)
  rw [← hea] at hcomps
  obtain ⟨bs, hbs⟩ : ∃ bs, bs = blks ρ ea := ⟨_, rfl⟩
  rw [← hbs] at hcomps
  have hbsm : ∀ b ∈ bs, b < w.heap.size ∧ (c.W.heap.size ≤ b ∨ c.B b) ∧ ¬ S b := by
    intro b hb
    rw [hbs] at hb
    obtain ⟨n, hn, h, h1, h2⟩ := mem_blks.1 hb
    exact hblk n b h (.inl hn) h1 h2
  have hnd : bs.Nodup := by
    rw [hbs]
    exact blks_nodup hr hnde fun n hn => let ⟨k, e, rows, hh⟩ := hlive n (.inl hn); ⟨_, hh⟩
  intro Q
  unfold Oper.wp
  rw [hrun hent]
  simp only [Oper.upon_enter]
  refine (hcalls w T _ bs (fun b hb => ?_) hcomps hnd).mono ?_
  · rw [hT] at hb
    rcases hb with hb | hb
    · exact hr.lim b hb
    · obtain ⟨n, hn, h, h1, h2⟩ := mem_blks.1 hb
      exact (hblk n b h (.inr hn) h1 h2).1
  · rintro e w' ⟨v, S', bs', rfl, hres, hnd', hfoot⟩
    simp only
    have hapart : ∀ n x hh b, ob n = some x → n ∉ ea → ρ n = some hh → blkOf hh = some b → b ∉ bs := by
      intro n x hh b hx hn h1 h2 hb'
      rw [hbs] at hb'
      obtain ⟨n', hn', hh', h1', h2'⟩ := mem_blks.1 hb'
      obtain ⟨k, e, rows, hob⟩ := hlive n' (.inl hn')
      have := hr.sep _ _ _ _ _ _ _ hx hob h1 h1' h2 h2'
      subst this
      exact hn hn'
    have hsameW : ∀ b, b < c.W.heap.size → ¬ c.B b → w'.heap[b]? = w.heap[b]? := fun b h1 h2 => hfoot.same b (by have := hr.hsize; omega) (fun h3 => by
      rcases (hbsm b h3).2.1 with h4 | h4
      · omega
      · exact h2 h4)
    have hkS : Keeps S w w' := fun b hbS => hfoot.same b (hr.lim b hbS) (fun h3 => (hbsm b h3).2.2 hbS)
    cases hsc : res.scalar with
    | false =>
      simp only
      obtain ⟨hdl, hl1, hl2, hl3⟩ := res_rep hout hres
      let ρ' : Where := fun n => if n < N ∨ N + news.length ≤ n then ρ n else hdl[n - N]?
      have hρ1 : ∀ (i : Nat) (u : Value), hdl[i]? = some u → ρ' (N + i) = some u := fun i u hu => by
        have hi : i < hdl.length := (List.getElem?_eq_some_iff.1 hu).1
        simp only [ρ']
        rw [if_neg (by omega), Nat.add_sub_cancel_left]
        exact hu
      have hρ2 : ∀ n, n < N ∨ N + 8 ≤ n → ρ' n = ρ n := fun n hn => by
        simp only [ρ']
        rw [if_pos (by omega)]
      have hρ3 : ∀ n hh, ρ n = some hh → ρ' n = some hh := fun n hh h1 => by
        by_cases hn : n < N ∨ N + 8 ≤ n
        · rw [hρ2 n hn]; exact h1
        · rw [hf n (by omega) (by omega)] at h1; cases h1
      obtain ⟨hv, hnews⟩ := hl3 ρ' hρ1
      have hobN : ∀ n x, ob n = some x → n < N ∨ N + 8 ≤ n := fun n x hx => by
        obtain ⟨hh, h1, _⟩ := hr.obj n x hx
        by_cases hn : n < N ∨ N + 8 ≤ n
        · exact hn
        · rw [hf n (by omega) (by omega)] at h1; cases h1
      have hgr : Grows ρ ρ' w w' S S' := ⟨hρ3, fun b hb' => hfoot.sub b (hST b hb'), hkS⟩
      -- what may be found under a number
      have look : ∀ n y, updO (news ++ (ea.map (fun o => (o, none)) ++ le.map (frz ob))) ob n = some y →
          (∃ i u, n = N + i ∧ hdl[i]? = some u ∧ ObjRep ρ' w' S' u y) ∨ (n ∈ le ∧ n ∉ ea ∧ ∃ k e rows, ob n = some (.row k e rows true) ∧ y = .row k e rows false) ∨ (ob n = some y ∧ n ∉ ea ∧ n ∉ le) := by
        intro n y hy
        rcases updO_cases hy with h1 | ⟨h1, h2⟩
        · rcases List.mem_append.1 h1 with h1 | h1
          · obtain ⟨i, u, z, e1, e2, e3, e4⟩ := hnews n _ h1
            cases e3
            exact .inl ⟨i, u, e1, e2, e4⟩
          · rcases List.mem_append.1 h1 with h1 | h1
            · simp at h1
            · obtain ⟨n', hn', he⟩ := List.mem_map.1 h1
              obtain ⟨k, e, rows, hob⟩ := hlive n' (.inr hn')
              simp only [frz, hob, Prod.mk.injEq, Option.some.injEq] at he
              obtain ⟨rfl, rfl⟩ := he
              exact .inr (.inl ⟨hn', hdis n' hn', k, e, rows, hob, rfl⟩)
        · refine .inr (.inr ⟨h2, fun hn => h1 none (List.mem_append.2 (.inr (List.mem_append.2 (.inl (List.mem_map.2 ⟨n, hn, rfl⟩))))), fun hn => ?_⟩)
          exact h1 (frz ob n).2 (List.mem_append.2 (.inr (List.mem_append.2 (.inr (List.mem_map.2 ⟨n, hn, rfl⟩)))))
      have hnewblk : ∀ i u b, hdl[i]? = some u → blkOf u = some b → b ∈ bs' := fun i u b h1 h2 => by
        rw [← hl2]
        exact List.mem_filterMap.2 ⟨u, List.mem_of_getElem? h1, h2⟩
      have hold : ∀ o2 x2 h2 b, updO (news ++ (ea.map (fun o => (o, none)) ++ le.map (frz ob))) ob o2 = some x2 → ρ' o2 = some h2 → blkOf h2 = some b → b ∈ bs' → ∃ i u, o2 = N + i ∧ hdl[i]? = some u := by
        intro o2 x2 h2 b hx2 hh2 hb2 hb
        have away : ∀ x, ob o2 = some x → o2 ∉ ea → False := fun x hx hne => by
          rw [hρ2 o2 (hobN o2 x hx)] at hh2
          have h7 := hapart o2 x h2 b hx hne hh2 hb2
          rcases (hfoot.own b hb).2.1 with h8 | h8
          · exact h7 h8
          · exact absurd (blk_lt hr hx hh2 hb2) (by omega)
        rcases look o2 x2 hx2 with ⟨i2, u2, rfl, e5, e6⟩ | ⟨h5, h6, k, e, rows, h7, _⟩ | ⟨h5, h6, _⟩
        · exact ⟨i2, u2, rfl, e5⟩
        · exact (away _ h7 h6).elim
        · exact (away _ h5 h6).elim
      refine ⟨ρ', S', hr.step hd hgr hv (fun n y hy => ?_) hfoot.os hfoot.tape hfoot.output hfoot.hsize hsameW hfoot.lim (fun b hb' => ?_), hρ2⟩
      · rcases look n y hy with ⟨i, u, rfl, e2, e4⟩ | ⟨hn, hne, k, e, rows, h1, rfl⟩ | ⟨h1, h2, h2'⟩
        · refine .inr ⟨u, hρ1 i u e2, e4, fun b hbb => ⟨?_, fun o2 x2 h2 hx2 hh2 hb2 => ?_⟩⟩
          · rcases (hfoot.own b (hnewblk i u b e2 hbb)).2.1 with h5 | h5
            · exact .inl (hbsm b h5).2.1
            · exact .inl (.inl (by have := hr.hsize; omega))
          · obtain ⟨i2, u2, rfl, e5⟩ := hold o2 x2 h2 b hx2 hh2 hb2 (hnewblk i u b e2 hbb)
            rw [hρ1 i2 u2 e5] at hh2
            cases hh2
            rw [nodup_blk (by rw [hl2]; exact hnd') e5 e2 hb2 hbb]
        · -- a row that was lent is still
          obtain ⟨hh, g1, g2⟩ := hr.obj n _ h1
          refine .inr ⟨hh, hρ3 n hh g1, ?_, fun b hbb => ⟨(hr.place _ _ _ _ h1 g1 hbb).imp_right (hgr.sub b), fun o2 x2 h2 hx2 hh2 hb2 => ?_⟩⟩
          · obtain ⟨hk, h3⟩ := g2
            refine ⟨hk, ?_⟩
            rcases h3 with h3 | ⟨g, c', hc0, rfl, ⟨r1, r2, r3, cur, r4, r5, r7, r6⟩, _⟩
            · exact .inl h3
            · have hbg : blkOf (.slice (some ⟨g, 0, none⟩) rows.length c') = some g := by simp [blkOf]; omega
              have hsame := hfoot.same g (blk_lt hr h1 g1 hbg) (hapart n _ _ g h1 hne g1 hbg)
              refine .inr ⟨g, c', hc0, rfl, ⟨r1, r2, r3, cur, hsame.trans r4, r5, r7.mono hgr.sub hgr.keeps, fun i j r d hi hj => ?_⟩, (fun hl => by cases hl), fun _ => hfoot.sub g (hlT n hn _ _ g1 hbg)⟩
              obtain ⟨u, hu, hru⟩ := r6 i j r d hi hj
              exact ⟨u, hu, hru.mono hgr.sub hgr.keeps⟩
          · have key : ∀ x, ob o2 = some x → o2 = n := fun x hx => by
              rw [hρ2 o2 (hobN o2 x hx)] at hh2
              exact hr.sep _ _ _ _ _ _ _ hx h1 hh2 g1 hb2 hbb
            rcases look o2 x2 hx2 with ⟨i2, u2, rfl, e5, e6⟩ | ⟨_, _, k2, e2, rows2, h7, _⟩ | ⟨h5, _, _⟩
            · exfalso
              rw [hρ1 i2 u2 e5] at hh2
              cases hh2
              have hbs' := hnewblk i2 _ b e5 hb2
              rcases (hfoot.own b hbs').2.1 with h8 | h8
              · exact hapart n _ _ b h1 hne g1 hbb h8
              · exact absurd (blk_lt hr h1 g1 hbb) (by omega)
            · exact key _ h7
            · exact key _ h5
        · refine .inl ⟨h1, fun hh b h3 h4 => ?_⟩
          have h5 := hapart n y hh b h1 h2 h3 h4
          have h6 := blk_lt hr h1 h3 h4
          refine ⟨hfoot.same b h6 h5, fun h7 => ?_⟩
          rcases hfoot.foot b h7 with h8 | h8 | h8
          · rw [hT] at h8
            rcases h8 with h8 | h8
            · exact h8
            · exfalso
              obtain ⟨n', hn', hh', g1, g2⟩ := mem_blks.1 h8
              obtain ⟨k, e, rows, hob⟩ := hlive n' (.inr hn')
              have := hr.sep _ _ _ _ _ _ _ h1 hob h3 g1 h4 g2
              subst this
              exact h2' hn'
          · exact absurd h8 h5
          · omega
      · rcases hfoot.foot b hb' with h8 | h8 | h8
        · rw [hT] at h8
          rcases h8 with h8 | h8
          · exact hr.foot b h8
          · obtain ⟨n', hn', hh', g1, g2⟩ := mem_blks.1 h8
            exact .inr ((hblk n' b hh' (.inr hn') g1 g2).2.1.symm)
        · exact .inr ((hbsm b h8).2.1.symm)
        · exact .inr (.inr (by have := hr.hsize; omega))
    | true =>
      simp only [List.append_nil]
      have hres0 : ResRep w' S res v [] := by
        unfold ResRep at hres ⊢
        split
        · rename_i ht
          rw [if_pos ht] at hres
          obtain ⟨vs', e1, e2⟩ := hres
          exact ⟨vs', e1, scalar_comps e2 hsc⟩
        · rename_i ht
          rw [if_neg ht] at hres
          exact scalar_comps hres hsc
      obtain ⟨hdl, hl1, hl2, hl3⟩ := res_rep hout hres0
      have hnews0 : news = [] := by
        obtain ⟨e1, _⟩ := out_comps hout
        have e2 : ∀ (cs : List (Bool × List CV)) n, (cs.all fun c => c.2.all CV.scalar) = true → (resComps n cs).2 = [] := by
          intro cs
          have e3 : ∀ (cs : List CV) n, cs.all CV.scalar = true → (resAVs n cs).2 = [] := by
            intro cs
            induction cs with
            | nil => intro n _; rfl
            | cons x cs ih =>
              intro n hx
              simp only [List.all_cons, Bool.and_eq_true] at hx
              cases x with
              | d y => simpa [resAVs] using ih n hx.2
              | own => simp [CV.scalar] at hx
          induction cs with
          | nil => intro n _; rfl
          | cons x cs ih =>
            intro n hx
            simp only [List.all_cons, Bool.and_eq_true] at hx
            simp [resComps, e3 x.2 n (by simpa using hx.1), ih _ hx.2]
        rw [e1]
        exact e2 _ _ hsc
      subst hnews0
      have hhd : hdl = [] := List.length_eq_zero_iff.1 (by simpa using hl1)
      subst hhd
      obtain ⟨hv, _⟩ := hl3 ρ (fun i u hu => by simp at hu)
      simp only [List.nil_append]
      refine ⟨ρ, S, hr.step hd ⟨fun _ _ h => h, fun _ h => h, hkS⟩ hv (fun n y hy => ?_) hfoot.os hfoot.tape hfoot.output hfoot.hsize hsameW (fun b hb' => Nat.lt_of_lt_of_le (hr.lim b hb') hfoot.hsize) hr.foot, fun _ _ => rfl⟩
      rcases updO_cases hy with h1 | ⟨h1, h2⟩
      · simp at h1
      · refine .inl ⟨h2, fun hh b h3 h4 => ⟨hfoot.same b (blk_lt hr h2 h3 h4) (hapart n y hh b h2 (fun hn => h1 none (List.mem_map.2 ⟨n, hn, rfl⟩)) h3 h4), id⟩⟩

end
end Go.Eng
namespace Go.Eng

section
variable {P : Program} {Γ : Ctx} {c : Base} {nt : Nat} {env : Nat → AT} {ob : Nat → Option AObj} {ρ : Where} {S : Nat → Prop} {a : Act} {w : World}
variable {N : Nat} {o : Oper} {r : AOut}

theorem av_rep {t : AT} {x : AV} {v : Value} (h : RepT ρ w S t v) (e : t = .cs false [x]) : RepAV ρ w S x v := one_rep h (by rw [e]; rfl)

theorem sound_capX (hΓ : CtxOk P Γ) (hr : Rel c nt env ob ρ S a w) (hd : dstOk nt o.dst = true) {cl : Call} (ho : o.op = .call cl) (hb : cl.callee = .builtin .cap) (h : aopX Γ N (aval Γ env) ob o = some r) : Goes P c nt N env ob ρ a w o r := by
  simp only [aopX, ho, hb] at h
  split at h
  · rename_i x t ex et
    have hargs : cl.args.map a.eval = #[a.eval x] := by apply Array.ext'; simp [ex]
    have htys : cl.argTypes = #[t] := by apply Array.ext'; simp [et]
    split at h
    · rename_i v e ev he
      have hund := und_elem hΓ he
      have h1 := av_rep (eval_rep (Γ := Γ) hr t x) ev
      unfold capX at h
      split at h
      · rename_i oo k lo n
        obtain ⟨A, cc, A', hρ, hu, _⟩ := h1
        split at h
        · rename_i k' ety rows live hob
          cases h
          obtain ⟨rfl, _⟩ := rows_own hr hob hρ
          exact goes_value hr hd (v := .int .i64 (rows.length - lo : Nat)) (by simp [execOp, ho, resolve, hb, invoke, builtin, hargs, htys, hu, Builtin.cap_, run_underlying hund, goInt]) (rep_int _ _)
        · cases h
      · cases h
    · cases h
  · cases h

theorem sound_sliceX (hΓ : CtxOk P Γ) (hr : Rel c nt env ob ρ S a w) (hd : dstOk nt o.dst = true) {t : TypeId} {x : Operand} {lo hi mx : Option Operand} (ho : o.op = .slice t x lo hi mx) (h : aopX Γ N (aval Γ env) ob o = some r) : Goes P c nt N env ob ρ a w o r := by
  cases mx with
  | some m => simp [aopX, ho] at h
  | none =>
  simp only [aopX, ho] at h
  split at h
  · rename_i oo k lo0 n0 ev
    obtain ⟨A, cc, A', hρ, hu, hA⟩ := av_rep (eval_rep (Γ := Γ) hr t x) ev
    unfold sliceX at h
    split at h
    · rename_i e he
      have hund := und_elem hΓ he
      split at h
      · rename_i k' ety rows live sz l hh hob hsz el eh
        obtain ⟨rfl, _⟩ := rows_own hr hob hρ
        split at h
        · rename_i hc
          obtain ⟨rfl, c1, c2, c3, c4⟩ := hc
          cases h
          have hb := run_bounds (P := P) (b := true) (cap := rows.length - lo0) (len := n0) hr el eh c1 c2 (by omega) (by omega)
          refine goes_value hr hd (v := .slice (if rows.length - lo0 = l.toNat then A' else A'.map (·.add (l.toNat * k))) (hh.toNat - l.toNat) (rows.length - lo0 - l.toNat)) ?_ ⟨_, rfl, A, _, _, hρ, by rw [Nat.sub_sub], fun hlt => ?_⟩
          · simp only [execOp, ho, Instr.sliceAt, Sem.run_bind, run_underlying hund, Result.andThen_ok, Instr.slice, hu, Option.map_none, hb, run_sizeOf' hΓ hsz, Sem.run_pure]
          · rw [if_neg (by omega), hA (by omega), Option.map_map]
            congr 1
            funext ad
            simp only [Function.comp, add_add, Nat.add_mul]
        · cases h
      · cases h
    · cases h
  · cases h

/-- A destination's header. -/
theorem dst_rep (hr : Rel c nt env ob ρ S a w) {x : AV} {u : Value} {oo k lo n : Nat} (h : dstOf ob x = some (oo, k, lo, n)) (hx : RepAV ρ w S x u) : ∃ A m cc A', ρ oo = some (.slice A m cc) ∧ u = .slice A' n (cc - lo) ∧ (lo < cc → A' = A.map (·.add (lo * k))) := by
  unfold dstOf at h
  split at h
  · rename_i o'
    split at h
    · rename_i k' ety rows live hob
      cases h
      obtain ⟨hρ, A, m, cc, rfl⟩ := hx
      obtain ⟨rfl, _⟩ := rows_own hr hob hρ
      refine ⟨A, _, cc, A, hρ, rfl, fun _ => ?_⟩
      cases A with
      | none => rfl
      | some ad => simp [add_zero]
    · cases h
  · cases h
    exact hx
  · cases h
    obtain ⟨A, cc, A', h1, h2, h3⟩ := hx
    exact ⟨A, cc, cc, A', h1, h2, h3⟩
  · cases h

theorem Flat.takeN {k : Nat} {rows : List (List D)} {us : List Value} (h : Flat w S k rows us) {n : Nat} (hn : n ≤ rows.length) : Flat w S k (rows.take n) (us.take (n * k)) := by
  have := h.window (lo := 0) (n := n) (by omega)
  simpa using this

theorem sound_copyX (hΓ : CtxOk P Γ) (hr : Rel c nt env ob ρ S a w) (hd : dstOk nt o.dst = true) {cl : Call} (ho : o.op = .call cl) (hb : cl.callee = .builtin .copy) (h : aopX Γ N (aval Γ env) ob o = some r) : Goes P c nt N env ob ρ a w o r := by
  simp only [aopX, ho, hb] at h
  split at h
  · rename_i x y t t2 ex et
    have hargs : cl.args.map a.eval = #[a.eval x, a.eval y] := by apply Array.ext'; simp [ex]
    have htys : cl.argTypes = #[t, t2] := by apply Array.ext'; simp [et]
    split at h
    · rename_i v u ev eu
      have h1 := av_rep (eval_rep (Γ := Γ) hr t x) ev
      have h2 := av_rep (eval_rep (Γ := Γ) hr t2 y) eu
      unfold copyX at h
      split at h
      · rename_i e he
        have hund := und_elem hΓ he
        split at h
        · rename_i sz oo k lo n k2 rows2 tx hsz hdst hrows2
          obtain ⟨A, m, cc, A', hρ, hux, hA⟩ := dst_rep hr hdst h1
          obtain ⟨A2, c2, us2, huy, hle2, hflat2, hcell2⟩ := rows_src hr hrows2 h2
          split at h
          · rename_i k3 ety rows hob
            split at h
            · rename_i hc
              obtain ⟨rfl, rfl, rfl, rfl, hfit⟩ := hc
              cases h
              obtain ⟨rfl, hle, _⟩ := rows_own hr hob hρ
              have hcnt : Nat.min rows2.length n = min rows2.length n := rfl
              have hflat3 := hflat2.takeN (n := min rows2.length n) (Nat.min_le_left _ _)
              have hl2 := hflat2.len
              have hfirst : (Builtin.firstCells k (min rows2.length n) (.slice A2 rows2.length c2)).run P w = .ok (us2.take (min rows2.length n * k)).toArray w := by
                refine run_first' (by rw [List.length_take, hl2]; exact Nat.min_eq_left (Nat.mul_le_mul_right _ (Nat.min_le_left _ _))) fun j v hv => ?_
                rw [List.getElem?_take] at hv
                split at hv
                · exact hcell2 j v hv
                · cases hv
              have hrunO : ∀ w', (match A' with | some ad => (storeCells ad (us2.take (min rows2.length n * k))).run P w = .ok () w' | none => w' = w) → (execOp a.eval o).run P w = .ok (.value (.int .i64 (min rows2.length n : Nat))) w' := fun w' hh => by
                cases A' with
                | none => subst hh; simp [execOp, ho, resolve, hb, invoke, builtin, hargs, htys, hux, huy, Builtin.copy_, run_underlying hund, Builtin.lenOf, run_sizeOf' hΓ hsz, hcnt, hfirst, goInt]
                | some ad => simp only at hh; simp [execOp, ho, resolve, hb, invoke, builtin, hargs, htys, hux, huy, Builtin.copy_, run_underlying hund, Builtin.lenOf, run_sizeOf' hΓ hsz, hcnt, hfirst, goInt, hh]
              intro Q
              by_cases h0 : rows2.take (min rows2.length n) = []
              · have hu0 : us2.take (min rows2.length n * k) = [] := by
                  have := hflat3.len
                  rw [h0] at this
                  exact List.length_eq_zero_iff.1 (by simpa using this)
                refine wp_value (hrunO w (by cases A' <;> simp [hu0, storeCells])) ⟨ρ, S, ?_, fun _ _ => rfl⟩
                simp only [h0]
                rw [splice_nil, updO_same hob]
                exact hr.value hd (rep_int _ _)
              · have hlt : (rows2.take (min rows2.length n)).length = min rows2.length n := by simp
                obtain ⟨g, w', rfl, hpc, hst, hrel⟩ := write_rows (P := P) hr hd hob hρ hflat3 (p := lo) (by rw [hlt]; omega) h0 (v := .int .i64 (min rows2.length n : Nat)) (out := .cs false [.d (.v (.int .i64 (min rows2.length n : Nat)))]) (fun _ => rep_int _ _)
                have hA' := hA (by omega)
                refine wp_value (hrunO w' (by subst hA'; simp only [Option.map_some, add_lit]; exact hst)) ⟨ρ, S, hrel, fun _ _ => rfl⟩
            · cases h
          · cases h
        · cases h
      · cases h
    · cases h
  · cases h

theorem flat_zeros {k : Nat} {zs : List D} {z : Value} (hzl : zs.length = k) (hz : All2 (Rep w S) zs z.cells.toList) (n : Nat) : Flat w S k (List.replicate n zs) (Builtin.zeroCells z.cells n).toList := by
  have hzsz : z.cells.size = k := by rw [← hzl, hz.len]; simp
  refine ⟨by simp [Builtin.zeroCells, hzsz], fun r hr => by rw [List.mem_replicate] at hr; rw [hr.2, hzl], fun i j r d hi hj => ?_⟩
  rw [List.getElem?_replicate] at hi
  split at hi
  · rename_i hil
    cases hi
    obtain ⟨u, hu, hru⟩ := hz.get hj
    refine ⟨u, ?_, hru⟩
    have hjk : j < k := by rw [← hzl]; exact (List.getElem?_eq_some_iff.1 hj).1
    have hidx := row_lt (k := k) hil hjk
    simp only [Builtin.zeroCells, Array.toList_map, List.getElem?_map, Array.toList_range, hzsz, List.getElem?_range hidx, Option.map_some]
    have hm : (i * k + j) % k = j := by rw [Nat.mul_comm, Nat.mul_add_mod, Nat.mod_eq_of_lt hjk]
    rw [hm]
    simp only [Array.getElem?_toList] at hu
    simp only [getElem!_def, hu]
  · cases hi

theorem allD_mono {ob ob' : Nat → Option AObj} (h : ∀ n x, ob n = some x → ob' n = some x) : ∀ {xs : List AV} {ds : List D}, (∀ x ∈ xs, avT x = []) → allD ob xs = some ds → allD ob' xs = some ds
  | [], _, _, h0 => h0
  | x :: xs, ds, hx, h0 => by
    simp only [allD] at h0 ⊢
    split at h0
    · rename_i d ds' h1 h2
      cases h0
      rw [allD_mono h (fun y hy => hx y (List.mem_cons_of_mem _ hy)) h2]
      have h3 : avD ob' x = some d := by
        have ht := hx x (List.mem_cons_self ..)
        cases x with
        | d y => exact h1
        | nils k => exact h1
        | clo f ks =>
          simp only [avD, Option.map_eq_some_iff] at h1 ⊢
          obtain ⟨ys, h4, h5⟩ := h1
          refine ⟨ys, ?_, h5⟩
          simp only [avT, List.flatMap_eq_nil_iff] at ht
          clear h5 hx h2
          induction ks generalizing ys with
          | nil => exact h4
          | cons q qs ih =>
            cases q with
            | ptr o off => exact absurd (ht _ (List.mem_cons_self ..)) (by simp [capT])
            | d y =>
              simp only [capsD, Option.map_eq_some_iff] at h4 ⊢
              obtain ⟨zs, h6, h7⟩ := h4
              exact ⟨zs, ih zs h6 (fun z hz => ht z (List.mem_cons_of_mem _ hz)), h7⟩
        | _ => simp [avT] at ht
      rw [h3]
    · cases h0

theorem zero_noT {xs : List AV} {us : List Value} (h : All2 zeroRep xs us) : ∀ x ∈ xs, avT x = [] := by
  induction h with
  | nil => simp
  | @cons x u xs us h _ ih =>
    intro y hy
    rcases List.mem_cons.1 hy with rfl | hy
    · cases y with
      | nils k => rfl
      | d z => rfl
      | _ => exact h.elim
    · exact ih y hy

theorem sound_appendX (hΓ : CtxOk P Γ) (hr : Rel c nt env ob ρ S a w) (hf : ∀ n, N ≤ n → n < N + 8 → ρ n = none) (hd : dstOk nt o.dst = true) {cl : Call} (ho : o.op = .call cl) (hb : cl.callee = .builtin .append) (h : aopX Γ N (aval Γ env) ob o = some r) : Goes P c nt N env ob ρ a w o r := by
  simp only [aopX, ho, hb] at h
  split at h
  · rename_i s x t t2 ex et
    have hargs : cl.args.map a.eval = #[a.eval s, a.eval x] := by apply Array.ext'; simp [ex]
    have htys : cl.argTypes = #[t, t2] := by apply Array.ext'; simp [et]
    split at h
    · rename_i oo k lo n es
      have h1 := av_rep (eval_rep (Γ := Γ) hr t s) es
      unfold appendX at h
      split at h
      · rename_i e he
        have hund := und_elem hΓ he
        split at h
        · rename_i ti hti
          obtain ⟨i, z, hrunI, hi, hisz, hby, hz, hzr⟩ := run_typeInfo' hΓ hti w
          split at h
          · rename_i k2 rows2 tx k3 ety rows hnew hob
            split at h
            · rename_i hc
              obtain ⟨rfl, rfl, hk, hzl, hk0, rfl, hfit, h63, hbytes⟩ := hc
              have hzs : z.cells.size = k := by
                have h3 := hzr.len
                rw [hk, ← hzl, h3]; simp
              rw [← hby] at hbytes
              have hrunO : ∀ v w', (Builtin.append_ #[t, t2] o.type #[a.eval s, a.eval x]).run P w = .ok v w' → (execOp a.eval o).run P w = .ok (.value v) w' := fun v w' hh => by
                simp [execOp, ho, resolve, hb, invoke, builtin, hargs, htys, hh]
              obtain ⟨A, cc, A', hρ, hus0, hA⟩ := h1
              obtain ⟨rfl, _, _⟩ := rows_own hr hob hρ
              have hsrcO : rowsOf ob (.wx oo k lo n) = some (k, (rows.drop lo).take n, [oo]) := by simp only [rowsOf, hob]; rw [if_pos ⟨trivial, hfit⟩]
              obtain ⟨A1, c1, us, hus, _, hflat, hcell⟩ := rows_src hr hsrcO ⟨A, _, A', hρ, hus0, hA⟩
              have hwl : ((rows.drop lo).take n).length = n := by simp; omega
              rw [hwl] at hus
              have hA1 : A1 = A' ∧ c1 = rows.length - lo := by rw [hus0] at hus; cases hus; exact ⟨rfl, rfl⟩
              obtain ⟨rfl, rfl⟩ := hA1
              have hold : (Builtin.firstCells i.size n (.slice A1 n (rows.length - lo))).run P w.drew = .ok us.toArray w.drew := by
                rw [hisz, ← hk]; exact run_first (by rw [hflat.len, hwl]) hcell
              split at h
              · rename_i hroom
                split at h
                · rename_i htt
                  subst htt
                  cases h
                  simp only [newRows, if_true] at hnew
                  split at hnew
                  · rename_i vx exx
                    have h2 := one_rep (eval_rep (Γ := Γ) hr t x) exx
                    obtain ⟨A2, c2, us2, hux, _, hflat2, hcell2⟩ := rows_src hr hnew h2
                    have hnw : (Builtin.firstCells i.size rows2.length (.slice A2 rows2.length c2)).run P w = .ok us2.toArray w := by
                      rw [hisz, ← hk]; exact run_first hflat2.len hcell2
                    intro Q
                    by_cases h0 : rows2 = []
                    · subst h0
                      have hu2 : us2 = [] := List.length_eq_zero_iff.1 (by simpa using hflat2.len)
                      subst hu2
                      have hrun := run_app_room (P := P) (w := w) (w' := w) t o.type ety i hund hi (A := A1) (n := n) (cc := rows.length - lo) hnw (by simp at hroom ⊢; omega) (by cases A1 <;> simp [storeCells])
                      refine wp_value (hrunO _ _ (by rw [hus0, hux]; exact hrun)) ⟨ρ, S, ?_, fun _ _ => rfl⟩
                      rw [splice_nil, updO_same hob]
                      exact hr.value hd ⟨_, rfl, A, _, A1, hρ, by simp, hA⟩
                    · obtain ⟨g, w', rfl, hpc, hst, hrel⟩ := write_rows (P := P) hr hd hob hρ hflat2 hroom h0 (v := .slice A1 (n + rows2.length) (rows.length - lo)) (out := .cs false [.wx oo k lo (n + rows2.length)]) (fun w' => ⟨_, rfl, _, _, A1, hρ, rfl, hA⟩)
                      have hA' := hA (by omega)
                      have hrun := run_app_room (P := P) (w := w) (w' := w') t o.type ety i hund hi (A := A1) (n := n) (cc := rows.length - lo) hnw (by omega) (by
                        subst hA'
                        simp only [Option.map_some, add_lit]
                        rw [hisz, ← hk, add_lit', ← Nat.add_mul]
                        exact hst)
                      exact wp_value (hrunO _ _ (by rw [hus0, hux]; exact hrun)) ⟨ρ, S, hrel, fun _ _ => rfl⟩
                  · cases hnew
                · cases h
              · rename_i hroom
                cases h
                have hgc : rows.length - lo < n + rows2.length := by omega
                have hge := grownCap_ge w (n + rows2.length) (rows.length - lo) ety
                have hcm := grownCap_le_maxLen w (n + rows2.length) (rows.length - lo) ety (by simp only [maxLen]; omega)
                obtain ⟨C, hC⟩ : ∃ C, C = grownCap w (n + rows2.length) (rows.length - lo) ety := ⟨_, rfl⟩
                have hgo : ∃ us2 : List Value, Flat w S k rows2 us2 ∧ (Builtin.append_ #[t, t2] o.type #[a.eval s, a.eval x]).run P w = .ok (.slice (some ⟨w.heap.size, 0, none⟩) (n + rows2.length) C) (w.drew.alloc (.cells (us.toArray ++ us2.toArray ++ Builtin.zeroCells z.cells (C - (n + rows2.length))) ety)) := by
                  unfold newRows at hnew
                  split at hnew
                  · rename_i htt
                    subst htt
                    split at hnew
                    · rename_i vx exx
                      have h2 := one_rep (eval_rep (Γ := Γ) hr t x) exx
                      obtain ⟨A2, c2, us2, hux, _, hflat2, hcell2⟩ := rows_src hr hnew h2
                      have hnw : (Builtin.firstCells i.size rows2.length (.slice A2 rows2.length c2)).run P w.drew = .ok us2.toArray w.drew := by
                        rw [hisz, ← hk]; exact run_first hflat2.len hcell2
                      refine ⟨us2, hflat2, ?_⟩
                      rw [hus0, hux, hC]
                      exact run_app_grow (P := P) (w := w) t o.type ety i z hund hi hz hold hnw hgc h63 hbytes
                    · cases hnew
                  · split at hnew
                    · rename_i ti2 hti2
                      split at hnew
                      · rename_i m zs hint ev hzsD
                        split at hnew
                        · rename_i hm
                          obtain ⟨hm0, hm1, hzl2⟩ := hm
                          obtain ⟨m, rfl⟩ : ∃ m' : Nat, m = m' := ⟨m.toNat, by omega⟩
                          cases hnew
                          have hux := v_rep (by have := eval_rep (Γ := Γ) hr t2 x; rw [ev] at this; exact this)
                          obtain ⟨kn, hkn⟩ : ∃ kn, P.underlying t2 = some (.int kn) := by
                            have hdd := (hΓ.ty t2 ti2 hti2).desc
                            unfold isInt at hint
                            split at hint
                            · rename_i kn hde; rw [hde] at hdd; exact ⟨kn, hdd⟩
                            · cases hint
                          have hzsO : allD ob ti.zero = some zs := allD_mono (fun _ _ h => by cases h) (zero_noT hzr) hzsD
                          have hzrep := allD_rep hr hzsO (zero_rep (ρ := ρ) (w := w) (S := S) hzr)
                          have hfz := flat_zeros (n := m) (by rw [hzl2, ← hk]) hzrep
                          simp only [List.length_replicate, Int.toNat_natCast] at hgc h63 hbytes hC ⊢
                          refine ⟨_, hfz, ?_⟩
                          rw [hus0, hux, hC]
                          have hfits := growslice_fits (bytes := i.bytes) hgc (by rw [hby] at hbytes ⊢; exact hbytes)
                          have := Lib.run_append_grow_zeros (P := P) w t t2 o.type ety i z .i64 kn hund hkn hi hz A1 n (rows.length - lo) us hold m (by omega) (by rw [hisz, ← hk]; exact hk0) hgc (by omega) (by have : m * i.bytes ≤ (n + m) * i.bytes := Nat.mul_le_mul_right _ (by omega); omega) (by omega)
                          simpa using this
                        · cases hnew
                      · cases hnew
                    · cases hnew
                obtain ⟨us2, hflat2, hrun⟩ := hgo
                rw [← hC] at hge hcm
                have hflat3 := hflat.append hflat2
                have hl := hflat.len
                rw [hwl] at hl
                have hl2 := hflat2.len
                have hkS : ∀ X, Keeps S w (w.drew.alloc X) := fun X b hbS => RowKit.Below.heap_alloc w.drew X b (hr.lim b hbS)
                have hC0 : C ≠ 0 := by omega
                have hrl : ((rows.drop lo).take n ++ rows2).length = n + rows2.length := by rw [List.length_append, hwl]
                intro Q
                obtain ⟨ρ', e2, hrel⟩ := hr.replace (N := N) (ts := []) (x := .row k ety ((rows.drop lo).take n ++ rows2) true) (h := .slice (some ⟨w.heap.size, 0, none⟩) (n + rows2.length) C) (v := .slice (some ⟨w.heap.size, 0, none⟩) (n + rows2.length) C) (out := .cs false [.own N])
                  (w' := w.drew.alloc (.cells (us.toArray ++ us2.toArray ++ Builtin.zeroCells z.cells (C - (n + rows2.length))) ety)) hd (hf N (by omega) (by omega)) (hkS _) rfl rfl rfl (by simp)
                  (fun b hb1 _ => RowKit.Below.heap_alloc w.drew _ b (by have := hr.hsize; show b < w.heap.size; omega))
                  (fun ρ' _ gg => ⟨hflat3.rowLen, .inr ⟨w.heap.size, C, by omega, by rw [hrl], ⟨by rw [hrl]; exact hge, hcm, hk0, _, heap_alloc_new w.drew _, by
                      simp only [Array.size_append, List.size_toArray, size_zeroCells, hzs, hl, hl2, ← Nat.add_mul]
                      congr 1
                      omega, fun u hu => by
                        simp only [Array.toList_append, List.mem_append] at hu
                        rcases hu with (hu | hu) | hu
                        · obtain ⟨d, hd⟩ := flat_rep hflat u hu; exact ⟨d, hd.mono gg.sub gg.keeps⟩
                        · obtain ⟨d, hd⟩ := flat_rep hflat2 u hu; exact ⟨d, hd.mono gg.sub gg.keeps⟩
                        · exact zeroCells_rep (zero_spare hzr) (by omega) _ u hu, fun i' j' rr d hi' hj' => by
                    obtain ⟨u, hu, hru⟩ := hflat3.pref (more := (Builtin.zeroCells z.cells (C - (n + rows2.length))).toList) i' j' rr d hi' hj'
                    refine ⟨u, ?_, hru.mono gg.sub gg.keeps⟩
                    rw [← hu, ← Array.getElem?_toList]
                    simp⟩, fun _ hs => absurd (hr.lim _ hs) (by omega), fun hh => by cases hh⟩⟩)
                  (fun b hbb => by
                    simp [blkOf, hC0] at hbb
                    subst hbb
                    exact ⟨.inl (by have := hr.hsize; omega), fun o2 x2 h2 hx2 hn2 hh2 hb2 => absurd (blk_lt hr hx2 hh2 hb2) (by omega)⟩)
                  (fun o2 x2 h2 b hx2 hn2 hh2 hb2 => RowKit.Below.heap_alloc w.drew _ b (blk_lt hr hx2 hh2 hb2))
                  (fun ρ' e1 => ⟨_, rfl, e1, _, _, _, rfl⟩)
                exact wp_value (hrunO _ _ hrun) ⟨ρ', S, hrel, fun n hn => e2 n (by omega)⟩
            · cases h
          · cases h
        · cases h
      · cases h
    · cases h
  · cases h

theorem sound_ext (hΓ : CtxOk P Γ) (hr : Rel c nt env ob ρ S a w) (hd : dstOk nt o.dst = true) {cl : Call} {f : FuncId} (ho : o.op = .call cl) (hb : cl.callee = .value (.func f)) (h : aopX Γ N (aval Γ env) ob o = some r) : Goes P c nt N env ob ρ a w o r := by
  simp only [aopX, ho, hb] at h
  split at h
  · rename_i e xs he hxs
    obtain ⟨fn, q1, q2, q3, q4, q5⟩ := hΓ.ext f e he
    have hones := ones_rep hr hxs
    have hrunO : ∀ v, (e.sem (cl.args.map a.eval)).run P w = .ok v w → (execOp a.eval o).run P w = .ok (.value v) w := fun v hh => by
      have h1 := run_callFunc_extern q1 q2 q3 q4 q5 (cl.args.map a.eval) w
      rw [hh] at h1
      simp only [Result.andThen_ok] at h1
      simp [execOp, ho, resolve, hb, Act.eval, Deferred.ofValue, invoke, h1]
    have hargs : ∀ us : List Value, cl.args.toList.map a.eval = us → cl.args.map a.eval = us.toArray := fun us hu => by
      apply Array.ext'; simp [← hu]
    generalize hus : cl.args.toList.map a.eval = us at hones
    have hargs := hargs us hus
    rw [hargs] at hrunO
    unfold extA at h
    split at h
    · rename_i t t' o1 o2 k lo n
      cases hones with
      | cons h1 h2 =>
      cases h2 with
      | cons h2 h3 =>
      cases h3
      obtain ⟨hρ1, A1, n1, c1, rfl⟩ := h1
      obtain ⟨A2, c2, A2', hρ2, rfl, hA2⟩ := h2
      unfold overA at h
      split at h
      · rename_i e' hel
        have hund := und_elem hΓ hel
        split at h
        · rename_i sz k1 e1 rows1 l1 k2 e2 rows2 l2 hsz hob1 hob2
          split at h
          · rename_i hne
            obtain ⟨hne, hlon⟩ := hne
            cases h
            refine goes_value hr hd (v := .bool false) (hrunO _ ?_) (rep_bool _)
            show (Extern.SlicesOverlaps.overlaps #[t, t] #[t'] #[.slice A1 n1 c1, .slice A2' n (c2 - lo)]).run P w = _
            have triv : n1 = 0 ∨ n = 0 ∨ A1 = none ∨ A2' = none → (Extern.SlicesOverlaps.overlaps #[t, t] #[t'] #[.slice A1 n1 c1, .slice A2' n (c2 - lo)]).run P w = .ok (.bool false) w := fun h0 => by
              change Sem.run P (α := Value) (do
                let some t := (#[t, t] : Array TypeId)[0]? | stuck "slices.overlaps: no parameter types"
                let .slice elem ← underlying t | stuck "slices.overlaps: slice type expected"
                let size ← sizeOf elem
                match A1, A2' with
                | some a, some b =>
                  if n1 = 0 ∨ n = 0 ∨ size = 0 then pure (Value.bool false)
                  else if a.block != b.block && (← frozen a) && (← frozen b) then unsupported .addressObserved
                  else do
                    if a.block != b.block then do
                      noView a; noView b
                      if ← mayBeOne a b then return Value.bool ((← choose (.extern "sameAddr.stringBytes" 2)) == 1)
                    pure (Value.bool (a.block == b.block && a.off < b.off + n * size && b.off < a.off + n1 * size))
                | _, _ => pure (Value.bool false)) w = _
              rcases h0 with rfl | rfl | rfl | rfl
              · cases A1 <;> cases A2' <;> simp [run_underlying hund, run_sizeOf' hΓ hsz]
              · cases A1 <;> cases A2' <;> simp [run_underlying hund, run_sizeOf' hΓ hsz]
              · cases A2' <;> simp [run_underlying hund, run_sizeOf' hΓ hsz]
              · cases A1 <;> simp [run_underlying hund, run_sizeOf' hΓ hsz]
            by_cases h0 : n1 = 0 ∨ n = 0 ∨ A1 = none ∨ A2' = none
            · exact triv h0
            · have hn1 : n1 ≠ 0 := fun e => h0 (.inl e)
              have hnn : n ≠ 0 := fun e => h0 (.inr (.inl e))
              obtain ⟨rfl, hle1, _⟩ := rows_own hr hob1 hρ1
              obtain ⟨hh1, g1, g2⟩ := hr.obj o1 _ hob1
              rw [hρ1] at g1; cases g1
              obtain ⟨_, g3⟩ := g2
              obtain ⟨hh2, g4, g5⟩ := hr.obj o2 _ hob2
              rw [hρ2] at g4; cases g4
              obtain ⟨_, g6⟩ := g5
              rcases g3 with ⟨rfl, _⟩ | ⟨b1, d1, p1, e3, ⟨_, _, _, cur1, r4, r5, _, _⟩, _⟩
              · exact absurd rfl hn1
              · cases e3
                rcases g6 with ⟨rfl, A3, e4⟩ | ⟨b2, d2, p2, e4, ⟨_, _, r3', cur2, r4', r5', _, _⟩, _⟩
                · simp only [List.length_nil] at hlon; omega
                · cases e4
                  have hlc : lo < rows2.length := by omega
                  have hA2' := hA2 hlc
                  subst hA2'
                  have hbk1 : blkOf (.slice (some ⟨b1, 0, none⟩) rows1.length c1) = some b1 := by simp [blkOf]; omega
                  have hbk2 : blkOf (.slice (some ⟨b2, 0, none⟩) rows2.length rows2.length) = some b2 := by simp only [blkOf]; rw [if_neg (by omega)]
                  have hb12 : b1 ≠ b2 := fun e => hne (hr.sep _ _ _ _ _ _ b1 hob1 hob2 hρ1 hρ2 hbk1 (by rw [hbk2, e]))
                  simp only [Option.map_some, add_lit]
                  refine Lib.run_overlaps_apart w t t' e' hund sz (fun w => run_sizeOf' hΓ hsz w) ⟨b1, 0, none⟩ ⟨b2, lo * k, none⟩ _ _ _ _ hb12 e1 e2 cur1.size cur2.size (by simp [World.shape?, r4]) (by simp [World.shape?, r4']) ?_ (frozen_of_row w b1 _ _ _ r4) (frozen_of_row w b1 _ _ _ r4)
                  rw [r5']
                  exact Nat.mul_ne_zero (by omega) (by omega)
          · cases h
        · cases h
      · cases h
    · simp only [Option.map_eq_some_iff] at h
      obtain ⟨q, hq, rfl⟩ := h
      unfold extS at hq
      split at hq
      · cases hones with
        | cons h1 h2 =>
        cases h2 with
        | cons h2 h3 =>
        cases h3
        have e1 := v_rep (ρ := ρ) (w := w) (S := S) ⟨_, rfl, h1⟩
        have e2 := v_rep (ρ := ρ) (w := w) (S := S) ⟨_, rfl, h2⟩
        subst e1; subst e2
        cases hq
        exact goes_value hr hd (hrunO _ (by simp only [Ext.sem]; exact Lib.run_compareString _ _ w)) (rep_int _ _)
      · cases hones with
        | cons h1 h2 =>
        cases h2 with
        | cons h2 h3 =>
        cases h3
        have e1 := v_rep (ρ := ρ) (w := w) (S := S) ⟨_, rfl, h1⟩
        have e2 := v_rep (ρ := ρ) (w := w) (S := S) ⟨_, rfl, h2⟩
        subst e1; subst e2
        cases hq
        exact goes_value hr hd (hrunO _ (by simp only [Ext.sem]; exact Lib.run_countString _ _ w)) (rep_int _ _)
      · cases hones with
        | cons h1 h2 =>
        cases h2 with
        | cons h2 h3 =>
        cases h3
        have e1 := v_rep (ρ := ρ) (w := w) (S := S) ⟨_, rfl, h1⟩
        have e2 := v_rep (ρ := ρ) (w := w) (S := S) ⟨_, rfl, h2⟩
        subst e1; subst e2
        cases hq
        exact goes_value hr hd (hrunO _ (by simp only [Ext.sem]; exact Lib.run_indexByteString _ _ w)) (rep_int _ _)
      · cases hq
  · cases h

end
end Go.Eng
namespace Go.Eng

section
variable {P : Program} {Γ : Ctx} {c : Base} {nt : Nat} {env : Nat → AT} {ob : Nat → Option AObj} {ρ : Where} {S : Nat → Prop} {a : Act} {w : World}
variable {N : Nat} {o : Oper} {r : AOut}

theorem sound_rangeX (hΓ : CtxOk P Γ) (hr : Rel c nt env ob ρ S a w) (hf : ∀ n, N ≤ n → n < N + 8 → ρ n = none) (hd : dstOk nt o.dst = true) {t : TypeId} {x : Operand} (ho : o.op = .range t x) (h : aopX Γ N (aval Γ env) ob o = some r) : Goes P c nt N env ob ρ a w o r := by
  simp only [aopX, ho] at h
  have hx := eval_rep (Γ := Γ) hr t x
  unfold rangeA at h
  split at h
  · rename_i s ev
    rw [ev] at hx
    have hu := v_rep hx
    split at h
    · rename_i ti hti
      have hdd := (hΓ.ty t ti hti).desc
      split at h
      · rename_i hde
        rw [hde] at hdd
        have hund : P.underlying t = some .string := hdd
        cases h
        intro Q
        have hrun : (execOp a.eval o).run P w = .ok (.value (.pointer (some ⟨w.heap.size, 0, none⟩))) (w.alloc (.stringIter s 0)) := by
          simp [execOp, ho, Instr.range, hu, run_underlying hund]
        obtain ⟨ρ', e2, hrel⟩ := hr.new (N := N) (x := .it s 0) (h := .pointer (some ⟨w.heap.size, 0, none⟩)) (v := .pointer (some ⟨w.heap.size, 0, none⟩)) (out := .cs false [.ptr N 0]) (o := .stringIter s 0) hd (hf N (by omega) (by omega)) (.inl rfl)
          (fun ρ' e1 g => ⟨w.heap.size, rfl, heap_alloc_new w _, fun hs => absurd (hr.lim _ hs) (by omega)⟩)
          (fun ρ' e1 => ⟨_, rfl, w.heap.size, e1, rfl⟩)
        exact wp_value hrun ⟨ρ', S, hrel, fun n hn => e2 n (by omega)⟩
      · cases h
    · cases h
  · cases h

theorem sound_nextX (hr : Rel c nt env ob ρ S a w) (hd : dstOk nt o.dst = true) {x : Operand} {str : Bool} (ho : o.op = .next x str) (h : aopX Γ N (aval Γ env) ob o = some r) : Goes P c nt N env ob ρ a w o r := by
  simp only [aopX, ho] at h
  have hx := eval_rep (Γ := Γ) hr 0 x
  unfold nextA at h
  split at h
  · rename_i oo off ev
    obtain ⟨g, h1, h2⟩ := av_rep hx ev
    split at h
    · rename_i s pos hit
      split at h
      · rename_i hc
        obtain ⟨rfl, rfl⟩ := hc
        cases h
        have hob : ob oo = some (.it s pos) := by
          unfold itOf at hit
          split at hit
          · rename_i e; cases hit; exact e
          · cases hit
        obtain ⟨hh, h3, g', rfl, h4, h5⟩ := hr.obj oo _ hob
        rw [h1] at h3; cases h3
        unfold nextIt
        split
        · rename_i hlt
          have hrun : (execOp a.eval o).run P w = .ok (.value (.tuple #[.bool true, .int .i64 pos, .int .i32 (Utf8.decode s pos).1])) (w.iterAt g s (pos + (Utf8.decode s pos).2)) := by
            simp only [execOp, ho, h2]
            simp [Lib.run_next_any_at w g s pos o.type h4 hlt]
          have hk : Keeps S w (w.iterAt g s (pos + (Utf8.decode s pos).2)) := fun b hbS => Lib.iterAt_other w g b s _ (fun e => h5 (e ▸ hbS))
          intro Q
          refine wp_value hrun ⟨ρ, S, ?_, fun n _ => rfl⟩
          refine hr.step hd ⟨fun _ _ h => h, fun _ h => h, hk⟩ ⟨_, rfl, .cons (rep_bool _) (.cons (rep_int _ _) (.cons (rep_int _ _) .nil))⟩ (fun n y hy => ?_) rfl rfl rfl (by rw [Lib.iterAt_size]; exact Nat.le_refl _) (fun b hb1 hb2 => Lib.iterAt_other w g b s _ ?_) (fun b hbS => by rw [Lib.iterAt_size]; exact hr.lim b hbS) hr.foot
          · simp only [updO] at hy
            split at hy
            · rename_i hn
              subst hn
              cases hy
              refine .inr ⟨_, h1, ⟨g, rfl, Lib.iterAt_heap w g s pos _ h4, h5⟩, fun b hbb => ?_⟩
              refine ⟨hr.place _ _ _ _ hob h1 hbb, fun o2 x2 h2 hx2 hh2 hb2 => ?_⟩
              simp only [updO] at hx2
              split at hx2
              · assumption
              · exact hr.sep _ _ _ _ _ _ b hx2 hob hh2 h1 hb2 hbb
            · rename_i hn
              refine .inl ⟨hy, fun h' b hh hb' => ⟨Lib.iterAt_other w g b s _ (fun e => hn ?_), id⟩⟩
              subst e
              exact hr.sep _ _ _ _ _ _ b hy hob hh h1 hb' rfl
          · rintro rfl
            rcases hr.place _ _ _ _ hob h1 rfl with (q1 | q1) | q1
            · exact absurd (show c.W.heap.size ≤ b from q1) (by omega)
            · exact hb2 q1
            · exact h5 q1
        · rename_i hlt
          refine goes_value hr hd (v := .tuple #[.bool false]) ?_ ⟨_, rfl, .cons (rep_bool _) .nil⟩
          simp only [execOp, ho, h2]
          simp [Lib.run_next_end_at w g s pos o.type h4 hlt]
      · cases h
    · cases h
  · cases h

theorem fillV_run (hr : Rel c nt env ob ρ S a w) (e : TypeId) : ∀ (parts : List (Nat × Operand)) (cells : List AV) (arr : Array Value) (out : List AV),
    fillV (aval Γ env) e cells parts = some out → All2 (RepAV ρ w S) cells arr.toList →
    ∃ arr', Instr.fill (fun i => some (i * 1, 1)) arr (parts.map fun p => (p.1, a.eval p.2)) = some arr' ∧ All2 (RepAV ρ w S) out arr'.toList
  | [], cells, arr, out, h, hc => by
    simp only [fillV, Option.some.injEq] at h
    subst h
    exact ⟨arr, rfl, hc⟩
  | (i, x) :: parts, cells, arr, out, h, hc => by
    simp only [fillV] at h
    split at h
    · rename_i ys hys
      split at h
      · rename_i y
        split at h
        · rename_i hlt
          have h4 := cells_rep (eval_rep (Γ := Γ) hr e x) hys
          have hsz : (a.eval x).cells.size = 1 := by have := h4.len; simpa using this.symm
          have hlen : cells.length = arr.size := by have := hc.len; simpa using this
          have hoff : i * 1 + (a.eval x).cells.size ≤ arr.size := by rw [hsz]; omega
          obtain ⟨u, hu⟩ : ∃ u, (a.eval x).cells = #[u] := by
            have : (a.eval x).cells.toList.length = 1 := by simpa using hsz
            match hL : (a.eval x).cells.toList, this with
            | [u], _ => exact ⟨u, by apply Array.ext'; simpa using hL⟩
          rw [hu] at h4
          have hyu : RepAV ρ w S y u := by cases h4 with | cons q _ => exact q
          obtain ⟨arr', e1, e2⟩ := fillV_run hr e parts _ (arr.setIfInBounds i u) out h (by rw [Array.toList_setIfInBounds]; exact hc.set hyu)
          refine ⟨arr', ?_, e2⟩
          simp only [List.map_cons, Instr.fill]
          rw [if_neg (by simp [hsz]; omega)]
          rw [hu]
          simpa using e1
        · cases h
      · cases h
    · cases h

theorem sound_buildX (hΓ : CtxOk P Γ) (hr : Rel c nt env ob ρ S a w) (hf : ∀ n, N ≤ n → n < N + 8 → ρ n = none) (hd : dstOk nt o.dst = true) {t : TypeId} {len : Nat} {parts : Array (Nat × Operand)} (ho : o.op = .buildSlice t len parts) (h : aopX Γ N (aval Γ env) ob o = some r) : Goes P c nt N env ob ρ a w o r := by
  simp only [aopX, ho] at h
  unfold buildV at h
  split at h
  · rename_i e he
    split at h
    · rename_i ti hti
      split at h
      · rename_i z hz
        split at h
        · rename_i hc
          obtain ⟨hc1, hc2, hc3⟩ := hc
          simp only [Option.map_eq_some_iff] at h
          obtain ⟨q, hq, rfl⟩ := h
          have hund := und_elem hΓ he
          obtain ⟨i, zv, h1, h2, hsz, _, h3, h4⟩ := run_typeInfo' hΓ hti w
          rw [hz] at h4
          obtain ⟨u0, hu0⟩ : ∃ u, zv.cells = #[u] := by
            have : zv.cells.toList.length = 1 := by have := h4.len; simpa using this.symm
            match hL : zv.cells.toList, this with
            | [u], _ => exact ⟨u, by apply Array.ext'; simpa using hL⟩
          have hz1 : RepAV ρ w S z u0 := by
            have h5 := zero_rep (ρ := ρ) (w := w) (S := S) h4
            rw [hu0] at h5
            cases h5 with | cons q _ => exact q
          let arr0 : Array Value := (Array.range (len * 1)).map fun x => zv.cells[x % zv.cells.size]!
          have harr : arr0.toList = List.replicate len u0 := by
            apply List.ext_getElem?
            intro j
            simp only [arr0, Array.toList_map, List.getElem?_map, Array.toList_range, Nat.mul_one, hu0, List.getElem?_replicate]
            by_cases hj : j < len
            · rw [List.getElem?_range hj, if_pos hj]; simp [Nat.mod_one]
            · rw [List.getElem?_eq_none (by simpa using hj), if_neg hj]; rfl
          obtain ⟨arr', e1, e2⟩ := fillV_run (Γ := Γ) hr e parts.toList _ arr0 q hq (by
            rw [harr]
            exact All2.of_get (by simp) fun i x y hx hy => by
              rw [List.getElem?_replicate] at hx hy
              split at hx
              · rename_i hi; rw [if_pos hi] at hy; cases hx; cases hy; exact hz1
              · cases hx)
          have hp : (parts.map fun x => (x.1, a.eval x.2)).toList = parts.toList.map fun p => (p.1, a.eval p.2) := by simp
          have hrun : (execOp a.eval o).run P w = .ok (.value (.slice (some ⟨w.heap.size, 0, none⟩) len len)) (w.alloc (.cells arr' e)) := by
            have hne : ¬ (len * 1 = 0) := by omega
            have hgt : ¬ (2 ^ 24 < len * 1) := by omega
            simp only [execOp, ho, Instr.buildSlice, Sem.run_bind, run_underlying hund, Result.andThen_ok, sizeOf, h1, hsz, Sem.run_pure, hp, hc1]
            have e1' : Instr.fill (fun i => some (i * 1, 1)) ((Array.range (len * 1)).map fun x => zv.cells[x % zv.cells.size]!) (parts.toList.map fun p => (p.1, a.eval p.2)) = some arr' := e1
            simp only [hne, hgt, zeroValue, h1, h3, e1', newRow, if_false, Sem.run_bind, Result.andThen_ok, Sem.run_pure]
            simp
          intro Q
          obtain ⟨ρ', f2, hrel⟩ := hr.new (N := N) (x := .var q true) (h := .pointer (some ⟨w.heap.size, 0, none⟩)) (v := .slice (some ⟨w.heap.size, 0, none⟩) len len) (out := .cs false [.vsl N len]) (o := .cells arr' e) hd (hf N (by omega) (by omega)) (.inl rfl)
            (fun ρ' f1 g => ⟨w.heap.size, arr', e, rfl, heap_alloc_new w _, e2.mono fun _ _ => RepAV.grows g, fun _ hs => absurd (hr.lim _ hs) (by omega), fun hh => by cases hh⟩)
            (fun ρ' f1 => ⟨_, rfl, w.heap.size, f1, rfl⟩)
          exact wp_value hrun ⟨ρ', S, hrel, fun n hn => f2 n (by omega)⟩
        · cases h
      · cases h
    · cases h
  · cases h

theorem sound_idxX (hΓ : CtxOk P Γ) (hr : Rel c nt env ob ρ S a w) (hd : dstOk nt o.dst = true) {t : TypeId} {x i : Operand} (ho : o.op = .indexAddr t x i) (h : aopX Γ N (aval Γ env) ob o = some r) : Goes P c nt N env ob ρ a w o r := by
  simp only [aopX, ho] at h
  split at h
  · rename_i oo n m ev en
    obtain ⟨g, h1, hu⟩ := av_rep (eval_rep (Γ := Γ) hr t x) ev
    obtain ⟨ki, hi⟩ := int_rep (eval_rep (Γ := Γ) hr 0 i) en
    unfold idxV at h
    split at h
    · rename_i e hel
      have hund := und_elem hΓ hel
      split at h
      · rename_i k hk
        split at h
        · rename_i hc
          obtain ⟨rfl, h0, hl⟩ := hc
          cases h
          refine goes_value hr hd (v := .pointer (some ⟨g, m.toNat, none⟩)) ?_ ⟨_, rfl, g, h1, rfl⟩
          simp only [execOp, ho, hu, hi]
          simp [Instr.indexAt, asIntOf, run_underlying hund, h0, hl, run_sizeOf' hΓ hk, add_lit]
        · cases h
      · cases h
    · cases h
  · cases h

theorem sound_lenX (hΓ : CtxOk P Γ) (hr : Rel c nt env ob ρ S a w) (hd : dstOk nt o.dst = true) {cl : Call} (ho : o.op = .call cl) (hb : cl.callee = .builtin .len) (h : aopX Γ N (aval Γ env) ob o = some r) : Goes P c nt N env ob ρ a w o r := by
  simp only [aopX, ho, hb] at h
  split at h
  · rename_i x t ex et
    have hargs : cl.args.map a.eval = #[a.eval x] := by apply Array.ext'; simp [ex]
    have htys : cl.argTypes = #[t] := by apply Array.ext'; simp [et]
    split at h
    · rename_i oo n e ev he
      have hund := und_elem hΓ he
      obtain ⟨g, h1, hu⟩ := av_rep (eval_rep (Γ := Γ) hr t x) ev
      cases h
      exact goes_value hr hd (v := .int .i64 n) (by simp [execOp, ho, resolve, hb, invoke, builtin, hargs, htys, hu, Builtin.len_, run_underlying hund, goInt]) (rep_int _ _)
    · cases h
  · cases h

end
end Go.Eng
