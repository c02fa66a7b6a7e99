/- Soundness: variables and rows of the call's own, loads, stores, addresses. -/
import Derived.Test.YtfgejhlgenaniaaDoorEngE
namespace Go.Eng

section
variable {P : Program} {Γ : Ctx} {c : Base} {nt : Nat} {env : Nat → AT} {ob : Nat → Option AObj} {ρ : Where} {S : Nat → Prop} {a : Act} {w : World}
variable {N : Nat} {o : Oper} {r : AOut}

theorem run_loadC (hΓ : CtxOk P Γ) {t : TypeId} {cells : List AV} {us : List Value} {ad : Addr} {out : AT} (hc : All2 (RepAV ρ w S) cells us)
    (hu : ∀ (j : Nat) (u : Value), us[j]? = some u → w.cell? (ad.add j) = some u) (h : loadC Γ t cells = some out) :
    ∃ v, (loadVar t ad).run P w = .ok v w ∧ RepT ρ w S out v := by
  unfold loadC at h
  split at h
  · rename_i k ha hk
    split at h
    · rename_i hle
      cases h
      have hl := hc.len
      have hrun := run_loadCells_list (P := P) w ad (us.take k) (fun j v hv => hu j v (by
        rw [List.getElem?_take] at hv
        split at hv
        · exact hv
        · cases hv))
      have hkl : (us.take k).length = k := by rw [List.length_take]; omega
      rw [hkl] at hrun
      refine ⟨.agg (us.take k).toArray, ?_, ⟨_, rfl, hc.take k⟩⟩
      simp only [loadVar, Sem.run_bind, run_isAgg' hΓ ha, Result.andThen_ok, if_true, run_sizeOf' hΓ hk, hrun, Sem.run_pure]
    · cases h
  · rename_i k ha hk
    split at h
    · rename_i x xs
      cases h
      obtain ⟨u, h1, h2⟩ := hc.get (i := 0) rfl
      refine ⟨u, ?_, ⟨x, rfl, h2⟩⟩
      have h3 := hu 0 u h1
      rw [add_zero] at h3
      simp [loadVar, run_isAgg' hΓ ha, h3]
    · cases h
  · cases h

/-- The cells behind a read-only pointer. -/
theorem pt_cells {cc : List D} {ad : Addr} (h : Rep w S (.pt cc) (.pointer (some ad))) : ∃ us : List Value, All2 (RepAV ρ w S) (cc.map .d) us ∧ ∀ (j : Nat) (u : Value), us[j]? = some u → w.cell? (ad.add j) = some u ∧ S ad.block := by
  cases h with
  | pt _ _ u hcell hrep =>
    refine ⟨(List.range cc.length).map u, All2.of_get (by simp) (fun i x y hx hy => ?_), fun j x hx => ?_⟩
    · simp only [List.getElem?_map, Option.map_eq_some_iff] at hx hy
      obtain ⟨d, hd, rfl⟩ := hx
      obtain ⟨m, hm, rfl⟩ := hy
      have hi : i < cc.length := (List.getElem?_eq_some_iff.1 hd).1
      rw [List.getElem?_range hi] at hm
      cases hm
      exact hrep i d hd
    · simp only [List.getElem?_map, Option.map_eq_some_iff] at hx
      obtain ⟨m, hm, rfl⟩ := hx
      have hj : j < cc.length := by
        have := (List.getElem?_eq_some_iff.1 hm).1
        simpa using this
      rw [List.getElem?_range hj] at hm
      cases hm
      exact ⟨(hcell j hj).2, (hcell j hj).1⟩

theorem pt_mk {cc : List D} {ad : Addr} {us : List Value} (h : All2 (RepAV ρ w S) (cc.map .d) us) (hu : ∀ (j : Nat) (u : Value), us[j]? = some u → w.cell? (ad.add j) = some u ∧ S ad.block) : Rep w S (.pt cc) (.pointer (some ad)) := by
  have hl : cc.length = us.length := by simpa using h.len
  refine .pt cc ad (fun j => us.getD j undef) (fun j hj => ?_) (fun j d hd => ?_)
  · have hj' : us[j]? = some (us[j]'(by omega)) := List.getElem?_eq_getElem (by omega)
    have := hu j _ hj'
    refine ⟨this.2, ?_⟩
    rw [this.1]
    simp [List.getD, hj']
  · obtain ⟨u, h1, h2⟩ := h.get (i := j) (x := .d d) (by simp [hd])
    simp only [List.getD, h1, Option.getD_some]
    exact h2

/-- The cells of one row of an own row, from place j on. -/
theorem row_cells {k : Nat} {ety : TypeId} {rows : List (List D)} {g cc : Nat} (hk : ∀ r ∈ rows, r.length = k) (h : RowBlk w S k ety rows g cc) {i j : Nat} {r : List D} (hi : rows[i]? = some r) :
    ∃ us : List Value, All2 (RepAV ρ w S) ((r.drop j).map .d) us ∧ ∀ (m : Nat) (u : Value), us[m]? = some u → w.cell? ((⟨g, i * k + j, none⟩ : Addr).add m) = some u := by
  obtain ⟨h1, h2, h3, cur, h4, h5, _, h6⟩ := h
  have hrl : r.length = k := hk r (List.mem_of_getElem? hi)
  have key : ∀ m, m < r.length → ∃ u, cur[i * k + m]? = some u ∧ ∀ d, r[m]? = some d → Rep w S d u := by
    intro m hm
    obtain ⟨u, hu, hru⟩ := h6 i m r (r[m]) hi (List.getElem?_eq_getElem hm)
    refine ⟨u, hu, fun d hd => ?_⟩
    rw [List.getElem?_eq_getElem hm] at hd
    cases hd
    exact hru
  refine ⟨((cur.toList.drop (i * k + j)).take (r.length - j)), All2.of_get ?_ ?_, ?_⟩
  · have : r.length - j ≤ cur.size - (i * k + j) := by
      by_cases hj : j < r.length
      · obtain ⟨u, hu, _⟩ := key (r.length - 1) (by omega)
        have := (Array.getElem?_eq_some_iff.1 hu).1
        omega
      · omega
    simp
    omega
  · intro m x y hx hy
    simp only [List.getElem?_map, List.getElem?_drop, Option.map_eq_some_iff] at hx
    obtain ⟨d, hd, rfl⟩ := hx
    rw [List.getElem?_take] at hy
    split at hy
    · have hm : j + m < r.length := (List.getElem?_eq_some_iff.1 hd).1
      obtain ⟨u, hu, hru⟩ := key (j + m) hm
      rw [List.getElem?_drop] at hy
      have e : i * k + j + m = i * k + (j + m) := by omega
      rw [e] at hy
      simp only [Array.getElem?_toList] at hy
      rw [hu] at hy
      cases hy
      exact hru d hd
    · cases hy
  · intro m u hu
    rw [List.getElem?_take] at hu
    split at hu
    · rw [add_lit', cell_of_row w g _ cur ety (0, 0) h4]
      simpa [List.getElem?_drop] using hu
    · cases hu

theorem sound_load (hΓ : CtxOk P Γ) (hr : Rel c nt env ob ρ S a w) (hd : dstOk nt o.dst = true) {t : TypeId} {x : Operand} (ho : o.op = .load t x) (h : aop0 Γ N (aval Γ env) ob o = some r) : Goes P c nt N env ob ρ a w o r := by
  simp only [aop0, ho] at h
  have hx := eval_rep (Γ := Γ) hr 0 x
  have fin : ∀ (ad : Addr) (cells : List AV) (us : List Value) (out : AT) (tc : List Nat), a.eval x = .pointer (some ad) → All2 (RepAV ρ w S) cells us → (∀ (j : Nat) (u : Value), us[j]? = some u → w.cell? (ad.add j) = some u) →
      loadC Γ t cells = some out → Goes P c nt N env ob ρ a w o ⟨out, [], tc⟩ := by
    intro ad cells us out tc he h1 h2 h3
    obtain ⟨v, hv, hrv⟩ := run_loadC hΓ h1 h2 h3
    exact goes_value hr hd (v := v) (by simp [execOp, ho, he, Instr.loadAt, Instr.sureAddr, hv]) hrv
  split at h
  · rename_i oo off e
    obtain ⟨g, hg, hu⟩ := one_rep hx e
    split at h
    · rename_i cells live hob
      simp only [Option.map_eq_some_iff] at h
      obtain ⟨out, hout, rfl⟩ := h
      obtain ⟨hh, h1, h2⟩ := hr.obj oo _ hob
      rw [hg] at h1; cases h1
      obtain ⟨g', cur, ety, e1, e2, e3, _⟩ := h2
      cases e1
      refine fin _ _ (cur.toList.drop off) out _ hu (e3.drop off) (fun j u hju => ?_) hout
      rw [add_lit', cell_of_row w g _ cur ety (0, 0) e2]
      simpa [List.getElem?_drop] using hju
    · cases h
  · rename_i cc e
    simp only [Option.map_eq_some_iff] at h
    obtain ⟨out, hout, rfl⟩ := h
    have h1 := one_rep hx e
    obtain ⟨ad, hu⟩ := pt_val h1
    rw [hu] at h1
    obtain ⟨us, hus, hcell⟩ := pt_cells (ρ := ρ) h1
    exact fin ad _ us out _ hu hus (fun j u hju => (hcell j u hju).1) hout
  · rename_i oo k i j e
    obtain ⟨g, n, cc, hg, hu⟩ := one_rep hx e
    split at h
    · rename_i k' ety rows live hob
      split at h
      · rename_i hkk
        subst hkk
        split at h
        · rename_i rr hrr
          simp only [Option.map_eq_some_iff] at h
          obtain ⟨out, hout, rfl⟩ := h
          obtain ⟨hh, h1, h2⟩ := hr.obj oo _ hob
          rw [hg] at h1; cases h1
          obtain ⟨hk, h3⟩ := h2
          rcases h3 with ⟨hnil, _⟩ | ⟨g', c', _, e1, e2, _⟩
          · subst hnil; simp at hrr
          · cases e1
            obtain ⟨us, h4, h5⟩ := row_cells (ρ := ρ) (j := j) hk e2 hrr
            exact fin _ _ us out _ hu h4 h5 hout
        · cases h
      · cases h
    · cases h
  · cases h

theorem run_fieldAt (hΓ : CtxOk P Γ) {t : TypeId} {fs : List (Nat × TypeId)} (hfs : Γ.fields t = some fs) {i off : Nat} {ft : TypeId} (hi : fs[i]? = some (off, ft)) {k : Nat} (hk : Γ.size ft = some k) (hk0 : k ≠ 0) (ad : Addr) (w : World) :
    (Instr.fieldAt t (.pointer (some ad)) i).run P w = .ok (.pointer (some (ad.add off))) w := by
  obtain ⟨flds, hund, rfl, _⟩ := und_fields hΓ hfs
  simp only [List.getElem?_map, Option.map_eq_some_iff] at hi
  obtain ⟨f, hf, hfe⟩ := hi
  cases hfe
  have hf' : flds[i]? = some f := by simpa using hf
  simp [Instr.fieldAt, run_underlying hund, hf', Instr.sureAddr, fieldPlace, run_sizeOf' hΓ hk, hk0]

theorem sound_fieldAddr (hΓ : CtxOk P Γ) (hr : Rel c nt env ob ρ S a w) (hd : dstOk nt o.dst = true) {t : TypeId} {x : Operand} {i : Nat} (ho : o.op = .fieldAddr t x i) (h : aop0 Γ N (aval Γ env) ob o = some r) : Goes P c nt N env ob ρ a w o r := by
  simp only [aop0, ho] at h
  have hx := eval_rep (Γ := Γ) hr 0 x
  split at h
  · rename_i v fs e hfs
    split at h
    · rename_i off ft hi
      split at h
      · rename_i k hk
        split at h
        · cases h
        · rename_i hk0
          have h1 := one_rep hx e
          have run := fun ad => run_fieldAt hΓ hfs hi hk hk0 ad w
          split at h <;> first | cases h | skip
          · obtain ⟨g, hg, hu⟩ := h1
            exact goes_value hr hd (v := .pointer (some _)) (by simp [execOp, ho, hu, run, add_lit']) ⟨_, rfl, g, hg, rfl⟩
          · obtain ⟨ad, hu⟩ := pt_val h1
            rw [hu] at h1
            refine goes_value hr hd (v := .pointer (some (ad.add off))) (by simp [execOp, ho, hu, run]) ⟨_, rfl, ?_⟩
            obtain ⟨us, hus, hcell⟩ := pt_cells (ρ := ρ) h1
            refine pt_mk (us := us.drop off) (by simpa using hus.drop off) (fun j u hju => ?_)
            rw [List.getElem?_drop] at hju
            have := hcell _ u hju
            rw [add_add, block_add]
            exact this
          · obtain ⟨g, n, cc, hg, hu⟩ := h1
            exact goes_value hr hd (v := .pointer (some _)) (by simp [execOp, ho, hu, run, add_lit', Nat.add_assoc]) ⟨_, rfl, g, n, cc, hg, rfl⟩
      · cases h
    · cases h
  · cases h

theorem sound_indexAddr (hΓ : CtxOk P Γ) (hr : Rel c nt env ob ρ S a w) (hd : dstOk nt o.dst = true) {t : TypeId} {x i : Operand} (ho : o.op = .indexAddr t x i) (h : aop0 Γ N (aval Γ env) ob o = some r) : Goes P c nt N env ob ρ a w o r := by
  simp only [aop0, ho] at h
  have hx := eval_rep (Γ := Γ) hr t x
  have hi := eval_rep (Γ := Γ) hr 0 i
  split at h
  · rename_i v n e ev en hel
    have hund := und_elem hΓ hel
    obtain ⟨ki, hi⟩ := int_rep hi en
    split at h
    · rename_i k hk
      have h1 := one_rep hx ev
      have run : ∀ (ad : Addr) (l cc : Nat), 0 ≤ n → n < l → (Instr.indexAt t (.slice (some ad) l cc) (.int ki n)).run P w = .ok (.pointer (some (ad.add (n.toNat * k)))) w := fun ad l cc h0 hl => by
        simp [Instr.indexAt, asIntOf, run_underlying hund, h0, hl, run_sizeOf' hΓ hk]
      split at h <;> first | cases h | skip
      · rename_i k' rows
        split at h
        · rename_i hc
          obtain ⟨rfl, hk0, hn⟩ := hc
          split at h
          · rename_i rr hrr
            cases h
            have hlt : n.toNat < rows.length := (List.getElem?_eq_some_iff.1 hrr).1
            have h2 : Rep w S (.vec k rows) (a.eval x) := h1
            generalize hav : a.eval x = u at h2
            cases h2 with
            | vec _ _ A cc u hc hm hk' hcell hrep =>
              have hrl : rr.length = k := hk' rr (List.mem_of_getElem? hrr)
              obtain ⟨ad, rfl, hS, _⟩ := hcell n.toNat 0 hlt (by omega)
              have hnl : n < (rows.length : Int) := by omega
              have run' := run ad rows.length cc hn hnl
              refine goes_value hr hd (v := .pointer (some (ad.add (n.toNat * k)))) ?_ ⟨_, rfl, .pt rr _ (u n.toNat) (fun j hj => ?_) (fun j d hj => hrep _ j rr d hrr hj)⟩
              · simp [execOp, ho, hav, hi, run']
              · obtain ⟨ad', e', hS', hc'⟩ := hcell n.toNat j hlt (by omega)
                cases e'
                rw [block_add, add_add]
                exact ⟨hS', hc'⟩
          · cases h
        · cases h
      · rename_i oo
        split at h
        · rename_i k' ety rows live hob
          split at h
          · rename_i hc
            obtain ⟨rfl, hn, hlt⟩ := hc
            cases h
            obtain ⟨hρ, A, nn, cc, hu⟩ := h1
            obtain ⟨hh, h3, h4⟩ := hr.obj oo _ hob
            rw [hρ] at h3; cases h3
            obtain ⟨hkk, h5⟩ := h4
            rcases h5 with ⟨hnil, _⟩ | ⟨g', c', _, e1, e2, _⟩
            · subst hnil; simp at hlt; omega
            · rw [e1] at hρ
              refine goes_value hr hd (v := .pointer (some ⟨g', n.toNat * k, none⟩)) ?_ ⟨_, rfl, g', _, _, hρ, by simp⟩
              simp [execOp, ho, e1, hi, run _ _ _ hn hlt, add_lit]
          · cases h
        · cases h
    · cases h
  · cases h

theorem sound_alloc (hΓ : CtxOk P Γ) (hr : Rel c nt env ob ρ S a w) (hf : ∀ n, N ≤ n → n < N + 8 → ρ n = none) (hd : dstOk nt o.dst = true) {t : TypeId} (ho : o.op = .alloc t) (h : aop0 Γ N (aval Γ env) ob o = some r) : Goes P c nt N env ob ρ a w o r := by
  simp only [aop0, ho, Option.map_eq_some_iff] at h
  obtain ⟨ti, hti, rfl⟩ := h
  intro Q
  obtain ⟨i, z, h1, h2, _, _, h3, h4⟩ := run_typeInfo' hΓ hti w
  have hrun : (execOp a.eval o).run P w = .ok (.value (.pointer (some ⟨w.heap.size, 0, none⟩))) (w.alloc (.cells z.cells t)) := by
    simp [execOp, ho, Instr.alloc, zeroValue, h1, h3, newVar, newRow]
  obtain ⟨ρ', e2, hrel⟩ := hr.new (N := N) (x := .var ti.zero true) (h := .pointer (some ⟨w.heap.size, 0, none⟩)) (v := .pointer (some ⟨w.heap.size, 0, none⟩)) (out := .cs false [.ptr N 0]) (o := .cells z.cells t) hd (hf N (by omega) (by omega)) (.inl rfl)
    (fun ρ' e1 g => ⟨w.heap.size, z.cells, t, rfl, heap_alloc_new w _, zero_rep h4, fun _ hs => absurd (hr.lim _ hs) (by omega), fun hh => by cases hh⟩)
    (fun ρ' e1 => ⟨_, rfl, w.heap.size, e1, rfl⟩)
  exact wp_value hrun ⟨ρ', S, hrel, fun n hn => e2 n (by omega)⟩

theorem sound_box (hr : Rel c nt env ob ρ S a w) (hf : ∀ n, N ≤ n → n < N + 8 → ρ n = none) (hd : dstOk nt o.dst = true) {t : TypeId} {x : Operand} (ho : o.op = .box t x) (h : aop0 Γ N (aval Γ env) ob o = some r) : Goes P c nt N env ob ρ a w o r := by
  simp only [aop0, ho, Option.map_eq_some_iff] at h
  obtain ⟨ys, hys, rfl⟩ := h
  intro Q
  have h4 := cells_rep (eval_rep (Γ := Γ) hr t x) hys
  have hrun : (execOp a.eval o).run P w = .ok (.value (.pointer (some ⟨w.heap.size, 0, none⟩))) (w.alloc (.cells (a.eval x).cells t)) := by
    simp [execOp, ho, Instr.box, newVar, newRow]
  obtain ⟨ρ', e2, hrel⟩ := hr.new (N := N) (x := .var ys true) (h := .pointer (some ⟨w.heap.size, 0, none⟩)) (v := .pointer (some ⟨w.heap.size, 0, none⟩)) (out := .cs false [.ptr N 0]) (o := .cells (a.eval x).cells t) hd (hf N (by omega) (by omega)) (.inl rfl)
    (fun ρ' e1 g => ⟨w.heap.size, (a.eval x).cells, t, rfl, heap_alloc_new w _, h4.mono fun _ _ => RepAV.grows g, fun _ hs => absurd (hr.lim _ hs) (by omega), fun hh => by cases hh⟩)
    (fun ρ' e1 => ⟨_, rfl, w.heap.size, e1, rfl⟩)
  exact wp_value hrun ⟨ρ', S, hrel, fun n hn => e2 n (by omega)⟩

end
end Go.Eng
