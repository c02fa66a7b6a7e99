/- Soundness: a string's iterator; slices of function values. -/
import Derived.Test.YtfgejhlgenaniaaDoorEngX
import Derived.Lib.OthersKept
namespace Go.Eng

section
variable {P : Program} {Γ : Ctx} {c : Base} {nt : Nat} {env : Nat → AT} {ob : Nat → Option AObj} {ρ : Where} {S : Nat → Prop} {a : Act} {w : World}
variable {N : Nat} {o : Oper} {r : AOut}

theorem sound_rangeX (hΓ : CtxOk P Γ) (hr : Rel c nt env ob ρ S a w) (hf : ∀ n, N ≤ n → n < N + 8 → ρ n = none) (hd : dstOk nt o.dst = true) {t : TypeId} {x : Operand} (ho : o.op = .range t x) (h : aopX Γ N (aval Γ env) ob o = some r) : Goes P c nt N env ob ρ a w o r := by
  simp only [aopX, ho] at h
  have hx := eval_rep (Γ := Γ) hr t x
  unfold rangeA at h
  split at h
  · rename_i s ev
    rw [ev] at hx
    have hu := v_rep hx
    split at h
    · rename_i ti hti
      have hdd := (hΓ.ty t ti hti).desc
      split at h
      · rename_i hde
        rw [hde] at hdd
        have hund : P.underlying t = some .string := hdd
        cases h
        intro Q
        have hrun : (execOp a.eval o).run P w = .ok (.value (.pointer (some ⟨w.heap.size, 0, none⟩))) (w.alloc (.stringIter s 0)) := by
          simp [execOp, ho, Instr.range, hu, run_underlying hund]
        obtain ⟨ρ', e2, hrel⟩ := hr.new (N := N) (x := .it s 0) (h := .pointer (some ⟨w.heap.size, 0, none⟩)) (v := .pointer (some ⟨w.heap.size, 0, none⟩)) (out := .cs false [.ptr N 0]) (o := .stringIter s 0) hd (hf N (by omega) (by omega)) (.inl rfl)
          (fun ρ' e1 g => ⟨w.heap.size, rfl, heap_alloc_new w _, fun hs => absurd (hr.lim _ hs) (by omega)⟩)
          (fun ρ' e1 => ⟨_, rfl, w.heap.size, e1, rfl⟩)
        exact wp_value hrun ⟨ρ', S, hrel, fun n hn => e2 n (by omega)⟩
      · cases h
    · cases h
  · cases h

theorem sound_nextX (hr : Rel c nt env ob ρ S a w) (hd : dstOk nt o.dst = true) {x : Operand} {str : Bool} (ho : o.op = .next x str) (h : aopX Γ N (aval Γ env) ob o = some r) : Goes P c nt N env ob ρ a w o r := by
  simp only [aopX, ho] at h
  have hx := eval_rep (Γ := Γ) hr 0 x
  unfold nextA at h
  split at h
  · rename_i oo off ev
    obtain ⟨g, h1, h2⟩ := av_rep hx ev
    split at h
    · rename_i s pos hit
      split at h
      · rename_i hc
        obtain ⟨rfl, rfl⟩ := hc
        cases h
        have hob : ob oo = some (.it s pos) := by
          unfold itOf at hit
          split at hit
          · rename_i e; cases hit; exact e
          · cases hit
        obtain ⟨hh, h3, g', rfl, h4, h5⟩ := hr.obj oo _ hob
        rw [h1] at h3; cases h3
        unfold nextIt
        split
        · rename_i hlt
          have hrun : (execOp a.eval o).run P w = .ok (.value (.tuple #[.bool true, .int .i64 pos, .int .i32 (Utf8.decode s pos).1])) (w.iterAt g s (pos + (Utf8.decode s pos).2)) := by
            simp only [execOp, ho, h2]
            simp [Lib.run_next_any_at w g s pos o.type h4 hlt]
          have hk : Keeps S w (w.iterAt g s (pos + (Utf8.decode s pos).2)) := fun b hbS => Lib.iterAt_other w g b s _ (fun e => h5 (e ▸ hbS))
          intro Q
          refine wp_value hrun ⟨ρ, S, ?_, fun n _ => rfl⟩
          refine hr.step hd ⟨fun _ _ h => h, fun _ h => h, hk⟩ ⟨_, rfl, .cons (rep_bool _) (.cons (rep_int _ _) (.cons (rep_int _ _) .nil))⟩ (fun n y hy => ?_) rfl rfl rfl (by rw [Lib.iterAt_size]; exact Nat.le_refl _) (fun b hb1 hb2 => Lib.iterAt_other w g b s _ ?_) (fun b hbS => by rw [Lib.iterAt_size]; exact hr.lim b hbS) hr.foot
          · simp only [updO] at hy
            split at hy
            · rename_i hn
              subst hn
              cases hy
              refine .inr ⟨_, h1, ⟨g, rfl, Lib.iterAt_heap w g s pos _ h4, h5⟩, fun b hbb => ?_⟩
              refine ⟨hr.place _ _ _ _ hob h1 hbb, fun o2 x2 h2 hx2 hh2 hb2 => ?_⟩
              simp only [updO] at hx2
              split at hx2
              · assumption
              · exact hr.sep _ _ _ _ _ _ b hx2 hob hh2 h1 hb2 hbb
            · rename_i hn
              refine .inl ⟨hy, fun h' b hh hb' => ⟨Lib.iterAt_other w g b s _ (fun e => hn ?_), id⟩⟩
              subst e
              exact hr.sep _ _ _ _ _ _ b hy hob hh h1 hb' rfl
          · rintro rfl
            rcases hr.place _ _ _ _ hob h1 rfl with (q1 | q1) | q1
            · exact absurd (show c.W.heap.size ≤ b from q1) (by omega)
            · exact hb2 q1
            · exact h5 q1
        · rename_i hlt
          refine goes_value hr hd (v := .tuple #[.bool false]) ?_ ⟨_, rfl, .cons (rep_bool _) .nil⟩
          simp only [execOp, ho, h2]
          simp [Lib.run_next_end_at w g s pos o.type h4 hlt]
      · cases h
    · cases h
  · cases h

theorem fillV_run (hr : Rel c nt env ob ρ S a w) (e : TypeId) : ∀ (parts : List (Nat × Operand)) (cells : List AV) (arr : Array Value) (out : List AV),
    fillV (aval Γ env) e cells parts = some out → All2 (RepAV ρ w S) cells arr.toList →
    ∃ arr', Instr.fill (fun i => some (i * 1, 1)) arr (parts.map fun p => (p.1, a.eval p.2)) = some arr' ∧ All2 (RepAV ρ w S) out arr'.toList
  | [], cells, arr, out, h, hc => by
    simp only [fillV, Option.some.injEq] at h
    subst h
    exact ⟨arr, rfl, hc⟩
  | (i, x) :: parts, cells, arr, out, h, hc => by
    simp only [fillV] at h
    split at h
    · rename_i ys hys
      split at h
      · rename_i y
        split at h
        · rename_i hlt
          have h4 := cells_rep (eval_rep (Γ := Γ) hr e x) hys
          have hsz : (a.eval x).cells.size = 1 := by have := h4.len; simpa using this.symm
          have hlen : cells.length = arr.size := by have := hc.len; simpa using this
          have hoff : i * 1 + (a.eval x).cells.size ≤ arr.size := by rw [hsz]; omega
          obtain ⟨u, hu⟩ : ∃ u, (a.eval x).cells = #[u] := by
            have : (a.eval x).cells.toList.length = 1 := by simpa using hsz
            match hL : (a.eval x).cells.toList, this with
            | [u], _ => exact ⟨u, by apply Array.ext'; simpa using hL⟩
          rw [hu] at h4
          have hyu : RepAV ρ w S y u := by cases h4 with | cons q _ => exact q
          obtain ⟨arr', e1, e2⟩ := fillV_run hr e parts _ (arr.setIfInBounds i u) out h (by rw [Array.toList_setIfInBounds]; exact hc.set hyu)
          refine ⟨arr', ?_, e2⟩
          simp only [List.map_cons, Instr.fill]
          rw [if_neg (by simp [hsz]; omega)]
          rw [hu]
          simpa using e1
        · cases h
      · cases h
    · cases h

theorem sound_buildX (hΓ : CtxOk P Γ) (hr : Rel c nt env ob ρ S a w) (hf : ∀ n, N ≤ n → n < N + 8 → ρ n = none) (hd : dstOk nt o.dst = true) {t : TypeId} {len : Nat} {parts : Array (Nat × Operand)} (ho : o.op = .buildSlice t len parts) (h : aopX Γ N (aval Γ env) ob o = some r) : Goes P c nt N env ob ρ a w o r := by
  simp only [aopX, ho] at h
  unfold buildV at h
  split at h
  · rename_i e he
    split at h
    · rename_i ti hti
      split at h
      · rename_i z hz
        split at h
        · rename_i hc
          obtain ⟨hc1, hc2, hc3⟩ := hc
          simp only [Option.map_eq_some_iff] at h
          obtain ⟨q, hq, rfl⟩ := h
          have hund := und_elem hΓ he
          obtain ⟨i, zv, h1, h2, hsz, _, h3, h4⟩ := run_typeInfo' hΓ hti w
          rw [hz] at h4
          obtain ⟨u0, hu0⟩ : ∃ u, zv.cells = #[u] := by
            have : zv.cells.toList.length = 1 := by have := h4.len; simpa using this.symm
            match hL : zv.cells.toList, this with
            | [u], _ => exact ⟨u, by apply Array.ext'; simpa using hL⟩
          have hz1 : RepAV ρ w S z u0 := by
            have h5 := zero_rep (ρ := ρ) (w := w) (S := S) h4
            rw [hu0] at h5
            cases h5 with | cons q _ => exact q
          let arr0 : Array Value := (Array.range (len * 1)).map fun x => zv.cells[x % zv.cells.size]!
          have harr : arr0.toList = List.replicate len u0 := by
            apply List.ext_getElem?
            intro j
            simp only [arr0, Array.toList_map, List.getElem?_map, Array.toList_range, Nat.mul_one, hu0, List.getElem?_replicate]
            by_cases hj : j < len
            · rw [List.getElem?_range hj, if_pos hj]; simp [Nat.mod_one]
            · rw [List.getElem?_eq_none (by simpa using hj), if_neg hj]; rfl
          obtain ⟨arr', e1, e2⟩ := fillV_run (Γ := Γ) hr e parts.toList _ arr0 q hq (by
            rw [harr]
            exact All2.of_get (by simp) fun i x y hx hy => by
              rw [List.getElem?_replicate] at hx hy
              split at hx
              · rename_i hi; rw [if_pos hi] at hy; cases hx; cases hy; exact hz1
              · cases hx)
          have hp : (parts.map fun x => (x.1, a.eval x.2)).toList = parts.toList.map fun p => (p.1, a.eval p.2) := by simp
          have hrun : (execOp a.eval o).run P w = .ok (.value (.slice (some ⟨w.heap.size, 0, none⟩) len len)) (w.alloc (.cells arr' e)) := by
            have hne : ¬ (len * 1 = 0) := by omega
            have hgt : ¬ (2 ^ 24 < len * 1) := by omega
            simp only [execOp, ho, Instr.buildSlice, Sem.run_bind, run_underlying hund, Result.andThen_ok, sizeOf, h1, hsz, Sem.run_pure, hp, hc1]
            have e1' : Instr.fill (fun i => some (i * 1, 1)) ((Array.range (len * 1)).map fun x => zv.cells[x % zv.cells.size]!) (parts.toList.map fun p => (p.1, a.eval p.2)) = some arr' := e1
            simp only [hne, hgt, zeroValue, h1, h3, e1', newRow, if_false, Sem.run_bind, Result.andThen_ok, Sem.run_pure]
            simp
          intro Q
          obtain ⟨ρ', f2, hrel⟩ := hr.new (N := N) (x := .var q true) (h := .pointer (some ⟨w.heap.size, 0, none⟩)) (v := .slice (some ⟨w.heap.size, 0, none⟩) len len) (out := .cs false [.vsl N len]) (o := .cells arr' e) hd (hf N (by omega) (by omega)) (.inl rfl)
            (fun ρ' f1 g => ⟨w.heap.size, arr', e, rfl, heap_alloc_new w _, e2.mono fun _ _ => RepAV.grows g, fun _ hs => absurd (hr.lim _ hs) (by omega), fun hh => by cases hh⟩)
            (fun ρ' f1 => ⟨_, rfl, w.heap.size, f1, rfl⟩)
          exact wp_value hrun ⟨ρ', S, hrel, fun n hn => f2 n (by omega)⟩
        · cases h
      · cases h
    · cases h
  · cases h

theorem sound_idxX (hΓ : CtxOk P Γ) (hr : Rel c nt env ob ρ S a w) (hd : dstOk nt o.dst = true) {t : TypeId} {x i : Operand} (ho : o.op = .indexAddr t x i) (h : aopX Γ N (aval Γ env) ob o = some r) : Goes P c nt N env ob ρ a w o r := by
  simp only [aopX, ho] at h
  split at h
  · rename_i oo n m ev en
    obtain ⟨g, h1, hu⟩ := av_rep (eval_rep (Γ := Γ) hr t x) ev
    obtain ⟨ki, hi⟩ := int_rep (eval_rep (Γ := Γ) hr 0 i) en
    unfold idxV at h
    split at h
    · rename_i e hel
      have hund := und_elem hΓ hel
      split at h
      · rename_i k hk
        split at h
        · rename_i hc
          obtain ⟨rfl, h0, hl⟩ := hc
          cases h
          refine goes_value hr hd (v := .pointer (some ⟨g, m.toNat, none⟩)) ?_ ⟨_, rfl, g, h1, rfl⟩
          simp only [execOp, ho, hu, hi]
          simp [Instr.indexAt, asIntOf, run_underlying hund, h0, hl, run_sizeOf' hΓ hk, add_lit]
        · cases h
      · cases h
    · cases h
  · cases h

theorem sound_lenX (hΓ : CtxOk P Γ) (hr : Rel c nt env ob ρ S a w) (hd : dstOk nt o.dst = true) {cl : Call} (ho : o.op = .call cl) (hb : cl.callee = .builtin .len) (h : aopX Γ N (aval Γ env) ob o = some r) : Goes P c nt N env ob ρ a w o r := by
  simp only [aopX, ho, hb] at h
  split at h
  · rename_i x t ex et
    have hargs : cl.args.map a.eval = #[a.eval x] := by apply Array.ext'; simp [ex]
    have htys : cl.argTypes = #[t] := by apply Array.ext'; simp [et]
    split at h
    · rename_i oo n e ev he
      have hund := und_elem hΓ he
      obtain ⟨g, h1, hu⟩ := av_rep (eval_rep (Γ := Γ) hr t x) ev
      cases h
      exact goes_value hr hd (v := .int .i64 n) (by simp [execOp, ho, resolve, hb, invoke, builtin, hargs, htys, hu, Builtin.len_, run_underlying hund, goInt]) (rep_int _ _)
    · cases h
  · cases h

end
end Go.Eng
