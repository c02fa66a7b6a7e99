/- Soundness: headers of rows with all their room; copies; functions without a body. -/
import Derived.Test.YtfgejhlgenaniaaDoorEngJ
import Derived.Lib.AppendZerosOnto
namespace Go.Eng

section
variable {P : Program} {Γ : Ctx} {c : Base} {nt : Nat} {env : Nat → AT} {ob : Nat → Option AObj} {ρ : Where} {S : Nat → Prop} {a : Act} {w : World}
variable {N : Nat} {o : Oper} {r : AOut}

theorem av_rep {t : AT} {x : AV} {v : Value} (h : RepT ρ w S t v) (e : t = .cs false [x]) : RepAV ρ w S x v := one_rep h (by rw [e]; rfl)

theorem sound_capX (hΓ : CtxOk P Γ) (hr : Rel c nt env ob ρ S a w) (hd : dstOk nt o.dst = true) {cl : Call} (ho : o.op = .call cl) (hb : cl.callee = .builtin .cap) (h : aopX Γ N (aval Γ env) ob o = some r) : Goes P c nt N env ob ρ a w o r := by
  simp only [aopX, ho, hb] at h
  split at h
  · rename_i x t ex et
    have hargs : cl.args.map a.eval = #[a.eval x] := by apply Array.ext'; simp [ex]
    have htys : cl.argTypes = #[t] := by apply Array.ext'; simp [et]
    split at h
    · rename_i v e ev he
      have hund := und_elem hΓ he
      have h1 := av_rep (eval_rep (Γ := Γ) hr t x) ev
      unfold capX at h
      split at h
      · rename_i oo k lo n
        obtain ⟨A, cc, A', hρ, hu, _⟩ := h1
        split at h
        · rename_i k' ety rows live hob
          cases h
          obtain ⟨rfl, _⟩ := rows_own hr hob hρ
          exact goes_value hr hd (v := .int .i64 (rows.length - lo : Nat)) (by simp [execOp, ho, resolve, hb, invoke, builtin, hargs, htys, hu, Builtin.cap_, run_underlying hund, goInt]) (rep_int _ _)
        · cases h
      · cases h
    · cases h
  · cases h

theorem sound_sliceX (hΓ : CtxOk P Γ) (hr : Rel c nt env ob ρ S a w) (hd : dstOk nt o.dst = true) {t : TypeId} {x : Operand} {lo hi mx : Option Operand} (ho : o.op = .slice t x lo hi mx) (h : aopX Γ N (aval Γ env) ob o = some r) : Goes P c nt N env ob ρ a w o r := by
  cases mx with
  | some m => simp [aopX, ho] at h
  | none =>
  simp only [aopX, ho] at h
  split at h
  · rename_i oo k lo0 n0 ev
    obtain ⟨A, cc, A', hρ, hu, hA⟩ := av_rep (eval_rep (Γ := Γ) hr t x) ev
    unfold sliceX at h
    split at h
    · rename_i e he
      have hund := und_elem hΓ he
      split at h
      · rename_i k' ety rows live sz l hh hob hsz el eh
        obtain ⟨rfl, _⟩ := rows_own hr hob hρ
        split at h
        · rename_i hc
          obtain ⟨rfl, c1, c2, c3, c4⟩ := hc
          cases h
          have hb := run_bounds (P := P) (b := true) (cap := rows.length - lo0) (len := n0) hr el eh c1 c2 (by omega) (by omega)
          refine goes_value hr hd (v := .slice (if rows.length - lo0 = l.toNat then A' else A'.map (·.add (l.toNat * k))) (hh.toNat - l.toNat) (rows.length - lo0 - l.toNat)) ?_ ⟨_, rfl, A, _, _, hρ, by rw [Nat.sub_sub], fun hlt => ?_⟩
          · simp only [execOp, ho, Instr.sliceAt, Sem.run_bind, run_underlying hund, Result.andThen_ok, Instr.slice, hu, Option.map_none, hb, run_sizeOf' hΓ hsz, Sem.run_pure]
          · rw [if_neg (by omega), hA (by omega), Option.map_map]
            congr 1
            funext ad
            simp only [Function.comp, add_add, Nat.add_mul]
        · cases h
      · cases h
    · cases h
  · cases h

/-- A destination's header. -/
theorem dst_rep (hr : Rel c nt env ob ρ S a w) {x : AV} {u : Value} {oo k lo n : Nat} (h : dstOf ob x = some (oo, k, lo, n)) (hx : RepAV ρ w S x u) : ∃ A m cc A', ρ oo = some (.slice A m cc) ∧ u = .slice A' n (cc - lo) ∧ (lo < cc → A' = A.map (·.add (lo * k))) := by
  unfold dstOf at h
  split at h
  · rename_i o'
    split at h
    · rename_i k' ety rows live hob
      cases h
      obtain ⟨hρ, A, m, cc, rfl⟩ := hx
      obtain ⟨rfl, _⟩ := rows_own hr hob hρ
      refine ⟨A, _, cc, A, hρ, rfl, fun _ => ?_⟩
      cases A with
      | none => rfl
      | some ad => simp [add_zero]
    · cases h
  · cases h
    exact hx
  · cases h
    obtain ⟨A, cc, A', h1, h2, h3⟩ := hx
    exact ⟨A, cc, cc, A', h1, h2, h3⟩
  · cases h

theorem Flat.takeN {k : Nat} {rows : List (List D)} {us : List Value} (h : Flat w S k rows us) {n : Nat} (hn : n ≤ rows.length) : Flat w S k (rows.take n) (us.take (n * k)) := by
  have := h.window (lo := 0) (n := n) (by omega)
  simpa using this

theorem sound_copyX (hΓ : CtxOk P Γ) (hr : Rel c nt env ob ρ S a w) (hd : dstOk nt o.dst = true) {cl : Call} (ho : o.op = .call cl) (hb : cl.callee = .builtin .copy) (h : aopX Γ N (aval Γ env) ob o = some r) : Goes P c nt N env ob ρ a w o r := by
  simp only [aopX, ho, hb] at h
  split at h
  · rename_i x y t t2 ex et
    have hargs : cl.args.map a.eval = #[a.eval x, a.eval y] := by apply Array.ext'; simp [ex]
    have htys : cl.argTypes = #[t, t2] := by apply Array.ext'; simp [et]
    split at h
    · rename_i v u ev eu
      have h1 := av_rep (eval_rep (Γ := Γ) hr t x) ev
      have h2 := av_rep (eval_rep (Γ := Γ) hr t2 y) eu
      unfold copyX at h
      split at h
      · rename_i e he
        have hund := und_elem hΓ he
        split at h
        · rename_i sz oo k lo n k2 rows2 tx hsz hdst hrows2
          obtain ⟨A, m, cc, A', hρ, hux, hA⟩ := dst_rep hr hdst h1
          obtain ⟨A2, c2, us2, huy, hle2, hflat2, hcell2⟩ := rows_src hr hrows2 h2
          split at h
          · rename_i k3 ety rows hob
            split at h
            · rename_i hc
              obtain ⟨rfl, rfl, rfl, rfl, hfit⟩ := hc
              cases h
              obtain ⟨rfl, hle, _⟩ := rows_own hr hob hρ
              have hcnt : Nat.min rows2.length n = min rows2.length n := rfl
              have hflat3 := hflat2.takeN (n := min rows2.length n) (Nat.min_le_left _ _)
              have hl2 := hflat2.len
              have hfirst : (Builtin.firstCells k (min rows2.length n) (.slice A2 rows2.length c2)).run P w = .ok (us2.take (min rows2.length n * k)).toArray w := by
                refine run_first' (by rw [List.length_take, hl2]; exact Nat.min_eq_left (Nat.mul_le_mul_right _ (Nat.min_le_left _ _))) fun j v hv => ?_
                rw [List.getElem?_take] at hv
                split at hv
                · exact hcell2 j v hv
                · cases hv
              have hrunO : ∀ w', (match A' with | some ad => (storeCells ad (us2.take (min rows2.length n * k))).run P w = .ok () w' | none => w' = w) → (execOp a.eval o).run P w = .ok (.value (.int .i64 (min rows2.length n : Nat))) w' := fun w' hh => by
                cases A' with
                | none => subst hh; simp [execOp, ho, resolve, hb, invoke, builtin, hargs, htys, hux, huy, Builtin.copy_, run_underlying hund, Builtin.lenOf, run_sizeOf' hΓ hsz, hcnt, hfirst, goInt]
                | some ad => simp only at hh; simp [execOp, ho, resolve, hb, invoke, builtin, hargs, htys, hux, huy, Builtin.copy_, run_underlying hund, Builtin.lenOf, run_sizeOf' hΓ hsz, hcnt, hfirst, goInt, hh]
              intro Q
              by_cases h0 : rows2.take (min rows2.length n) = []
              · have hu0 : us2.take (min rows2.length n * k) = [] := by
                  have := hflat3.len
                  rw [h0] at this
                  exact List.length_eq_zero_iff.1 (by simpa using this)
                refine wp_value (hrunO w (by cases A' <;> simp [hu0, storeCells])) ⟨ρ, S, ?_, fun _ _ => rfl⟩
                simp only [h0]
                rw [splice_nil, updO_same hob]
                exact hr.value hd (rep_int _ _)
              · have hlt : (rows2.take (min rows2.length n)).length = min rows2.length n := by simp
                obtain ⟨g, w', rfl, hpc, hst, hrel⟩ := write_rows (P := P) hr hd hob hρ hflat3 (p := lo) (by rw [hlt]; omega) h0 (v := .int .i64 (min rows2.length n : Nat)) (out := .cs false [.d (.v (.int .i64 (min rows2.length n : Nat)))]) (fun _ => rep_int _ _)
                have hA' := hA (by omega)
                refine wp_value (hrunO w' (by subst hA'; simp only [Option.map_some, add_lit]; exact hst)) ⟨ρ, S, hrel, fun _ _ => rfl⟩
            · cases h
          · cases h
        · cases h
      · cases h
    · cases h
  · cases h

theorem flat_zeros {k : Nat} {zs : List D} {z : Value} (hzl : zs.length = k) (hz : All2 (Rep w S) zs z.cells.toList) (n : Nat) : Flat w S k (List.replicate n zs) (Builtin.zeroCells z.cells n).toList := by
  have hzsz : z.cells.size = k := by rw [← hzl, hz.len]; simp
  refine ⟨by simp [Builtin.zeroCells, hzsz], fun r hr => by rw [List.mem_replicate] at hr; rw [hr.2, hzl], fun i j r d hi hj => ?_⟩
  rw [List.getElem?_replicate] at hi
  split at hi
  · rename_i hil
    cases hi
    obtain ⟨u, hu, hru⟩ := hz.get hj
    refine ⟨u, ?_, hru⟩
    have hjk : j < k := by rw [← hzl]; exact (List.getElem?_eq_some_iff.1 hj).1
    have hidx := row_lt (k := k) hil hjk
    simp only [Builtin.zeroCells, Array.toList_map, List.getElem?_map, Array.toList_range, hzsz, List.getElem?_range hidx, Option.map_some]
    have hm : (i * k + j) % k = j := by rw [Nat.mul_comm, Nat.mul_add_mod, Nat.mod_eq_of_lt hjk]
    rw [hm]
    simp only [Array.getElem?_toList] at hu
    simp only [getElem!_def, hu]
  · cases hi

theorem allD_mono {ob ob' : Nat → Option AObj} (h : ∀ n x, ob n = some x → ob' n = some x) : ∀ {xs : List AV} {ds : List D}, (∀ x ∈ xs, avT x = []) → allD ob xs = some ds → allD ob' xs = some ds
  | [], _, _, h0 => h0
  | x :: xs, ds, hx, h0 => by
    simp only [allD] at h0 ⊢
    split at h0
    · rename_i d ds' h1 h2
      cases h0
      rw [allD_mono h (fun y hy => hx y (List.mem_cons_of_mem _ hy)) h2]
      have h3 : avD ob' x = some d := by
        have ht := hx x (List.mem_cons_self ..)
        cases x with
        | d y => exact h1
        | nils k => exact h1
        | clo f ks =>
          simp only [avD, Option.map_eq_some_iff] at h1 ⊢
          obtain ⟨ys, h4, h5⟩ := h1
          refine ⟨ys, ?_, h5⟩
          simp only [avT, List.flatMap_eq_nil_iff] at ht
          clear h5 hx h2
          induction ks generalizing ys with
          | nil => exact h4
          | cons q qs ih =>
            cases q with
            | ptr o off => exact absurd (ht _ (List.mem_cons_self ..)) (by simp [capT])
            | d y =>
              simp only [capsD, Option.map_eq_some_iff] at h4 ⊢
              obtain ⟨zs, h6, h7⟩ := h4
              exact ⟨zs, ih zs h6 (fun z hz => ht z (List.mem_cons_of_mem _ hz)), h7⟩
        | _ => simp [avT] at ht
      rw [h3]
    · cases h0

theorem zero_noT {xs : List AV} {us : List Value} (h : All2 zeroRep xs us) : ∀ x ∈ xs, avT x = [] := by
  induction h with
  | nil => simp
  | @cons x u xs us h _ ih =>
    intro y hy
    rcases List.mem_cons.1 hy with rfl | hy
    · cases y with
      | nils k => rfl
      | d z => rfl
      | _ => exact h.elim
    · exact ih y hy

theorem sound_appendX (hΓ : CtxOk P Γ) (hr : Rel c nt env ob ρ S a w) (hf : ∀ n, N ≤ n → n < N + 8 → ρ n = none) (hd : dstOk nt o.dst = true) {cl : Call} (ho : o.op = .call cl) (hb : cl.callee = .builtin .append) (h : aopX Γ N (aval Γ env) ob o = some r) : Goes P c nt N env ob ρ a w o r := by
  simp only [aopX, ho, hb] at h
  split at h
  · rename_i s x t t2 ex et
    have hargs : cl.args.map a.eval = #[a.eval s, a.eval x] := by apply Array.ext'; simp [ex]
    have htys : cl.argTypes = #[t, t2] := by apply Array.ext'; simp [et]
    split at h
    · rename_i oo k lo n es
      have h1 := av_rep (eval_rep (Γ := Γ) hr t s) es
      unfold appendX at h
      split at h
      · rename_i e he
        have hund := und_elem hΓ he
        split at h
        · rename_i ti hti
          obtain ⟨i, z, hrunI, hi, hisz, hby, hz, hzr⟩ := run_typeInfo' hΓ hti w
          split at h
          · rename_i k2 rows2 tx k3 ety rows hnew hob
            split at h
            · rename_i hc
              obtain ⟨rfl, rfl, hk, hzl, hk0, rfl, hfit, h63, hbytes⟩ := hc
              have hzs : z.cells.size = k := by
                have h3 := hzr.len
                rw [hk, ← hzl, h3]; simp
              rw [← hby] at hbytes
              have hrunO : ∀ v w', (Builtin.append_ #[t, t2] o.type #[a.eval s, a.eval x]).run P w = .ok v w' → (execOp a.eval o).run P w = .ok (.value v) w' := fun v w' hh => by
                simp [execOp, ho, resolve, hb, invoke, builtin, hargs, htys, hh]
              obtain ⟨A, cc, A', hρ, hus0, hA⟩ := h1
              obtain ⟨rfl, _, _⟩ := rows_own hr hob hρ
              have hsrcO : rowsOf ob (.wx oo k lo n) = some (k, (rows.drop lo).take n, [oo]) := by simp only [rowsOf, hob]; rw [if_pos ⟨trivial, hfit⟩]
              obtain ⟨A1, c1, us, hus, _, hflat, hcell⟩ := rows_src hr hsrcO ⟨A, _, A', hρ, hus0, hA⟩
              have hwl : ((rows.drop lo).take n).length = n := by simp; omega
              rw [hwl] at hus
              have hA1 : A1 = A' ∧ c1 = rows.length - lo := by rw [hus0] at hus; cases hus; exact ⟨rfl, rfl⟩
              obtain ⟨rfl, rfl⟩ := hA1
              have hold : (Builtin.firstCells i.size n (.slice A1 n (rows.length - lo))).run P w.drew = .ok us.toArray w.drew := by
                rw [hisz, ← hk]; exact run_first (by rw [hflat.len, hwl]) hcell
              split at h
              · rename_i hroom
                split at h
                · rename_i htt
                  subst htt
                  cases h
                  simp only [newRows, if_true] at hnew
                  split at hnew
                  · rename_i vx exx
                    have h2 := one_rep (eval_rep (Γ := Γ) hr t x) exx
                    obtain ⟨A2, c2, us2, hux, _, hflat2, hcell2⟩ := rows_src hr hnew h2
                    have hnw : (Builtin.firstCells i.size rows2.length (.slice A2 rows2.length c2)).run P w = .ok us2.toArray w := by
                      rw [hisz, ← hk]; exact run_first hflat2.len hcell2
                    intro Q
                    by_cases h0 : rows2 = []
                    · subst h0
                      have hu2 : us2 = [] := List.length_eq_zero_iff.1 (by simpa using hflat2.len)
                      subst hu2
                      have hrun := run_app_room (P := P) (w := w) (w' := w) t o.type ety i hund hi (A := A1) (n := n) (cc := rows.length - lo) hnw (by simp at hroom ⊢; omega) (by cases A1 <;> simp [storeCells])
                      refine wp_value (hrunO _ _ (by rw [hus0, hux]; exact hrun)) ⟨ρ, S, ?_, fun _ _ => rfl⟩
                      rw [splice_nil, updO_same hob]
                      exact hr.value hd ⟨_, rfl, A, _, A1, hρ, by simp, hA⟩
                    · obtain ⟨g, w', rfl, hpc, hst, hrel⟩ := write_rows (P := P) hr hd hob hρ hflat2 hroom h0 (v := .slice A1 (n + rows2.length) (rows.length - lo)) (out := .cs false [.wx oo k lo (n + rows2.length)]) (fun w' => ⟨_, rfl, _, _, A1, hρ, rfl, hA⟩)
                      have hA' := hA (by omega)
                      have hrun := run_app_room (P := P) (w := w) (w' := w') t o.type ety i hund hi (A := A1) (n := n) (cc := rows.length - lo) hnw (by omega) (by
                        subst hA'
                        simp only [Option.map_some, add_lit]
                        rw [hisz, ← hk, add_lit', ← Nat.add_mul]
                        exact hst)
                      exact wp_value (hrunO _ _ (by rw [hus0, hux]; exact hrun)) ⟨ρ, S, hrel, fun _ _ => rfl⟩
                  · cases hnew
                · cases h
              · rename_i hroom
                cases h
                have hgc : rows.length - lo < n + rows2.length := by omega
                have hge := grownCap_ge w (n + rows2.length) (rows.length - lo) ety
                have hcm := grownCap_le_maxLen w (n + rows2.length) (rows.length - lo) ety (by simp only [maxLen]; omega)
                obtain ⟨C, hC⟩ : ∃ C, C = grownCap w (n + rows2.length) (rows.length - lo) ety := ⟨_, rfl⟩
                have hgo : ∃ us2 : List Value, Flat w S k rows2 us2 ∧ (Builtin.append_ #[t, t2] o.type #[a.eval s, a.eval x]).run P w = .ok (.slice (some ⟨w.heap.size, 0, none⟩) (n + rows2.length) C) (w.drew.alloc (.cells (us.toArray ++ us2.toArray ++ Builtin.zeroCells z.cells (C - (n + rows2.length))) ety)) := by
                  unfold newRows at hnew
                  split at hnew
                  · rename_i htt
                    subst htt
                    split at hnew
                    · rename_i vx exx
                      have h2 := one_rep (eval_rep (Γ := Γ) hr t x) exx
                      obtain ⟨A2, c2, us2, hux, _, hflat2, hcell2⟩ := rows_src hr hnew h2
                      have hnw : (Builtin.firstCells i.size rows2.length (.slice A2 rows2.length c2)).run P w.drew = .ok us2.toArray w.drew := by
                        rw [hisz, ← hk]; exact run_first hflat2.len hcell2
                      refine ⟨us2, hflat2, ?_⟩
                      rw [hus0, hux, hC]
                      exact run_app_grow (P := P) (w := w) t o.type ety i z hund hi hz hold hnw hgc h63 hbytes
                    · cases hnew
                  · split at hnew
                    · rename_i ti2 hti2
                      split at hnew
                      · rename_i m zs hint ev hzsD
                        split at hnew
                        · rename_i hm
                          obtain ⟨hm0, hm1, hzl2⟩ := hm
                          obtain ⟨m, rfl⟩ : ∃ m' : Nat, m = m' := ⟨m.toNat, by omega⟩
                          cases hnew
                          have hux := v_rep (by have := eval_rep (Γ := Γ) hr t2 x; rw [ev] at this; exact this)
                          obtain ⟨kn, hkn⟩ : ∃ kn, P.underlying t2 = some (.int kn) := by
                            have hdd := (hΓ.ty t2 ti2 hti2).desc
                            unfold isInt at hint
                            split at hint
                            · rename_i kn hde; rw [hde] at hdd; exact ⟨kn, hdd⟩
                            · cases hint
                          have hzsO : allD ob ti.zero = some zs := allD_mono (fun _ _ h => by cases h) (zero_noT hzr) hzsD
                          have hzrep := allD_rep hr hzsO (zero_rep (ρ := ρ) (w := w) (S := S) hzr)
                          have hfz := flat_zeros (n := m) (by rw [hzl2, ← hk]) hzrep
                          simp only [List.length_replicate, Int.toNat_natCast] at hgc h63 hbytes hC ⊢
                          refine ⟨_, hfz, ?_⟩
                          rw [hus0, hux, hC]
                          have hfits := growslice_fits (bytes := i.bytes) hgc (by rw [hby] at hbytes ⊢; exact hbytes)
                          have := Lib.run_append_grow_zeros (P := P) w t t2 o.type ety i z .i64 kn hund hkn hi hz A1 n (rows.length - lo) us hold m (by omega) (by rw [hisz, ← hk]; exact hk0) hgc (by omega) (by have : m * i.bytes ≤ (n + m) * i.bytes := Nat.mul_le_mul_right _ (by omega); omega) (by omega)
                          simpa using this
                        · cases hnew
                      · cases hnew
                    · cases hnew
                obtain ⟨us2, hflat2, hrun⟩ := hgo
                rw [← hC] at hge hcm
                have hflat3 := hflat.append hflat2
                have hl := hflat.len
                rw [hwl] at hl
                have hl2 := hflat2.len
                have hkS : ∀ X, Keeps S w (w.drew.alloc X) := fun X b hbS => RowKit.Below.heap_alloc w.drew X b (hr.lim b hbS)
                have hC0 : C ≠ 0 := by omega
                have hrl : ((rows.drop lo).take n ++ rows2).length = n + rows2.length := by rw [List.length_append, hwl]
                intro Q
                obtain ⟨ρ', e2, hrel⟩ := hr.replace (N := N) (ts := []) (x := .row k ety ((rows.drop lo).take n ++ rows2) true) (h := .slice (some ⟨w.heap.size, 0, none⟩) (n + rows2.length) C) (v := .slice (some ⟨w.heap.size, 0, none⟩) (n + rows2.length) C) (out := .cs false [.own N])
                  (w' := w.drew.alloc (.cells (us.toArray ++ us2.toArray ++ Builtin.zeroCells z.cells (C - (n + rows2.length))) ety)) hd (hf N (by omega) (by omega)) (hkS _) rfl rfl rfl (by simp)
                  (fun b hb1 _ => RowKit.Below.heap_alloc w.drew _ b (by have := hr.hsize; show b < w.heap.size; omega))
                  (fun ρ' _ gg => ⟨hflat3.rowLen, .inr ⟨w.heap.size, C, by omega, by rw [hrl], ⟨by rw [hrl]; exact hge, hcm, hk0, _, heap_alloc_new w.drew _, by
                      simp only [Array.size_append, List.size_toArray, size_zeroCells, hzs, hl, hl2, ← Nat.add_mul]
                      congr 1
                      omega, fun u hu => by
                        simp only [Array.toList_append, List.mem_append] at hu
                        rcases hu with (hu | hu) | hu
                        · obtain ⟨d, hd⟩ := flat_rep hflat u hu; exact ⟨d, hd.mono gg.sub gg.keeps⟩
                        · obtain ⟨d, hd⟩ := flat_rep hflat2 u hu; exact ⟨d, hd.mono gg.sub gg.keeps⟩
                        · exact zeroCells_rep (zero_spare hzr) (by omega) _ u hu, fun i' j' rr d hi' hj' => by
                    obtain ⟨u, hu, hru⟩ := hflat3.pref (more := (Builtin.zeroCells z.cells (C - (n + rows2.length))).toList) i' j' rr d hi' hj'
                    refine ⟨u, ?_, hru.mono gg.sub gg.keeps⟩
                    rw [← hu, ← Array.getElem?_toList]
                    simp⟩, fun _ hs => absurd (hr.lim _ hs) (by omega), fun hh => by cases hh⟩⟩)
                  (fun b hbb => by
                    simp [blkOf, hC0] at hbb
                    subst hbb
                    exact ⟨.inl (by have := hr.hsize; omega), fun o2 x2 h2 hx2 hn2 hh2 hb2 => absurd (blk_lt hr hx2 hh2 hb2) (by omega)⟩)
                  (fun o2 x2 h2 b hx2 hn2 hh2 hb2 => RowKit.Below.heap_alloc w.drew _ b (blk_lt hr hx2 hh2 hb2))
                  (fun ρ' e1 => ⟨_, rfl, e1, _, _, _, rfl⟩)
                exact wp_value (hrunO _ _ hrun) ⟨ρ', S, hrel, fun n hn => e2 n (by omega)⟩
            · cases h
          · cases h
        · cases h
      · cases h
    · cases h
  · cases h

theorem sound_ext (hΓ : CtxOk P Γ) (hr : Rel c nt env ob ρ S a w) (hd : dstOk nt o.dst = true) {cl : Call} {f : FuncId} (ho : o.op = .call cl) (hb : cl.callee = .value (.func f)) (h : aopX Γ N (aval Γ env) ob o = some r) : Goes P c nt N env ob ρ a w o r := by
  simp only [aopX, ho, hb] at h
  split at h
  · rename_i e xs he hxs
    obtain ⟨fn, q1, q2, q3, q4, q5⟩ := hΓ.ext f e he
    have hones := ones_rep hr hxs
    have hrunO : ∀ v, (e.sem (cl.args.map a.eval)).run P w = .ok v w → (execOp a.eval o).run P w = .ok (.value v) w := fun v hh => by
      have h1 := run_callFunc_extern q1 q2 q3 q4 q5 (cl.args.map a.eval) w
      rw [hh] at h1
      simp only [Result.andThen_ok] at h1
      simp [execOp, ho, resolve, hb, Act.eval, Deferred.ofValue, invoke, h1]
    have hargs : ∀ us : List Value, cl.args.toList.map a.eval = us → cl.args.map a.eval = us.toArray := fun us hu => by
      apply Array.ext'; simp [← hu]
    generalize hus : cl.args.toList.map a.eval = us at hones
    have hargs := hargs us hus
    rw [hargs] at hrunO
    unfold extA at h
    split at h
    · rename_i t t' o1 o2 k lo n
      cases hones with
      | cons h1 h2 =>
      cases h2 with
      | cons h2 h3 =>
      cases h3
      obtain ⟨hρ1, A1, n1, c1, rfl⟩ := h1
      obtain ⟨A2, c2, A2', hρ2, rfl, hA2⟩ := h2
      unfold overA at h
      split at h
      · rename_i e' hel
        have hund := und_elem hΓ hel
        split at h
        · rename_i sz k1 e1 rows1 l1 k2 e2 rows2 l2 hsz hob1 hob2
          split at h
          · rename_i hne
            obtain ⟨hne, hlon⟩ := hne
            cases h
            refine goes_value hr hd (v := .bool false) (hrunO _ ?_) (rep_bool _)
            show (Extern.SlicesOverlaps.overlaps #[t, t] #[t'] #[.slice A1 n1 c1, .slice A2' n (c2 - lo)]).run P w = _
            have triv : n1 = 0 ∨ n = 0 ∨ A1 = none ∨ A2' = none → (Extern.SlicesOverlaps.overlaps #[t, t] #[t'] #[.slice A1 n1 c1, .slice A2' n (c2 - lo)]).run P w = .ok (.bool false) w := fun h0 => by
              change Sem.run P (α := Value) (do
                let some t := (#[t, t] : Array TypeId)[0]? | stuck "slices.overlaps: no parameter types"
                let .slice elem ← underlying t | stuck "slices.overlaps: slice type expected"
                let size ← sizeOf elem
                match A1, A2' with
                | some a, some b =>
                  if n1 = 0 ∨ n = 0 ∨ size = 0 then pure (Value.bool false)
                  else if a.block != b.block && (← frozen a) && (← frozen b) then unsupported .addressObserved
                  else do
                    if a.block != b.block then do
                      noView a; noView b
                      if ← mayBeOne a b then return Value.bool ((← choose (.extern "sameAddr.stringBytes" 2)) == 1)
                    pure (Value.bool (a.block == b.block && a.off < b.off + n * size && b.off < a.off + n1 * size))
                | _, _ => pure (Value.bool false)) w = _
              rcases h0 with rfl | rfl | rfl | rfl
              · cases A1 <;> cases A2' <;> simp [run_underlying hund, run_sizeOf' hΓ hsz]
              · cases A1 <;> cases A2' <;> simp [run_underlying hund, run_sizeOf' hΓ hsz]
              · cases A2' <;> simp [run_underlying hund, run_sizeOf' hΓ hsz]
              · cases A1 <;> simp [run_underlying hund, run_sizeOf' hΓ hsz]
            by_cases h0 : n1 = 0 ∨ n = 0 ∨ A1 = none ∨ A2' = none
            · exact triv h0
            · have hn1 : n1 ≠ 0 := fun e => h0 (.inl e)
              have hnn : n ≠ 0 := fun e => h0 (.inr (.inl e))
              obtain ⟨rfl, hle1, _⟩ := rows_own hr hob1 hρ1
              obtain ⟨hh1, g1, g2⟩ := hr.obj o1 _ hob1
              rw [hρ1] at g1; cases g1
              obtain ⟨_, g3⟩ := g2
              obtain ⟨hh2, g4, g5⟩ := hr.obj o2 _ hob2
              rw [hρ2] at g4; cases g4
              obtain ⟨_, g6⟩ := g5
              rcases g3 with ⟨rfl, _⟩ | ⟨b1, d1, p1, e3, ⟨_, _, _, cur1, r4, r5, _, _⟩, _⟩
              · exact absurd rfl hn1
              · cases e3
                rcases g6 with ⟨rfl, A3, e4⟩ | ⟨b2, d2, p2, e4, ⟨_, _, r3', cur2, r4', r5', _, _⟩, _⟩
                · simp only [List.length_nil] at hlon; omega
                · cases e4
                  have hlc : lo < rows2.length := by omega
                  have hA2' := hA2 hlc
                  subst hA2'
                  have hbk1 : blkOf (.slice (some ⟨b1, 0, none⟩) rows1.length c1) = some b1 := by simp [blkOf]; omega
                  have hbk2 : blkOf (.slice (some ⟨b2, 0, none⟩) rows2.length rows2.length) = some b2 := by simp only [blkOf]; rw [if_neg (by omega)]
                  have hb12 : b1 ≠ b2 := fun e => hne (hr.sep _ _ _ _ _ _ b1 hob1 hob2 hρ1 hρ2 hbk1 (by rw [hbk2, e]))
                  simp only [Option.map_some, add_lit]
                  refine Lib.run_overlaps_apart w t t' e' hund sz (fun w => run_sizeOf' hΓ hsz w) ⟨b1, 0, none⟩ ⟨b2, lo * k, none⟩ _ _ _ _ hb12 e1 e2 cur1.size cur2.size (by simp [World.shape?, r4]) (by simp [World.shape?, r4']) ?_ (frozen_of_row w b1 _ _ _ r4) (frozen_of_row w b1 _ _ _ r4)
                  rw [r5']
                  exact Nat.mul_ne_zero (by omega) (by omega)
          · cases h
        · cases h
      · cases h
    · simp only [Option.map_eq_some_iff] at h
      obtain ⟨q, hq, rfl⟩ := h
      unfold extS at hq
      split at hq
      · cases hones with
        | cons h1 h2 =>
        cases h2 with
        | cons h2 h3 =>
        cases h3
        have e1 := v_rep (ρ := ρ) (w := w) (S := S) ⟨_, rfl, h1⟩
        have e2 := v_rep (ρ := ρ) (w := w) (S := S) ⟨_, rfl, h2⟩
        subst e1; subst e2
        cases hq
        exact goes_value hr hd (hrunO _ (by simp only [Ext.sem]; exact Lib.run_compareString _ _ w)) (rep_int _ _)
      · cases hones with
        | cons h1 h2 =>
        cases h2 with
        | cons h2 h3 =>
        cases h3
        have e1 := v_rep (ρ := ρ) (w := w) (S := S) ⟨_, rfl, h1⟩
        have e2 := v_rep (ρ := ρ) (w := w) (S := S) ⟨_, rfl, h2⟩
        subst e1; subst e2
        cases hq
        exact goes_value hr hd (hrunO _ (by simp only [Ext.sem]; exact Lib.run_countString _ _ w)) (rep_int _ _)
      · cases hones with
        | cons h1 h2 =>
        cases h2 with
        | cons h2 h3 =>
        cases h3
        have e1 := v_rep (ρ := ρ) (w := w) (S := S) ⟨_, rfl, h1⟩
        have e2 := v_rep (ρ := ρ) (w := w) (S := S) ⟨_, rfl, h2⟩
        subst e1; subst e2
        cases hq
        exact goes_value hr hd (hrunO _ (by simp only [Ext.sem]; exact Lib.run_indexByteString _ _ w)) (rep_int _ _)
      · cases hq
  · cases h

end
end Go.Eng
