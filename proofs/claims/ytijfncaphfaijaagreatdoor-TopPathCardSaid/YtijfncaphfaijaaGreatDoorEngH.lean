/- Soundness: comparisons, fields, indexes, what is read out of memory. Soundness: variables and rows of the call's own, loads, stores, addresses. Soundness: aggregates, stores, slices, functions made. Soundness: lengths, slices of slices, functions made, append. -/
import Derived.Test.YtijfncaphfaijaaGreatDoorEngD
namespace Go.Eng

section
variable {P : Program} {Γ : Ctx} {c : Base} {nt : Nat} {env : Nat → AT} {ob : Nat → Option AObj} {ρ : Where} {S : Nat → Prop} {a : Act} {w : World}
variable {N : Nat} {o : Oper} {r : AOut}

theorem run_part (hΓ : CtxOk P Γ) {t : TypeId} {cs : List AV} {us : List Value} {off : Nat} {out : AT} (hcs : All2 (RepAV ρ w S) cs us) (h : partA Γ t cs off = some out) :
    ∃ v, (part t us.toArray off).run P w = .ok v w ∧ RepT ρ w S out v := by
  unfold partA at h
  split at h
  · rename_i k ha hk
    split at h
    · rename_i hle
      cases h
      have hl := hcs.len
      refine ⟨.agg ((us.drop off).take k).toArray, ?_, ⟨_, rfl, (hcs.drop off).take k⟩⟩
      simp [part, run_isAgg' hΓ ha, run_sizeOf' hΓ hk]
    · cases h
  · rename_i k ha hk
    split at h
    · rename_i x hx
      cases h
      obtain ⟨u, hu, hru⟩ := hcs.get hx
      refine ⟨u, ?_, ⟨x, rfl, hru⟩⟩
      simp [part, run_isAgg' hΓ ha, hu]
    · cases h
  · cases h

theorem kind_run (hΓ : CtxOk P Γ) {t : TypeId} {x y : Value} {b : Bool} (hx : kindFits Γ t x = true) (hy : kindFits Γ t y = true) (h : valEq x y = some b) (d : Nat) (w : World) :
    (Op.equalIn (d + 1) t x y).run P w = .ok b w := by
  unfold kindFits at hx hy
  split at hx
  · rename_i ti hti
    have hd := (hΓ.ty t ti hti).desc
    simp only [hti] at hy
    split at hx
    · rename_i k0 k n hdd
      rw [hdd] at hd hy
      have hk' : P.underlying t = some (.int k0) := hd
      cases y with
      | int k2 n2 =>
        simp only [valEq] at h
        split at h
        · rename_i hkk
          subst hkk
          cases h
          exact run_equalIn_int w d t _ _ _ _ hk'
        · cases h
      | _ => cases hy
    · rename_i p hdd
      rw [hdd] at hd hy
      split at hy <;> first | cases hy | skip
      all_goals first | (simp_all; done) | skip
      simp only [valEq, Option.some.injEq] at h
      subst h
      exact run_equalIn_bool' w d t _ _ hd
    · rename_i s hdd
      rw [hdd] at hd hy
      split at hy <;> first | cases hy | skip
      all_goals first | (simp_all; done) | skip
      simp only [valEq, Option.some.injEq] at h
      subst h
      exact run_equalIn_string w d t _ _ hd
    · cases hx
  · cases hx

theorem part_scal (hΓ : CtxOk P Γ) {t : TypeId} {x : Value} (hx : kindFits Γ t x = true) {us : Array Value} {i : Nat} (hu : us[i]? = some x) (w : World) : (part t us i).run P w = .ok x w := by
  have ha : Γ.agg t = some false := by
    unfold kindFits at hx
    unfold Ctx.agg
    split at hx
    · rename_i ti hti
      cases hdd : ti.desc <;> simp [hdd] at hx ⊢
    · cases hx
  simp [part, run_isAgg' hΓ ha, hu]

theorem eqFields_run (hΓ : CtxOk P Γ) (d : Nat) (us vs : Array Value) : ∀ (flds : List Field) (i : Nat) (xs ys : List AV) (b : Bool), (∀ f ∈ flds, f.name ≠ "_") →
    flatScal Γ i (flds.map fun f => (f.offset, f.type)) = true → cellsEq Γ (flds.map fun f => (f.offset, f.type)) xs ys = some b →
    All2 (RepAV ρ w S) xs (us.toList.drop i) → All2 (RepAV ρ w S) ys (vs.toList.drop i) → (Op.eqFields (d + 1) us vs flds).run P w = .ok b w
  | [], i, xs, ys, b, _, _, h, _, _ => by
    cases xs <;> cases ys <;> simp [cellsEq] at h
    subst h
    simp [Op.eqFields]
  | f :: flds, i, xs, ys, b, hn, hf, h, hx, hy => by
    simp only [List.map_cons, flatScal, Bool.and_eq_true, beq_iff_eq] at hf
    obtain ⟨⟨hoff, _⟩, hf⟩ := hf
    cases xs with
    | nil => simp [cellsEq] at h
    | cons x xs =>
      cases ys with
      | nil => simp [cellsEq] at h
      | cons y ys =>
        cases x with
        | d x =>
          cases x with
          | v x =>
            cases y with
            | d y =>
              cases y with
              | v y =>
                simp only [List.map_cons, cellsEq] at h
                split at h
                · rename_i hk
                  simp only [Bool.and_eq_true] at hk
                  split at h
                  · rename_i e r' he hr'
                    cases h
                    have hxi : us[i]? = some x := by
                      obtain ⟨u, hu, hru⟩ := hx.get (i := 0) rfl
                      cases hru
                      simpa using hu
                    have hyi : vs[i]? = some y := by
                      obtain ⟨u, hu, hru⟩ := hy.get (i := 0) rfl
                      cases hru
                      simpa using hu
                    have hx' : All2 (RepAV ρ w S) xs (us.toList.drop (i + 1)) := by simpa using hx.drop 1
                    have hy' : All2 (RepAV ρ w S) ys (vs.toList.drop (i + 1)) := by simpa using hy.drop 1
                    have ih := eqFields_run hΓ d us vs flds (i + 1) xs ys r' (fun f hf => hn f (List.mem_cons_of_mem _ hf)) hf hr' hx' hy'
                    have hname := hn f (List.mem_cons_self ..)
                    simp only [Op.eqFields, hname, ne_eq, not_false_eq_true, if_true, Sem.run_bind, hoff, part_scal hΓ hk.1 hxi, part_scal hΓ hk.2 hyi, Result.andThen_ok, kind_run hΓ hk.1 hk.2 he, Sem.run_ite, ih]
                    cases e <;> simp
                  · cases h
                · cases h
              | _ => simp [cellsEq] at h
            | _ => simp [cellsEq] at h
          | _ => simp [cellsEq] at h
        | _ => simp [cellsEq] at h

theorem pt_val0 {cc : List D} {u : Value} (h : Rep w S (.pt cc) u) : ∃ ad, u = .pointer (some ad) := by
  cases h; exact ⟨_, rfl⟩

theorem sound_binOp (hΓ : CtxOk P Γ) (hr : Rel c nt env ob ρ S a w) (hd : dstOk nt o.dst = true) {op : BinOp} {t t2 : TypeId} {x y : Operand} (ho : o.op = .binOp op t x y t2) (h : aop0 Γ N (aval Γ env) ob o = some r) : Goes P c nt N env ob ρ a w o r := by
  simp only [aop0, ho, Option.map_eq_some_iff] at h
  obtain ⟨out, h, rfl⟩ := h
  have hx := eval_rep (Γ := Γ) hr t x
  have hy := eval_rep (Γ := Γ) hr t y
  unfold binA at h
  split at h
  · rename_i p eu ev
    rw [eu] at hx; rw [ev] at hy
    obtain ⟨_, he, hp⟩ := hx
    cases he
    have hv := v_rep hy
    unfold ptrNil at h
    split at h
    · rename_i b hb hdesc
      obtain ⟨ti, hti, hde⟩ : ∃ ti, Γ.ty t = some ti ∧ ti.desc = .ptr := by
        cases hti : Γ.ty t with
        | none => rw [hti] at hdesc; cases hdesc
        | some ti => rw [hti] at hdesc; exact ⟨ti, rfl, hdesc⟩
      have hdd := (hΓ.ty t ti hti).desc
      rw [hde] at hdd
      have hund : P.underlying t = some (.pointer (P.pointee t)) := hdd
      obtain ⟨q, hq, hqb⟩ : ∃ q, a.eval x = .pointer q ∧ q.isNone = !b := by
        unfold isPtr at hb
        split at hb <;> first | cases hb
        · obtain ⟨g, _, e⟩ := hp; exact ⟨_, e, rfl⟩
        · obtain ⟨g, _, _, _, e⟩ := hp; exact ⟨_, e, rfl⟩
        · obtain ⟨ad, e⟩ := pt_val0 hp; exact ⟨_, e, rfl⟩
        · exact ⟨none, v_rep ⟨_, rfl, hp⟩, rfl⟩
      split at h
      · cases h
        refine goes_value hr hd (v := .bool (!b)) ?_ (rep_bool _)
        have he : ∀ w, (Op.equal t (.pointer q) (.pointer none)).run P w = .ok (!b) w := fun w => by rw [← hqb]; exact run_equal_pointer_nil w t q hund
        simp [execOp, ho, hq, hv, eqGuard_at_pointer, binOp, he]
      · cases h
        refine goes_value hr hd (v := .bool b) ?_ (rep_bool _)
        have he : ∀ w, (Op.equal t (.pointer q) (.pointer none)).run P w = .ok (!b) w := fun w => by rw [← hqb]; exact run_equal_pointer_nil w t q hund
        simp [execOp, ho, hq, hv, eqGuard_at_pointer, binOp, he]
      · cases h
    · cases h
  · rename_i u v hno eu ev
    rw [eu] at hx; rw [ev] at hy
    have hu := v_rep hx
    have hv := v_rep hy
    split at h
    · rename_i p q
      split at h
      · rename_i ti hti
        have hdd := (hΓ.ty t ti hti).desc
        split at h
        · rename_i hde
          rw [hde] at hdd
          cases h
          refine goes_value hr hd (v := .bool (p == q)) ?_ (rep_bool _)
          have he : ∀ w, (Op.equal t (.bool p) (.bool q)).run P w = .ok (p == q) w := fun w => by
            simp only [Op.equal, Op.maxDepth]; exact run_equalIn_bool' w 9999 t p q hdd
          simp [execOp, ho, hu, hv, eqGuard_at_bool, binOp, he]
        · cases h
      · rename_i ti hti
        have hdd := (hΓ.ty t ti hti).desc
        split at h
        · rename_i hde
          rw [hde] at hdd
          cases h
          refine goes_value hr hd (v := .bool (!(p == q))) ?_ (rep_bool _)
          have he : ∀ w, (Op.equal t (.bool p) (.bool q)).run P w = .ok (p == q) w := fun w => by
            simp only [Op.equal, Op.maxDepth]; exact run_equalIn_bool' w 9999 t p q hdd
          simp [execOp, ho, hu, hv, eqGuard_at_bool, binOp, he]
        · cases h
      · cases h
    · simp only [Option.map_eq_some_iff] at h
      obtain ⟨z, hz, rfl⟩ := h
      have h2 := scal2_run (P := P) (w := w) (t := t) (x := x) (y := y) hz
      refine goes_value hr hd (v := z) ?_ ⟨_, rfl, .v _ h2.1⟩
      have h3 := h2.2
      simp only [Sem.run_bind] at h3
      simp only [execOp, ho, hu, hv, Sem.run_bind, h3, Result.andThen_ok, Sem.run_pure]
  · rename_i xs ys eu ev
    rw [eu] at hx; rw [ev] at hy
    obtain ⟨us, hu, hus⟩ := hx
    obtain ⟨vs, hv, hvs⟩ := hy
    split at h
    · rename_i fs hfs
      split at h
      · rename_i hflat
        obtain ⟨flds, hund, rfl, hn, hg, hsi, _⟩ := und_fields hΓ hfs
        have hfo : P.fieldsOf t = flds := by simp [Program.fieldsOf, hund]
        have hund' : P.underlying t = some (.struct (P.fieldsOf t)) := by rw [hfo]; exact hund
        have key : ∀ b, cellsEq Γ (flds.toList.map fun f => (f.offset, f.type)) xs ys = some b → (Op.equalIn 10000 t (.agg us.toArray) (.agg vs.toArray)).run P w = .ok b w := fun b hb => by
          rw [run_equalIn_agg w 9999 t us.toArray vs.toArray hund' hsi, hfo]
          exact eqFields_run (ρ := ρ) (S := S) hΓ 9998 us.toArray vs.toArray flds.toList 0 xs ys b hn hflat hb (by simpa using hus) (by simpa using hvs)
        split at h
        · rename_i b hb
          cases h
          refine goes_value hr hd (v := .bool b) ?_ (rep_bool _)
          simp [execOp, ho, hu, hv, run_eqGuard_agg, hg, run_eql_struct, key b hb]
        · rename_i b hb
          cases h
          refine goes_value hr hd (v := .bool (!b)) ?_ (rep_bool _)
          simp [execOp, ho, hu, hv, run_eqGuard_agg, hg, run_neq_struct, key b hb]
        · cases h
      · cases h
    · cases h
  · cases h

theorem sound_extract (hr : Rel c nt env ob ρ S a w) (hd : dstOk nt o.dst = true) {x : Operand} {i : Nat} (ho : o.op = .extract x i) (h : aop0 Γ N (aval Γ env) ob o = some r) : Goes P c nt N env ob ρ a w o r := by
  simp only [aop0, ho] at h
  have hx := eval_rep (Γ := Γ) hr 0 x
  split at h
  · rename_i ts e
    rw [e] at hx
    obtain ⟨vs, hv, hvs⟩ := hx
    split at h
    · rename_i g xs hts
      cases h
      obtain ⟨u, hu, hru⟩ := hvs.get hts
      refine goes_value hr hd (v := u) ?_ hru
      simp [execOp, ho, hv, Instr.extract, hu]
    · cases h
  · cases h

theorem sound_field (hΓ : CtxOk P Γ) (hr : Rel c nt env ob ρ S a w) (hd : dstOk nt o.dst = true) {t : TypeId} {x : Operand} {i : Nat} (ho : o.op = .field t x i) (h : aop0 Γ N (aval Γ env) ob o = some r) : Goes P c nt N env ob ρ a w o r := by
  simp only [aop0, ho] at h
  have hx := eval_rep (Γ := Γ) hr t x
  split at h
  · rename_i cells fs e hfs
    rw [e] at hx
    obtain ⟨us, hu, hus⟩ := hx
    obtain ⟨flds, hund, rfl, _⟩ := und_fields hΓ hfs
    split at h
    · rename_i off ft hi
      simp only [Option.map_eq_some_iff] at h
      obtain ⟨out, hout, rfl⟩ := h
      obtain ⟨v, hv, hrv⟩ := run_part hΓ hus hout
      refine goes_value hr hd (v := v) ?_ hrv
      simp only [List.getElem?_map, Option.map_eq_some_iff] at hi
      obtain ⟨f, hf, hfe⟩ := hi
      cases hfe
      have hf' : flds[i]? = some f := by simpa using hf
      simp [execOp, ho, hu, Instr.field, run_underlying hund, hf', asAgg, hv]
    · cases h
  · cases h

theorem pt_val {cc : List D} {u : Value} (h : Rep w S (.pt cc) u) : ∃ ad, u = .pointer (some ad) := by
  cases h; exact ⟨_, rfl⟩

theorem fn_val {f : FuncId} {cc : List D} {u : Value} (h : Rep w S (.fn f cc) u) : ∃ vs : Array Value, u = .func (.func f) #[] vs ∧ vs.size = cc.length ∧ ∀ (j : Nat) (d : D) (x : Value), cc[j]? = some d → vs[j]? = some x → Rep w S d x := by
  cases h with
  | fn _ _ vs hl hrep => exact ⟨vs, rfl, hl, hrep⟩

theorem sound_nilCheck (hr : Rel c nt env ob ρ S a w) (hd : dstOk nt o.dst = true) {x : Operand} (ho : o.op = .nilCheck x) (h : aop0 Γ N (aval Γ env) ob o = some r) : Goes P c nt N env ob ρ a w o r := by
  simp only [aop0, ho] at h
  have hx := eval_rep (Γ := Γ) hr 0 x
  split at h <;> first | cases h | skip
  · rename_i p q e
    have h1 := one_rep hx e
    obtain ⟨g, hg, hu⟩ := h1
    exact goes_value hr hd (v := a.eval x) (by simp [execOp, ho, hu]) ⟨_, rfl, g, hg, hu⟩
  · rename_i p q k l e
    have h1 := one_rep hx e
    obtain ⟨g, n, cc, hg, hu⟩ := h1
    exact goes_value hr hd (v := a.eval x) (by simp [execOp, ho, hu]) ⟨_, rfl, g, n, cc, hg, hu⟩
  · rename_i cc e
    have h1 := one_rep hx e
    obtain ⟨ad, hu⟩ := pt_val h1
    exact goes_value hr hd (v := a.eval x) (by simp [execOp, ho, hu]) ⟨_, rfl, h1⟩
  · rename_i f cc e
    have h1 := one_rep hx e
    obtain ⟨vs, hu, _⟩ := fn_val h1
    exact goes_value hr hd (v := a.eval x) (by simp [execOp, ho, hu]) ⟨_, rfl, h1⟩

theorem sound_convert (hΓ : CtxOk P Γ) (hr : Rel c nt env ob ρ S a w) (hd : dstOk nt o.dst = true) {s t : TypeId} {x : Operand} (ho : o.op = .convert s t x) (h : aop0 Γ N (aval Γ env) ob o = some r) : Goes P c nt N env ob ρ a w o r := by
  simp only [aop0, ho] at h
  have hx := eval_rep (Γ := Γ) hr s x
  split at h
  · rename_i b si ti e hs ht
    rw [e] at hx
    have hu := v_rep hx
    split at h
    · rename_i d1 d2
      cases h
      have h1 := (hΓ.ty s si hs).desc
      have h2 := (hΓ.ty t ti ht).desc
      rw [d1] at h1; rw [d2] at h2
      refine goes_value hr hd (v := .string b) ?_ (rep_string _)
      simp [execOp, ho, hu, convert, run_underlying h1, run_underlying h2]
    · cases h
  · rename_i kk n si ti e hs ht
    rw [e] at hx
    have hu := v_rep hx
    split at h
    · rename_i k0 k d1 d2
      cases h
      have h1 := (hΓ.ty s si hs).desc
      have h2 := (hΓ.ty t ti ht).desc
      rw [d1] at h1; rw [d2] at h2
      refine goes_value hr hd (v := .int k (k.wrap n)) ?_ (rep_int _ _)
      simp [execOp, ho, hu, convert, run_underlying h1, run_underlying h2, Conv.intToInt]
    · cases h
  · cases h

theorem sound_index (hΓ : CtxOk P Γ) (hr : Rel c nt env ob ρ S a w) (hd : dstOk nt o.dst = true) {t : TypeId} {x i : Operand} (ho : o.op = .index t x i) (h : aop0 Γ N (aval Γ env) ob o = some r) : Goes P c nt N env ob ρ a w o r := by
  simp only [aop0, ho] at h
  have hx := eval_rep (Γ := Γ) hr t x
  have hi := eval_rep (Γ := Γ) hr 0 i
  split at h
  · rename_i b n ti e en ht
    rw [e] at hx
    have hu := v_rep hx
    obtain ⟨k, hi⟩ := int_rep hi en
    split at h
    · rename_i d1
      have h1 := (hΓ.ty t ti ht).desc
      rw [d1] at h1
      split at h
      · rename_i hn
        simp only [Option.map_eq_some_iff] at h
        obtain ⟨z, hz, rfl⟩ := h
        refine goes_value hr hd (v := .int .u8 z.toNat) ?_ (rep_int _ _)
        simp [execOp, ho, hu, hi, Instr.index, asIntOf, run_underlying h1, hn, hz]
      · cases h
    · cases h
  · cases h

theorem foldInts_run {k : IntKind} {g : Int → Int → Int} {m2 : Value → Value → Sem Value} (hm : ∀ x y w, (m2 (.int k x) (.int k y)).run P w = .ok (.int k (g x y)) w) :
    ∀ (ts : List AT) (us : List Value) (x n : Int), foldInts g k x ts = some n → All2 (RepT ρ w S) ts us → (us.foldlM m2 (.int k x)).run P w = .ok (.int k n) w
  | [], us, x, n, h, hu => by
    cases hu
    simp only [foldInts, Option.some.injEq] at h
    subst h
    simp
  | t :: ts, us, x, n, h, hu => by
    cases hu with
    | cons h1 h2 =>
      unfold foldInts at h
      split at h
      · simp at *
      · rename_i e
        cases e
        split at h
        · rename_i hk
          subst hk
          have := v_rep h1
          subst this
          simp only [List.foldlM_cons, Sem.run_bind, hm, Result.andThen_ok]
          exact foldInts_run hm ts _ _ n h h2
        · cases h
      · cases h

theorem evals_rep (hr : Rel c nt env ob ρ S a w) (t : TypeId) : ∀ xs : List Operand, All2 (RepT ρ w S) (xs.map (aval Γ env t)) (xs.map a.eval)
  | [] => .nil
  | x :: xs => .cons (eval_rep hr t x) (evals_rep hr t xs)

theorem sound_minmax (hr : Rel c nt env ob ρ S a w) (hd : dstOk nt o.dst = true) {cl : Call} (ho : o.op = .call cl) (hb : cl.callee = .builtin .max ∨ cl.callee = .builtin .min) (h : aop0 Γ N (aval Γ env) ob o = some r) : Goes P c nt N env ob ρ a w o r := by
  have he := evals_rep (Γ := Γ) hr o.type cl.args.toList
  have hargs : cl.args.map a.eval = (cl.args.toList.map a.eval).toArray := by
    apply Array.ext'; simp
  rcases hb with hb | hb
  all_goals
    simp only [aop0, ho, hb] at h
    split at h
    · rename_i k x rest e
      rw [e] at he
      simp only [Option.map_eq_some_iff] at h
      obtain ⟨n, hn, rfl⟩ := h
      cases hus : cl.args.toList.map a.eval with
      | nil => rw [hus] at he; cases he
      | cons u us =>
        rw [hus] at he
        cases he with
        | cons h1 h2 =>
          have := v_rep h1
          subst this
          refine goes_value hr hd (v := .int k n) ?_ (rep_int _ _)
          first
            | (have h3 := foldInts_run (P := P) (k := k) (m2 := Builtin.max2) (g := fun x y => if x < y then y else x) (fun x y w => by simp [Builtin.max2]) rest us x n hn h2
               simp [execOp, ho, resolve, hb, invoke, builtin, hargs, hus, Builtin.max_, h3]; done)
            | (have h3 := foldInts_run (P := P) (k := k) (m2 := Builtin.min2) (g := fun x y => if y < x then y else x) (fun x y w => by simp [Builtin.min2]) rest us x n hn h2
               simp [execOp, ho, resolve, hb, invoke, builtin, hargs, hus, Builtin.min_, h3]; done)
    · cases h

end
end Go.Eng
namespace Go.Eng

section
variable {P : Program} {Γ : Ctx} {c : Base} {nt : Nat} {env : Nat → AT} {ob : Nat → Option AObj} {ρ : Where} {S : Nat → Prop} {a : Act} {w : World}
variable {N : Nat} {o : Oper} {r : AOut}

theorem run_loadC (hΓ : CtxOk P Γ) {t : TypeId} {cells : List AV} {us : List Value} {ad : Addr} {out : AT} (hc : All2 (RepAV ρ w S) cells us)
    (hu : ∀ (j : Nat) (u : Value), us[j]? = some u → w.cell? (ad.add j) = some u) (h : loadC Γ t cells = some out) :
    ∃ v, (loadVar t ad).run P w = .ok v w ∧ RepT ρ w S out v := by
  unfold loadC at h
  split at h
  · rename_i k ha hk
    split at h
    · rename_i hle
      cases h
      have hl := hc.len
      have hrun := run_loadCells_list (P := P) w ad (us.take k) (fun j v hv => hu j v (by
        rw [List.getElem?_take] at hv
        split at hv
        · exact hv
        · cases hv))
      have hkl : (us.take k).length = k := by rw [List.length_take]; omega
      rw [hkl] at hrun
      refine ⟨.agg (us.take k).toArray, ?_, ⟨_, rfl, hc.take k⟩⟩
      simp only [loadVar, Sem.run_bind, run_isAgg' hΓ ha, Result.andThen_ok, if_true, run_sizeOf' hΓ hk, hrun, Sem.run_pure]
    · cases h
  · rename_i k ha hk
    split at h
    · rename_i x xs
      cases h
      obtain ⟨u, h1, h2⟩ := hc.get (i := 0) rfl
      refine ⟨u, ?_, ⟨x, rfl, h2⟩⟩
      have h3 := hu 0 u h1
      rw [add_zero] at h3
      simp [loadVar, run_isAgg' hΓ ha, h3]
    · cases h
  · cases h

/-- The cells behind a read-only pointer. -/
theorem pt_cells {cc : List D} {ad : Addr} (h : Rep w S (.pt cc) (.pointer (some ad))) : ∃ us : List Value, All2 (RepAV ρ w S) (cc.map .d) us ∧ ∀ (j : Nat) (u : Value), us[j]? = some u → w.cell? (ad.add j) = some u ∧ S ad.block := by
  cases h with
  | pt _ _ u hcell hrep =>
    refine ⟨(List.range cc.length).map u, All2.of_get (by simp) (fun i x y hx hy => ?_), fun j x hx => ?_⟩
    · simp only [List.getElem?_map, Option.map_eq_some_iff] at hx hy
      obtain ⟨d, hd, rfl⟩ := hx
      obtain ⟨m, hm, rfl⟩ := hy
      have hi : i < cc.length := (List.getElem?_eq_some_iff.1 hd).1
      rw [List.getElem?_range hi] at hm
      cases hm
      exact hrep i d hd
    · simp only [List.getElem?_map, Option.map_eq_some_iff] at hx
      obtain ⟨m, hm, rfl⟩ := hx
      have hj : j < cc.length := by
        have := (List.getElem?_eq_some_iff.1 hm).1
        simpa using this
      rw [List.getElem?_range hj] at hm
      cases hm
      exact ⟨(hcell j hj).2, (hcell j hj).1⟩

theorem pt_mk {cc : List D} {ad : Addr} {us : List Value} (h : All2 (RepAV ρ w S) (cc.map .d) us) (hu : ∀ (j : Nat) (u : Value), us[j]? = some u → w.cell? (ad.add j) = some u ∧ S ad.block) : Rep w S (.pt cc) (.pointer (some ad)) := by
  have hl : cc.length = us.length := by simpa using h.len
  refine .pt cc ad (fun j => us.getD j undef) (fun j hj => ?_) (fun j d hd => ?_)
  · have hj' : us[j]? = some (us[j]'(by omega)) := List.getElem?_eq_getElem (by omega)
    have := hu j _ hj'
    refine ⟨this.2, ?_⟩
    rw [this.1]
    simp [List.getD, hj']
  · obtain ⟨u, h1, h2⟩ := h.get (i := j) (x := .d d) (by simp [hd])
    simp only [List.getD, h1, Option.getD_some]
    exact h2

/-- The cells of one row of an own row, from place j on. -/
theorem row_cells {k : Nat} {ety : TypeId} {rows : List (List D)} {g cc : Nat} (hk : ∀ r ∈ rows, r.length = k) (h : RowBlk w S k ety rows g cc) {i j : Nat} {r : List D} (hi : rows[i]? = some r) :
    ∃ us : List Value, All2 (RepAV ρ w S) ((r.drop j).map .d) us ∧ ∀ (m : Nat) (u : Value), us[m]? = some u → w.cell? ((⟨g, i * k + j, none⟩ : Addr).add m) = some u := by
  obtain ⟨h1, h2, h3, cur, h4, h5, _, h6⟩ := h
  have hrl : r.length = k := hk r (List.mem_of_getElem? hi)
  have key : ∀ m, m < r.length → ∃ u, cur[i * k + m]? = some u ∧ ∀ d, r[m]? = some d → Rep w S d u := by
    intro m hm
    obtain ⟨u, hu, hru⟩ := h6 i m r (r[m]) hi (List.getElem?_eq_getElem hm)
    refine ⟨u, hu, fun d hd => ?_⟩
    rw [List.getElem?_eq_getElem hm] at hd
    cases hd
    exact hru
  refine ⟨((cur.toList.drop (i * k + j)).take (r.length - j)), All2.of_get ?_ ?_, ?_⟩
  · have : r.length - j ≤ cur.size - (i * k + j) := by
      by_cases hj : j < r.length
      · obtain ⟨u, hu, _⟩ := key (r.length - 1) (by omega)
        have := (Array.getElem?_eq_some_iff.1 hu).1
        omega
      · omega
    simp
    omega
  · intro m x y hx hy
    simp only [List.getElem?_map, List.getElem?_drop, Option.map_eq_some_iff] at hx
    obtain ⟨d, hd, rfl⟩ := hx
    rw [List.getElem?_take] at hy
    split at hy
    · have hm : j + m < r.length := (List.getElem?_eq_some_iff.1 hd).1
      obtain ⟨u, hu, hru⟩ := key (j + m) hm
      rw [List.getElem?_drop] at hy
      have e : i * k + j + m = i * k + (j + m) := by omega
      rw [e] at hy
      simp only [Array.getElem?_toList] at hy
      rw [hu] at hy
      cases hy
      exact hru d hd
    · cases hy
  · intro m u hu
    rw [List.getElem?_take] at hu
    split at hu
    · rw [add_lit', cell_of_row w g _ cur ety (0, 0) h4]
      simpa [List.getElem?_drop] using hu
    · cases hu

theorem sound_load (hΓ : CtxOk P Γ) (hr : Rel c nt env ob ρ S a w) (hd : dstOk nt o.dst = true) {t : TypeId} {x : Operand} (ho : o.op = .load t x) (h : aop0 Γ N (aval Γ env) ob o = some r) : Goes P c nt N env ob ρ a w o r := by
  simp only [aop0, ho] at h
  have hx := eval_rep (Γ := Γ) hr 0 x
  have fin : ∀ (ad : Addr) (cells : List AV) (us : List Value) (out : AT) (tc : List Nat), a.eval x = .pointer (some ad) → All2 (RepAV ρ w S) cells us → (∀ (j : Nat) (u : Value), us[j]? = some u → w.cell? (ad.add j) = some u) →
      loadC Γ t cells = some out → Goes P c nt N env ob ρ a w o ⟨out, [], tc⟩ := by
    intro ad cells us out tc he h1 h2 h3
    obtain ⟨v, hv, hrv⟩ := run_loadC hΓ h1 h2 h3
    exact goes_value hr hd (v := v) (by simp [execOp, ho, he, Instr.loadAt, Instr.sureAddr, hv]) hrv
  split at h
  · rename_i oo off e
    obtain ⟨g, hg, hu⟩ := one_rep hx e
    split at h
    · rename_i cells live hob
      simp only [Option.map_eq_some_iff] at h
      obtain ⟨out, hout, rfl⟩ := h
      obtain ⟨hh, h1, h2⟩ := hr.obj oo _ hob
      rw [hg] at h1; cases h1
      obtain ⟨g', cur, ety, e1, e2, e3, _⟩ := h2
      cases e1
      refine fin _ _ (cur.toList.drop off) out _ hu (e3.drop off) (fun j u hju => ?_) hout
      rw [add_lit', cell_of_row w g _ cur ety (0, 0) e2]
      simpa [List.getElem?_drop] using hju
    · cases h
  · rename_i cc e
    simp only [Option.map_eq_some_iff] at h
    obtain ⟨out, hout, rfl⟩ := h
    have h1 := one_rep hx e
    obtain ⟨ad, hu⟩ := pt_val h1
    rw [hu] at h1
    obtain ⟨us, hus, hcell⟩ := pt_cells (ρ := ρ) h1
    exact fin ad _ us out _ hu hus (fun j u hju => (hcell j u hju).1) hout
  · rename_i oo k i j e
    obtain ⟨g, n, cc, hg, hu⟩ := one_rep hx e
    split at h
    · rename_i k' ety rows live hob
      split at h
      · rename_i hkk
        subst hkk
        split at h
        · rename_i rr hrr
          simp only [Option.map_eq_some_iff] at h
          obtain ⟨out, hout, rfl⟩ := h
          obtain ⟨hh, h1, h2⟩ := hr.obj oo _ hob
          rw [hg] at h1; cases h1
          obtain ⟨hk, h3⟩ := h2
          rcases h3 with ⟨hnil, _⟩ | ⟨g', c', _, e1, e2, _⟩
          · subst hnil; simp at hrr
          · cases e1
            obtain ⟨us, h4, h5⟩ := row_cells (ρ := ρ) (j := j) hk e2 hrr
            exact fin _ _ us out _ hu h4 h5 hout
        · cases h
      · cases h
    · cases h
  · cases h

theorem run_fieldAt (hΓ : CtxOk P Γ) {t : TypeId} {fs : List (Nat × TypeId)} (hfs : Γ.fields t = some fs) {i off : Nat} {ft : TypeId} (hi : fs[i]? = some (off, ft)) {k : Nat} (hk : Γ.size ft = some k) (hk0 : k ≠ 0) (ad : Addr) (w : World) :
    (Instr.fieldAt t (.pointer (some ad)) i).run P w = .ok (.pointer (some (ad.add off))) w := by
  obtain ⟨flds, hund, rfl, _⟩ := und_fields hΓ hfs
  simp only [List.getElem?_map, Option.map_eq_some_iff] at hi
  obtain ⟨f, hf, hfe⟩ := hi
  cases hfe
  have hf' : flds[i]? = some f := by simpa using hf
  simp [Instr.fieldAt, run_underlying hund, hf', Instr.sureAddr, fieldPlace, run_sizeOf' hΓ hk, hk0]

theorem sound_fieldAddr (hΓ : CtxOk P Γ) (hr : Rel c nt env ob ρ S a w) (hd : dstOk nt o.dst = true) {t : TypeId} {x : Operand} {i : Nat} (ho : o.op = .fieldAddr t x i) (h : aop0 Γ N (aval Γ env) ob o = some r) : Goes P c nt N env ob ρ a w o r := by
  simp only [aop0, ho] at h
  have hx := eval_rep (Γ := Γ) hr 0 x
  split at h
  · rename_i v fs e hfs
    split at h
    · rename_i off ft hi
      split at h
      · rename_i k hk
        split at h
        · cases h
        · rename_i hk0
          have h1 := one_rep hx e
          have run := fun ad => run_fieldAt hΓ hfs hi hk hk0 ad w
          split at h <;> first | cases h | skip
          · obtain ⟨g, hg, hu⟩ := h1
            exact goes_value hr hd (v := .pointer (some _)) (by simp [execOp, ho, hu, run, add_lit']) ⟨_, rfl, g, hg, rfl⟩
          · obtain ⟨ad, hu⟩ := pt_val h1
            rw [hu] at h1
            refine goes_value hr hd (v := .pointer (some (ad.add off))) (by simp [execOp, ho, hu, run]) ⟨_, rfl, ?_⟩
            obtain ⟨us, hus, hcell⟩ := pt_cells (ρ := ρ) h1
            refine pt_mk (us := us.drop off) (by simpa using hus.drop off) (fun j u hju => ?_)
            rw [List.getElem?_drop] at hju
            have := hcell _ u hju
            rw [add_add, block_add]
            exact this
          · obtain ⟨g, n, cc, hg, hu⟩ := h1
            exact goes_value hr hd (v := .pointer (some _)) (by simp [execOp, ho, hu, run, add_lit', Nat.add_assoc]) ⟨_, rfl, g, n, cc, hg, rfl⟩
      · cases h
    · cases h
  · cases h

theorem sound_indexAddr (hΓ : CtxOk P Γ) (hr : Rel c nt env ob ρ S a w) (hd : dstOk nt o.dst = true) {t : TypeId} {x i : Operand} (ho : o.op = .indexAddr t x i) (h : aop0 Γ N (aval Γ env) ob o = some r) : Goes P c nt N env ob ρ a w o r := by
  simp only [aop0, ho] at h
  have hx := eval_rep (Γ := Γ) hr t x
  have hi := eval_rep (Γ := Γ) hr 0 i
  split at h
  · rename_i v n e ev en hel
    have hund := und_elem hΓ hel
    obtain ⟨ki, hi⟩ := int_rep hi en
    split at h
    · rename_i k hk
      have h1 := one_rep hx ev
      have run : ∀ (ad : Addr) (l cc : Nat), 0 ≤ n → n < l → (Instr.indexAt t (.slice (some ad) l cc) (.int ki n)).run P w = .ok (.pointer (some (ad.add (n.toNat * k)))) w := fun ad l cc h0 hl => by
        simp [Instr.indexAt, asIntOf, run_underlying hund, h0, hl, run_sizeOf' hΓ hk]
      split at h <;> first | cases h | skip
      · rename_i k' rows
        split at h
        · rename_i hc
          obtain ⟨rfl, hk0, hn⟩ := hc
          split at h
          · rename_i rr hrr
            cases h
            have hlt : n.toNat < rows.length := (List.getElem?_eq_some_iff.1 hrr).1
            have h2 : Rep w S (.vec k rows) (a.eval x) := h1
            generalize hav : a.eval x = u at h2
            cases h2 with
            | vec _ _ A cc u hc hm hk' hcell hrep =>
              have hrl : rr.length = k := hk' rr (List.mem_of_getElem? hrr)
              obtain ⟨ad, rfl, hS, _⟩ := hcell n.toNat 0 hlt (by omega)
              have hnl : n < (rows.length : Int) := by omega
              have run' := run ad rows.length cc hn hnl
              refine goes_value hr hd (v := .pointer (some (ad.add (n.toNat * k)))) ?_ ⟨_, rfl, .pt rr _ (u n.toNat) (fun j hj => ?_) (fun j d hj => hrep _ j rr d hrr hj)⟩
              · simp [execOp, ho, hav, hi, run']
              · obtain ⟨ad', e', hS', hc'⟩ := hcell n.toNat j hlt (by omega)
                cases e'
                rw [block_add, add_add]
                exact ⟨hS', hc'⟩
          · cases h
        · cases h
      · rename_i oo
        split at h
        · rename_i k' ety rows live hob
          split at h
          · rename_i hc
            obtain ⟨rfl, hn, hlt⟩ := hc
            cases h
            obtain ⟨hρ, A, nn, cc, hu⟩ := h1
            obtain ⟨hh, h3, h4⟩ := hr.obj oo _ hob
            rw [hρ] at h3; cases h3
            obtain ⟨hkk, h5⟩ := h4
            rcases h5 with ⟨hnil, _⟩ | ⟨g', c', _, e1, e2, _⟩
            · subst hnil; simp at hlt; omega
            · rw [e1] at hρ
              refine goes_value hr hd (v := .pointer (some ⟨g', n.toNat * k, none⟩)) ?_ ⟨_, rfl, g', _, _, hρ, by simp⟩
              simp [execOp, ho, e1, hi, run _ _ _ hn hlt, add_lit]
          · cases h
        · cases h
    · cases h
  · cases h

theorem sound_alloc (hΓ : CtxOk P Γ) (hr : Rel c nt env ob ρ S a w) (hf : ∀ n, N ≤ n → n < N + 8 → ρ n = none) (hd : dstOk nt o.dst = true) {t : TypeId} (ho : o.op = .alloc t) (h : aop0 Γ N (aval Γ env) ob o = some r) : Goes P c nt N env ob ρ a w o r := by
  simp only [aop0, ho, Option.map_eq_some_iff] at h
  obtain ⟨ti, hti, rfl⟩ := h
  intro Q
  obtain ⟨i, z, h1, h2, _, _, h3, h4⟩ := run_typeInfo' hΓ hti w
  have hrun : (execOp a.eval o).run P w = .ok (.value (.pointer (some ⟨w.heap.size, 0, none⟩))) (w.alloc (.cells z.cells t)) := by
    simp [execOp, ho, Instr.alloc, zeroValue, h1, h3, newVar, newRow]
  obtain ⟨ρ', e2, hrel⟩ := hr.new (N := N) (x := .var ti.zero true) (h := .pointer (some ⟨w.heap.size, 0, none⟩)) (v := .pointer (some ⟨w.heap.size, 0, none⟩)) (out := .cs false [.ptr N 0]) (o := .cells z.cells t) hd (hf N (by omega) (by omega)) (.inl rfl)
    (fun ρ' e1 g => ⟨w.heap.size, z.cells, t, rfl, heap_alloc_new w _, zero_rep h4, fun _ hs => absurd (hr.lim _ hs) (by omega), fun hh => by cases hh⟩)
    (fun ρ' e1 => ⟨_, rfl, w.heap.size, e1, rfl⟩)
  exact wp_value hrun ⟨ρ', S, hrel, fun n hn => e2 n (by omega)⟩

theorem sound_box (hr : Rel c nt env ob ρ S a w) (hf : ∀ n, N ≤ n → n < N + 8 → ρ n = none) (hd : dstOk nt o.dst = true) {t : TypeId} {x : Operand} (ho : o.op = .box t x) (h : aop0 Γ N (aval Γ env) ob o = some r) : Goes P c nt N env ob ρ a w o r := by
  simp only [aop0, ho, Option.map_eq_some_iff] at h
  obtain ⟨ys, hys, rfl⟩ := h
  intro Q
  have h4 := cells_rep (eval_rep (Γ := Γ) hr t x) hys
  have hrun : (execOp a.eval o).run P w = .ok (.value (.pointer (some ⟨w.heap.size, 0, none⟩))) (w.alloc (.cells (a.eval x).cells t)) := by
    simp [execOp, ho, Instr.box, newVar, newRow]
  obtain ⟨ρ', e2, hrel⟩ := hr.new (N := N) (x := .var ys true) (h := .pointer (some ⟨w.heap.size, 0, none⟩)) (v := .pointer (some ⟨w.heap.size, 0, none⟩)) (out := .cs false [.ptr N 0]) (o := .cells (a.eval x).cells t) hd (hf N (by omega) (by omega)) (.inl rfl)
    (fun ρ' e1 g => ⟨w.heap.size, (a.eval x).cells, t, rfl, heap_alloc_new w _, h4.mono fun _ _ => RepAV.grows g, fun _ hs => absurd (hr.lim _ hs) (by omega), fun hh => by cases hh⟩)
    (fun ρ' e1 => ⟨_, rfl, w.heap.size, e1, rfl⟩)
  exact wp_value hrun ⟨ρ', S, hrel, fun n hn => e2 n (by omega)⟩

end
end Go.Eng
namespace Go.Eng

theorem foldl_set (off : Nat) : ∀ (vs : List Value) (n : Nat) (cells : Array Value), off + n + vs.length ≤ cells.size →
    ((vs.zipIdx n).foldl (fun cs (x : Value × Nat) => cs.setIfInBounds (off + x.2) x.1) cells).toList = splice cells.toList (off + n) vs
  | [], n, cells, _ => by simp [splice]
  | v :: vs, n, cells, h => by
    simp only [List.length_cons] at h
    simp only [List.zipIdx_cons, List.foldl_cons]
    rw [foldl_set off vs (n + 1) _ (by simp; omega)]
    unfold splice
    have hn : off + n < cells.toList.length := by simp; omega
    simp only [Array.toList_setIfInBounds, List.length_cons]
    rw [← Nat.add_assoc]
    have e1 : (cells.toList.set (off + n) v).take (off + n + 1) = cells.toList.take (off + n) ++ [v] := by
      rw [List.take_succ_eq_append_getElem (by simpa using hn), List.take_set_of_le (Nat.le_refl _)]
      simp
    have e2 : (cells.toList.set (off + n) v).drop (off + n + 1 + vs.length) = cells.toList.drop (off + n + (vs.length + 1)) := by
      rw [List.drop_set_of_lt (by omega)]
      congr 1
      omega
    rw [e1, e2]
    simp

theorem fold_splice (v : Value) (off : Nat) (cells : Array Value) (h : off + v.cells.size ≤ cells.size) :
    (v.cells.zipIdx.foldl (fun cs (x : Value × Nat) => cs.setIfInBounds (off + x.2) x.1) cells).toList = splice cells.toList off v.cells.toList := by
  have := foldl_set off v.cells.toList 0 cells (by simpa using h)
  rw [← Array.foldl_toList]
  simpa using this

theorem All2.splice {α β : Type} {R : α → β → Prop} {cs ys : List α} {us vs : List β} (h : All2 R cs us) (h' : All2 R ys vs) (off : Nat) : All2 R (splice cs off ys) (splice us off vs) := by
  unfold Eng.splice
  rw [h'.len]
  exact ((h.take off).append h').append (h.drop _)

theorem splice_len {α : Type} {cs ys : List α} {off : Nat} (h : off + ys.length ≤ cs.length) : (splice cs off ys).length = cs.length := by
  unfold splice
  simp
  omega

theorem splice_get {α : Type} {cs ys : List α} {off : Nat} (h : off + ys.length ≤ cs.length) (i : Nat) :
    (splice cs off ys)[i]? = if i < off then cs[i]? else if i < off + ys.length then ys[i - off]? else cs[i]? := by
  unfold splice
  by_cases h1 : i < off
  · rw [if_pos h1, List.append_assoc, List.getElem?_append_left (by simp; omega), List.getElem?_take, if_pos h1]
  · rw [if_neg h1]
    by_cases h2 : i < off + ys.length
    · rw [if_pos h2, List.append_assoc, List.getElem?_append_right (by simp; omega), List.getElem?_append_left (by simp; omega)]
      congr 1
      simp
      omega
    · rw [if_neg h2, List.getElem?_append_right (by simp; omega), List.getElem?_drop]
      congr 1
      simp
      omega

section
variable {P : Program} {Γ : Ctx} {c : Base} {nt : Nat} {env : Nat → AT} {ob : Nat → Option AObj} {ρ : Where} {S : Nat → Prop} {a : Act} {w : World}
variable {N : Nat} {o : Oper} {r : AOut}

theorem run_places (flds : List Field) (hi : ∀ f ∈ flds, (P.info? f.type).isSome = true) (w : World) :
    (flds.mapM (fun f => do let s ← sizeOf f.type; pure (f.offset, s) : Field → Sem (Nat × Nat))).run P w = .ok (flds.map fun f => (f.offset, P.cellsOf f.type)) w := by
  induction flds with
  | nil => simp
  | cons f flds ih =>
    have h1 := hi f (List.mem_cons_self ..)
    obtain ⟨i, h2⟩ := Option.isSome_iff_exists.mp h1
    have ih := ih fun g hg => hi g (List.mem_cons_of_mem _ hg)
    simp only [List.mapM_cons, Sem.run_bind, sizeOf, typeInfo, run_program, Result.andThen_ok, h2, Sem.run_pure] at ih ⊢
    rw [ih]
    simp [Program.cellsOf, h2]

theorem cellsOf_size (hΓ : CtxOk P Γ) {t : TypeId} {k : Nat} (h : Γ.size t = some k) : P.cellsOf t = k := by
  unfold Ctx.size at h
  cases hti : Γ.ty t with
  | none => rw [hti] at h; cases h
  | some ti =>
    rw [hti] at h; cases h
    obtain ⟨i, z, h1, h2, _⟩ := (hΓ.ty t ti hti).info
    simp [Program.cellsOf, h1, h2]

theorem fillA_run (hΓ : CtxOk P Γ) (hr : Rel c nt env ob ρ S a w) (flds : List Field) : ∀ (parts : List (Nat × Operand)) (cells : List AV) (arr : Array Value) (out : List AV),
    fillA Γ (aval Γ env) (flds.map fun f => (f.offset, f.type)) cells parts = some out → All2 (RepAV ρ w S) cells arr.toList →
    ∃ arr', Instr.fill (fun i => (flds.map fun f => (f.offset, P.cellsOf f.type))[i]?) arr (parts.map fun p => (p.1, a.eval p.2)) = some arr' ∧ All2 (RepAV ρ w S) out arr'.toList
  | [], cells, arr, out, h, hc => by
    simp only [fillA, Option.some.injEq] at h
    subst h
    exact ⟨arr, rfl, hc⟩
  | (i, x) :: parts, cells, arr, out, h, hc => by
    simp only [fillA] at h
    split at h
    · rename_i off t hi
      split at h
      · rename_i k ys hk hys
        split at h
        · rename_i hle
          have h4 := cells_rep (eval_rep (Γ := Γ) hr t x) hys
          have hl := h4.len
          have hl2 := hc.len
          have hsz : (a.eval x).cells.size = k := by rw [← hle.1, hl]; simp
          have hoff : off + (a.eval x).cells.size ≤ arr.size := by rw [hsz]; simp at hl2; omega
          have hs := fold_splice (a.eval x) off arr hoff
          obtain ⟨arr', e1, e2⟩ := fillA_run hΓ hr flds parts _ _ out h (by rw [hs]; exact hc.splice h4 off)
          refine ⟨arr', ?_, e2⟩
          simp only [List.getElem?_map, Option.map_eq_some_iff] at hi
          obtain ⟨f, hf, hfe⟩ := hi
          cases hfe
          simp only [List.map_cons, Instr.fill, List.getElem?_map, hf, Option.map_some, cellsOf_size hΓ hk]
          rw [if_neg (by simp [hsz]; omega)]
          simpa [List.getElem?_map] using e1
        · cases h
      · cases h
    · cases h

theorem sound_build (hΓ : CtxOk P Γ) (hr : Rel c nt env ob ρ S a w) (hd : dstOk nt o.dst = true) {t : TypeId} {parts : Array (Nat × Operand)} (ho : o.op = .build t parts) (h : aop0 Γ N (aval Γ env) ob o = some r) : Goes P c nt N env ob ρ a w o r := by
  simp only [aop0, ho] at h
  split at h
  · rename_i ti fs hti hfs
    simp only [Option.map_eq_some_iff] at h
    obtain ⟨cells, hcells, rfl⟩ := h
    obtain ⟨flds, hund, rfl, _, _, _, hinfo⟩ := und_fields hΓ hfs
    obtain ⟨i, z, h1, h2, _, _, h3, h4⟩ := run_typeInfo' hΓ hti w
    obtain ⟨arr', e1, e2⟩ := fillA_run hΓ hr flds.toList parts.toList ti.zero z.cells cells hcells (zero_rep h4)
    refine goes_value hr hd (v := .agg arr') ?_ ⟨arr'.toList, by simp, e2⟩
    have hm := run_places (P := P) flds.toList hinfo w
    have hp : (parts.map fun x => (x.1, a.eval x.2)).toList = parts.toList.map fun p => (p.1, a.eval p.2) := by simp
    have hmm : (flds.mapM (fun f => do let s ← sizeOf f.type; pure (f.offset, s) : Field → Sem (Nat × Nat))).run P w = .ok (flds.map fun f => (f.offset, P.cellsOf f.type)) w := by
      rw [Array.mapM_eq_mapM_toList]
      simp only [Sem.run_map, hm, Result.andThen_ok]
      congr 1
      apply Array.ext'
      simp
    have e1' : Instr.fill (fun i => (flds.map fun f => (f.offset, P.cellsOf f.type))[i]?) z.cells (parts.toList.map fun p => (p.1, a.eval p.2)) = some arr' := by
      rw [← e1]
      congr 1
      funext i
      simp
    simp only [execOp, ho, Instr.build, Sem.run_bind, zeroValue, h1, Result.andThen_ok, h3, Sem.run_pure, run_underlying hund, hmm, hp, e1']
  · cases h

theorem ptrD_rep (hr : Rel c nt env ob ρ S a w) {oo off : Nat} {cells : List AV} {u : Value} (hob : ob oo = some (.var cells false)) (hx : ∃ g, ρ oo = some (.pointer (some ⟨g, 0, none⟩)) ∧ u = .pointer (some ⟨g, off, none⟩)) : Rep w S (.pt ((cells.drop off).map unD)) u := by
  obtain ⟨g, hρ, rfl⟩ := hx
  obtain ⟨hh, h1, h2⟩ := hr.obj oo _ hob
  rw [hρ] at h1; cases h1
  obtain ⟨g', cur, ety, e1, e2, e3, _, e5⟩ := h2
  cases e1
  obtain ⟨hs, hall⟩ := e5 rfl
  refine pt_mk (ρ := ρ) (us := cur.toList.drop off) ?_ (fun j u hju => ?_)
  · have e : ((cells.drop off).map unD).map AV.d = cells.drop off := by
      rw [List.map_map]
      conv => rhs; rw [← List.map_id (cells.drop off)]
      apply List.map_congr_left
      intro y hy
      obtain ⟨z, rfl⟩ := hall y (List.mem_of_mem_drop hy)
      rfl
    rw [e]
    exact e3.drop off
  · refine ⟨?_, hs⟩
    rw [add_lit', cell_of_row w g _ cur ety (0, 0) e2]
    simpa [List.getElem?_drop] using hju

theorem capsD_rep (hr : Rel c nt env ob ρ S a w) : ∀ {ks : List CapV} {ds : List D} {us : List Value}, capsD ob ks = some ds → All2 (RepCap ρ w S) ks us → All2 (Rep w S) ds us
  | [], ds, us, h, hu => by
    simp only [capsD, Option.some.injEq] at h
    subst h
    cases hu
    exact .nil
  | .d x :: ks, ds, us, h, hu => by
    simp only [capsD, Option.map_eq_some_iff] at h
    obtain ⟨ds', h1, rfl⟩ := h
    cases hu with
    | cons h2 h3 => exact .cons h2 (capsD_rep hr h1 h3)
  | .ptr oo off :: ks, ds, us, h, hu => by
    simp only [capsD] at h
    split at h
    · rename_i cells ds' hob h1
      cases h
      cases hu with
      | cons h2 h3 => exact .cons (ptrD_rep hr hob h2) (capsD_rep hr h1 h3)
    · cases h

theorem avD_rep (hr : Rel c nt env ob ρ S a w) {x : AV} {d : D} {u : Value} (h : avD ob x = some d) (hx : RepAV ρ w S x u) : Rep w S d u := by
  cases x with
  | d y => cases h; exact hx
  | nils k =>
    cases h
    obtain ⟨A, rfl⟩ := hx
    exact .vec k [] A 0 (fun _ _ => undef) (Nat.le_refl _) (by simp [maxLen]) (by simp) (fun i j hi _ => absurd hi (by simp)) (fun i j r d hi _ => by simp at hi)
  | own oo =>
    obtain ⟨hρ, A, n, cc, rfl⟩ := hx
    simp only [avD] at h
    split at h
    · rename_i k ety rows hob
      cases h
      obtain ⟨hh, h1, h2⟩ := hr.obj oo _ hob
      rw [hρ] at h1; cases h1
      obtain ⟨hk, h3⟩ := h2
      rcases h3 with ⟨rfl, A', e⟩ | ⟨g, c', _, e, ⟨r1, r2, r3, cur, r4, r5, r7, r6⟩, _, hs⟩
      · cases e
        exact .vec k [] A 0 (fun _ _ => undef) (Nat.le_refl _) (by simp [maxLen]) (by simp) (fun i j hi _ => absurd hi (by simp)) (fun i j r d hi _ => by simp at hi)
      · cases e
        refine .vec k rows _ _ (fun i j => cur.getD (i * k + j) undef) r1 r2 hk (fun i j hi hj => ?_) (fun i j rr d hi hj => ?_)
        · have hri : rows[i]? = some rows[i] := List.getElem?_eq_getElem hi
          have hrl := hk _ (List.getElem_mem hi)
          have hjd : rows[i][j]? = some (rows[i][j]'(by omega)) := List.getElem?_eq_getElem (by omega)
          obtain ⟨u, hu, _⟩ := r6 i j _ _ hri hjd
          refine ⟨_, rfl, hs rfl, ?_⟩
          rw [add_lit, cell_of_row w g _ cur ety (0, 0) r4, hu]
          simp [Array.getD_eq_getD_getElem?, hu]
        · obtain ⟨u, hu, hru⟩ := r6 i j _ _ hi hj
          simp only [Array.getD_eq_getD_getElem?, hu, Option.getD_some]
          exact hru
    · cases h
  | ptr oo off =>
    simp only [avD] at h
    split at h
    · rename_i cells hob
      cases h
      exact ptrD_rep hr hob hx
    · cases h
  | eptr => cases h
  | win => cases h
  | wx => cases h
  | yld => cases h
  | mph => cases h
  | vsl => cases h
  | clo f ks =>
    simp only [avD, Option.map_eq_some_iff] at h
    obtain ⟨ds, h1, rfl⟩ := h
    obtain ⟨vs, rfl, h2⟩ := hx
    have h3 := capsD_rep hr h1 h2
    refine .fn f ds _ (by simpa using h3.len.symm) fun j d u hj hu => ?_
    obtain ⟨u', hu', hru⟩ := h3.get hj
    have : vs.toArray[j]? = some u' := by simpa using hu'
    rw [this] at hu
    cases hu
    exact hru

theorem allD_rep (hr : Rel c nt env ob ρ S a w) : ∀ {xs : List AV} {ds : List D} {us : List Value}, allD ob xs = some ds → All2 (RepAV ρ w S) xs us → All2 (Rep w S) ds us
  | [], ds, us, h, hu => by
    cases hu
    simp only [allD, Option.some.injEq] at h
    subst h
    exact .nil
  | x :: xs, ds, us, h, hu => by
    simp only [allD] at h
    split at h
    · rename_i d ds' hd hds
      cases h
      cases hu with
      | cons h1 h2 => exact .cons (avD_rep hr hd h1) (allD_rep hr hds h2)
    · cases h

/-- Rows laid end to end. -/
structure Flat (w : World) (S : Nat → Prop) (k : Nat) (rows : List (List D)) (us : List Value) : Prop where
  len : us.length = rows.length * k
  rowLen : ∀ r ∈ rows, r.length = k
  get : ∀ (i j : Nat) (r : List D) (d : D), rows[i]? = some r → r[j]? = some d → ∃ u, us[i * k + j]? = some u ∧ Rep w S d u

theorem row_idx {i i' k j j' : Nat} (hj : j < k) (hj' : j' < k) (h : i * k + j = i' * k + j') : i = i' ∧ j = j' := by
  have h1 : (i * k + j) / k = i := by rw [Nat.mul_comm, Nat.mul_add_div (by omega), Nat.div_eq_of_lt hj]; omega
  have h2 : (i' * k + j') / k = i' := by rw [Nat.mul_comm, Nat.mul_add_div (by omega), Nat.div_eq_of_lt hj']; omega
  have : i = i' := by rw [← h1, ← h2, h]
  subst this
  exact ⟨rfl, by omega⟩

theorem row_lt {i n k j : Nat} (hi : i < n) (hj : j < k) : i * k + j < n * k := by
  have : (i + 1) * k ≤ n * k := Nat.mul_le_mul_right _ hi
  rw [Nat.add_mul] at this
  omega

theorem Spare.splice {w : World} {S : Nat → Prop} {cur : Array Value} {ys : List Value} (h : Spare w S cur) (hy : ∀ v ∈ ys, ∃ d, Rep w S d v) (off : Nat) : Spare w S (Go.Eng.splice cur.toList off ys).toArray := fun u hu => by
  simp only [Go.Eng.splice, List.mem_append] at hu
  rcases hu with (hu | hu) | hu
  · exact h u (List.mem_of_mem_take hu)
  · exact hy u hu
  · exact h u (List.mem_of_mem_drop hu)

theorem flat_rep {k : Nat} {rows : List (List D)} {us : List Value} (h : Flat w S k rows us) : ∀ v ∈ us, ∃ d, Rep w S d v := fun v hv => by
  obtain ⟨j, hj⟩ := List.getElem?_of_mem hv
  have hjl : j < rows.length * k := by rw [← h.len]; exact (List.getElem?_eq_some_iff.1 hj).1
  have hk0 : 0 < k := Nat.pos_of_ne_zero (fun h0 => by subst h0; simp at hjl)
  have h1 : j / k < rows.length := by rw [Nat.div_lt_iff_lt_mul hk0]; exact hjl
  have h2 : j % k < k := Nat.mod_lt _ hk0
  have h3 : rows[j / k]? = some rows[j / k] := List.getElem?_eq_getElem h1
  have h4 := h.rowLen _ (List.getElem_mem h1)
  have h5 : (rows[j / k])[j % k]? = some ((rows[j / k])[j % k]'(by omega)) := List.getElem?_eq_getElem (by omega)
  obtain ⟨u, hu, hru⟩ := h.get _ _ _ _ h3 h5
  have h6 : j / k * k + j % k = j := by rw [Nat.mul_comm]; exact Nat.div_add_mod j k
  rw [h6, hj] at hu
  cases hu
  exact ⟨_, hru⟩

theorem Flat.set {k : Nat} {rows : List (List D)} {us vs : List Value} (h : Flat w S k rows us) {i : Nat} {ds : List D} (hi : i < rows.length) (hl : ds.length = k) (hv : All2 (Rep w S) ds vs) :
    Flat w S k (rows.set i ds) (splice us (i * k) vs) := by
  have hvl := hv.len
  have hle : i * k + vs.length ≤ us.length := by
    rw [h.len, ← hvl, hl]
    have : (i + 1) * k ≤ rows.length * k := Nat.mul_le_mul_right _ hi
    rw [Nat.add_mul] at this
    omega
  refine ⟨by rw [splice_len hle, h.len]; simp, fun r hr => ?_, fun i' j r d hi' hj => ?_⟩
  · rcases List.mem_or_eq_of_mem_set hr with hr | rfl
    · exact h.rowLen r hr
    · exact hl
  · rw [List.getElem?_set] at hi'
    split at hi'
    · rename_i e
      subst e
      first | (rw [if_pos hi] at hi'; cases hi') | cases hi'
      obtain ⟨u, hu, hru⟩ := hv.get hj
      have hjk : j < vs.length := (List.getElem?_eq_some_iff.1 hu).1
      refine ⟨u, ?_, hru⟩
      rw [splice_get hle, if_neg (by omega), if_pos (by omega)]
      simpa using hu
    · rename_i e
      obtain ⟨u, hu, hru⟩ := h.get i' j r d hi' hj
      refine ⟨u, ?_, hru⟩
      have hjk : j < k := by
        have := (List.getElem?_eq_some_iff.1 hj).1
        rwa [h.rowLen r (List.mem_of_getElem? hi')] at this
      rw [splice_get hle]
      split
      · exact hu
      · rename_i h1
        split
        · rename_i h2
          exfalso
          have h3 : i * k ≤ i' * k + j := by omega
          have h4 : i' * k + j < i * k + k := by omega
          rcases Nat.lt_trichotomy i i' with h5 | h5 | h5
          · have : (i + 1) * k ≤ i' * k := Nat.mul_le_mul_right _ h5
            rw [Nat.add_mul] at this
            omega
          · exact e h5
          · have : (i' + 1) * k ≤ i * k := Nat.mul_le_mul_right _ h5
            rw [Nat.add_mul] at this
            omega
        · exact hu

theorem fillRows_run (hr : Rel c nt env ob ρ S a w) (e : TypeId) (k n : Nat) : ∀ (parts : List (Nat × Operand)) (rows : List (List D)) (arr : Array Value) (out : List (List D) × List Nat),
    fillRows ob (aval Γ env) e k rows parts = some out → Flat w S k rows arr.toList → rows.length = n →
    ∃ arr', Instr.fill (fun i => some (i * k, k)) arr (parts.map fun p => (p.1, a.eval p.2)) = some arr' ∧ Flat w S k out.1 arr'.toList ∧ out.1.length = n
  | [], rows, arr, out, h, hc, hn => by
    simp only [fillRows, Option.some.injEq] at h
    subst h
    exact ⟨arr, rfl, hc, hn⟩
  | (i, x) :: parts, rows, arr, out, h, hc, hn => by
    simp only [fillRows] at h
    split at h
    · rename_i ys hys
      split at h
      · rename_i ds hds
        split at h
        · rename_i hle
          simp only [Option.map_eq_some_iff] at h
          obtain ⟨q, hq, rfl⟩ := h
          have h4 := cells_rep (eval_rep (Γ := Γ) hr e x) hys
          have h5 := allD_rep hr hds h4
          have hl := h5.len
          have hsz : (a.eval x).cells.size = k := by rw [← hle.1, hl]; simp
          have hoff : i * k + (a.eval x).cells.size ≤ arr.size := by
            have := hc.len
            simp at this
            rw [hsz, this]
            have : (i + 1) * k ≤ rows.length * k := Nat.mul_le_mul_right _ hle.2
            rw [Nat.add_mul] at this
            omega
          have hs := fold_splice (a.eval x) (i * k) arr hoff
          obtain ⟨arr', e1, e2, e3⟩ := fillRows_run hr e k n parts _ _ q hq (by rw [hs]; exact hc.set hle.2 hle.1 h5) (by simpa using hn)
          refine ⟨arr', ?_, e2, e3⟩
          simp only [List.map_cons, Instr.fill]
          rw [if_neg (by simp [hsz]; omega)]
          simpa using e1
        · cases h
      · cases h
    · cases h

theorem Flat.grows {k : Nat} {rows : List (List D)} {us : List Value} {w' : World} {S' : Nat → Prop} (h : Flat w S k rows us) (hS : ∀ b, S b → S' b) (hk : Keeps S w w') : Flat w' S' k rows us :=
  ⟨h.len, h.rowLen, fun i j r d hi hj => let ⟨u, hu, hru⟩ := h.get i j r d hi hj; ⟨u, hu, hru.mono hS hk⟩⟩

theorem sound_buildSlice (hΓ : CtxOk P Γ) (hr : Rel c nt env ob ρ S a w) (hf : ∀ n, N ≤ n → n < N + 8 → ρ n = none) (hd : dstOk nt o.dst = true) {t : TypeId} {len : Nat} {parts : Array (Nat × Operand)} (ho : o.op = .buildSlice t len parts) (h : aop0 Γ N (aval Γ env) ob o = some r) : Goes P c nt N env ob ρ a w o r := by
  simp only [aop0, ho] at h
  split at h
  · rename_i e he
    split at h
    · rename_i ti hti
      split at h
      · rename_i z hz
        split at h
        · rename_i hc
          obtain ⟨hc1, hc2, hc3, hc4⟩ := hc
          simp only [Option.map_eq_some_iff] at h
          obtain ⟨q, hq, rfl⟩ := h
          have hund := und_elem hΓ he
          obtain ⟨i, zv, h1, h2, hsz, _, h3, h4⟩ := run_typeInfo' hΓ hti w
          have hz' := allD_rep hr hz (zero_rep h4)
          have hzl := hz'.len
          have hzsz : zv.cells.size = ti.size := by rw [← hc1, hzl]; simp
          let arr0 : Array Value := (Array.range (len * ti.size)).map fun x => zv.cells[x % zv.cells.size]!
          have hflat : Flat w S ti.size (List.replicate len z) arr0.toList := by
            refine ⟨by simp [arr0], fun r hr => by rw [List.mem_replicate] at hr; rw [hr.2, hc1], fun i j r d hi hj => ?_⟩
            rw [List.getElem?_replicate] at hi
            split at hi
            · rename_i hil
              cases hi
              obtain ⟨u, hu, hru⟩ := hz'.get hj
              refine ⟨u, ?_, hru⟩
              have hjk : j < ti.size := by rw [← hc1]; exact (List.getElem?_eq_some_iff.1 hj).1
              have hidx := row_lt (k := ti.size) hil hjk
              simp only [arr0, Array.toList_map, List.getElem?_map, Array.toList_range, List.getElem?_range hidx, Option.map_some]
              have hm : (i * ti.size + j) % zv.cells.size = j := by rw [hzsz, Nat.mul_comm, Nat.mul_add_mod, Nat.mod_eq_of_lt hjk]
              rw [hm]
              simp only [Array.getElem?_toList] at hu
              simp only [getElem!_def, hu]
            · cases hi
          obtain ⟨arr', e1, e2, e3⟩ := fillRows_run hr e ti.size len parts.toList _ arr0 q hq hflat (by simp)
          have hp : (parts.map fun x => (x.1, a.eval x.2)).toList = parts.toList.map fun p => (p.1, a.eval p.2) := by simp
          have hrun : (execOp a.eval o).run P w = .ok (.value (.slice (some ⟨w.heap.size, 0, none⟩) len len)) (w.alloc (.cells arr' e)) := by
            by_cases hl0 : len = 0
            · subst hl0
              have : arr0 = #[] := by simp [arr0]
              rw [this] at e1
              simp only [execOp, ho, Instr.buildSlice, Sem.run_bind, run_underlying hund, Result.andThen_ok, sizeOf, h1, hsz, Sem.run_pure, hp]
              simp [show Array.range 0 = #[] from rfl, e1, newRow]
            · have hne : ¬ (len * ti.size = 0) := by
                intro h0
                rcases Nat.mul_eq_zero.1 h0 with h0 | h0 <;> omega
              have hgt : ¬ (2 ^ 24 < len * ti.size) := by omega
              simp only [execOp, ho, Instr.buildSlice, Sem.run_bind, run_underlying hund, Result.andThen_ok, sizeOf, h1, hsz, Sem.run_pure, hp]
              have e1' : Instr.fill (fun i => some (i * ti.size, ti.size)) ((Array.range (len * ti.size)).map fun x => zv.cells[x % zv.cells.size]!) (parts.toList.map fun p => (p.1, a.eval p.2)) = some arr' := e1
              simp [hne, hgt, zeroValue, h1, h3, e1', newRow]
          have hlen' := e2.len
          intro Q
          obtain ⟨ρ', f2, hrel⟩ := hr.new (N := N) (x := .row ti.size e q.1 true) (h := .slice (some ⟨w.heap.size, 0, none⟩) len len) (v := .slice (some ⟨w.heap.size, 0, none⟩) len len) (out := .cs false [.own N]) (o := .cells arr' e) hd (hf N (by omega) (by omega))
            (by by_cases hl0 : len = 0
                · right; simp [blkOf, hl0]
                · left; simp [blkOf, hl0])
            (fun ρ' f1 g => by
              have hgf := e2.grows g.sub g.keeps
              refine ⟨hgf.rowLen, ?_⟩
              by_cases hl0 : len = 0
              · left
                refine ⟨List.length_eq_zero_iff.1 (by omega), some ⟨w.heap.size, 0, none⟩, by rw [hl0]⟩
              · right
                refine ⟨w.heap.size, len, by omega, by rw [e3], ⟨by omega, by simp [maxLen]; omega, hc2, arr', heap_alloc_new w _, ?_, flat_rep hgf, fun i j r d hi hj => ?_⟩, fun _ hs => absurd (hr.lim _ hs) (by omega), fun hh => by cases hh⟩
                · simp at hlen'; rw [hlen', e3]
                · obtain ⟨u, hu, hru⟩ := hgf.get i j r d hi hj
                  exact ⟨u, by simpa using hu, hru⟩)
            (fun ρ' f1 => ⟨_, rfl, f1, _, _, _, rfl⟩)
          exact wp_value hrun ⟨ρ', S, hrel, fun n hn => f2 n (by omega)⟩
        · cases h
      · cases h
    · cases h
  · cases h

/-- A store into the block of a live object. -/
theorem Rel.write (hr : Rel c nt env ob ρ S a w) {oo g : Nat} {x x' : AObj} {h : Value} {out : AT} {v : Value} {dst : Option Tmp} {cs : Array Value} (hd : dstOk nt dst = true) (hob : ob oo = some x) (hρ : ρ oo = some h) (hb : blkOf h = some g) (hlive : ¬ S g)
    (hx' : Keeps S w (w.setRow g cs) → ObjRep ρ (w.setRow g cs) S h x') (hv : ∀ w', RepT ρ w' S out v) :
    Rel c nt (putF env dst out) (updO [(oo, some x')] ob) ρ S (a.put dst v) (w.setRow g cs) := by
  have hk : Keeps S w (w.setRow g cs) := fun b hbS => setRow_other w g b cs (fun e => hlive (e ▸ hbS))
  refine hr.step hd ⟨fun _ _ h => h, fun _ h => h, hk⟩ (hv _) (fun n y hy => ?_) rfl rfl rfl (by simp) (fun b hb1 hb2 => setRow_other w g b cs ?_) (fun b hbS => by simpa using hr.lim b hbS) hr.foot
  · simp only [updO] at hy
    split at hy
    · rename_i hn
      subst hn
      cases hy
      refine .inr ⟨h, hρ, hx' hk, fun b hbb => ?_⟩
      refine ⟨hr.place _ _ _ _ hob hρ hbb, fun o2 x2 h2 hx2 hh2 hb2 => ?_⟩
      simp only [updO] at hx2
      split at hx2
      · assumption
      · exact hr.sep _ _ _ _ _ _ b hx2 hob hh2 hρ hb2 hbb
    · rename_i hn
      refine .inl ⟨hy, fun h' b hh hb' => ⟨setRow_other w g b cs (fun e => hn ?_), id⟩⟩
      subst e
      exact hr.sep _ _ _ _ _ _ b hy hob hh hρ hb' hb
  · rintro rfl
    rcases hr.place _ _ _ _ hob hρ hb with (h1 | h1) | h1
    · omega
    · exact hb2 h1
    · exact hlive h1

theorem All2.cellsOne {xs : List AV} {us : List Value} (h : All2 (RepAV ρ w S) xs us) : ∀ v ∈ us, v.oneCell' = true := by
  induction h with
  | nil => simp
  | cons h _ ih =>
    intro v hv
    rcases List.mem_cons.1 hv with rfl | hv
    · exact h.one
    · exact ih v hv

theorem sound_store (hΓ : CtxOk P Γ) (hr : Rel c nt env ob ρ S a w) (hd : dstOk nt o.dst = true) {t : TypeId} {x y : Operand} (ho : o.op = .store t x y) (h : aop0 Γ N (aval Γ env) ob o = some r) : Goes P c nt N env ob ρ a w o r := by
  simp only [aop0, ho] at h
  have hx := eval_rep (Γ := Γ) hr 0 x
  have hy := eval_rep (Γ := Γ) hr t y
  have run : ∀ (g off : Nat) (ety : TypeId) (cur : Array Value) (k : Nat) (ys : List AV), a.eval x = .pointer (some ⟨g, off, none⟩) → w.heap[g]? = some (.cells cur ety (0, 0)) → Γ.size t = some k → All2 (RepAV ρ w S) ys (a.eval y).cells.toList →
      ys.length = k → off + k ≤ cur.size → (execOp a.eval o).run P w = .ok .skip (w.setRow g (splice cur.toList off (a.eval y).cells.toList).toArray) := by
    intro g off ety cur k ys he hg hk h4 hl hle
    have hl4 := h4.len
    have hsz : (a.eval y).cells.size = k := by rw [← hl, hl4]; simp
    have hs := run_storeCells_at P g off ety (a.eval y).cells.toList 0 cur w hg (by simp [hsz]; omega) h4.cellsOne
    simp only [Nat.add_zero] at hs
    simp only [execOp, ho, Instr.storeAt, he, Instr.sureAddr, Sem.run_bind, Sem.run_pure, Result.andThen_ok, storeVar, run_sizeOf' hΓ hk, hsz, ne_eq, not_true_eq_false, if_false, hs, splice]
  split at h <;> first | cases h | skip
  · rename_i oo off ys k e eys hk
    obtain ⟨g, hρ, hu⟩ := one_rep hx e
    have h4 := cells_rep hy eys
    split at h
    · rename_i cells hob
      split at h
      · rename_i hc
        cases h
        obtain ⟨hh, h1, h2⟩ := hr.obj oo _ hob
        rw [hρ] at h1; cases h1
        obtain ⟨g', cur, ety, e1, e2, e3, e4, _⟩ := h2
        cases e1
        have hl3 := e3.len
        have hl4 := h4.len
        have hrun := run g off ety cur k ys hu e2 hk h4 hc.1 (by simp at hl3; omega)
        intro Q
        refine wp_skip' hrun ⟨ρ, S, ?_, fun _ _ => rfl⟩
        refine hr.write hd hob hρ rfl (e4 rfl) (fun hk => ⟨g, _, ety, rfl, setRow_heap w g cur _ ety _ e2, ?_, e4, fun hh => by cases hh⟩) (fun w' => rfl)
        have g1 : Grows ρ ρ w (w.setRow g (splice cur.toList off (a.eval y).cells.toList).toArray) S S := ⟨fun _ _ h => h, fun _ h => h, hk⟩
        exact (e3.splice h4 off).mono fun _ _ => RepAV.grows g1
      · cases h
    · cases h
  · rename_i oo kk i j ys k e eys hk
    obtain ⟨g, n, cc, hρ, hu⟩ := one_rep hx e
    have h4 := cells_rep hy eys
    split at h
    · rename_i k' ety rows ds hob hds
      split at h
      · rename_i hc
        obtain ⟨rfl, hc2, hc3⟩ := hc
        split at h
        · rename_i rr hrr
          cases h
          have h5 := allD_rep hr hds h4
          obtain ⟨hh, h1, h2⟩ := hr.obj oo _ hob
          rw [hρ] at h1; cases h1
          obtain ⟨hkk, h3⟩ := h2
          have hi : i < rows.length := (List.getElem?_eq_some_iff.1 hrr).1
          rcases h3 with ⟨hnil, _⟩ | ⟨g', c', hc0, e1, ⟨r1, r2, r3, cur, r4, r5, r7, r6⟩, hlive, _⟩
          · subst hnil; simp at hi
          · cases e1
            have hrl : rr.length = kk := hkk rr (List.mem_of_getElem? hrr)
            have hl4 := h4.len
            have hl5 := h5.len
            have hys : ys.length = k := by rw [hl4, ← hl5, hc2]
            have hfit : i * kk + j + k ≤ cur.size := by
              have : (i + 1) * kk ≤ cc * kk := Nat.mul_le_mul_right _ (by omega)
              rw [Nat.add_mul] at this
              omega
            have hrun := run g (i * kk + j) ety cur k ys hu r4 hk h4 hys hfit
            intro Q
            refine wp_skip' hrun ⟨ρ, S, ?_, fun _ _ => rfl⟩
            refine hr.write hd hob hρ (by simp [blkOf]; omega) (hlive rfl) (fun hk => ?_) (fun w' => rfl)
            have hvl : (a.eval y).cells.toList.length = k := by rw [← hl5, hc2]
            have hle : i * kk + j + (a.eval y).cells.toList.length ≤ cur.toList.length := by rw [hvl]; simpa using hfit
            have hsl : (splice rr j ds).length = kk := by rw [splice_len (by omega), hrl]
            refine ⟨fun q hq => ?_,   .inr ⟨g, cc, hc0, by simp, ⟨by simpa using r1, r2, r3, _, setRow_heap w g cur _ ety _ r4, by simp only [List.size_toArray]; rw [splice_len hle]; simpa using r5, (r7.mono (fun _ h => h) hk).splice (fun v hv => let ⟨_, _, hd⟩ := h5.mem_right v hv; ⟨_, hd.mono (fun _ h => h) hk⟩) _, fun i' j' q d hi' hj' => ?_⟩, hlive, fun hh => by cases hh⟩⟩
            · rcases List.mem_or_eq_of_mem_set hq with hq | rfl
              · exact hkk q hq
              · exact hsl
            · simp only [List.getElem?_toArray]
              have hj'k : j' < kk := by
                have := (List.getElem?_eq_some_iff.1 hj').1
                have hql : q.length = kk := by
                  rcases List.mem_or_eq_of_mem_set (List.mem_of_getElem? hi') with hq | rfl
                  · exact hkk q hq
                  · exact hsl
                omega
              rw [splice_get hle, hvl]
              rw [List.getElem?_set] at hi'
              split at hi'
              · rename_i hii
                subst hii
                first | (rw [if_pos hi] at hi'; cases hi') | cases hi'
                rw [splice_get (by omega), hc2] at hj'
                by_cases hb1 : j' < j
                · rw [if_pos hb1] at hj'
                  rw [if_pos (by omega)]
                  obtain ⟨u, hu, hru⟩ := r6 _ _ _ _ hrr hj'
                  exact ⟨u, by simpa using hu, hru.mono (fun _ h => h) hk⟩
                · rw [if_neg hb1] at hj'
                  rw [if_neg (by omega)]
                  by_cases hb2 : j' < j + k
                  · rw [if_pos hb2] at hj'
                    rw [if_pos (by omega)]
                    obtain ⟨u, hu, hru⟩ := h5.get hj'
                    refine ⟨u, ?_, hru.mono (fun _ h => h) hk⟩
                    rw [← hu]
                    congr 1
                    omega
                  · rw [if_neg hb2] at hj'
                    rw [if_neg (by omega)]
                    obtain ⟨u, hu, hru⟩ := r6 _ _ _ _ hrr hj'
                    exact ⟨u, by simpa using hu, hru.mono (fun _ h => h) hk⟩
              · rename_i hii
                obtain ⟨u, hu, hru⟩ := r6 _ _ _ _ hi' hj'
                refine ⟨u, ?_, hru.mono (fun _ h => h) hk⟩
                have hne : ¬ (i * kk + j ≤ i' * kk + j' ∧ i' * kk + j' < i * kk + j + k) := by
                  rintro ⟨q1, q2⟩
                  rcases Nat.lt_trichotomy i i' with h7 | h7 | h7
                  · have : (i + 1) * kk ≤ i' * kk := Nat.mul_le_mul_right _ h7
                    rw [Nat.add_mul] at this
                    omega
                  · exact hii h7
                  · have : (i' + 1) * kk ≤ i * kk := Nat.mul_le_mul_right _ h7
                    rw [Nat.add_mul] at this
                    omega
                split
                · simpa using hu
                · rw [if_neg (by omega)]
                  simpa using hu
        · cases h
      · cases h
    · cases h

end
end Go.Eng
namespace Go.Eng

section
variable {P : Program} {Γ : Ctx} {c : Base} {nt : Nat} {env : Nat → AT} {ob : Nat → Option AObj} {ρ : Where} {S : Nat → Prop} {a : Act} {w : World}
variable {N : Nat} {o : Oper} {r : AOut}

theorem rows_own (hr : Rel c nt env ob ρ S a w) {oo k : Nat} {ety : TypeId} {rows : List (List D)} {live : Bool} {A : Option Addr} {n cc : Nat} (hob : ob oo = some (.row k ety rows live)) (hρ : ρ oo = some (.slice A n cc)) :
    n = rows.length ∧ rows.length ≤ cc ∧ ∃ us, Flat w S k rows us ∧ ∀ (j : Nat) (v : Value), us[j]? = some v → ∃ ad, A = some ad ∧ w.cell? (ad.add j) = some v := by
  obtain ⟨hh, h1, h2⟩ := hr.obj oo _ hob
  rw [hρ] at h1; cases h1
  obtain ⟨hk, h3⟩ := h2
  rcases h3 with ⟨rfl, A', e⟩ | ⟨g, c', hc0, e, ⟨r1, r2, r3, cur, r4, r5, _, r6⟩, _, _⟩
  · cases e
    exact ⟨rfl, Nat.le_refl _, [], ⟨by simp, by simp, fun i j r d hi _ => by simp at hi⟩, fun j v hv => by simp at hv⟩
  · cases e
    have hle : rows.length * k ≤ cc * k := Nat.mul_le_mul_right _ r1
    refine ⟨rfl, r1, cur.toList.take (rows.length * k), ⟨by simp; omega, hk, fun i j r d hi hj => ?_⟩, fun j v hv => ?_⟩
    · obtain ⟨u, hu, hru⟩ := r6 i j r d hi hj
      have hil : i < rows.length := (List.getElem?_eq_some_iff.1 hi).1
      have hjk : j < k := by
        have := (List.getElem?_eq_some_iff.1 hj).1
        rwa [hk r (List.mem_of_getElem? hi)] at this
      refine ⟨u, ?_, hru⟩
      rw [List.getElem?_take, if_pos (row_lt hil hjk)]
      simpa using hu
    · rw [List.getElem?_take] at hv
      split at hv
      · refine ⟨_, rfl, ?_⟩
        rw [add_lit, cell_of_row w g _ cur ety (0, 0) r4]
        simpa using hv
      · cases hv

theorem Flat.window {k : Nat} {rows : List (List D)} {us : List Value} (h : Flat w S k rows us) {lo n : Nat} (hn : lo + n ≤ rows.length) : Flat w S k ((rows.drop lo).take n) ((us.drop (lo * k)).take (n * k)) := by
  have h1 : (lo + n) * k ≤ rows.length * k := Nat.mul_le_mul_right _ hn
  rw [Nat.add_mul] at h1
  have hl := h.len
  have hlen : ((rows.drop lo).take n).length = n := by simp; omega
  have hl2 : ((us.drop (lo * k)).take (n * k)).length = n * k := by rw [List.length_take, List.length_drop]; omega
  refine ⟨by rw [hl2, hlen], fun r hr => h.rowLen r (List.mem_of_mem_drop (List.mem_of_mem_take hr)), fun i j r d hi hj => ?_⟩
  rw [List.getElem?_take] at hi
  split at hi
  · rename_i hin
    rw [List.getElem?_drop] at hi
    obtain ⟨u, hu, hru⟩ := h.get _ j r d hi hj
    have hjk : j < k := by
      have h2 := (List.getElem?_eq_some_iff.1 hj).1
      rwa [h.rowLen r (List.mem_of_getElem? hi)] at h2
    refine ⟨u, ?_, hru⟩
    rw [List.getElem?_take, if_pos (row_lt hin hjk), List.getElem?_drop, ← hu]
    congr 1
    rw [Nat.add_mul]
    omega
  · cases hi

/-- A slice that is read: its header, its cells laid end to end. -/
theorem rows_src (hr : Rel c nt env ob ρ S a w) {x : AV} {u : Value} {k : Nat} {rows : List (List D)} {tc : List Nat} (h : rowsOf ob x = some (k, rows, tc)) (hx : RepAV ρ w S x u) :
    ∃ A cc us, u = .slice A rows.length cc ∧ rows.length ≤ cc ∧ Flat w S k rows us ∧ ∀ (j : Nat) (v : Value), us[j]? = some v → ∃ ad, A = some ad ∧ w.cell? (ad.add j) = some v := by
  have nil : ∀ A, ∃ A' cc us, (Value.slice A 0 0) = .slice A' ([] : List (List D)).length cc ∧ ([] : List (List D)).length ≤ cc ∧ Flat w S k [] us ∧ ∀ (j : Nat) (v : Value), us[j]? = some v → ∃ ad, A' = some ad ∧ w.cell? (ad.add j) = some v :=
    fun A => ⟨A, 0, [], rfl, Nat.le_refl _, ⟨by simp, by simp, fun i j r d hi _ => by simp at hi⟩, fun j v hv => by simp at hv⟩
  unfold rowsOf at h
  split at h
  · rename_i k' rows'
    cases h
    have hx' : Rep w S (.vec k rows) u := hx
    cases hx' with
    | vec _ _ A cc uf hc hm hk hcell hrep =>
      have key : ∀ m, m < rows.length * k → 0 < k ∧ m / k < rows.length ∧ m % k < k := fun m hm => by
        have hk0 : 0 < k := Nat.pos_of_ne_zero (fun h0 => by subst h0; simp at hm)
        refine ⟨hk0, ?_, Nat.mod_lt _ hk0⟩
        rw [Nat.div_lt_iff_lt_mul hk0]; exact hm
      refine ⟨A, cc, (List.range (rows.length * k)).map (fun m => uf (m / k) (m % k)), rfl, hc, ⟨by simp, hk, fun i j r d hi hj => ?_⟩, fun j v hv => ?_⟩
      · have hil : i < rows.length := (List.getElem?_eq_some_iff.1 hi).1
        have hjk : j < k := by
          have := (List.getElem?_eq_some_iff.1 hj).1
          rwa [hk r (List.mem_of_getElem? hi)] at this
        refine ⟨uf i j, ?_, hrep i j r d hi hj⟩
        rw [List.getElem?_map, List.getElem?_range (row_lt hil hjk)]
        simp only [Option.map_some]
        have h1 : (i * k + j) / k = i := by rw [Nat.mul_comm, Nat.mul_add_div (by omega), Nat.div_eq_of_lt hjk]; omega
        have h2 : (i * k + j) % k = j := by rw [Nat.mul_comm, Nat.mul_add_mod, Nat.mod_eq_of_lt hjk]
        rw [h1, h2]
      · simp only [List.getElem?_map, Option.map_eq_some_iff] at hv
        obtain ⟨m, hm', rfl⟩ := hv
        have hj : j < rows.length * k := by
          have := (List.getElem?_eq_some_iff.1 hm').1
          simpa using this
        rw [List.getElem?_range hj] at hm'
        cases hm'
        obtain ⟨h1, h2, h3⟩ := key j hj
        obtain ⟨ad, e, _, hcl⟩ := hcell (j / k) (j % k) h2 h3
        refine ⟨ad, e, ?_⟩
        rw [← hcl]
        congr 2
        rw [Nat.mul_comm]
        exact (Nat.div_add_mod j k).symm
  · cases h
    obtain ⟨A, rfl⟩ := hx
    exact nil A
  · rename_i oo
    split at h
    · rename_i k' ety rows' live hob
      cases h
      obtain ⟨hρ, A, n, cc, rfl⟩ := hx
      obtain ⟨rfl, h2, us, h3, h4⟩ := rows_own hr hob hρ
      exact ⟨A, cc, us, rfl, h2, h3, h4⟩
    · cases h
  · rename_i oo k2 lo n
    split at h
    · rename_i k' ety rows' live hob
      split at h
      · rename_i hc
        obtain ⟨rfl, hc⟩ := hc
        cases h
        obtain ⟨A, m, cc, A', hρ, rfl, hA⟩ := hx
        obtain ⟨rfl, h2, us, h3, h4⟩ := rows_own hr hob hρ
        have hlen : ((rows'.drop lo).take n).length = n := by simp; omega
        have h5 := h3.window hc
        refine ⟨A', cc - lo, _, by rw [hlen], by rw [hlen]; omega, h5, fun j v hv => ?_⟩
        have hjn : j < n * k := by
          have := (List.getElem?_eq_some_iff.1 hv).1
          rw [h5.len, hlen] at this
          exact this
        rw [List.getElem?_take, if_pos hjn, List.getElem?_drop] at hv
        obtain ⟨ad, e, h6⟩ := h4 _ v hv
        subst e
        have hn0 : 0 < n := Nat.pos_of_ne_zero (fun h0 => by subst h0; simp at hjn)
        refine ⟨_, hA (by omega), ?_⟩
        rw [add_add]
        exact h6
      · cases h
    · cases h
  · rename_i oo k2 lo n
    split at h
    · rename_i k' ety rows' live hob
      split at h
      · rename_i hc
        obtain ⟨rfl, hc⟩ := hc
        cases h
        obtain ⟨A, cc, A', hρ, rfl, hA⟩ := hx
        obtain ⟨h2, _, us, h3, h4⟩ := rows_own hr hob hρ
        have hlen : ((rows'.drop lo).take n).length = n := by simp; omega
        have h5 := h3.window hc
        refine ⟨A', cc - lo, _, by rw [hlen], by rw [hlen]; omega, h5, fun j v hv => ?_⟩
        have hjn : j < n * k := by
          have := (List.getElem?_eq_some_iff.1 hv).1
          rw [h5.len, hlen] at this
          exact this
        rw [List.getElem?_take, if_pos hjn, List.getElem?_drop] at hv
        obtain ⟨ad, e, h6⟩ := h4 _ v hv
        subst e
        have hn0 : 0 < n := Nat.pos_of_ne_zero (fun h0 => by subst h0; simp at hjn)
        refine ⟨_, hA (by omega), ?_⟩
        rw [add_add]
        exact h6
      · cases h
    · cases h
  · cases h

theorem sound_len (hΓ : CtxOk P Γ) (hr : Rel c nt env ob ρ S a w) (hd : dstOk nt o.dst = true) {cl : Call} (ho : o.op = .call cl) (hb : cl.callee = .builtin .len) (h : aop0 Γ N (aval Γ env) ob o = some r) : Goes P c nt N env ob ρ a w o r := by
  simp only [aop0, ho, hb] at h
  split at h
  · rename_i x t ex et
    have hx := eval_rep (Γ := Γ) hr t x
    have hargs : cl.args.map a.eval = #[a.eval x] := by
      apply Array.ext'; simp [ex]
    have htys : cl.argTypes = #[t] := by
      apply Array.ext'; simp [et]
    split at h
    · rename_i v ti ev hti
      have h1 := one_rep hx ev
      have hdd := (hΓ.ty t ti hti).desc
      split at h
      · rename_i hde
        rw [hde] at hdd
        have hund : P.underlying t = some .string := hdd
        split at h
        · rename_i s
          cases h
          have hu := v_rep (ρ := ρ) (w := w) (S := S) ⟨_, rfl, h1⟩
          exact goes_value hr hd (v := .int .i64 s.size) (by simp [execOp, ho, resolve, hb, invoke, builtin, hargs, htys, hu, Builtin.len_, run_underlying hund, goInt]) (rep_int _ _)
        · cases h
      · rename_i e hde
        rw [hde] at hdd
        have hund : P.underlying t = some (.slice e) := hdd
        simp only [Option.map_eq_some_iff] at h
        obtain ⟨⟨k, rows, tc'⟩, hrows, rfl⟩ := h
        obtain ⟨A, cc, us, hu, _⟩ := rows_src hr hrows h1
        exact goes_value hr hd (v := .int .i64 rows.length) (by simp [execOp, ho, resolve, hb, invoke, builtin, hargs, htys, hu, Builtin.len_, run_underlying hund, goInt]) (rep_int _ _)
      · cases h
    · cases h
  · cases h

theorem opt_rep (hr : Rel c nt env ob ρ S a w) {d : Nat} {x : Option Operand} {n : Int} (h : optInt (aval Γ env) d x = some n) :
    (x = none ∧ n = d) ∨ ∃ y k, x = some y ∧ a.eval y = .int k n := by
  cases x with
  | none => simp only [optInt, Option.some.injEq] at h; exact .inl ⟨rfl, h.symm⟩
  | some y =>
    obtain ⟨k, hk⟩ := int_rep (eval_rep (Γ := Γ) hr 0 y) h
    exact .inr ⟨y, k, rfl, hk⟩

theorem run_bound {k : IntKind} {n : Int} {y : Nat} {code : BoundsCode} (h : 0 ≤ n ∧ n ≤ y) (w : World) : (Instr.sliceBound (.int k n) y code).run P w = .ok n.toNat w := by
  simp [Instr.sliceBound, asIntOf, h]

theorem run_bounds (hr : Rel c nt env ob ρ S a w) {b : Bool} {len cap : Nat} {lo hi : Option Operand} {l h : Int} (hl : optInt (aval Γ env) 0 lo = some l) (hh : optInt (aval Γ env) len hi = some h) (h1 : 0 ≤ l) (h2 : l ≤ h) (h3 : h ≤ cap) (_hlc : len ≤ cap) :
    (Instr.sliceBounds b len cap (lo.map a.eval) (hi.map a.eval) none).run P w = .ok (l.toNat, h.toNat, cap) w := by
  rcases opt_rep hr hl with ⟨rfl, rfl⟩ | ⟨y, k, rfl, hy⟩ <;> rcases opt_rep hr hh with ⟨rfl, rfl⟩ | ⟨y', k', rfl, hy'⟩
  · simp [Instr.sliceBounds]
  · simp [Instr.sliceBounds, hy', run_bound (P := P) (w := w) (k := k') (n := h) (y := cap) ⟨by omega, h3⟩]
  · simp [Instr.sliceBounds, hy, run_bound (P := P) (w := w) (k := k) (n := l) (y := len) ⟨h1, h2⟩]
  · have h4 : l ≤ (h.toNat : Nat) := by omega
    simp [Instr.sliceBounds, hy, hy', run_bound (P := P) (w := w) (k := k') (n := h) (y := cap) ⟨by omega, h3⟩, run_bound (P := P) (w := w) (k := k) (n := l) (y := h.toNat) ⟨h1, h4⟩]

theorem run_bounds3 (hr : Rel c nt env ob ρ S a w) {b : Bool} {len cap : Nat} {lo : Option Operand} {hi m : Operand} {l h n : Int} (hl : optInt (aval Γ env) 0 lo = some l) (hh : (aval Γ env 0 hi).int? = some h) (hm : (aval Γ env 0 m).int? = some n) (h1 : 0 ≤ l) (h2 : l ≤ h) (h3 : h ≤ n) (h4 : n ≤ cap) :
    (Instr.sliceBounds b len cap (lo.map a.eval) (some (a.eval hi)) (some (a.eval m))).run P w = .ok (l.toNat, h.toNat, n.toNat) w := by
  obtain ⟨kh, eh⟩ := int_rep (eval_rep (Γ := Γ) hr 0 hi) hh
  obtain ⟨km, em⟩ := int_rep (eval_rep (Γ := Γ) hr 0 m) hm
  have h5 : h ≤ (n.toNat : Nat) := by omega
  have h6 : l ≤ (h.toNat : Nat) := by omega
  rcases opt_rep hr hl with ⟨rfl, rfl⟩ | ⟨y, k, rfl, hy⟩
  · simp [Instr.sliceBounds, eh, em, run_bound (P := P) (w := w) (k := km) (n := n) (y := cap) ⟨by omega, h4⟩, run_bound (P := P) (w := w) (k := kh) (n := h) (y := n.toNat) ⟨by omega, h5⟩]
  · simp [Instr.sliceBounds, eh, em, hy, run_bound (P := P) (w := w) (k := km) (n := n) (y := cap) ⟨by omega, h4⟩, run_bound (P := P) (w := w) (k := kh) (n := h) (y := n.toNat) ⟨by omega, h5⟩, run_bound (P := P) (w := w) (k := k) (n := l) (y := h.toNat) ⟨h1, h6⟩]

theorem sl3_rep {k l h m : Nat} {x : AV} {A : Option Addr} {n cc : Nat} {u : Value} (h1 : RepAV ρ w S x u) (hu : u = .slice A n cc) (hl : l ≤ h) (hh : h ≤ m) (hm : m ≤ n) :
    RepT ρ w S (sl3 k l h m x) (.slice (if m = l then A else A.map (·.add (l * k))) (h - l) (m - l)) := by
  unfold sl3
  split
  · rename_i k3 rows3
    split
    · rename_i hc
      obtain ⟨rfl, hlm⟩ := hc
      have h2 : Rep w S (.vec k3 rows3) u := h1
      subst hu
      generalize hv : Value.slice A n cc = v at h2
      cases h2 with
      | vec _ _ A' c' uf q1 q2 q3 q4 q5 =>
        cases hv
        have hlen : ((rows3.take h).drop l).length = h - l := by simp; omega
        refine ⟨_, rfl, ?_⟩
        rw [if_neg (by omega)]
        show Rep w S (.vec k3 ((rows3.take h).drop l)) (.slice (A.map (·.add (l * k3))) (h - l) (m - l))
        rw [← hlen]
        refine .vec k3 _ _ _ (fun i j => uf (l + i) j) (by omega) (by omega) (fun r hr => q3 r (List.mem_of_mem_take (List.mem_of_mem_drop hr))) (fun i j hi hj => ?_) (fun i j r d hi hj => ?_)
        · rw [hlen] at hi
          obtain ⟨ad, rfl, hS, hcl⟩ := q4 (l + i) j (by omega) hj
          refine ⟨_, rfl, by rw [block_add]; exact hS, ?_⟩
          rw [add_add, ← hcl]
          congr 2
          rw [Nat.add_mul]
          omega
        · rw [List.getElem?_drop, List.getElem?_take] at hi
          split at hi
          · exact q5 _ j r d hi hj
          · cases hi
    · trivial
  · trivial

theorem sound_slice (hΓ : CtxOk P Γ) (hr : Rel c nt env ob ρ S a w) (hd : dstOk nt o.dst = true) {t : TypeId} {x : Operand} {lo hi mx : Option Operand} (ho : o.op = .slice t x lo hi mx) (h : aop0 Γ N (aval Γ env) ob o = some r) : Goes P c nt N env ob ρ a w o r := by
  simp only [aop0, ho] at h
  have hx := eval_rep (Γ := Γ) hr t x
  split at h
  · rename_i v ev
    have h1 := one_rep hx ev
    unfold sliceA at h
    split at h
    · rename_i s
      have hu := v_rep (ρ := ρ) (w := w) (S := S) ⟨_, rfl, h1⟩
      split at h
      · rename_i ti hti
        have hdd := (hΓ.ty t ti hti).desc
        split at h
        · rename_i l hh hde el eh
          rw [hde] at hdd
          have hund : P.underlying t = some .string := hdd
          split at h
          · rename_i hc
            cases h
            have hb := run_bounds (P := P) (b := false) hr el eh hc.1 hc.2.1 hc.2.2 (Nat.le_refl _)
            refine goes_value hr hd (v := .string (s.extract l.toNat hh.toNat)) ?_ (rep_string _)
            simp only [execOp, ho, Instr.sliceAt, Sem.run_bind, run_underlying hund, Result.andThen_ok, Instr.slice, hu, Option.map_none, Option.isSome_none, Bool.false_eq_true, if_false, Sem.run_pure, hb]
          · cases h
        · cases h
      · cases h
    · split at h
      · rename_i e he
        have hund := und_elem hΓ he
        split at h
        · rename_i k k2 rows2 tc hk hrows
          obtain ⟨A, cc, us, hu, hle, _⟩ := rows_src hr hrows h1
          split at h
          · rename_i m
            split at h
            · rename_i l0 m0 h0 e1 e2 e3
              split at h
              · rename_i hz
                obtain ⟨rfl, rfl, rfl⟩ := hz
                cases h
                obtain ⟨km, hm⟩ := int_rep (eval_rep (Γ := Γ) hr 0 m) e2
                cases hi with
                | none => cases e3
                | some hi' =>
                  obtain ⟨kh, hh⟩ := int_rep (eval_rep (Γ := Γ) hr 0 hi') e3
                  refine goes_value hr hd (v := .slice A 0 0) ?_ ⟨_, rfl, A, rfl⟩
                  rcases opt_rep hr e1 with ⟨rfl, _⟩ | ⟨y, ky, rfl, hy⟩
                  · simp [execOp, ho, Instr.sliceAt, run_underlying hund, Instr.slice, hu, Instr.sliceBounds, Instr.sliceBound, hm, hh, asIntOf, run_sizeOf' hΓ hk]
                  · simp [execOp, ho, Instr.sliceAt, run_underlying hund, Instr.slice, hu, Instr.sliceBounds, Instr.sliceBound, hm, hh, hy, asIntOf, run_sizeOf' hΓ hk]
              · split at h
                · rename_i hc
                  cases h
                  cases hi with
                  | none => cases e3
                  | some hi' =>
                    have hb := run_bounds3 (P := P) (b := true) (len := rows2.length) (cap := cc) hr e1 e3 e2 hc.1 hc.2.1 hc.2.2.1 (by omega)
                    refine goes_value hr hd (v := .slice (if m0.toNat = l0.toNat then A else A.map (·.add (l0.toNat * k))) (h0.toNat - l0.toNat) (m0.toNat - l0.toNat)) ?_ (sl3_rep h1 hu (by omega) (by omega) (by omega))
                    simp only [execOp, ho, Instr.sliceAt, Sem.run_bind, run_underlying hund, Result.andThen_ok, Instr.slice, hu, Option.map_some, hb, run_sizeOf' hΓ hk, Sem.run_pure]
                · cases h
            · cases h
          · split at h
            · rename_i k3 rows3 hav
              split at h
              · rename_i l hh el eh
                split at h
                · rename_i hc
                  obtain ⟨rfl, hc1, hc2, hc3⟩ := hc
                  cases h
                  have h2 := avD_rep hr hav h1
                  generalize hau : a.eval x = u at h2
                  cases h2 with
                  | vec _ _ A' c' uf q1 q2 q3 q4 q5 =>
                    have hb := run_bounds (P := P) (b := true) (cap := c') hr el eh hc1 hc2 (by omega) q1
                    have hl1 : l.toNat ≤ hh.toNat := by omega
                    have hl2 : hh.toNat ≤ rows3.length := by omega
                    have hlen : ((rows3.take hh.toNat).drop l.toNat).length = hh.toNat - l.toNat := by simp; omega
                    refine goes_value hr hd (v := .slice (if c' = l.toNat then A' else A'.map (·.add (l.toNat * k))) ((rows3.take hh.toNat).drop l.toNat).length (c' - l.toNat)) ?_ ⟨_, rfl, ?_⟩
                    · rw [hlen]
                      simp only [execOp, ho, Instr.sliceAt, Sem.run_bind, run_underlying hund, Result.andThen_ok, Instr.slice, hau, Option.map_none, hb, run_sizeOf' hΓ hk, Sem.run_pure]
                    · refine .vec k _ _ _ (fun i j => uf (l.toNat + i) j) (by omega) (by omega) (fun r hr => q3 r (List.mem_of_mem_take (List.mem_of_mem_drop hr))) (fun i j hi hj => ?_) (fun i j r d hi hj => ?_)
                      · rw [hlen] at hi
                        obtain ⟨ad, rfl, hS, hcl⟩ := q4 (l.toNat + i) j (by omega) hj
                        rw [if_neg (by omega)]
                        refine ⟨_, rfl, by rw [block_add]; exact hS, ?_⟩
                        rw [add_add, ← hcl]
                        congr 2
                        rw [Nat.add_mul]
                        omega
                      · rw [List.getElem?_drop, List.getElem?_take] at hi
                        split at hi
                        · exact q5 _ j r d hi hj
                        · cases hi
                · cases h
              · cases h
            · cases h
            · split at h
              · rename_i oo
                split at h
                · rename_i k3 ety3 rows3 live3 l hh hob el eh
                  split at h
                  · rename_i hc
                    obtain ⟨rfl, hc1, hc2, hc3⟩ := hc
                    cases h
                    obtain ⟨hρ, _⟩ := h1
                    rw [hu] at hρ
                    have hb := run_bounds (P := P) (b := true) (cap := cc) hr el eh hc1 hc2 (by omega) hle
                    refine goes_value hr hd (v := .slice (if cc = l.toNat then A else A.map (·.add (l.toNat * k))) (hh.toNat - l.toNat) (cc - l.toNat)) ?_ ⟨_, rfl, A, _, cc, _, hρ, rfl, fun hlt => by rw [if_neg (by omega)]⟩
                    simp only [execOp, ho, Instr.sliceAt, Sem.run_bind, run_underlying hund, Result.andThen_ok, Instr.slice, hu, Option.map_none, hb, run_sizeOf' hΓ hk, Sem.run_pure]
                  · cases h
                · cases h
              · rename_i oo k3 lo0 n0 _ _
                split at h
                · rename_i k4 ety3 rows3 live3 l hh hob el eh
                  split at h
                  · rename_i hc
                    obtain ⟨rfl, hc1, hc2, hc3⟩ := hc
                    cases h
                    obtain ⟨A1, m1, c1, A2, hρ, hu2, hA⟩ := h1
                    obtain ⟨rfl, h2, _⟩ := rows_own hr hob hρ
                    simp only [rowsOf, hob] at hrows
                    split at hrows
                    · rename_i hc4
                      have hlen : ((rows3.drop lo0).take n0).length = n0 := by simp; omega
                      have hb := run_bounds (P := P) (b := true) (cap := c1 - lo0) (len := n0) hr el eh hc1 hc2 (by omega) (by omega)
                      refine goes_value hr hd (v := .slice (if c1 - lo0 = l.toNat then A2 else A2.map (·.add (l.toNat * k))) (hh.toNat - l.toNat) (c1 - lo0 - l.toNat)) ?_ ⟨_, rfl, A1, _, c1, _, hρ, by rw [Nat.sub_sub], fun hlt => ?_⟩
                      · simp only [execOp, ho, Instr.sliceAt, Sem.run_bind, run_underlying hund, Result.andThen_ok, Instr.slice, hu2, Option.map_none, hb, run_sizeOf' hΓ hk, Sem.run_pure]
                      · rw [if_neg (by omega), hA (by omega), Option.map_map]
                        congr 1
                        funext ad
                        simp only [Function.comp, add_add, Nat.add_mul]
                    · cases hrows
                  · cases h
                · cases h
              · cases h
        · cases h
      · cases h
  · cases h

theorem ones_rep (hr : Rel c nt env ob ρ S a w) : ∀ {xs : List Operand} {ys : List AV}, onesOf (aval Γ env) xs = some ys → All2 (RepAV ρ w S) ys (xs.map a.eval)
  | [], ys, h => by
    simp only [onesOf, Option.some.injEq] at h
    subst h
    exact .nil
  | x :: xs, ys, h => by
    simp only [onesOf] at h
    split at h
    · rename_i y ys' hy hys
      cases h
      exact .cons (one_rep (eval_rep (Γ := Γ) hr 0 x) hy) (ones_rep hr hys)
    · cases h

theorem caps_rep (hr : Rel c nt env ob ρ S a w) : ∀ {xs : List AV} {ks : List CapV} {us : List Value}, capsOf ob xs = some ks → All2 (RepAV ρ w S) xs us → All2 (RepCap ρ w S) ks us
  | [], ks, us, h, hu => by
    simp only [capsOf, Option.some.injEq] at h
    subst h
    cases hu
    exact .nil
  | x :: xs, ks, us, h, hu => by
    cases hu with
    | cons h1 h2 =>
      have plain : (match avD ob x, capsOf ob xs with
          | some d, some ds => some (CapV.d d :: ds)
          | _, _ => none) = some ks → All2 (RepCap ρ w S) ks _ := fun h => by
        split at h
        · rename_i d ds hd hds
          cases h
          exact .cons (avD_rep hr hd h1) (caps_rep hr hds h2)
        · cases h
      cases x with
      | ptr o off =>
        simp only [capsOf, Option.map_eq_some_iff] at h
        obtain ⟨r, hr', rfl⟩ := h
        exact .cons h1 (caps_rep hr hr' h2)
      | _ => exact plain h

theorem sound_makeFunc (hr : Rel c nt env ob ρ S a w) (hd : dstOk nt o.dst = true) {f : FuncId} {first captured : Array Operand} (ho : o.op = .makeFunc (.func f) first captured) (h : aop0 Γ N (aval Γ env) ob o = some r) : Goes P c nt N env ob ρ a w o r := by
  simp only [aop0, ho] at h
  split at h
  · rename_i hf
    have hfirst : first = #[] := by apply Array.ext'; simpa using hf
    split at h
    · rename_i cs hcs
      have hones := ones_rep hr hcs
      split at h
      · rename_i ds hds
        cases h
        have h1 := allD_rep hr hds hones
        have hl := h1.len
        refine goes_value hr hd (v := .func (.func f) #[] (captured.map a.eval)) ?_ ⟨_, rfl, .fn f ds _ (by simpa using hl.symm) (fun j d u hj hu => ?_)⟩
        · simp [execOp, ho, Instr.makeFunc, hfirst]
        · obtain ⟨u', hu', hru⟩ := h1.get hj
          have : (captured.map a.eval)[j]? = some u' := by simpa using hu'
          rw [this] at hu
          cases hu
          exact hru
      · split at h
        · rename_i ks hks
          cases h
          refine goes_value hr hd (v := .func (.func f) #[] (captured.map a.eval)) ?_ ⟨_, rfl, captured.toList.map a.eval, ?_, caps_rep hr hks hones⟩
          · simp [execOp, ho, Instr.makeFunc, hfirst]
          · congr 1
            apply Array.ext'; simp
        · cases h
    · cases h
  · cases h

end
end Go.Eng
