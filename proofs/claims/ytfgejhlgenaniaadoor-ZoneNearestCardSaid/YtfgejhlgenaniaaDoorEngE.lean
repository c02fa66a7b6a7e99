/- Soundness: comparisons, fields, indexes, what is read out of memory. -/
import Derived.Test.YtfgejhlgenaniaaDoorEngD
namespace Go.Eng

section
variable {P : Program} {Γ : Ctx} {c : Base} {nt : Nat} {env : Nat → AT} {ob : Nat → Option AObj} {ρ : Where} {S : Nat → Prop} {a : Act} {w : World}
variable {N : Nat} {o : Oper} {r : AOut}

theorem run_part (hΓ : CtxOk P Γ) {t : TypeId} {cs : List AV} {us : List Value} {off : Nat} {out : AT} (hcs : All2 (RepAV ρ w S) cs us) (h : partA Γ t cs off = some out) :
    ∃ v, (part t us.toArray off).run P w = .ok v w ∧ RepT ρ w S out v := by
  unfold partA at h
  split at h
  · rename_i k ha hk
    split at h
    · rename_i hle
      cases h
      have hl := hcs.len
      refine ⟨.agg ((us.drop off).take k).toArray, ?_, ⟨_, rfl, (hcs.drop off).take k⟩⟩
      simp [part, run_isAgg' hΓ ha, run_sizeOf' hΓ hk]
    · cases h
  · rename_i k ha hk
    split at h
    · rename_i x hx
      cases h
      obtain ⟨u, hu, hru⟩ := hcs.get hx
      refine ⟨u, ?_, ⟨x, rfl, hru⟩⟩
      simp [part, run_isAgg' hΓ ha, hu]
    · cases h
  · cases h

theorem kind_run (hΓ : CtxOk P Γ) {t : TypeId} {x y : Value} {b : Bool} (hx : kindFits Γ t x = true) (hy : kindFits Γ t y = true) (h : valEq x y = some b) (d : Nat) (w : World) :
    (Op.equalIn (d + 1) t x y).run P w = .ok b w := by
  unfold kindFits at hx hy
  split at hx
  · rename_i ti hti
    have hd := (hΓ.ty t ti hti).desc
    simp only [hti] at hy
    split at hx
    · rename_i k0 k n hdd
      rw [hdd] at hd hy
      have hk' : P.underlying t = some (.int k0) := hd
      cases y with
      | int k2 n2 =>
        simp only [valEq] at h
        split at h
        · rename_i hkk
          subst hkk
          cases h
          exact run_equalIn_int w d t _ _ _ _ hk'
        · cases h
      | _ => cases hy
    · rename_i p hdd
      rw [hdd] at hd hy
      split at hy <;> first | cases hy | skip
      all_goals first | (simp_all; done) | skip
      simp only [valEq, Option.some.injEq] at h
      subst h
      exact run_equalIn_bool' w d t _ _ hd
    · rename_i s hdd
      rw [hdd] at hd hy
      split at hy <;> first | cases hy | skip
      all_goals first | (simp_all; done) | skip
      simp only [valEq, Option.some.injEq] at h
      subst h
      exact run_equalIn_string w d t _ _ hd
    · cases hx
  · cases hx

theorem part_scal (hΓ : CtxOk P Γ) {t : TypeId} {x : Value} (hx : kindFits Γ t x = true) {us : Array Value} {i : Nat} (hu : us[i]? = some x) (w : World) : (part t us i).run P w = .ok x w := by
  have ha : Γ.agg t = some false := by
    unfold kindFits at hx
    unfold Ctx.agg
    split at hx
    · rename_i ti hti
      cases hdd : ti.desc <;> simp [hdd] at hx ⊢
    · cases hx
  simp [part, run_isAgg' hΓ ha, hu]

theorem eqFields_run (hΓ : CtxOk P Γ) (d : Nat) (us vs : Array Value) : ∀ (flds : List Field) (i : Nat) (xs ys : List AV) (b : Bool), (∀ f ∈ flds, f.name ≠ "_") →
    flatScal Γ i (flds.map fun f => (f.offset, f.type)) = true → cellsEq Γ (flds.map fun f => (f.offset, f.type)) xs ys = some b →
    All2 (RepAV ρ w S) xs (us.toList.drop i) → All2 (RepAV ρ w S) ys (vs.toList.drop i) → (Op.eqFields (d + 1) us vs flds).run P w = .ok b w
  | [], i, xs, ys, b, _, _, h, _, _ => by
    cases xs <;> cases ys <;> simp [cellsEq] at h
    subst h
    simp [Op.eqFields]
  | f :: flds, i, xs, ys, b, hn, hf, h, hx, hy => by
    simp only [List.map_cons, flatScal, Bool.and_eq_true, beq_iff_eq] at hf
    obtain ⟨⟨hoff, _⟩, hf⟩ := hf
    cases xs with
    | nil => simp [cellsEq] at h
    | cons x xs =>
      cases ys with
      | nil => simp [cellsEq] at h
      | cons y ys =>
        cases x with
        | d x =>
          cases x with
          | v x =>
            cases y with
            | d y =>
              cases y with
              | v y =>
                simp only [List.map_cons, cellsEq] at h
                split at h
                · rename_i hk
                  simp only [Bool.and_eq_true] at hk
                  split at h
                  · rename_i e r' he hr'
                    cases h
                    have hxi : us[i]? = some x := by
                      obtain ⟨u, hu, hru⟩ := hx.get (i := 0) rfl
                      cases hru
                      simpa using hu
                    have hyi : vs[i]? = some y := by
                      obtain ⟨u, hu, hru⟩ := hy.get (i := 0) rfl
                      cases hru
                      simpa using hu
                    have hx' : All2 (RepAV ρ w S) xs (us.toList.drop (i + 1)) := by simpa using hx.drop 1
                    have hy' : All2 (RepAV ρ w S) ys (vs.toList.drop (i + 1)) := by simpa using hy.drop 1
                    have ih := eqFields_run hΓ d us vs flds (i + 1) xs ys r' (fun f hf => hn f (List.mem_cons_of_mem _ hf)) hf hr' hx' hy'
                    have hname := hn f (List.mem_cons_self ..)
                    simp only [Op.eqFields, hname, ne_eq, not_false_eq_true, if_true, Sem.run_bind, hoff, part_scal hΓ hk.1 hxi, part_scal hΓ hk.2 hyi, Result.andThen_ok, kind_run hΓ hk.1 hk.2 he, Sem.run_ite, ih]
                    cases e <;> simp
                  · cases h
                · cases h
              | _ => simp [cellsEq] at h
            | _ => simp [cellsEq] at h
          | _ => simp [cellsEq] at h
        | _ => simp [cellsEq] at h

theorem pt_val0 {cc : List D} {u : Value} (h : Rep w S (.pt cc) u) : ∃ ad, u = .pointer (some ad) := by
  cases h; exact ⟨_, rfl⟩

theorem sound_binOp (hΓ : CtxOk P Γ) (hr : Rel c nt env ob ρ S a w) (hd : dstOk nt o.dst = true) {op : BinOp} {t t2 : TypeId} {x y : Operand} (ho : o.op = .binOp op t x y t2) (h : aop0 Γ N (aval Γ env) ob o = some r) : Goes P c nt N env ob ρ a w o r := by
  simp only [aop0, ho, Option.map_eq_some_iff] at h
  obtain ⟨out, h, rfl⟩ := h
  have hx := eval_rep (Γ := Γ) hr t x
  have hy := eval_rep (Γ := Γ) hr t y
  unfold binA at h
  split at h
  · rename_i p eu ev
    rw [eu] at hx; rw [ev] at hy
    obtain ⟨_, he, hp⟩ := hx
    cases he
    have hv := v_rep hy
    unfold ptrNil at h
    split at h
    · rename_i b hb hdesc
      obtain ⟨ti, hti, hde⟩ : ∃ ti, Γ.ty t = some ti ∧ ti.desc = .ptr := by
        cases hti : Γ.ty t with
        | none => rw [hti] at hdesc; cases hdesc
        | some ti => rw [hti] at hdesc; exact ⟨ti, rfl, hdesc⟩
      have hdd := (hΓ.ty t ti hti).desc
      rw [hde] at hdd
      have hund : P.underlying t = some (.pointer (P.pointee t)) := hdd
      obtain ⟨q, hq, hqb⟩ : ∃ q, a.eval x = .pointer q ∧ q.isNone = !b := by
        unfold isPtr at hb
        split at hb <;> first | cases hb
        · obtain ⟨g, _, e⟩ := hp; exact ⟨_, e, rfl⟩
        · obtain ⟨g, _, _, _, e⟩ := hp; exact ⟨_, e, rfl⟩
        · obtain ⟨ad, e⟩ := pt_val0 hp; exact ⟨_, e, rfl⟩
        · exact ⟨none, v_rep ⟨_, rfl, hp⟩, rfl⟩
      split at h
      · cases h
        refine goes_value hr hd (v := .bool (!b)) ?_ (rep_bool _)
        have he : ∀ w, (Op.equal t (.pointer q) (.pointer none)).run P w = .ok (!b) w := fun w => by rw [← hqb]; exact run_equal_pointer_nil w t q hund
        simp [execOp, ho, hq, hv, eqGuard_at_pointer, binOp, he]
      · cases h
        refine goes_value hr hd (v := .bool b) ?_ (rep_bool _)
        have he : ∀ w, (Op.equal t (.pointer q) (.pointer none)).run P w = .ok (!b) w := fun w => by rw [← hqb]; exact run_equal_pointer_nil w t q hund
        simp [execOp, ho, hq, hv, eqGuard_at_pointer, binOp, he]
      · cases h
    · cases h
  · rename_i u v hno eu ev
    rw [eu] at hx; rw [ev] at hy
    have hu := v_rep hx
    have hv := v_rep hy
    split at h
    · rename_i p q
      split at h
      · rename_i ti hti
        have hdd := (hΓ.ty t ti hti).desc
        split at h
        · rename_i hde
          rw [hde] at hdd
          cases h
          refine goes_value hr hd (v := .bool (p == q)) ?_ (rep_bool _)
          have he : ∀ w, (Op.equal t (.bool p) (.bool q)).run P w = .ok (p == q) w := fun w => by
            simp only [Op.equal, Op.maxDepth]; exact run_equalIn_bool' w 9999 t p q hdd
          simp [execOp, ho, hu, hv, eqGuard_at_bool, binOp, he]
        · cases h
      · rename_i ti hti
        have hdd := (hΓ.ty t ti hti).desc
        split at h
        · rename_i hde
          rw [hde] at hdd
          cases h
          refine goes_value hr hd (v := .bool (!(p == q))) ?_ (rep_bool _)
          have he : ∀ w, (Op.equal t (.bool p) (.bool q)).run P w = .ok (p == q) w := fun w => by
            simp only [Op.equal, Op.maxDepth]; exact run_equalIn_bool' w 9999 t p q hdd
          simp [execOp, ho, hu, hv, eqGuard_at_bool, binOp, he]
        · cases h
      · cases h
    · simp only [Option.map_eq_some_iff] at h
      obtain ⟨z, hz, rfl⟩ := h
      have h2 := scal2_run (P := P) (w := w) (t := t) (x := x) (y := y) hz
      refine goes_value hr hd (v := z) ?_ ⟨_, rfl, .v _ h2.1⟩
      have h3 := h2.2
      simp only [Sem.run_bind] at h3
      simp only [execOp, ho, hu, hv, Sem.run_bind, h3, Result.andThen_ok, Sem.run_pure]
  · rename_i xs ys eu ev
    rw [eu] at hx; rw [ev] at hy
    obtain ⟨us, hu, hus⟩ := hx
    obtain ⟨vs, hv, hvs⟩ := hy
    split at h
    · rename_i fs hfs
      split at h
      · rename_i hflat
        obtain ⟨flds, hund, rfl, hn, hg, hsi, _⟩ := und_fields hΓ hfs
        have hfo : P.fieldsOf t = flds := by simp [Program.fieldsOf, hund]
        have hund' : P.underlying t = some (.struct (P.fieldsOf t)) := by rw [hfo]; exact hund
        have key : ∀ b, cellsEq Γ (flds.toList.map fun f => (f.offset, f.type)) xs ys = some b → (Op.equalIn 10000 t (.agg us.toArray) (.agg vs.toArray)).run P w = .ok b w := fun b hb => by
          rw [run_equalIn_agg w 9999 t us.toArray vs.toArray hund' hsi, hfo]
          exact eqFields_run (ρ := ρ) (S := S) hΓ 9998 us.toArray vs.toArray flds.toList 0 xs ys b hn hflat hb (by simpa using hus) (by simpa using hvs)
        split at h
        · rename_i b hb
          cases h
          refine goes_value hr hd (v := .bool b) ?_ (rep_bool _)
          simp [execOp, ho, hu, hv, run_eqGuard_agg, hg, run_eql_struct, key b hb]
        · rename_i b hb
          cases h
          refine goes_value hr hd (v := .bool (!b)) ?_ (rep_bool _)
          simp [execOp, ho, hu, hv, run_eqGuard_agg, hg, run_neq_struct, key b hb]
        · cases h
      · cases h
    · cases h
  · cases h

theorem sound_extract (hr : Rel c nt env ob ρ S a w) (hd : dstOk nt o.dst = true) {x : Operand} {i : Nat} (ho : o.op = .extract x i) (h : aop0 Γ N (aval Γ env) ob o = some r) : Goes P c nt N env ob ρ a w o r := by
  simp only [aop0, ho] at h
  have hx := eval_rep (Γ := Γ) hr 0 x
  split at h
  · rename_i ts e
    rw [e] at hx
    obtain ⟨vs, hv, hvs⟩ := hx
    split at h
    · rename_i g xs hts
      cases h
      obtain ⟨u, hu, hru⟩ := hvs.get hts
      refine goes_value hr hd (v := u) ?_ hru
      simp [execOp, ho, hv, Instr.extract, hu]
    · cases h
  · cases h

theorem sound_field (hΓ : CtxOk P Γ) (hr : Rel c nt env ob ρ S a w) (hd : dstOk nt o.dst = true) {t : TypeId} {x : Operand} {i : Nat} (ho : o.op = .field t x i) (h : aop0 Γ N (aval Γ env) ob o = some r) : Goes P c nt N env ob ρ a w o r := by
  simp only [aop0, ho] at h
  have hx := eval_rep (Γ := Γ) hr t x
  split at h
  · rename_i cells fs e hfs
    rw [e] at hx
    obtain ⟨us, hu, hus⟩ := hx
    obtain ⟨flds, hund, rfl, _⟩ := und_fields hΓ hfs
    split at h
    · rename_i off ft hi
      simp only [Option.map_eq_some_iff] at h
      obtain ⟨out, hout, rfl⟩ := h
      obtain ⟨v, hv, hrv⟩ := run_part hΓ hus hout
      refine goes_value hr hd (v := v) ?_ hrv
      simp only [List.getElem?_map, Option.map_eq_some_iff] at hi
      obtain ⟨f, hf, hfe⟩ := hi
      cases hfe
      have hf' : flds[i]? = some f := by simpa using hf
      simp [execOp, ho, hu, Instr.field, run_underlying hund, hf', asAgg, hv]
    · cases h
  · cases h

theorem pt_val {cc : List D} {u : Value} (h : Rep w S (.pt cc) u) : ∃ ad, u = .pointer (some ad) := by
  cases h; exact ⟨_, rfl⟩

theorem fn_val {f : FuncId} {cc : List D} {u : Value} (h : Rep w S (.fn f cc) u) : ∃ vs : Array Value, u = .func (.func f) #[] vs ∧ vs.size = cc.length ∧ ∀ (j : Nat) (d : D) (x : Value), cc[j]? = some d → vs[j]? = some x → Rep w S d x := by
  cases h with
  | fn _ _ vs hl hrep => exact ⟨vs, rfl, hl, hrep⟩

theorem sound_nilCheck (hr : Rel c nt env ob ρ S a w) (hd : dstOk nt o.dst = true) {x : Operand} (ho : o.op = .nilCheck x) (h : aop0 Γ N (aval Γ env) ob o = some r) : Goes P c nt N env ob ρ a w o r := by
  simp only [aop0, ho] at h
  have hx := eval_rep (Γ := Γ) hr 0 x
  split at h <;> first | cases h | skip
  · rename_i p q e
    have h1 := one_rep hx e
    obtain ⟨g, hg, hu⟩ := h1
    exact goes_value hr hd (v := a.eval x) (by simp [execOp, ho, hu]) ⟨_, rfl, g, hg, hu⟩
  · rename_i p q k l e
    have h1 := one_rep hx e
    obtain ⟨g, n, cc, hg, hu⟩ := h1
    exact goes_value hr hd (v := a.eval x) (by simp [execOp, ho, hu]) ⟨_, rfl, g, n, cc, hg, hu⟩
  · rename_i cc e
    have h1 := one_rep hx e
    obtain ⟨ad, hu⟩ := pt_val h1
    exact goes_value hr hd (v := a.eval x) (by simp [execOp, ho, hu]) ⟨_, rfl, h1⟩
  · rename_i f cc e
    have h1 := one_rep hx e
    obtain ⟨vs, hu, _⟩ := fn_val h1
    exact goes_value hr hd (v := a.eval x) (by simp [execOp, ho, hu]) ⟨_, rfl, h1⟩

theorem sound_convert (hΓ : CtxOk P Γ) (hr : Rel c nt env ob ρ S a w) (hd : dstOk nt o.dst = true) {s t : TypeId} {x : Operand} (ho : o.op = .convert s t x) (h : aop0 Γ N (aval Γ env) ob o = some r) : Goes P c nt N env ob ρ a w o r := by
  simp only [aop0, ho] at h
  have hx := eval_rep (Γ := Γ) hr s x
  split at h
  · rename_i b si ti e hs ht
    rw [e] at hx
    have hu := v_rep hx
    split at h
    · rename_i d1 d2
      cases h
      have h1 := (hΓ.ty s si hs).desc
      have h2 := (hΓ.ty t ti ht).desc
      rw [d1] at h1; rw [d2] at h2
      refine goes_value hr hd (v := .string b) ?_ (rep_string _)
      simp [execOp, ho, hu, convert, run_underlying h1, run_underlying h2]
    · cases h
  · rename_i kk n si ti e hs ht
    rw [e] at hx
    have hu := v_rep hx
    split at h
    · rename_i k0 k d1 d2
      cases h
      have h1 := (hΓ.ty s si hs).desc
      have h2 := (hΓ.ty t ti ht).desc
      rw [d1] at h1; rw [d2] at h2
      refine goes_value hr hd (v := .int k (k.wrap n)) ?_ (rep_int _ _)
      simp [execOp, ho, hu, convert, run_underlying h1, run_underlying h2, Conv.intToInt]
    · cases h
  · cases h

theorem sound_index (hΓ : CtxOk P Γ) (hr : Rel c nt env ob ρ S a w) (hd : dstOk nt o.dst = true) {t : TypeId} {x i : Operand} (ho : o.op = .index t x i) (h : aop0 Γ N (aval Γ env) ob o = some r) : Goes P c nt N env ob ρ a w o r := by
  simp only [aop0, ho] at h
  have hx := eval_rep (Γ := Γ) hr t x
  have hi := eval_rep (Γ := Γ) hr 0 i
  split at h
  · rename_i b n ti e en ht
    rw [e] at hx
    have hu := v_rep hx
    obtain ⟨k, hi⟩ := int_rep hi en
    split at h
    · rename_i d1
      have h1 := (hΓ.ty t ti ht).desc
      rw [d1] at h1
      split at h
      · rename_i hn
        simp only [Option.map_eq_some_iff] at h
        obtain ⟨z, hz, rfl⟩ := h
        refine goes_value hr hd (v := .int .u8 z.toNat) ?_ (rep_int _ _)
        simp [execOp, ho, hu, hi, Instr.index, asIntOf, run_underlying h1, hn, hz]
      · cases h
    · cases h
  · cases h

theorem foldInts_run {k : IntKind} {g : Int → Int → Int} {m2 : Value → Value → Sem Value} (hm : ∀ x y w, (m2 (.int k x) (.int k y)).run P w = .ok (.int k (g x y)) w) :
    ∀ (ts : List AT) (us : List Value) (x n : Int), foldInts g k x ts = some n → All2 (RepT ρ w S) ts us → (us.foldlM m2 (.int k x)).run P w = .ok (.int k n) w
  | [], us, x, n, h, hu => by
    cases hu
    simp only [foldInts, Option.some.injEq] at h
    subst h
    simp
  | t :: ts, us, x, n, h, hu => by
    cases hu with
    | cons h1 h2 =>
      unfold foldInts at h
      split at h
      · simp at *
      · rename_i e
        cases e
        split at h
        · rename_i hk
          subst hk
          have := v_rep h1
          subst this
          simp only [List.foldlM_cons, Sem.run_bind, hm, Result.andThen_ok]
          exact foldInts_run hm ts _ _ n h h2
        · cases h
      · cases h

theorem evals_rep (hr : Rel c nt env ob ρ S a w) (t : TypeId) : ∀ xs : List Operand, All2 (RepT ρ w S) (xs.map (aval Γ env t)) (xs.map a.eval)
  | [] => .nil
  | x :: xs => .cons (eval_rep hr t x) (evals_rep hr t xs)

theorem sound_minmax (hr : Rel c nt env ob ρ S a w) (hd : dstOk nt o.dst = true) {cl : Call} (ho : o.op = .call cl) (hb : cl.callee = .builtin .max ∨ cl.callee = .builtin .min) (h : aop0 Γ N (aval Γ env) ob o = some r) : Goes P c nt N env ob ρ a w o r := by
  have he := evals_rep (Γ := Γ) hr o.type cl.args.toList
  have hargs : cl.args.map a.eval = (cl.args.toList.map a.eval).toArray := by
    apply Array.ext'; simp
  rcases hb with hb | hb
  all_goals
    simp only [aop0, ho, hb] at h
    split at h
    · rename_i k x rest e
      rw [e] at he
      simp only [Option.map_eq_some_iff] at h
      obtain ⟨n, hn, rfl⟩ := h
      cases hus : cl.args.toList.map a.eval with
      | nil => rw [hus] at he; cases he
      | cons u us =>
        rw [hus] at he
        cases he with
        | cons h1 h2 =>
          have := v_rep h1
          subst this
          refine goes_value hr hd (v := .int k n) ?_ (rep_int _ _)
          first
            | (have h3 := foldInts_run (P := P) (k := k) (m2 := Builtin.max2) (g := fun x y => if x < y then y else x) (fun x y w => by simp [Builtin.max2]) rest us x n hn h2
               simp [execOp, ho, resolve, hb, invoke, builtin, hargs, hus, Builtin.max_, h3]; done)
            | (have h3 := foldInts_run (P := P) (k := k) (m2 := Builtin.min2) (g := fun x y => if y < x then y else x) (fun x y w => by simp [Builtin.min2]) rest us x n hn h2
               simp [execOp, ho, resolve, hb, invoke, builtin, hargs, hus, Builtin.min_, h3]; done)
    · cases h

end
end Go.Eng
