/- A call of two arguments by a contract, a box being made still ahead of it. -/
import Derived.Test.YtbgcpopmippbiaaGreatDoorQB
namespace Go.Eng

theorem hcall_meets2 {E : Sit} (_hE : SitOk E) {f : FuncId} {g1 g2 : Bool} {x1 x2 : List AV} {objs objs2 : List (Nat × Option AObj)} {next : Nat} {K : AT → List (Nat × Option AObj) → Nat → Prop} (b : Nat)
    (hfz : (⟨2, [(0, .cs g1 x1), (1, .cs g2 x2)], objs, next⟩ : St).freeze b = some ⟨2, [(0, .cs g1 x1), (1, .cs g2 x2)], objs2, next⟩) {es : List Bool} {cargs : List (Bool × List CV)} {res : Res} {t : AT} {news : List (Nat × Option AObj)}
    (hconv : convArgs (getO objs2) es [(g1, x1), (g2, x2)] = some cargs) (hm : Meets E.P f cargs res) (hout : res.out next = some (t, news)) (hok : callOk (getO objs2) es [(g1, x1), (g2, x2)] news.length = true)
    (hK : K t (news ++ callUpd (getO objs2) es [(g1, x1), (g2, x2)] res.scalar ++ objs2) (next + 8)) : HCall E f [(g1, x1), (g2, x2)] objs next K := by
  refine ⟨hm.1, fun c ρ S w vals _ hr hfr hall => ?_⟩
  obtain ⟨u1, u2, rfl, hu1, hu2⟩ : ∃ u1 u2, vals = [u1, u2] ∧ RepC ρ w S g1 x1 u1 ∧ RepC ρ w S g2 x2 u2 := by
    cases hall with
    | cons h1 h2 => cases h2 with
      | cons h3 h4 => cases h4; exact ⟨_, _, rfl, h1, h3⟩
  have hr1 : RelE c ⟨2, [(0, .cs g1 x1), (1, .cs g2 x2)], objs, next⟩ next { tmps := #[u1, u2], defers := [] } w := by
    refine ⟨ρ, S, ⟨hr.defers, rfl, fun t => ?_, hr.obj, hr.sep, hr.place, hr.os, hr.tape, hr.output, hr.hsize, hr.same, hr.lim, hr.sub, hr.foot, hr.pin, hr.clim, hr.lay⟩, hfr⟩
    match t with
    | 0 => exact hu1
    | 1 => exact hu2
    | t + 2 => trivial
  obtain ⟨ρ', S', hr2, hfr2⟩ := RelE.freeze hfz hr1
  have hgo := sound_call (o := ⟨some 0, .call ⟨.value (.func f), #[.tmp 0, .tmp 1], #[0, 0]⟩, 0, "", #[], none⟩) (N := next) (Γ := E.Γ) hr2 (fun n h1 _ => hfr2 n h1) rfl rfl hconv hm hout hok (fun _ _ _ => False)
  unfold Oper.wp at hgo
  have hrun : (execOp ({ tmps := #[u1, u2], defers := [] } : Act).eval ⟨some 0, .call ⟨.value (.func f), #[.tmp 0, .tmp 1], #[0, 0]⟩, 0, "", #[], none⟩).run E.P w = .ok (.enter f #[u1, u2]) w := by
    obtain ⟨vals, h1, h2, _⟩ := callArgs_run (P := E.P) (o := ⟨some 0, .call ⟨.value (.func f), #[.tmp 0, .tmp 1], #[0, 0]⟩, 0, "", #[], none⟩) (Γ := E.Γ) (f := f) (A := [(g1, x1), (g2, x2)]) hr2 rfl
    have h3 := hm.1 #[u1, u2] w
    simp [execOp, resolve, Act.eval, Deferred.ofValue, invoke, h3]
  rw [hrun, Oper.upon_enter] at hgo
  refine hgo.mono ?_
  intro e w' he
  cases e with
  | returned v =>
    obtain ⟨ρ3, S3, hr3, hfr3⟩ := he
    refine ⟨v, t, news ++ callUpd (getO objs2) es [(g1, x1), (g2, x2)] res.scalar ++ objs2, next + 8, ρ3, S3, rfl, ?_, fun n hn => (hfr3 n (.inr hn)).trans (hfr2 n (Nat.le_trans (Nat.le_add_right _ _) hn)), ?_, hK⟩
    · unfold RelH
      rw [getO_upd]
      exact ⟨hr3.defers, rfl, fun _ => trivial, hr3.obj, hr3.sep, hr3.place, hr3.os, hr3.tape, hr3.output, hr3.hsize, hr3.same, hr3.lim, hr3.sub, hr3.foot, hr3.pin, hr3.clim, hr3.lay⟩
    · have := hr3.env 0
      simpa [putF, Act.put] using this
  | panicked ch => exact he.elim
  | outgrown =>
    obtain ⟨_, _, h⟩ := he
    exact h.elim
/-- The like, at a call. -/
theorem callZ2 (b : Nat) (es : List Bool) {E : Sit} (hE : SitOk E) {R : Reg} {acc : List Ft} {st : St} {j : Nat} {f : FuncId} {g1 g2 : Bool} {x1 x2 : List AV} {cv : Option (List (Bool × List CV))} {Kp : Kop} {KH : AT → List (Nat × Option AObj) → Nat → Prop} (hd : R.draw = false)
    (h : vo ((⟨2, [(0, .cs g1 x1), (1, .cs g2 x2)], st.objs, R.N + 8 * j⟩ : St).freeze b) fun s2 => s2.nt = 2 ∧ s2.env = [(0, .cs g1 x1), (1, .cs g2 x2)] ∧ s2.next = R.N + 8 * j ∧ vo (convArgs (getO s2.objs) es [(g1, x1), (g2, x2)]) fun cargs => ∃ res, Meets E.P f cargs res ∧ vo (res.out (R.N + 8 * j)) fun q =>
      callOk (getO s2.objs) es [(g1, x1), (g2, x2)] q.2.length = true ∧ KH q.1 (q.2 ++ callUpd (getO s2.objs) es [(g1, x1), (g2, x2)] res.scalar ++ s2.objs) (R.N + 8 * j + 8)) : VCall E R acc st j (some (f, [(g1, x1), (g2, x2)])) cv Kp KH := by
  obtain ⟨⟨nt, env, objs2, nx⟩, h1, rfl, rfl, rfl, cargs, h2, res, hm, q, h3, h4, h5⟩ := h
  exact callH hd (hcall_meets2 hE b h1 h2 hm h3 h4 h5)
end Go.Eng
