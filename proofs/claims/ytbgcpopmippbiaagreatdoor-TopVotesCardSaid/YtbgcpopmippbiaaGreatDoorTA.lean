/- Plain laws of a net that has a name's zone behind a cut. Plain laws of that net: what is found, what votes. -/
import Derived.Test.YtbgcpopmippbiaaGreatDoorNL
namespace Go.Proofs.YtbgcpopmippbiaaGreatDoor
open Go.Eng
set_option linter.unusedSimpArgs false
set_option maxRecDepth 10000

def nsR (nm : Bs) : Rec := ⟨nm, 3, [49], 9⟩
/-- A net as one sees it whose view of the servers 0 and 1 is not bent: the root cuts at a name, whose zone is at server 1. -/
structure Td (n : Nt) (nm : Bs) (R : List Rec) (at_ : Int) : Prop where
  chk : chkN n = 0
  lo : -1 ≤ at_
  hi : at_ < n.N
  z0 : svF n 0 = some ⟨0, [⟨[], [nsR nm]⟩]⟩
  z1 : svF n 1 = some ⟨1, [⟨nm, R⟩]⟩
  b0 : bnF n ⟨at_, 0, 0⟩ = none
  b1 : bnF n ⟨at_, 1, 0⟩ = none
  nm_ : isName nm = true
  c0 : checkV [] [nsR nm] = 0
  c1 : checkV nm R = 0
theorem best_one {z : Zn} {s : Bs} (hs : isName s = true) (hu : underB s z.A = true) (hc : checkV z.A z.R = 0) : bestV [z] s = some 0 := by
  unfold bestV
  rw [if_pos hs]
  show bestAt [z] s 1 = some 0
  unfold bestAt
  simp only [List.getElem?_cons_zero]
  rw [if_pos]
  unfold takesB
  rw [hu]
  unfold bestAt
  simp [hc]
theorem td_srv0 {n : Nt} {nm : Bs} {R : List Rec} {a : Int} (t : Td n nm R a) : srvB n a 0 = true ∧ srvS n a 0 = ⟨0, [⟨[], [nsR nm]⟩]⟩ := by
  have h : srvB n a 0 = true := by
    unfold srvB
    rw [t.z0, t.chk, decide_eq_true t.lo, decide_eq_true t.hi]; rfl
  refine ⟨h, ?_⟩
  unfold srvS
  rw [if_pos h]
  unfold srvZ svG
  rw [t.b0, t.z0]
  rfl
theorem td_srv1 {n : Nt} {nm : Bs} {R : List Rec} {a : Int} (t : Td n nm R a) : srvB n a 1 = true ∧ srvS n a 1 = ⟨1, [⟨nm, R⟩]⟩ := by
  have h : srvB n a 1 = true := by
    unfold srvB
    rw [t.z1, t.chk, decide_eq_true t.lo, decide_eq_true t.hi]; rfl
  refine ⟨h, ?_⟩
  unfold srvS
  rw [if_pos h]
  unfold srvZ svG
  rw [t.b1, t.z1]
  rfl
theorem td_step0 {n : Nt} {nm : Bs} {R : List Rec} {a : Int} (t : Td n nm R a) {s : Bs} (hs : isName s = true) {k : Int} (h1 : 1 ≤ k) (h5 : k ≤ 5) : stepA n a k 0 s = some (askW [] [nsR nm] s k) := by
  have hu : underB s [] = true := by unfold underB; rw [hs]; rfl
  have he : askE [] [nsR nm] s k = 0 := by
    unfold askE
    rw [if_pos t.c0, if_pos ⟨hs, h1, h5⟩, if_pos hu]
  unfold stepA
  rw [(td_srv0 t).1, if_pos rfl, (td_srv0 t).2]
  simp only
  rw [best_one (z := ⟨[], [nsR nm]⟩) hs hu t.c0]
  simp only [List.getElem?_cons_zero]
  rw [if_pos he]
  unfold askV
  rw [if_pos he]
theorem td_step1 {n : Nt} {nm : Bs} {R : List Rec} {a : Int} (t : Td n nm R a) {s : Bs} (hs : isName s = true) (hu : underB s nm = true) {k : Int} (h1 : 1 ≤ k) (h5 : k ≤ 5) : stepA n a k 1 s = some (askW nm R s k) := by
  have he : askE nm R s k = 0 := by
    unfold askE
    rw [if_pos t.c1, if_pos ⟨hs, h1, h5⟩, if_pos hu]
  unfold stepA
  rw [(td_srv1 t).1, if_pos rfl, (td_srv1 t).2]
  simp only
  rw [best_one (z := ⟨nm, R⟩) hs hu t.c1]
  simp only [List.getElem?_cons_zero]
  rw [if_pos he]
  unfold askV
  rw [if_pos he]
theorem first_ns (nm s : Bs) : firstNs [nsR nm] s = if s = nm then some (nsR nm) else none := by
  unfold firstNs atB nsR
  by_cases h : s = nm
  · subst h; simp
  · have : ¬ nm = s := fun e => h e.symm
    simp [h, this]
/-- The root's cut. -/
theorem cut_root {nm : Bs} : ∀ (m : Nat) (s : Bs) (c : Option Rec), s.length ≤ m → cutF [] [nsR nm] m s c = if s ≠ [] ∧ (s = nm ∨ belowB s nm = true) then some (nsR nm) else c
  | 0, s, c, h => by
    have : s = [] := List.length_eq_zero_iff.1 (by omega)
    subst this
    simp [cutF]
  | m + 1, s, c, h => by
    unfold cutF
    by_cases h0 : s = []
    · simp [h0]
    · rw [if_neg h0, if_neg h0]
      have hlen : (upB s).length ≤ m := by
        by_cases hu : upB s = []
        · rw [hu]; simp
        · have := upB_lt hu; omega
      rw [cut_root m (upB s) _ hlen, first_ns, belowB_eq s nm]
      by_cases hsn : s = nm
      · rw [if_pos hsn]
        simp only [orO]
        rw [if_pos (show s ≠ [] ∧ (s = nm ∨ _) from ⟨h0, .inl hsn⟩)]
        split <;> rfl
      · rw [if_neg hsn]
        simp only [orO]
        by_cases hu : upB s = []
        · simp [hu, hsn]
        · rw [if_neg hu]
          simp [hu, hsn, h0]
theorem ask_root {nm s : Bs} (h0 : s ≠ []) (hu : s = nm ∨ belowB s nm = true) (k : Int) : askW [] [nsR nm] s k = ⟨4, [nsR nm], 1, []⟩ := by
  unfold askW cutV
  rw [cut_root _ s none (Nat.le_refl _), if_pos ⟨h0, hu⟩]
  rfl
theorem ask_root' {nm s : Bs} (h : s ≠ nm) (hu : belowB s nm = false) {k : Int} (hk : k ≠ 3) : (askW [] [nsR nm] s k).K = 2 ∨ (askW [] [nsR nm] s k).K = 3 := by
  unfold askW cutV
  rw [cut_root _ s none (Nat.le_refl _), if_neg (fun ⟨_, h1⟩ => h1.elim h fun e => by rw [hu] at e; cases e)]
  have ha : atB [nsR nm] s = [] := by
    unfold atB nsR
    have : ¬ nm = s := fun e => h e.symm
    simp [this]
  simp only [aliasL, ofL, ha, List.filter_nil, ne_eq, not_true_eq_false, if_false]
  split <;> simp
theorem isName_up {s : Bs} (hs : isName s = true) (hu : upB s ≠ []) : isName (upB s) = true := by
  have e : upB s = afterDot s := by unfold upB; rw [if_pos hs]
  rw [e] at hu ⊢
  rcases dot_cases s with ⟨_, h⟩ | ⟨a, b, rfl, h, _⟩
  · exact absurd (afterDot_none h) hu
  · rw [afterDot_dot h] at hu ⊢
    unfold isName at hs ⊢
    rw [splitB_dot h] at hs
    simp only [List.length_append, List.length_cons, List.all_cons, Bool.and_eq_true, decide_eq_true_eq] at hs ⊢
    exact ⟨⟨by omega, by omega⟩, hs.2.2⟩
theorem below_len {nm : Bs} : ∀ (m : Nat) (s : Bs), s.length ≤ m → s.length ≤ nm.length → belowB s nm = false
  | 0, s, h, _ => by
    have : s = [] := List.length_eq_zero_iff.1 (by omega)
    subst this
    rw [belowB_eq, upB_nil, if_pos rfl]
  | m + 1, s, h, hn => by
    rw [belowB_eq]
    by_cases hu : upB s = []
    · rw [if_pos hu]
    · have := upB_lt hu
      rw [if_neg hu, below_len m (upB s) (by omega) (by omega), Bool.or_false, beq_eq_false_iff_ne]
      intro e
      rw [e] at this; omega
/-- Asked of a name above the cut: there is none. -/
theorem td_above {n : Nt} {nm : Bs} {R : List Rec} {a : Int} (t : Td n nm R a) {s : Bs} (hs : isName s = true) (hl : s.length < nm.length) {k : Int} (h1 : 1 ≤ k) (h5 : k ≤ 5) (h3 : k ≠ 3) : wayV n a s k = ⟨[], 10, 131⟩ := by
  have hne : s ≠ nm := fun e => by rw [e] at hl; omega
  have hk := ask_root' hne (below_len _ s (Nat.le_refl _) (by omega)) (k := k) h3
  show askG n a k (11 + 1) 0 s 1000 = _
  unfold askG
  rw [td_step0 t hs h1 h5]
  generalize askW [] [nsR nm] s k = A at *
  rcases hk with hk | hk <;> simp [hk]
/-- Asked of the name or below it: what its zone tells. -/
theorem td_below {n : Nt} {nm : Bs} {R : List Rec} {a : Int} (t : Td n nm R a) {s : Bs} (hs : isName s = true) (hu : s = nm ∨ belowB s nm = true) {k : Int} (h1 : 1 ≤ k) (h5 : k ≤ 5) :
    wayV n a s k = askG n a k 11 1 s 9 := by
  have h0 : s ≠ [] := fun e => by rw [e] at hs; cases hs
  show askG n a k (11 + 1) 0 s 1000 = _
  conv => lhs; unfold askG
  rw [td_step0 t hs h1 h5, ask_root h0 hu k]
  rfl
theorem td_zone {n : Nt} {nm : Bs} {R : List Rec} {a : Int} (t : Td n nm R a) {s : Bs} (hs : isName s = true) (hu : s = nm ∨ belowB s nm = true) {k : Int} (h1 : 1 ≤ k) (h5 : k ≤ 5) (hK : (askW nm R s k).K = 1 ∨ (askW nm R s k).K = 2 ∨ (askW nm R s k).K = 3) :
    wayV n a s k = if (askW nm R s k).K = 1 then ⟨(askW nm R s k).R, leastL 9 (askW nm R s k).R, 0⟩ else ⟨[], 10, 131⟩ := by
  have hun : underB s nm = true := by
    unfold underB
    rcases hu with hu | hu
    · rw [hs, hu]; simp
    · rw [hs, hu]; simp
  rw [td_below t hs hu h1 h5]
  show askG n a k (10 + 1) 1 s 9 = _
  unfold askG
  rw [td_step1 t hs hun h1 h5]
  generalize askW nm R s k = A at *
  rcases hK with hK | hK | hK <;> simp [hK]
/-- The zone, asked of its own name: it has no cut there. -/
theorem cut_own (nm : Bs) (R : List Rec) : cutV nm R nm none = none := by
  unfold cutV
  cases nm with
  | nil => rfl
  | cons c r => simp [cutF]
/-- Asked of a name right below it. -/
theorem cut_one {nm s : Bs} {R : List Rec} (hup : upB s = nm) (hno : firstNs R s = none) : cutV nm R s none = none := by
  unfold cutV
  cases hl : s.length with
  | zero => rfl
  | succ m =>
    unfold cutF
    split
    · rfl
    · split
      · rfl
      · rw [hno, hup]
        simp only [orO]
        cases m with
        | zero => rfl
        | succ m =>
          unfold cutF
          split
          · rfl
          · rw [if_pos rfl]
end Go.Proofs.YtbgcpopmippbiaaGreatDoor
namespace Go.Proofs.YtbgcpopmippbiaaGreatDoor
open Go.Eng
set_option linter.unusedSimpArgs false
set_option maxRecDepth 10000

theorem held_nil (now : Int) (name : Bs) (k : Int) : heldV [] now name k = none := by
  unfold heldV
  rw [if_pos (show chkC [] = 0 from rfl)]; rfl
theorem find_fg {n : Nt} {nm : Bs} {R : List Rec} {a : Int} (t : Td n nm R a) {s : Bs} (hs : isName s = true) {now k : Int} (h1 : 1 ≤ k) (h5 : k ≤ 5) (n0 : 0 ≤ now) (n1 : now ≤ 1099511627776) {L : List Kp} (hL : chkC L = 0) : Fg n a L now s k :=
  ⟨hL, t.chk, by unfold goodQ timeB kindB; rw [decide_eq_true n0, decide_eq_true n1, decide_eq_true t.lo, decide_eq_true t.hi, decide_eq_true h1, decide_eq_true h5]; rfl, hs⟩
/-- What stands at the zone's own name is found. -/
theorem td_finds {n : Nt} {nm : Bs} {a : Int} {r : Rec} (t : Td n nm [r] a) (hr : r.N = nm) {now : Int} (n0 : 0 ≤ now) (n1 : now ≤ 1099511627776) (k1 : 1 ≤ r.K) (k5 : r.K ≤ 5) (k3 : r.K ≠ 3) (k4 : r.K ≠ 4) :
    findE n a [] now nm r.K = 0 ∧ findL n a [] now nm r.K = [r] := by
  have hat : atB [r] nm = [r] := by unfold atB; simp [hr]
  have hw : askW nm [r] nm r.K = ⟨1, [r], 0, []⟩ := by
    unfold askW
    rw [cut_own]
    have ha : aliasL [r] nm r.K = [] := by unfold aliasL; rw [hat]; simp [k4]
    have ho : ofL [r] nm r.K = [r] := by unfold ofL; rw [hat]; simp
    simp [ha, ho]
  have hz := td_zone t t.nm_ (.inl rfl) k1 k5 (.inl (by rw [hw]))
  rw [hw, if_pos rfl] at hz
  obtain ⟨e1, e2, _⟩ := find_miss (find_fg t t.nm_ k1 k5 n0 n1 (L := []) rfl) (held_nil now nm r.K)
  rw [hz] at e1 e2
  exact ⟨e1, e2⟩
/-- A token's place below a name. -/
theorem at_up {nm : Bs} (h : isName (atN nm) = true) : upB (atN nm) = nm := by
  unfold upB
  rw [if_pos h]
  exact afterDot_dot (a := [95, 115, 101, 97, 108]) (b := nm) (by decide)
theorem at_ne (nm : Bs) : atN nm ≠ nm := fun e => by
  have := congrArg List.length e
  unfold atN at this
  simp at this
  omega
theorem at_below {nm : Bs} (h : isName (atN nm) = true) (h0 : nm ≠ []) : belowB (atN nm) nm = true := by
  rw [belowB_eq, at_up h, if_neg h0]
  simp
/-- The records of a token's zone: none, or the token's. -/
theorem td_token {n : Nt} {nm tok : Bs} {a : Int} {there : Bool} (t : Td n nm (if there then [⟨atN nm, 1, tok, 9⟩] else []) a) (ha : isName (atN nm) = true) {now : Int} (n0 : 0 ≤ now) (n1 : now ≤ 1099511627776) :
    (there = true → findE n a [] now (atN nm) 1 = 0 ∧ findL n a [] now (atN nm) 1 = [⟨atN nm, 1, tok, 9⟩]) ∧ (there = false → findE n a [] now (atN nm) 1 = 131) := by
  have h0 : nm ≠ [] := fun e => by have := t.nm_; rw [e] at this; cases this
  have hf := find_fg t ha (now := now) (k := 1) (by omega) (by omega) n0 n1 (L := []) rfl
  obtain ⟨e1, e2, _⟩ := find_miss hf (held_nil now (atN nm) 1)
  rw [e1, e2]
  cases there with
  | true =>
    refine ⟨fun _ => ?_, fun h => by cases h⟩
    simp only [if_true] at t
    have hat : atB [⟨atN nm, 1, tok, 9⟩] (atN nm) = [⟨atN nm, 1, tok, 9⟩] := by unfold atB; simp
    have hc : cutV nm [⟨atN nm, 1, tok, 9⟩] (atN nm) none = none := cut_one (at_up ha) (by unfold firstNs; rw [hat]; rfl)
    have hw : askW nm [⟨atN nm, 1, tok, 9⟩] (atN nm) 1 = ⟨1, [⟨atN nm, 1, tok, 9⟩], 0, []⟩ := by
      unfold askW
      rw [hc]
      have h1 : aliasL [⟨atN nm, 1, tok, 9⟩] (atN nm) 1 = [] := by unfold aliasL; rw [hat]; rfl
      have h2 : ofL [⟨atN nm, 1, tok, 9⟩] (atN nm) 1 = [⟨atN nm, 1, tok, 9⟩] := by unfold ofL; rw [hat]; rfl
      simp [h1, h2]
    have hz := td_zone t ha (.inr (at_below ha h0)) (k := 1) (by omega) (by omega) (.inl (by rw [hw]))
    rw [hw, if_pos rfl] at hz
    rw [hz]
    exact ⟨rfl, rfl⟩
  | false =>
    refine ⟨fun h => (by cases h), fun _ => ?_⟩
    simp only [Bool.false_eq_true, if_false] at t
    have hc : cutV nm [] (atN nm) none = none := cut_one (at_up ha) rfl
    have hw : askW nm [] (atN nm) 1 = ⟨3, [], 0, []⟩ := by
      unfold askW
      rw [hc]
      rfl
    have hz := td_zone t ha (.inr (at_below ha h0)) (k := 1) (by omega) (by omega) (.inr (.inr (by rw [hw])))
    rw [hw] at hz
    rw [hz]
    rfl
theorem td_nocaa {n : Nt} {nm tok : Bs} {a : Int} {there : Bool} (t : Td n nm (if there then [⟨atN nm, 1, tok, 9⟩] else []) a) : wayV n a nm 2 = ⟨[], 10, 131⟩ := by
  have hw : (askW nm (if there then [⟨atN nm, 1, tok, 9⟩] else []) nm 2).K = 2 ∨ (askW nm (if there then [⟨atN nm, 1, tok, 9⟩] else []) nm 2).K = 3 := by
    unfold askW
    rw [cut_own]
    have hat : atB (if there then [⟨atN nm, 1, tok, 9⟩] else []) nm = [] := by
      cases there with
      | true => unfold atB; simp [at_ne nm]
      | false => rfl
    simp only [aliasL, ofL, hat, List.filter_nil, ne_eq, not_true_eq_false, if_false]
    generalize List.any _ _ = q
    cases q with
    | true => exact .inl rfl
    | false => exact .inr rfl
  rw [td_zone t t.nm_ (.inl rfl) (k := 2) (by omega) (by omega) (by omega)]
  rcases hw with h | h <;> rw [h] <;> rfl
/-- No zone forbids it. -/
theorem td_caa {n : Nt} {nm tok : Bs} {a : Int} {there : Bool} (t : Td n nm (if there then [⟨atN nm, 1, tok, 9⟩] else []) a) (ca : Bs) {now : Int} (n0 : 0 ≤ now) (n1 : now ≤ 1099511627776) :
    ∀ (f : Nat) (L : List Kp) (s : Bs), isName s = true → (s = nm ∨ s.length < nm.length) → s.length < f → chkC L = 0 → (∀ x ∈ L, x.K = 2 → s.length < x.N.length) →
      (caaG n a now ca f L s).Y = true ∧ (caaG n a now ca f L s).E = 0
  | 0, _, _, _, _, h, _, _ => by omega
  | f + 1, L, s, hs, hl, hf, hc, hfr => by
    have hw : wayV n a s 2 = ⟨[], 10, 131⟩ := by
      rcases hl with rfl | hl
      · exact td_nocaa t
      · exact td_above t hs hl (by omega) (by omega) (by omega)
    have he : findE n a L now s 2 = 131 := by
      rw [(find_fresh hc (fresh_none hfr)).1]
      obtain ⟨e1, _, _⟩ := find_miss (find_fg t hs (now := now) (k := 2) (by omega) (by omega) n0 n1 (L := []) rfl) (held_nil now s 2)
      rw [e1, hw]
    unfold caaG
    rw [if_neg (by omega), if_neg (by omega), if_pos he]
    by_cases hu : upB s = []
    · rw [if_pos hu]; exact ⟨rfl, rfl⟩
    · rw [if_neg hu]
      have hlt := upB_lt hu
      exact td_caa t ca n0 n1 f _ (upB s) (isName_up hs hu) (.inr (by rcases hl with rfl | hl <;> omega)) (by omega) (fc14_ok (find_good (by rw [he]; rfl))) (fresh_up hu hfr)
/-- Whose view is not bent votes just if the token is there. -/
theorem td_vote {n : Nt} {nm tok : Bs} {a : Int} {there : Bool} (t : Td n nm (if there then [⟨atN nm, 1, tok, 9⟩] else []) a) (ha : isName (atN nm) = true) (ca : Bs) {now : Int} (n0 : 0 ≤ now) (n1 : now ≤ 1099511627776) :
    (voteV n a [] now nm tok ca).Y = there ∧ (voteV n a [] now nm tok ca).E = 0 := by
  obtain ⟨h1, h2⟩ := td_token t ha n0 n1
  cases there with
  | true =>
    obtain ⟨e1, e2⟩ := h1 rfl
    have hb : hasB (findL n a [] now (atN nm) 1) tok = true := by rw [e2]; simp [hasB]
    have hc := td_caa t ca n0 n1 (nm.length + 1) (findC n a [] now (atN nm) 1) nm t.nm_ (.inl rfl) (by omega) (fc14_ok (find_good (by rw [e1]; rfl)))
      (fun x hx hk => by
        rcases findC_mem hx with hx | hx
        · cases hx
        · rw [hx.2] at hk; cases hk)
    unfold voteV
    rw [if_neg (by omega), if_neg (by omega), if_neg (by simp [hb])]
    show (caaG ..).Y = true ∧ (if (caaG ..).E = 130 then 0 else (caaG ..).E) = 0
    rw [hc.2]
    exact ⟨hc.1, rfl⟩
  | false =>
    have e := h2 rfl
    unfold voteV
    rw [if_pos (.inl e)]
    exact ⟨rfl, rfl⟩
end Go.Proofs.YtbgcpopmippbiaaGreatDoor
