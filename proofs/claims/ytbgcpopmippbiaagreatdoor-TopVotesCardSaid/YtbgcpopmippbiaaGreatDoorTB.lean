/- Plain laws of the net that the statements build. Plain laws of the votes in that net. -/
import Derived.Test.YtbgcpopmippbiaaGreatDoorTA
namespace Go.Proofs.YtbgcpopmippbiaaGreatDoor
open Go.Eng
set_option linter.unusedSimpArgs false
set_option maxRecDepth 10000

def bnI (i : Nat) : Bn := ⟨(i : Nat), 0, 7⟩
def bendsN (n : Nt) (k : Nat) : Nt := (List.range k).foldl (fun m i => nbendN m (bnI i)) n
theorem bendsN_succ (n : Nt) (k : Nat) : bendsN n (k + 1) = nbendN (bendsN n k) (bnI k) := by
  unfold bendsN
  rw [List.range_succ, List.foldl_append]; rfl
/-- Bends made one by one. -/
theorem bends_law {n : Nt} (hb : n.B = []) (hc : chkN n = 0) : ∀ (k : Nat), (∀ i, i < k → nbendE (bendsN n i) (bnI i) = 0) →
    chkN (bendsN n k) = 0 ∧ (bendsN n k).N = n.N ∧ (bendsN n k).V = n.V ∧ (bendsN n k).C = n.C ∧ ∀ x, x ∈ (bendsN n k).B ↔ ∃ i, i < k ∧ x = bnI i
  | 0, _ => ⟨hc, rfl, rfl, rfl, fun x => by
      show x ∈ n.B ↔ _
      rw [hb]
      exact ⟨fun h => (by cases h), fun ⟨i, hi, _⟩ => by omega⟩⟩
  | k + 1, h => by
    obtain ⟨h1, h2, h3, h4, h5⟩ := bends_law hb hc k fun i hi => h i (by omega)
    have hk := h k (by omega)
    obtain ⟨g0, _, _, _, e⟩ := bend_ok0 hk
    obtain ⟨_, _, _, hbb, _, _⟩ := chk_iff.1 g0
    have hr := (bns_parts hbb).2
    refine ⟨?_, ?_, ?_, ?_, fun x => ?_⟩
    · rw [bendsN_succ]; exact bend_chk hk
    · rw [bendsN_succ, e]; exact h2
    · rw [bendsN_succ, e]; exact h3
    · rw [bendsN_succ, e]; exact h4
    · rw [bendsN_succ, e]
      show x ∈ withK koP kB (bendsN n k).B (bnI k) ↔ _
      rw [mem_with hr, h5]
      constructor
      · rintro (rfl | ⟨⟨i, hi, rfl⟩, _⟩)
        · exact ⟨k, by omega, rfl⟩
        · exact ⟨i, by omega, rfl⟩
      · rintro ⟨i, hi, rfl⟩
        by_cases hik : i = k
        · exact .inl (by rw [hik])
        · refine .inr ⟨⟨i, by omega, rfl⟩, fun e => hik ?_⟩
          have := congrArg Prod.fst e
          have : ((i : Nat) : Int) = ((k : Nat) : Int) := this
          omega
def rootZ (nm : Bs) : Zn := ⟨[], [nsR nm]⟩
def net0 (seen : Int) : Nt := ⟨[], seen, [], []⟩
def net1 (nm : Bs) (seen : Int) : Nt := nputN (net0 seen) 0 (rootZ nm)
def net2 (nm : Bs) (R : List Rec) (seen : Int) : Nt := nputN (net1 nm seen) 1 ⟨nm, R⟩
def net3 (nm : Bs) (R F : List Rec) (seen : Int) : Nt := nputN (net2 nm R seen) 7 ⟨[], F⟩
def netK (nm : Bs) (R F : List Rec) (seen : Int) (k : Nat) : Nt := bendsN (net3 nm R F seen) k
/-- The net was built without an error. -/
structure Nb (nm : Bs) (R F : List Rec) (seen : Int) (k : Nat) : Prop where
  e1 : nputE (net0 seen) 0 (rootZ nm) = 0
  e2 : nputE (net1 nm seen) 1 ⟨nm, R⟩ = 0
  e3 : nputE (net2 nm R seen) 7 ⟨[], F⟩ = 0
  eb : ∀ i, i < k → nbendE (netK nm R F seen i) (bnI i) = 0
theorem newSv_none {n : Nt} {a : Int} {z : Zn} (h : svF n a = none) : newSv n a z = ⟨a, [z]⟩ := by
  unfold newSv svG
  rw [h]
  show (⟨a, withK koS kZ [] z⟩ : Sv) = _
  obtain ⟨A, B, e, _, _, _, _, ⟨e1, _⟩ | ⟨x, e1, _⟩⟩ := with_law (o := koS) (key := kZ) (l := []) ris_nil z
  · obtain ⟨rfl, rfl⟩ := List.append_eq_nil_iff.1 e1.symm
    rw [e]; rfl
  · have := congrArg List.length e1
    simp at this
theorem put_N {n : Nt} {a : Int} {z : Zn} (h : nputE n a z = 0) : (nputN n a z).N = n.N ∧ (nputN n a z).B = n.B ∧ (nputN n a z).C = n.C := by
  unfold nputN
  rw [if_pos h]
  exact ⟨rfl, rfl, rfl⟩
theorem net_law {nm : Bs} {R F : List Rec} {seen : Int} {k : Nat} (hb : Nb nm R F seen k) :
    chkN (netK nm R F seen k) = 0 ∧ (netK nm R F seen k).N = seen ∧ (netK nm R F seen k).C = [] ∧ svF (netK nm R F seen k) 0 = some ⟨0, [rootZ nm]⟩ ∧ svF (netK nm R F seen k) 1 = some ⟨1, [⟨nm, R⟩]⟩ ∧
      ∀ x, x ∈ (netK nm R F seen k).B ↔ ∃ i, i < k ∧ x = bnI i := by
  have s0 : svF (net1 nm seen) 0 = some ⟨0, [rootZ nm]⟩ := by
    have := put_svF hb.e1
    rw [newSv_none (show svF (net0 seen) 0 = none from rfl)] at this
    exact this
  have s1 : svF (net1 nm seen) 1 = none := by
    have := put_svF_other hb.e1 (x := 1) (by decide)
    exact this
  have t1 : svF (net2 nm R seen) 1 = some ⟨1, [⟨nm, R⟩]⟩ := by
    have := put_svF hb.e2
    rw [newSv_none s1] at this
    exact this
  have t0 : svF (net2 nm R seen) 0 = some ⟨0, [rootZ nm]⟩ := (put_svF_other hb.e2 (x := 0) (by decide)).trans s0
  have u0 : svF (net3 nm R F seen) 0 = some ⟨0, [rootZ nm]⟩ := (put_svF_other hb.e3 (x := 0) (by decide)).trans t0
  have u1 : svF (net3 nm R F seen) 1 = some ⟨1, [⟨nm, R⟩]⟩ := (put_svF_other hb.e3 (x := 1) (by decide)).trans t1
  obtain ⟨n1, b1, c1⟩ := put_N hb.e1
  obtain ⟨n2, b2, c2⟩ := put_N hb.e2
  obtain ⟨n3, b3, c3⟩ := put_N hb.e3
  obtain ⟨g1, g2, g3, g4, g5⟩ := bends_law (n := net3 nm R F seen) (b3.trans (b2.trans b1)) (put_chk hb.e3) k hb.eb
  have hsv : ∀ a, svF (netK nm R F seen k) a = svF (net3 nm R F seen) a := fun a => by
    unfold svF
    unfold netK
    rw [g3]
  exact ⟨g1, g2.trans (n3.trans (n2.trans n1)), g4.trans (c3.trans (c2.trans c1)), (hsv 0).trans u0, (hsv 1).trans u1, g5⟩
theorem nb_td {nm : Bs} {R F : List Rec} {seen : Int} {k : Nat} (hb : Nb nm R F seen k) (hn : isName nm = true) {a : Int} (h1 : (k : Int) ≤ a) (h2 : a < seen) : Td (netK nm R F seen k) nm R a := by
  obtain ⟨g1, g2, _, g4, g5, g6⟩ := net_law hb
  have c0 := (put_ok0 hb.e1).2.2.1
  have c1 := (put_ok0 hb.e2).2.2.1
  refine ⟨g1, by omega, by omega, g4, g5, find_none.2 fun x hx e => ?_, find_none.2 fun x hx e => ?_, hn, c0, c1⟩
  · obtain ⟨i, hi, rfl⟩ := (g6 x).1 hx
    have : ((i : Nat) : Int) = a := congrArg Prod.fst e
    omega
  · obtain ⟨i, hi, rfl⟩ := (g6 x).1 hx
    have : (0 : Int) = 1 := congrArg Prod.snd e
    omega
theorem nb_bent {nm : Bs} {R F : List Rec} {seen : Int} {k : Nat} (hb : Nb nm R F seen k) : (bentL (netK nm R F seen k)).length = k := by
  obtain ⟨_, _, _, _, _, g6⟩ := net_law hb
  have hr : Ris koI kI ((List.range k).map fun (i : Nat) => (i : Int)) := by
    unfold Ris
    rw [List.pairwise_map]
    refine List.Pairwise.imp (fun {a b} h => ?_) List.pairwise_lt_range
    show cmpI (a : Int) (b : Int) < 0
    exact cmpI_lt.2 (by omega)
  have he : bentL (netK nm R F seen k) = (List.range k).map fun (i : Nat) => (i : Int) := by
    unfold bentL
    refine riseI_eq hr fun x => ?_
    simp only [List.mem_map, List.mem_range]
    constructor
    · rintro ⟨i, hi, rfl⟩
      exact ⟨bnI i, (g6 _).2 ⟨i, hi, rfl⟩, rfl⟩
    · rintro ⟨y, hy, rfl⟩
      obtain ⟨i, hi, rfl⟩ := (g6 y).1 hy
      exact ⟨i, hi, rfl⟩
  rw [he]
  simp
end Go.Proofs.YtbgcpopmippbiaaGreatDoor
namespace Go.Proofs.YtbgcpopmippbiaaGreatDoor
open Go.Eng
set_option linter.unusedSimpArgs false
set_option maxRecDepth 10000

/-- A question that may be asked has an answer. -/
theorem quiet_find {n : Nt} {a now k : Int} {s : Bs} {L : List Kp} (g : Fg n a L now s k) : okF (findE n a L now s k) = true := by
  rw [find_e g]
  cases heldV L now s k with
  | some R =>
    simp only
    split <;> rfl
  | none => exact okF_iff.2 (wayV_ok n a s k).kind
theorem quiet_caa {n : Nt} {a now : Int} {ca : Bs} (hc : chkN n = 0) (hq : goodQ n a now 2 = true) : ∀ (f : Nat) (L : List Kp) (s : Bs), isName s = true → chkC L = 0 → (caaG n a now ca f L s).E = 0 ∨ (caaG n a now ca f L s).E = 130
  | 0, _, _, _, _ => .inl rfl
  | f + 1, L, s, hs, hL => by
    have hok := quiet_find (n := n) (a := a) (now := now) (k := 2) (s := s) (L := L) ⟨hL, hc, hq, hs⟩
    have h3 := okF_iff.1 hok
    unfold caaG
    by_cases e0 : findE n a L now s 2 = 0
    · rw [if_pos e0]; exact .inl rfl
    · rw [if_neg e0]
      by_cases e1 : findE n a L now s 2 = 130
      · rw [if_pos e1]; exact .inr rfl
      · rw [if_neg e1, if_pos (show findE n a L now s 2 = 131 by omega)]
        by_cases hu : upB s = []
        · rw [if_pos hu]; exact .inl rfl
        · rw [if_neg hu]
          exact quiet_caa hc hq f _ (upB s) (isName_up hs hu) (fc14_ok (find_good hok))
theorem quiet_vote {n : Nt} {a now : Int} {nm tok ca : Bs} (hc : chkN n = 0) (h1 : goodQ n a now 1 = true) (h2 : goodQ n a now 2 = true) (hn : isName nm = true) (ha : isName (atN nm) = true) : (voteV n a [] now nm tok ca).E = 0 := by
  have hok := quiet_find (n := n) (a := a) (now := now) (k := 1) (s := atN nm) (L := []) ⟨rfl, hc, h1, ha⟩
  have h3 := okF_iff.1 hok
  unfold voteV
  split
  · rfl
  · rename_i g1
    have g0 : findE n a [] now (atN nm) 1 = 0 := by omega
    rw [if_neg (by simp [g0])]
    split
    · rfl
    · have hq := quiet_caa (ca := ca) hc h2 (nm.length + 1) (findC n a [] now (atN nm) 1) nm hn (fc14_ok (find_good hok))
      simp only
      unfold caaV
      split
      · rfl
      · omega
/-- How many vote, if from a place on all do, or none. -/
theorem votes_from_on {V : List Bool} {k : Nat} {b : Bool} (h : ∀ i, k ≤ i → i < V.length → V[i]? = some b) : (b = true → ((V.length : Int) - k ≤ votesN V)) ∧ (b = false → votesN V ≤ k) := by
  have hs : V = V.take k ++ V.drop k := (List.take_append_drop k V).symm
  have hd : ∀ x ∈ V.drop k, x = b := fun x hx => by
    obtain ⟨j, hj⟩ := List.mem_iff_getElem?.1 hx
    rw [List.getElem?_drop] at hj
    have hlt := (List.getElem?_eq_some_iff.1 hj).1
    have := h (k + j) (by omega) hlt
    rw [hj] at this
    exact Option.some.inj this
  have hl : (V.take k).length ≤ k := by simp; omega
  unfold votesN
  constructor
  · intro hb
    have he : (V.drop k).filter id = V.drop k := List.filter_eq_self.2 fun x hx => by rw [hd x hx, hb]; rfl
    have e2 : (V.filter id).length = ((V.take k).filter id).length + (V.drop k).length := by
      conv => lhs; rw [hs]
      rw [List.filter_append, List.length_append, he]
    rw [e2, List.length_drop]
    omega
  · intro hb
    have he : (V.drop k).filter id = [] := List.filter_eq_nil_iff.2 fun x hx => by rw [hd x hx, hb]; simp
    have := List.length_filter_le id (V.take k)
    have e2 : (V.filter id).length = ((V.take k).filter id).length := by
      conv => lhs; rw [hs]
      rw [List.filter_append, he, List.append_nil]
    rw [e2]
    omega
/-- What is seen of a token in that net. -/
theorem top_votes {nm tok ca : Bs} {F : List Rec} {m k : Nat} {there : Bool} (hb : Nb nm (if there then [⟨atN nm, 1, tok, 9⟩] else []) F (m : Int) k) (hn : isName nm = true) (ha : isName (atN nm) = true) (hk : k < m) (hm : m ≤ 8) :
    let n := netK nm (if there then [⟨atN nm, 1, tok, 9⟩] else []) F (m : Int) k
    let need : Int := (m : Int) - k
    lookOk (lookE n (List.replicate m []) 3 nm tok ca need) = true ∧ (lookS n (List.replicate m []) 3 nm tok ca need).length = m ∧ (lookX n (List.replicate m []) 3 nm tok ca need).length = m ∧
      (∀ i, k ≤ i → i < m → (lookS n (List.replicate m []) 3 nm tok ca need)[i]? = some there) ∧
      (there = true → lookE n (List.replicate m []) 3 nm tok ca need = 0 ∧ need ≤ votesN (lookS n (List.replicate m []) 3 nm tok ca need)) ∧ (there = false → votesN (lookS n (List.replicate m []) 3 nm tok ca need) ≤ k) := by
  intro n need
  obtain ⟨g1, g2, _⟩ := net_law hb
  have hN : n.N = (m : Int) := g2
  have hc : chkN n = 0 := g1
  have hq : ∀ (i : Nat) (kd : Int), i < m → 1 ≤ kd → kd ≤ 5 → goodQ n (i : Int) 3 kd = true := fun i kd hi h1 h5 => by
    unfold goodQ timeB kindB
    rw [decide_eq_true (by omega : (0 : Int) ≤ 3), decide_eq_true (by omega : (3 : Int) ≤ 1099511627776), decide_eq_true (by omega : -1 ≤ (i : Int)), decide_eq_true (by omega : (i : Int) < n.N), decide_eq_true h1, decide_eq_true h5]; rfl
  have hE : ∀ v ∈ lookVs n (List.replicate m []) 3 nm tok ca, v.E = 0 := fun v hv => by
    obtain ⟨j, hj⟩ := List.mem_iff_getElem?.1 hv
    have hjl := (List.getElem?_eq_some_iff.1 hj).1
    have hl : j < m := by
      have : (lookVs n (List.replicate m []) 3 nm tok ca).length = m := by unfold lookVs; rw [lookG_len, List.length_replicate]
      omega
    rw [empty_votes hl] at hj
    rw [← Option.some.inj hj]
    exact quiet_vote hc (hq j 1 hl (by omega) (by omega)) (hq j 2 hl (by omega) (by omega)) hn ha
  have hf : firstE (lookVs n (List.replicate m []) 3 nm tok ca) = 0 := firstE_zero.2 hE
  have he : lookE n (List.replicate m []) 3 nm tok ca need = if votesN ((lookVs n (List.replicate m []) 3 nm tok ca).map Ca.Y) < need then 230 else 0 := by
    unfold lookE
    rw [if_neg (by rw [List.length_replicate]; omega), if_neg (by omega)]
  have hok : lookOk (lookE n (List.replicate m []) 3 nm tok ca need) = true := by rw [he]; split <;> rfl
  have hS : lookS n (List.replicate m []) 3 nm tok ca need = (lookVs n (List.replicate m []) 3 nm tok ca).map Ca.Y := by unfold lookS; rw [hok]; rfl
  obtain ⟨_, l1, l2, _⟩ := look_chk hok
  rw [List.length_replicate] at l1 l2
  have hV : ∀ i, k ≤ i → i < m → (lookS n (List.replicate m []) 3 nm tok ca need)[i]? = some there := fun i h1 h2 => by
    rw [hS, List.getElem?_map, empty_votes h2]
    have t := nb_td hb hn (a := (i : Int)) (by omega) (by omega)
    have := (td_vote t ha ca (now := 3) (by omega) (by omega)).1
    show some (voteV n (i : Int) [] 3 nm tok ca).Y = _
    rw [this]
  obtain ⟨v1, v2⟩ := votes_from_on (V := lookS n (List.replicate m []) 3 nm tok ca need) (k := k) (b := there) fun i h1 h2 => hV i h1 (by omega)
  refine ⟨hok, l1, l2, hV, fun ht => ?_, v2⟩
  have hv := v1 ht
  rw [l1] at hv
  refine ⟨?_, hv⟩
  rw [he, ← hS, if_neg (by omega)]
end Go.Proofs.YtbgcpopmippbiaaGreatDoor
