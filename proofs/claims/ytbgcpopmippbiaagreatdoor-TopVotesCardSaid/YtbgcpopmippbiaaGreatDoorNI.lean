/- Plain laws of vantage points: Caa, a vote. Plain laws of vantage points: where no zone forbids it. Plain laws of vantage points: Look. Plain laws of vantage points: needs, own, stays. -/
import Derived.Test.YtbgcpopmippbiaaGreatDoorNH
namespace Go.Proofs.YtbgcpopmippbiaaGreatDoor
open Go.Eng
set_option linter.unusedSimpArgs false
set_option maxRecDepth 10000

/-- An answer with a cache. -/
structure Ca where
  Y : Bool
  C : List Kp
  E : Int
def hasB (l : List Rec) (v : Bs) : Bool := l.any fun r => r.V == v
/-- Whether a zone lets one issue: from a name on upward. -/
def caaG (n : Nt) (seen now : Int) (ca : Bs) : Nat → List Kp → Bs → Ca
  | 0, L, _ => ⟨true, L, 0⟩
  | f + 1, L, name =>
    if findE n seen L now name 2 = 0 then ⟨hasB (findL n seen L now name 2) ca, findC n seen L now name 2, 0⟩
    else if findE n seen L now name 2 = 130 then ⟨false, findC n seen L now name 2, 130⟩
    else if findE n seen L now name 2 = 131 then
      if upB name = [] then ⟨true, findC n seen L now name 2, 0⟩ else caaG n seen now ca f (findC n seen L now name 2) (upB name)
    else ⟨false, [], findE n seen L now name 2⟩
def caaV (n : Nt) (seen : Int) (L : List Kp) (now : Int) (name ca : Bs) : Ca := caaG n seen now ca (name.length + 1) L name
theorem caaG_fuel {n : Nt} {seen now : Int} {ca : Bs} : ∀ (f g : Nat) (L : List Kp) (name : Bs), name.length < f → name.length < g → caaG n seen now ca f L name = caaG n seen now ca g L name
  | 0, _, _, _, h, _ => by omega
  | _, 0, _, _, _, h => by omega
  | f + 1, g + 1, L, name, h1, h2 => by
    unfold caaG
    by_cases hu : upB name = []
    · rw [if_pos hu, if_pos hu]
    · have := upB_lt hu
      rw [if_neg hu, if_neg hu, caaG_fuel f g _ (upB name) (by omega) (by omega)]
theorem caaV_eq (n : Nt) (seen : Int) (L : List Kp) (now : Int) (name ca : Bs) : caaV n seen L now name ca =
    if findE n seen L now name 2 = 0 then ⟨hasB (findL n seen L now name 2) ca, findC n seen L now name 2, 0⟩
    else if findE n seen L now name 2 = 130 then ⟨false, findC n seen L now name 2, 130⟩
    else if findE n seen L now name 2 = 131 then
      if upB name = [] then ⟨true, findC n seen L now name 2, 0⟩ else caaV n seen (findC n seen L now name 2) now (upB name) ca
    else ⟨false, [], findE n seen L now name 2⟩ := by
  unfold caaV
  conv => lhs; unfold caaG
  by_cases hu : upB name = []
  · rw [if_pos hu, if_pos hu]
  · have := upB_lt hu
    rw [if_neg hu, if_neg hu, caaG_fuel name.length ((upB name).length + 1) _ (upB name) (by omega) (by omega)]
/-- A token's place. -/
def atN (name : Bs) : Bs := [95, 115, 101, 97, 108, 46] ++ name
def voteV (n : Nt) (seen : Int) (L : List Kp) (now : Int) (name token ca : Bs) : Ca :=
  if findE n seen L now (atN name) 1 = 131 ∨ findE n seen L now (atN name) 1 = 130 then ⟨false, findC n seen L now (atN name) 1, 0⟩
  else if findE n seen L now (atN name) 1 ≠ 0 then ⟨false, [], findE n seen L now (atN name) 1⟩
  else if hasB (findL n seen L now (atN name) 1) token = false then ⟨false, findC n seen L now (atN name) 1, 0⟩
  else ⟨(caaV n seen (findC n seen L now (atN name) 1) now name ca).Y, (caaV n seen (findC n seen L now (atN name) 1) now name ca).C,
    if (caaV n seen (findC n seen L now (atN name) 1) now name ca).E = 130 then 0 else (caaV n seen (findC n seen L now (atN name) 1) now name ca).E⟩
/-- A cache that has nothing of a name, asked of it, is like an empty one. -/
theorem find_fresh {n : Nt} {seen now : Int} {L : List Kp} (hc : chkC L = 0) {name : Bs} {k : Int} (hf : kpF L name k = none) :
    findE n seen L now name k = findE n seen [] now name k ∧ findL n seen L now name k = findL n seen [] now name k := by
  have h0 : chkC [] = 0 := rfl
  have hh : heldV L now name k = none := by unfold heldV; rw [if_pos hc, hf]
  have hh2 : heldV [] now name k = none := by unfold heldV; rw [if_pos h0]; rfl
  have he : findE n seen L now name k = findE n seen [] now name k := by
    unfold findE
    rw [hc, hh, h0, hh2]
  refine ⟨he, ?_⟩
  unfold findL
  rw [he, hh, hh2]
/-- What Find keeps is of the name asked, or was kept. -/
theorem findC_mem {n : Nt} {seen now : Int} {L : List Kp} {name : Bs} {k : Int} {x : Kp} (hx : x ∈ findC n seen L now name k) : x ∈ L ∨ (x.N = name ∧ x.K = k) := by
  cases hok : okF (findE n seen L now name k) with
  | false => rw [(find_bad' hok).2] at hx; cases hx
  | true =>
    have g := find_good hok
    cases hh : heldV L now name k with
    | some R => rw [(find_hit g hh).2.2] at hx; exact .inl hx
    | none =>
      rw [(find_miss g hh).2.2] at hx
      split at hx
      · exact .inl hx
      · have hr := (chkC_iff.1 (trim_ok g.c now)).2.2
        unfold keepV at hx
        rcases (mem_with (room_ris hr _)).1 hx with rfl | ⟨hx, _⟩
        · exact .inr ⟨rfl, rfl⟩
        · have h1 := room_mem hx
          unfold trimL at h1
          rw [if_pos g.c] at h1
          exact .inl (List.mem_filter.1 h1).1
/-- A cache stays one. -/
theorem caa_chk {n : Nt} {seen now : Int} {ca : Bs} : ∀ (f : Nat) (L : List Kp) (name : Bs), chkC L = 0 → okF (caaG n seen now ca f L name).E = true → chkC (caaG n seen now ca f L name).C = 0
  | 0, _, _, h, _ => h
  | f + 1, L, name, h, ho => by
    unfold caaG at ho ⊢
    by_cases e0 : findE n seen L now name 2 = 0
    · rw [if_pos e0]; exact fc14_ok (find_good (by rw [e0]; rfl))
    · rw [if_neg e0] at ho ⊢
      by_cases e1 : findE n seen L now name 2 = 130
      · rw [if_pos e1]; exact fc14_ok (find_good (by rw [e1]; rfl))
      · rw [if_neg e1] at ho ⊢
        by_cases e2 : findE n seen L now name 2 = 131
        · rw [if_pos e2] at ho ⊢
          have hc := fc14_ok (find_good (show okF (findE n seen L now name 2) = true by rw [e2]; rfl))
          by_cases hu : upB name = []
          · rw [if_pos hu]; exact hc
          · rw [if_neg hu] at ho ⊢
            exact caa_chk f _ _ hc ho
        · rw [if_neg e2] at ho ⊢
          have := okF_iff.1 ho
          simp only at this
          omega
end Go.Proofs.YtbgcpopmippbiaaGreatDoor
namespace Go.Proofs.YtbgcpopmippbiaaGreatDoor
open Go.Eng
set_option linter.unusedSimpArgs false
set_option maxRecDepth 10000

theorem fresh_none {K : List Kp} {name : Bs} (hK : ∀ x ∈ K, x.K = 2 → name.length < x.N.length) : kpF K name 2 = none := find_none.2 fun x hx e => by
  have e2 := congrArg Prod.snd e
  have := hK x hx e2
  have e1 : x.N = name := congrArg Prod.fst e
  rw [e1] at this; omega
theorem fresh_up {n : Nt} {seen now : Int} {K : List Kp} {name : Bs} (hu : upB name ≠ []) (hK : ∀ x ∈ K, x.K = 2 → name.length < x.N.length) : ∀ x ∈ findC n seen K now name 2, x.K = 2 → (upB name).length < x.N.length := fun x hx hk => by
  have hlt := upB_lt hu
  rcases findC_mem hx with h | h
  · have := hK x h hk; omega
  · rw [h.1]; exact hlt
end Go.Proofs.YtbgcpopmippbiaaGreatDoor
namespace Go.Proofs.YtbgcpopmippbiaaGreatDoor
open Go.Eng
set_option linter.unusedSimpArgs false
set_option maxRecDepth 10000

/-- The votes, from a vantage point on. -/
def lookG (n : Nt) (now : Int) (name token ca : Bs) : Nat → List (List Kp) → List Ca
  | _, [] => []
  | i, L :: t => voteV n i L now name token ca :: lookG n now name token ca (i + 1) t
def lookVs (n : Nt) (l : List (List Kp)) (now : Int) (name token ca : Bs) : List Ca := lookG n now name token ca 0 l
theorem lookG_len {n : Nt} {now : Int} {name token ca : Bs} : ∀ (l : List (List Kp)) (i : Nat), (lookG n now name token ca i l).length = l.length
  | [], _ => rfl
  | _ :: t, i => by unfold lookG; rw [List.length_cons, List.length_cons, lookG_len t]
theorem lookG_at {n : Nt} {now : Int} {name token ca : Bs} : ∀ (l : List (List Kp)) (i j : Nat) (L : List Kp), l[j]? = some L → (lookG n now name token ca i l)[j]? = some (voteV n ((i + j : Nat) : Int) L now name token ca)
  | [], _, _, _, h => by cases h
  | M :: t, i, 0, L, h => by
    have : M = L := by simpa using h
    subst this
    rfl
  | M :: t, i, j + 1, L, h => by
    unfold lookG
    rw [List.getElem?_cons_succ, lookG_at t (i + 1) j L (by simpa using h)]
    congr 3
    omega
theorem lookVs_at {n : Nt} {l : List (List Kp)} {now : Int} {name token ca : Bs} {j : Nat} {L : List Kp} (h : l[j]? = some L) : (lookVs n l now name token ca)[j]? = some (voteV n (j : Int) L now name token ca) := by
  have := lookG_at (n := n) (now := now) (name := name) (token := token) (ca := ca) l 0 j L h
  rwa [Nat.zero_add] at this
/-- The first error. -/
def firstE (vs : List Ca) : Int := match vs.find? (fun v => v.E != 0) with
  | some v => v.E
  | none => 0
theorem firstE_zero {vs : List Ca} : firstE vs = 0 ↔ ∀ v ∈ vs, v.E = 0 := by
  unfold firstE
  cases h : vs.find? (fun v => v.E != 0) with
  | none => exact ⟨fun _ v hv => by simpa using List.find?_eq_none.1 h v hv, fun _ => rfl⟩
  | some v =>
    have h1 : v.E ≠ 0 := by simpa using List.find?_some h
    exact ⟨fun e => absurd e h1, fun hall => absurd (hall v (List.mem_of_find?_eq_some h)) h1⟩
theorem firstE_at {vs : List Ca} {i : Nat} {v : Ca} (h : ∀ j w, j < i → vs[j]? = some w → w.E = 0) (hv : vs[i]? = some v) (he : v.E ≠ 0) : firstE vs = v.E := by
  unfold firstE
  have : vs.find? (fun v => v.E != 0) = some v := by
    obtain ⟨h1, h2⟩ := List.getElem?_eq_some_iff.1 hv
    rw [List.find?_eq_some_iff_getElem]
    refine ⟨by simpa using he, i, h1, h2, fun j hj => ?_⟩
    have hjl : j < vs.length := by omega
    have := h j vs[j] hj (List.getElem?_eq_getElem hjl)
    simp [this]
  rw [this]
def votesN (vs : List Bool) : Int := (vs.filter id).length
theorem votesN_snoc (vs : List Bool) (b : Bool) : votesN (vs ++ [b]) = votesN vs + if b then 1 else 0 := by
  unfold votesN
  rw [List.filter_append]
  cases b <;> simp
def lookE (n : Nt) (l : List (List Kp)) (now : Int) (name token ca : Bs) (need : Int) : Int :=
  if (l.length : Int) ≠ n.N ∨ need < 1 ∨ n.N < need then 1
  else if firstE (lookVs n l now name token ca) ≠ 0 then firstE (lookVs n l now name token ca)
  else if votesN ((lookVs n l now name token ca).map Ca.Y) < need then 230 else 0
def lookOk (e : Int) : Bool := e == 0 || e == 230
def lookS (n : Nt) (l : List (List Kp)) (now : Int) (name token ca : Bs) (need : Int) : List Bool := if lookOk (lookE n l now name token ca need) then (lookVs n l now name token ca).map Ca.Y else []
def lookX (n : Nt) (l : List (List Kp)) (now : Int) (name token ca : Bs) (need : Int) : List (List Kp) := if lookOk (lookE n l now name token ca need) then (lookVs n l now name token ca).map Ca.C else []
theorem findE_vals (n : Nt) (seen : Int) (L : List Kp) (now : Int) (name : Bs) (k : Int) : findE n seen L now name k = 0 ∨ findE n seen L now name k = 130 ∨ findE n seen L now name k = 131 ∨ findE n seen L now name k = 1 ∨ findE n seen L now name k = 2 ∨ findE n seen L now name k = 110 := by
  cases hok : okF (findE n seen L now name k) with
  | true => rcases okF_iff.1 hok with h | h | h <;> simp [h]
  | false =>
    unfold findE
    split
    · rename_i h
      rcases chkC_vals L with h1 | h1 | h1
      · exact absurd h1 h
      · simp [h1]
      · simp [h1]
    · split
      · rename_i h
        rcases chkN_vals n with h1 | h1 | h1
        · exact absurd h1 h
        · simp [h1]
        · simp [h1]
      · split
        · simp
        · split
          · simp
          · split
            · split <;> simp
            · have := (wayV_ok n seen name k).kind
              omega
theorem caaE_vals {n : Nt} {seen now : Int} {ca : Bs} : ∀ (f : Nat) (L : List Kp) (name : Bs), (caaG n seen now ca f L name).E = 0 ∨ (caaG n seen now ca f L name).E = 130 ∨ (caaG n seen now ca f L name).E = 1 ∨ (caaG n seen now ca f L name).E = 2 ∨ (caaG n seen now ca f L name).E = 110
  | 0, _, _ => .inl rfl
  | f + 1, L, name => by
    have hv := findE_vals n seen L now name 2
    unfold caaG
    by_cases e0 : findE n seen L now name 2 = 0
    · rw [if_pos e0]; exact .inl rfl
    · rw [if_neg e0]
      by_cases e1 : findE n seen L now name 2 = 130
      · rw [if_pos e1]; exact .inr (.inl rfl)
      · rw [if_neg e1]
        by_cases e2 : findE n seen L now name 2 = 131
        · rw [if_pos e2]
          by_cases hu : upB name = []
          · rw [if_pos hu]; exact .inl rfl
          · rw [if_neg hu]; exact caaE_vals f _ _
        · rw [if_neg e2]
          simp only
          omega
theorem voteE_vals (n : Nt) (seen : Int) (L : List Kp) (now : Int) (name token ca : Bs) : (voteV n seen L now name token ca).E = 0 ∨ (voteV n seen L now name token ca).E = 1 ∨ (voteV n seen L now name token ca).E = 2 ∨ (voteV n seen L now name token ca).E = 110 := by
  have hv := findE_vals n seen L now (atN name) 1
  have hc := caaE_vals (n := n) (seen := seen) (now := now) (ca := ca) (name.length + 1) (findC n seen L now (atN name) 1) name
  unfold voteV
  split
  · exact .inl rfl
  · split
    · simp only; omega
    · split
      · exact .inl rfl
      · simp only
        unfold caaV
        split <;> omega
theorem firstE_vals (n : Nt) (l : List (List Kp)) (now : Int) (name token ca : Bs) : firstE (lookVs n l now name token ca) ≠ 230 := by
  unfold firstE
  cases h : (lookVs n l now name token ca).find? (fun v => v.E != 0) with
  | none => simp
  | some v =>
    have hm := List.mem_of_find?_eq_some h
    obtain ⟨j, hj⟩ := List.mem_iff_getElem?.1 hm
    have hjl := (List.getElem?_eq_some_iff.1 hj).1
    have hl : j < l.length := by rw [← lookG_len (n := n) (now := now) (name := name) (token := token) (ca := ca) l 0]; exact hjl
    have h2 := lookVs_at (n := n) (now := now) (name := name) (token := token) (ca := ca) (List.getElem?_eq_getElem hl)
    rw [hj] at h2
    have h3 : v = voteV n (j : Int) l[j] now name token ca := Option.some.inj h2
    have := voteE_vals n (j : Int) l[j] now name token ca
    simp only
    rw [h3]
    omega
/-- With an error there is nothing; else one vote of each. -/
theorem look_good {n : Nt} {l : List (List Kp)} {now : Int} {name token ca : Bs} {need : Int} (h : lookOk (lookE n l now name token ca need) = true) :
    (l.length : Int) = n.N ∧ 1 ≤ need ∧ need ≤ n.N ∧ firstE (lookVs n l now name token ca) = 0 ∧ lookE n l now name token ca need = (if votesN ((lookVs n l now name token ca).map Ca.Y) < need then 230 else 0) := by
  have hv := firstE_vals n l now name token ca
  unfold lookOk lookE at h
  unfold lookE
  split at h
  · simp at h
  · rename_i h1
    split at h
    · rename_i h2
      simp only [Bool.or_eq_true, beq_iff_eq] at h
      omega
    · rename_i h2
      rw [if_neg h1, if_neg h2]
      exact ⟨by omega, by omega, by omega, by omega, rfl⟩
end Go.Proofs.YtbgcpopmippbiaaGreatDoor
namespace Go.Proofs.YtbgcpopmippbiaaGreatDoor
open Go.Eng
set_option linter.unusedSimpArgs false
set_option maxRecDepth 10000

/-- What was told of a vote without an error. -/
theorem vote_cases {n : Nt} {seen : Int} {L : List Kp} {now : Int} {name token ca : Bs} (h : (voteV n seen L now name token ca).E = 0) :
    okF (findE n seen L now (atN name) 1) = true ∧
    ((findE n seen L now (atN name) 1 = 0 ∧ hasB (findL n seen L now (atN name) 1) token = true ∧ (voteV n seen L now name token ca).Y = (caaV n seen (findC n seen L now (atN name) 1) now name ca).Y ∧
        (voteV n seen L now name token ca).C = (caaV n seen (findC n seen L now (atN name) 1) now name ca).C ∧ okF (caaV n seen (findC n seen L now (atN name) 1) now name ca).E = true) ∨
      (¬ (findE n seen L now (atN name) 1 = 0 ∧ hasB (findL n seen L now (atN name) 1) token = true) ∧ (voteV n seen L now name token ca).Y = false ∧ (voteV n seen L now name token ca).C = findC n seen L now (atN name) 1)) := by
  unfold voteV at h ⊢
  by_cases h1 : findE n seen L now (atN name) 1 = 131 ∨ findE n seen L now (atN name) 1 = 130
  · rw [if_pos h1]
    exact ⟨okF_iff.2 (by omega), .inr ⟨fun e => by omega, rfl, rfl⟩⟩
  · rw [if_neg h1] at h ⊢
    by_cases h2 : findE n seen L now (atN name) 1 = 0
    · rw [if_neg (by simp [h2])] at h ⊢
      refine ⟨okF_iff.2 (.inl h2), ?_⟩
      by_cases h3 : hasB (findL n seen L now (atN name) 1) token = false
      · rw [if_pos h3]
        exact .inr ⟨fun e => by rw [h3] at e; exact absurd e.2 (by simp), rfl, rfl⟩
      · rw [if_neg h3] at h ⊢
        refine .inl ⟨h2, by simpa using h3, rfl, rfl, ?_⟩
        simp only at h
        split at h
        · rename_i h4; rw [h4]; rfl
        · rw [h]; rfl
    · rw [if_pos h2] at h
      exact absurd h h2
theorem vote_chk {n : Nt} {seen : Int} {L : List Kp} {now : Int} {name token ca : Bs} (h : (voteV n seen L now name token ca).E = 0) : chkC (voteV n seen L now name token ca).C = 0 ∧ chkN n = 0 := by
  obtain ⟨h1, h2⟩ := vote_cases h
  have g := find_good h1
  refine ⟨?_, g.t⟩
  rcases h2 with ⟨_, _, _, h3, h4⟩ | ⟨_, _, h3⟩
  · rw [h3]
    exact caa_chk _ _ _ (fc14_ok g) h4
  · rw [h3]; exact fc14_ok g
theorem look_vote {n : Nt} {l : List (List Kp)} {now : Int} {name token ca : Bs} (h : firstE (lookVs n l now name token ca) = 0) {j : Nat} {L : List Kp} (hj : l[j]? = some L) : (voteV n (j : Int) L now name token ca).E = 0 :=
  firstE_zero.1 h _ (List.mem_of_getElem? (lookVs_at hj))
theorem look_chk {n : Nt} {l : List (List Kp)} {now : Int} {name token ca : Bs} {need : Int} (h : lookOk (lookE n l now name token ca need) = true) :
    chkN n = 0 ∧ (lookS n l now name token ca need).length = l.length ∧ (lookX n l now name token ca need).length = l.length ∧ ∀ x ∈ lookX n l now name token ca need, chkC x = 0 := by
  obtain ⟨h1, h2, h3, h4, _⟩ := look_good h
  have hlen : (lookVs n l now name token ca).length = l.length := lookG_len l 0
  have hall : ∀ v ∈ lookVs n l now name token ca, chkC v.C = 0 ∧ chkN n = 0 := fun v hv => by
    obtain ⟨j, hj⟩ := List.mem_iff_getElem?.1 hv
    have hjl := (List.getElem?_eq_some_iff.1 hj).1
    have hl : j < l.length := by omega
    have h5 := lookVs_at (n := n) (now := now) (name := name) (token := token) (ca := ca) (List.getElem?_eq_getElem hl)
    rw [hj] at h5
    rw [Option.some.inj h5]
    exact vote_chk (look_vote h4 (List.getElem?_eq_getElem hl))
  have h0 : (lookVs n l now name token ca)[0]? = some (lookVs n l now name token ca)[0] := List.getElem?_eq_getElem (by omega)
  unfold lookS lookX
  rw [h]
  refine ⟨(hall _ (List.mem_of_getElem? h0)).2, by simp [hlen], by simp [hlen], fun x hx => ?_⟩
  obtain ⟨v, hv, rfl⟩ := List.mem_map.1 hx
  exact (hall v hv).1
end Go.Proofs.YtbgcpopmippbiaaGreatDoor
