
/- Plain laws of vantage points: needs, own, stays. Plain laws of vantage points: who is not redirected votes as the straight view has it. Plain laws of vantage points: fewer are redirected than have to vote. -/
import Derived.Test.YtolpobgfcokoaaaGreatDoorNK
namespace Go.Proofs.YtolpobgfcokoaaaGreatDoor
open Go.Eng
set_option linter.unusedSimpArgs false
set_option maxRecDepth 10000

/-- What was told of a vote without an error. -/
theorem vote_cases {n : Nt} {seen : Int} {L : List Kp} {now : Int} {name token ca : Bs} (h : (voteV n seen L now name token ca).E = 0) :
    okF (findE n seen L now (atN name) 1) = true ∧
    ((findE n seen L now (atN name) 1 = 0 ∧ hasB (findL n seen L now (atN name) 1) token = true ∧ (voteV n seen L now name token ca).Y = (caaV n seen (findC n seen L now (atN name) 1) now name ca).Y ∧
        (voteV n seen L now name token ca).C = (caaV n seen (findC n seen L now (atN name) 1) now name ca).C ∧ okF (caaV n seen (findC n seen L now (atN name) 1) now name ca).E = true) ∨
      (¬ (findE n seen L now (atN name) 1 = 0 ∧ hasB (findL n seen L now (atN name) 1) token = true) ∧ (voteV n seen L now name token ca).Y = false ∧ (voteV n seen L now name token ca).C = findC n seen L now (atN name) 1)) := by
  unfold voteV at h ⊢
  by_cases h1 : findE n seen L now (atN name) 1 = 131 ∨ findE n seen L now (atN name) 1 = 130
  · rw [if_pos h1]
    exact ⟨okF_iff.2 (by omega), .inr ⟨fun e => by omega, rfl, rfl⟩⟩
  · rw [if_neg h1] at h ⊢
    by_cases h2 : findE n seen L now (atN name) 1 = 0
    · rw [if_neg (by simp [h2])] at h ⊢
      refine ⟨okF_iff.2 (.inl h2), ?_⟩
      by_cases h3 : hasB (findL n seen L now (atN name) 1) token = false
      · rw [if_pos h3]
        exact .inr ⟨fun e => by rw [h3] at e; exact absurd e.2 (by simp), rfl, rfl⟩
      · rw [if_neg h3] at h ⊢
        refine .inl ⟨h2, by simpa using h3, rfl, rfl, ?_⟩
        simp only at h
        split at h
        · rename_i h4; rw [h4]; rfl
        · rw [h]; rfl
    · rw [if_pos h2] at h
      exact absurd h h2
theorem vote_chk {n : Nt} {seen : Int} {L : List Kp} {now : Int} {name token ca : Bs} (h : (voteV n seen L now name token ca).E = 0) : chkC (voteV n seen L now name token ca).C = 0 ∧ chkN n = 0 := by
  obtain ⟨h1, h2⟩ := vote_cases h
  have g := find_good h1
  refine ⟨?_, g.t⟩
  rcases h2 with ⟨_, _, _, h3, h4⟩ | ⟨_, _, h3⟩
  · rw [h3]
    exact caa_chk _ _ _ (fc14_ok g) h4
  · rw [h3]; exact fc14_ok g
theorem look_vote {n : Nt} {l : List (List Kp)} {now : Int} {name token ca : Bs} (h : firstE (lookVs n l now name token ca) = 0) {j : Nat} {L : List Kp} (hj : l[j]? = some L) : (voteV n (j : Int) L now name token ca).E = 0 :=
  firstE_zero.1 h _ (List.mem_of_getElem? (lookVs_at hj))
theorem look_chk {n : Nt} {l : List (List Kp)} {now : Int} {name token ca : Bs} {need : Int} (h : lookOk (lookE n l now name token ca need) = true) :
    chkN n = 0 ∧ (lookS n l now name token ca need).length = l.length ∧ (lookX n l now name token ca need).length = l.length ∧ ∀ x ∈ lookX n l now name token ca need, chkC x = 0 := by
  obtain ⟨h1, h2, h3, h4, _⟩ := look_good h
  have hlen : (lookVs n l now name token ca).length = l.length := lookG_len l 0
  have hall : ∀ v ∈ lookVs n l now name token ca, chkC v.C = 0 ∧ chkN n = 0 := fun v hv => by
    obtain ⟨j, hj⟩ := List.mem_iff_getElem?.1 hv
    have hjl := (List.getElem?_eq_some_iff.1 hj).1
    have hl : j < l.length := by omega
    have h5 := lookVs_at (n := n) (now := now) (name := name) (token := token) (ca := ca) (List.getElem?_eq_getElem hl)
    rw [hj] at h5
    rw [Option.some.inj h5]
    exact vote_chk (look_vote h4 (List.getElem?_eq_getElem hl))
  have h0 : (lookVs n l now name token ca)[0]? = some (lookVs n l now name token ca)[0] := List.getElem?_eq_getElem (by omega)
  unfold lookS lookX
  rw [h]
  refine ⟨(hall _ (List.mem_of_getElem? h0)).2, by simp [hlen], by simp [hlen], fun x hx => ?_⟩
  obtain ⟨v, hv, rfl⟩ := List.mem_map.1 hx
  exact (hall v hv).1
theorem look_none {n : Nt} {l : List (List Kp)} {now : Int} {name token ca : Bs} {need : Int} (h : lookOk (lookE n l now name token ca need) = false) : lookS n l now name token ca need = [] ∧ lookX n l now name token ca need = [] := by
  unfold lookS lookX
  rw [h]
  exact ⟨rfl, rfl⟩
/-- How many have to vote changes nothing but whether they are enough. -/
theorem needs_law {n : Nt} {l : List (List Kp)} {now : Int} {name token ca : Bs} {a b : Int} (h1 : 1 ≤ a) (h2 : a ≤ b) (h3 : b ≤ n.N) :
    lookS n l now name token ca a = lookS n l now name token ca b ∧ lookX n l now name token ca a = lookX n l now name token ca b ∧
    ((lookOk (lookE n l now name token ca a) = false ∧ lookE n l now name token ca b = lookE n l now name token ca a) ∨
      (lookOk (lookE n l now name token ca a) = true ∧ lookE n l now name token ca a = (if votesN (lookS n l now name token ca a) < a then 230 else 0) ∧ lookE n l now name token ca b = (if votesN (lookS n l now name token ca a) < b then 230 else 0))) := by
  have hv := firstE_vals n l now name token ca
  by_cases c1 : (l.length : Int) ≠ n.N
  · have ea : lookE n l now name token ca a = 1 := by unfold lookE; rw [if_pos (.inl c1)]
    have eb : lookE n l now name token ca b = 1 := by unfold lookE; rw [if_pos (.inl c1)]
    unfold lookS lookX
    rw [ea, eb]
    exact ⟨rfl, rfl, .inl ⟨rfl, rfl⟩⟩
  · by_cases c2 : firstE (lookVs n l now name token ca) ≠ 0
    · have ea : lookE n l now name token ca a = firstE (lookVs n l now name token ca) := by unfold lookE; rw [if_neg (by omega), if_pos c2]
      have eb : lookE n l now name token ca b = firstE (lookVs n l now name token ca) := by unfold lookE; rw [if_neg (by omega), if_pos c2]
      have hok : lookOk (firstE (lookVs n l now name token ca)) = false := by
        unfold lookOk
        rw [Bool.or_eq_false_iff, beq_eq_false_iff_ne, beq_eq_false_iff_ne]
        exact ⟨c2, hv⟩
      unfold lookS lookX
      rw [ea, eb]
      exact ⟨rfl, rfl, .inl ⟨hok, rfl⟩⟩
    · have ea : lookE n l now name token ca a = if votesN ((lookVs n l now name token ca).map Ca.Y) < a then 230 else 0 := by unfold lookE; rw [if_neg (by omega), if_neg c2]
      have eb : lookE n l now name token ca b = if votesN ((lookVs n l now name token ca).map Ca.Y) < b then 230 else 0 := by unfold lookE; rw [if_neg (by omega), if_neg c2]
      have oka : lookOk (lookE n l now name token ca a) = true := by rw [ea]; split <;> rfl
      have okb : lookOk (lookE n l now name token ca b) = true := by rw [eb]; split <;> rfl
      have sa : lookS n l now name token ca a = (lookVs n l now name token ca).map Ca.Y := by unfold lookS; rw [oka]; rfl
      have sb : lookS n l now name token ca b = (lookVs n l now name token ca).map Ca.Y := by unfold lookS; rw [okb]; rfl
      refine ⟨by rw [sa, sb], ?_, .inr ⟨oka, ?_, ?_⟩⟩
      · unfold lookX; rw [oka, okb]
      · rw [sa]; exact ea
      · rw [sa]; exact eb
end Go.Proofs.YtolpobgfcokoaaaGreatDoor
namespace Go.Proofs.YtolpobgfcokoaaaGreatDoor
open Go.Eng
set_option linter.unusedSimpArgs false
set_option maxRecDepth 10000

theorem straight_caa {n : Nt} {seen : Int} (h0 : 0 ≤ seen) (h1 : seen < n.N) (h : seen ∉ bentL n) (now : Int) (ca : Bs) : ∀ (f : Nat) (L : List Kp) (name : Bs), caaG n seen now ca f L name = caaG n (-1) now ca f L name
  | 0, _, _ => rfl
  | f + 1, L, name => by
    obtain ⟨e1, e2, e3⟩ := straight_find h0 h1 h L now name 2
    unfold caaG
    rw [e1, e2, e3, straight_caa h0 h1 h now ca f _ _]
theorem straight_vote {n : Nt} {seen : Int} (h0 : 0 ≤ seen) (h1 : seen < n.N) (h : seen ∉ bentL n) (L : List Kp) (now : Int) (name token ca : Bs) : voteV n seen L now name token ca = voteV n (-1) L now name token ca := by
  obtain ⟨e1, e2, e3⟩ := straight_find h0 h1 h L now (atN name) 1
  unfold voteV
  rw [e1, e2, e3]
  unfold caaV
  rw [straight_caa h0 h1 h now ca _ _ _]
/-- Does a text stand at a name? -/
def standsB (n : Nt) (now : Int) (name token : Bs) : Bool := decide (findE n (-1) [] now name 1 = 0) && hasB (findL n (-1) [] now name 1) token
theorem vote_stands {n : Nt} {seen now : Int} {name token ca : Bs} : (voteV n seen [] now name token ca).Y = (decide (findE n seen [] now (atN name) 1 = 0) && hasB (findL n seen [] now (atN name) 1) token && (caaV n seen [] now name ca).Y) := by
  unfold voteV
  by_cases h1 : findE n seen [] now (atN name) 1 = 131 ∨ findE n seen [] now (atN name) 1 = 130
  · rw [if_pos h1, decide_eq_false (by omega)]
    rfl
  · rw [if_neg h1]
    by_cases h2 : findE n seen [] now (atN name) 1 = 0
    · rw [if_neg (by simp [h2]), decide_eq_true h2]
      cases h3 : hasB (findL n seen [] now (atN name) 1) token with
      | false => rfl
      | true =>
        rw [if_neg (by simp)]
        show (caaV n seen (findC n seen [] now (atN name) 1) now name ca).Y = _
        have hf := (caa_fresh (n := n) (seen := seen) (now := now) (ca := ca) (name.length + 1) (findC n seen [] now (atN name) 1) [] name (fc14_ok (find_good (by rw [h2]; rfl))) rfl
          (fun x hx hk => by
            rcases findC_mem hx with hx | hx
            · cases hx
            · rw [hx.2] at hk; cases hk) (fun x hx => by cases hx)).1
        unfold caaV
        rw [hf]
        rfl
    · rw [if_pos h2, decide_eq_false h2]
      rfl
/-- A vote of one that is not redirected. -/
theorem alike_law {n : Nt} {seen : Int} (h0 : 0 ≤ seen) (h1 : seen < n.N) (h : seen ∉ bentL n) (now : Int) (name token ca : Bs) : (voteV n seen [] now name token ca).Y = (standsB n now (atN name) token && (caaV n (-1) [] now name ca).Y) := by
  rw [straight_vote h0 h1 h, vote_stands]
  rfl
theorem caa_yes {n : Nt} {seen now : Int} {ca : Bs} : ∀ (f : Nat) (L : List Kp) (name : Bs), (caaG n seen now ca f L name).Y = true → (caaG n seen now ca f L name).E = 0
  | 0, _, _, _ => rfl
  | f + 1, L, name, h => by
    unfold caaG at h ⊢
    by_cases e0 : findE n seen L now name 2 = 0
    · rw [if_pos e0]
    · rw [if_neg e0] at h ⊢
      by_cases e1 : findE n seen L now name 2 = 130
      · rw [if_pos e1] at h; cases h
      · rw [if_neg e1] at h ⊢
        by_cases e2 : findE n seen L now name 2 = 131
        · rw [if_pos e2] at h ⊢
          by_cases hu : upB name = []
          · rw [if_pos hu]
          · rw [if_neg hu] at h ⊢
            exact caa_yes f _ _ h
        · rw [if_neg e2] at h; cases h
/-- Of so many places fewer are in a list. -/
theorem pigeon (p : Nat → Bool) : ∀ (m : Nat) (B : List Int), (∀ i, i < m → p i = true → (i : Int) ∈ B) → ((List.range m).filter p).length ≤ B.length
  | 0, _, _ => by simp
  | m + 1, B, h => by
    rw [List.range_succ, List.filter_append, List.length_append]
    by_cases hp : p m = true
    · have hm : (m : Int) ∈ B := h m (by omega) hp
      have h1 := pigeon p m (B.erase (m : Int)) fun i hi hpi => (List.mem_erase_of_ne (by omega)).2 (h i (by omega) hpi)
      rw [List.length_erase_of_mem hm] at h1
      have h2 : 0 < B.length := List.length_pos_of_mem hm
      simp [hp]
      omega
    · have h1 := pigeon p m B fun i hi hpi => h i (by omega) hpi
      simp [hp]
      omega
end Go.Proofs.YtolpobgfcokoaaaGreatDoor
namespace Go.Proofs.YtolpobgfcokoaaaGreatDoor
open Go.Eng
set_option linter.unusedSimpArgs false
set_option maxRecDepth 10000

theorem votes_from (p : Nat → Bool) : ∀ (vs : List Bool) (m : Nat), (∀ i b, vs[i]? = some b → p (m + i) = b) → (vs.filter id).length = ((List.range' m vs.length).filter p).length
  | [], _, _ => rfl
  | b :: t, m, h => by
    have hb := h 0 b rfl
    have ht := votes_from p t (m + 1) fun i c hc => by
      have := h (i + 1) c (by simpa using hc)
      rw [show m + 1 + i = m + (i + 1) by omega]; exact this
    rw [List.length_cons, List.range'_succ, List.filter_cons, List.filter_cons]
    rw [Nat.add_zero] at hb
    rw [hb]
    cases b with
    | true => simp [ht]
    | false => simp [ht]
theorem votes_count (p : Nat → Bool) (vs : List Bool) (h : ∀ i b, vs[i]? = some b → p i = b) : votesN vs = ((List.range vs.length).filter p).length := by
  unfold votesN
  rw [votes_from p vs 0 (fun i b hb => by rw [Nat.zero_add]; exact h i b hb), List.range_eq_range']
theorem empty_votes {n : Nt} {now : Int} {name token ca : Bs} {m i : Nat} (hi : i < m) : (lookVs n (List.replicate m []) now name token ca)[i]? = some (voteV n (i : Int) [] now name token ca) :=
  lookVs_at (by rw [List.getElem?_replicate, if_pos hi])
/-- If fewer are redirected than have to vote, and they are enough, the token stands there, and the zone lets the authority issue. -/
theorem honest_law {n : Nt} {now : Int} {name token ca : Bs} {need : Int} {m : Nat} (hb : ((bentL n).length : Int) < need) (h : lookE n (List.replicate m []) now name token ca need = 0) :
    need ≤ votesN (lookS n (List.replicate m []) now name token ca need) ∧ standsB n now (atN name) token = true ∧ (caaV n (-1) [] now name ca).Y = true ∧ (caaV n (-1) [] now name ca).E = 0 := by
  have hok : lookOk (lookE n (List.replicate m []) now name token ca need) = true := by rw [h]; rfl
  obtain ⟨h1, h2, h3, h4, h5⟩ := look_good hok
  rw [List.length_replicate] at h1
  have hs : lookS n (List.replicate m []) now name token ca need = (lookVs n (List.replicate m []) now name token ca).map Ca.Y := by unfold lookS; rw [hok]; rfl
  rw [h] at h5
  have hv : need ≤ votesN ((lookVs n (List.replicate m []) now name token ca).map Ca.Y) := by
    rcases Int.lt_or_le (votesN ((lookVs n (List.replicate m []) now name token ca).map Ca.Y)) need with h6 | h6
    · rw [if_pos h6] at h5; cases h5
    · exact h6
  have hlen : (lookVs n (List.replicate m []) now name token ca).length = m := by
    unfold lookVs; rw [lookG_len, List.length_replicate]
  rw [hs]
  refine ⟨hv, ?_⟩
  have hone : ∃ i, i < m ∧ (voteV n (i : Int) [] now name token ca).Y = true ∧ (i : Int) ∉ bentL n := Classical.byContradiction fun hno => by
    have hp := pigeon (fun i => (voteV n (i : Int) [] now name token ca).Y) m (bentL n) fun i hi hy => Classical.byContradiction fun hm => hno ⟨i, hi, hy, hm⟩
    have hc := votes_count (fun i => (voteV n (i : Int) [] now name token ca).Y) ((lookVs n (List.replicate m []) now name token ca).map Ca.Y) fun i b hb => by
      rw [List.getElem?_map] at hb
      have hi : i < m := by
        rcases Nat.lt_or_ge i m with hi | hi
        · exact hi
        · rw [List.getElem?_eq_none_iff.2 (by omega)] at hb; cases hb
      rw [empty_votes hi] at hb
      exact Option.some.inj hb
    rw [List.length_map, hlen] at hc
    omega
  obtain ⟨i, hi, hy, hnb⟩ := hone
  rw [alike_law (by omega) (by omega) hnb, Bool.and_eq_true] at hy
  exact ⟨hy.1, hy.2, caa_yes _ _ _ hy.2⟩
end Go.Proofs.YtolpobgfcokoaaaGreatDoor
