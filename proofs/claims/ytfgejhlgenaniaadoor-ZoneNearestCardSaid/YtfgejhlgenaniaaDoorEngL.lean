/- A region's run, in the order of the text and in any order that its edges let. -/
import Derived.Test.YtfgejhlgenaniaaDoorEngK
namespace Go.Eng

/-- Two evaluations that agree at an operation's operands agree at the operation. -/
theorem fillA_ev {Γ : Ctx} {ev ev' : TypeId → Operand → AT} {fs : List (Nat × TypeId)} : ∀ {parts : List (Nat × Operand)} {cells : List AV}, (∀ p ∈ parts, ∀ t, ev' t p.2 = ev t p.2) → fillA Γ ev' fs cells parts = fillA Γ ev fs cells parts
  | [], _, _ => rfl
  | (i, x) :: parts, cells, h => by
    have hx := fun t => h (i, x) (List.mem_cons_self ..) t
    have ih := fun cells => fillA_ev (Γ := Γ) (ev := ev) (ev' := ev') (fs := fs) (parts := parts) (cells := cells) fun p hp => h p (List.mem_cons_of_mem _ hp)
    simp only at hx
    simp only [fillA, hx, ih]

theorem fillRows_ev {ob : Nat → Option AObj} {ev ev' : TypeId → Operand → AT} {e k : Nat} : ∀ {parts : List (Nat × Operand)} {rows : List (List D)}, (∀ p ∈ parts, ∀ t, ev' t p.2 = ev t p.2) → fillRows ob ev' e k rows parts = fillRows ob ev e k rows parts
  | [], _, _ => rfl
  | (i, x) :: parts, rows, h => by
    have hx := fun t => h (i, x) (List.mem_cons_self ..) t
    have ih := fun rows => fillRows_ev (ob := ob) (ev := ev) (ev' := ev') (e := e) (k := k) (parts := parts) (rows := rows) fun p hp => h p (List.mem_cons_of_mem _ hp)
    simp only at hx
    simp only [fillRows, hx, ih]

theorem fillV_ev {ev ev' : TypeId → Operand → AT} {e : TypeId} : ∀ {parts : List (Nat × Operand)} {cells : List AV}, (∀ p ∈ parts, ∀ t, ev' t p.2 = ev t p.2) → fillV ev' e cells parts = fillV ev e cells parts
  | [], _, _ => rfl
  | (i, x) :: parts, cells, h => by
    have hx := fun t => h (i, x) (List.mem_cons_self ..) t
    have ih := fun cells => fillV_ev (ev := ev) (ev' := ev') (e := e) (parts := parts) (cells := cells) fun p hp => h p (List.mem_cons_of_mem _ hp)
    simp only at hx
    simp only [fillV, hx, ih]

theorem argsOf_ev {ev ev' : TypeId → Operand → AT} : ∀ {xs : List Operand} {ts : List TypeId}, (∀ x ∈ xs, ∀ t, ev' t x = ev t x) → argsOf ev' xs ts = argsOf ev xs ts
  | [], _, _ => rfl
  | x :: xs, ts, h => by
    simp only [argsOf, h x (List.mem_cons_self ..), argsOf_ev (xs := xs) fun y hy => h y (List.mem_cons_of_mem _ hy)]

theorem onesOf_ev {ev ev' : TypeId → Operand → AT} : ∀ {xs : List Operand}, (∀ x ∈ xs, ∀ t, ev' t x = ev t x) → onesOf ev' xs = onesOf ev xs
  | [], _ => rfl
  | x :: xs, h => by
    simp only [onesOf, h x (List.mem_cons_self ..), onesOf_ev (xs := xs) fun y hy => h y (List.mem_cons_of_mem _ hy)]

theorem optInt_ev {ev ev' : TypeId → Operand → AT} {d : Nat} {x : Option Operand} (h : ∀ y, x = some y → ∀ t, ev' t y = ev t y) : optInt ev' d x = optInt ev d x := by
  cases x with
  | none => rfl
  | some y => simp only [optInt, h y rfl]

theorem aop0_ev {Γ : Ctx} {N : Nat} {ev ev' : TypeId → Operand → AT} {ob : Nat → Option AObj} {o : Oper} (h : ∀ x ∈ o.op.operands.toList, ∀ t, ev' t x = ev t x) : aop0 Γ N ev' ob o = aop0 Γ N ev ob o := by
  cases ho : o.op with
  | build t ps =>
    have h' : ∀ p ∈ ps.toList, ∀ t, ev' t p.2 = ev t p.2 := fun p hp t => h p.2 (by rw [ho]; simp only [Op.operands, List.mem_map]; exact ⟨p, hp, rfl⟩) t
    simp only [aop0, ho, fillA_ev h']
  | buildSlice t n ps =>
    have h' : ∀ p ∈ ps.toList, ∀ t, ev' t p.2 = ev t p.2 := fun p hp t => h p.2 (by rw [ho]; simp only [Op.operands, List.mem_map]; exact ⟨p, hp, rfl⟩) t
    simp only [aop0, ho, fillRows_ev h']
  | makeFunc fn first captured =>
    cases fn with
    | func f =>
      have h' : ∀ x ∈ captured.toList, ∀ t, ev' t x = ev t x := fun x hx t => h x (by rw [ho]; simp only [Op.operands, Array.toList_append, List.mem_append]; exact .inr hx) t
      simp only [aop0, ho, onesOf_ev h']
    | _ => simp only [aop0, ho]
  | slice t x lo hi mx =>
    have hx := h x (by rw [ho]; simp [Op.operands])
    have hlo : ∀ y, lo = some y → ∀ t, ev' t y = ev t y := fun y hy => h y (by rw [ho, hy]; simp [Op.operands])
    have hhi : ∀ y, hi = some y → ∀ t, ev' t y = ev t y := fun y hy => h y (by rw [ho, hy]; simp [Op.operands])
    have hmx : ∀ y, mx = some y → ∀ t, ev' t y = ev t y := fun y hy => h y (by rw [ho, hy]; simp [Op.operands])
    simp only [aop0, ho, hx]
    split
    · rename_i v _
      unfold sliceA
      simp only [optInt_ev hlo, fun d => optInt_ev (d := d) hhi]
      cases mx with
      | none => rfl
      | some m =>
        simp only [hmx m rfl]
        cases hi with
        | none => rfl
        | some q => simp only [hhi q rfl]
    · rfl
  | call cl =>
    cases hb : cl.callee with
    | value f => simp only [aop0, ho, hb]
    | invoke r m => simp only [aop0, ho, hb]
    | builtin b =>
      have ha : ∀ x ∈ cl.args.toList, ∀ t, ev' t x = ev t x := fun x hx => h x (by rw [ho]; simp only [Op.operands, Call.operands, Array.toList_append, List.mem_append]; exact .inr hx)
      have hm : cl.args.toList.map (ev' o.type) = cl.args.toList.map (ev o.type) := List.map_congr_left fun x hx => ha x hx _
      cases b <;> first
        | (simp only [aop0, ho, hb, hm]; done)
        | (simp only [aop0, ho, hb]
           split
           · rename_i e1 e2
             first
               | (rw [ha _ (by rw [e1]; simp)]; done)
               | (rw [ha _ (by rw [e1]; simp), ha _ (by rw [e1]; simp)]; done)
           · rfl)
        | simp only [aop0, ho, hb]
  | move x => simp only [aop0, ho, h x (by rw [ho]; simp [Op.operands])]
  | assign x => simp only [aop0, ho, h x (by rw [ho]; simp [Op.operands])]
  | pick x y z => simp only [aop0, ho, h x (by rw [ho]; simp [Op.operands]), h y (by rw [ho]; simp [Op.operands]), h z (by rw [ho]; simp [Op.operands])]
  | alloc t => simp only [aop0, ho]
  | box t x => simp only [aop0, ho, h x (by rw [ho]; simp [Op.operands])]
  | load t x => simp only [aop0, ho, h x (by rw [ho]; simp [Op.operands])]
  | store t x y => simp only [aop0, ho, h x (by rw [ho]; simp [Op.operands]), h y (by rw [ho]; simp [Op.operands])]
  | nilCheck x => simp only [aop0, ho, h x (by rw [ho]; simp [Op.operands])]
  | binOp op t x y t2 => simp only [aop0, ho, h x (by rw [ho]; simp [Op.operands]), h y (by rw [ho]; simp [Op.operands])]
  | unOp op t x => simp only [aop0, ho, h x (by rw [ho]; simp [Op.operands])]
  | convert s t x => simp only [aop0, ho, h x (by rw [ho]; simp [Op.operands])]
  | fieldAddr t x i => simp only [aop0, ho, h x (by rw [ho]; simp [Op.operands])]
  | field t x i => simp only [aop0, ho, h x (by rw [ho]; simp [Op.operands])]
  | indexAddr t x i => simp only [aop0, ho, h x (by rw [ho]; simp [Op.operands]), h i (by rw [ho]; simp [Op.operands])]
  | index t x i => simp only [aop0, ho, h x (by rw [ho]; simp [Op.operands]), h i (by rw [ho]; simp [Op.operands])]
  | extract t i => simp only [aop0, ho, h t (by rw [ho]; simp [Op.operands])]
  | _ => simp only [aop0, ho]

theorem aop_ev {Γ : Ctx} {N : Nat} {ev ev' : TypeId → Operand → AT} {ob : Nat → Option AObj} {o : Oper} (h : ∀ x ∈ o.op.operands.toList, ∀ t, ev' t x = ev t x) : aop Γ N ev' ob o = aop Γ N ev ob o := by
  have h0 := aop0_ev (Γ := Γ) (N := N) (ob := ob) h
  have h1 : isX Γ ev' o = isX Γ ev o ∧ aopX Γ N ev' ob o = aopX Γ N ev ob o := by
    cases ho : o.op with
    | slice t x lo hi mx =>
      have hx := h x (by rw [ho]; simp [Op.operands])
      have hlo : ∀ y, lo = some y → ∀ t, ev' t y = ev t y := fun y hy => h y (by rw [ho, hy]; simp [Op.operands])
      have hhi : ∀ y, hi = some y → ∀ t, ev' t y = ev t y := fun y hy => h y (by rw [ho, hy]; simp [Op.operands])
      refine ⟨by simp only [isX, ho, hx], ?_⟩
      cases mx with
      | some m => simp only [aopX, ho]
      | none => simp only [aopX, ho, hx, sliceX, optInt_ev hlo, fun d => optInt_ev (d := d) hhi]
    | range t x => exact ⟨by simp only [isX, ho], by simp only [aopX, ho, h x (by rw [ho]; simp [Op.operands])]⟩
    | next x str => exact ⟨by simp only [isX, ho], by simp only [aopX, ho, h x (by rw [ho]; simp [Op.operands])]⟩
    | buildSlice t n ps =>
      have h' : ∀ p ∈ ps.toList, ∀ t, ev' t p.2 = ev t p.2 := fun p hp t => h p.2 (by rw [ho]; simp only [Op.operands, List.mem_map]; exact ⟨p, hp, rfl⟩) t
      exact ⟨by simp only [isX, ho], by simp only [aopX, ho, buildV, fillV_ev h']⟩
    | indexAddr t x i => exact ⟨by simp only [isX, ho, h x (by rw [ho]; simp [Op.operands])], by simp only [aopX, ho, h x (by rw [ho]; simp [Op.operands]), h i (by rw [ho]; simp [Op.operands])]⟩
    | call cl =>
      cases hb : cl.callee with
      | value f =>
        cases f with
        | func f =>
          have ha : ∀ x ∈ cl.args.toList, ∀ t, ev' t x = ev t x := fun x hx => h x (by rw [ho]; simp only [Op.operands, Call.operands, Array.toList_append, List.mem_append]; exact .inr hx)
          exact ⟨by simp only [isX, ho, hb], by simp only [aopX, ho, hb, onesOf_ev ha]⟩
        | _ => exact ⟨by simp only [isX, ho, hb], by simp only [aopX, ho, hb]⟩
      | invoke r m => exact ⟨by simp only [isX, ho, hb], by simp only [aopX, ho, hb]⟩
      | builtin b =>
        have ha : ∀ x ∈ cl.args.toList, ∀ t, ev' t x = ev t x := fun x hx => h x (by rw [ho]; simp only [Op.operands, Call.operands, Array.toList_append, List.mem_append]; exact .inr hx)
        cases b with
        | cap =>
          refine ⟨by simp only [isX, ho, hb], ?_⟩
          simp only [aopX, ho, hb]
          split
          · rename_i e1 e2; rw [ha _ (by rw [e1]; simp)]
          · rfl
        | copy =>
          refine ⟨by simp only [isX, ho, hb], ?_⟩
          simp only [aopX, ho, hb]
          split
          · rename_i e1 e2; rw [ha _ (by rw [e1]; simp), ha _ (by rw [e1]; simp)]
          · rfl
        | len =>
          refine ⟨?_, ?_⟩
          · simp only [isX, ho, hb]
            split
            · rename_i e1 e2; rw [ha _ (by rw [e1]; simp)]
            · rfl
          · simp only [aopX, ho, hb]
            split
            · rename_i e1 e2; rw [ha _ (by rw [e1]; simp)]
            · rfl
        | append =>
          refine ⟨?_, ?_⟩
          · simp only [isX, ho, hb]
            split
            · rename_i e1 e2; rw [ha _ (by rw [e1]; simp)]
            · rfl
          · simp only [aopX, ho, hb]
            split
            · rename_i e1 e2
              have hx := ha _ (by rw [e1]; exact List.mem_cons_of_mem _ (List.mem_cons_self ..))
              rw [ha _ (by rw [e1]; exact List.mem_cons_self ..)]
              simp only [appendX, newRows, hx]
            · rfl
        | _ => exact ⟨by simp only [isX, ho, hb], by simp only [aopX, ho, hb]⟩
    | _ => exact ⟨by simp only [isX, ho], by simp only [aopX, ho]⟩
  unfold aop
  rw [h0, h1.1, h1.2]

theorem callArgs_ev {ev ev' : TypeId → Operand → AT} {o : Oper} (h : ∀ x ∈ o.op.operands.toList, ∀ t, ev' t x = ev t x) : callArgs ev' o = callArgs ev o := by
  unfold callArgs
  split
  · rename_i cl ho
    split
    · rename_i f hb
      have hf := h f (by rw [ho]; simp [Op.operands, Call.operands, hb])
      have ha : ∀ x ∈ cl.args.toList, ∀ t, ev' t x = ev t x := fun x hx => h x (by rw [ho]; simp only [Op.operands, Call.operands, Array.toList_append, List.mem_append]; exact .inr hx)
      rw [hf, argsOf_ev ha]
    · rfl
  · rfl

theorem aval_env {Γ : Ctx} {env env' : Nat → AT} {o : Oper} (h : ∀ t ∈ o.op.operands.toList.flatMap opTemps, env' t = env t) : ∀ x ∈ o.op.operands.toList, ∀ t, aval Γ env' t x = aval Γ env t x := by
  intro x hx t
  cases x with
  | tmp n => exact h n (List.mem_flatMap.2 ⟨_, hx, by simp [opTemps]⟩)
  | _ => rfl

end Go.Eng
