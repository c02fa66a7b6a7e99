/- What rewriting runs through: the set go_sem holds all that tells what code asks. -/
import Derived.Test.YtfgejhlgenaniaaDoorEngT
namespace Go.Eng
universe u

/-- What rewriting does not go into. -/
structure Hold {α : Sort u} (p : α) : Type where

def hold {α : Sort u} (p : α) : Hold p := ⟨⟩

def voH {α : Type} (x : Option α) {K : α → Prop} (_ : Hold K) : Prop := vo x K
def vgetH {α : Type} (l : List α) (i : Nat) {K : α → Prop} (_ : Hold K) : Prop := vget l i K
def vbyteH (s : ByteArray) (i : Nat) {K : UInt8 → Prop} (_ : Hold K) : Prop := vbyte s i K
def vcondH (b : Option Bool) {A B : Prop} (_ : Hold (And A B)) : Prop := vcond b A B
def vswH (b : Bool) {A B : Prop} (_ : Hold (And A B)) : Prop := vsw b A B
def vgdH (x : AT) {p : Nat × List (Nat × AT) × Bool × (List (Nat × AT) → Prop) × (List (Nat × AT) → Prop)} (_ : Hold p) : Prop := vgd p.1 p.2.1 p.2.2.1 p.2.2.2.1 p.2.2.2.2 x
def vguardTH (x : Option Tmp) {p : List (Nat × AT) × Bool × (List (Nat × AT) → Prop) × (List (Nat × AT) → Prop)} (_ : Hold p) : Prop := vguardT p.1 p.2.1 p.2.2.1 p.2.2.2 x
def vrunH (E : Sit) (j : Nat) (st : St) {p : Reg × List Ft × List Oper} (_ : Hold p) : Prop := vrun E p.1 j p.2.1 p.2.2 st
def vcH (E : Sit) (st : St) {p : Code × (Exit → St → Prop)} (_ : Hold p) : Prop := vc E p.1 p.2 st
def AWpH (E : Sit) (st : St) {p : Code × (Exit → St → Prop)} (_ : Hold p) : Prop := AWp E p.1 p.2 st
def VCallH (E : Sit) (N j : Nat) (draw : Bool) (st : St) (ca : Option (FuncId × List (Bool × List AV))) (cv : Option (List (Bool × List CV))) {p : List Oper × (Exit → St → Prop) × Kop × (AT → List (Nat × Option AObj) → Nat → Prop)} (_ : Hold p) : Prop :=
  VCall E ⟨p.1, N, draw, p.2.1⟩ st j ca cv p.2.2.1 p.2.2.2

def vnilqH (Γ : Ctx) (draw : Bool) (objs : List (Nat × Option AObj)) (q : Option (TypeId × Operand × Bool)) {p : (TypeId → Operand → AT) × (Bool → Prop) × Prop} (_ : Hold p) : Prop := vnilq Γ draw objs p.1 p.2.1 p.2.2 q
def vcRH (E : Sit) (m : Nat) (st : St) {p : Code × (Exit → St → Prop)} (_ : Hold p) : Prop := vcR E p.1 p.2 m st
theorem vcR_hold (E : Sit) (x : Code) (Q : Exit → St → Prop) (m : Nat) (st : St) : vcR E x Q m st = vcRH E m st (hold (x, Q)) := rfl
/-- One round more. -/
theorem vround {E : Sit} {m : Nat} {st : St} {x : Code} {Q : Exit → St → Prop} {h : Hold (x, Q)} (hk : vc E x (thenQ (vcR E x Q m) Q) st) : vcRH E (m + 1) st h := hk
/-- A loop, round by round: m rounds at most. -/
theorem vrounds (m : Nat) {E : Sit} (hE : SitOk E) {st : St} {x : Code} {Q : Exit → St → Prop} {h : Hold (Code.loop x, Q)} (hk : vcR E x Q m st) : AWpH E st h :=
  awp_rounds m (vcR_sound hE m st hk)
theorem vnilq_hold (Γ : Ctx) (draw : Bool) (objs : List (Nat × Option AObj)) (ev : TypeId → Operand → AT) (K : Bool → Prop) (B : Prop) (q : Option (TypeId × Operand × Bool)) : vnilq Γ draw objs ev K B q = vnilqH Γ draw objs q (hold (ev, K, B)) := rfl
theorem vnilqH_none (Γ : Ctx) (draw : Bool) (objs : List (Nat × Option AObj)) {ev : TypeId → Operand → AT} {K : Bool → Prop} {B : Prop} (h : Hold (ev, K, B)) : vnilqH Γ draw objs none h = B := rfl
theorem vnilqH_some (Γ : Ctx) (objs : List (Nat × Option AObj)) (t : TypeId) (x : Operand) (want : Bool) {ev : TypeId → Operand → AT} {K : Bool → Prop} {B : Prop} (h : Hold (ev, K, B)) :
    vnilqH Γ false objs (some (t, x, want)) h = vo (Γ.elem t) fun _ => vo (ev t x).one? fun v => vo (rowsOf (getO objs) v) fun q => 0 < q.1 ∧ ∀ b, (q.2.1 ≠ [] → b = false) → K (b == want) := by simp [vnilqH, vnilq]

def YCallH (E : Sit) (draw : Bool) (n : Nat) (A : List (Bool × List AV)) (objs : List (Nat × Option AObj)) (next : Nat) {K : AT → List (Nat × Option AObj) → Nat → Prop} (_ : Hold K) : Prop := YCall E draw n A objs next K
theorem YCall_hold (E : Sit) (draw : Bool) (n : Nat) (A : List (Bool × List AV)) (objs : List (Nat × Option AObj)) (next : Nat) (K : AT → List (Nat × Option AObj) → Nat → Prop) : YCall E draw n A objs next K = YCallH E draw n A objs next (hold K) := rfl
def vyldH (y : Option (Nat × List (Bool × List AV))) {p : (Nat → List (Bool × List AV) → Prop) × Prop} (_ : Hold p) : Prop := vyld y p.1 p.2
theorem vyld_hold (y : Option (Nat × List (Bool × List AV))) (Y : Nat → List (Bool × List AV) → Prop) (B : Prop) : vyld y Y B = vyldH y (hold (Y, B)) := rfl
theorem vyldH_none {Y : Nat → List (Bool × List AV) → Prop} {B : Prop} (h : Hold (Y, B)) : vyldH none h = B := rfl
theorem vyldH_some (n : Nat) (A : List (Bool × List AV)) {Y : Nat → List (Bool × List AV) → Prop} {B : Prop} (h : Hold (Y, B)) : vyldH (some (n, A)) h = Y n A := rfl

def DrawH (draw : Bool) {p : List Oper × List Ft} (_ : Hold p) : Prop := draw = true → drawF p.1 p.2.reverse = true
theorem DrawOk_hold (ops : List Oper) (N : Nat) (draw : Bool) (Q : Exit → St → Prop) (acc : List Ft) : DrawOk ⟨ops, N, draw, Q⟩ acc = DrawH draw (hold (ops, acc)) := rfl
theorem DrawH_false {p : List Oper × List Ft} (h : Hold p) : DrawH false h = True := by simp [DrawH]
/-- The order of a drawn region does not matter: the kernel looks. -/
theorem drawn {p : List Oper × List Ft} {h : Hold p} (e : drawF p.1 p.2.reverse = true) : DrawH true h := fun _ => e

theorem vo_hold {α : Type} (x : Option α) (K : α → Prop) : vo x K = voH x (hold K) := rfl
theorem vget_hold {α : Type} (l : List α) (i : Nat) (K : α → Prop) : vget l i K = vgetH l i (hold K) := rfl
theorem vbyte_hold (s : ByteArray) (i : Nat) (K : UInt8 → Prop) : vbyte s i K = vbyteH s i (hold K) := rfl
theorem vcond_hold (b : Option Bool) (A B : Prop) : vcond b A B = vcondH b (hold (And A B)) := rfl
theorem vsw_hold (b : Bool) (A B : Prop) : vsw b A B = vswH b (hold (And A B)) := rfl
theorem vgd_hold (t : Nat) (env : List (Nat × AT)) (w : Bool) (A B : List (Nat × AT) → Prop) (x : AT) : vgd t env w A B x = vgdH x (hold (t, env, w, A, B)) := rfl
theorem vguardT_hold (env : List (Nat × AT)) (w : Bool) (A B : List (Nat × AT) → Prop) (x : Option Tmp) : vguardT env w A B x = vguardTH x (hold (env, w, A, B)) := rfl
theorem vrun_hold (E : Sit) (R : Reg) (j : Nat) (acc : List Ft) (l : List Oper) (st : St) : vrun E R j acc l st = vrunH E j st (hold (R, acc, l)) := rfl
theorem vc_hold (E : Sit) (c : Code) (Q : Exit → St → Prop) (st : St) : vc E c Q st = vcH E st (hold (c, Q)) := rfl
theorem AWp_hold (E : Sit) (c : Code) (Q : Exit → St → Prop) (st : St) : AWp E c Q st = AWpH E st (hold (c, Q)) := rfl
theorem VCall_hold (E : Sit) (ops : List Oper) (N : Nat) (draw : Bool) (Q : Exit → St → Prop) (st : St) (j : Nat) (ca : Option (FuncId × List (Bool × List AV))) (cv : Option (List (Bool × List CV))) (K : Kop) (KH : AT → List (Nat × Option AObj) → Nat → Prop) :
    VCall E ⟨ops, N, draw, Q⟩ st j ca cv K KH = VCallH E N j draw st ca cv (hold (ops, Q, K, KH)) := rfl
theorem vguard_none (ops : List Oper) (env : List (Nat × AT)) (A B : List (Nat × AT) → Prop) : vguard ops env A B none = B env := rfl
theorem vguard_some (ops : List Oper) (env : List (Nat × AT)) (A B : List (Nat × AT) → Prop) (j : Nat) (w : Bool) : vguard ops env A B (some (j, w)) = vguardT env w A B ((ops[j]?).bind (·.dst)) := rfl

theorem voH_some {α : Type} (r : α) {K : α → Prop} (h : Hold K) : voH (some r) h = K r := by simp [voH, vo]
theorem voH_none {α : Type} {K : α → Prop} (h : Hold K) : voH none h = False := by simp [voH, vo]
theorem vgetH_map {α β : Type} (f : α → β) (l : List α) (i : Nat) {K : β → Prop} (h : Hold K) : vgetH (l.map f) i h = (i < l.length ∧ ∀ x, l[i]? = some x → K (f x)) := vget_map f l i K
theorem vgetH_zero {α : Type} (x : α) (l : List α) {K : α → Prop} (h : Hold K) : vgetH (x :: l) 0 h = K x := vget_zero x l K
theorem vgetH_succ {α : Type} (x : α) (l : List α) (i : Nat) {K : α → Prop} (h : Hold K) : vgetH (x :: l) (i + 1) h = vgetH l i (hold K) := vget_succ x l i K
theorem vgetH_nil {α : Type} (i : Nat) {K : α → Prop} (h : Hold K) : vgetH [] i h = False := vget_nil i K
theorem vcondH_some (b : Bool) {A B : Prop} (h : Hold (And A B)) : vcondH (some b) h = ((b = true → A) ∧ (b = false → B)) := vcond_some b A B
theorem vcondH_true {A B : Prop} (h : Hold (And A B)) : vcondH (some true) h = A := vcond_true A B
theorem vcondH_false {A B : Prop} (h : Hold (And A B)) : vcondH (some false) h = B := vcond_false A B
theorem vcondH_none {A B : Prop} (h : Hold (And A B)) : vcondH none h = False := vcond_none A B
theorem vswH_true {A B : Prop} (h : Hold (And A B)) : vswH true h = A := vsw_true A B
theorem vswH_false {A B : Prop} (h : Hold (And A B)) : vswH false h = B := vsw_false A B
theorem vswH_var (b : Bool) {A B : Prop} (h : Hold (And A B)) : vswH b h = ((b = true → A) ∧ (b = false → B)) := rfl
theorem vguardTH_none {env : List (Nat × AT)} {w : Bool} {A B : List (Nat × AT) → Prop} (h : Hold (env, w, A, B)) : vguardTH none h = A env := rfl
theorem vguardTH_some (t : Nat) {env : List (Nat × AT)} {w : Bool} {A B : List (Nat × AT) → Prop} (h : Hold (env, w, A, B)) : vguardTH (some t) h = vgd t env w A B (getE env t) := rfl
theorem vgdH_bool (b : Bool) {t : Nat} {env : List (Nat × AT)} {w : Bool} {A B : List (Nat × AT) → Prop} (h : Hold (t, env, w, A, B)) : vgdH (.cs false [.d (.v (.bool b))]) h = vsw (b == w) (B ((t, .cs false [.d (.v (.bool w))]) :: env)) (A ((t, .cs false [.d (.v (.bool !w))]) :: env)) := rfl
theorem vgdH_undef {t : Nat} {env : List (Nat × AT)} {w : Bool} {A B : List (Nat × AT) → Prop} (h : Hold (t, env, w, A, B)) : vgdH .undef h = A env := rfl

theorem vcH_region (E : Sit) (id : Nat) (l : List Oper) (draw : Bool) (Q : Exit → St → Prop) (st : St) (h : Hold (Code.region id l.toArray draw, Q)) : vcH E st h = vrun E ⟨l, st.next, draw, Q⟩ 0 [] l st := rfl
theorem vcH_skip (E : Sit) (Q : Exit → St → Prop) (st : St) (h : Hold (Code.skip, Q)) : vcH E st h = Q .normal st := rfl
theorem vcH_seq (E : Sit) (a b : Code) (Q : Exit → St → Prop) (st : St) (h : Hold (Code.seq a b, Q)) : vcH E st h = vc E a (thenQ (vc E b Q) Q) st := rfl
theorem vcH_cond (E : Sit) (x : Operand) (a b : Code) (Q : Exit → St → Prop) (st : St) (h : Hold (Code.cond x a b, Q)) : vcH E st h = vcond (aval E.Γ (getE st.env) 0 x).bool? (vc E a Q st) (vc E b Q st) := rfl
theorem vcH_block (E : Sit) (id : Nat) (c : Code) (Q : Exit → St → Prop) (st : St) (h : Hold (Code.block id c, Q)) : vcH E st h = vc E c (blockQ id Q) st := rfl
theorem vcH_exit (E : Sit) (id : Nat) (Q : Exit → St → Prop) (st : St) (h : Hold (Code.exit id, Q)) : vcH E st h = Q (.exit id) st := rfl
theorem vcH_label (E : Sit) (id : Nat) (Q : Exit → St → Prop) (st : St) (h : Hold (Code.label id, Q)) : vcH E st h = Q .normal st := rfl
theorem vcH_ret (E : Sit) (Q : Exit → St → Prop) (st : St) (h : Hold (Code.ret, Q)) : vcH E st h = Q .ret st := rfl
theorem vcH_scope (E : Sit) (c : Code) (Q : Exit → St → Prop) (st : St) (h : Hold (Code.scope c, Q)) : vcH E st h = vc E c (noGotoQ Q) st := rfl
theorem vcH_loop (E : Sit) (c : Code) (Q : Exit → St → Prop) (st : St) (h : Hold (Code.loop c, Q)) : vcH E st h = AWp E (.loop c) Q st := rfl
theorem vcH_rangeFunc (E : Sit) (f : Operand) (ps : Array Tmp) (a b : Code) (Q : Exit → St → Prop) (st : St) (h : Hold (Code.rangeFunc f ps a b, Q)) : vcH E st h = AWp E (.rangeFunc f ps a b) Q st := rfl

theorem vrunH_nil (E : Sit) (R : Reg) (j : Nat) (acc : List Ft) (st : St) (h : Hold (R, acc, ([] : List Oper))) : vrunH E j st h = (DrawOk R acc ∧ R.Q .normal ⟨st.nt, st.env, st.objs, R.N + 8 * j⟩) := by simp only [vrunH, vrun]
theorem vrunH_cons (E : Sit) (ops : List Oper) (N : Nat) (draw : Bool) (Q : Exit → St → Prop) (j : Nat) (acc : List Ft) (dst : Option Tmp) (op : Op) (ty : TypeId) (pos : String) (af : Array Edge) (g : Option (Nat × Bool)) (rest : List Oper) (nt : Nat) (env : List (Nat × AT)) (objs : List (Nat × Option AObj)) (next : Nat)
    (h : Hold ((⟨ops, N, draw, Q⟩ : Reg), acc, (⟨dst, op, ty, pos, af, g⟩ : Oper) :: rest)) :
    vrunH E j ⟨nt, env, objs, next⟩ h = (dstOk nt dst = true ∧ vguard ops env
      (fun env => vrun E ⟨ops, N, draw, Q⟩ (j + 1) (⟨guardT ops.toArray ⟨dst, op, ty, pos, af, g⟩, [], dst, []⟩ :: acc) rest ⟨nt, putE env dst .undef, objs, next⟩)
      (fun env => vnilq E.Γ draw objs (aval E.Γ (getE env)) (fun b => vrun E ⟨ops, N, draw, Q⟩ (j + 1) acc rest ⟨nt, putE env dst (.cs false [.d (.v (.bool b))]), objs, next⟩) (vsw (isCall E.Γ op)
        (vyld (yieldA (aval E.Γ (getE env)) ⟨dst, op, ty, pos, af, g⟩) (fun n A => YCall E draw n A objs (N + 8 * j) (fun t objs' next' => vrun E ⟨ops, next', draw, Q⟩ (j + 1) acc rest ⟨nt, putE env dst t, objs', next⟩))
        (VCall E ⟨ops, N, draw, Q⟩ ⟨nt, env, objs, next⟩ j (callArgs (aval E.Γ (getE env)) ⟨dst, op, ty, pos, af, g⟩) (convOf objs (callArgs (aval E.Γ (getE env)) ⟨dst, op, ty, pos, af, g⟩)) (fun out upd touch =>
            vrun E ⟨ops, N, draw, Q⟩ (j + 1) (⟨guardT ops.toArray ⟨dst, op, ty, pos, af, g⟩ ++ op.operands.toList.flatMap opTemps, touch, dst, upd.map (·.1)⟩ :: acc) rest ⟨nt, putE env dst out, upd ++ objs, next⟩)
            (fun t objs' next' => vrun E ⟨ops, next', draw, Q⟩ (j + 1) acc rest ⟨nt, putE env dst t, objs', next⟩)))
        (vop E.Γ (N + 8 * j) objs (aval E.Γ (getE env)) ty (fun out upd touch =>
            vrun E ⟨ops, N, draw, Q⟩ (j + 1) (⟨guardT ops.toArray ⟨dst, op, ty, pos, af, g⟩ ++ op.operands.toList.flatMap opTemps, touch, dst, upd.map (·.1)⟩ :: acc) rest ⟨nt, putE env dst out, upd ++ objs, next⟩) op)) (nilq op))
      g) := by simp only [vrunH, vrun]

theorem getE_put1 (env : List (Nat × AT)) (d t : Nat) (x : AT) : getE (putE env (some d) x) t = if t = d then x else getE env t := rfl
theorem putE_some (env : List (Nat × AT)) (d : Nat) (x : AT) : putE env (some d) x = (d, x) :: env := rfl
theorem putE_none (env : List (Nat × AT)) (x : AT) : putE env none x = env := rfl

theorem voH_iteN {α : Type} {c : Prop} [Decidable c] (x : Option α) {K : α → Prop} (h : Hold K) : voH (if c then x else none) h = (c ∧ voH x h) := by
  by_cases hc : c <;> simp [voH, vo, hc]
theorem voH_iteB {α : Type} {c : Prop} [Decidable c] (x y : Option α) {K : α → Prop} (h : Hold K) : voH (if c then x else y) h = ((c → voH x h) ∧ (¬ c → voH y h)) := by
  by_cases hc : c <;> simp [voH, vo, hc]
theorem voH_ite {α : Type} {c : Prop} [Decidable c] (a : α) {K : α → Prop} (h : Hold K) : voH (if c then some a else none) h = (c ∧ K a) := by
  by_cases hc : c <;> simp [voH, vo, hc]

theorem convArgs_caps (ob : Nat → Option AObj) : ∀ caps : List D, convArgs ob [] (caps.map fun d => (false, [.d d])) = some (caps.map fun d => (false, [.d d]))
  | [] => rfl
  | x :: r => by
    have ih := convArgs_caps ob r
    simp only [List.map_cons, convArgs, List.headD_nil, List.tail_nil, ih]
    rfl
theorem eatenOf_caps (ob : Nat → Option AObj) : ∀ caps : List D, eatenOf ob [] (caps.map fun d => (false, [.d d])) = []
  | [] => rfl
  | x :: r => by
    have ih := eatenOf_caps ob r
    simp only [List.map_cons, eatenOf, List.headD_nil, List.tail_nil, ih]
    rfl
theorem lentOf_caps (ob : Nat → Option AObj) : ∀ caps : List D, lentOf ob [] (caps.map fun d => (false, [.d d])) = []
  | [] => rfl
  | x :: r => by
    have ih := lentOf_caps ob r
    simp only [List.map_cons, lentOf, List.headD_nil, List.tail_nil, ih]
    rfl
theorem touch_caps : ∀ caps : List D, (caps.map fun d => ((false, [AV.d d]) : Bool × List AV)).flatMap (fun a => a.2.flatMap avT) = []
  | [] => rfl
  | x :: r => by
    have ih := touch_caps r
    simp only [List.map_cons, List.flatMap_cons, ih]
    rfl

attribute [go_sem low] voH_iteB
attribute [go_sem] exists_eq_left' exists_eq_left voH_ite voH_iteN convArgs_caps eatenOf_caps lentOf_caps touch_caps List.size_toArray
attribute [go_sem ↓] vcR_hold vnilq_hold vyld_hold YCall_hold vo_hold vget_hold vbyte_hold vcond_hold vsw_hold vgd_hold vguardT_hold vrun_hold vc_hold AWp_hold VCall_hold DrawOk_hold vguard_none vguard_some
attribute [go_sem] yieldA vyldH_none vyldH_some parE setLp AObj.lp.injEq nilq vnilqH_none vnilqH_some beq_true beq_false vcH_region vcH_skip vcH_seq vcH_cond vcH_block vcH_exit vcH_label vcH_ret vcH_scope vcH_loop vcH_rangeFunc vrunH_nil vrunH_cons voH_some voH_none vgetH_map vgetH_zero vgetH_succ vgetH_nil vcondH_none vguardTH_none vguardTH_some vgdH_bool vgdH_undef
attribute [go_sem low] vswH_var vcondH_some
attribute [go_sem high] vcondH_true vcondH_false vswH_true vswH_false
attribute [go_sem] fnsT isOther buildV fillV idxV itOf rangeA
attribute [go_sem] Option.isSome_some Option.isSome_none Option.isNone_some Option.isNone_none isPtr ptrNil isWx extS overA extA sliceX isInt newRows appendX dstOf copyX capX isSlice vop vload vstore vbin vidxA vslice vsliceN vappend vbuiltin varOf rowOf fzOf partsC frzL convOf isCall thenQ blockQ noGotoQ DrawH_false
attribute [go_sem] getE getO putE_some putE_none aval constT AT.bool? AT.int? AT.one? AT.cells? unD avD capT avT allD avArg allArg livesOf valEq scal2 flatScal kindFits cellsEq isPtr binA loadC fillA fillRows partA capsD optInt rowsOf resAVs ownsIn resComps CV.scalar Res.scalar Res.out argsOf convArgs eatenOf lentOf frz callUpd callOk callTouch capsOf onesOf foldInts headOf sliceA clearW pureOut capA callArgs dstOk initEnv splice_cc splice_cs splice_nil
attribute [go_sem] RetS resOf resAll FitsOwn FitsC idsC FitsR idsR initSt
attribute [go_sem] List.nil_append List.singleton_append List.cons_append List.append_nil List.map_nil List.map_cons List.flatMap_nil List.flatMap_cons List.length_cons List.length_nil List.length_map List.take_zero List.take_succ_cons List.take_nil List.drop_zero List.drop_succ_cons List.drop_nil List.getElem?_cons_zero List.getElem?_cons_succ List.getElem?_nil List.headD_cons List.headD_nil List.tail_cons List.tail_nil List.replicate_zero List.replicate_succ List.all_nil List.all_cons List.contains_nil List.contains_cons List.set_cons_zero List.set_cons_succ List.nodup_nil List.nodup_cons List.not_mem_nil List.mem_cons
attribute [go_sem] Option.map_some Option.map_none Option.bind_some Option.bind_none Option.some.injEq Int.toNat_natCast Int.toNat_zero Int.natCast_zero Nat.zero_add Nat.add_zero Nat.sub_zero Nat.le_refl Int.le_refl
attribute [go_sem] and_true true_and and_false false_and and_self or_false false_or not_false_eq_true not_true_eq_false true_implies false_implies implies_true eq_self ne_eq Bool.not_true Bool.not_false Bool.and_true Bool.true_and Bool.and_false Bool.false_and Bool.or_true Bool.true_or Bool.or_false Bool.false_or Bool.not_eq_true Bool.false_eq_true Bool.true_eq_false beq_self_eq_true decide_eq_true_eq decide_eq_false_iff_not decide_true decide_false beq_iff_eq beq_eq_false_iff_ne bne_iff_ne bne_eq_false_iff_eq Bool.not_eq_true' Bool.not_eq_false' Bool.and_eq_true Bool.or_eq_true Bool.and_eq_false_imp beq_true beq_false Int.not_lt Int.not_le Prod.mk.injEq List.cons.injEq
attribute [go_sem] AT.cs.injEq AT.tup.injEq AV.d.injEq D.v.injEq D.vec.injEq D.pt.injEq D.fn.injEq Value.int.injEq Value.bool.injEq Value.string.injEq AObj.row.injEq AObj.var.injEq

/-- What is handed back, as it stands. -/
theorem ret0 {Γ : Ctx} {rs : List ResultVar} {res : Res} {st : St} (h : vo (resAll Γ st rs) fun comps => FitsR (getO st.objs) comps res.cs ∧ (idsR comps res.cs).Nodup ∧ res.tup = !(rs.length == 1)) : RetQ Γ rs res .ret st :=
  let ⟨comps, h1, h2⟩ := h; ⟨[], st, rfl, comps, h1, h2⟩
theorem ret0n {Γ : Ctx} {rs : List ResultVar} {res : Res} {st : St} (h : RetQ Γ rs res .ret st) : RetQ Γ rs res .normal st := h
/-- What is handed back, some objects being frozen first. -/
theorem retF (fz : List Nat) {Γ : Ctx} {rs : List ResultVar} {res : Res} {st : St} (h : vo (st.freezeL fz) fun st => vo (resAll Γ st rs) fun comps => FitsR (getO st.objs) comps res.cs ∧ (idsR comps res.cs).Nodup ∧ res.tup = !(rs.length == 1)) : RetQ Γ rs res .ret st :=
  let ⟨st', h0, comps, h1, h2⟩ := h; ⟨fz, st', h0, comps, h1, h2⟩
attribute [go_sem] St.freezeL St.freeze

end Go.Eng
