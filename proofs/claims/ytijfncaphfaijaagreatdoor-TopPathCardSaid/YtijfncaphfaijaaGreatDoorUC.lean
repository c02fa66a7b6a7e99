
/- up: the layers play together. -/
import Derived.Test.YtijfncaphfaijaaGreatDoorCC
namespace Go.Proofs.YtijfncaphfaijaaGreatDoor
open Go.Eng
set_option linter.unusedSimpArgs false
set_option maxRecDepth 100000

def sameCV : CV → CV → Bool
  | .d x, .d y => sameD 8 x y
  | _, _ => false
def sameArg (a b : Bool × List CV) : Bool := a.1 == b.1 && sameL sameCV a.2 b.2
theorem sameCV_ok {x y : CV} (h : sameCV x y = true) : x = y := by
  unfold sameCV at h
  split at h
  · rw [sameD_ok _ _ _ h]
  · cases h
theorem sameArg_ok (a b : Bool × List CV) (h : sameArg a b = true) : a = b := by
  simp only [sameArg, Bool.and_eq_true, beq_iff_eq] at h
  exact Prod.ext h.1 (sameL_ok (fun _ _ h => sameCV_ok h) h.2)

abbrev Known := FuncId × List (Bool × List CV) × Res
def knL (f : FuncId) (args : List (Bool × List CV)) : List Known → Option Res
  | [] => none
  | (g, a, r) :: l => if g = f then (match sameL sameArg a args with | true => some r | false => knL f args l) else knL f args l
def tbK (K : List Known) (f : FuncId) (args : List (Bool × List CV)) : Option Res := match tbA f args with
  | some r => some r
  | none => knL f args K
theorem knL_ok {f : FuncId} {args : List (Bool × List CV)} {res : Res} : ∀ {K : List Known}, (∀ k ∈ K, Meets Tryz.prog k.1 k.2.1 k.2.2) → knL f args K = some res → Meets Tryz.prog f args res
  | [], _, h => by cases h
  | (g, a, r) :: l, hK, h => by
    unfold knL at h
    split at h
    · rename_i e
      split at h
      · rename_i e2
        cases h
        subst e
        have := sameL_ok sameArg_ok e2
        subst this
        exact hK _ (List.mem_cons_self ..)
      · exact knL_ok (fun k hk => hK k (List.mem_cons_of_mem _ hk)) h
    · exact knL_ok (fun k hk => hK k (List.mem_cons_of_mem _ hk)) h
theorem tbK_ok {K : List Known} (hK : ∀ k ∈ K, Meets Tryz.prog k.1 k.2.1 k.2.2) (f : FuncId) (args : List (Bool × List CV)) (res : Res) (h : tbK K f args = some res) : Meets Tryz.prog f args res := by
  unfold tbK at h
  split at h
  · rename_i r e
    cases h
    exact tbA_ok f args res e
  · exact knL_ok hK h
noncomputable def XK (K : List Known) : RCtx := Xof (tbK K)

def kPub : Known := (14, [(false, [vU64 756745534974688341])], rTup [(false, [vU64 1422298068614183813]), (false, [vI 0])])
def kSec : Known := (13, [bsA [97]], rOne (vU64 756745534974688341))
def kSig : Known := (17, [(false, [vU64 756745534974688341]), bsA [109]], rTup [(true, [vU64 216338699798906239, vU64 192373589002842872]), (false, [vI 0])])
def kChk : Known := (10, [(false, [vU64 1422298068614183813]), bsA [109], (true, [vU64 216338699798906239, vU64 192373589002842872])], rOne (vI 0))
def kLeaf : Known := (25, [bsA [120]], ⟨false, [(true, [vU64 1974477554408490996, vU64 1656663231023785549])]⟩)
def kPar : Known := (24, [textP], ansP)

theorem pub_ok : Meets Tryz.prog kPub.1 kPub.2.1 kPub.2.2 := meets_run XA_ok 80 (by kernel_rfl)
theorem sec_ok : Meets Tryz.prog kSec.1 kSec.2.1 kSec.2.2 := meets_run XA_ok 80 (by kernel_rfl)
theorem sig_ok : Meets Tryz.prog kSig.1 kSig.2.1 kSig.2.2 := meets_run (Xof_ok (tbK_ok (K := [kPub]) fun k hk => by rcases List.mem_singleton.1 hk with rfl; exact pub_ok)) 80 (by kernel_rfl)
theorem chk_ok : Meets Tryz.prog kChk.1 kChk.2.1 kChk.2.2 := meets_run XA_ok 80 (by kernel_rfl)
theorem leaf_ok : Meets Tryz.prog kLeaf.1 kLeaf.2.1 kLeaf.2.2 := meets_run XA_ok 80 (by kernel_rfl)

def kAll : List Known := [kPub, kSec, kSig, kChk, kLeaf, kPar]
theorem kAll_ok : ∀ k ∈ kAll, Meets Tryz.prog k.1 k.2.1 k.2.2 := fun k hk => by
  simp only [kAll, List.mem_cons, List.not_mem_nil, or_false] at hk
  rcases hk with rfl | rfl | rfl | rfl | rfl | rfl
  · exact pub_ok
  · exact sec_ok
  · exact sig_ok
  · exact chk_ok
  · exact leaf_ok
  · exact parse_ok
theorem upT_ok : Meets Tryz.prog 5 [] (rOne (vB true)) := meets_run (Xof_ok (tbK_ok kAll_ok)) 80 (by kernel_rfl)
end Go.Proofs.YtijfncaphfaijaaGreatDoor
