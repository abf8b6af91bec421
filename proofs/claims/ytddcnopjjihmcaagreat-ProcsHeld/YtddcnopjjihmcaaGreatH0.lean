import Derived.Test.YtddcnopjjihmcaaGreatGT
import Derived.KernelRfl
set_option linter.unusedVariables false
set_option maxRecDepth 100000
namespace Go.Ev.G
open Go.Ev

/-! # what stands below every run: the unknown numbers' bounds, the calls that are answered without a walk -/
def rp {α : Type} (n : Nat) (a : α) (l : List α) : List α := @Nat.rec (fun _ => List α) l (fun _ r => a :: r) n
def ii (n : Nat) : AV := .int .i64 (.ofNat n)
def bb (n : Nat) : AV := .int .u8 (.ofNat n)

/-- the one number that is unknown, and what is left of it by 256 -/
instance symT : SymT := ⟨fun j => bif Nat.beq j 0 then .negSucc 9223372036854775807 else .ofNat 0, fun j => bif Nat.beq j 0 then .ofNat 9223372036854775807 else .ofNat 255,
  fun j m => bif Nat.beq j 0 && Nat.beq m 256 then some (.sb .u64 1 (.ofNat 0)) else none⟩

abbrev symV (a : Int) (h1 : -9223372036854775808 ≤ a) (h2 : a ≤ 9223372036854775807) : SymV where
  val j := bif Nat.beq j 0 then a else (a % 18446744073709551616) % 256
  opq _ := .int .i64 0
  lo j := by
    show (bif Nat.beq j 0 then Int.negSucc 9223372036854775807 else Int.ofNat 0) ≤ (bif Nat.beq j 0 then a else (a % 18446744073709551616) % 256)
    cases Nat.beq j 0 with
    | true => simp only [cond_true]; omega
    | false => simp only [cond_false]; show (0 : Int) ≤ _; omega
  hi j := by
    show (bif Nat.beq j 0 then a else (a % 18446744073709551616) % 256) ≤ (bif Nat.beq j 0 then Int.ofNat 9223372036854775807 else Int.ofNat 255)
    cases Nat.beq j 0 with
    | true => simp only [cond_true]; exact h2
    | false => simp only [cond_false]; show _ ≤ (255 : Int); omega
  um j m v h := by
    replace h : (bif Nat.beq j 0 && Nat.beq m 256 then some (AV.sb .u64 1 (.ofNat 0)) else none) = some v := h
    cases hb : Nat.beq j 0 && Nat.beq m 256 with
    | false => rw [hb] at h; cases h
    | true =>
      rw [hb] at h
      simp only [cond_true, Option.some.injEq] at h
      subst h
      simp only [Bool.and_eq_true, Nat.beq_eq] at hb
      obtain ⟨rfl, rfl⟩ := hb
      refine ⟨rfl, ?_⟩
      show (a % 18446744073709551616) % (256 : Int) = (a % 18446744073709551616) % 256 + (0 : Int)
      omega
  one _ := rfl
  nb _ _ h := by cases h

def R0 : XRel Empty where
  rel x := x.elim
  lt x := x.elim
  keep x := x.elim

def prim00 : Pos → Option (Prim Empty) := addPrim (fun _ => none) p227 sameP
def prim0 : Pos → Option (Prim Empty) := addPrim prim00 p145 (Nums.listP 3)

theorem mixed : Go.Proofs.Tryz.prog.follows .mixedOrders = true := by kernel_rfl

section
variable [V : SymV]
theorem prim00_ok : PrimOk Go.Proofs.Tryz.prog R0 prim00 :=
  primOk_none.add (g := 227) (by kernel_rfl) (sameP_ok Go.Proofs.Tryz.func227 (by kernel_rfl) (by kernel_rfl) (by kernel_rfl) (by kernel_rfl))

theorem prim0_ok : PrimOk Go.Proofs.Tryz.prog R0 prim0 :=
  prim00_ok.add (g := 145) (by kernel_rfl) (listP_ok (q := p145) (callN_ok mixed tab_ok prim00_ok 1) (by kernel_rfl) (by kernel_rfl) (by kernel_rfl))

/-- **a chunk more** -/
theorem more {prim : Pos → Option (Prim Empty)} (hp : PrimOk Go.Proofs.Tryz.prog R0 prim) {g : FuncId} {q : Pos} {args : List AV} {h0 h2 : Heap Empty} {v : AV} (e : Pos.of g = q) (hv : ansB v h2 (F.callF tab prim 200 (.fn q) args h0) = true) :
    PrimOk Go.Proofs.Tryz.prog R0 (addPrim prim q (chunkP args h0 v h2)) := by
  rw [F.callF_eq] at hv
  exact hp.add e (chunkP_ok (callN_ok mixed tab_ok hp 200) e hv)

theorem morePure {prim : Pos → Option (Prim Empty)} (hp : PrimOk Go.Proofs.Tryz.prog R0 prim) {g : FuncId} {q : Pos} {args : List AV} {v : AV} (e : Pos.of g = q) (hv : valB v (F.callF tab prim 200 (.fn q) args mt) = true) (h1 : flats args = true) (h2 : v.flat = true) :
    PrimOk Go.Proofs.Tryz.prog R0 (addPrim prim q (pureP args v)) := by
  rw [F.callF_eq] at hv
  exact hp.add e (pureP_ok (callN_ok mixed tab_ok hp 200) e hv h1 h2)

theorem last {prim : Pos → Option (Prim Empty)} (hp : PrimOk Go.Proofs.Tryz.prog R0 prim) {g : FuncId} {q : Pos} {args : List AV} {v : AV} (e : Pos.of g = q) (hv : valB v (F.callF tab prim 200 (.it q) args mt) = true)
    {w : World} {argvs : List Value} (ha : VRs noLoc args argvs) : Calls Go.Proofs.Tryz.prog g ⟨argvs⟩ w fun e w' => (∃ u ι', e = .returned u ∧ VR ι' v u) ∧ Old w w' := by
  rw [F.callF_eq] at hv
  exact calls_of (callN_ok mixed tab_ok hp 200) e hv ha
end
end Go.Ev.G
