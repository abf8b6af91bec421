/- For every status and every kill, ProcsHeld answers true, and leaves its arguments. -/
import Derived.Test.YtddcnopjjihmcaaGreatRows
import Derived.WalkKit
import Derived.ProofKit
import Derived.OpenShut
import Derived.Test.YtddcnopjjihmcaaGreatH4
namespace Go.Proofs.YtddcnopjjihmcaaGreat.procsHeld
open Go.ChangeShapes Go.WideShapes Go.ChangeAt Go.RowKit
set_option linter.unusedVariables false      -- a walk need not use every 'w<i>' (that an integer argument fits its kind)

theorem own : ownKnob Tryz.prog.godebug = none := by kernel_rfl

/-! ### STEP 1: THE WALK: the Go text returns true. 'Grown w w'': the world has at most new blocks (Derived/RowKit3.lean). Part the cases AHEAD of 'go_enter' where a test parts the walk; take each callee by a contract of your own. -/
set_option maxRecDepth 100000 in
theorem walk (a0 : Int) (a1 : Bool) (w0 : (Lit.int .i64 a0).wf = true) (w : World) :
    Calls Tryz.prog 5 #[.int .i64 a0, .bool a1] w fun e w' => e = .returned (.bool true) ∧ Go.Ev.Old w w' := by
  have hb : -9223372036854775808 ≤ a0 ∧ a0 ≤ 9223372036854775807 := by
    have h1 : IntKind.i64.min = -9223372036854775808 := by decide
    have h2 : IntKind.i64.max = 9223372036854775807 := by decide
    simpa [Lit.wf, h1, h2] using w0
  letI V : Go.Ev.SymV := Go.Ev.G.symV a0 hb.1 hb.2
  have hx : Go.Ev.VR Go.Ev.noLoc (.sb .i64 0 (.ofNat 0)) (.int .i64 a0) := by
    simp only [Go.Ev.VR]
    show Value.int .i64 a0 = Value.int .i64 (a0 + 0)
    rw [Int.add_zero]
  have ht : ∀ b, Go.Ev.VR Go.Ev.noLoc (.bool b) (.bool b) := fun b => by simp only [Go.Ev.VR]
  cases a1 with
  | false =>
    refine (Go.Ev.G.last Go.Ev.G.prim2_ok (g := 5) (by kernel_rfl) Go.Ev.G.held_false (argvs := [.int .i64 a0, .bool false]) (.cons hx (.cons (ht _) .nil))).mono fun e w' ⟨⟨u, ι', he, hv⟩, ho⟩ => ⟨?_, ho⟩
    simp only [Go.Ev.VR] at hv
    rw [he, hv]
  | true =>
    refine (Go.Ev.G.last Go.Ev.G.prim2_ok (g := 5) (by kernel_rfl) Go.Ev.G.held_true (argvs := [.int .i64 a0, .bool true]) (.cons hx (.cons (ht _) .nil))).mono fun e w' ⟨⟨u, ι', he, hv⟩, ho⟩ => ⟨?_, ho⟩
    simp only [Go.Ev.VR] at hv
    rw [he, hv]

/-! ### THE ROW's STEP: WRITTEN OUT: LEAVE IT -/
set_option maxRecDepth 100000 in
theorem lifted (os : Os) (started : os.Started) (H : Type) (enc : TypeId × Value → H) :
    ReturnsInHanded {} Tryz.checked os 5 .any (Rows.procsHeldSpec.pre6 enc Tryz.prog Tryz.f5 Rows.procsHeldRow.domain false) (Rows.procsHeldSpec.post enc Tryz.prog Tryz.f5 false true false false) := by
  refine returnsInHanded_of_change (C := Tryz.checked) own started (by kernel_rfl) Tryz.func5
    (ChangeSpec.witness6 (enc := enc) (C := Tryz.checked) false ⟨#[], #[.int .i64 0, .bool false], []⟩ 8 (by kernel_rfl) (by kernel_rfl) (by kernel_rfl) (by kernel_rfl)) ?_
  intro W base args ds gs before hval0 hW hcnd _
  have hval : ∀ (j : Nat) t v, Tryz.f5.params[j]? = some t → args[j]? = some v → Value.okWide Tryz.prog W .any base t v := hval0
  have hW' := hW
  obtain ⟨p, q, hA0, hV, rfl, hfz, hnd⟩ := hW
  have hA : DataW.TrodAll enc Tryz.prog W 0 (fun _ => true) true Tryz.f5.params.toList args.toList ds p := hA0
  rw [Tryz.params5] at hA hval
  obtain ⟨v0, vs0, d0, ds0, p0, q0, hargs, rfl, rfl, h0, r0⟩ := trodAll_cons hA
  obtain ⟨v1, vs1, d1, ds1, p1, q1, rfl, rfl, rfl, h1, r1⟩ := trodAll_cons r0
  obtain ⟨rfl, rfl, rfl⟩ := trodAll_nil r1
  obtain rfl : args = #[v0, v1] := by cases args; simp_all
  obtain ⟨rfl, rfl⟩ := trodVars_none hV
  obtain ⟨a0, rfl, rfl, rfl, w0⟩ := open_int Tryz.underlying3 (hval 0 3 v0 rfl rfl) h0
  obtain ⟨a1, rfl, rfl, rfl⟩ := open_bool Tryz.underlying4 (hval 1 4 v1 rfl rfl) h1
  clear hA0 hval0
  simp only [List.append_nil] at hW'
  refine (walk a0 a1 w0 W).mono fun e W' ⟨he, hg⟩ => ?_
  subst he
  exact ⟨_, rfl, Go.Ev.post_of_old (pa := []) (pv := []) hW' (fun _ _ _ => (trodAll_cons_mk (shut_bool Tryz.underlying4 _) trodAll_mk0)) (fun sp _ => (trodAll_cons_mk (shut_int Tryz.underlying3 w0) (trodAll_cons_mk (shut_bool Tryz.underlying4 _) trodAll_mk0))) (fun _ _ => rfl) rfl
    hg (ok_one (by kernel_rfl) rfl (okWide_bool_mk Tryz.underlying4 _))⟩

set_option maxHeartbeats 4000000 in
set_option maxRecDepth 100000 in
theorem facts : joinedFacts Tryz.pinned.checked.prog 5 Tryz.f5 Rows.procsHeldSpec Rows.procsHeldRow = true := by
  simp only [joinedFacts, Bool.and_eq_true]
  repeat' (apply And.intro)
  all_goals as_aux_lemma => kernel_rfl

set_option maxHeartbeats 4000000 in
set_option maxRecDepth 100000 in
theorem over : Rows.procsHeldRow.holds Tryz.pinned (OpenSpec.ofChange Rows.procsHeldSpec) :=
  OpenClaim.holds_of_wide 5 Tryz.f5 rfl rfl rfl rfl rfl rfl rfl ⟨rfl, rfl, rfl, rfl, rfl⟩ rfl rfl rfl rfl rfl (by as_aux_lemma => kernel_rfl) Tryz.func5 facts
    (by as_aux_lemma => exact (of_decide_eq_true (by kernel_rfl))) (by as_aux_lemma => (unfold Func.isWrapper; first | (rw [if_pos (by decide +kernel)]; kernel_rfl) | (rw [if_neg (by decide +kernel)]; exact ⟨rfl, rfl⟩)))
    (fun os started H enc _ => lifted os started H enc)

/-- ████ THE STATEMENT ████ -/
theorem proved : Rows.ProcsHeldSaid :=
  over
#print axioms proved
end Go.Proofs.YtddcnopjjihmcaaGreat.procsHeld
