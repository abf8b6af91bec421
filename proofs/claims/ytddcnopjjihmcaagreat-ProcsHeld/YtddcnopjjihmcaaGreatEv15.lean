import Derived.Test.YtddcnopjjihmcaaGreatEv14
import Derived.RangeFuncLeaves
import Derived.OrdersIn
set_option linter.unusedSectionVars false
set_option linter.unusedVariables false
set_option linter.unusedSimpArgs false
namespace Go.Ev
variable {X : Type} [T : SymT] [V : SymV] {P : Program} {R : XRel X}

/-- the fence of an activation: of a function's, or of a round's -/
def fen : Option Nat → Fence
  | none => Fence.wide
  | some b => Fence.wide.inRound b

theorem fen_fn (ro : Option Nat) (f : FuncId) : (fen ro).fn f := by cases ro <;> trivial
theorem fen_depth (ro : Option Nat) : (fen ro).depth = none := by cases ro <;> rfl
theorem fen_round (ro : Option Nat) : (fen ro).round = ro := by cases ro <;> rfl
theorem fen_fenced (ro : Option Nat) (P : Program) : Machine.fenced P (fen ro) = Machine.fenced P Fence.wide := by cases ro <;> rfl
theorem fen_depth1 (ro : Option Nat) (n : Nat) : (fen ro).depth.isSome = true → 1 ≤ n := by rw [fen_depth]; intro h; cases h

/-- what comes of an operation goes on as told -/
def UponOk (P : Program) (R : XRel X) (ro : Option Nat) (ι : Loc) (F : Foot) (h : Heap X) (w : World) (v : AV) (h' : Heap X) (res : Result Next) : Prop :=
  ∀ (n : Nat) (o : Oper) (a : Act) (next : Act → World → Prop) (Q : Exit → Act → World → Prop),
    (∀ u w' ι' F', VR ι' v u → Rel P R ι' F' h' w' → Ev ι F h w ι' F' h' w' → next (a.put o.dst u) w') → o.uponIn (fen ro) n P a next Q res

theorem UponOk.value {ro : Option Nat} {ι ι' : Loc} {F F' : Foot} {h h' : Heap X} {w w' : World} {v : AV} {u : Value} (hv : VR ι' v u) (r : Rel P R ι' F' h' w') (e : Ev ι F h w ι' F' h' w') : UponOk P R ro ι F h w v h' (.ok (.value u) w') :=
  fun _ _ _ _ _ hn => hn u w' ι' F' hv r e

theorem Did.upon {ro : Option Nat} {ι : Loc} {F : Foot} {h h' : Heap X} {w : World} {v : AV} {res : Result Next} (d : Did P R ι F h w v h' res) : UponOk P R ro ι F h w v h' res := by
  obtain ⟨x, w', u, ι', F', rfl, hx, hv, r, e⟩ := d
  rcases hx with rfl | ⟨rfl, rfl⟩
  · exact UponOk.value hv r e
  · exact fun _ _ _ _ _ hn => hn undef w' ι' F' hv r e

/-- what a call that comes back has done -/
def EndOk (P : Program) (R : XRel X) (ι : Loc) (F : Foot) (h : Heap X) (w : World) (v : AV) (h' : Heap X) (e : Ending) (w' : World) : Prop :=
  ∃ u ι' F', e = .returned u ∧ VR ι' v u ∧ Rel P R ι' F' h' w' ∧ Ev ι F h w ι' F' h' w'

theorem UponOk.enter {ro : Option Nat} {ι : Loc} {F : Foot} {h h' : Heap X} {w : World} {v : AV} {g : FuncId} {args : Array Value} (hc : ∀ n, CallsIn Fence.wide n P g args w (EndOk P R ι F h w v h')) : UponOk P R ro ι F h w v h' (.ok (.enter g args) w) := by
  intro n o a next Q hn
  rw [Oper.uponIn_enter]
  refine ⟨fen_depth1 ro n, ?_⟩
  have hm := (hc (n - 1)).mono (R' := fun
    | .returned v, w'' => next (a.put o.dst v) w''
    | .panicked chain, w'' => Q (.panic chain) a w''
    | .outgrown, _ => LetsOut Q) (fun e w' ⟨u, ι', F', he, hv, r, ev⟩ => by subst he; exact hn u w' ι' F' hv r ev)
  cases ro <;> exact hm

def CallOk (P : Program) (R : XRel X) (call : CallF X) : Prop :=
  ∀ (c : Callee) (args : List AV) (h : Heap X) (v : AV) (h' : Heap X), call c args h = some (v, h') → ∀ (ro : Option Nat) (ι : Loc) (F : Foot) (w : World) (argvs : List Value), Rel P R ι F h w → VRs ι args argvs →
    match c with
    | .fn f => ∀ g, Pos.of g = f → UponOk P R ro ι F h w v h' ((callFunc g ⟨argvs⟩).run P w)
    | .it f => ∀ g, Pos.of g = f → (callFunc g ⟨argvs⟩).run P w = .ok (.enter g ⟨argvs⟩) w ∧ ∀ n, CallsIn Fence.wide n P g ⟨argvs⟩ w (EndOk P R ι F h w v h')
    | .rnd l => ∀ i, ι l = some i → UponOk P R ro ι F h w v h' ((Instr.yield i.blk ⟨argvs⟩).run P w)

theorem semAt_exec {ro : Option Nat} {a : Act} {o : Oper} {q : IOp} (hc : cOpO P o.op = some q) : Oper.semAt ro a.eval o = execOp a.eval o :=
  Oper.semAt_eq ro a.eval o fun c h => by rw [h] at hc; cases hc

/-- **an operation's soundness, whatever its kind** -/
theorem op_sound {call : CallF X} (hcall : CallOk P R call) {ro : Option Nat} {ι : Loc} {F : Foot} {h h' : Heap X} {env : Env} {a : Act} {o : Oper} {v : AV} {w : World} (hv : evOp call env h (cOp P o.op) = some (v, h')) (he : EnvR ι env a.tmps) (r : Rel P R ι F h w) :
    UponOk P R ro ι F h w v h' ((o.semAt ro a.eval).run P w) := by
  cases hq : cOpO P o.op with
  | none => simp [cOp, hq, orBad, evOp, evP] at hv
  | some q =>
  rw [semAt_exec hq]
  simp only [cOp, hq, orBad] at hv
  cases q with
  | p q =>
    simp only [evOp] at hv
    split at hv
    · rename_i v' hv'
      simp only [Option.some.injEq, Prod.mk.injEq] at hv
      obtain ⟨rfl, rfl⟩ := hv
      obtain ⟨u, g1, g2⟩ := p_sound hq hv' he w
      rw [g1]
      exact UponOk.value g2 r (Ev.refl ..)
    · cases hv
  | r q =>
    simp only [evOp] at hv
    split at hv
    · rename_i v' hv'
      simp only [Option.some.injEq, Prod.mk.injEq] at hv
      obtain ⟨rfl, rfl⟩ := hv
      obtain ⟨u, g1, g2⟩ := r_sound hq hv' he r
      rw [g1]
      exact UponOk.value g2 r (Ev.refl ..)
    · cases hv
  | a q =>
    simp only [evOp] at hv
    split at hv
    · rename_i v' ob hv'
      simp only [Option.some.injEq, Prod.mk.injEq] at hv
      obtain ⟨rfl, rfl⟩ := hv
      obtain ⟨u, obj, i, w1, g1, g2, g3⟩ := a_sound hq hv' he (w := w)
      have hn : ι h.next = none := (r.fresh _ (Nat.le_refl _)).1
      have hnew : (w.alloc obj).heap[w.heap.size]? = some obj := by
        show (w.heap.push _)[w.heap.size]? = _
        rw [Array.getElem?_push_size]
      obtain ⟨k1, k2⟩ := g3 (ι.set h.next i) (w.alloc obj) (Loc.le_set i hn) (Loc.set_same ..) hnew
      obtain ⟨r1, r2⟩ := rel_add r ob obj i k2
      rw [g1]
      exact UponOk.value k1 (r1.worldEq (w' := w1) g2.1) (r2.trans (Ev.worldEq (w := w.alloc obj) (w' := w1) g2.1 g2.2))
    · cases hv
  | w q =>
    simp only [evOp] at hv
    exact (w_sound hq hv he r).upon
  | ins m k x =>
    simp only [evOp] at hv
    obtain ⟨dst, op, type, pos, after, guard⟩ := o
    cases op <;> simp only [cOpO] at hq
    case insert t m' k' x' =>
      split at hq
      · rename_i e ht
        obtain ⟨m1, hm, hq⟩ := bind_some hq
        obtain ⟨k1, hk, hq⟩ := bind_some hq
        obtain ⟨x1, hx, hq⟩ := bind_some hq
        cases hq
        obtain ⟨w', g1, g2, g3, g4⟩ := mupd_sound r ht hv (opd_sound hm he) (opd_sound hk he) (opd_sound hx he)
        refine Did.upon ⟨.skip, w', undef, ι, F, ?_, .inr ⟨rfl, rfl⟩, by rw [g2]; exact VR.undef ι, g3, g4⟩
        simp [execOp, g1]
      · cases hq
    case convert s d y =>
      obtain ⟨x', hx', hq⟩ := bind_some hq
      have hc : cConv P s d x' = .ins m k x := Option.some.inj hq
      simp only [cConv] at hc
      repeat' (split at hc)
      all_goals cases hc
    case call c =>
      obtain ⟨callee, args, ats⟩ := c
      cases callee with
      | invoke r m => cases hq
      | value f =>
        cases f
        case func g =>
          replace hq : (do pure (IOp.call (Pos.of g) (← cOpds args.toList))) = some (IOp.ins m k x) := hq
          obtain ⟨_, _, hq⟩ := bind_some hq
          cases hq
        all_goals
          (replace hq : (do pure (IOp.callv (← cOpd _) (← cOpds args.toList))) = some (IOp.ins m k x) := hq)
          (obtain ⟨_, _, hq⟩ := bind_some hq)
          (obtain ⟨_, _, hq⟩ := bind_some hq)
          cases hq
      | builtin b =>
        replace hq : (do pure (cBuiltin P b ats.toList (← cOpds args.toList))) = some (IOp.ins m k x) := hq
        obtain ⟨as, has, hq⟩ := bind_some hq
        replace hq : cBuiltin P b ats.toList as = .ins m k x := Option.some.inj hq
        simp only [cBuiltin] at hq
        repeat' (split at hq)
        all_goals cases hq
    all_goals
      ((repeat' (first | (split at hq) | (obtain ⟨_, _, hq⟩ := bind_some hq))) <;> first | (cases hq; done) | contradiction | skip)
  | call f args =>
    simp only [evOp] at hv
    obtain ⟨dst, op, type, pos, after, guard⟩ := o
    cases op <;> simp only [cOpO] at hq
    case convert s d x =>
      obtain ⟨x', hx', hq⟩ := bind_some hq
      have hc : cConv P s d x' = .call f args := Option.some.inj hq
      simp only [cConv] at hc
      repeat' (split at hc)
      all_goals cases hc
    case call c =>
      obtain ⟨callee, args', ats⟩ := c
      cases callee with
      | invoke r m => cases hq
      | value x =>
        cases x
        case func g =>
          replace hq : (do pure (IOp.call (Pos.of g) (← cOpds args'.toList))) = some (IOp.call f args) := hq
          obtain ⟨as, has, hq⟩ := bind_some hq
          cases hq
          have vs := opds_sound he has
          have := hcall (.fn (Pos.of g)) _ h v h' hv ro ι F w _ r vs g rfl
          have e : args'.map a.eval = ⟨args'.toList.map a.eval⟩ := by apply Array.ext'; simp
          simpa [execOp, resolve, Act.eval, Deferred.ofValue, invoke, e] using this
        all_goals
          (replace hq : (do pure (IOp.callv (← cOpd _) (← cOpds args'.toList))) = some (IOp.call f args) := hq)
          (obtain ⟨_, _, hq⟩ := bind_some hq)
          (obtain ⟨_, _, hq⟩ := bind_some hq)
          cases hq
      | builtin b =>
        replace hq : (do pure (cBuiltin P b ats.toList (← cOpds args'.toList))) = some (IOp.call f args) := hq
        obtain ⟨as, has, hq⟩ := bind_some hq
        replace hq : cBuiltin P b ats.toList as = .call f args := Option.some.inj hq
        simp only [cBuiltin] at hq
        repeat' (split at hq)
        all_goals cases hq
    all_goals
      ((repeat' (first | (split at hq) | (obtain ⟨_, _, hq⟩ := bind_some hq))) <;> first | (cases hq; done) | contradiction | skip)
  | callv fo args =>
    simp only [evOp] at hv
    obtain ⟨dst, op, type, pos, after, guard⟩ := o
    cases op <;> simp only [cOpO] at hq
    case convert s d x =>
      obtain ⟨x', hx', hq⟩ := bind_some hq
      have hc : cConv P s d x' = .callv fo args := Option.some.inj hq
      simp only [cConv] at hc
      repeat' (split at hc)
      all_goals cases hc
    case call c =>
      obtain ⟨callee, args', ats⟩ := c
      cases callee with
      | invoke r m => cases hq
      | value x =>
        have key : ∀ {y : Opd} {as : List Opd}, cOpd x = some y → cOpds args'.toList = some as → evCallv call h (y.ev env) (as.map (Opd.ev env)) = some (v, h') →
            UponOk P R ro ι F h w v h' ((execOp a.eval ⟨dst, .call ⟨.value x, args', ats⟩, type, pos, after, guard⟩).run P w) := by
          intro y as hy has hv
          have vs := opds_sound he has
          have vx := opd_sound hy he
          have e : args'.map a.eval = ⟨args'.toList.map a.eval⟩ := by apply Array.ext'; simp
          generalize y.ev env = ay at hv vx
          cases ay <;> first | (simp only [evCallv] at hv; cases hv; done) | skip
          · rename_i f fs cs
            simp only [evCallv] at hv
            simp only [VR] at vx
            obtain ⟨g, x1, x2, hb, hgf, q1, q2⟩ := vx
            have := hcall (.fn f) _ h v h' hv ro ι F w _ r ((q1.append vs).append q2) g hgf
            have e2 : (⟨x1⟩ : Array Value) ++ ⟨args'.toList.map a.eval⟩ ++ ⟨x2⟩ = ⟨x1 ++ args'.toList.map a.eval ++ x2⟩ := by apply Array.ext'; simp
            rw [← e2] at this
            simpa [execOp, resolve, hb, Deferred.ofValue, invoke, e] using this
          · rename_i l
            simp only [evCallv] at hv
            simp only [VR] at vx
            obtain ⟨i, hi, hb⟩ := vx
            have := hcall (.rnd l) _ h v h' hv ro ι F w _ r vs i hi
            simpa [execOp, resolve, hb, Deferred.ofValue, invoke, e] using this
        cases x
        case func g =>
          replace hq : (do pure (IOp.call (Pos.of g) (← cOpds args'.toList))) = some (IOp.callv fo args) := hq
          obtain ⟨_, _, hq⟩ := bind_some hq
          cases hq
        all_goals
          (replace hq : (do pure (IOp.callv (← cOpd _) (← cOpds args'.toList))) = some (IOp.callv fo args) := hq)
          (obtain ⟨y, hy, hq⟩ := bind_some hq)
          (obtain ⟨as, has, hq⟩ := bind_some hq)
          cases hq
          exact key hy has hv
      | builtin b =>
        replace hq : (do pure (cBuiltin P b ats.toList (← cOpds args'.toList))) = some (IOp.callv fo args) := hq
        obtain ⟨as, has, hq⟩ := bind_some hq
        replace hq : cBuiltin P b ats.toList as = .callv fo args := Option.some.inj hq
        simp only [cBuiltin] at hq
        repeat' (split at hq)
        all_goals cases hq
    all_goals
      ((repeat' (first | (split at hq) | (obtain ⟨_, _, hq⟩ := bind_some hq))) <;> first | (cases hq; done) | contradiction | skip)

end Go.Ev
