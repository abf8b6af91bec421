import Derived.Test.YtddcnopjjihmcaaGreatEv26
set_option linter.unusedSectionVars false
set_option linter.unusedVariables false
set_option linter.unusedSimpArgs false
namespace Go.Ev.F
open Go.Ev
variable [T : SymT]

/-! ### regions that draw their order -/
abbrev RD := Option (AV × DSt X0)

noncomputable def effF (o : IOp) : Bool := @IOp.rec (fun _ => Bool) (fun _ => false) (fun _ => false) (fun _ => false) (fun _ => true) (fun _ _ _ => false) (fun _ _ => true) (fun _ _ => true) o
theorem effF_eq (o : IOp) : effF o = o.eff := by cases o <;> rfl

noncomputable def dstepF (dst : Option Pos) (s : DSt X0) (r : R2) : RD :=
  @Option.rec (AV × Heap X0) (fun _ => RD) none (fun p => @Prod.rec AV (Heap X0) (fun _ => RD) (fun v h => some (v, ⟨putDF dst v s.env, h, s.nm⟩)) p) r

noncomputable def allocDF (dst : Option Pos) (s : DSt X0) (r : Option (AV × AObj X0)) : RD :=
  @Option.rec (AV × AObj X0) (fun _ => RD) none (fun p => @Prod.rec AV (AObj X0) (fun _ => RD) (fun v o =>
    @Option.rec (AObj X0) (fun _ => RD) (some (v, ⟨putDF dst v s.env, updF s.heap s.nm o, s.nm.succ.succ⟩)) (fun _ => none) (getH s.heap.m s.nm)) p) r

noncomputable def dopF (o : IOp) (call : CallF X0) (dst : Option Pos) (s : DSt X0) : RD :=
  @IOp.rec (fun _ => CallF X0 → Option Pos → DSt X0 → RD)
    (fun o _ dst s => dstepF dst s (withH (pF o s.env) s.heap))
    (fun o _ dst s => dstepF dst s (withH (rF o s.env s.heap) s.heap))
    (fun o _ dst s => allocDF dst s (aF o s.env s.nm))
    (fun o _ dst s => dstepF dst s (wF o s.env s.heap))
    (fun _ _ _ _ _ _ => none)
    (fun f args call dst s => dstepF dst s (call (.fn f) (opds args s.env) s.heap))
    (fun f args call dst s => dstepF dst s (evCallv call s.heap (opd f s.env) (opds args s.env))) o call dst s

noncomputable def evDF (call : CallF X0) (d : DOper) (s : DSt X0) : RD :=
  @Bool.rec (fun _ => RD) (some (.tup [], ⟨putDF d.io.dst (.tup []) s.env, s.heap, bif d.io.op.isA then s.nm.succ.succ else s.nm⟩)) (dopF d.io.op call d.io.dst s) (wantF d.io.guard s.env)

theorem dstepF_eq (dst : Option Pos) (s : DSt X0) (r : R2) : dstepF dst s r = match r with
    | some (v, h) => some (v, ⟨putD s.env dst v, h, s.nm⟩)
    | none => none := by
  cases r with
  | none => rfl
  | some p => obtain ⟨v, h⟩ := p; show some (v, (⟨putDF dst v s.env, h, s.nm⟩ : DSt X0)) = _; rw [putDF_eq]

theorem evDF_eq (call : CallF X0) (d : DOper) (s : DSt X0) : evDF call d s = evD call d s := by
  unfold evDF evD
  rw [wantF_eq, putDF_eq]
  cases wanted s.env d.io.guard with
  | false => rfl
  | true =>
    simp only [cond_true]
    cases hop : d.io.op with
    | a q =>
      show allocDF d.io.dst s (aF q s.env s.nm) = _
      rw [aF_eq]
      simp only
      generalize evA (X := X0) s.env s.nm q = r
      cases r with
      | none => rfl
      | some p =>
        obtain ⟨v, o⟩ := p
        show @Option.rec (AObj X0) (fun _ => RD) (some (v, ⟨putDF d.io.dst v s.env, updF s.heap s.nm o, s.nm.succ.succ⟩)) (fun _ => none) (getH s.heap.m s.nm) = _
        rw [getH_eq, putDF_eq, updF_eq]
        simp only
        cases s.heap.m.get s.nm <;> rfl
    | ins m k x => rfl
    | p o =>
      have := opF_eq (.p o) call s.env s.heap
      show dstepF d.io.dst s (withH (pF o s.env) s.heap) = _
      rw [show withH (pF o s.env) s.heap = _ from this, dstepF_eq]
      simp only
      generalize evOp call s.env s.heap _ = r
      cases r <;> rfl
    | r o =>
      have := opF_eq (.r o) call s.env s.heap
      show dstepF d.io.dst s (withH (rF o s.env s.heap) s.heap) = _
      rw [show withH (rF o s.env s.heap) s.heap = _ from this, dstepF_eq]
      simp only
      generalize evOp call s.env s.heap _ = r
      cases r <;> rfl
    | w o =>
      have := opF_eq (.w o) call s.env s.heap
      show dstepF d.io.dst s (wF o s.env s.heap) = _
      rw [show wF o s.env s.heap = _ from this, dstepF_eq]
      simp only
      generalize evOp call s.env s.heap _ = r
      cases r <;> rfl
    | call f args =>
      have := opF_eq (.call f args) call s.env s.heap
      show dstepF d.io.dst s (call (.fn f) (opds args s.env) s.heap) = _
      rw [show call (.fn f) (opds args s.env) s.heap = _ from this, dstepF_eq]
      simp only
      generalize evOp call s.env s.heap _ = r
      cases r <;> rfl
    | callv f args =>
      have := opF_eq (.callv f args) call s.env s.heap
      show dstepF d.io.dst s (evCallv call s.heap (opd f s.env) (opds args s.env)) = _
      rw [show evCallv call s.heap (opd f s.env) (opds args s.env) = _ from this, dstepF_eq]
      simp only
      generalize evOp call s.env s.heap _ = r
      cases r <;> rfl

abbrev RR := Option (DSt X0 × List (Heap X0) × List Rd)

noncomputable def mergeF (o : IOp) (d : DOper) (s : DSt X0) (c : Nat) (v : AV) (f : DSt X0) (hs : List (Heap X0)) (rs : List Rd) : RR :=
  @IOp.rec (fun _ => DOper → DSt X0 → Nat → AV → DSt X0 → List (Heap X0) → List Rd → RR)
    (fun _ _ _ _ _ f hs rs => some (f, hs, rs))
    (fun o d s c v f hs rs => @Bool.rec (fun _ => RR) (some (f, hs, rs)) (@Bool.rec (fun _ => RR) (some (f, hs, ⟨s.env, o, v, d.lo, d.hi⟩ :: rs)) (@Bool.rec (fun _ => RR) none (some (f, hs, rs)) (Nat.beq d.lo c)) (Nat.beq d.lo d.hi)) (wantF d.io.guard s.env))
    (fun _ _ _ _ _ f hs rs => some (f, hs, rs))
    (fun _ _ s _ _ f hs rs => some (f, s.heap :: hs, rs))
    (fun _ _ _ _ _ _ _ f hs rs => some (f, hs, rs))
    (fun _ _ _ s _ _ f hs rs => some (f, s.heap :: hs, rs))
    (fun _ _ _ s _ _ f hs rs => some (f, s.heap :: hs, rs)) o d s c v f hs rs

noncomputable def regF (l : List DOper) (call : CallF X0) (s : DSt X0) (c : Nat) : RR :=
  @List.rec DOper (fun _ => CallF X0 → DSt X0 → Nat → RR) (fun _ s _ => some (s, [s.heap], []))
    (fun d _ ih call s c => @Option.rec (AV × DSt X0) (fun _ => RR) none (fun p => @Prod.rec AV (DSt X0) (fun _ => RR) (fun v s' =>
      @Option.rec (DSt X0 × List (Heap X0) × List Rd) (fun _ => RR) none (fun q => @Prod.rec (DSt X0) (List (Heap X0) × List Rd) (fun _ => RR) (fun f q => @Prod.rec (List (Heap X0)) (List Rd) (fun _ => RR) (fun hs rs => mergeF d.io.op d s c v f hs rs) q) q)
        (ih call s' (@Bool.rec (fun _ => Nat) c (c + 1) (effF d.io.op)))) p) (evDF call d s)) l call s c

theorem regF_eq : ∀ (l : List DOper) (call : CallF X0) (s : DSt X0) (c : Nat), regF l call s c = evReg call l s c
  | [], _, _, _ => rfl
  | d :: l, call, s, c => by
    show @Option.rec (AV × DSt X0) (fun _ => RR) none (fun p => @Prod.rec AV (DSt X0) (fun _ => RR) (fun v s' =>
      @Option.rec (DSt X0 × List (Heap X0) × List Rd) (fun _ => RR) none (fun q => @Prod.rec (DSt X0) (List (Heap X0) × List Rd) (fun _ => RR) (fun f q => @Prod.rec (List (Heap X0)) (List Rd) (fun _ => RR) (fun hs rs => mergeF d.io.op d s c v f hs rs) q) q)
        (regF l call s' (@Bool.rec (fun _ => Nat) c (c + 1) (effF d.io.op)))) p) (evDF call d s) = _
    rw [evDF_eq]
    simp only [evReg]
    cases evD call d s with
    | none => rfl
    | some p =>
      obtain ⟨v, s'⟩ := p
      simp only
      rw [regF_eq l call s', effF_eq, brec]
      cases evReg call l s' (bif d.io.op.eff then c + 1 else c) with
      | none => rfl
      | some q =>
        obtain ⟨f, hs, rs⟩ := q
        show mergeF d.io.op d s c v f hs rs = _
        cases hop : d.io.op with
        | r o =>
          show @Bool.rec (fun _ => RR) (some (f, hs, rs)) (@Bool.rec (fun _ => RR) (some (f, hs, ⟨s.env, o, v, d.lo, d.hi⟩ :: rs)) (@Bool.rec (fun _ => RR) none (some (f, hs, rs)) (Nat.beq d.lo c)) (Nat.beq d.lo d.hi)) (wantF d.io.guard s.env) = _
          rw [wantF_eq, brec, brec, brec]
        | p o => rfl
        | a o => rfl
        | w o => rfl
        | ins m k x => rfl
        | call g args => rfl
        | callv g args => rfl

noncomputable def rdF (r : Rd) (hs : List (Heap X0)) : Nat → Bool :=
  @List.rec (Heap X0) (fun _ => Nat → Bool) (fun _ => true) (fun h _ ih k => @Bool.rec (fun _ => Bool) false (ih (Nat.succ k))
    (@Bool.rec (fun _ => Bool) true (@Option.rec AV (fun _ => Bool) false (fun v => avEq r.v v) (rF r.op r.env h)) (Nat.ble r.lo k && Nat.ble k r.hi))) hs
theorem rdF_eq (r : Rd) : ∀ (hs : List (Heap X0)) (k : Nat), rdF r hs k = rdOk r k hs
  | [], _ => rfl
  | h :: hs, k => by
    show @Bool.rec (fun _ => Bool) false (rdF r hs (k + 1)) (@Bool.rec (fun _ => Bool) true (@Option.rec AV (fun _ => Bool) false (fun v => avEq r.v v) (rF r.op r.env h)) (Nat.ble r.lo k && Nat.ble k r.hi)) = _
    rw [rdF_eq r hs (k + 1), rF_eq, brec, brec]
    simp only [rdOk]
    generalize rdOk r (k + 1) hs = b1
    generalize (Nat.ble r.lo k && Nat.ble k r.hi) = b2
    cases evR r.env h r.op <;> cases b2 <;> cases b1 <;> simp

noncomputable def rdsF (hs : List (Heap X0)) (rs : List Rd) : Bool :=
  @List.rec Rd (fun _ => Bool) true (fun r _ ih => @Bool.rec (fun _ => Bool) false ih (rdF r hs 0)) rs
theorem rdsF_eq (hs : List (Heap X0)) : ∀ rs : List Rd, rdsF hs rs = rdsOk hs rs
  | [] => rfl
  | r :: rs => by
    show @Bool.rec (fun _ => Bool) false (rdsF hs rs) (rdF r hs 0) = _
    rw [rdsF_eq hs rs, rdF_eq, brec]
    simp only [rdsOk]
    cases rdOk r 0 hs <;> rfl

noncomputable def bumpF (l : List DOper) (p : Pos) : Pos := @List.rec DOper (fun _ => Pos → Pos) (fun p => p) (fun d _ ih p => ih (@Bool.rec (fun _ => Pos) p p.succ.succ d.io.op.isA)) l p
theorem bumpF_eq : ∀ (l : List DOper) (p : Pos), bumpF l p = bump l p
  | [], _ => rfl
  | d :: l, p => by
    show bumpF l (@Bool.rec (fun _ => Pos) p p.succ.succ d.io.op.isA) = _
    rw [bumpF_eq l, brec]
    rfl

noncomputable def regionF (l : List DOper) (call : CallF X0) (env : PT AV) (h : Heap X0) : R1 :=
  @Option.rec (DSt X0 × List (Heap X0) × List Rd) (fun _ => R1) none (fun q => @Prod.rec (DSt X0) (List (Heap X0) × List Rd) (fun _ => R1) (fun f q => @Prod.rec (List (Heap X0)) (List Rd) (fun _ => R1) (fun hs rs =>
    @Bool.rec (fun _ => R1) none (some (f.env, f.heap)) (rdsF hs rs)) q) q) (regF l call ⟨env, ⟨bumpF l h.next, h.m⟩, h.next⟩ 0)
theorem regionF_eq (l : List DOper) (call : CallF X0) (env : PT AV) (h : Heap X0) : regionF l call env h = evRegion call l env h := by
  unfold regionF evRegion
  rw [regF_eq, bumpF_eq]
  cases evReg call l ⟨env, ⟨bump l h.next, h.m⟩, h.next⟩ 0 with
  | none => rfl
  | some q =>
    obtain ⟨f, hs, rs⟩ := q
    show @Bool.rec (fun _ => R1) none (some (f.env, f.heap)) (rdsF hs rs) = _
    rw [rdsF_eq, brec]

/-! ### code -/
abbrev RC := Option (Ex × PT AV × Heap X0)

noncomputable def nrmF (r : R1) : RC := @Option.rec (PT AV × Heap X0) (fun _ => RC) none (fun p => @Prod.rec (PT AV) (Heap X0) (fun _ => RC) (fun env h => some (.nrm, env, h)) p) r
theorem nrmF_eq (r : R1) : nrmF r = match r with
    | some (env, h) => some (.nrm, env, h)
    | none => none := by
  cases r <;> rfl

noncomputable def thenF (r : RC) : (PT AV → Heap X0 → RC) → RC :=
  @Option.rec (Ex × PT AV × Heap X0) (fun _ => (PT AV → Heap X0 → RC) → RC) (fun _ => none)
    (fun p k => @Prod.rec Ex (PT AV × Heap X0) (fun _ => RC) (fun e q => @Prod.rec (PT AV) (Heap X0) (fun _ => RC) (fun env h => @Ex.rec (fun _ => RC) (k env h) (fun id => some (.ext id, env, h)) (some (.ret, env, h)) e) q) p) r
theorem thenF_eq (r : RC) (k : PT AV → Heap X0 → RC) : thenF r k = match r with
    | some (.nrm, env, h) => k env h
    | r => r := by
  cases r with
  | none => rfl
  | some p => obtain ⟨e, env, h⟩ := p; cases e <;> rfl

noncomputable def condF (x : AV) : RC → RC → RC :=
  @AV.rec (fun _ => RC → RC → RC) (fun _ => Unit)
    (fun b p q => @Bool.rec (fun _ => RC) q p b) (fun _ _ _ _ => none) (fun _ _ _ => none) (fun _ _ => none) (fun _ _ _ _ => none) (fun _ _ => none) (fun _ _ _ _ _ _ => none) (fun _ _ => none) (fun _ _ => none) (fun _ _ _ => none) (fun _ _ => none) (fun _ _ _ _ _ _ _ => none) (fun _ _ _ => none) (fun _ _ => none) (fun _ _ _ _ => none) (fun _ _ _ _ => none) (fun _ _ _ _ => none)
    (fun _ _ _ _ _ => none) (fun _ _ _ => none) (fun _ _ _ => none) () (fun _ _ _ _ => ()) x

noncomputable def blockF (id : Nat) (r : RC) : RC :=
  @Option.rec (Ex × PT AV × Heap X0) (fun _ => RC) none (fun p => @Prod.rec Ex (PT AV × Heap X0) (fun _ => RC) (fun e q => @Prod.rec (PT AV) (Heap X0) (fun _ => RC) (fun env h =>
    @Ex.rec (fun _ => RC) (some (.nrm, env, h)) (fun i => some (@Bool.rec (fun _ => Ex) (.ext i) .nrm (Nat.beq i id), env, h)) (some (.ret, env, h)) e) q) p) r

noncomputable def iterF (body : PT AV → Heap X0 → RC) (n : Nat) : PT AV → Heap X0 → RC :=
  @Nat.rec (fun _ => PT AV → Heap X0 → RC) (fun _ _ => none) (fun _ ih env h => thenF (body env h) ih) n

theorem iterF_eq (body : PT AV → Heap X0 → RC) : ∀ (n : Nat) (env : PT AV) (h : Heap X0), iterF body n env h = iter body n env h
  | 0, _, _ => rfl
  | n + 1, env, h => by
    show thenF (body env h) (iterF body n) = _
    rw [thenF_eq, show iterF body n = iter body n from funext fun e => funext fun h => iterF_eq body n e h]
    simp only [iter]
    generalize body env h = r
    rcases r with _ | ⟨e, env, h⟩
    · rfl
    · cases e <;> rfl

noncomputable def cF (c : ICode) : CallF X0 → Option Pos → PT AV → Heap X0 → RC :=
  @ICode.rec (fun _ => CallF X0 → Option Pos → PT AV → Heap X0 → RC)
    (fun _ _ _ _ => none)
    (fun _ _ env h => some (.nrm, env, h))
    (fun l call _ env h => nrmF (opsF l call env h))
    (fun l call _ env h => nrmF (regionF l call env h))
    (fun _ _ iha ihb call ro env h => thenF (iha call ro env h) (ihb call ro))
    (fun c _ _ iha ihb call ro env h => condF (opd c env) (iha call ro env h) (ihb call ro env h))
    (fun id _ ih call ro env h => blockF id (ih call ro env h))
    (fun _ ih call ro env h => iterF (ih call ro) rounds env h)
    (fun g ps asg body _ _ call ro env h => evC call ro (.rangef g ps asg body) env h)
    (fun id _ _ env h => some (.ext id, env, h))
    (fun _ _ env h => some (.ret, env, h)) c

theorem cF_eq : ∀ (c : ICode) (call : CallF X0) (ro : Option Pos) (env : PT AV) (h : Heap X0), cF c call ro env h = evC call ro c env h
  | .bad, _, _, _, _ => rfl
  | .skip, _, _, _, _ => rfl
  | .ops l, call, ro, env, h => by
    show nrmF (opsF l call env h) = _
    rw [opsF_eq, nrmF_eq]
    simp only [evC]
    generalize evOps call l env h = r
    cases r <;> rfl
  | .reg l, call, ro, env, h => by
    show nrmF (regionF l call env h) = _
    rw [regionF_eq, nrmF_eq]
    simp only [evC]
    generalize evRegion call l env h = r
    cases r <;> rfl
  | .seq a b, call, ro, env, h => by
    show thenF (cF a call ro env h) (cF b call ro) = _
    rw [cF_eq a, thenF_eq, show cF b call ro = evC call ro b from funext fun e => funext fun h => cF_eq b call ro e h]
    simp only [evC]
    generalize evC call ro a env h = r
    rcases r with _ | ⟨e, env, h⟩
    · rfl
    · cases e <;> rfl
  | .cond c a b, call, ro, env, h => by
    show condF (opd c env) (cF a call ro env h) (cF b call ro env h) = _
    rw [opd_eq, cF_eq a, cF_eq b]
    simp only [evC]
    cases c.ev env <;> first | rfl | skip
    rename_i t
    cases t <;> rfl
  | .block id c, call, ro, env, h => by
    show blockF id (cF c call ro env h) = _
    rw [cF_eq c]
    simp only [evC]
    cases evC call ro c env h with
    | none => rfl
    | some p =>
      obtain ⟨e, env', h'⟩ := p
      cases e with
      | nrm => rfl
      | ret => rfl
      | ext i =>
        show some (@Bool.rec (fun _ => Ex) (.ext i) .nrm (Nat.beq i id), env', h') = _
        rw [brec]
  | .loop c, call, ro, env, h => by
    show iterF (cF c call ro) rounds env h = _
    rw [iterF_eq, show cF c call ro = evC call ro c from funext fun e => funext fun h => cF_eq c call ro e h]
    rfl
  | .rangef _ _ _ _, _, _, _, _ => rfl
  | .exit _, _, _, _, _ => rfl
  | .ret, _, _, _, _ => rfl

/-! ### calls -/
noncomputable def args0F (vs : List AV) : Pos → PT AV → PT AV :=
  @List.rec AV (fun _ => Pos → PT AV → PT AV) (fun _ env => env) (fun v _ ih p env => ih p.succ (putE p (some v) env)) vs
theorem args0F_eq : ∀ (vs : List AV) (p : Pos) (env : PT AV), args0F vs p env = args0 p vs env
  | [], _, _ => rfl
  | v :: vs, p, env => by
    show args0F vs p.succ (putE p (some v) env) = _
    rw [args0F_eq vs, putE_eq]; rfl

noncomputable def finF (fi : IFunc) (r : RC) : R2 :=
  @Option.rec (Ex × PT AV × Heap X0) (fun _ => R2) none (fun p => @Prod.rec Ex (PT AV × Heap X0) (fun _ => R2) (fun e q => @Prod.rec (PT AV) (Heap X0) (fun _ => R2) (fun env h =>
    @Bool.rec (fun _ => R2) (@Option.rec (List AV) (fun _ => R2) none (fun vs => some (tupOf vs, h)) (ress env h fi.res)) none (@Ex.rec (fun _ => Bool) false (fun _ => true) false e)) q) p) r

noncomputable def enterFF (call : CallF X0) (fi : IFunc) (args : List AV) (h : Heap X0) : R2 := finF fi (cF fi.body call none (args0F args .H .lf) h)
theorem enterFF_eq (call : CallF X0) (fi : IFunc) (args : List AV) (h : Heap X0) : enterFF call fi args h = enterF call fi args h := by
  unfold enterFF enterF
  rw [cF_eq, args0F_eq]
  cases evC call none fi.body (args0 .H args .lf) h with
  | none => rfl
  | some p =>
    obtain ⟨e, env, h'⟩ := p
    cases e with
    | ext _ => rfl
    | nrm =>
      show @Option.rec (List AV) (fun _ => R2) none (fun vs => some (tupOf vs, h')) (ress env h' fi.res) = _
      simp only
      cases ress env h' fi.res <;> rfl
    | ret =>
      show @Option.rec (List AV) (fun _ => R2) none (fun vs => some (tupOf vs, h')) (ress env h' fi.res) = _
      simp only
      cases ress env h' fi.res <;> rfl

/-- a round -/
noncomputable def bodyF (call : CallF X0) (l : Pos) (body : ICode) (env' : PT AV) (h : Heap X0) (j : Ex) (env : PT AV) (ps : List Pos) (asg body' : ICode) : R2 :=
  match cF body call (some l) env' (updF h l (.loop .busy j env ps asg body')) with
  | some (e, _, h) => endR l e h
  | none => none

noncomputable def roundFF (call : CallF X0) (l : Pos) (args : List AV) (h : Heap X0) : R2 :=
  match getH h.m l with
  | some (.loop _ _ env ps asg body) => match zipSet ps args env with
    | some env' => match cF asg call (some l) env' h with
      | some (.nrm, env', h) => match getH h.m l with
        | some (.loop .ready j env ps asg body') => bodyF call l body env' h j env ps asg body'
        | _ => none
      | _ => none
    | none => none
  | _ => none

theorem roundFF_eq (call : CallF X0) (l : Pos) (args : List AV) (h : Heap X0) : roundFF call l args h = roundF call l args h := by
  unfold roundFF roundF
  rw [getH_eq]
  cases h.m.get l with
  | none => rfl
  | some ob =>
    cases ob <;> first | rfl | skip
    rename_i st j env ps asg body
    simp only
    cases zipSet ps args env with
    | none => rfl
    | some env' =>
      simp only
      rw [cF_eq]
      cases evC call (some l) asg env' h with
      | none => rfl
      | some p =>
        obtain ⟨e, env2, h2⟩ := p
        cases e <;> first | rfl | skip
        simp only
        rw [getH_eq]
        cases h2.m.get l with
        | none => rfl
        | some ob2 =>
          cases ob2 <;> first | rfl | skip
          rename_i st2 j2 env3 ps2 asg2 body2
          cases st2 <;> first | rfl | skip
          simp only [bodyF]
          rw [cF_eq, updF_eq]
          generalize evC call (some l) body env2 _ = r
          rcases r with _ | ⟨e, env, h⟩ <;> rfl

abbrev Prims := Pos → Option (List AV → Heap X0 → R2)

noncomputable def getI (t : PT IFunc) (p : Pos) : Option IFunc :=
  @Pos.rec (fun _ => PT IFunc → Option IFunc)
    (fun t => @PT.rec IFunc (fun _ => Option IFunc) none (fun _ o _ _ _ => o) t)
    (fun _ ih t => @PT.rec IFunc (fun _ => Option IFunc) none (fun l _ _ _ _ => ih l) t)
    (fun _ ih t => @PT.rec IFunc (fun _ => Option IFunc) none (fun _ _ r _ _ => ih r) t) p t
theorem getI_eq : ∀ (p : Pos) (t : PT IFunc), getI t p = t.get p
  | .H, .lf => rfl
  | .H, .nd _ _ _ => rfl
  | .O _, .lf => rfl
  | .O p, .nd l _ _ => getI_eq p l
  | .I _, .lf => rfl
  | .I p, .nd _ _ r => getI_eq p r

noncomputable def enterT (call : CallF X0) (o : Option IFunc) (args : List AV) (h : Heap X0) : R2 :=
  @Option.rec IFunc (fun _ => R2) none (fun fi => @Bool.rec (fun _ => R2) none (enterFF call fi args h) (Nat.beq (lenF args) fi.nargs)) o
theorem enterT_eq (call : CallF X0) (o : Option IFunc) (args : List AV) (h : Heap X0) : enterT call o args h = match o with
    | some fi => bif Nat.beq args.length fi.nargs then enterF call fi args h else none
    | none => none := by
  cases o with
  | none => rfl
  | some fi =>
    show @Bool.rec (fun _ => R2) none (enterFF call fi args h) (Nat.beq (lenF args) fi.nargs) = _
    rw [enterFF_eq, lenF_eq, brec]

noncomputable def stepF (tab : PT IFunc) (prim : Prims) (call : CallF X0) (c : Callee) (args : List AV) (h : Heap X0) : R2 :=
  @Callee.rec (fun _ => List AV → Heap X0 → R2)
    (fun f args h => @Option.rec (List AV → Heap X0 → R2) (fun _ => R2) (enterT call (getI tab f) args h) (fun p => p args h) (prim f))
    (fun f args h => enterT call (getI tab f) args h)
    (fun l args h => roundFF call l args h) c args h
theorem stepF_eq (tab : PT IFunc) (prim : Prims) (call : CallF X0) (c : Callee) (args : List AV) (h : Heap X0) : stepF tab prim call c args h = step tab.get prim call c args h := by
  cases c with
  | fn f =>
    show @Option.rec (List AV → Heap X0 → R2) (fun _ => R2) (enterT call (getI tab f) args h) (fun p => p args h) (prim f) = _
    rw [enterT_eq, getI_eq]
    simp only [step]
    cases prim f <;> rfl
  | it f =>
    show enterT call (getI tab f) args h = _
    rw [enterT_eq, getI_eq]; rfl
  | rnd l => exact roundFF_eq ..

/-- **the calls, for the kernel** -/
noncomputable def callF (tab : PT IFunc) (prim : Prims) (n : Nat) : CallF X0 :=
  @Nat.rec (fun _ => CallF X0) (fun _ _ _ => none) (fun _ ih => stepF tab prim ih) n
theorem callF_eq (tab : PT IFunc) (prim : Prims) : ∀ n : Nat, callF tab prim n = callN tab.get prim n
  | 0 => rfl
  | n + 1 => by
    show stepF tab prim (callF tab prim n) = _
    rw [callF_eq tab prim n]
    funext c args h
    exact stepF_eq ..

end Go.Ev.F
