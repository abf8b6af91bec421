import Derived.Test.YtddcnopjjihmcaaGreatEv6
import Derived.Laws.Tables
set_option linter.unusedSectionVars false
set_option linter.unusedVariables false
set_option linter.unusedSimpArgs false
namespace Go.Ev
variable {X : Type} [T : SymT] [V : SymV] {P : Program} {R : XRel X}

theorem zeroOf_run {t : TypeId} {z : AV} (h : zeroOf P t = some z) : ∃ i zv, P.info? t = some i ∧ i.zero = some zv ∧ cVal zv = some z := by
  simp only [zeroOf] at h
  cases hi : P.info? t with
  | none => simp [hi] at h
  | some i =>
    simp only [hi, Option.bind_some] at h
    cases hz : i.zero with
    | none => simp [hz] at h
    | some zv =>
      simp only [hz, Option.bind_some] at h
      exact ⟨i, zv, rfl, hz, h⟩

theorem map_pairs (ρ : Operand → Value) (ps : Array (Nat × Operand)) : (ps.map fun (i, x) => (i, ρ x)).toList = ps.toList.map fun (i, x) => (i, ρ x) := by simp

theorem nthB_spec : ∀ {i : Nat} {s : List Nat} {b : Nat}, nthB i s = some b → s[i]? = some b
  | _, [], _, h => by rename_i i _; cases i <;> simp [nthB] at h
  | 0, c :: _, b, h => by simpa [nthB] using h
  | i + 1, _ :: s, b, h => by simp only [nthB] at h; simpa using nthB_spec h

theorem slNil0_b {env : Env} {mx hi : Option Opd} {m : Nat} (h : slNil0 env mx hi = some m) : bndO env mx 0 0 = some m := by
  cases mx with
  | none => exact h
  | some x =>
    cases hi with
    | none => simp [slNil0] at h
    | some y => exact h

theorem bnd_zero {x : AV} {i : Nat} (h : bnd x 0 = some i) : i = 0 := by
  unfold bnd at h
  split at h
  · rw [nble] at h
    rename_i k m
    by_cases hm : m ≤ 0
    · simp only [hm, decide_true, cond_true, Option.some.injEq] at h; omega
    · simp [hm] at h
  · cases h

theorem bndO_zero {env : Env} {x : Option Opd} {i : Nat} (h : bndO env x 0 0 = some i) : i = 0 := by
  cases x with
  | none => simp only [bndO, Option.some.injEq] at h; exact h.symm
  | some y => exact bnd_zero h

theorem bndO_le {env : Env} {x y : Option Opd} {h l : Nat} (hh : bndO env x 0 0 = some h) (hl : bndO env y 0 0 = some l) : bndO env y h 0 = some l := by
  rw [bndO_zero hh]; exact hl

set_option maxHeartbeats 1000000 in
/-- **the pure operations** -/
theorem p_sound {ι : Loc} {env : Env} {a : Act} {o : Oper} {p : POp} {v : AV} (hc : cOpO P o.op = some (.p p)) (hv : evP env p = some v) (he : EnvR ι env a.tmps) (w : World) :
    ∃ u, (execOp a.eval o).run P w = .ok (.value u) w ∧ VR ι v u := by
  obtain ⟨dst, op, type, pos, after, guard⟩ := o
  have val : ∀ {s : Sem Value} {u : Value}, s.run P w = .ok u w → (do pure (.value (← s)) : Sem Next).run P w = .ok (.value u) w := fun h => by simp [h]
  cases op <;> simp only [cOpO] at hc
  case move x =>
    obtain ⟨y, hy, hc⟩ := bind_some hc
    cases hc
    simp only [evP, Option.some.injEq] at hv
    subst hv
    exact ⟨_, rfl, opd_sound hy he⟩
  case assign x =>
    obtain ⟨y, hy, hc⟩ := bind_some hc
    cases hc
    simp only [evP, Option.some.injEq] at hv
    subst hv
    exact ⟨_, rfl, opd_sound hy he⟩
  case pick c x y =>
    obtain ⟨c', hc', hc⟩ := bind_some hc
    obtain ⟨x', hx', hc⟩ := bind_some hc
    obtain ⟨y', hy', hc⟩ := bind_some hc
    cases hc
    obtain ⟨b, hb, hr⟩ := pick_sound hv (opd_sound hc' he) (opd_sound hx' he) (opd_sound hy' he)
    refine ⟨_, ?_, hr⟩
    cases b <;> simp [execOp, hb, asBool]
  case alloc e =>
    obtain ⟨z, hz, hc⟩ := bind_some hc
    cases hc
  case box e x =>
    obtain ⟨z, hz, hc⟩ := bind_some hc
    cases hc
  case build t ps =>
    split at hc
    · rename_i fs hfs
      obtain ⟨z, hz, hc⟩ := bind_some hc
      obtain ⟨places, hp, hc⟩ := bind_some hc
      obtain ⟨l, hl, hc⟩ := bind_some hc
      cases hc
      obtain ⟨it, zv, hit, hzv, hcv⟩ := zeroOf_run hz
      simp only [evP, evBuild] at hv
      split at hv
      · rename_i cs hcs
        simp only [Option.some.injEq] at hv
        subst hv
        obtain ⟨us, h1, h2⟩ := fillP_sound he hl hcs (cVal_sound ι hcv).cells
        refine ⟨.agg ⟨us⟩, val (run_build w t _ ⟨us⟩ ?_), by simp only [VR]; exact ⟨us, rfl, h2⟩⟩
        simp only [Program.built, hit, hfs, hzv, hp]
        rw [map_pairs]
        exact h1
      · cases hv
    · rename_i n e hne
      obtain ⟨z, hz, hc⟩ := bind_some hc
      obtain ⟨sz, hsz, hc⟩ := bind_some hc
      obtain ⟨l, hl, hc⟩ := bind_some hc
      cases hc
      obtain ⟨it, zv, hit, hzv, hcv⟩ := zeroOf_run hz
      simp only [evP, evBuild] at hv
      split at hv
      · rename_i cs hcs
        simp only [Option.some.injEq] at hv
        subst hv
        obtain ⟨us, h1, h2⟩ := fillP_sound he hl hcs (cVal_sound ι hcv).cells
        refine ⟨.agg ⟨us⟩, val (run_build w t _ ⟨us⟩ ?_), by simp only [VR]; exact ⟨us, rfl, h2⟩⟩
        simp only [szOf, Option.map_eq_some_iff] at hsz
        obtain ⟨ie, hie, hsz⟩ := hsz
        simp only [Program.built, hit, hne, hzv, hie, hsz]
        rw [map_pairs]
        exact h1
      · cases hv
    · cases hc
  case buildSlice t n ps =>
    split at hc
    · simp only [Option.bind_eq_bind] at hc
      split at hc
      · cases hc
      · obtain ⟨l, hl, hc⟩ := bind_some hc
        cases hc
    · cases hc
  case insert t m k x =>
    split at hc
    · obtain ⟨_, _, hc⟩ := bind_some hc
      obtain ⟨_, _, hc⟩ := bind_some hc
      obtain ⟨_, _, hc⟩ := bind_some hc
      cases hc
    · cases hc
  case load t x =>
    split at hc
    · obtain ⟨_, _, hc⟩ := bind_some hc
      cases hc
    · obtain ⟨_, _, hc⟩ := bind_some hc
      cases hc
    · cases hc
  case store t x y =>
    obtain ⟨_, _, hc⟩ := bind_some hc
    obtain ⟨_, _, hc⟩ := bind_some hc
    obtain ⟨_, _, hc⟩ := bind_some hc
    cases hc
  case ready => cases hc
  case waits => cases hc
  case nilCheck x =>
    obtain ⟨y, hy, hc⟩ := bind_some hc
    cases hc
    simp only [evP] at hv
    have hx := opd_sound hy he
    generalize y.ev env = av at hv hx
    generalize hax : a.eval x = vx at hx
    cases av <;> try (simp [evNilck] at hv; done)
    case ptr l k =>
      simp only [evNilck, Option.some.injEq] at hv
      subst hv
      have hx' := hx
      simp only [VR] at hx
      obtain ⟨i, hi, rfl⟩ := hx
      exact ⟨_, by simp [execOp, hax], hx'⟩
    case fn f p q =>
      simp only [evNilck, Option.some.injEq] at hv
      subst hv
      have hx' := hx
      simp only [VR] at hx
      obtain ⟨g, p', q', rfl, _⟩ := hx
      exact ⟨_, by simp [execOp, hax], hx'⟩
    case yld l =>
      simp only [evNilck, Option.some.injEq] at hv
      subst hv
      have hx' := hx
      simp only [VR] at hx
      obtain ⟨i, hi, rfl⟩ := hx
      exact ⟨_, by simp [execOp, hax], hx'⟩
  case binOp bop t x y yt =>
    have gen : ∀ {q : POp}, ((∃ x', cOpd x = some x' ∧ ∃ y', cOpd y = some y' ∧ some (IOp.p q) = some (IOp.p p) ∧ q = .bin bop x' y')) → (bop = .eql → P.underlying t ≠ none) → True := fun _ _ => trivial
    clear gen
    by_cases hop : bop = .eql ∨ bop = .neq
    · obtain ⟨neg, rfl⟩ : ∃ neg : Bool, bop = if neg then .neq else .eql := by
        rcases hop with rfl | rfl
        · exact ⟨false, rfl⟩
        · exact ⟨true, rfl⟩
      have hc' : ∃ x' y', cOpd x = some x' ∧ cOpd y = some y' ∧ p = cEq P neg (if neg then .neq else .eql) t x' y' := by
        cases neg
        · simp only [Bool.false_eq_true, if_false] at hc
          obtain ⟨x', hx', hc⟩ := bind_some hc
          obtain ⟨y', hy', hc⟩ := bind_some hc
          cases hc
          exact ⟨x', y', hx', hy', rfl⟩
        · simp only [if_true] at hc
          obtain ⟨x', hx', hc⟩ := bind_some hc
          obtain ⟨y', hy', hc⟩ := bind_some hc
          cases hc
          exact ⟨x', y', hx', hy', rfl⟩
      clear hc
      obtain ⟨x', y', hx', hy', rfl⟩ := hc'
      have vx := opd_sound hx' he
      have vy := opd_sound hy' he
      -- the guard lets all but two nil interfaces and aggregates by
      have fin : ∀ {u : Value}, (binOp (if neg then .neq else .eql) t (a.eval x) (a.eval y)).run P w = .ok u w → (eqGuard (if neg then .neq else .eql) t x y (a.eval x) (a.eval y)).run P w = .ok () w →
          (execOp a.eval ⟨dst, .binOp (if neg then .neq else .eql) t x y yt, type, pos, after, guard⟩).run P w = .ok (.value u) w := fun h1 h2 => by
        simp [execOp, h1, h2]
      simp only [cEq] at hv
      split at hv
      · obtain ⟨u, h1, h2⟩ := bin_sound (t := t) (P := P) hv vx vy w
        refine ⟨u, fin h1 ?_, h2⟩
        simp only [evP] at hv
        generalize x'.ev env = ax at hv vx
        generalize y'.ev env = ay at hv vy
        generalize a.eval x = bx at vx
        cases ax <;> first | (simp only [evBin] at hv; cases hv; done) | skip
        · simp only [VR] at vx; subst vx; rw [eqGuard_at_int]; rfl
        · simp only [VR] at vx; obtain ⟨_, rfl, _⟩ := vx; rw [eqGuard_at_string]; rfl
        · simp only [VR] at vx; subst vx; rw [eqGuard_at_int]; rfl
        · simp only [VR] at vx; subst vx; rw [eqGuard_at_int]; rfl
      · obtain ⟨u, h1, h2⟩ := bin_sound (t := t) (P := P) hv vx vy w
        refine ⟨u, fin h1 ?_, h2⟩
        simp only [evP] at hv
        generalize x'.ev env = ax at hv vx
        generalize y'.ev env = ay at hv vy
        generalize a.eval x = bx at vx
        cases ax <;> first | (simp only [evBin] at hv; cases hv; done) | skip
        · simp only [VR] at vx; subst vx; rw [eqGuard_at_int]; rfl
        · simp only [VR] at vx; obtain ⟨_, rfl, _⟩ := vx; rw [eqGuard_at_string]; rfl
        · simp only [VR] at vx; subst vx; rw [eqGuard_at_int]; rfl
        · simp only [VR] at vx; subst vx; rw [eqGuard_at_int]; rfl
      · rename_i ht
        obtain ⟨u, h1, h2⟩ := eqv_sound (P := P) hv vx vy w ht
        refine ⟨u, fin h1 ?_, h2⟩
        simp only [evP] at hv
        generalize x'.ev env = ax at hv vx
        generalize y'.ev env = ay at hv vy
        generalize a.eval x = bx at vx
        cases ax <;> try (simp [evEqv] at hv; done)
        simp only [VR] at vx; subst vx; rw [eqGuard_at_bool]; rfl
      · rename_i e ht
        split at hv
        · rename_i sz hsz
          obtain ⟨u, h1, h2⟩ := eqp_sound (P := P) hv vx vy w ht hsz
          refine ⟨u, fin h1 ?_, h2⟩
          simp only [evP] at hv
          generalize x'.ev env = ax at hv vx
          generalize y'.ev env = ay at hv vy
          generalize a.eval x = bx at vx
          cases ax <;> try (simp [evEqp] at hv; done)
          · simp only [VR] at vx; subst vx; rw [eqGuard_at_pointer]; rfl
          · simp only [VR] at vx; obtain ⟨_, _, rfl⟩ := vx; rw [eqGuard_at_pointer]; rfl
        · simp [evP] at hv
      · rename_i e ht
        obtain ⟨u, h1, h2⟩ := eqs_sound (P := P) hv vx vy w ht
        refine ⟨u, fin h1 ?_, h2⟩
        simp only [evP] at hv
        generalize x'.ev env = ax at hv vx
        generalize y'.ev env = ay at hv vy
        generalize a.eval x = bx at vx
        cases ax <;> try (simp [evEqs] at hv; done)
        · simp only [VR] at vx; subst vx; rw [eqGuard_at_slice]; rfl
        · simp only [VR] at vx; obtain ⟨_, _, _, rfl, _⟩ := vx; rw [eqGuard_at_slice]; rfl
        · simp only [VR] at vx; obtain ⟨_, _, rfl⟩ := vx; rw [eqGuard_at_slice]; rfl
      · rename_i k e ht
        obtain ⟨u, h1, h2⟩ := eqm_sound (P := P) hv vx vy w ht
        refine ⟨u, fin h1 ?_, h2⟩
        simp only [evP] at hv
        generalize x'.ev env = ax at hv vx
        generalize y'.ev env = ay at hv vy
        generalize a.eval x = bx at vx
        cases ax <;> try (simp [evEqm] at hv; done)
        · simp only [VR] at vx; subst vx; rw [eqGuard_at_map]; rfl
        · simp only [VR] at vx; obtain ⟨_, _, rfl⟩ := vx; rw [eqGuard_at_map]; rfl
      · rename_i ps rs vr ht
        obtain ⟨u, h1, h2⟩ := eqf_sound (P := P) hv vx vy w ht
        refine ⟨u, fin h1 ?_, h2⟩
        simp only [evP] at hv
        generalize x'.ev env = ax at hv vx
        generalize y'.ev env = ay at hv vy
        generalize a.eval x = bx at vx
        cases ax <;> try (simp [evEqf] at hv; done)
        · simp only [VR] at vx; subst vx; rw [eqGuard_at_nilFunc]; rfl
        · simp only [VR] at vx; obtain ⟨_, _, _, rfl, _⟩ := vx; rw [eqGuard_at_func]; rfl
      · rename_i fs ht
        split at hv
        · rename_i ks hks
          cases hg : P.eqGuardType P.depth t with
          | true => simp [hg, evP] at hv
          | false =>
            simp only [hg, cond_false] at hv
            obtain ⟨u, h1, h2⟩ := eqa_sound (P := P) hv vx vy w hks ht
            refine ⟨u, fin h1 ?_, h2⟩
            simp only [evP] at hv
            generalize x'.ev env = ax at hv vx
            generalize y'.ev env = ay at hv vy
            generalize a.eval x = bx at vx
            generalize a.eval y = by' at vy
            cases ax <;> try (simp [evEqa] at hv; done)
            cases ay <;> try (simp [evEqa] at hv; done)
            simp only [VR] at vx vy
            obtain ⟨_, rfl, _⟩ := vx
            obtain ⟨_, rfl, _⟩ := vy
            exact run_eqGuard_agg w _ _ _ _ _ _ hg
        · simp [evP] at hv
      · simp [evP] at hv
    · have hc' : ∃ x' y', cOpd x = some x' ∧ cOpd y = some y' ∧ p = .bin bop x' y' := by
        cases bop <;> first | (exfalso; simp at hop; done) | skip
        all_goals
          (replace hc : (do pure (IOp.p (.bin _ (← cOpd x) (← cOpd y)))) = some (IOp.p p) := hc)
          (obtain ⟨x', hx', hc⟩ := bind_some hc)
          (obtain ⟨y', hy', hc⟩ := bind_some hc)
          cases hc
          exact ⟨x', y', hx', hy', rfl⟩
      clear hc
      obtain ⟨x', y', hx', hy', rfl⟩ := hc'
      obtain ⟨u, h1, h2⟩ := bin_sound (t := t) (P := P) hv (opd_sound hx' he) (opd_sound hy' he) w
      refine ⟨u, ?_, h2⟩
      have hg : eqGuard bop t x y (a.eval x) (a.eval y) = pure () := by
        cases bop <;> first | rfl | (exfalso; simp at hop; done)
      simp [execOp, hg, h1]
  case unOp uop t x =>
    cases uop <;> first | (cases hc; done) | skip
    case not =>
      replace hc : (do pure (IOp.p (.not (← cOpd x)))) = some (IOp.p p) := hc
      obtain ⟨x', hx', hc⟩ := bind_some hc
      cases hc
      have vx := opd_sound hx' he
      simp only [evP] at hv
      generalize x'.ev env = ax at hv vx
      cases ax <;> try (simp [evNot] at hv; done)
      simp only [evNot, Option.some.injEq] at hv
      subst hv
      simp only [VR] at vx
      exact ⟨_, by simp only [execOp, vx]; exact val (by rfl), by simp only [VR]⟩
    case neg =>
      replace hc : (do pure (IOp.p (.neg (← cOpd x)))) = some (IOp.p p) := hc
      obtain ⟨x', hx', hc⟩ := bind_some hc
      cases hc
      have vx := opd_sound hx' he
      simp only [evP] at hv
      generalize x'.ev env = ax at hv vx
      cases ax <;> try (simp [evNeg] at hv; done)
      simp only [evNeg, Option.some.injEq] at hv
      subst hv
      simp only [VR] at vx
      exact ⟨_, by simp only [execOp, vx]; exact val (by rfl), by simp only [VR, wrapF_eq]⟩
  case convert s d x =>
    obtain ⟨x', hx', hc⟩ := bind_some hc
    have hc : cConv P s d x' = .p p := Option.some.inj hc
    have vx := opd_sound hx' he
    simp only [cConv] at hc
    split at hc
    · rename_i k0 k hs hd
      cases hc
      simp only [evP] at hv
      generalize x'.ev env = ax at hv vx
      cases ax <;> first | (simp only [evConv] at hv; cases hv; done) | skip
      · simp only [evConv, Option.some.injEq] at hv
        subst hv
        simp only [VR] at vx
        exact ⟨_, by simp only [execOp, vx]; exact val (by simp [convert, run_underlying hs, run_underlying hd, Conv.intToInt]; rfl), by simp only [VR, wrapF_eq]⟩
      · rename_i k1 j c
        have l := V.lo j
        have u := V.hi j
        simp only [VR] at vx
        simp only [evConv] at hv
        refine ⟨.int k (k.wrap (V.val j + c)), by simp only [execOp, vx]; exact val (by simp [convert, run_underlying hs, run_underlying hd, Conv.intToInt]), ?_⟩
        cases hk : inK k (T.lo j + c) (T.hi j + c) with
        | true =>
          simp only [hk, cond_true, Option.some.injEq] at hv
          subst hv
          simp only [VR]
          congr 1
          exact wrap_inK hk (by omega) (by omega)
        | false =>
          simp only [hk, cond_false] at hv
          cases hu : kbeq k .u64 && ieq c 0 with
          | false => simp [hu] at hv
          | true =>
            simp only [hu, cond_true, Option.some.injEq] at hv
            subst hv
            simp only [Bool.and_eq_true, ieq_eq, beq_iff_eq] at hu
            obtain ⟨hku, rfl⟩ := hu
            obtain rfl := kbeq_eq hku
            simp only [VR]
            congr 1
            have p64 : (2 : Int) ^ 64 = 18446744073709551616 := by decide
            simp [IntKind.wrap, IntKind.signed, IntKind.bits]
    · rename_i hs hd
      cases hc
      simp only [evP, evMvS] at hv
      generalize x'.ev env = ax at hv vx
      cases ax <;> try (simp at hv; done)
      simp only [Option.some.injEq] at hv
      subst hv
      have vx' := vx
      simp only [VR] at vx
      obtain ⟨b, hb, _⟩ := vx
      rw [hb] at vx'
      exact ⟨_, by simp only [execOp, hb]; exact val (by simp [convert, run_underlying hs, run_underlying hd]), vx'⟩
    all_goals first | (cases hc; simp [evP] at hv; done) | (cases hc; done) | (split at hc <;> first | (cases hc; done) | (cases hc; simp [evP] at hv; done))
  case makeFunc fn f c =>
    cases fn <;> first | (cases hc; done) | skip
    rename_i g
    replace hc : (do pure (IOp.p (.mkfn (Pos.of g) (← cOpds f.toList) (← cOpds c.toList)))) = some (IOp.p p) := hc
    obtain ⟨x', hx', hc⟩ := bind_some hc
    obtain ⟨y', hy', hc⟩ := bind_some hc
    cases hc
    simp only [evP, Option.some.injEq] at hv
    subst hv
    refine ⟨.func (.func g) (f.map a.eval) (c.map a.eval), by simp [execOp, Instr.makeFunc], ?_⟩
    simp only [VR]
    refine ⟨g, f.toList.map a.eval, c.toList.map a.eval, ?_, rfl, opds_sound he hx', opds_sound he hy'⟩
    congr 1 <;> (apply Array.ext'; simp)
  case slice t x lo hi mx =>
    have sizes : ∀ {e n}, szOf P e = some n → (sizeOf e).run P w = .ok n w := fun h => szOf_run h w
    split at hc
    · rename_i ht
      cases mx <;> simp only [] at hc <;> try cases hc
      obtain ⟨x', hx', hc⟩ := bind_some hc
      obtain ⟨lo', hlo, hc⟩ := bind_some hc
      obtain ⟨hi', hhi, hc⟩ := bind_some hc
      cases hc
      have vx := opd_sound hx' he
      simp only [evP] at hv
      generalize x'.ev env = ax at hv vx
      cases ax <;> first | (simp only [evSlStr] at hv; cases hv; done) | skip
      rename_i s
      simp only [evSlStr] at hv
      split at hv
      · rename_i h hh
        split at hv
        · rename_i l hl
          simp only [Option.some.injEq] at hv
          subst hv
          simp only [VR] at vx
          obtain ⟨b, hb, hs, hok⟩ := vx
          have hsz : s.length = b.size := by
            have := congrArg List.length hs
            simp only [List.length_map, Array.length_toList] at this
            exact this.symm
          rw [hsz] at hh
          obtain ⟨g1, g2, g3, g4⟩ := slBounds_sound he (isS := false) (P := P) hlo hhi (mx := none) (mx' := none) rfl (len := b.size) (cap := b.size) (c0 := b.size) (y := b.size) (m := b.size) (Nat.le_refl _) rfl hh (Nat.le_refl _) hl (.inl rfl) (Nat.le_refl _) w
          refine ⟨.string (b.extract l h), by
            simp only [execOp, hb]
            exact val (by
              simp only [Option.map_none] at g1 ⊢
              simp only [Instr.sliceAt, Sem.run_bind, run_underlying ht, Result.andThen_ok, Instr.slice, Option.isSome_none, Bool.false_eq_true, if_false, g1, Sem.run_pure]), ?_⟩
          simp only [VR]
          refine ⟨_, rfl, ?_, fun c hc => hok c (List.mem_of_mem_drop (List.mem_of_mem_take hc))⟩
          rw [List.map_take, List.map_drop, ← hs]
          simp only [ByteArray.data_extract, Array.toList_extract, List.extract_eq_take_drop, List.map_take, List.map_drop]
        · cases hv
      · cases hv
    · rename_i e ht
      obtain ⟨sz, hsz, hc⟩ := bind_some hc
      obtain ⟨x', hx', hc⟩ := bind_some hc
      obtain ⟨lo', hlo, hc⟩ := bind_some hc
      obtain ⟨hi', hhi, hc⟩ := bind_some hc
      obtain ⟨mx', hmx, hc⟩ := bind_some hc
      cases hc
      have vx := opd_sound hx' he
      simp only [evP] at hv
      generalize x'.ev env = ax at hv vx
      cases ax <;> first | (simp only [evSlSl] at hv; cases hv; done) | skip
      · simp only [VR] at vx
        simp only [evSlSl, slNil] at hv
        split at hv
        · rename_i m hm
          split at hv
          · rename_i h hh
            split at hv
            · rename_i l hl
              simp only [Option.some.injEq] at hv
              subst hv
              have hmx0 : mx' = none ∨ hi' ≠ none := by
                cases mx' with
                | none => exact .inl rfl
                | some _ =>
                  cases hi' with
                  | none => simp [slNil0] at hm
                  | some _ => exact .inr (by simp)
              obtain ⟨g1, g2, g3, g4⟩ := slBounds_sound he (isS := true) (P := P) hlo hhi hmx (len := 0) (cap := 0) (c0 := 0) (y := 0) (m := m) (Nat.le_refl _) (slNil0_b hm) hh (Nat.zero_le _) (bndO_le hh hl) hmx0 (Nat.le_refl _) w
              have e1 : m = 0 := by omega
              have e2 : h = 0 := by omega
              have e3 : l = 0 := by omega
              subst e1 e2 e3
              exact ⟨.slice none 0 0, by
                simp only [execOp, vx]
                exact val (by simp only [Instr.sliceAt, Sem.run_bind, run_underlying ht, Result.andThen_ok, Instr.slice, g1, sizes hsz, Sem.run_pure, if_true, Nat.sub_self]), by simp only [VR]⟩
            · cases hv
          · cases hv
        · cases hv
      · rename_i l o n c
        simp only [evSlSl] at hv
        simp only [VR] at vx
        obtain ⟨i, hi0, cap, hb, hcap, hn⟩ := vx
        obtain ⟨l', h', m', g1, g2⟩ := slRow_sound he (isS := true) (P := P) hlo hhi hmx hi0 hcap hn hv w
        refine ⟨_, ?_, g2⟩
        simp only [execOp, hb]
        exact val (by
          simp only [Instr.sliceAt, Sem.run_bind, run_underlying ht, Result.andThen_ok, Instr.slice, g1, sizes hsz, Sem.run_pure, slVal, Option.map_some]
          split <;> rfl)
    · rename_i n e ht
      obtain ⟨sz, hsz, hc⟩ := bind_some hc
      obtain ⟨x', hx', hc⟩ := bind_some hc
      obtain ⟨lo', hlo, hc⟩ := bind_some hc
      obtain ⟨hi', hhi, hc⟩ := bind_some hc
      obtain ⟨mx', hmx, hc⟩ := bind_some hc
      cases hc
      have vx := opd_sound hx' he
      simp only [evP] at hv
      generalize x'.ev env = ax at hv vx
      cases ax <;> first | (simp only [evSlArr] at hv; cases hv; done) | skip
      rename_i l o
      simp only [evSlArr] at hv
      simp only [VR] at vx
      obtain ⟨i, hi0, hb⟩ := vx
      obtain ⟨l', h', m', g1, g2⟩ := slRow_sound he (isS := false) (P := P) (c := .kn n) (cap := n) hlo hhi hmx hi0 (by simp [capR]) (Nat.le_refl _) hv w
      refine ⟨_, ?_, g2⟩
      simp only [execOp, hb]
      exact val (by
        simp only [Instr.sliceAt, Sem.run_bind, run_underlying ht, Result.andThen_ok, Instr.sureAddr, Sem.run_pure, g1, sizes hsz, slVal])
    · cases hc
  case fieldAddr s x f =>
    split at hc
    · rename_i fs hfs
      split at hc
      · rename_i fd hfd
        split at hc
        · rename_i sz hsz
          obtain ⟨x', hx', hc⟩ := bind_some hc
          cases hc
          have vx := opd_sound hx' he
          simp only [evP] at hv
          generalize x'.ev env = ax at hv vx
          cases ax <;> first | (simp only [evFaddr] at hv; cases hv; done) | skip
          simp only [evFaddr, Option.some.injEq] at hv
          subst hv
          simp only [VR] at vx
          obtain ⟨i, hi, hb⟩ := vx
          refine ⟨_, by
            simp only [execOp, hb]
            exact val (by simp only [Instr.fieldAt, Sem.run_bind, run_underlying hfs, Result.andThen_ok, hfd, Instr.sureAddr, Sem.run_pure, fieldPlace, szOf_run hsz, Nat.succ_ne_zero, if_false]; rfl), ?_⟩
          simp only [VR, add_none]
          exact ⟨i, hi, by rw [Nat.add_assoc]⟩
        · cases hc
      · cases hc
    · cases hc
  case field s x f =>
    split at hc
    · rename_i fs hfs
      split at hc
      · rename_i fd hfd
        split at hc
        · rename_i sz hag hsz
          obtain ⟨x', hx', hc⟩ := bind_some hc
          cases hc
          have vx := opd_sound hx' he
          simp only [evP] at hv
          generalize x'.ev env = ax at hv vx
          cases ax <;> first | (simp only [evFieldA] at hv; cases hv; done) | skip
          rename_i cs
          simp only [evFieldA] at hv
          split at hv
          · rename_i r hr
            simp only [Option.some.injEq] at hv
            subst hv
            simp only [VR] at vx
            obtain ⟨vs, hb, hvs⟩ := vx
            refine ⟨_, by
              simp only [execOp, hb]
              exact val (by simp only [Instr.field, Sem.run_bind, run_underlying hfs, Result.andThen_ok, hfd, asAgg, Sem.run_pure, part_agg hag hsz]; rfl), ?_⟩
            simp only [VR]
            refine ⟨_, ?_, (cut_VRs hr hvs).1⟩
            congr 1
            apply Array.ext'
            simp [List.extract_eq_take_drop]
          · cases hv
        · rename_i hag hsz
          obtain ⟨x', hx', hc⟩ := bind_some hc
          cases hc
          have vx := opd_sound hx' he
          simp only [evP] at hv
          generalize x'.ev env = ax at hv vx
          cases ax <;> first | (simp only [evFieldS] at hv; cases hv; done) | skip
          simp only [evFieldS] at hv
          simp only [VR] at vx
          obtain ⟨vs, hb, hvs⟩ := vx
          obtain ⟨y, hy, hr⟩ := hvs.get hv
          exact ⟨y, by
            simp only [execOp, hb]
            exact val (by simp only [Instr.field, Sem.run_bind, run_underlying hfs, Result.andThen_ok, hfd, asAgg, Sem.run_pure]; exact part_leaf hag (by simpa using hy) w), hr⟩
        · cases hc
      · cases hc
    · cases hc
  case indexAddr t x j =>
    split at hc
    · rename_i e ht
      obtain ⟨sz, hsz, hc⟩ := bind_some hc
      obtain ⟨x', hx', hc⟩ := bind_some hc
      obtain ⟨j', hj', hc⟩ := bind_some hc
      cases hc
      have vx := opd_sound hx' he
      have vj := opd_sound hj' he
      simp only [evP] at hv
      generalize x'.ev env = ax at hv vx
      generalize j'.ev env = aj at hv vj
      cases ax <;> first | (simp only [evIaddrS] at hv; cases hv; done) | skip
      simp only [evIaddrS] at hv
      split at hv
      · rename_i k hk
        simp only [Option.some.injEq] at hv
        subst hv
        obtain ⟨kk, hjv, hlt⟩ := evIdx_sound hk vj
        simp only [VR] at vx
        obtain ⟨i, hi, cap, hb, _, _⟩ := vx
        refine ⟨_, by
          simp only [execOp, hb, hjv]
          exact val (by
            simp only [Instr.indexAt, asIntOf, Sem.run_bind, Sem.run_pure, run_underlying ht, Result.andThen_ok]
            rw [Sem.run_ite, if_pos (by simp only [Int.ofNat_eq_natCast]; omega)]
            simp only [Sem.run_bind, szOf_run hsz, Result.andThen_ok, Sem.run_pure]; rfl), ?_⟩
        simp only [VR, add_none]
        exact ⟨i, hi, by simp [Nat.add_assoc]⟩
      · cases hv
    · rename_i n e ht
      obtain ⟨sz, hsz, hc⟩ := bind_some hc
      obtain ⟨x', hx', hc⟩ := bind_some hc
      obtain ⟨j', hj', hc⟩ := bind_some hc
      cases hc
      have vx := opd_sound hx' he
      have vj := opd_sound hj' he
      simp only [evP] at hv
      generalize x'.ev env = ax at hv vx
      generalize j'.ev env = aj at hv vj
      cases ax <;> first | (simp only [evIaddrA] at hv; cases hv; done) | skip
      simp only [evIaddrA] at hv
      split at hv
      · rename_i k hk
        simp only [Option.some.injEq] at hv
        subst hv
        obtain ⟨kk, hjv, hlt⟩ := evIdx_sound hk vj
        simp only [VR] at vx
        obtain ⟨i, hi, hb⟩ := vx
        refine ⟨_, by
          simp only [execOp, hb, hjv]
          exact val (by
            simp only [Instr.indexAt, asIntOf, Sem.run_bind, Sem.run_pure, run_underlying ht, Result.andThen_ok, Instr.sureAddr]
            rw [Sem.run_ite, if_pos (by simp only [Int.ofNat_eq_natCast]; omega)]
            simp only [Sem.run_bind, szOf_run hsz, Result.andThen_ok, Sem.run_pure]; rfl), ?_⟩
        simp only [VR, add_none]
        exact ⟨i, hi, by simp [Nat.add_assoc]⟩
      · cases hv
    · cases hc
  case index t x j =>
    split at hc
    · rename_i ht
      obtain ⟨x', hx', hc⟩ := bind_some hc
      obtain ⟨j', hj', hc⟩ := bind_some hc
      cases hc
      have vx := opd_sound hx' he
      have vj := opd_sound hj' he
      simp only [evP] at hv
      generalize x'.ev env = ax at hv vx
      generalize j'.ev env = aj at hv vj
      cases ax <;> first | (simp only [evIdxStr] at hv; cases hv; done) | skip
      cases aj <;> first | (simp only [evIdxStr] at hv; cases hv; done) | skip
      rename_i s kk m
      cases m <;> simp only [evIdxStr] at hv <;> try cases hv
      rename_i m
      split at hv
      · rename_i b hb
        simp only [Option.some.injEq] at hv
        subst hv
        simp only [VR] at vx vj
        obtain ⟨bs, hbs, hs, hok⟩ := vx
        have h0 := nthB_spec hb
        have h1 : (s.map bvN)[m]? = some (bvN b) := by rw [List.getElem?_map, h0]; rfl
        rw [← hs] at h1
        simp only [List.getElem?_map, Option.map_eq_some_iff] at h1
        obtain ⟨u, hu, hub⟩ := h1
        have hlt : m < bs.size := by
          have := (List.getElem?_eq_some_iff.1 hu).1
          simpa using this
        have hg : bs[m]? = some u := by
          rw [ByteArray.getElem?_lt' _ _ hlt]
          have := (List.getElem?_eq_some_iff.1 hu).2
          simp only [← this]
          rfl
        refine ⟨.int .u8 u.toNat, by
          simp only [execOp, hbs, vj]
          exact val (by
            simp only [Instr.index, asIntOf, Sem.run_bind, Sem.run_pure, run_underlying ht, Result.andThen_ok]
            rw [if_pos (by simp only [Int.ofNat_eq_natCast]; omega)]
            simp only [Int.ofNat_eq_natCast, Int.toNat_natCast, hg, Sem.run_pure]), ?_⟩
        exact byteAV_sound hub.symm (hok b (List.mem_of_getElem? h0))
      · cases hv
    · rename_i n e ht
      split at hc
      · rename_i sz hag hsz
        obtain ⟨x', hx', hc⟩ := bind_some hc
        obtain ⟨j', hj', hc⟩ := bind_some hc
        cases hc
        have vx := opd_sound hx' he
        have vj := opd_sound hj' he
        simp only [evP] at hv
        generalize x'.ev env = ax at hv vx
        generalize j'.ev env = aj at hv vj
        simp only [evIdxA, cond_true] at hv
        split at hv
        · rename_i k hk
          obtain ⟨kk, hjv, hlt⟩ := evIdx_sound hk vj
          cases ax <;> first | (simp only [evFieldA] at hv; cases hv; done) | skip
          simp only [evFieldA] at hv
          split at hv
          · rename_i r hr
            simp only [Option.some.injEq] at hv
            subst hv
            simp only [VR] at vx
            obtain ⟨vs, hb, hvs⟩ := vx
            refine ⟨_, by
              simp only [execOp, hb, hjv]
              exact val (by
                simp only [Instr.index, asIntOf, Sem.run_bind, Sem.run_pure, run_underlying ht, Result.andThen_ok]
                rw [Sem.run_ite, if_pos (by simp only [Int.ofNat_eq_natCast]; omega)]
                simp only [Sem.run_bind, szOf_run hsz, Result.andThen_ok, Int.ofNat_eq_natCast, Int.toNat_natCast]
                exact part_agg hag hsz w), ?_⟩
            simp only [VR]
            refine ⟨_, ?_, (cut_VRs hr hvs).1⟩
            congr 1
            apply Array.ext'
            simp [List.extract_eq_take_drop]
          · cases hv
        · cases hv
      · rename_i hag hsz
        obtain ⟨x', hx', hc⟩ := bind_some hc
        obtain ⟨j', hj', hc⟩ := bind_some hc
        cases hc
        have vx := opd_sound hx' he
        have vj := opd_sound hj' he
        simp only [evP] at hv
        generalize x'.ev env = ax at hv vx
        generalize j'.ev env = aj at hv vj
        simp only [evIdxA, cond_false] at hv
        split at hv
        · rename_i k hk
          obtain ⟨kk, hjv, hlt⟩ := evIdx_sound hk vj
          cases ax <;> first | (simp only [evFieldS] at hv; cases hv; done) | skip
          simp only [evFieldS] at hv
          simp only [VR] at vx
          obtain ⟨vs, hb, hvs⟩ := vx
          obtain ⟨y, hy, hr⟩ := hvs.get hv
          exact ⟨y, by
            simp only [execOp, hb, hjv]
            exact val (by
              simp only [Instr.index, asIntOf, Sem.run_bind, Sem.run_pure, run_underlying ht, Result.andThen_ok]
              rw [Sem.run_ite, if_pos (by simp only [Int.ofNat_eq_natCast]; omega)]
              simp only [Sem.run_bind, szOf_run hsz, Result.andThen_ok, Int.ofNat_eq_natCast, Int.toNat_natCast]
              exact part_leaf hag (by simpa using hy) w), hr⟩
        · cases hv
      · cases hc
    · cases hc
  case extract x i =>
    obtain ⟨x', hx', hc⟩ := bind_some hc
    cases hc
    have vx := opd_sound hx' he
    simp only [evP] at hv
    generalize x'.ev env = ax at hv vx
    cases ax <;> first | (simp only [evExt] at hv; cases hv; done) | skip
    simp only [evExt] at hv
    simp only [VR] at vx
    obtain ⟨vs, hb, hvs⟩ := vx
    obtain ⟨y, hy, hr⟩ := hvs.get hv
    exact ⟨y, by
      simp only [execOp, hb]
      exact val (by simp [Instr.extract, hy]), hr⟩
  case call c =>
    obtain ⟨callee, args, ats⟩ := c
    cases callee with
    | invoke r m => cases hc
    | value f =>
      cases f
      case func g =>
        replace hc : (do pure (IOp.call (Pos.of g) (← cOpds args.toList))) = some (IOp.p p) := hc
        obtain ⟨_, _, hc⟩ := bind_some hc
        cases hc
      all_goals
        (replace hc : (do pure (IOp.callv (← cOpd _) (← cOpds args.toList))) = some (IOp.p p) := hc)
        (obtain ⟨_, _, hc⟩ := bind_some hc)
        (obtain ⟨_, _, hc⟩ := bind_some hc)
        cases hc
    | builtin b =>
      replace hc : (do pure (cBuiltin P b ats.toList (← cOpds args.toList))) = some (IOp.p p) := hc
      obtain ⟨as, has, hc⟩ := bind_some hc
      have hc : cBuiltin P b ats.toList as = .p p := Option.some.inj hc
      have vs := opds_sound he has
      -- the arguments as they stand
      have hb : ∀ {u : Value}, (builtin b ats type (args.map fun | .const _ => true | _ => false) (args.map a.eval)).run P w = .ok (.value u) w →
          (execOp a.eval ⟨dst, .call ⟨.builtin b, args, ats⟩, type, pos, after, guard⟩).run P w = .ok (.value u) w := fun h => by
        simp only [execOp, resolve, Sem.run_bind, Sem.run_pure, Result.andThen_ok, invoke]
        exact h
      have argl : ∀ {l : List Value}, args.toList.map a.eval = l → args.map a.eval = ⟨l⟩ := fun h => by apply Array.ext'; simp [h]
      have atl : ∀ {t : TypeId} {l : List TypeId}, ats.toList = t :: l → ats[0]? = some t := fun h => by
        rw [← Array.getElem?_toList, h]; rfl
      simp only [cBuiltin] at hc
      split at hc
      · -- len
        rename_i t ts x hats _ _
        obtain ⟨vx, vs', e, h1, h2⟩ := VRs.cons_inv vs
        have := VRs.nil_inv h2
        subst this
        have hargs := argl e
        split at hc
        · rename_i ht
          cases hc
          simp only [evP] at hv
          generalize x.ev env = ax at hv h1
          cases ax <;> first | (simp only [evLenStr] at hv; cases hv; done) | skip
          simp only [evLenStr, Option.some.injEq] at hv
          subst hv
          simp only [VR] at h1
          obtain ⟨bs, rfl, hs, _⟩ := h1
          refine ⟨goInt bs.size, hb (by simp [builtin, Builtin.len_, hargs, atl hats, run_underlying ht]), ?_⟩
          have := congrArg List.length hs
          simp only [List.length_map, Array.length_toList] at this
          simp only [VR, goInt, ← this]
          rfl
        · rename_i e' ht
          cases hc
          simp only [evP] at hv
          generalize x.ev env = ax at hv h1
          cases ax <;> first | (simp only [evLenSl] at hv; cases hv; done) | skip
          · simp only [evLenSl, Option.some.injEq] at hv
            subst hv
            simp only [VR] at h1
            subst h1
            exact ⟨goInt 0, hb (by simp [builtin, Builtin.len_, hargs, atl hats, run_underlying ht]), by simp only [VR, goInt]⟩
          · simp only [evLenSl, Option.some.injEq] at hv
            subst hv
            simp only [VR] at h1
            obtain ⟨i, hi, cap, rfl, _⟩ := h1
            rename_i n _ _
            exact ⟨goInt n, hb (by simp [builtin, Builtin.len_, hargs, atl hats, run_underlying ht]), by simp only [VR, goInt]; rfl⟩
          · simp only [evLenSl, Option.some.injEq] at hv
            subst hv
            simp only [VR] at h1
            obtain ⟨i, cap, rfl⟩ := h1
            exact ⟨goInt 0, hb (by simp [builtin, Builtin.len_, hargs, atl hats, run_underlying ht]), by simp only [VR, goInt]⟩
        · rename_i n e' ht
          cases hc
          simp only [evP, Option.some.injEq] at hv
          subst hv
          refine ⟨goInt n, hb ?_, by simp only [VR, goInt]; rfl⟩
          simp [builtin, Builtin.len_, hargs, atl hats, run_underlying ht]
        · cases hc
        · rename_i ea ht
          split at hc
          · rename_i n e' hte
            cases hc
            simp only [evP, Option.some.injEq] at hv
            subst hv
            refine ⟨goInt n, hb ?_, by simp only [VR, goInt]; rfl⟩
            simp [builtin, Builtin.len_, hargs, atl hats, run_underlying ht, run_underlying hte]
          · cases hc
            simp [evP] at hv
        · cases hc
          simp [evP] at hv
      · -- cap
        rename_i t ts x hats _ _
        obtain ⟨vx, vs', e, h1, h2⟩ := VRs.cons_inv vs
        have := VRs.nil_inv h2
        subst this
        have hargs := argl e
        split at hc
        · rename_i e' ht
          cases hc
          simp only [evP] at hv
          generalize x.ev env = ax at hv h1
          cases ax <;> first | (simp only [evCapSl] at hv; cases hv; done) | skip
          · simp only [evCapSl, Option.some.injEq] at hv
            subst hv
            simp only [VR] at h1
            subst h1
            exact ⟨goInt 0, hb (by simp [builtin, Builtin.cap_, hargs, atl hats, run_underlying ht]), by simp only [VR, goInt]⟩
          · rename_i l o n c
            cases c <;> simp only [evCapSl] at hv <;> try cases hv
            rename_i c
            simp only [VR] at h1
            obtain ⟨i, hi, cap, rfl, hcap, _⟩ := h1
            simp only [capR] at hcap
            subst hcap
            exact ⟨goInt cap, hb (by simp [builtin, Builtin.cap_, hargs, atl hats, run_underlying ht]), by simp only [VR, goInt]; rfl⟩
        · cases hc
          simp [evP] at hv
      · -- append
        split at hc <;> first | (cases hc; simp [evP] at hv; done) | (cases hc; done)
      · -- copy
        split at hc <;> first | (cases hc; simp [evP] at hv; done) | (cases hc; done)
      · -- clear
        split at hc
        · cases hc
        · split at hc <;> first | (cases hc; simp [evP] at hv; done) | (cases hc; done)
        · cases hc
          simp [evP] at hv
      · -- delete
        split at hc <;> first | (cases hc; simp [evP] at hv; done) | (cases hc; done)
      · -- min
        rename_i x y _ _
        cases hc
        obtain ⟨vx, vs', e, h1, h2⟩ := VRs.cons_inv vs
        obtain ⟨vy, vs', rfl, h4, h3⟩ := VRs.cons_inv h2
        have := VRs.nil_inv h3
        subst this
        have hargs := argl e
        simp only [evP] at hv
        generalize x.ev env = ax at hv h1
        generalize y.ev env = ay at hv h4
        cases ax <;> first | (simp only [evMn] at hv; cases hv; done) | skip
        cases ay <;> first | (simp only [evMn] at hv; cases hv; done) | skip
        simp only [evMn, Option.some.injEq] at hv
        subst hv
        simp only [VR] at h1 h4
        subst h1 h4
        rename_i k n k' m
        refine ⟨.int k (if m < n then m else n), hb ?_, ?_⟩
        · simp [builtin, Builtin.min_, hargs, Builtin.min2]
        · simp only [VR, ilt_eq]
          by_cases h : m < n <;> simp [h]
      · -- max
        rename_i x y _ _
        cases hc
        obtain ⟨vx, vs', e, h1, h2⟩ := VRs.cons_inv vs
        obtain ⟨vy, vs', rfl, h4, h3⟩ := VRs.cons_inv h2
        have := VRs.nil_inv h3
        subst this
        have hargs := argl e
        simp only [evP] at hv
        generalize x.ev env = ax at hv h1
        generalize y.ev env = ay at hv h4
        cases ax <;> first | (simp only [evMx] at hv; cases hv; done) | skip
        cases ay <;> first | (simp only [evMx] at hv; cases hv; done) | skip
        simp only [evMx, Option.some.injEq] at hv
        subst hv
        simp only [VR] at h1 h4
        subst h1 h4
        rename_i k n k' m
        refine ⟨.int k (if m > n then m else n), hb ?_, ?_⟩
        · simp [builtin, Builtin.max_, hargs, Builtin.max2]
        · simp only [VR, ilt_eq]
          by_cases h : n < m <;> simp [h]
      · cases hc
      · split at hc
        · split at hc <;> first | (cases hc; simp [evP] at hv; done) | (cases hc; done)
        · cases hc
          simp [evP] at hv
      · cases hc
        simp [evP] at hv
  case makeMap t r =>
    cases r with
    | some r => cases hc
    | none =>
      simp only [] at hc
      split at hc
      · cases hc
      · cases hc
  case makeSlice t n c =>
    split at hc
    · obtain ⟨_, _, hc⟩ := bind_some hc
      obtain ⟨_, _, hc⟩ := bind_some hc
      cases hc
    · cases hc
  case lookup t m k ok =>
    split at hc
    · obtain ⟨_, _, hc⟩ := bind_some hc
      obtain ⟨_, _, hc⟩ := bind_some hc
      obtain ⟨_, _, hc⟩ := bind_some hc
      cases hc
    · cases hc
  case mapUpdate t m k x =>
    split at hc
    · obtain ⟨_, _, hc⟩ := bind_some hc
      obtain ⟨_, _, hc⟩ := bind_some hc
      obtain ⟨_, _, hc⟩ := bind_some hc
      cases hc
    · cases hc
  case mapEntry t m k =>
    split at hc
    · obtain ⟨_, _, hc⟩ := bind_some hc
      obtain ⟨_, _, hc⟩ := bind_some hc
      obtain ⟨_, _, hc⟩ := bind_some hc
      cases hc
    · cases hc
  case entryStore t m s x =>
    obtain ⟨_, _, hc⟩ := bind_some hc
    obtain ⟨_, _, hc⟩ := bind_some hc
    obtain ⟨_, _, hc⟩ := bind_some hc
    cases hc
  case range t x =>
    split at hc
    · obtain ⟨_, _, hc⟩ := bind_some hc
      cases hc
    · cases hc
  case next x b =>
    cases b
    · replace hc : (do pure (IOp.w (.next (← cOpd x)))) = some (IOp.p p) := hc
      obtain ⟨_, _, hc⟩ := bind_some hc
      cases hc
    · cases hc
  case entry x =>
    obtain ⟨_, _, hc⟩ := bind_some hc
    cases hc
  all_goals cases hc

end Go.Ev
