import Derived.Test.YtddcnopjjihmcaaGreatEv16
set_option linter.unusedSectionVars false
set_option linter.unusedVariables false
set_option linter.unusedSimpArgs false
namespace Go.Ev
variable {X : Type} [T : SymT] [V : SymV] {P : Program} {R : XRel X}

def exq : Ex → Exit
  | .nrm => .normal
  | .ext id => .exit id
  | .ret => .ret

/-- a region that draws its order does what was worked out in the order chosen -/
def RegionOk (P : Program) (R : XRel X) (call : CallF X) : Prop :=
  ∀ {n b0 k id : Nat} {rb : Option Nat} {ops : Array Oper} {l : List DOper} {ι : Loc} {F : Foot} {env env' : Env} {h h' : Heap X} {a : Act} {w : World} {Q : Exit → Act → World → Prop},
    cReg P n ops = some l → evRegion call l env h = some (env', h') → St P R n b0 ι F env h a w → (∀ a' w' ι' F', St P R n b0 ι' F' env' h' a' w' → Ev ι F h w ι' F' h' w' → Q .normal a' w') →
    (Code.region id ops true).wpIn (fen rb) k P Q a w

theorem least {p : Nat → Prop} (h : ∃ n, p n) : ∃ n, p n ∧ ∀ m, p m → n ≤ m := by
  obtain ⟨n, hn⟩ := h
  induction n using Nat.strongRecOn with
  | _ n ih =>
    by_cases hx : ∃ m, m < n ∧ p m
    · obtain ⟨m, h1, h2⟩ := hx
      exact ih m h1 h2
    · refine ⟨n, hn, fun m hm => Nat.le_of_not_lt fun hlt => hx ⟨m, hlt, hm⟩⟩

open Classical in
/-- a loop, its rounds counted down -/
theorem wpIn_loop_ix {Fc : Fence} {k : Nat} {Q : Exit → Act → World → Prop} {c : Code} {a : Act} {w : World} (G : Nat → Act → World → Prop) (j : Nat) (h₀ : G j a w)
    (round : ∀ j a w, G j a w → c.wpIn Fc k P (Exit.then (fun a' w' => ∃ i, i < j ∧ G i a' w') Q) a w) : (Code.loop c).wpIn Fc k P Q a w := by
  let μ : Act → World → Nat := fun a w => if h : ∃ j, G j a w then Classical.choose (least h) else 0
  have hμ : ∀ a w j, G j a w → G (μ a w) a w ∧ μ a w ≤ j := fun a w j hj => by
    have hex : ∃ j, G j a w := ⟨j, hj⟩
    have := Classical.choose_spec (least hex)
    simp only [μ, hex, dif_pos]
    exact ⟨this.1, this.2 j hj⟩
  refine wpIn_loop (fun a w => ∃ j, G j a w) μ ⟨j, h₀⟩ fun a w hI => ?_
  obtain ⟨j, hj⟩ := hI
  refine wpIn_mono (round (μ a w) a w (hμ a w j hj).1) fun e a' w' hq => ?_
  cases e <;> first | exact hq | skip
  obtain ⟨i, hi, hG⟩ := hq
  exact ⟨⟨i, hG⟩, Nat.lt_of_le_of_lt (hμ a' w' i hG).2 hi⟩

theorem run_getLoop {w : World} {b : Nat} {L : Loop} (h : w.heap[b]? = some (.loop L)) : (Instr.getLoop b).run P w = .ok L w := by
  simp [Instr.getLoop, run_getObj (P := P) h (by simp)]

theorem rel_loop {ι : Loc} {F : Foot} {h : Heap X} {w : World} (r : Rel P R ι F h w) {l : Pos} {st : LSt} {pend : Ex} {env : PT AV} {ps : List Pos} {asg body : ICode} {i : LocI} (hl : h.m.get l = some (.loop st pend env ps asg body)) (hi : ι l = some i) :
    (∀ b, F l b ↔ b = i.blk) ∧ ∃ L : Loop, w.heap[i.blk]? = some (.loop L) ∧ stR st L.state ∧ exR pend L.pending ∧ EnvR ι env L.tmps ∧
      L.params.toList.map Pos.of = ps ∧ (∀ t ∈ L.params.toList, t < L.tmps.size) ∧ cCode P L.tmps.size L.assign = asg ∧ cCode P L.tmps.size L.body = body := by
  obtain ⟨j, hj, ho⟩ := r.obj l _ hl
  rw [hi] at hj
  cases hj
  exact ho

/-- the end of a range over a function: the record is shut -/
theorem endF_sound {ι : Loc} {F : Foot} {h h' : Heap X} {w : World} {l : Pos} {env env' : Env} {j : Ex} {i : LocI} (r : Rel P R ι F h w) (hi : ι l = some i) (hv : endF l env h = some (j, env', h')) :
    env' = env ∧ ∃ jump w', (Instr.endLoop i.blk).run P w = .ok jump w' ∧ exR j jump ∧ Rel P R ι F h' w' ∧ Ev ι F h w ι F h' w' := by
  unfold endF at hv
  split at hv
  · cases hv
  · rename_i st pend env0 ps asg body hnb hg
    simp only [Option.some.injEq, Prod.mk.injEq] at hv
    obtain ⟨rfl, rfl, rfl⟩ := hv
    obtain ⟨hF, L, h1, h2, h3, _⟩ := rel_loop r hg hi
    have hlt := (Array.getElem?_eq_some_iff.1 h1).1
    have hso := run_setObj (P := P) (.loop { L with state := .exhausted }) h1 (by simp)
    have hne : L.state ≠ LoopState.busy := by
      intro hs
      rw [hs] at h2
      cases st with
      | busy => exact hnb rfl
      | ready => exact h2
      | done => exact h2
    obtain ⟨r1, e1⟩ := rel_killW r hg (w' := { w with heap := w.heap.setIfInBounds i.blk (.loop { L with state := .exhausted }) }) (by simp) (fun b hb => by
      have : b ≠ i.blk := fun e => hb ((hF b).2 e)
      simp [Ne.symm this])
    refine ⟨rfl, L.pending, _, ?_, h3, r1, e1⟩
    simp [Instr.endLoop, run_getLoop h1, hso]
    intro hs
    exact absurd hs hne
  · cases hv

theorem roOk_sound {ι : Loc} {F : Foot} {h : Heap X} {w : World} (r : Rel P R ι F h w) {ro : Option Pos} {rb : Option Nat} (hro : RoR ι ro rb) (hok : roOk ro h = true) :
    rb = none ∨ ∃ b L, rb = some b ∧ w.heap[b]? = some (.loop L) := by
  cases ro with
  | none => exact .inl hro
  | some l =>
    obtain ⟨i, hi, rfl⟩ := hro
    simp only [roOk] at hok
    split at hok
    · rename_i hg
      obtain ⟨_, L, h1, _⟩ := rel_loop r hg hi
      exact .inr ⟨_, L, rfl, h1⟩
    · cases hok

/-- entering a range over a function: the record laid -/
theorem enterLoop_sound {n b0 : Nat} {ι : Loc} {F : Foot} {env : Env} {h : Heap X} {a : Act} {w : World} (s : St P R n b0 ι F env h a w) {ro : Option Pos} {rb : Option Nat} (hro : RoR ι ro rb) (hok : roOk ro h = true) (fn : FuncId) (ps : Array Tmp) (assign body : Code)
    (hps : ∀ t ∈ ps.toList, t < n) : ∃ lb mark w1 ι1 F1, (Instr.enterLoop fn a.tmps ps assign body rb).run P w = .ok (lb, mark) w1 ∧ ι1 h.next = some (.at lb 0 0) ∧
      St P R n b0 ι1 F1 env (h.add (.loop .ready .nrm env (ps.toList.map Pos.of) (cCode P n assign) (cCode P n body))) { a with defers := mark ++ a.defers } w1 ∧
      Ev ι F h w ι1 F1 (h.add (.loop .ready .nrm env (ps.toList.map Pos.of) (cCode P n assign) (cCode P n body))) w1 := by
  have hn : ι h.next = none := (s.rel.fresh _ (Nat.le_refl _)).1
  have lay : ∀ (w0 : World) (dfr : Nat), Rel P R ι F h w0 → Ev ι F h w ι F h w0 → ∃ ι1 F1, ι1 h.next = some (.at w0.heap.size 0 0) ∧
      Rel P R ι1 F1 (h.add (.loop .ready .nrm env (ps.toList.map Pos.of) (cCode P n assign) (cCode P n body))) (w0.alloc (.loop { state := .ready, pending := none, fn, tmps := a.tmps, params := ps, assign, body, defers := dfr })) ∧
      Ev ι F h w ι1 F1 (h.add (.loop .ready .nrm env (ps.toList.map Pos.of) (cCode P n assign) (cCode P n body))) (w0.alloc (.loop { state := .ready, pending := none, fn, tmps := a.tmps, params := ps, assign, body, defers := dfr })) ∧
      ∀ l o b, (h.add (.loop .ready .nrm env (ps.toList.map Pos.of) (cCode P n assign) (cCode P n body))).m.get l = some o → F1 l b → w0.heap.size ≤ b ∨ ∃ l0 o0, h.m.get l0 = some o0 ∧ F l0 b := by
    intro w0 dfr r0 e0
    have hnew : ∀ o : Obj, (w0.alloc o).heap[w0.heap.size]? = some o := fun o => by
      show (w0.heap.push _)[w0.heap.size]? = _
      rw [Array.getElem?_push_size]
    obtain ⟨r1, e1⟩ := rel_add r0 (.loop .ready .nrm env (ps.toList.map Pos.of) (cCode P n assign) (cCode P n body)) (.loop { state := .ready, pending := none, fn, tmps := a.tmps, params := ps, assign, body, defers := dfr }) (.at w0.heap.size 0 0)
      ⟨fun _ => Iff.rfl, _, hnew _, trivial, rfl, s.env.mono (Loc.le_set _ hn), rfl, by simpa [s.size] using hps, by simp [s.size], by simp [s.size]⟩
    exact ⟨_, _, Loc.set_same .., r1, e0.trans e1, e1.foot⟩
  have fin : ∀ {ι1 F1 h1 w1}, Ev ι F h w ι1 F1 h1 w1 → EnvR ι1 env a.tmps := fun e => s.env.mono (e.le s.rel)
  rcases roOk_sound s.rel hro hok with rfl | ⟨b, L, rfl, hL⟩
  · obtain ⟨r0, e0⟩ := rel_raw s.rel (.deferred (some []))
    obtain ⟨ι1, F1, g1, g2, g3, g4⟩ := lay (w.alloc (.deferred (some []))) w.heap.size r0 e0
    refine ⟨_, [mkD w.heap.size], _, ι1, F1, ?_, g1, ⟨fin g3, s.size, g2, ?_, Nat.le_trans s.b0 g3.size⟩, g3⟩
    · simp [Instr.enterLoop, mkD]
    · have m1 := s.marks.ev g3
      obtain ⟨rs, k1, k2, k3⟩ := m1
      have hold : ∀ r ∈ rs, r < w.heap.size := by
        obtain ⟨rs', q1, q2, q3⟩ := s.marks
        have : rs = rs' := by
          have hh : rs.map mkD = rs'.map mkD := by rw [← k1, ← q1]
          have inj : ∀ {x y : List Nat}, x.map mkD = y.map mkD → x = y := by
            intro x
            induction x with
            | nil => intro y hxy; cases y with
              | nil => rfl
              | cons _ _ => cases hxy
            | cons a x ih => intro y hxy; cases y with
              | nil => cases hxy
              | cons b y =>
                simp only [List.map_cons, List.cons.injEq] at hxy
                obtain ⟨h1, h2⟩ := hxy
                simp only [mkD, Deferred.mk.injEq, Target.collected.injEq, and_true] at h1
                rw [h1, ih h2]
          exact inj hh
        subst this
        intro r hr
        exact (Array.getElem?_eq_some_iff.1 (q3 r hr).2.1).1
      refine ⟨w.heap.size :: rs, by simp [k1], List.nodup_cons.2 ⟨fun hm => by have := hold _ hm; omega, k2⟩, fun r hr => ?_⟩
      rcases List.mem_cons.1 hr with rfl | hr
      · refine ⟨s.b0, ?_, fun l o hl hF => ?_⟩
        · show ((w.heap.push _).push _)[w.heap.size]? = _
          rw [Array.getElem?_push, if_neg (by simp), Array.getElem?_push_size]
        · rcases g4 l o _ hl hF with h5 | ⟨l0, o0, h5, h6⟩
          · simp at h5
            omega
          · obtain ⟨_, _, ho⟩ := s.rel.obj l0 o0 h5
            have := ho.lt h6
            omega
      · exact k3 r hr
  · obtain ⟨ι1, F1, g1, g2, g3, _⟩ := lay w L.defers s.rel (Ev.refl ..)
    refine ⟨_, [], _, ι1, F1, ?_, g1, ⟨fin g3, s.size, g2, s.marks.ev g3, Nat.le_trans s.b0 g3.size⟩, g3⟩
    simp [Instr.enterLoop, run_getLoop hL]

/-- **code does what was worked out** -/
theorem code_sound {call : CallF X} (hcall : CallOk P R call) (hreg : RegionOk P R call) {n b0 k : Nat} {ro : Option Pos} {rb : Option Nat} : ∀ (c : Code) {ι : Loc} {F : Foot} {env env' : Env} {h h' : Heap X} {e : Ex} {a : Act} {w : World} {Q : Exit → Act → World → Prop},
    RoR ι ro rb → evC call ro (cCode P n c) env h = some (e, env', h') → St P R n b0 ι F env h a w → (∀ a' w' ι' F', St P R n b0 ι' F' env' h' a' w' → Ev ι F h w ι' F' h' w' → Q (exq e) a' w') → c.wpIn (fen rb) k P Q a w
  | .skip, ι, F, env, env', h, h', e, a, w, Q, hro, hv, s, hq => by
    simp only [cCode, evC, Option.some.injEq, Prod.mk.injEq] at hv
    obtain ⟨rfl, rfl, rfl⟩ := hv
    exact wpIn_skip (hq a w ι F s (Ev.refl ..))
  | .label l, ι, F, env, env', h, h', e, a, w, Q, hro, hv, s, hq => by
    simp only [cCode, evC, Option.some.injEq, Prod.mk.injEq] at hv
    obtain ⟨rfl, rfl, rfl⟩ := hv
    exact wpIn_label (hq a w ι F s (Ev.refl ..))
  | .region id ops false, ι, F, env, env', h, h', e, a, w, Q, hro, hv, s, hq => by
    simp only [cCode] at hv
    split at hv
    · rename_i l hl
      simp only [evC] at hv
      split at hv
      · rename_i env1 h1 hv1
        simp only [Option.some.injEq, Prod.mk.injEq] at hv
        obtain ⟨rfl, rfl, rfl⟩ := hv
        refine wpIn_region ?_
        have := ops_sound hcall (rb := rb) (k := k) (Q := Q) ops.toList [] rfl hl hv1 s hq
        rw [List.range_eq_range']
        simpa using this
      · cases hv
    · simp [evC] at hv
  | .region id ops true, ι, F, env, env', h, h', e, a, w, Q, hro, hv, s, hq => by
    simp only [cCode] at hv
    split at hv
    · rename_i l hl
      simp only [evC] at hv
      split at hv
      · rename_i env1 h1 hv1
        simp only [Option.some.injEq, Prod.mk.injEq] at hv
        obtain ⟨rfl, rfl, rfl⟩ := hv
        exact hreg hl hv1 s hq
      · cases hv
    · simp [evC] at hv
  | .seq x y, ι, F, env, env', h, h', e, a, w, Q, hro, hv, s, hq => by
    simp only [cCode, evC] at hv
    refine wpIn_seq ?_
    split at hv
    · rename_i env1 h1 hv1
      refine code_sound hcall hreg x hro hv1 s fun a1 w1 ι1 F1 s1 e1 => ?_
      exact code_sound hcall hreg y (hro.mono (e1.le s.rel)) hv s1 fun a2 w2 ι2 F2 s2 e2 => hq a2 w2 ι2 F2 s2 (e1.trans e2)
    · rename_i hne
      refine code_sound hcall hreg x hro hv s fun a1 w1 ι1 F1 s1 e1 => ?_
      have := hq a1 w1 ι1 F1 s1 e1
      cases e with
      | nrm => exact absurd hv (hne _ _)
      | ext i => exact this
      | ret => exact this
  | .cond c x y, ι, F, env, env', h, h', e, a, w, Q, hro, hv, s, hq => by
    simp only [cCode] at hv
    split at hv
    · rename_i c' hc
      have vc := opd_sound hc s.env
      simp only [evC] at hv
      split at hv
      · rename_i hcv
        rw [hcv] at vc
        simp only [VR] at vc
        exact wpIn_cond_true vc (code_sound hcall hreg x hro hv s hq)
      · rename_i hcv
        rw [hcv] at vc
        simp only [VR] at vc
        exact wpIn_cond_false vc (code_sound hcall hreg y hro hv s hq)
      · cases hv
    · simp [evC] at hv
  | .block id c, ι, F, env, env', h, h', e, a, w, Q, hro, hv, s, hq => by
    simp only [cCode, evC] at hv
    refine wpIn_block ?_
    split at hv
    · rename_i i env1 h1 hv1
      simp only [Option.some.injEq, Prod.mk.injEq] at hv
      obtain ⟨rfl, rfl, rfl⟩ := hv
      refine code_sound hcall hreg c hro hv1 s fun a1 w1 ι1 F1 s1 e1 => ?_
      have := hq a1 w1 ι1 F1 s1 e1
      simp only [exq, Exit.inBlock]
      rw [nbeq] at this
      by_cases hi : i = id
      · simpa [hi, exq] using this
      · simpa [hi, exq] using this
    · rename_i hne
      refine code_sound hcall hreg c hro hv s fun a1 w1 ι1 F1 s1 e1 => ?_
      have := hq a1 w1 ι1 F1 s1 e1
      cases e with
      | nrm => exact this
      | ext i => exact absurd hv (hne _ _ _)
      | ret => exact this
  | .loop c, ι, F, env, env', h, h', e, a, w, Q, hro, hv, s, hq => by
    simp only [cCode, evC] at hv
    refine wpIn_loop_ix (fun j a' w' => ∃ ι' F' env1 h1, iter (evC call ro (cCode P n c)) j env1 h1 = some (e, env', h') ∧ St P R n b0 ι' F' env1 h1 a' w' ∧ Ev ι F h w ι' F' h1 w') rounds ⟨ι, F, env, h, hv, s, Ev.refl ..⟩ ?_
    rintro j a1 w1 ⟨ι1, F1, env1, h1, hv1, s1, e1⟩
    cases j with
    | zero => simp [iter] at hv1
    | succ j =>
      simp only [iter] at hv1
      have hro1 := hro.mono (e1.le s.rel)
      split at hv1
      · rename_i env2 h2 hv2
        refine code_sound hcall hreg c hro1 hv2 s1 fun a2 w2 ι2 F2 s2 e2 => ?_
        exact ⟨j, Nat.lt_succ_self j, ι2, F2, env2, h2, hv1, s2, e1.trans e2⟩
      · rename_i hne
        refine code_sound hcall hreg c hro1 hv1 s1 fun a2 w2 ι2 F2 s2 e2 => ?_
        have := hq a2 w2 ι2 F2 s2 (e1.trans e2)
        cases e with
        | nrm => exact absurd hv1 (hne _ _)
        | ext i => exact this
        | ret => exact this
  | .rangeFunc g ps asg body, ι, F, env, env', h, h', e, a, w, Q, hro, hv, s, hq => by
    simp only [cCode] at hv
    split at hv
    · rename_i g' hg
      cases hps : ps.toList.all (Nat.blt · n) with
      | false => simp [hps, evC] at hv
      | true =>
        simp only [hps, cond_true, evC] at hv
        have vg := opd_sound hg s.env
        generalize g'.ev env = ag at hv vg
        cases ag <;> first | (simp only at hv; cases hv; done) | skip
        rename_i f fa fb
        simp only at hv
        cases hok : roOk ro h with
        | false => simp [hok] at hv
        | true =>
          simp only [hok, cond_true] at hv
          split at hv
          · rename_i v h1 hcl
            simp only [VR] at vg
            obtain ⟨gid, x, y, hb, hgf, q1, q2⟩ := vg
            refine wpIn_rangeFunc fun fn hfn => ?_
            rw [fen_round]
            obtain ⟨lb, mark, w1, ι1, F1, k1, k2, s1, e1⟩ := enterLoop_sound s hro hok fn ps asg body (by
              intro t ht
              have := List.all_eq_true.1 hps t ht
              simpa [blt_iff] using this)
            have hle := e1.le s.rel
            have vargs : VRs ι1 (fa ++ [.yld h.next] ++ fb) (x ++ [.func (.yield lb) #[] #[]] ++ y) :=
              ((q1.mono hle).append (VRs.cons (by simp only [VR]; exact ⟨_, k2, rfl⟩) VRs.nil)).append (q2.mono hle)
            obtain ⟨hen, hci⟩ := hcall (.it f) _ _ _ _ hcl rb ι1 F1 w1 _ s1.rel vargs gid hgf
            refine ⟨lb, mark, w1, { target := .fn (.func gid) ⟨y⟩, args := ⟨x⟩ ++ #[.func (.yield lb) #[] #[]] }, w1, gid, ⟨x ++ [.func (.yield lb) #[] #[]] ++ y⟩, w1, k1, ?_, fun _ _ => fen_fn rb _, ?_, fen_depth1 rb k, ?_⟩
            · simp only [resolve, rangeCall]
              rw [hb]
              simp [Deferred.ofValue, Act.eval]
            · simpa [invoke] using hen
            · have hm := (hci (k - 1)).mono (R' := rangePost (fen rb) k P lb Q { a with defers := mark ++ a.defers }) (fun en w3 ⟨u, ι3, F3, he, hvr, r3, ev3⟩ => by
                subst he
                have hloc3 : ι3 h.next = some (.at lb 0 0) := by
                  rw [ev3.dom h.next (by simp [Heap.add, Pos.toNat_succ])]; exact k2
                obtain ⟨rfl, jump, w4, g1, g2, g3, g4⟩ := endF_sound r3 hloc3 hv
                have e4 := e1.trans (ev3.trans g4)
                have s4 : St P R n b0 ι3 F3 env' h' { a with defers := mark ++ a.defers } w4 :=
                  ⟨s.env.mono (e4.le s.rel), s.size, g3, s1.marks.ev (ev3.trans g4), Nat.le_trans s.b0 e4.size⟩
                refine ⟨jump, w4, g1, ?_⟩
                have := hq _ _ _ _ s4 e4
                cases e with
                | nrm => simp only [exR] at g2; subst g2; exact this
                | ext i => simp only [exR] at g2; subst g2; exact wpIn_exit this
                | ret => simp only [exR] at g2; subst g2; exact wpIn_ret this)
              cases rb <;> exact hm
          · cases hv
    · simp [evC] at hv
  | .exit id, ι, F, env, env', h, h', e, a, w, Q, hro, hv, s, hq => by
    simp only [cCode, evC, Option.some.injEq, Prod.mk.injEq] at hv
    obtain ⟨rfl, rfl, rfl⟩ := hv
    exact wpIn_exit (hq a w ι F s (Ev.refl ..))
  | .ret, ι, F, env, env', h, h', e, a, w, Q, hro, hv, s, hq => by
    simp only [cCode, evC, Option.some.injEq, Prod.mk.injEq] at hv
    obtain ⟨rfl, rfl, rfl⟩ := hv
    exact wpIn_ret (hq a w ι F s (Ev.refl ..))
  | .goto l, ι, F, env, env', h, h', e, a, w, Q, hro, hv, s, hq => by simp [cCode, evC] at hv
  | .scope c, ι, F, env, env', h, h', e, a, w, Q, hro, hv, s, hq => by simp [cCode, evC] at hv

end Go.Ev
