import Derived.Test.YtddcnopjjihmcaaGreatEv17
set_option linter.unusedSectionVars false
set_option linter.unusedVariables false
set_option linter.unusedSimpArgs false
namespace Go.Ev
variable {X : Type} [T : SymT] [V : SymV] {P : Program} {R : XRel X}

/-! ### results -/
def resM (tmps : Array Value) : ResultVar → Sem Value
  | .tmp t => pure (tmps.getD t undef)
  | .cell a t => do loadVar t (← asAddr (tmps.getD a undef))

theorem res1_sound {ι : Loc} {F : Foot} {env : Env} {h : Heap X} {w : World} {tmps : Array Value} (r : Rel P R ι F h w) (he : EnvR ι env tmps) {x : ResultVar} {rv : List ResultVar} {rs : List IRes} (hc : cRes P (x :: rv) = some rs) :
    ∃ q rs', rs = q :: rs' ∧ cRes P rv = some rs' ∧ ∀ v, resOf env h q = some v → ∃ u, (resM tmps x).run P w = .ok u w ∧ VR ι v u := by
  cases x with
  | tmp t =>
    simp only [cRes, Option.map_eq_some_iff] at hc
    obtain ⟨rs', hrs, rfl⟩ := hc
    refine ⟨_, rs', rfl, hrs, fun v hv => ?_⟩
    simp only [resOf, Option.some.injEq] at hv
    subst hv
    exact ⟨_, rfl, he t⟩
  | cell a t =>
    have va := he a
    simp only [cRes] at hc
    split at hc
    · rename_i n hag hsz
      simp only [Option.map_eq_some_iff] at hc
      obtain ⟨rs', hrs, rfl⟩ := hc
      refine ⟨_, rs', rfl, hrs, fun v hv => ?_⟩
      simp only [resOf] at hv
      generalize Opd.ev env (.t (Pos.of a)) = av at hv va
      cases av <;> first | (simp only [ldA] at hv; cases hv; done) | skip
      simp only [ldA] at hv
      split at hv
      · rename_i cs hcs
        simp only [Option.some.injEq] at hv
        subst hv
        simp only [VR] at va
        obtain ⟨i, hi, hb⟩ := va
        obtain ⟨ws, k1, k2⟩ := ld_row r hcs hi
        refine ⟨.agg ⟨ws⟩, ?_, by simp only [VR]; exact ⟨ws, rfl, k2⟩⟩
        simp only [resM, hb]
        simp [asAddr, loadVar, aggT_run hag, szOf_run hsz, k1]
      · cases hv
    · rename_i hag hsz
      simp only [Option.map_eq_some_iff] at hc
      obtain ⟨rs', hrs, rfl⟩ := hc
      refine ⟨_, rs', rfl, hrs, fun v hv => ?_⟩
      simp only [resOf] at hv
      generalize Opd.ev env (.t (Pos.of a)) = av at hv va
      cases av <;> first | (simp only [ldS] at hv; cases hv; done) | skip
      simp only [ldS] at hv
      split at hv
      · rename_i e cs f hg
        simp only [VR] at va
        obtain ⟨i, hi, hb⟩ := va
        obtain ⟨u, k1, k2⟩ := ld_cell r hg hi hv
        refine ⟨u, ?_, k2⟩
        simp only [resM, hb]
        simp [asAddr, loadVar, aggT_run hag, k1]
      · cases hv
    · cases hc

theorem res_sound {ι : Loc} {F : Foot} {env : Env} {h : Heap X} {w : World} {tmps : Array Value} (r : Rel P R ι F h w) (he : EnvR ι env tmps) : ∀ {rv : List ResultVar} {rs : List IRes} {vs : List AV}, cRes P rv = some rs → ress env h rs = some vs →
    ∃ us, (rv.mapM (resM tmps)).run P w = .ok us w ∧ VRs ι vs us
  | [], rs, vs, hc, hv => by
    simp only [cRes, Option.some.injEq] at hc
    subst hc
    simp only [ress, Option.some.injEq] at hv
    subst hv
    exact ⟨[], by simp, VRs.nil⟩
  | x :: rv, rs, vs, hc, hv => by
    obtain ⟨q, rs', rfl, hrs, hone⟩ := res1_sound r he hc
    simp only [ress] at hv
    split at hv
    · rename_i v hv1
      split at hv
      · rename_i vs' hvs
        simp only [Option.some.injEq] at hv
        subst hv
        obtain ⟨us, g1, g2⟩ := res_sound r he hrs hvs
        obtain ⟨u, g3, g4⟩ := hone v hv1
        exact ⟨u :: us, by simp [List.mapM_cons, g1, g3], VRs.cons g4 g2⟩
      · cases hv
    · cases hv

theorem tupOf_sound {ι : Loc} {vs : List AV} {us : List Value} (h : VRs ι vs us) : VR ι (tupOf vs) (if h : (⟨us⟩ : Array Value).size = 1 then (⟨us⟩ : Array Value)[0] else .tuple ⟨us⟩) := by
  have hl := h.length
  cases vs with
  | nil =>
    have := VRs.nil_inv h
    subst this
    simp only [tupOf, VR]
    exact ⟨[], rfl, VRs.nil⟩
  | cons a vs =>
    obtain ⟨u, us', rfl, h1, h2⟩ := VRs.cons_inv h
    cases vs with
    | nil =>
      have := VRs.nil_inv h2
      subst this
      simpa [tupOf] using h1
    | cons b vs =>
      obtain ⟨u2, us2, rfl, h3, h4⟩ := VRs.cons_inv h2
      simp only [tupOf, VR]
      exact ⟨u :: u2 :: us2, by simp, h⟩

theorem results_sound {ι : Loc} {F : Foot} {env : Env} {h : Heap X} {w : World} {tmps : Array Value} (r : Rel P R ι F h w) (he : EnvR ι env tmps) {fn : Func} {rs : List IRes} {vs : List AV} (hc : cRes P fn.results.toList = some rs) (hv : ress env h rs = some vs) :
    ∃ u, (results fn tmps).run P w = .ok u w ∧ VR ι (tupOf vs) u := by
  obtain ⟨us, g1, g2⟩ := res_sound r he hc hv
  refine ⟨_, ?_, tupOf_sound g2⟩
  have hdef : results fn tmps = (do
      let vs ← fn.results.mapM (resM tmps)
      pure (if h : vs.size = 1 then vs[0] else .tuple vs)) := by
    unfold results
    congr 1
  rw [hdef, Array.mapM_eq_mapM_toList]
  simp [g1]

/-- a function's frame on its way out: its marks are taken off -/
theorem leaves_marks {fn : Func} {tmps : Array Value} {n : Nat} {Rz : Ending → World → Prop} : ∀ (rs : List Nat) (w : World), (∀ r ∈ rs, w.heap[r]? = some (.deferred (some []))) → rs.Nodup →
    (∀ w', w'.heap.size = w.heap.size → (∀ b, b ∉ rs → w'.heap[b]? = w.heap[b]?) → (w'.os = w.os ∧ w'.output = w.output) → ∃ v, (results fn tmps).run P w' = .ok v w' ∧ Rz (.returned v) w') → LeavesInM Fence.wide n P fn tmps Rz (rs.map mkD) .returning w
  | [], w, _, _, hr => by
    obtain ⟨v, h1, h2⟩ := hr w rfl (fun _ _ => rfl) ⟨rfl, rfl⟩
    exact ⟨v, h1, h2⟩
  | r :: rs, w, hd, hn, hr => by
    have hr0 := hd r (List.mem_cons_self ..)
    obtain ⟨n1, n2⟩ := List.nodup_cons.1 hn
    have hlt := (Array.getElem?_eq_some_iff.1 hr0).1
    refine ⟨by simp, .inl ⟨r, _, rfl, run_takeDeferred hr0, ?_⟩⟩
    have hput : ∀ b, b ≠ r → (w.putObj r (.deferred none)).heap[b]? = w.heap[b]? := fun b hb => by
      simp [World.putObj, Ne.symm hb]
    have hsz : (w.putObj r (.deferred none)).heap.size = w.heap.size := by simp [World.putObj]
    refine leaves_marks rs _ (fun r' hr' => ?_) n2 fun w' h1 h2 h3 => hr w' (h1.trans hsz) (fun b hb => ?_) ⟨h3.1, h3.2⟩
    · rw [hput r' (fun e => n1 (e ▸ hr'))]
      exact hd r' (List.mem_cons_of_mem _ hr')
    · simp only [List.mem_cons, not_or] at hb
      rw [h2 b hb.2, hput b hb.1]

theorem args0_get : ∀ (vs : List AV) (p : Pos) (env : Env) (q : Pos), (args0 p vs env).get q = (if p.toNat ≤ q.toNat ∧ q.toNat < p.toNat + vs.length then vs[q.toNat - p.toNat]? else env.get q)
  | [], p, env, q => by
    simp only [args0, List.length_nil]
    rw [if_neg (by omega)]
  | v :: vs, p, env, q => by
    simp only [args0, List.length_cons]
    rw [args0_get vs p.succ _ q, Pos.toNat_succ]
    by_cases h1 : p.toNat + 1 ≤ q.toNat ∧ q.toNat < p.toNat + 1 + vs.length
    · rw [if_pos h1, if_pos (by omega)]
      rw [show q.toNat - p.toNat = (q.toNat - (p.toNat + 1)) + 1 by omega]
      simp
    · rw [if_neg h1]
      by_cases h2 : q = p
      · subst h2
        rw [PT.get_put_same, if_pos (by omega)]
        simp
      · rw [PT.get_put_other _ _ _ _ h2]
        have hne : q.toNat ≠ p.toNat := fun e => h2 (Pos.toNat_inj e)
        rw [if_neg (by omega)]

theorem nth_get : ∀ {l : List AV} {n : Nat} (h : n < l.length), nth n l = some l[n]
  | _ :: _, 0, _ => rfl
  | _ :: l, n + 1, h => by
    simp only [nth, List.getElem_cons_succ]
    exact nth_get (by simpa using h)

theorem args0_sound {ι : Loc} {args : List AV} {argvs : List Value} (h : VRs ι args argvs) (n : Nat) : EnvR ι (args0 .H args .lf) ((⟨argvs⟩ : Array Value) ++ Array.replicate n undef) := by
  intro t
  have hl := h.length
  simp only [Opd.ev, args0_get, Pos.toNat_of, show Pos.H.toNat = 1 from rfl]
  rw [Array.getD_eq_getD_getElem?]
  by_cases ht : t < args.length
  · rw [if_pos (by omega), show t + 1 - 1 = t by omega]
    rw [List.getElem?_eq_getElem ht]
    have hnth : nth t args = some args[t] := nth_get ht
    obtain ⟨y, hy, hr⟩ := h.get hnth
    rw [Array.getElem?_append_left (by simpa [← hl] using ht)]
    simp only [List.getElem?_toArray, hy, Option.getD_some]
    exact hr
  · rw [if_neg (by omega), PT.get_lf]
    have : (((⟨argvs⟩ : Array Value) ++ Array.replicate n undef)[t]?).getD undef = undef := by
      rw [Array.getElem?_append_right (by simp; omega)]
      rw [Array.getElem?_replicate]
      split <;> rfl
    rw [this]
    exact VR.undef ι

/-- **a call of a function** -/
theorem enter_sound {call : CallF X} (hcall : CallOk P R call) (hreg : RegionOk P R call) {g : FuncId} {fn : Func} {fi : IFunc} (hf : P.funcs[g]? = some fn) (hc : cFunc P fn = some fi) {args : List AV} {argvs : List Value} {h h' : Heap X} {v : AV} (hl : args.length = fi.nargs)
    (hv : enterF call fi args h = some (v, h')) {ι : Loc} {F : Foot} {w : World} (r : Rel P R ι F h w) (ha : VRs ι args argvs) (k : Nat) : CallsIn Fence.wide k P g ⟨argvs⟩ w (EndOk P R ι F h w v h') := by
  simp only [cFunc] at hc
  split at hc
  · rename_i c rs hb hrs
    cases hn : Nat.ble (fn.params.size + fn.nfree) fn.ntmps with
    | false => simp [hn] at hc
    | true =>
      simp only [hn, cond_true, Option.some.injEq] at hc
      subst hc
      simp only [nble, decide_eq_true_eq] at hn
      simp only at hl hv
      have hal := ha.length
      refine callsIn_of_wp_marks hf hb trivial ?_
      have hs : St P R fn.ntmps w.heap.size ι F (args0 .H args .lf) h { tmps := (⟨argvs⟩ : Array Value) ++ Array.replicate (fn.ntmps - (⟨argvs⟩ : Array Value).size) undef, defers := [] } w :=
        ⟨args0_sound ha _, by simp; omega, r, ⟨[], rfl, List.nodup_nil, fun _ h => (by cases h)⟩, Nat.le_refl _⟩
      unfold enterF at hv
      split at hv
      · cases hv
      · rename_i e env1 h1 hne hev
        split at hv
        · rename_i vs hvs
          simp only [Option.some.injEq, Prod.mk.injEq] at hv
          obtain ⟨rfl, rfl⟩ := hv
          have key : ∀ (a' : Act) (w' : World) (ι' : Loc) (F' : Foot), St P R fn.ntmps w.heap.size ι' F' env1 h1 a' w' → Ev ι F h w ι' F' h1 w' → LeavesInM Fence.wide k P fn a'.tmps (EndOk P R ι F h w (tupOf vs) h1) a'.defers .returning w' := by
            intro a' w' ι' F' s' e'
            obtain ⟨marks, m1, m2, m3⟩ := s'.marks
            rw [m1]
            refine leaves_marks marks w' (fun r hr => (m3 r hr).2.1) m2 fun w'' g1 g2 gio => ?_
            have hout : ∀ b, (∃ l o, h1.m.get l = some o ∧ F' l b) → w''.heap[b]? = w'.heap[b]? := fun b ⟨l, o, hlo, hb⟩ => g2 b fun hm => (m3 b hm).2.2 l o hlo hb
            have r'' := s'.rel.out hout
            obtain ⟨u, q1, q2⟩ := results_sound r'' s'.env hrs hvs
            refine ⟨u, q1, u, ι', F', rfl, q2, r'', e'.out (by omega) fun b hb => g2 b fun hm => ?_⟩
            have := (m3 b hm).1
            omega
          have := code_sound hcall hreg (k := k) (rb := none) (Q := bodyPostM Fence.wide k P fn (EndOk P R ι F h w (tupOf vs) h1)) c (ro := none) rfl hev hs (fun a' w' ι' F' s' e' => by
            cases e with
            | nrm => exact key a' w' ι' F' s' e'
            | ret => exact key a' w' ι' F' s' e'
            | ext id => exact absurd rfl (hne id))
          exact this
        · cases hv
      · cases hv
  · cases hc

theorem zipSet_sound {ι : Loc} : ∀ {ps : List Tmp} {args : List AV} {argvs : List Value} {env env' : Env} {tmps : Array Value}, EnvR ι env tmps → (∀ t ∈ ps, t < tmps.size) → VRs ι args argvs → zipSet (ps.map Pos.of) args env = some env' →
    ps.length = argvs.length ∧ EnvR ι env' ((ps.zip argvs).foldl (fun tmps (p : Tmp × Value) => tmps.setIfInBounds p.1 p.2) tmps) ∧ ((ps.zip argvs).foldl (fun tmps (p : Tmp × Value) => tmps.setIfInBounds p.1 p.2) tmps).size = tmps.size
  | [], [], argvs, env, env', tmps, he, _, ha, hz => by
    have := VRs.nil_inv ha
    subst this
    simp only [List.map_nil, zipSet, Option.some.injEq] at hz
    subst hz
    exact ⟨rfl, by simpa using he, by simp⟩
  | [], _ :: _, _, _, _, _, _, _, _, hz => by simp [zipSet] at hz
  | _ :: _, [], _, _, _, _, _, _, _, hz => by simp [zipSet] at hz
  | p :: ps, v :: args, argvs, env, env', tmps, he, hp, ha, hz => by
    obtain ⟨u, us, rfl, h1, h2⟩ := VRs.cons_inv ha
    simp only [List.map_cons, zipSet] at hz
    obtain ⟨g1, g2, g3⟩ := zipSet_sound (he.put h1 (hp p (List.mem_cons_self ..))) (fun t ht => by simpa using hp t (List.mem_cons_of_mem _ ht)) h2 hz
    refine ⟨by simp [g1], by simpa using g2, ?_⟩
    simp only [List.zip_cons_cons, List.foldl_cons]
    rw [g3]
    simp

theorem fen_inRound (ro : Option Nat) (b : Nat) : (fen ro).inRound b = fen (some b) := by cases ro <;> rfl

theorem endR_sound {ι : Loc} {F : Foot} {h h' : Heap X} {w : World} {l : Pos} {e : Ex} {v : AV} {i : LocI} (r : Rel P R ι F h w) (hi : ι l = some i) (hv : endR l e h = some (v, h')) (jump : Option Code) (hj : exR e jump) :
    ∃ w' u, (Instr.endRound i.blk jump).run P w = .ok u w' ∧ VR ι v u ∧ Rel P R ι F h' w' ∧ Ev ι F h w ι F h' w' := by
  unfold endR at hv
  split at hv
  · rename_i st pend env ps asg body hg
    obtain ⟨hF, L, h1, h2, h3, h4, h5, h6, h7, h8⟩ := rel_loop r hg hi
    have hlt := (Array.getElem?_eq_some_iff.1 h1).1
    have key : ∀ (st' : LSt) (sv : LoopState), stR st' sv → Rel P R ι F (h.upd l (.loop st' e env ps asg body)) { w with heap := w.heap.setIfInBounds i.blk (.loop { L with state := sv, pending := jump }) } ∧
        Ev ι F h w ι F (h.upd l (.loop st' e env ps asg body)) { w with heap := w.heap.setIfInBounds i.blk (.loop { L with state := sv, pending := jump }) } := by
      intro st' sv hs
      refine rel_upd r _ hg hi (by simp) (fun b hb => ?_) ⟨hF, { L with state := sv, pending := jump }, ?_, hs, hj, h4, h5, h6, h7, h8⟩
      · have : b ≠ i.blk := fun e => hb ((hF b).2 e)
        simp [Ne.symm this]
      · simp [hlt]
    have run : ∀ (L' : Loop), (setObj i.blk (.loop L')).run P w = .ok () { w with heap := w.heap.setIfInBounds i.blk (.loop L') } := fun L' => run_setObj (P := P) (.loop L') h1 (by simp)
    cases e with
    | nrm =>
      simp only [Option.some.injEq, Prod.mk.injEq] at hv
      obtain ⟨rfl, rfl⟩ := hv
      simp only [exR] at hj
      subst hj
      obtain ⟨k1, k2⟩ := key .ready .ready trivial
      exact ⟨_, .bool true, by simp [Instr.endRound, run_getLoop h1, run], by simp only [VR], k1, k2⟩
    | ext id =>
      simp only [Option.some.injEq, Prod.mk.injEq] at hv
      obtain ⟨rfl, rfl⟩ := hv
      simp only [exR] at hj
      subst hj
      obtain ⟨k1, k2⟩ := key .done .done trivial
      exact ⟨_, .bool false, by simp [Instr.endRound, run_getLoop h1, run], by simp only [VR], k1, k2⟩
    | ret =>
      simp only [Option.some.injEq, Prod.mk.injEq] at hv
      obtain ⟨rfl, rfl⟩ := hv
      simp only [exR] at hj
      subst hj
      obtain ⟨k1, k2⟩ := key .done .done trivial
      exact ⟨_, .bool false, by simp [Instr.endRound, run_getLoop h1, run], by simp only [VR], k1, k2⟩
  · cases hv

/-- **a round of a range over a function** -/
theorem round_sound {call : CallF X} (hcall : CallOk P R call) (hreg : RegionOk P R call) {l : Pos} {args : List AV} {argvs : List Value} {h h' : Heap X} {v : AV} (hv : roundF call l args h = some (v, h')) {ro : Option Nat} {ι : Loc} {F : Foot} {w : World} {i : LocI}
    (r : Rel P R ι F h w) (ha : VRs ι args argvs) (hi : ι l = some i) : UponOk P R ro ι F h w v h' ((Instr.yield i.blk ⟨argvs⟩).run P w) := by
  unfold roundF at hv
  split at hv
  · rename_i st0 j0 env ps asg body hg
    obtain ⟨hF, L, h1, h2, h3, h4, h5, h6, h7, h8⟩ := rel_loop r hg hi
    subst h5 h7 h8
    split at hv
    · rename_i env' hz
      obtain ⟨q1, q2, q3⟩ := zipSet_sound h4 h6 ha hz
      split at hv
      · rename_i env2 hp1 hv1
        split at hv
        · rename_i j3 env3 ps3 asg3 body3 hg3
          split at hv
          · rename_i e env4 hp2 hv2
            have hzip : (L.params.zip ⟨argvs⟩).foldl (fun tmps (p : Tmp × Value) => tmps.setIfInBounds p.1 p.2) L.tmps = (L.params.toList.zip argvs).foldl (fun tmps (p : Tmp × Value) => tmps.setIfInBounds p.1 p.2) L.tmps := by
              rw [← Array.foldl_toList, Array.toList_zip]
            have hyield : (Instr.yield i.blk ⟨argvs⟩).run P w = .ok (.round i.blk L.fn ((L.params.toList.zip argvs).foldl (fun tmps (p : Tmp × Value) => tmps.setIfInBounds p.1 p.2) L.tmps) L.assign L.body) w := by
              have hs : ¬ ((⟨argvs⟩ : Array Value).size ≠ L.params.size) := by
                have : L.params.toList.length = L.params.size := by simp
                simp
                omega
              simp only [Instr.yield, Sem.run_bind, run_getLoop h1, Result.andThen_ok, hs, if_false, Sem.run_pure, hzip]
            rw [hyield]
            intro n o a next Q hn
            rw [Oper.uponIn_round]
            refine ⟨fen_depth1 ro n, roundIn_of_wpIn (fen_fn ro _) ?_⟩
            rw [fen_inRound]
            have hs : St P R L.tmps.size w.heap.size ι F env' h { tmps := (L.params.toList.zip argvs).foldl (fun tmps (p : Tmp × Value) => tmps.setIfInBounds p.1 p.2) L.tmps, defers := [] } w :=
              ⟨q2, q3, r, ⟨[], rfl, List.nodup_nil, fun _ h => (by cases h)⟩, Nat.le_refl _⟩
            refine code_sound hcall hreg (ro := some l) L.assign ⟨i, hi, rfl⟩ hv1 hs fun a1 w1 ι1 F1 s1 e1 => ?_
            have hi1 : ι1 l = some i := (e1.le r) _ _ hi
            obtain ⟨hF1, L1, k1, k2, k3, k4, k5, k6, k7, k8⟩ := rel_loop s1.rel hg3 hi1
            have hlt1 := (Array.getElem?_eq_some_iff.1 k1).1
            have hready : L1.state = .ready := by
              cases hs1 : L1.state <;> rw [hs1] at k2 <;> first | rfl | exact absurd k2 id
            obtain ⟨m1, m2⟩ := rel_upd s1.rel (.loop .busy j3 env3 ps3 asg3 body3) hg3 hi1 (w' := { w1 with heap := w1.heap.setIfInBounds i.blk (.loop { L1 with state := .busy }) }) (by simp) (fun b hb => by
                have : b ≠ i.blk := fun e => hb ((hF1 b).2 e)
                simp [Ne.symm this]) ⟨hF1, { L1 with state := .busy }, by simp [hlt1], trivial, k3, k4, k5, k6, k7, k8⟩
            refine ⟨{ w1 with heap := w1.heap.setIfInBounds i.blk (.loop { L1 with state := .busy }) }, ?_, ?_⟩
            · have hso := run_setObj (P := P) (.loop { L1 with state := .busy }) k1 (by simp)
              simp [Instr.beginRound, run_getLoop k1, hso, hready]
            · have s2 : St P R L.tmps.size w.heap.size ι1 F1 env2 (hp1.upd l (.loop .busy j3 env3 ps3 asg3 body3)) a1 { w1 with heap := w1.heap.setIfInBounds i.blk (.loop { L1 with state := .busy }) } :=
                ⟨s1.env, s1.size, m1, s1.marks.ev m2, by simpa using s1.b0⟩
              refine code_sound hcall hreg (ro := some l) L.body ⟨i, hi1, rfl⟩ hv2 s2 fun a2 w2 ι2 F2 s3 e3 => ?_
              have e13 := e1.trans (m2.trans e3)
              have hi2 : ι2 l = some i := (e13.le r) _ _ hi
              cases e with
              | nrm =>
                obtain ⟨w', u, x1, x2, x3, x4⟩ := endR_sound s3.rel hi2 hv none rfl
                exact ⟨u, w', x1, hn u w' ι2 F2 x2 x3 (e13.trans x4)⟩
              | ext id =>
                obtain ⟨w', u, x1, x2, x3, x4⟩ := endR_sound s3.rel hi2 hv (some (.exit id)) rfl
                exact ⟨u, w', x1, hn u w' ι2 F2 x2 x3 (e13.trans x4)⟩
              | ret =>
                obtain ⟨w', u, x1, x2, x3, x4⟩ := endR_sound s3.rel hi2 hv (some .ret) rfl
                exact ⟨u, w', x1, hn u w' ι2 F2 x2 x3 (e13.trans x4)⟩
          · cases hv
        · cases hv
      · cases hv
    · cases hv
  · cases hv

/-- the table holds the program's functions -/
def TabOk (P : Program) (tab : Pos → Option IFunc) : Prop :=
  ∀ (g : FuncId) (fi : IFunc), tab (Pos.of g) = some fi → ∃ fn, P.funcs[g]? = some fn ∧ cFunc P fn = some fi ∧ ∀ args w, (callFunc g args).run P w = .ok (.enter g args) w

/-- what is answered without a walk is answered rightly -/
def PrimOk (P : Program) (R : XRel X) (prim : Pos → Option (List AV → Heap X → Option (AV × Heap X))) : Prop :=
  ∀ (g : FuncId) (p : List AV → Heap X → Option (AV × Heap X)), prim (Pos.of g) = some p → ∀ args h v h', p args h = some (v, h') → ∀ (ro : Option Nat) (ι : Loc) (F : Foot) (w : World) (argvs : List Value), Rel P R ι F h w → VRs ι args argvs →
    UponOk P R ro ι F h w v h' ((callFunc g ⟨argvs⟩).run P w)

theorem step_ok {tab : Pos → Option IFunc} {prim : Pos → Option (List AV → Heap X → Option (AV × Heap X))} (ht : TabOk P tab) (hp : PrimOk P R prim) {call : CallF X} (hcall : CallOk P R call) (hreg : RegionOk P R call) : CallOk P R (step tab prim call) := by
  intro c args h v h' hv ro ι F w argvs r ha
  cases c with
  | fn f =>
    intro g hgf
    subst hgf
    simp only [step] at hv
    split at hv
    · rename_i p hpr
      exact hp g p hpr args h v h' hv ro ι F w argvs r ha
    · split at hv
      · rename_i fi hfi
        rw [nbeq] at hv
        by_cases hl : args.length = fi.nargs
        · simp only [hl, decide_true, cond_true] at hv
          obtain ⟨fn, h1, h2, h3⟩ := ht g fi hfi
          rw [h3]
          exact UponOk.enter fun k => enter_sound hcall hreg h1 h2 hl hv r ha k
        · simp [hl] at hv
      · cases hv
  | it f =>
    intro g hgf
    subst hgf
    simp only [step] at hv
    split at hv
    · rename_i fi hfi
      rw [nbeq] at hv
      by_cases hl : args.length = fi.nargs
      · simp only [hl, decide_true, cond_true] at hv
        obtain ⟨fn, h1, h2, h3⟩ := ht g fi hfi
        exact ⟨h3 _ w, fun k => enter_sound hcall hreg h1 h2 hl hv r ha k⟩
      · simp [hl] at hv
    · cases hv
  | rnd l =>
    intro i hi
    simp only [step] at hv
    exact round_sound hcall hreg hv r ha hi

end Go.Ev
