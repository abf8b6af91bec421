import Derived.Test.YtddcnopjjihmcaaGreatEv8
set_option linter.unusedSectionVars false
set_option linter.unusedVariables false
set_option linter.unusedSimpArgs false
namespace Go.Ev
variable {X : Type} [T : SymT] [V : SymV] {P : Program} {R : XRel X}

theorem liesAt_own {e sz : Nat} (hc : P.cellsOf e = sz) (hsz : 0 < sz) (count k : Nat) (hn : k + 1 ≤ count) : liesAt P P.depth e count (k * sz) e 1 = true := by
  have hd : P.depth = (2 * (P.types.size + Made.depth) + 1) + 1 := rfl
  rw [hd]
  simp only [liesAt, Bool.or_eq_true]
  left
  rw [hd]
  have h1 : k * sz / sz = k := Nat.mul_div_cancel _ hsz
  have h2 : k * sz % sz = 0 := Nat.mul_mod_left _ _
  have h0 : ¬ sz = 0 := by omega
  simp [rowAt, hc, h0, h1, h2, hn, sameLayout]

theorem cellsOf_of {e n : Nat} (h : szOf P e = some n) : P.cellsOf e = n := by
  simp only [szOf, Option.map_eq_some_iff] at h
  obtain ⟨i, hi, he⟩ := h
  simp [Program.cellsOf, hi, he]

theorem u2p_sound {ι : Loc} {F : Foot} {h : Heap X} {w : World} (r : Rel P R ι F h w) {x v : AV} {xv : Value} {s d u : TypeId} {n : Nat} (hv : evU2p h u (n + 1) x = some v) (hx : VR ι x xv)
    (hs : P.underlying s = some .unsafePointer) (hd : P.underlying d = some (.pointer u)) (hn : szOf P u = some (n + 1)) : ∃ u, (convert s d xv).run P w = .ok u w ∧ VR ι v u := by
  cases x <;> first | (simp only [evU2p] at hv; cases hv; done) | skip
  · simp only [evU2p, Option.some.injEq] at hv
    subst hv
    simp only [VR] at hx
    subst hx
    exact ⟨.pointer none, by simp [convert, run_underlying hs, run_underlying hd, Conv.unsafePointer], by simp only [VR]⟩
  · rename_i l o
    cases o with
    | succ o => simp only [evU2p] at hv; cases hv
    | zero =>
    simp only [evU2p] at hv
    split at hv
    · rename_i e cs f hg
      cases hb : Nat.beq e u && Nat.ble (n + 1) cs.length with
      | false => simp [hb] at hv
      | true =>
        simp only [hb, cond_true, Option.some.injEq] at hv
        subst hv
        simp only [Bool.and_eq_true, nbeq, nble, decide_eq_true_eq] at hb
        obtain ⟨rfl, hle⟩ := hb
        have hx' := hx
        simp only [VR] at hx
        obtain ⟨i, hi, rfl⟩ := hx
        obtain ⟨_, arr, fz, pre, vs, post, h1, h2, h3, h4, _, _, h7⟩ := rel_cells r hg hi
        obtain ⟨k, hk⟩ := h7 _ hn
        have hlen : i.base + (n + 1) ≤ arr.size := by
          have e1 := h4.length
          have e2 := congrArg List.length h2
          simp at e2
          omega
        have hcnt : k + 1 ≤ arr.size / (n + 1) := by
          rw [Nat.le_div_iff_mul_le (by omega), Nat.add_mul, ← hk]
          omega
        have hlies := liesAt_own (cellsOf_of hn) (by omega) (arr.size / (n + 1)) k hcnt
        refine ⟨_, ?_, hx'⟩
        have hview : (viewAt i.blk).run P w = .ok none w := by simp [viewAt, shape_of h1]
        rw [← hk] at hlies
        simp [convert, run_underlying hs, run_underlying hd, Conv.unsafePointer, Conv.seenAt, hview, szOf_run hn, variablesAt, shape_of h1, cellsOf_of hn, hlies]
    · cases hv

/-- the last of the seen -/
theorem lastN_spec : ∀ {l : List Nat} {b : Nat}, lastN l = some b → l.getLast? = some b
  | [], b, h => by simp [lastN] at h
  | [a], b, h => by simpa [lastN] using h
  | a :: c :: l, b, h => by
    simp only [lastN] at h
    have := lastN_spec h
    simpa [List.getLast?_cons_cons] using this

theorem efind_sound {ι : Loc} {b : Nat} : ∀ {es : List (Int × AV × Nat)} {l : List MapEntry} {v : AV}, MR ι es l → efind b es = some v →
    ∃ e, l.find? (·.born == b) = some e ∧ VR ι v (.tuple #[e.key, e.val])
  | [], l, v, h, hv => by simp [efind] at hv
  | (k, x, b') :: es, l, v, h, hv => by
    simp only [MR] at h
    obtain ⟨e, rest, rfl, h1, h2, h3, h4⟩ := h
    simp only [efind, nbeq] at hv
    by_cases hb : b = b'
    · subst hb
      simp only [decide_true, cond_true, Option.some.injEq] at hv
      subst hv
      refine ⟨e, by simp [h3], ?_⟩
      simp only [VR]
      exact ⟨[e.key, e.val], rfl, VRs.cons (by simp only [VR]; exact h1) (VRs.cons h2 VRs.nil)⟩
    · simp only [hb, decide_false, cond_false] at hv
      obtain ⟨e', h5, h6⟩ := efind_sound h4 hv
      refine ⟨e', ?_, h6⟩
      rw [List.find?_cons_of_neg (by simp; omega)]
      exact h5

theorem entry_sound {ι : Loc} {F : Foot} {h : Heap X} {w : World} (r : Rel P R ι F h w) {x v : AV} {xv : Value} (hv : evEntry h x = some v) (hx : VR ι x xv) :
    ∃ u, (Instr.entry xv).run P w = .ok u w ∧ VR ι v u := by
  cases x <;> first | (simp only [evEntry] at hv; cases hv; done) | skip
  rename_i l o
  cases o with
  | succ o => simp only [evEntry] at hv; cases hv
  | zero =>
  simp only [evEntry] at hv
  split at hv
  · rename_i m since seen stepped hg
    split at hv
    · rename_i b hb
      split at hv
      · rename_i es clock hm
        rw [nbeq] at hv
        by_cases hc : clock = stepped
        · subst hc
          simp only [decide_true, cond_true] at hv
          simp only [VR] at hx
          obtain ⟨i, hi, rfl⟩ := hx
          obtain ⟨j, hj, ho⟩ := r.obj l _ hg
          rw [hi] at hj
          cases hj
          obtain ⟨_, hbase, m', h1, jm, hjm, rfl⟩ := ho
          obtain ⟨_, ents, h2, h3⟩ := rel_map r hm hjm
          obtain ⟨e, h4, h5⟩ := efind_sound h3 hv
          refine ⟨_, ?_, h5⟩
          have hback : (Array.back? ⟨seen⟩ : Option Nat) = some b := by
            have := lastN_spec hb
            simpa using this
          have hf : ents.find? (·.born == b) = some e := by
            rw [← Array.find?_toList]; exact h4
          simp only [hbase, Nat.zero_add]
          have g1 := run_getObj (P := P) h1 (by simp)
          have g2 := run_getObj (P := P) h2 (by simp)
          simp [Instr.entry, g1, hback, g2, hf]
        · simp [hc] at hv
      · cases hv
    · cases hv
  · cases hv

theorem MR.length {ι : Loc} : ∀ {es : List (Int × AV × Nat)} {l : Array MapEntry}, MR ι es l.toList → es.length = l.size
  | es, ⟨l⟩, h => by
    induction es generalizing l with
    | nil => simp only [MR] at h; subst h; rfl
    | cons e es ih =>
      obtain ⟨k, v, b⟩ := e
      simp only [MR] at h
      obtain ⟨e, rest, rfl, _, _, _, h4⟩ := h
      have := ih rest h4
      simp at this ⊢
      exact this

theorem lenM_sound {ι : Loc} {F : Foot} {h : Heap X} {w : World} (r : Rel P R ι F h w) {m : AV} {mv : Value} {n : Nat} (hm : h.lenM m = some n) (hv : VR ι m mv) :
    (mv = .map none ∧ n = 0) ∨ (∃ b ents clock, mv = .map (some b) ∧ w.heap[b]? = some (.map ents clock) ∧ n = ents.size) := by
  cases m <;> first | (simp only [Heap.lenM] at hm; cases hm; done) | skip
  · simp only [Heap.lenM, Option.some.injEq] at hm
    simp only [VR] at hv
    exact .inl ⟨hv, hm.symm⟩
  · rename_i l
    simp only [Heap.lenM] at hm
    simp only [VR] at hv
    obtain ⟨i, hi, rfl⟩ := hv
    split at hm
    · rename_i es clock hg
      simp only [Option.some.injEq] at hm
      subst hm
      obtain ⟨_, ents, h1, h2⟩ := rel_map r hg hi
      exact .inr ⟨_, ents, clock, rfl, h1, h2.length⟩
    · rename_i es clock hg
      simp only [Option.some.injEq] at hm
      subst hm
      obtain ⟨_, ents, h1, h2⟩ := rel_lmap r hg hi
      refine .inr ⟨_, ents, clock, rfl, h1, ?_⟩
      rw [h2.len]
      simp
    · cases hm

/-- **the operations that read** -/
theorem r_sound {ι : Loc} {F : Foot} {h : Heap X} {env : Env} {a : Act} {o : Oper} {q : ROp} {v : AV} {w : World} (hc : cOpO P o.op = some (.r q)) (hv : evR env h q = some v) (he : EnvR ι env a.tmps) (r : Rel P R ι F h w) :
    ∃ u, (execOp a.eval o).run P w = .ok (.value u) w ∧ VR ι v u := by
  obtain ⟨dst, op, type, pos, after, guard⟩ := o
  have val : ∀ {s : Sem Value} {u : Value}, s.run P w = .ok u w → (do pure (.value (← s)) : Sem Next).run P w = .ok (.value u) w := fun h => by simp [h]
  cases op <;> simp only [cOpO] at hc
  case load t x =>
    split at hc
    · rename_i n hag hsz
      obtain ⟨x', hx', hc⟩ := bind_some hc
      cases hc
      have vx := opd_sound hx' he
      simp only [evR] at hv
      generalize x'.ev env = ax at hv vx
      cases ax <;> first | (simp only [ldA] at hv; cases hv; done) | skip
      simp only [ldA] at hv
      split at hv
      · rename_i cs hcs
        simp only [Option.some.injEq] at hv
        subst hv
        simp only [VR] at vx
        obtain ⟨i, hi, hb⟩ := vx
        obtain ⟨vs, h1, h2⟩ := ld_row r hcs hi
        exact ⟨.agg ⟨vs⟩, by
          simp only [execOp, hb]
          exact val (by simp [Instr.loadAt, Instr.sureAddr, loadVar, aggT_run hag, szOf_run hsz, h1]), by simp only [VR]; exact ⟨vs, rfl, h2⟩⟩
      · cases hv
    · rename_i hag hsz
      obtain ⟨x', hx', hc⟩ := bind_some hc
      cases hc
      have vx := opd_sound hx' he
      simp only [evR] at hv
      generalize x'.ev env = ax at hv vx
      cases ax <;> first | (simp only [ldS] at hv; cases hv; done) | skip
      simp only [ldS] at hv
      split at hv
      · rename_i e cs f hg
        simp only [VR] at vx
        obtain ⟨i, hi, hb⟩ := vx
        obtain ⟨u, h1, h2⟩ := ld_cell r hg hi hv
        exact ⟨u, by
          simp only [execOp, hb]
          exact val (by simp [Instr.loadAt, Instr.sureAddr, loadVar, aggT_run hag, h1]), h2⟩
      · cases hv
    · cases hc
  case convert s d x =>
    obtain ⟨x', hx', hc⟩ := bind_some hc
    have hc : cConv P s d x' = .r q := Option.some.inj hc
    have vx := opd_sound hx' he
    simp only [cConv] at hc
    split at hc
    · cases hc
    · cases hc
    · split at hc <;> cases hc
    · rename_i e hs hd
      split at hc
      · rename_i hel
        cases hc
        simp only [evR] at hv
        obtain ⟨u, h1, h2⟩ := b2s_sound r hv vx
        refine ⟨u, ?_, h2⟩
        simp only [execOp]
        refine val ?_
        generalize x'.ev env = ax at hv vx
        generalize a.eval x = bx at vx h1
        cases ax <;> first | (simp only [evB2s] at hv; cases hv; done) | skip
        · simp only [VR] at vx
          subst vx
          rw [run_convert_bytes_string w s d e _ _ _ hs hel hd]
          exact h1
        · simp only [VR] at vx
          obtain ⟨i, hi, cap, rfl, _⟩ := vx
          rw [run_convert_bytes_string w s d e _ _ _ hs hel hd]
          exact h1
      · cases hc
    · rename_i t hs hd
      split at hc
      · rename_i n hn
        cases hc
        simp only [evR] at hv
        obtain ⟨u, h1, h2⟩ := p2u_sound r hv vx hs hd hn
        exact ⟨u, by simp only [execOp]; exact val h1, h2⟩
      · cases hc
    · rename_i t hs hd
      split at hc
      · rename_i n hn
        cases hc
        simp only [evR] at hv
        obtain ⟨u, h1, h2⟩ := u2p_sound r hv vx hs hd hn
        exact ⟨u, by simp only [execOp]; exact val h1, h2⟩
      · cases hc
    · cases hc
  case lookup t m k ok =>
    split at hc
    · rename_i e ht
      obtain ⟨z, hz, hc⟩ := bind_some hc
      obtain ⟨m', hm', hc⟩ := bind_some hc
      obtain ⟨k', hk', hc⟩ := bind_some hc
      cases hc
      simp only [evR] at hv
      obtain ⟨it, zv, h1, h2, h3⟩ := zeroOf_run hz
      obtain ⟨u, h4, h5⟩ := look_sound r hv (opd_sound hm' he) (opd_sound hk' he) ht h1 h2 h3
      exact ⟨u, by simp only [execOp]; exact val h4, h5⟩
    · cases hc
  case entry x =>
    obtain ⟨x', hx', hc⟩ := bind_some hc
    cases hc
    simp only [evR] at hv
    obtain ⟨u, h1, h2⟩ := entry_sound r hv (opd_sound hx' he)
    exact ⟨u, by simp only [execOp]; exact val h1, h2⟩
  case call c =>
    obtain ⟨callee, args, ats⟩ := c
    cases callee with
    | invoke r m => cases hc
    | value f =>
      cases f
      case func g =>
        replace hc : (do pure (IOp.call (Pos.of g) (← cOpds args.toList))) = some (IOp.r q) := hc
        obtain ⟨_, _, hc⟩ := bind_some hc
        cases hc
      all_goals
        (replace hc : (do pure (IOp.callv (← cOpd _) (← cOpds args.toList))) = some (IOp.r q) := hc)
        (obtain ⟨_, _, hc⟩ := bind_some hc)
        (obtain ⟨_, _, hc⟩ := bind_some hc)
        cases hc
    | builtin b =>
      replace hc : (do pure (cBuiltin P b ats.toList (← cOpds args.toList))) = some (IOp.r q) := hc
      obtain ⟨as, has, hc⟩ := bind_some hc
      replace hc : cBuiltin P b ats.toList as = .r q := Option.some.inj hc
      have vs := opds_sound he has
      have hb : ∀ {u : Value}, (builtin b ats type (args.map fun | .const _ => true | _ => false) (args.map a.eval)).run P w = .ok (.value u) w →
          (execOp a.eval ⟨dst, .call ⟨.builtin b, args, ats⟩, type, pos, after, guard⟩).run P w = .ok (.value u) w := fun h => by
        simp only [execOp, resolve, Sem.run_bind, Sem.run_pure, Result.andThen_ok, invoke]
        exact h
      have argl : ∀ {l : List Value}, args.toList.map a.eval = l → args.map a.eval = ⟨l⟩ := fun h => by apply Array.ext'; simp [h]
      have atl : ∀ {t : TypeId} {l : List TypeId}, ats.toList = t :: l → ats[0]? = some t := fun h => by
        rw [← Array.getElem?_toList, h]; rfl
      simp only [cBuiltin] at hc
      split at hc
      · rename_i t ts x hats _
        obtain ⟨vx, vs', e, h1, h2⟩ := VRs.cons_inv vs
        have := VRs.nil_inv h2
        subst this
        have hargs := argl e
        split at hc
        · cases hc
        · cases hc
        · cases hc
        · rename_i kt e' ht
          cases hc
          simp only [evR, evLenM] at hv
          split at hv
          · rename_i m hes
            simp only [Option.some.injEq] at hv
            subst hv
            rcases lenM_sound r hes h1 with ⟨rfl, rfl⟩ | ⟨b, ents, clock, rfl, hbb, rfl⟩
            · exact ⟨goInt 0, hb (by simp [builtin, Builtin.len_, hargs, atl hats, run_underlying ht]), by simp only [VR, goInt]; rfl⟩
            · have g1 := run_getObj (P := P) hbb (by simp)
              refine ⟨goInt ents.size, hb (by simp [builtin, Builtin.len_, hargs, atl hats, run_underlying ht, g1]), ?_⟩
              simp only [VR, goInt]
              rfl
          · cases hv
        · split at hc <;> cases hc
        · cases hc
      · split at hc <;> cases hc
      · split at hc <;> cases hc
      · split at hc <;> cases hc
      · split at hc
        · cases hc
        · split at hc <;> cases hc
        · cases hc
      · split at hc <;> cases hc
      · cases hc
      · cases hc
      · rename_i ts x hats
        cases hc
        obtain ⟨vx, vs', e, h1, h2⟩ := VRs.cons_inv vs
        have := VRs.nil_inv h2
        subst this
        have hargs := argl e
        simp only [evR] at hv
        obtain ⟨u, h3, h4⟩ := sdata_sound hv h1 ats type w
        exact ⟨u, hb (by
          simp only [builtin, hargs]
          exact val h3), h4⟩
      · split at hc
        · split at hc <;> cases hc
        · cases hc
      · cases hc
  all_goals
    ((repeat' (first | (split at hc) | (obtain ⟨_, _, hc⟩ := bind_some hc))) <;> first | (cases hc; done) | contradiction | skip)

end Go.Ev
