import Derived.Test.YtddcnopjjihmcaaGreatEv12
set_option linter.unusedSectionVars false
set_option linter.unusedVariables false
set_option linter.unusedSimpArgs false
namespace Go.Ev
variable {X : Type} [T : SymT] [V : SymV] {P : Program} {R : XRel X}

theorem lies_bytes {e : TypeId} (hc : P.cellsOf e = 1) (count off n : Nat) (hn : off + n ≤ count) : liesAt P P.depth e count off e n = true := by
  have hd : P.depth = (2 * (P.types.size + Made.depth) + 1) + 1 := rfl
  rw [hd]
  simp only [liesAt, Bool.or_eq_true]
  left
  rw [hd]
  have h1 : off % 1 = 0 := Nat.mod_one _
  simp [rowAt, hc, hn, sameLayout, h1]

theorem loadBytes_run (w : World) {b : Nat} : ∀ (s : List Nat) (o : Nat) (acc : ByteArray), (∀ j x, s[j]? = some x → w.cell? ⟨b, o + j, none⟩ = some (.int .u8 (Int.ofNat x))) → (∀ x ∈ s, x < 256) →
    (loadBytes ⟨b, o, none⟩ acc s.length).run P w = .ok ⟨acc.data ++ (s.map UInt8.ofNat).toArray⟩ w
  | [], o, acc, _, _ => by simp [loadBytes]
  | x :: s, o, acc, h, hb => by
    have h0 : w.cell? ⟨b, o, none⟩ = some (.int .u8 (Int.ofNat x)) := h 0 x rfl
    have ih := loadBytes_run w s (o + 1) (acc.push (UInt8.ofNat x)) (fun j y hy => by
      have := h (j + 1) y (by simpa using hy)
      rw [show o + 1 + j = o + (j + 1) by omega]; exact this) (fun y hy => hb y (List.mem_cons_of_mem _ hy))
    have hx : ((Int.ofNat x).toNat).toUInt8 = UInt8.ofNat x := rfl
    simp only [List.length_cons, loadBytes, Sem.run_bind, run_load, h0, Result.andThen, hx, add_none]
    rw [ih]
    congr 1
    apply ByteArray.ext
    simp [ByteArray.push]

theorem ustr_sound {ι : Loc} {F : Foot} {h h' : Heap X} {w : World} (r : Rel P R ι F h w) {ts : Array TypeId} {t ty e : TypeId} {a n v : AV} {av nv : Value} (h0 : ts[0]? = some t) (ht : P.underlying t = some (.pointer e)) (hsz : szOf P e = some 1)
    (hv : evUstr h e a n = some (v, h')) (ha : VR ι a av) (hn : VR ι n nv) :
    ∃ w' u, (Builtin.unsafeString_ ts ty #[av, nv]).run P w = .ok u w' ∧ VR ι v u ∧ Rel P R ι F h' w' ∧ Ev ι F h w ι F h' w' := by
  have hmax : IntKind.i64.max = 9223372036854775807 := rfl
  have hemp : VR ι (.str []) (.string .empty) := by simp only [VR]; exact ⟨_, rfl, rfl, fun _ h => (by cases h)⟩
  have hdef : ∀ (p : Option Addr) (m : Nat), Builtin.unsafeString_ ts ty #[.pointer p, .int .i64 (.ofNat m)] = (do
      let some pt := ts[0]? | stuck "unsafe.String: no argument types"
      if (Int.ofNat m) < 0 then runtimePanic (.error "unsafe.String: len out of range")
      if (Int.ofNat m) > IntKind.i64.max then unsupported (.unsafePointer "String: a length above the largest int")
      match p with
      | none => if (Int.ofNat m) = 0 then pure (.string .empty) else runtimePanic (.error "unsafe.String: ptr is nil and len is not zero")
      | some a =>
        if (Int.ofNat m) = 0 then pure (.string .empty)
        else if ← variablesAt a (← elemOf pt) (Int.ofNat m).toNat then do
          let s ← loadBytes a .empty (Int.ofNat m).toNat
          freeze a (Int.ofNat m).toNat
          pure (.string s)
        else unsupported (.unsafePointer "String: not so many bytes at ptr")) := fun p m => rfl
  cases a <;> first | (simp only [evUstr] at hv; cases hv; done) | skip
  · cases n <;> first | (simp only [evUstr] at hv; cases hv; done) | skip
    rename_i k m
    cases k <;> first | (simp only [evUstr] at hv; cases hv; done) | skip
    cases m <;> first | (simp only [evUstr] at hv; cases hv; done) | skip
    rename_i m
    cases m with
    | succ m => simp only [evUstr] at hv; cases hv
    | zero =>
      simp only [evUstr, Option.some.injEq, Prod.mk.injEq] at hv
      obtain ⟨rfl, rfl⟩ := hv
      simp only [VR] at ha hn
      subst ha hn
      exact ⟨w, _, by rw [hdef]; simp [h0, hmax], hemp, r, Ev.refl ..⟩
  · rename_i l o
    cases n <;> first | (simp only [evUstr] at hv; cases hv; done) | skip
    rename_i k m
    cases k <;> first | (simp only [evUstr] at hv; cases hv; done) | skip
    cases m <;> first | (simp only [evUstr] at hv; cases hv; done) | skip
    rename_i m
    simp only [evUstr, nbeq] at hv
    simp only [VR] at ha hn
    obtain ⟨i, hi, rfl⟩ := ha
    subst hn
    by_cases hm : m = 0
    · subst hm
      simp only [decide_true, cond_true, Option.some.injEq, Prod.mk.injEq] at hv
      obtain ⟨rfl, rfl⟩ := hv
      exact ⟨w, _, by rw [hdef]; simp [h0, hmax], hemp, r, Ev.refl ..⟩
    · simp only [hm, decide_false, cond_false] at hv
      split at hv
      · rename_i e' cs f hg
        cases hc : decide (e' = e) && Nat.ble m 1048576 with
        | false => simp [hc] at hv
        | true =>
          simp only [hc, cond_true] at hv
          simp only [Bool.and_eq_true, nble, decide_eq_true_eq] at hc
          obtain ⟨rfl, hmle⟩ := hc
          split at hv
          · rename_i c hcut
            split at hv
            · rename_i s hs
              simp only [Option.some.injEq, Prod.mk.injEq] at hv
              obtain ⟨rfl, rfl⟩ := hv
              obtain ⟨hF, arr, fz, pre, vs, post, h1, h2, h3, h4, h5, h6, h7⟩ := rel_cells r hg hi
              obtain ⟨c1, c2⟩ := cut_VRs hcut h4
              obtain ⟨b1, b2, b3⟩ := bytesOf_sound hs c1
              generalize hsb : s.map bvN = sb at b1 b2
              have hlen : sb.length = m := by
                have := congrArg List.length b1
                simp at this
                omega
              have hl2 := congrArg List.length h2
              simp only [Array.length_toList, List.length_append] at hl2
              have hlies : (variablesAt ⟨i.blk, i.base + o, none⟩ e' m).run P w = .ok true w := by
                simp [variablesAt, shape_of h1, cellsOf_of hsz, lies_bytes (cellsOf_of hsz) arr.size (i.base + o) m (by omega)]
              have hload := loadBytes_run (P := P) w (b := i.blk) sb (i.base + o) .empty (fun j x hj => by
                have hjm : j < m := by
                  have := (List.getElem?_eq_some_iff.1 hj).1
                  omega
                rw [cell_of h1, ← Array.getElem?_toList, h2, List.append_assoc, List.getElem?_append_right (by omega), h3]
                rw [show i.base + o + j - i.base = o + j by omega, List.getElem?_append_left (by omega)]
                have : ((vs.drop o).take m)[j]? = some (.int .u8 (Int.ofNat x)) := by rw [b1]; simp [hj]
                rwa [List.getElem?_take_of_lt hjm, List.getElem?_drop] at this) b2
              rw [hlen] at hload
              have hm64 : ¬ (9223372036854775807 < (m : Int)) := by omega
              obtain ⟨fz', hfz⟩ : ∃ fz', (w.freeze ⟨i.blk, i.base + o, none⟩ m).heap[i.blk]? = some (.cells arr e' fz') := by
                obtain ⟨lo, hi'⟩ := fz
                simp only [World.freeze, hm, if_false, Array.getElem?_modify, h1, if_true, Option.map_some]
                exact ⟨_, rfl⟩
              refine ⟨w.freeze ⟨i.blk, i.base + o, none⟩ m, .string ⟨ByteArray.empty.data ++ (sb.map UInt8.ofNat).toArray⟩, ?_, ?_, ?_⟩
              · rw [hdef]
                simp [h0, hmax, hm, hm64, elemOf, run_underlying ht, hlies, hload]
                intro h; omega
              · simp only [VR]
                refine ⟨_, rfl, ?_, b3⟩
                rw [hsb]
                simpa using bytes_back b2
              · refine rel_upd r _ hg hi ?_ (fun b hb => ?_) ⟨hF, arr, fz', pre, vs, post, hfz, h2, h3, h4, h5, (fun hf => by cases hf), h7⟩ (by simp [World.freeze, hm])
                · simp [World.freeze, hm]
                · have : b ≠ i.blk := fun e => hb ((hF b).2 e)
                  simp [World.freeze, hm, Array.getElem?_modify, Ne.symm this]
            · cases hv
          · cases hv
      · cases hv

/-- what an operation does -/
def Did (P : Program) (R : XRel X) (ι : Loc) (F : Foot) (h : Heap X) (w : World) (v : AV) (h' : Heap X) (res : Result Next) : Prop :=
  ∃ x w' u ι' F', res = .ok x w' ∧ (x = .value u ∨ (x = .skip ∧ u = undef)) ∧ VR ι' v u ∧ Rel P R ι' F' h' w' ∧ Ev ι F h w ι' F' h' w'

theorem VR.undef (ι : Loc) : VR ι (.tup []) Go.undef := by simp only [VR]; exact ⟨[], rfl, VRs.nil⟩

/-- **the operations that write** -/
theorem w_sound {ι : Loc} {F : Foot} {h h' : Heap X} {env : Env} {a : Act} {o : Oper} {q : WOp} {v : AV} {w : World} (hc : cOpO P o.op = some (.w q)) (hv : evW env h q = some (v, h')) (he : EnvR ι env a.tmps) (r : Rel P R ι F h w) :
    Did P R ι F h w v h' ((execOp a.eval o).run P w) := by
  obtain ⟨dst, op, type, pos, after, guard⟩ := o
  have val : ∀ {s : Sem Value}, (∃ w' u ι' F', s.run P w = .ok u w' ∧ VR ι' v u ∧ Rel P R ι' F' h' w' ∧ Ev ι F h w ι' F' h' w') → Did P R ι F h w v h' ((do pure (.value (← s)) : Sem Next).run P w) := fun ⟨w', u, ι', F', h1, h2, h3, h4⟩ =>
    ⟨.value u, w', u, ι', F', by simp [h1], .inl rfl, h2, h3, h4⟩
  have val0 : ∀ {s : Sem Value}, (∃ w' u, s.run P w = .ok u w' ∧ VR ι v u ∧ Rel P R ι F h' w' ∧ Ev ι F h w ι F h' w') → Did P R ι F h w v h' ((do pure (.value (← s)) : Sem Next).run P w) := fun ⟨w', u, h⟩ => val ⟨w', u, ι, F, h⟩
  have unit : ∀ {s : Sem Unit}, (∃ w', s.run P w = .ok () w' ∧ v = .tup [] ∧ Rel P R ι F h' w' ∧ Ev ι F h w ι F h' w') → Did P R ι F h w v h' ((do s; pure .skip : Sem Next).run P w) := fun ⟨w', h1, h2, h3, h4⟩ =>
    ⟨.skip, w', undef, ι, F, by simp [h1], .inr ⟨rfl, rfl⟩, by rw [h2]; exact VR.undef ι, h3, h4⟩
  cases op <;> simp only [cOpO] at hc
  case store t x y =>
    obtain ⟨n, hn, hc⟩ := bind_some hc
    obtain ⟨x', hx', hc⟩ := bind_some hc
    obtain ⟨y', hy', hc⟩ := bind_some hc
    cases hc
    have vx := opd_sound hx' he
    have vy := opd_sound hy' he
    simp only [evW] at hv
    generalize x'.ev env = ax at hv vx
    generalize y'.ev env = ay at hv vy
    simp only [execOp]
    refine unit ?_
    cases ax <;> first | (simp only [evSt] at hv; cases hv; done) | skip
    rename_i l o
    simp only [evSt, nbeq] at hv
    by_cases hl : ay.cells.length = n
    · simp only [hl, decide_true, cond_true] at hv
      split at hv
      · rename_i h2 hst
        simp only [Option.some.injEq, Prod.mk.injEq] at hv
        obtain ⟨rfl, rfl⟩ := hv
        simp only [VR] at vx
        obtain ⟨i, hi, hb⟩ := vx
        have vc := vy.cells
        obtain ⟨w', g1, g2, g3⟩ := stN_sound r hst hi vc
        refine ⟨w', ?_, rfl, g2, g3⟩
        have hlen := vc.length
        have hne : ¬ ((a.eval y).cells.size ≠ n) := by simp at hlen; omega
        simp only [hb, Instr.storeAt, Instr.sureAddr, storeVar, Sem.run_bind, Sem.run_pure, Result.andThen_ok, szOf_run hn, hne, if_false]
        exact g1
      · cases hv
    · simp [hl] at hv
  case mapUpdate t m k x =>
    split at hc
    · rename_i e ht
      obtain ⟨m', hm', hc⟩ := bind_some hc
      obtain ⟨k', hk', hc⟩ := bind_some hc
      obtain ⟨x', hx', hc⟩ := bind_some hc
      cases hc
      simp only [evW] at hv
      simp only [execOp]
      exact unit (mupd_sound r ht hv (opd_sound hm' he) (opd_sound hk' he) (opd_sound hx' he))
    · cases hc
  case mapEntry t m k =>
    split at hc
    · rename_i e ht
      obtain ⟨z, hz, hc⟩ := bind_some hc
      obtain ⟨m', hm', hc⟩ := bind_some hc
      obtain ⟨k', hk', hc⟩ := bind_some hc
      cases hc
      simp only [evW] at hv
      simp only [execOp]
      obtain ⟨it, zv, h1, h2, h3⟩ := zeroOf_run hz
      exact val0 (ment_sound r ht hv (opd_sound hm' he) (opd_sound hk' he) h1 h2 h3)
    · cases hc
  case entryStore t m s x =>
    obtain ⟨m', hm', hc⟩ := bind_some hc
    obtain ⟨k', hk', hc⟩ := bind_some hc
    obtain ⟨x', hx', hc⟩ := bind_some hc
    cases hc
    simp only [evW] at hv
    simp only [execOp]
    exact unit (mest_sound r hv (opd_sound hm' he) (opd_sound hk' he) (opd_sound hx' he))
  case range t x =>
    split at hc
    · rename_i e ht
      obtain ⟨x', hx', hc⟩ := bind_some hc
      cases hc
      simp only [evW] at hv
      simp only [execOp]
      exact val (range_sound r ht hv (opd_sound hx' he))
    · cases hc
  case next x s =>
    cases s with
    | true => cases hc
    | false =>
      replace hc : (do pure (IOp.w (.next (← cOpd x)))) = some (IOp.w q) := hc
      obtain ⟨x', hx', hc⟩ := bind_some hc
      cases hc
      simp only [evW] at hv
      simp only [execOp]
      exact val0 (next_sound r type hv (opd_sound hx' he))
  case convert s d x =>
    obtain ⟨x', hx', hc⟩ := bind_some hc
    have hc : cConv P s d x' = .w q := Option.some.inj hc
    simp only [cConv] at hc
    repeat' (split at hc)
    all_goals cases hc
  case call c =>
    obtain ⟨callee, args, ats⟩ := c
    cases callee with
    | invoke r m => cases hc
    | value f =>
      cases f
      case func g =>
        replace hc : (do pure (IOp.call (Pos.of g) (← cOpds args.toList))) = some (IOp.w q) := hc
        obtain ⟨_, _, hc⟩ := bind_some hc
        cases hc
      all_goals
        (replace hc : (do pure (IOp.callv (← cOpd _) (← cOpds args.toList))) = some (IOp.w q) := hc)
        (obtain ⟨_, _, hc⟩ := bind_some hc)
        (obtain ⟨_, _, hc⟩ := bind_some hc)
        cases hc
    | builtin b =>
      replace hc : (do pure (cBuiltin P b ats.toList (← cOpds args.toList))) = some (IOp.w q) := hc
      obtain ⟨as, has, hc⟩ := bind_some hc
      replace hc : cBuiltin P b ats.toList as = .w q := Option.some.inj hc
      have vs := opds_sound he has
      have hb : Did P R ι F h w v h' ((builtin b ats type (args.map fun | .const _ => true | _ => false) (args.map a.eval)).run P w) →
          Did P R ι F h w v h' ((execOp a.eval ⟨dst, .call ⟨.builtin b, args, ats⟩, type, pos, after, guard⟩).run P w) := fun h => by
        simp only [execOp, resolve, Sem.run_bind, Sem.run_pure, Result.andThen_ok, invoke]
        exact h
      have argl : ∀ {l : List Value}, args.toList.map a.eval = l → args.map a.eval = ⟨l⟩ := fun h => by apply Array.ext'; simp [h]
      have atl : ∀ {t : TypeId} {l : List TypeId}, ats.toList = t :: l → ats[0]? = some t := fun h => by
        rw [← Array.getElem?_toList, h]; rfl
      have atl1 : ∀ {t u : TypeId} {l : List TypeId}, ats.toList = t :: u :: l → ats[1]? = some u := fun h => by
        rw [← Array.getElem?_toList, h]; rfl
      simp only [cBuiltin] at hc
      split at hc
      · repeat' (split at hc)
        all_goals cases hc
      · repeat' (split at hc)
        all_goals cases hc
      · -- append
        rename_i t u ts s x hats _
        obtain ⟨vx, vs', e, h1, h2⟩ := VRs.cons_inv vs
        obtain ⟨vy, vs', rfl, h4, h3⟩ := VRs.cons_inv h2
        have := VRs.nil_inv h3
        subst this
        have hargs := argl e
        refine hb ?_
        simp only [builtin, hargs]
        split at hc
        · rename_i e' n' b' z' e'' hst htx
          cases hc
          simp only [evW] at hv
          exact val (app_sound r (atl hats) (atl1 hats) hst (.inl ⟨e'', htx⟩) hv h1 h4)
        · rename_i e' n' b' z' hst htx
          cases hc
          simp only [evW] at hv
          exact val (app_sound r (atl hats) (atl1 hats) hst (.inr htx) hv h1 h4)
        · cases hc
      · -- copy
        rename_i t ts s x hats _
        obtain ⟨vx, vs', e, h1, h2⟩ := VRs.cons_inv vs
        obtain ⟨vy, vs', rfl, h4, h3⟩ := VRs.cons_inv h2
        have := VRs.nil_inv h3
        subst this
        have hargs := argl e
        refine hb ?_
        simp only [builtin, hargs]
        split at hc
        · rename_i hst
          cases hc
          simp only [evW] at hv
          exact val0 (copy_sound r (atl hats) hst hv h1 h4)
        · cases hc
      · -- clear
        rename_i t ts x hats _
        obtain ⟨vx, vs', e, h1, h2⟩ := VRs.cons_inv vs
        have := VRs.nil_inv h2
        subst this
        have hargs := argl e
        refine hb ?_
        simp only [builtin, hargs]
        have tupv : ∀ {s : Sem Value}, (∃ w', s.run P w = .ok (.tuple #[]) w' ∧ v = .tup [] ∧ Rel P R ι F h' w' ∧ Ev ι F h w ι F h' w') → Did P R ι F h w v h' ((do pure (.value (← s)) : Sem Next).run P w) := fun ⟨w', h1, h2, h3⟩ =>
          val0 ⟨w', _, h1, by rw [h2]; exact VR.undef ι, h3⟩
        split at hc
        · rename_i ht
          cases hc
          simp only [evW] at hv
          exact tupv (clearM_sound r ats type (atl hats) ht hv h1)
        · split at hc
          · rename_i hst
            cases hc
            simp only [evW] at hv
            exact tupv (clearS_sound r (atl hats) hst hv h1)
          · cases hc
        · cases hc
      · -- delete
        rename_i t ts m k hats _
        obtain ⟨vx, vs', e, h1, h2⟩ := VRs.cons_inv vs
        obtain ⟨vy, vs', rfl, h4, h3⟩ := VRs.cons_inv h2
        have := VRs.nil_inv h3
        subst this
        have hargs := argl e
        refine hb ?_
        simp only [builtin, hargs]
        split at hc
        · rename_i ht
          cases hc
          simp only [evW] at hv
          obtain ⟨w', g1, g2, g3⟩ := mdel_sound r ats type (atl hats) ht hv h1 h4
          exact val0 ⟨w', _, g1, by rw [g2]; exact VR.undef ι, g3⟩
        · cases hc
      · cases hc
      · cases hc
      · cases hc
      · -- unsafe.String
        rename_i t ts x n hats _
        obtain ⟨vx, vs', e, h1, h2⟩ := VRs.cons_inv vs
        obtain ⟨vy, vs', rfl, h4, h3⟩ := VRs.cons_inv h2
        have := VRs.nil_inv h3
        subst this
        have hargs := argl e
        refine hb ?_
        simp only [builtin, hargs]
        split at hc
        · rename_i e' ht
          split at hc
          · rename_i hsz
            cases hc
            simp only [evW] at hv
            exact val0 (ustr_sound r (atl hats) ht hsz hv h1 h4)
          · cases hc
        · cases hc
      · cases hc
  all_goals
    ((repeat' (first | (split at hc) | (obtain ⟨_, _, hc⟩ := bind_some hc))) <;> first | (cases hc; done) | contradiction | skip)
  all_goals trace_state

end Go.Ev
