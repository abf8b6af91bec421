import Derived.Test.YtddcnopjjihmcaaGreatEv13
set_option linter.unusedSectionVars false
set_option linter.unusedVariables false
set_option linter.unusedSimpArgs false
namespace Go.Ev
variable {X : Type} [T : SymT] [V : SymV] {P : Program} {R : XRel X}

/-! ### what an operation looks at -/
def Same (env env' : Env) (ts : List Pos) : Prop := ∀ t ∈ ts, env.get t = env'.get t

theorem Same.left {env env' : Env} {a b : List Pos} (h : Same env env' (a ++ b)) : Same env env' a := fun t ht => h t (List.mem_append_left _ ht)
theorem Same.right {env env' : Env} {a b : List Pos} (h : Same env env' (a ++ b)) : Same env env' b := fun t ht => h t (List.mem_append_right _ ht)

theorem ev_same {env env' : Env} {x : Opd} (h : Same env env' x.tmps) : x.ev env = x.ev env' := by
  cases x with
  | t p => simp only [Opd.ev, h p (List.mem_cons_self ..)]
  | c v => rfl

theorem evs_same {env env' : Env} : ∀ {l : List Opd}, Same env env' (opdsT l) → l.map (Opd.ev env) = l.map (Opd.ev env')
  | [], _ => rfl
  | x :: l, h => by
    simp only [opdsT] at h
    simp only [List.map_cons, ev_same h.left, evs_same h.right]

theorem bndO_same {env env' : Env} {x : Option Opd} (h : Same env env' (optT x)) (y d : Nat) : bndO env x y d = bndO env' x y d := by
  cases x with
  | none => rfl
  | some x => simp only [bndO, ev_same (x := x) h]

theorem parts_same {env env' : Env} : ∀ {l : List (Nat × Nat × Opd)} (cs : List AV), Same env env' (partsT l) → fillP env cs l = fillP env' cs l
  | [], _, _ => rfl
  | (o, n, x) :: l, cs, h => by
    simp only [partsT] at h
    simp only [fillP, ev_same h.left]
    congr 1
    cases over o cs (x.ev env').cells with
    | none => rfl
    | some r => exact parts_same r h.right

theorem slRow_same {env env' : Env} {lo hi m : Option Opd} (h1 : Same env env' (optT lo)) (h2 : Same env env' (optT hi)) (h3 : Same env env' (optT m)) (esz : Nat) (l : Pos) (o n : Nat) (c : Cap) :
    slRow env esz l o n c lo hi m = slRow env' esz l o n c lo hi m := by
  cases m with
  | none => simp only [slRow, bndO_same h1, bndO_same h2]
  | some m =>
    cases hi with
    | none => rfl
    | some hi => simp only [slRow, bndO_same h1, ev_same (x := m) h3, ev_same (x := hi) h2]

theorem slNil_same {env env' : Env} {lo hi m : Option Opd} (h1 : Same env env' (optT lo)) (h2 : Same env env' (optT hi)) (h3 : Same env env' (optT m)) : slNil env lo hi m = slNil env' lo hi m := by
  cases m <;> cases hi <;> simp only [slNil, slNil0, bndO_same h1, bndO_same h2, bndO_same h3]

theorem p_same {env env' : Env} {o : POp} (h : Same env env' o.tmps) : evP env o = evP env' o := by
  cases o <;> simp only [POp.tmps] at h <;> first
    | rfl
    | (simp only [evP, ev_same h]; done)
    | (simp only [evP, ev_same h.left, ev_same h.right]; done)
    | (simp only [evP, ev_same h.left, ev_same h.right.left, ev_same h.right.right]; done)
    | (simp only [evP, evBuild, parts_same _ h]; done)
    | (simp only [evP, evs_same h.left, evs_same h.right]; done)
    | (simp only [evP, evSlStr, ev_same h.left, bndO_same h.right.left, bndO_same h.right.right]; done)
    | (simp only [evP, evSlSl, ev_same h.left, slRow_same h.right.left h.right.right.left h.right.right.right, slNil_same h.right.left h.right.right.left h.right.right.right]; done)
    | (simp only [evP, evSlArr, ev_same h.left, slRow_same h.right.left h.right.right.left h.right.right.right]; done)

theorem r_same {env env' : Env} {h0 : Heap X} {o : ROp} (h : Same env env' o.tmps) : evR env h0 o = evR env' h0 o := by
  cases o <;> simp only [ROp.tmps] at h <;> first
    | (simp only [evR, ev_same h]; done)
    | (simp only [evR, ev_same h.left, ev_same h.right]; done)

theorem ltake_same {env env' : Env} : ∀ {l : List (Opd × Opd)}, Same env env' (litT l) → ltake env l = ltake env' l
  | [], _ => rfl
  | (k, x) :: l, h => by
    simp only [litT] at h
    simp only [ltake, ev_same h.left, ev_same h.right.left, ltake_same h.right.right]

theorem a_same {env env' : Env} {l : Pos} {o : AOp} (h : Same env env' o.tmps) : (evA env l o : Option (AV × AObj X)) = evA env' l o := by
  cases o <;> simp only [AOp.tmps] at h <;> first
    | rfl
    | (simp only [evA, ev_same h]; done)
    | (simp only [evA, ev_same h.left, ev_same h.right]; done)
    | (simp only [evA, evBslice, parts_same _ h]; done)
    | (simp only [evA, evLit, ltake_same h]; done)

theorem w_same {env env' : Env} {h0 : Heap X} {o : WOp} (h : Same env env' o.tmps) : evW env h0 o = evW env' h0 o := by
  cases o <;> simp only [WOp.tmps] at h <;> first
    | (simp only [evW, ev_same h]; done)
    | (simp only [evW, ev_same h.left, ev_same h.right]; done)
    | (simp only [evW, ev_same h.left, ev_same h.right.left, ev_same h.right.right]; done)

theorem wanted_same {env env' : Env} {g : Option (Pos × Bool)} (h : Same env env' (guardT g)) : wanted env g = wanted env' g := by
  cases g with
  | none => rfl
  | some g =>
    obtain ⟨p, w⟩ := g
    simp only [wanted, h p (List.mem_cons_self ..)]

theorem op_same {call : CallF X} {env env' : Env} {h0 : Heap X} {o : IOp} (h : Same env env' o.tmps) : evOp call env h0 o = evOp call env' h0 o := by
  cases o <;> simp only [IOp.tmps] at h
  · simp only [evOp, p_same h]
  · simp only [evOp, r_same h]
  · simp only [evOp, a_same h]
  · simp only [evOp, w_same h]
  · simp only [evOp, ev_same h.left, ev_same h.right.left, ev_same h.right.right]
  · simp only [evOp, evs_same h]
  · simp only [evOp, ev_same h.left, evs_same h.right]

/-! ### the guard -/
theorem VR.bool {ι : Loc} {a : AV} {b : Bool} (h : VR ι a (.bool b)) : a = .bool b := by
  cases a <;> simp only [VR] at h
  case bool => cases h; rfl
  case opq i => exact absurd h.symm (V.nb i b)
  all_goals first | (cases h; done) | (obtain ⟨_, _, h⟩ := h; cases h; done) | (obtain ⟨_, h, _⟩ := h; cases h; done) | (obtain ⟨_, _, _, h, _⟩ := h; cases h; done) | (obtain ⟨_, _, h⟩ := h; cases h; done)

theorem wanted_sound {ι : Loc} {env : Env} {a : Act} {ops : Array Oper} {o : Oper} {g : Option (Pos × Bool)} (hg : cGuard ops o.guard = some g) (he : EnvR ι env a.tmps) : Region.wanted o (yielded ops a.tmps) = wanted env g := by
  unfold Region.wanted
  cases ho : o.guard with
  | none =>
    simp only [ho, cGuard, Option.some.injEq] at hg
    subst hg
    rfl
  | some jw =>
    obtain ⟨j, w⟩ := jw
    simp only [ho, cGuard] at hg
    split at hg
    · rename_i t ht
      simp only [Option.some.injEq] at hg
      subst hg
      have hv := he t
      simp only [wanted, yielded, ht, Option.bind_some]
      simp only [Opd.ev] at hv
      by_cases hlt : t < a.tmps.size
      · rw [Array.getElem?_eq_getElem hlt]
        rw [Array.getD_eq_getD_getElem?, Array.getElem?_eq_getElem hlt, Option.getD_some] at hv
        cases hx : a.tmps[t] with
        | bool b =>
          rw [hx] at hv
          have := hv.bool
          split at this
          · rename_i v hv'
            simp only [hv', this]
            cases b <;> cases w <;> rfl
          · cases this
        | _ =>
          rw [hx] at hv
          cases hget : PT.get env (Pos.of t) with
          | none => rfl
          | some v =>
            rw [hget] at hv
            cases v <;> first | rfl | (simp only [VR] at hv; cases hv; done)
      · rw [Array.getElem?_eq_none (Nat.le_of_not_lt hlt)]
        rw [Array.getD_eq_getD_getElem?, Array.getElem?_eq_none (Nat.le_of_not_lt hlt), Option.getD_none] at hv
        cases hget : PT.get env (Pos.of t) with
        | none => rfl
        | some v =>
          rw [hget] at hv
          cases v <;> first | rfl | (simp only [VR, undef] at hv; cases hv; done)
    · cases hg

end Go.Ev
