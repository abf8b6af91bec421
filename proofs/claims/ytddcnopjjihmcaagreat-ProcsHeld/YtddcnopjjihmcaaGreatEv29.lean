import Derived.Test.YtddcnopjjihmcaaGreatEv28
set_option linter.unusedSectionVars false
set_option linter.unusedVariables false
set_option linter.unusedSimpArgs false
namespace Go.Ev.Nums
open Go.Ev
variable {X : Type} [T : SymT]

/-! # numbers.List: the numbers that stand in a text -/
def p0 : Pos := .H
def p2 : Pos := (.I .H)
def p3 : Pos := (.O (.O .H))
def p4 : Pos := (.I (.O .H))
def p5 : Pos := (.O (.I .H))
def p6 : Pos := (.I (.I .H))
def p7 : Pos := (.O (.O (.O .H)))
def p8 : Pos := (.I (.O (.O .H)))
def p9 : Pos := (.O (.I (.O .H)))
def p10 : Pos := (.I (.I (.O .H)))
def p11 : Pos := (.O (.O (.I .H)))
def p12 : Pos := (.I (.O (.I .H)))
def p13 : Pos := (.O (.I (.I .H)))
def p14 : Pos := (.I (.I (.I .H)))
def p15 : Pos := (.O (.O (.O (.O .H))))
def p16 : Pos := (.I (.O (.O (.O .H))))
def p17 : Pos := (.O (.I (.O (.O .H))))
def p18 : Pos := (.I (.I (.O (.O .H))))
def p19 : Pos := (.O (.O (.I (.O .H))))
def p20 : Pos := (.I (.O (.I (.O .H))))
def p21 : Pos := (.O (.I (.I (.O .H))))
def p22 : Pos := (.I (.I (.I (.O .H))))
def p23 : Pos := (.O (.O (.O (.I .H))))
def p24 : Pos := (.I (.O (.O (.I .H))))
def p25 : Pos := (.O (.I (.O (.I .H))))
def p26 : Pos := (.I (.I (.O (.I .H))))
def p27 : Pos := (.O (.O (.I (.I .H))))
def p28 : Pos := (.I (.O (.I (.I .H))))

def inner : ICode := (.seq (.ops [⟨(some p12), (.p (.bin .lss (.t p11) (.c (.int .i64 (.ofNat 8))))), none⟩])
 (.seq (.cond (.t p12) .skip
 (.exit 2))
 (.seq (.block 3 (.seq (.ops [⟨(some p13), (.p (.mv (.t p11))), none⟩,
  ⟨(some p5), (.p (.mv (.t p13))), none⟩])
 (.ops [⟨(some p14), (.p (.mv (.t p4))), none⟩,
  ⟨(some p15), (.p (.mv (.t p0))), none⟩,
  ⟨(some p16), (.p (.mv (.t p5))), none⟩,
  ⟨(some p17), (.p (.idxStr (.t p15) (.t p16))), none⟩,
  ⟨(some p18), (.p (.conv .i64 (.t p17))), none⟩,
  ⟨(some p19), (.p (.mv (.t p5))), none⟩,
  ⟨(some p20), (.p (.bin .mul (.c (.int .i64 (.ofNat 8))) (.t p19))), none⟩,
  ⟨(some p21), (.p (.bin .shl (.t p18) (.t p20))), none⟩,
  ⟨(some p22), (.p (.bin .or (.t p14) (.t p21))), none⟩,
  ⟨(some p4), (.p (.mv (.t p22))), none⟩])))
 (.ops [⟨(some p23), (.p (.bin .add (.t p11) (.c (.int .i64 (.ofNat 1))))), none⟩,
  ⟨(some p11), (.p (.mv (.t p23))), none⟩]))))

def outer (e : Nat) : ICode := (.seq (.seq (.ops [⟨(some p6), (.p (.mv (.t p0))), none⟩,
  ⟨(some p7), (.p (.lenStr (.t p6))), none⟩,
  ⟨(some p8), (.p (.bin .geq (.t p7) (.c (.int .i64 (.ofNat 8))))), none⟩])
 (.cond (.t p8) .skip
 (.exit 0)))
 (.seq (.block 1 (.seq (.ops [⟨(some p4), (.p (.mv (.c (.int .i64 (.ofNat 0))))), none⟩])
 (.seq (.seq (.ops [⟨(some p11), (.p (.mv (.c (.int .i64 (.ofNat 0))))), none⟩])
 (.block 2 (.loop inner)))
 (.ops [⟨(some p24), (.p (.mv (.t p3))), none⟩,
  ⟨(some p25), (.p (.mv (.t p4))), none⟩,
  ⟨(some p26), (.a (.bslice e 1 1 [(.int .i64 (.ofNat 0))] [(0, 1, (.t p25))])), none⟩,
  ⟨(some p27), (.w (.app e 1 8 (.t p24) (.t p26))), none⟩,
  ⟨(some p3), (.p (.mv (.t p27))), none⟩]))))
 (.ops [⟨(some p9), (.p (.mv (.t p0))), none⟩,
  ⟨(some p10), (.p (.slStr (.t p9) (some (.c (.int .i64 (.ofNat 8)))) none)), none⟩,
  ⟨(some p0), (.p (.mv (.t p10))), none⟩])))

def listF (e : Nat) : IFunc := ⟨1, [.t p2], (.seq (.ops [⟨(some p2), (.p (.mv (.c .nils))), none⟩])
 (.seq (.ops [⟨(some p3), (.p (.mv (.c .nils))), none⟩])
 (.seq (.block 0 (.loop (outer e)))
 (.seq (.ops [⟨(some p28), (.p (.mv (.t p3))), none⟩,
  ⟨(some p2), (.p (.mv (.t p28))), none⟩])
 .ret))))⟩

/-- one byte more of a number -/
def byte (s : List Nat) (i : Nat) (n : AV) : Option AV :=
  match nthB i s with
  | some b => match evConv .i64 (byteAV b) with
    | some c => match evBin .shl c (.int .i64 (.ofNat (8 * i))) with
      | some d => evBin .or n d
      | none => none
    | none => none
  | none => none

def chain (s : List Nat) : Nat → Nat → AV → Option AV
  | 0, _, n => some n
  | k + 1, i, n => match byte s i n with
    | some n => chain s k (i + 1) n
    | none => none

def nums : Nat → List Nat → Option (List AV)
  | 0, _ => some []
  | m + 1, s => match chain s 8 0 (.int .i64 0), nums m (s.drop 8) with
    | some v, some r => some (v :: r)
    | _, _ => none

structure E (env : Env) (s : List Nat) (out n : AV) (i : Nat) : Prop where
  s : env.get p0 = some (.str s)
  out : env.get p3 = some out
  n : env.get p4 = some n
  i : env.get p11 = some (.int .i64 (.ofNat i))

end Go.Ev.Nums
namespace Go.Ev.Nums
open Go.Ev
variable {X : Type} [T : SymT]
theorem ev_t (env : Env) (p : Pos) : Opd.ev env (.t p) = (env.get p).getD (.tup []) := by
  simp only [Opd.ev]
  cases PT.get env p <;> rfl
theorem ev_c (env : Env) (v : AV) : Opd.ev env (.c v) = v := rfl

theorem inner_step {call : CallF X} {ro : Option Pos} {env : Env} {h : Heap X} {s : List Nat} {out n n' : AV} {i : Nat} (e : E env s out n i) (hi : i < 8) (hb : byte s i n = some n') :
    ∃ env', evC call ro inner env h = some (.nrm, env', h) ∧ E env' s out n' (i + 1) := by
  obtain ⟨e1, e2, e3, e4⟩ := e
  simp only [byte] at hb
  split at hb
  · rename_i b hbb
    split at hb
    · rename_i c hc
      split at hb
      · rename_i d hd
        have hlt : ilt (.ofNat i) (.ofNat 8) = true := by rw [ilt_eq]; simp; omega
        have hmul : wrapF .i64 (Int.ofNat 8 * Int.ofNat i) = Int.ofNat (8 * i) := by
          rw [wrapF_eq]
          have : Int.ofNat 8 * Int.ofNat i = ((8 * i : Nat) : Int) := by simp
          rw [this, wrap64_id (by omega) (by omega)]
          rfl
        have hadd : wrapF .i64 (Int.ofNat i + Int.ofNat 1) = Int.ofNat (i + 1) := by
          rw [wrapF_eq]
          have : Int.ofNat i + Int.ofNat 1 = ((i + 1 : Nat) : Int) := by simp
          rw [this, wrap64_id (by omega) (by omega)]
          rfl
        have hidx : evIdxStr (.str s) (.int .i64 (.ofNat i)) = some (byteAV b) := by simp only [evIdxStr, hbb]
        have l1 : evBin .lss (.int .i64 (.ofNat i)) (.int .i64 (.ofNat 8)) = some (.bool true) := by simp only [evBin, binI, kbeq, cond_true, hlt]
        have l2 : evBin .mul (.int .i64 (.ofNat 8)) (.int .i64 (.ofNat i)) = some (.int .i64 (.ofNat (8 * i))) := by simp only [evBin, binI, kbeq, cond_true, hmul]
        have l3 : evBin .add (.int .i64 (.ofNat i)) (.int .i64 (.ofNat 1)) = some (.int .i64 (.ofNat (i + 1))) := by simp only [evBin, binI, kbeq, cond_true, hadd]
        simp only [p0, p3, p4, p11] at e1 e2 e3 e4
        apply Exists.intro
        constructor
        · simp only [inner, evC, evOps, evOper, wanted, cond_true, cond_false, evOp, evP, ev_t, ev_c, Option.getD_some, putD, get_put, p0, p2, p3, p4, p5, p6, p7, p8, p9, p10, p11, p12, p13, p14, p15, p16, p17, p18, p19, p20, p21, p22, p23, p24, p25, p26, p27, p28, Pos.beq, e1, e2, e3, e4, l1, l2, l3, hidx, hc, hd, hb]
          rfl
        · refine ⟨?_, ?_, ?_, ?_⟩ <;> simp only [get_put, p0, p2, p3, p4, p5, p6, p7, p8, p9, p10, p11, p12, p13, p14, p15, p16, p17, p18, p19, p20, p21, p22, p23, p24, p25, p26, p27, p28, Pos.beq, cond_true, cond_false, e1, e2, e3, e4]
      · cases hb
    · cases hb
  · cases hb

theorem inner_end {call : CallF X} {ro : Option Pos} {env : Env} {h : Heap X} {s : List Nat} {out n : AV} (e : E env s out n 8) :
    ∃ env', evC call ro inner env h = some (.ext 2, env', h) ∧ E env' s out n 8 := by
  obtain ⟨e1, e2, e3, e4⟩ := e
  have l1 : evBin .lss (.int .i64 (.ofNat 8)) (.int .i64 (.ofNat 8)) = some (.bool false) := rfl
  simp only [p0, p3, p4, p11] at e1 e2 e3 e4
  apply Exists.intro
  constructor
  · simp only [inner, evC, evOps, evOper, wanted, cond_true, cond_false, evOp, evP, ev_t, ev_c, Option.getD_some, putD, get_put, p0, p3, p4, p11, p12, Pos.beq, e1, e2, e3, e4, l1]
    rfl
  · refine ⟨?_, ?_, ?_, ?_⟩ <;> simp only [get_put, p0, p3, p4, p11, p12, Pos.beq, cond_true, cond_false, e1, e2, e3, e4]

theorem inner_loop {call : CallF X} {ro : Option Pos} {h : Heap X} {s : List Nat} {out : AV} : ∀ (k i fuel : Nat) (env : Env) (n nf : AV), i + k = 8 → k < fuel → E env s out n i → chain s k i n = some nf →
    ∃ env', iter (evC call ro inner) fuel env h = some (.ext 2, env', h) ∧ E env' s out nf 8
  | 0, i, fuel + 1, env, n, nf, hik, _, e, hc => by
    have : i = 8 := by omega
    subst this
    simp only [chain, Option.some.injEq] at hc
    subst hc
    obtain ⟨env', h1, h2⟩ := inner_end (call := call) (ro := ro) (h := h) e
    exact ⟨env', iter_ext h1, h2⟩
  | k + 1, i, fuel + 1, env, n, nf, hik, hf, e, hc => by
    simp only [chain] at hc
    split at hc
    · rename_i n' hb
      obtain ⟨env1, h1, h2⟩ := inner_step (call := call) (ro := ro) (h := h) e (by omega) hb
      obtain ⟨env', h3, h4⟩ := inner_loop (call := call) (ro := ro) (h := h) k (i + 1) fuel env1 n' nf (by omega) (by omega) h2 hc
      exact ⟨env', by rw [iter_nrm h1]; exact h3, h4⟩
    · cases hc

theorem outer_step {call : CallF X} {ro : Option Pos} {env : Env} {h h' : Heap X} {s : List Nat} {out out' v : AV} {e : Nat} (e1 : env.get p0 = some (.str s)) (e2 : env.get p3 = some out) (hl : 8 ≤ s.length) (hc : chain s 8 0 (.int .i64 (.ofNat 0)) = some v) (hv : v.cells = [v])
    (ha : evApp (h.add (.cells e [v] false)) e 1 8 out (.sl h.next 0 1 (.kn 1)) = some (out', h')) :
    ∃ env', evC call ro (outer e) env h = some (.nrm, env', h') ∧ env'.get p0 = some (.str (s.drop 8)) ∧ env'.get p3 = some out' := by
  have l1 : evBin .geq (.int .i64 (.ofNat s.length)) (.int .i64 (.ofNat 8)) = some (.bool true) := by
    have : ilt (.ofNat s.length) (.ofNat 8) = false := by rw [ilt_eq]; simp; omega
    simp only [evBin, binI, kbeq, cond_true, this, Bool.not_false]
  simp only [p0, p3] at e1 e2
  -- the inner loop's start
  let env1 : Env := PT.put (.O (.O (.I .H))) (some (.int .i64 (.ofNat 0))) (PT.put (.I (.O .H)) (some (.int .i64 (.ofNat 0))) (PT.put (.I (.O (.O .H))) (some (.bool true)) (PT.put (.O (.O (.O .H))) (some (.int .i64 (.ofNat s.length))) (PT.put (.I (.I .H)) (some (.str s)) env))))
  have hE : E env1 s out (.int .i64 (.ofNat 0)) 0 := by
    refine ⟨?_, ?_, ?_, ?_⟩ <;> simp only [env1, get_put, p0, p3, p4, p11, Pos.beq, cond_true, cond_false, e1, e2]
  obtain ⟨env2, h1, h2⟩ := inner_loop (call := call) (ro := ro) (h := h) 8 0 rounds env1 _ v rfl (by decide) hE hc
  obtain ⟨g1, g2, g3, g4⟩ := h2
  simp only [p0, p3, p4, p11] at g1 g2 g3 g4
  have hfill : ∀ env : Env, PT.get env (.O (.I (.O (.I .H)))) = some v → evBslice (X := X) env e 1 h.next [.int .i64 (.ofNat 0)] [(0, 1, .t (.O (.I (.O (.I .H)))))] = some (.sl h.next 0 1 (.kn 1), .cells e [v] false) := by
    intro env he
    simp only [evBslice, fillP, ev_t, he, Option.getD_some, hv]
    rfl
  have hsl : ∀ env : Env, evSlStr env (.str s) (some (.c (.int .i64 (.ofNat 8)))) none = some (.str (s.drop 8)) := by
    intro env
    simp only [evSlStr, bndO, bnd, ev_c, nble, hl, decide_true, cond_true]
    rw [List.take_of_length_le (by simp)]
  apply Exists.intro
  constructor
  · simp only [outer, evC, evOps, evOper, wanted, cond_true, cond_false, evOp, evP, ev_t, ev_c, Option.getD_some, putD, get_put, p0, p2, p3, p4, p6, p7, p8, p11, Pos.beq, e1, e2, evLenStr, l1]
    rw [show iter (evC call ro inner) rounds _ h = _ from h1]
    simp only [evC, evOps, evOper, wanted, cond_true, cond_false, evOp, evP, evA, evW, ev_t, ev_c, Option.getD_some, putD, get_put, p0, p2, p3, p4, p9, p10, p24, p25, p26, p27, Pos.beq, g1, g2, g3, g4, show Nat.beq 2 2 = true from rfl, hsl, evBslice, fillP, hv, List.length_cons, List.length_nil, over, show Nat.beq (0 + 1) 1 = true from rfl]
    rw [ha]
    simp only [evC, evOps, evOper, wanted, cond_true, cond_false, evOp, evP, evA, evW, ev_t, ev_c, Option.getD_some, putD, get_put, p0, p2, p3, p4, p9, p10, p24, p25, p26, p27, Pos.beq, g1, g2, g3, g4, hsl]
    rfl
  · constructor <;> simp only [get_put, p0, p2, p3, p4, p9, p10, p24, p25, p26, p27, Pos.beq, cond_true, cond_false, ev_t, Option.getD_some]

theorem outer_end {call : CallF X} {ro : Option Pos} {env : Env} {h : Heap X} {s : List Nat} {out : AV} {e : Nat} (e1 : env.get p0 = some (.str s)) (e2 : env.get p3 = some out) (hl : s.length < 8) :
    ∃ env', evC call ro (outer e) env h = some (.ext 0, env', h) ∧ env'.get p3 = some out := by
  have l1 : evBin .geq (.int .i64 (.ofNat s.length)) (.int .i64 (.ofNat 8)) = some (.bool false) := by
    have : ilt (.ofNat s.length) (.ofNat 8) = true := by rw [ilt_eq]; simp; omega
    simp only [evBin, binI, kbeq, cond_true, this, Bool.not_true]
  simp only [p0, p3] at e1 e2
  apply Exists.intro
  constructor
  · simp only [outer, evC, evOps, evOper, wanted, cond_true, cond_false, evOp, evP, ev_t, ev_c, Option.getD_some, putD, get_put, p0, p3, p6, p7, p8, Pos.beq, e1, e2, evLenStr, l1]
    rfl
  · simp only [get_put, p0, p3, p6, p7, p8, Pos.beq, cond_true, cond_false, e2]

/-- what has been appended -/
structure Out (h0 : Heap X) (e k : Nat) (acc : List AV) (out : AV) (h : Heap X) : Prop where
  len : acc.length = k
  next : h.next = addP h0.next (2 * k)
  nil : k = 0 → out = .nils ∧ h = h0
  sl : 0 < k → out = .sl (addP h0.next (2 * k - 1)) 0 k (.un 0) ∧ h.m.get (addP h0.next (2 * k - 1)) = some (.cells e acc false)
  frame : ∀ x, x.toNat < h0.next.toNat → h.m.get x = h0.m.get x

omit [T : SymT] in
theorem cut_whole : ∀ (l : List AV), cut 0 l.length l = some l
  | [] => rfl
  | c :: l => by simp only [List.length_cons, cut, cut_whole l]

omit [T : SymT] in
theorem one_cells {v : AV} (h : v.one = true) : v.cells = [v] := by cases v <;> first | rfl | (simp [AV.one] at h)

omit [T : SymT] in
theorem Out.step {h0 h : Heap X} {e k : Nat} {acc : List AV} {out v : AV} (o : Out h0 e k acc out h) (hv : v.one = true) (hb : (k + 1) * 8 ≤ 1048576) :
    ∃ out' h', evApp (h.add (.cells e [v] false)) e 1 8 out (.sl h.next 0 1 (.kn 1)) = some (out', h') ∧ Out h0 e (k + 1) (acc ++ [v]) out' h' := by
  obtain ⟨o1, o2, o3, o4, o5⟩ := o
  have hnt : h.next.toNat = h0.next.toNat + 2 * k := by rw [o2, addP_toNat]
  have hsrc : srcOf (h.add (.cells e [v] false)) 1 (.sl h.next 0 1 (.kn 1)) = some (1, [v]) := by
    simp only [srcOf, ldN, Heap.add, PT.get_put_same]
    rfl
  have hall : allOne [v] = true := by simp only [allOne, hv, Bool.and_self]
  have hn2 : (h.add (.cells e [v] false)).next = addP h0.next (2 * (k + 1) - 1) := by
    show h.next.succ = _
    rw [o2, addP_succ]; congr 1
  have hn3 : h.next.succ.succ = addP h0.next (2 * (k + 1)) := by
    rw [o2, addP_succ, addP_succ]; congr 1
  rcases Nat.eq_zero_or_pos k with hk | hk
  · subst hk
    obtain ⟨rfl, rfl⟩ := o3 rfl
    have : acc = [] := List.length_eq_zero_iff.1 o1
    subst this
    have hle : Nat.ble (1 * 8) 1048576 = true := rfl
    refine ⟨_, _, by simp only [evApp, hsrc, show Nat.beq 1 0 = false from rfl, cond_false, hle, hall, Bool.and_self, cond_true]; rfl, ⟨rfl, hn3, fun h => by omega, fun _ => ⟨by rw [hn2], ?_⟩, fun x hx => ?_⟩⟩
    · rw [← hn2, Heap.add, PT.get_put_same]; rfl
    · have h1 : x ≠ (h.add (.cells e [v] false)).next := fun e' => by rw [e', hn2, addP_toNat] at hx; omega
      have h2 : x ≠ h.next := fun e' => by rw [e', hnt] at hx; omega
      rw [Heap.add, PT.get_put_other _ _ _ _ h1, Heap.add, PT.get_put_other _ _ _ _ h2]
  · obtain ⟨rfl, hg⟩ := o4 hk
    have hll : addP h0.next (2 * k - 1) ≠ h.next := fun e' => by
      have := congrArg Pos.toNat e'
      rw [addP_toNat, hnt] at this; omega
    have hg' : (h.add (.cells e [v] false)).m.get (addP h0.next (2 * k - 1)) = some (.cells e acc false) := by
      rw [Heap.add, PT.get_put_other _ _ _ _ hll]; exact hg
    have hle : Nat.ble ((k + 1) * 8) 1048576 = true := by rw [nble, decide_eq_true_eq]; exact hb
    have hcut : cut 0 (k * 1) acc = some acc := by rw [Nat.mul_one, ← o1]; exact cut_whole acc
    refine ⟨_, _, by
      simp only [evApp, hsrc, show Nat.beq 1 0 = false from rfl, cond_false, hle, hall, show Nat.beq 0 (0 * 1) = true from rfl, Bool.and_self, cond_true, hg', show Nat.beq e e = true from by rw [nbeq]; simp, hcut]
      rfl, ⟨by simp [o1], hn3, fun h => by omega, fun _ => ⟨by rw [hn2], ?_⟩, fun x hx => ?_⟩⟩
    · rw [← hn2, Heap.add]
      exact PT.get_put_same ..
    · have h1 : x ≠ (h.add (.cells e [v] false)).next := fun e' => by rw [e', hn2, addP_toNat] at hx; omega
      have h2 : x ≠ h.next := fun e' => by rw [e', hnt] at hx; omega
      have h3 : x ≠ addP h0.next (2 * k - 1) := fun e' => by rw [e', addP_toNat] at hx; omega
      have : ((h.add (.cells e [v] false)).kill (addP h0.next (2 * k - 1))).m.get x = h0.m.get x := by
        rw [Heap.kill, PT.get_put_other _ _ _ _ h3, Heap.add, PT.get_put_other _ _ _ _ h2]
        exact o5 x hx
      exact (PT.get_put_other _ _ _ _ h1).trans this

theorem outer_loop {call : CallF X} {ro : Option Pos} {h0 : Heap X} {e : Nat} : ∀ (m k fuel : Nat) (s : List Nat) (env : Env) (h : Heap X) (acc : List AV) (out : AV) (vs : List AV), m = s.length / 8 → m < fuel → (k + m) * 8 ≤ 1048576 → env.get p0 = some (.str s) → env.get p3 = some out → Out h0 e k acc out h →
    nums m s = some vs → allOne vs = true → ∃ env' out' h', iter (evC call ro (outer e)) fuel env h = some (.ext 0, env', h') ∧ env'.get p3 = some out' ∧ Out h0 e (k + m) (acc ++ vs) out' h'
  | 0, k, fuel + 1, s, env, h, acc, out, vs, hm, _, _, e1, e2, o, hn, _ => by
    simp only [nums, Option.some.injEq] at hn
    subst hn
    obtain ⟨env', h1, h2⟩ := outer_end (call := call) (ro := ro) (h := h) (e := e) e1 e2 (by omega)
    exact ⟨env', out, h, iter_ext h1, h2, by simpa using o⟩
  | m + 1, k, fuel + 1, s, env, h, acc, out, vs, hm, hf, hb, e1, e2, o, hn, ha => by
    simp only [nums] at hn
    split at hn
    · rename_i v r hv hr
      simp only [Option.some.injEq] at hn
      subst hn
      simp only [allOne, Bool.and_eq_true] at ha
      obtain ⟨out1, h1, g1, g2⟩ := o.step ha.1 (by omega)
      obtain ⟨env1, g3, g4, g5⟩ := outer_step (call := call) (ro := ro) e1 e2 (by omega) hv (one_cells ha.1) g1
      obtain ⟨env', out', h', g6, g7, g8⟩ := outer_loop (call := call) (ro := ro) m (k + 1) fuel (s.drop 8) env1 h1 _ out1 r (by rw [List.length_drop]; omega) (by omega) (by omega) g4 g5 g2 hr ha.2
      exact ⟨env', out', h', by rw [iter_nrm g3]; exact g6, g7, by rw [show k + (m + 1) = k + 1 + m by omega]; simpa using g8⟩
    · cases hn

/-- the answer -/
def listP (e : Nat) (args : List AV) (h : Heap X) : Option (AV × Heap X) :=
  match args with
  | [.str s] => bif Nat.ble ((s.length / 8) * 8) 1048576 && Nat.blt (s.length / 8) rounds then
      (match nums (s.length / 8) s with
      | some vs => bif allOne vs then (bif Nat.beq (s.length / 8) 0 then some (.nils, h) else
          some (.sl (addP h.next (2 * (s.length / 8) - 1)) 0 (s.length / 8) (.un 0), ⟨addP h.next (2 * (s.length / 8)), h.m.put (addP h.next (2 * (s.length / 8) - 1)) (some (.cells e vs false))⟩)) else none
      | none => none) else none
  | _ => none

theorem list_ok {call : CallF X} {e : Nat} {args : List AV} {h h2 : Heap X} {v : AV} (hv : listP e args h = some (v, h2)) (hf : Fresh h) : ∃ h1, enterF call (listF e) args h = some (v, h1) ∧ Sub h2 h1 := by
  unfold listP at hv
  split at hv
  · rename_i s
    cases hc : Nat.ble ((s.length / 8) * 8) 1048576 && Nat.blt (s.length / 8) rounds with
    | false => simp [hc] at hv
    | true =>
      simp only [hc, cond_true] at hv
      simp only [Bool.and_eq_true, nble, blt_iff, decide_eq_true_eq] at hc
      split at hv
      · rename_i vs hn
        cases ha : allOne vs with
        | false => simp [ha] at hv
        | true =>
          simp only [ha, cond_true] at hv
          let env0 : Env := PT.put (.O (.O .H)) (some .nils) (PT.put (.I .H) (some .nils) (PT.put .H (some (.str s)) .lf))
          obtain ⟨env', out', h', g1, g2, g3⟩ := outer_loop (call := call) (ro := none) (h0 := h) (e := e) (s.length / 8) 0 rounds s env0 h [] .nils vs rfl hc.2 (by omega) (by simp only [env0, p0, get_put, Pos.beq, cond_false, cond_true]) (by simp only [env0, p3, get_put, Pos.beq, cond_true]) ⟨rfl, rfl, fun _ => ⟨rfl, rfl⟩, fun h => by omega, fun _ _ => rfl⟩ hn ha
          have hrun : enterF call (listF e) [.str s] h = some (out', h') := by
            simp only [p3] at g2
            simp only [enterF, listF, evC, evOps, evOper, wanted, cond_true, evOp, evP, ev_t, ev_c, Option.getD_some, putD, args0, p2, p3, p28]
            rw [show iter (evC call none (outer e)) rounds _ h = _ from g1]
            simp only [show Nat.beq 0 0 = true from rfl, cond_true, evC, evOps, evOper, wanted, evOp, evP, ev_t, Option.getD_some, putD, get_put, p2, p3, p28, Pos.beq, g2, ress, resOf, tupOf]
          obtain ⟨q1, q2, q3, q4, q5⟩ := g3
          simp only [Nat.zero_add, List.nil_append] at q1 q2 q3 q4
          rw [nbeq] at hv
          by_cases hm : s.length / 8 = 0
          · simp only [hm, decide_true, cond_true, Option.some.injEq, Prod.mk.injEq] at hv
            obtain ⟨rfl, rfl⟩ := hv
            obtain ⟨rfl, rfl⟩ := q3 hm
            exact ⟨_, hrun, Sub.refl _⟩
          · simp only [hm, decide_false, cond_false, Option.some.injEq, Prod.mk.injEq] at hv
            obtain ⟨rfl, rfl⟩ := hv
            obtain ⟨rfl, hg⟩ := q4 (by omega)
            refine ⟨_, hrun, Nat.le_of_eq (congrArg Pos.toNat q2), fun x o hx => ?_⟩
            simp only at hx
            by_cases e' : x = addP h.next (2 * (s.length / 8) - 1)
            · subst e'
              rw [PT.get_put_same] at hx
              rw [hg]; exact hx
            · rw [PT.get_put_other _ _ _ _ e'] at hx
              rw [q5 x ?_]
              · exact hx
              · rcases Nat.lt_or_ge x.toNat h.next.toNat with h1 | h1
                · exact h1
                · rw [hf x h1] at hx; cases hx
      · cases hv
  · cases hv
end Go.Ev.Nums
