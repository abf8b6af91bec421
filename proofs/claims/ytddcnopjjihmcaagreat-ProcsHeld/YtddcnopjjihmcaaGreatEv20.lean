import Derived.Test.YtddcnopjjihmcaaGreatEv19
set_option linter.unusedSectionVars false
set_option linter.unusedVariables false
set_option linter.unusedSimpArgs false
namespace Go.Ev
variable {X : Type} [T : SymT] [V : SymV] {P : Program} {R : XRel X}

/-! ### the run in the order chosen -/
def stAt (call : CallF X) : List DOper → DSt X → Nat → DSt X
  | _, s, 0 => s
  | [], s, _ + 1 => s
  | d :: l, s, k + 1 => match evD call d s with
    | some (_, s') => stAt call l s' k
    | none => s

theorem stAt_zero (call : CallF X) (l : List DOper) (s : DSt X) : stAt call l s 0 = s := by cases l <;> rfl

def cnt (f : DOper → Bool) (l : List DOper) (k : Nat) : Nat := (l.take k).countP f

theorem cnt_zero (f : DOper → Bool) (l : List DOper) : cnt f l 0 = 0 := by simp [cnt]

theorem cnt_succ {f : DOper → Bool} {l : List DOper} {k : Nat} {d : DOper} (h : l[k]? = some d) : cnt f l (k + 1) = cnt f l k + (bif f d then 1 else 0) := by
  simp only [cnt, List.take_add_one, h, Option.toList, List.countP_append, List.countP_cons, List.countP_nil]
  cases f d <;> simp

theorem cnt_cons {f : DOper → Bool} {l : List DOper} {k : Nat} {d : DOper} : cnt f (d :: l) (k + 1) = (bif f d then 1 else 0) + cnt f l k := by
  simp only [cnt, List.take_succ_cons, List.countP_cons]
  cases f d <;> simp [Nat.add_comm]

theorem cnt_mono {f : DOper → Bool} {l : List DOper} {k k' : Nat} (h : k ≤ k') : cnt f l k ≤ cnt f l k' := by
  simp only [cnt]
  have : (l.take k).Sublist (l.take k') := by
    rw [show l.take k = (l.take k').take k by rw [List.take_take]; congr 1; omega]
    exact List.take_sublist ..
  exact this.countP_le

def isEffD (d : DOper) : Bool := d.io.op.eff
def isAD (d : DOper) : Bool := d.io.op.isA

theorem evD_env {call : CallF X} {d : DOper} {s s' : DSt X} {v : AV} (h : evD call d s = some (v, s')) : s'.env = putD s.env d.io.dst v ∧ s'.nm = (bif isAD d then s.nm.succ.succ else s.nm) := by
  unfold evD at h
  cases hw : wanted s.env d.io.guard with
  | false =>
    simp only [hw, cond_false, Option.some.injEq, Prod.mk.injEq] at h
    obtain ⟨rfl, rfl⟩ := h
    exact ⟨rfl, rfl⟩
  | true =>
    simp only [hw, cond_true] at h
    split at h
    · rename_i q hop
      split at h
      · split at h
        · simp only [Option.some.injEq, Prod.mk.injEq] at h
          obtain ⟨rfl, rfl⟩ := h
          exact ⟨rfl, by simp [isAD, hop, IOp.isA]⟩
        · cases h
      · cases h
    · cases h
    · rename_i op ha hi
      split at h
      · simp only [Option.some.injEq, Prod.mk.injEq] at h
        obtain ⟨rfl, rfl⟩ := h
        refine ⟨rfl, ?_⟩
        have : isAD d = false := by
          unfold isAD IOp.isA
          split
          · rename_i q hq; exact absurd hq (ha q)
          · rfl
        rw [this]
        rfl
      · cases h

theorem evD_no {call : CallF X} {d : DOper} {s s' : DSt X} {v : AV} (h : evD call d s = some (v, s')) (hw : wanted s.env d.io.guard = false) : v = .tup [] ∧ s'.heap = s.heap := by
  unfold evD at h
  simp only [hw, cond_false, Option.some.injEq, Prod.mk.injEq] at h
  obtain ⟨rfl, rfl⟩ := h
  exact ⟨rfl, rfl⟩

theorem evD_a {call : CallF X} {d : DOper} {s s' : DSt X} {v : AV} {q : AOp} (h : evD call d s = some (v, s')) (hw : wanted s.env d.io.guard = true) (hq : d.io.op = .a q) :
    ∃ o, evA s.env s.nm q = some (v, o) ∧ s.heap.m.get s.nm = none ∧ s'.heap = s.heap.upd s.nm o := by
  unfold evD at h
  simp only [hw, cond_true, hq] at h
  split at h
  · rename_i v' o ho
    split at h
    · rename_i hn
      simp only [Option.some.injEq, Prod.mk.injEq] at h
      obtain ⟨rfl, rfl⟩ := h
      exact ⟨o, ho, hn, rfl⟩
    · cases h
  · cases h

theorem evD_op {call : CallF X} {d : DOper} {s s' : DSt X} {v : AV} (h : evD call d s = some (v, s')) (hw : wanted s.env d.io.guard = true) (hna : isAD d = false) :
    evOp call s.env s.heap d.io.op = some (v, s'.heap) ∧ ∀ m k x, d.io.op ≠ .ins m k x := by
  unfold evD at h
  simp only [hw, cond_true] at h
  split at h
  · rename_i q hop
    simp [isAD, hop, IOp.isA] at hna
  · cases h
  · rename_i op ha hi
    split at h
    · rename_i v' h' ho
      simp only [Option.some.injEq, Prod.mk.injEq] at h
      obtain ⟨rfl, rfl⟩ := h
      exact ⟨ho, hi⟩
    · cases h

/-- an item that is neither an effect nor a block made leaves the heap -/
theorem evD_heap {call : CallF X} {d : DOper} {s s' : DSt X} {v : AV} (h : evD call d s = some (v, s')) (he : isEffD d = false) (hna : isAD d = false) : s'.heap = s.heap := by
  cases hw : wanted s.env d.io.guard with
  | false => exact (evD_no h hw).2
  | true =>
    obtain ⟨h1, h2⟩ := evD_op h hw hna
    unfold isEffD at he
    unfold isAD at hna
    generalize d.io.op = op at *
    cases op with
    | p o =>
      simp only [evOp] at h1
      split at h1
      · simp only [Option.some.injEq, Prod.mk.injEq] at h1; exact h1.2.symm
      · cases h1
    | r o =>
      simp only [evOp] at h1
      split at h1
      · simp only [Option.some.injEq, Prod.mk.injEq] at h1; exact h1.2.symm
      · cases h1
    | a o => simp [IOp.isA] at hna
    | w o => simp [IOp.eff] at he
    | ins m k x => exact absurd rfl (h2 m k x)
    | call f args => simp [IOp.eff] at he
    | callv f args => simp [IOp.eff] at he

theorem evReg_spec {call : CallF X} : ∀ (l : List DOper) (s : DSt X) (c : Nat) (f : DSt X) (hs : List (Heap X)) (rs : List Rd), evReg call l s c = some (f, hs, rs) →
    (∀ (k : Nat) (d : DOper), l[k]? = some d → ∃ v, evD call d (stAt call l s k) = some (v, stAt call l s (k + 1))) ∧
    f = stAt call l s l.length ∧
    (∀ j, j ≤ cnt isEffD l l.length → ∃ q, q ≤ l.length ∧ cnt isEffD l q = j ∧ hs[j]? = some (stAt call l s q).heap) ∧
    (∀ (k : Nat) (d : DOper) (o : ROp) (v : AV) (s' : DSt X), l[k]? = some d → d.io.op = .r o → wanted (stAt call l s k).env d.io.guard = true → evD call d (stAt call l s k) = some (v, s') → (d.lo = d.hi ∧ d.lo = c + cnt isEffD l k) ∨ ⟨(stAt call l s k).env, o, v, d.lo, d.hi⟩ ∈ rs)
  | [], s, c, f, hs, rs, h => by
    simp only [evReg, Option.some.injEq, Prod.mk.injEq] at h
    obtain ⟨rfl, rfl, rfl⟩ := h
    refine ⟨fun k d hd => by simp at hd, rfl, fun j hj => ⟨0, Nat.le_refl _, ?_, ?_⟩, fun k d _ _ _ hd => by simp at hd⟩
    · simp [cnt] at hj ⊢; exact hj.symm
    · simp [cnt] at hj
      subst hj
      rfl
  | d :: l, s, c, f, hs, rs, h => by
    simp only [evReg] at h
    split at h
    · rename_i v s1 hd
      split at h
      · rename_i f' hs' rs' hr
        obtain ⟨g1, g2, g3, g4⟩ := evReg_spec l s1 _ f' hs' rs' hr
        have hst : ∀ k, stAt call (d :: l) s (k + 1) = stAt call l s1 k := fun k => by simp only [stAt, hd]
        have hst0 : stAt call (d :: l) s 0 = s := rfl
        have key : f = f' ∧ hs = (bif isEffD d then s.heap :: hs' else hs') ∧ (∀ x ∈ rs', x ∈ rs) ∧ (∀ o, d.io.op = .r o → wanted s.env d.io.guard = true → (d.lo = d.hi ∧ d.lo = c) ∨ ⟨s.env, o, v, d.lo, d.hi⟩ ∈ rs) := by
          unfold isEffD
          split at h
          · rename_i o hop
            rw [hop]
            simp only [IOp.eff, cond_false]
            cases hw : wanted s.env d.io.guard with
            | false =>
              simp only [hw, cond_false, Option.some.injEq, Prod.mk.injEq] at h
              obtain ⟨rfl, rfl, rfl⟩ := h
              exact ⟨rfl, rfl, fun _ h => h, fun o _ hw' => by cases hw'⟩
            | true =>
              simp only [hw, cond_true, nbeq] at h
              by_cases h1 : d.lo = d.hi
              · simp only [h1, decide_true, cond_true] at h
                by_cases h2 : d.hi = c
                · simp only [h2, decide_true, cond_true, Option.some.injEq, Prod.mk.injEq] at h
                  obtain ⟨rfl, rfl, rfl⟩ := h
                  exact ⟨rfl, rfl, fun _ h => h, fun o _ _ => .inl ⟨h1, h1.trans h2⟩⟩
                · simp [h2] at h
              · simp only [h1, decide_false, cond_false, Option.some.injEq, Prod.mk.injEq] at h
                obtain ⟨rfl, rfl, rfl⟩ := h
                refine ⟨rfl, rfl, fun _ h => List.mem_cons_of_mem _ h, fun o' ho' _ => ?_⟩
                cases ho'
                exact .inr (List.mem_cons_self ..)
          · rename_i o hno
            simp only [Option.some.injEq, Prod.mk.injEq] at h
            obtain ⟨rfl, rfl, rfl⟩ := h
            exact ⟨rfl, rfl, fun _ h => h, fun o ho _ => absurd ho (hno o)⟩
        obtain ⟨k1, k2, k3, k4⟩ := key
        refine ⟨fun k d' hd' => ?_, ?_, fun j hj => ?_, fun k d' o v' s' hd' ho hw hv => ?_⟩
        · cases k with
          | zero =>
            simp only [List.getElem?_cons_zero, Option.some.injEq] at hd'
            subst hd'
            exact ⟨v, by rw [hst, stAt_zero, stAt_zero]; exact hd⟩
          | succ k =>
            rw [hst, hst]
            exact g1 k d' (by simpa using hd')
        · rw [k1, g2, List.length_cons, hst]
        · rw [List.length_cons, cnt_cons] at hj
          rw [k2]
          cases he : isEffD d with
          | false =>
            simp only [he, cond_false, Nat.zero_add] at hj ⊢
            obtain ⟨q, q1, q2, q3⟩ := g3 j hj
            exact ⟨q + 1, by simpa using q1, by rw [cnt_cons, he]; simpa using q2, by rw [hst]; exact q3⟩
          | true =>
            simp only [he, cond_true] at hj ⊢
            cases j with
            | zero => exact ⟨0, Nat.zero_le _, cnt_zero .., rfl⟩
            | succ j =>
              obtain ⟨q, q1, q2, q3⟩ := g3 j (by omega)
              exact ⟨q + 1, by simpa using q1, by rw [cnt_cons, he]; simp only [cond_true]; omega, by rw [hst]; simpa using q3⟩
        · cases k with
          | zero =>
            simp only [List.getElem?_cons_zero, Option.some.injEq] at hd'
            subst hd'
            rw [hst0] at hw hv ⊢
            rw [hd] at hv
            simp only [Option.some.injEq, Prod.mk.injEq] at hv
            obtain ⟨rfl, rfl⟩ := hv
            rw [cnt_zero]
            exact k4 o ho hw
          | succ k =>
            rw [hst] at hw hv ⊢
            rw [cnt_cons]
            rcases g4 k d' o v' s' (by simpa using hd') ho hw hv with h1 | h1
            · refine .inl ⟨h1.1, ?_⟩
              have := h1.2
              unfold isEffD at this ⊢
              cases he : d.io.op.eff <;> simp only [he, cond_true, cond_false] at this ⊢ <;> omega
            · exact .inr (k3 _ h1)
      · cases h
    · cases h

theorem rdOk_spec {r : Rd} : ∀ (hs : List (Heap X)) (k : Nat), rdOk r k hs = true → ∀ (j : Nat) (g : Heap X), hs[j]? = some g → r.lo ≤ k + j → k + j ≤ r.hi → ∃ v, evR r.env g r.op = some v ∧ avEq r.v v = true
  | [], k, _, j, g, hg => by simp at hg
  | h :: hs, k, hk, j, g, hg => by
    simp only [rdOk, Bool.and_eq_true, nble] at hk
    intro h1 h2
    cases j with
    | zero =>
      simp only [List.getElem?_cons_zero, Option.some.injEq] at hg
      subst hg
      simp only [Nat.add_zero] at h1 h2
      have := hk.1
      simp only [h1, h2, decide_true, Bool.and_self, cond_true] at this
      split at this
      · rename_i v hv
        exact ⟨v, hv, this⟩
      · cases this
    | succ j =>
      exact rdOk_spec hs (k + 1) hk.2 j g (by simpa using hg) (by omega) (by omega)

theorem rdsOk_spec {hs : List (Heap X)} : ∀ {rs : List Rd}, rdsOk hs rs = true → ∀ r ∈ rs, rdOk r 0 hs = true
  | [], _, r, hr => by cases hr
  | r0 :: rs, h, r, hr => by
    simp only [rdsOk, Bool.and_eq_true] at h
    rcases List.mem_cons.1 hr with rfl | hr
    · exact h.1
    · exact rdsOk_spec h.2 r hr

theorem leq_eq' : ∀ {a b : List Nat}, leq a b = true → a = b
  | [], [], _ => rfl
  | [], _ :: _, h => by simp [leq] at h
  | _ :: _, [], h => by simp [leq] at h
  | a :: x, b :: y, h => by
    simp only [leq, Bool.and_eq_true, nbeq, decide_eq_true_eq] at h
    rw [h.1, leq_eq' h.2]

mutual
theorem avEq_eq : ∀ {a b : AV}, avEq a b = true → a = b
  | .bool a, b, h => by cases b <;> simp_all [avEq]
  | .int k a, b, h => by
    cases b <;> simp only [avEq, Bool.and_eq_true, ieq_eq] at h <;> first | (cases h; done) | skip
    rw [kbeq_eq h.1, eq_of_beq h.2]
  | .str a, b, h => by
    cases b <;> simp only [avEq] at h <;> first | (cases h; done) | skip
    rw [leq_eq' h]
  | .nilp, b, h => by cases b <;> simp_all [avEq]
  | .ptr l o, b, h => by
    cases b <;> simp only [avEq, Bool.and_eq_true, nbeq, decide_eq_true_eq, Pos.beq_iff] at h <;> first | (cases h; done) | skip
    rw [h.1, h.2]
  | .nils, b, h => by cases b <;> simp_all [avEq]
  | .sl l o n c, b, h => by
    cases b with
    | sl l' o' n' c' =>
      cases c <;> cases c' <;> simp only [avEq, Bool.and_eq_true, nbeq, decide_eq_true_eq, Pos.beq_iff] at h <;> first | (cases h; done) | skip
      · obtain ⟨⟨⟨rfl, rfl⟩, rfl⟩, rfl⟩ := h; rfl
      · obtain ⟨⟨⟨rfl, rfl⟩, rfl⟩, rfl⟩ := h; rfl
    | _ => cases c <;> simp [avEq] at h
  | .sle, b, h => by cases b <;> simp_all [avEq]
  | .nilm, b, h => by cases b <;> simp_all [avEq]
  | .mp l, b, h => by
    cases b <;> simp only [avEq, Pos.beq_iff] at h <;> first | (cases h; done) | skip
    rw [h]
  | .nilf, b, h => by cases b <;> simp_all [avEq]
  | .fn f x y, b, h => by
    cases b <;> simp only [avEq, Bool.and_eq_true, Pos.beq_iff] at h <;> first | (cases h; done) | skip
    rw [h.1.1, avEqs_eq h.1.2, avEqs_eq h.2]
  | .yld l, b, h => by
    cases b <;> simp only [avEq, Pos.beq_iff] at h <;> first | (cases h; done) | skip
    rw [h]
  | .nili, b, h => by cases b <;> simp_all [avEq]
  | .agg x, b, h => by
    cases b <;> simp only [avEq] at h <;> first | (cases h; done) | skip
    rw [avEqs_eq h]
  | .tup x, b, h => by
    cases b <;> simp only [avEq] at h <;> first | (cases h; done) | skip
    rw [avEqs_eq h]
  | .stp l k, b, h => by
    cases b <;> simp only [avEq, Bool.and_eq_true, ieq_eq, Pos.beq_iff] at h <;> first | (cases h; done) | skip
    rw [h.1, eq_of_beq h.2]
  | .sb k j c, b, h => by
    cases b <;> simp only [avEq, Bool.and_eq_true, nbeq, decide_eq_true_eq, ieq_eq] at h <;> first | (cases h; done) | skip
    rw [kbeq_eq h.1.1, h.1.2, eq_of_beq h.2]
  | .su j, b, h => by
    cases b <;> simp only [avEq, nbeq, decide_eq_true_eq] at h <;> first | (cases h; done) | skip
    rw [h]
  | .opq j, b, h => by
    cases b <;> simp only [avEq, nbeq, decide_eq_true_eq] at h <;> first | (cases h; done) | skip
    rw [h]
theorem avEqs_eq : ∀ {a b : List AV}, avEqs a b = true → a = b
  | [], [], _ => rfl
  | [], _ :: _, h => by simp [avEqs] at h
  | _ :: _, [], h => by simp [avEqs] at h
  | a :: x, b :: y, h => by
    simp only [avEqs, Bool.and_eq_true] at h
    rw [avEq_eq h.1, avEqs_eq h.2]
end

theorem nthN_eff : ∀ (l : List DOper) (j : Nat), match nthN j (effIxs l) with
    | some e => ∃ (q : Nat) (d : DOper), l[q]? = some d ∧ isEffD d = true ∧ d.ixs.headD 0 = e ∧ cnt isEffD l q = j
    | none => cnt isEffD l l.length ≤ j
  | [], j => by cases j <;> simp [effIxs, nthN, cnt]
  | d :: l, j => by
    have ih := fun j => nthN_eff l j
    simp only [effIxs]
    cases he : isEffD d with
    | false =>
      have he' : d.io.op.eff = false := he
      simp only [he', cond_false]
      have := ih j
      split
      · rename_i e h1
        rw [h1] at this
        obtain ⟨q, d', g1, g2, g3, g4⟩ := this
        exact ⟨q + 1, d', by simpa using g1, g2, g3, by rw [cnt_cons, he]; simpa using g4⟩
      · rename_i h1
        rw [h1] at this
        rw [List.length_cons, cnt_cons, he]
        simpa using this
    | true =>
      have he' : d.io.op.eff = true := he
      simp only [he', cond_true]
      cases j with
      | zero =>
        simp only [nthN]
        exact ⟨0, d, rfl, he, rfl, cnt_zero ..⟩
      | succ j =>
        simp only [nthN]
        have := ih j
        split
        · rename_i e h1
          rw [h1] at this
          obtain ⟨q, d', g1, g2, g3, g4⟩ := this
          exact ⟨q + 1, d', by simpa using g1, g2, g3, by rw [cnt_cons, he]; simp only [cond_true]; omega⟩
        · rename_i h1
          rw [h1] at this
          rw [List.length_cons, cnt_cons, he]
          simp only [cond_true]
          omega

/-! ### all that is known of a region and its run -/
structure Reg (P : Program) (call : CallF X) (n : Nat) (ops : Array Oper) (l : List DOper) (T : PT Nat) (st : Nat → DSt X) : Prop where
  edg : ∀ (i : Nat) (o : Oper) (j : Nat), ops[i]? = some o → (bmOf T i).testBit j = true → ∃ e ∈ edges o, j = e ∨ (bmOf T e).testBit j = true
  edgLt : ∀ (i : Nat) (o : Oper) (e : Nat), ops[i]? = some o → e ∈ edges o → e < i
  item : ∀ (k : Nat) (d : DOper), l[k]? = some d → ItemIs P n ops d
  new : ∀ (k : Nat) (d : DOper) (k' : Nat) (d' : DOper) (i : Nat), l[k]? = some d → l[k']? = some d' → i ∈ d.ixs → i ∈ d'.ixs → k = k'
  all : ∀ j, j < ops.size → ∃ (k : Nat) (d : DOper), l[k]? = some d ∧ j ∈ d.ixs
  eff : ∀ (k : Nat) (d : DOper) (i : Nat) (k' : Nat) (d' : DOper) (j : Nat), l[k]? = some d → isEffD d = true → i ∈ d.ixs → l[k']? = some d' → k' < k → j ∈ d'.ixs → (bmOf T i).testBit j = true
  use : ∀ (k : Nat) (d : DOper) (i : Nat) (t : Pos) (kw : Nat) (dw : DOper), l[k]? = some d → (i, t) ∈ d.uses → l[kw]? = some dw → dw.io.dst = some t → (kw < k ∧ ∀ j ∈ dw.ixs, (bmOf T i).testBit j = true) ∨ (k ≤ kw ∧ ∀ j ∈ dw.ixs, (bmOf T j).testBit i = true)
  one : ∀ (k : Nat) (d : DOper) (k' : Nat) (d' : DOper) (t : Pos), l[k]? = some d → l[k']? = some d' → d.io.dst = some t → d'.io.dst = some t → k = k'
  read : ∀ (k : Nat) (d : DOper) (o : ROp) (i : Nat), l[k]? = some d → d.io.op = .r o → i ∈ d.ixs → readOk T (effIxs l) d i = true
  lit : ∀ (k : Nat) (d : DOper) (j : Nat) (is : List Nat) (kvs : List (Opd × Opd)), l[k]? = some d → d.io.op = .a (.lit kvs) → d.ixs = j :: is → ∀ i ∈ is, (bmOf T i).testBit j = true
  clo : ∀ (k : Nat) (d : DOper) (o : ROp), l[k]? = some d → d.io.op = .r o → o.clo = true
  step : ∀ (k : Nat) (d : DOper), l[k]? = some d → ∃ v, evD call d (st k) = some (v, st (k + 1))
  rd : ∀ (k : Nat) (d : DOper) (o : ROp) (v : AV) (s' : DSt X), l[k]? = some d → d.io.op = .r o → wanted (st k).env d.io.guard = true → evD call d (st k) = some (v, s') → ∀ c, c ≤ cnt isEffD l l.length → d.lo ≤ c → c ≤ d.hi → ∃ q, q ≤ l.length ∧ cnt isEffD l q = c ∧ evR (st k).env (st q).heap o = some v
  bmp : (st 0).heap.next = bump l (st 0).nm

theorem ItemIs.ne {n : Nat} {ops : Array Oper} {d : DOper} (h : ItemIs P n ops d) : ∃ i, i ∈ d.ixs := by
  cases h with
  | one i o h1 => exact ⟨i, by rw [h1]; exact List.mem_cons_self ..⟩
  | lit j i is tm o t kvs h1 => exact ⟨j, by rw [h1]; exact List.mem_cons_self ..⟩

theorem mem_ixsOf {l : List DOper} {j : Nat} : j ∈ ixsOf l ↔ ∃ (k : Nat) (d : DOper), l[k]? = some d ∧ j ∈ d.ixs := by
  rw [ixsOf, List.mem_flatMap]
  constructor
  · rintro ⟨d, hm, hj⟩
    obtain ⟨k, hk⟩ := List.mem_iff_getElem?.1 hm
    exact ⟨k, d, hk, hj⟩
  · rintro ⟨k, d, hk, hj⟩
    exact ⟨d, List.mem_of_getElem? hk, hj⟩

theorem mem_ixsTake {l : List DOper} {j n : Nat} : j ∈ ixsOf (l.take n) ↔ ∃ (k : Nat) (d : DOper), k < n ∧ l[k]? = some d ∧ j ∈ d.ixs := by
  rw [mem_ixsOf]
  constructor
  · rintro ⟨k, d, hk, hj⟩
    rw [List.getElem?_take] at hk
    by_cases hkn : k < n
    · rw [if_pos hkn] at hk; exact ⟨k, d, hkn, hk, hj⟩
    · rw [if_neg hkn] at hk; cases hk
  · rintro ⟨k, d, hkn, hk, hj⟩
    exact ⟨k, d, by rw [List.getElem?_take, if_pos hkn]; exact hk, hj⟩

theorem reg_of {call : CallF X} {n : Nat} {ops : Array Oper} {l : List DOper} {env env' : Env} {h h' : Heap X} (hc : cReg P n ops = some l) (hv : evRegion call l env h = some (env', h')) :
    ∃ T st, Reg P call n ops l T st ∧ st 0 = ⟨env, ⟨bump l h.next, h.m⟩, h.next⟩ ∧ env' = (st l.length).env ∧ h' = (st l.length).heap := by
  simp only [cReg] at hc
  split at hc
  · rename_i l0 hl
    split at hc
    · rename_i W hW
      cases hck : (edgesOk ops.toList 0 && chkItems (befT ops.toList 0 .lf) W (effIxs l0) ops.size l0 0) with
      | false => simp [hck] at hc
      | true =>
        simp only [hck, cond_true, Option.some.injEq] at hc
        subst hc
        simp only [Bool.and_eq_true] at hck
        obtain ⟨hedge, hchk⟩ := hck
        obtain ⟨c1, c2⟩ := chkItems_spec l0 0 [] (fun j => by simp) hchk
        simp only [List.nil_append] at c1 c2
        obtain ⟨_, w1⟩ := mkW_spec l0 .lf W hW
        have hitem := mkItems_is hl
        simp only [evRegion] at hv
        split at hv
        · rename_i f hs rs hreg
          cases hrd : rdsOk hs rs with
          | false => simp [hrd] at hv
          | true =>
            simp only [hrd, cond_true, Option.some.injEq, Prod.mk.injEq] at hv
            obtain ⟨g1, g2, g3, g4⟩ := evReg_spec l0 _ 0 f hs rs hreg
            have hget : ∀ {i o}, ops[i]? = some o → ops.toList[i]? = some o := fun h => by rw [Array.getElem?_toList]; exact h
            have hnew : ∀ (k : Nat) (d : DOper) (k' : Nat) (d' : DOper) (i : Nat), l0[k]? = some d → l0[k']? = some d' → i ∈ d.ixs → i ∈ d'.ixs → ¬ k < k' := fun k d k' d' i hd hd' hi hi' hlt =>
              (c1 k' d' hd').new i hi' (mem_ixsTake.2 ⟨k, d, hlt, hd, hi⟩)
            have hnew' : ∀ (k : Nat) (d : DOper) (k' : Nat) (d' : DOper) (i : Nat), l0[k]? = some d → l0[k']? = some d' → i ∈ d.ixs → i ∈ d'.ixs → k = k' := fun k d k' d' i hd hd' hi hi' => by
              have h1 := hnew k d k' d' i hd hd' hi hi'
              have h2 := hnew k' d' k d i hd' hd hi' hi
              omega
            refine ⟨befT ops.toList 0 .lf, stAt call l0 ⟨env, ⟨bump l0 h.next, h.m⟩, h.next⟩, ⟨fun i o j ho hj => ?_, fun i o e ho he => ?_, hitem, hnew', fun j hj => ?_, fun k d i k' d' j hd he hi hd' hlt hj => ?_, fun k d i t kw dw hd hit hdw ht => ?_, fun k d k' d' t hd hd' ht ht' => ?_, fun k d o i hd ho hi => ?_, fun k d j is kvs hd ho hix i hi => ?_, fun k d o hd ho => ?_, g1,
              fun k d o v s' hd ho hw hev c hc hlo hhi => ?_, ?_⟩, stAt_zero .., ?_, ?_⟩
            · have := befT_at ops.toList 0 .lf hedge i o (hget ho) j (by simpa using hj)
              exact this
            · have := edgesOk_lt ops.toList 0 hedge i o (hget ho) e he
              omega
            · exact mem_ixsOf.1 (c2 j hj)
            · exact (c1 k d hd).eff he i hi j (mem_ixsTake.2 ⟨k', d', hlt, hd', hj⟩)
            · obtain ⟨j0, hj0⟩ := (hitem kw dw hdw).ne
              rcases (c1 k d hd).use i t hit dw.ixs (w1 kw dw t hdw ht).1 with h1 | h1
              · refine .inl ⟨?_, fun j hj => (h1 j hj).1⟩
                obtain ⟨k', d', hlt, hd', hj'⟩ := mem_ixsTake.1 (h1 j0 hj0).2
                rw [hnew' kw dw k' d' j0 hdw hd' hj0 hj']
                exact hlt
              · refine .inr ⟨?_, fun j hj => (h1 j hj).1⟩
                rcases Nat.lt_or_ge kw k with hlt | hge
                · exact absurd (mem_ixsTake.2 ⟨kw, dw, hlt, hdw, hj0⟩) (h1 j0 hj0).2
                · exact hge
            · exact ((w1 k d t hd ht).2.2 k' d' hd' ht').symm
            · exact (c1 k d hd).read (by rw [ho]; rfl) i hi
            · have := (c1 k d hd).lit
              simp only [litOk, ho, hix, List.all_eq_true] at this
              exact this i hi
            · have := (c1 k d hd).lit
              simpa only [litOk, ho] using this
            · rcases g4 k d o v s' hd ho hw hev with h1 | h1
              · refine ⟨k, ?_, by omega, ?_⟩
                · have := (List.getElem?_eq_some_iff.1 hd).1; omega
                · have hna : isAD d = false := by simp [isAD, ho, IOp.isA]
                  obtain ⟨h2, _⟩ := evD_op hev hw hna
                  rw [ho] at h2
                  simp only [evOp] at h2
                  split at h2
                  · rename_i v' hv'
                    simp only [Option.some.injEq, Prod.mk.injEq] at h2
                    rw [hv', h2.1]
                  · cases h2
              · obtain ⟨q, q1, q2, q3⟩ := g3 c hc
                obtain ⟨v', k1, k2⟩ := rdOk_spec hs 0 (rdsOk_spec hrd _ h1) c _ q3 (by simpa using hlo) (by simpa using hhi)
                refine ⟨q, q1, q2, ?_⟩
                have := avEq_eq k2
                simp only at this
                rw [this]
                exact k1
            · rw [stAt_zero]
            · rw [← g2]; exact hv.1.symm
            · rw [← g2]; exact hv.2.symm
        · cases hv
    · cases hc
  · cases hc

end Go.Ev
