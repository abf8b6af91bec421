import Derived.Test.YtddcnopjjihmcaaGreatEv18
set_option linter.unusedSectionVars false
set_option linter.unusedVariables false
set_option linter.unusedSimpArgs false
namespace Go.Ev
variable {X : Type} [T : SymT] [V : SymV] {P : Program} {R : XRel X}

/-! ### masks -/
theorem force_eq {α : Type} (n : Nat) (k : Nat → α) : force n k = k n := by cases n <;> rfl

theorem maskOf_bit : ∀ (l : List Nat) (j : Nat), (maskOf l).testBit j = true ↔ j ∈ l
  | [], j => by simp [maskOf]
  | i :: l, j => by
    simp only [maskOf, Nat.testBit_or, Nat.testBit_two_pow, Bool.or_eq_true, decide_eq_true_eq, maskOf_bit l j, List.mem_cons]
    constructor <;> rintro (h | h) <;> first | exact .inl h.symm | exact .inr h

theorem subM_bit {m a : Nat} (h : subM m a = true) (j : Nat) (hj : m.testBit j = true) : a.testBit j = true := by
  rw [subM, nbeq, decide_eq_true_eq] at h
  have := congrArg (·.testBit j) h
  simp only [Nat.testBit_and, hj, Bool.true_and] at this
  exact this

theorem bmOf_put (T : PT Nat) (i m j : Nat) : bmOf (T.put (Pos.of i) (some m)) j = if j = i then m else bmOf T j := by
  by_cases h : j = i
  · subst h
    simp [bmOf, PT.get_put_same]
  · rw [if_neg h]
    simp only [bmOf]
    rw [PT.get_put_other _ _ _ _ (fun e => h (Pos.of_inj e))]

theorem orEdges_bit (T : PT Nat) : ∀ (es : List Nat) (j : Nat), (orEdges T es).testBit j = true ↔ ∃ e ∈ es, j = e ∨ (bmOf T e).testBit j = true
  | [], j => by simp [orEdges]
  | e :: es, j => by
    simp only [orEdges, Nat.testBit_or, Nat.testBit_two_pow, Bool.or_eq_true, decide_eq_true_eq, orEdges_bit T es j, List.mem_cons, exists_eq_or_imp]
    constructor
    · rintro ((h | h) | h)
      · exact .inl (.inl h.symm)
      · exact .inl (.inr h)
      · exact .inr h
    · rintro ((h | h) | h)
      · exact .inl (.inl h.symm)
      · exact .inl (.inr h)
      · exact .inr h

theorem befT_keep : ∀ (l : List Oper) (i : Nat) (T : PT Nat) (j : Nat), j < i → bmOf (befT l i T) j = bmOf T j
  | [], i, T, j, _ => rfl
  | o :: l, i, T, j, h => by
    simp only [befT, force_eq]
    rw [befT_keep l (i + 1) _ j (by omega), bmOf_put, if_neg (by omega)]

theorem edgesOk_lt : ∀ (l : List Oper) (i : Nat), edgesOk l i = true → ∀ (k : Nat) (o : Oper), l[k]? = some o → ∀ e ∈ edges o, e < i + k
  | [], _, _, k, o, h => by simp at h
  | o :: l, i, hk, 0, o', h => by
    simp only [edgesOk, Bool.and_eq_true, List.all_eq_true] at hk
    simp only [List.getElem?_cons_zero, Option.some.injEq] at h
    subst h
    intro e he
    have := hk.1 e he
    simpa [blt_iff] using this
  | o :: l, i, hk, k + 1, o', h => by
    simp only [edgesOk, Bool.and_eq_true] at hk
    intro e he
    have := edgesOk_lt l (i + 1) hk.2 k o' (by simpa using h) e he
    omega

theorem befT_at : ∀ (l : List Oper) (i : Nat) (T : PT Nat), edgesOk l i = true → ∀ (k : Nat) (o : Oper), l[k]? = some o → ∀ j, (bmOf (befT l i T) (i + k)).testBit j = true → ∃ e ∈ edges o, j = e ∨ (bmOf (befT l i T) e).testBit j = true
  | [], _, _, _, k, o, h => by simp at h
  | o :: l, i, T, hk, 0, o', h => by
    have hlt := edgesOk_lt (o :: l) i hk 0 o' h
    simp only [List.getElem?_cons_zero, Option.some.injEq] at h
    subst h
    intro j hj
    simp only [befT, force_eq, Nat.add_zero] at hj ⊢
    rw [befT_keep l (i + 1) _ i (by omega), bmOf_put, if_pos rfl, orEdges_bit] at hj
    obtain ⟨e, he, hje⟩ := hj
    refine ⟨e, he, ?_⟩
    have hei := hlt e he
    rw [befT_keep l (i + 1) _ e (by omega), bmOf_put, if_neg (by omega)]
    exact hje
  | o :: l, i, T, hk, k + 1, o', h => by
    intro j hj
    simp only [edgesOk, Bool.and_eq_true] at hk
    simp only [befT, force_eq] at hj ⊢
    rw [show i + (k + 1) = (i + 1) + k by omega] at hj
    exact befT_at l (i + 1) _ hk.2 k o' (by simpa using h) j hj

/-! ### what the checker has seen -/
def ixsOf (l : List DOper) : List Nat := l.flatMap (·.ixs)

structure ItemOk (T : PT Nat) (W : PT (List Nat)) (E : List Nat) (S : List Nat) (d : DOper) : Prop where
  new : ∀ j ∈ d.ixs, j ∉ S
  eff : d.io.op.eff = true → ∀ i ∈ d.ixs, ∀ j ∈ S, (bmOf T i).testBit j = true
  use : ∀ i t, (i, t) ∈ d.uses → ∀ js, W.get t = some js → (∀ j ∈ js, (bmOf T i).testBit j = true ∧ j ∈ S) ∨ (∀ j ∈ js, (bmOf T j).testBit i = true ∧ j ∉ S)
  read : isR d.io.op = true → ∀ i ∈ d.ixs, readOk T E d i = true
  lit : litOk T d = true

theorem chkItem_ok {T : PT Nat} {W : PT (List Nat)} {E : List Nat} {seen : Nat} {S : List Nat} {d : DOper} (hs : ∀ j, seen.testBit j = true ↔ j ∈ S) (h : chkItem T W E seen d = true) : ItemOk T W E S d := by
  simp only [chkItem, Bool.and_eq_true, Bool.or_eq_true, Bool.not_eq_true', List.all_eq_true] at h
  obtain ⟨⟨⟨⟨h1, h2⟩, h3⟩, h4⟩, h5⟩ := h
  refine ⟨fun j hj hjs => ?_, fun he i hi j hj => ?_, fun i t hit js hjs => ?_, fun hr i hi => ?_, h5⟩
  · rw [nbeq, decide_eq_true_eq] at h1
    have := congrArg (·.testBit j) h1
    simp only [Nat.testBit_and, (hs j).2 hjs, (maskOf_bit _ _).2 hj, Bool.and_self, Nat.zero_testBit] at this
    cases this
  · rcases h2 with h2 | h2
    · rw [he] at h2; cases h2
    · exact subM_bit (h2 i hi) j ((hs j).2 hj)
  · have := h3 (i, t) hit
    simp only [hjs, Bool.or_eq_true, List.all_eq_true, Bool.and_eq_true, Bool.not_eq_true'] at this
    rcases this with h | h
    · exact .inl fun j hj => ⟨(h j hj).1, (hs j).1 (h j hj).2⟩
    · exact .inr fun j hj => ⟨(h j hj).1, fun hjS => by
        have h2 := (h j hj).2
        rw [(hs j).2 hjS] at h2
        cases h2⟩
  · rcases h4 with h4 | h4
    · rw [hr] at h4; cases h4
    · exact h4 i hi

theorem chkItems_spec {T : PT Nat} {W : PT (List Nat)} {E : List Nat} {N : Nat} : ∀ (l : List DOper) (seen : Nat) (S : List Nat), (∀ j, seen.testBit j = true ↔ j ∈ S) → chkItems T W E N l seen = true →
    (∀ (k : Nat) (d : DOper), l[k]? = some d → ItemOk T W E (S ++ ixsOf (l.take k)) d) ∧ (∀ j, j < N → j ∈ S ++ ixsOf l)
  | [], seen, S, hs, h => by
    simp only [chkItems, nbeq, decide_eq_true_eq] at h
    refine ⟨fun k d hd => by simp at hd, fun j hj => ?_⟩
    simp only [ixsOf, List.flatMap_nil, List.append_nil]
    rw [← hs, show seen = 2 ^ N - 1 by omega, Nat.testBit_two_pow_sub_one]
    simpa using hj
  | d :: l, seen, S, hs, h => by
    simp only [chkItems, Bool.and_eq_true, force_eq] at h
    have hs' : ∀ j, (seen ||| maskOf d.ixs).testBit j = true ↔ j ∈ S ++ d.ixs := fun j => by
      rw [Nat.testBit_or, Bool.or_eq_true, hs, maskOf_bit, List.mem_append]
    obtain ⟨g1, g2⟩ := chkItems_spec l _ _ hs' h.2
    refine ⟨fun k d' hd => ?_, fun j hj => ?_⟩
    · cases k with
      | zero =>
        simp only [List.getElem?_cons_zero, Option.some.injEq] at hd
        subst hd
        simpa [ixsOf] using chkItem_ok hs h.1
      | succ k =>
        have := g1 k d' (by simpa using hd)
        simpa [ixsOf, List.append_assoc] using this
    · have := g2 j hj
      simpa [ixsOf, List.append_assoc] using this

theorem nodupN_nodup : ∀ {l : List Nat}, nodupN l = true → l.Nodup
  | [], _ => List.nodup_nil
  | a :: l, h => by
    simp only [nodupN, Bool.and_eq_true, Bool.not_eq_true', inN_iff] at h
    exact List.nodup_cons.2 ⟨by simpa using h.1, nodupN_nodup h.2⟩

inductive ItemIs (P : Program) (n : Nat) (ops : Array Oper) (d : DOper) : Prop
  | one (i : Nat) (o : Oper) (h1 : d.ixs = [i]) (h2 : ops[i]? = some o) (h3 : cOper P n ops o = some d.io) : ItemIs P n ops d
  | lit (j i : Nat) (is : List Nat) (tm : Tmp) (o : Oper) (t : TypeId) (kvs : List (Opd × Opd)) (h1 : d.ixs = j :: i :: is) (h2 : ops[j]? = some o) (hd : o.dst = some tm) (ho : o.op = .makeMap t none) (hg : o.guard = none) (h3 : (mapT P t).isSome = true) (h4 : tm < n)
      (h5 : cIns P ops tm (i :: is) = some kvs) (h6 : (j :: i :: is).Nodup) (h7 : d.io = ⟨some (Pos.of tm), .a (.lit kvs), none⟩) : ItemIs P n ops d

theorem mkItem_is {n : Nat} {ops : Array Oper} {T : PT Nat} {effs : List Nat} {g : List Nat} {d : DOper} (h : mkItem P n ops T effs g = some d) : ItemIs P n ops d := by
  match g, h with
  | [], h => simp [mkItem] at h
  | [i], h =>
    simp only [mkItem] at h
    split at h
    · cases h
    · rename_i o _ ho
      simp only [Option.some.injEq] at h
      subst h
      obtain ⟨o', h1, h2⟩ := Option.bind_eq_some_iff.1 ho
      exact .one i o' rfl h1 h2
    · cases h
  | j :: i :: is, h =>
    simp only [mkItem] at h
    split at h
    · rename_i tm t _ _ _ hop
      split at h
      · rename_i e kvs hmt htm hin
        cases hnd : nodupN (j :: i :: is) with
        | false => simp [hnd] at h
        | true =>
          simp only [hnd, cond_true, Option.some.injEq] at h
          subst h
          simp only [blt_iff, decide_eq_true_eq] at htm
          exact .lit j i is tm _ t kvs rfl hop rfl rfl rfl (by rw [hmt]; rfl) htm hin (nodupN_nodup hnd) rfl
      · cases h
    · cases h

theorem mkItems_is {n : Nat} {ops : Array Oper} {T : PT Nat} {effs : List Nat} : ∀ {gs : List (List Nat)} {l : List DOper}, mkItems P n ops T effs gs = some l → ∀ (k : Nat) (d : DOper), l[k]? = some d → ItemIs P n ops d
  | [], l, h, k, d, hd => by
    simp only [mkItems, Option.some.injEq] at h
    subst h
    simp at hd
  | g :: gs, l, h, k, d, hd => by
    simp only [mkItems] at h
    split at h
    · rename_i d0 r h1 h2
      simp only [Option.some.injEq] at h
      subst h
      cases k with
      | zero =>
        simp only [List.getElem?_cons_zero, Option.some.injEq] at hd
        subst hd
        exact mkItem_is h1
      | succ k => exact mkItems_is h2 k d (by simpa using hd)
    · cases h

theorem mkW_spec : ∀ (l : List DOper) (W0 W : PT (List Nat)), mkW l W0 = some W →
    (∀ t js, W0.get t = some js → W.get t = some js) ∧
    (∀ (k : Nat) (d : DOper) (t : Pos), l[k]? = some d → d.io.dst = some t → W.get t = some d.ixs ∧ W0.get t = none ∧ ∀ (k' : Nat) (d' : DOper), l[k']? = some d' → d'.io.dst = some t → k' = k)
  | [], W0, W, h => by
    simp only [mkW, Option.some.injEq] at h
    subst h
    exact ⟨fun _ _ h => h, fun k d t hd => by simp at hd⟩
  | d :: l, W0, W, h => by
    simp only [mkW] at h
    split at h
    · rename_i hdst
      obtain ⟨g1, g2⟩ := mkW_spec l W0 W h
      refine ⟨g1, fun k d' t hd ht => ?_⟩
      cases k with
      | zero =>
        simp only [List.getElem?_cons_zero, Option.some.injEq] at hd
        subst hd
        rw [hdst] at ht
        cases ht
      | succ k =>
        obtain ⟨q1, q2, q3⟩ := g2 k d' t (by simpa using hd) ht
        refine ⟨q1, q2, fun k' d'' hd'' ht'' => ?_⟩
        cases k' with
        | zero =>
          simp only [List.getElem?_cons_zero, Option.some.injEq] at hd''
          subst hd''
          rw [hdst] at ht''
          cases ht''
        | succ k' => rw [q3 k' d'' (by simpa using hd'') ht'']
    · rename_i t0 hdst
      split at h
      · cases h
      · rename_i hnone
        obtain ⟨g1, g2⟩ := mkW_spec l _ W h
        have hnew : ∀ t, t ≠ t0 → (W0.put t0 (some d.ixs)).get t = W0.get t := fun t ht => PT.get_put_other _ _ _ _ ht
        refine ⟨fun t js hj => ?_, fun k d' t hd ht => ?_⟩
        · have : t ≠ t0 := fun e => by subst e; rw [hnone] at hj; cases hj
          exact g1 t js (by rw [hnew t this]; exact hj)
        · cases k with
          | zero =>
            simp only [List.getElem?_cons_zero, Option.some.injEq] at hd
            subst hd
            rw [hdst] at ht
            cases ht
            refine ⟨g1 _ _ (PT.get_put_same ..), hnone, fun k' d'' hd'' ht'' => ?_⟩
            cases k' with
            | zero => rfl
            | succ k' =>
              have := (g2 k' d'' _ (by simpa using hd'') ht'').2.1
              rw [PT.get_put_same] at this
              cases this
          | succ k =>
            obtain ⟨q1, q2, q3⟩ := g2 k d' t (by simpa using hd) ht
            have hne : t ≠ t0 := fun e => by subst e; rw [PT.get_put_same] at q2; cases q2
            refine ⟨q1, by rw [← hnew t hne]; exact q2, fun k' d'' hd'' ht'' => ?_⟩
            cases k' with
            | zero =>
              simp only [List.getElem?_cons_zero, Option.some.injEq] at hd''
              subst hd''
              rw [hdst] at ht''
              exact absurd (Option.some.inj ht''.symm) hne
            | succ k' => rw [q3 k' d'' (by simpa using hd'') ht'']

theorem cOpO_not_lit {op : Op} {kvs : List (Opd × Opd)} (hc : cOpO P op = some (.a (.lit kvs))) : False := by
  cases op <;> simp only [cOpO] at hc
  case convert s d x =>
    obtain ⟨x', hx', hc⟩ := bind_some hc
    have hc : cConv P s d x' = .a (.lit kvs) := Option.some.inj hc
    simp only [cConv] at hc
    repeat' (split at hc)
    all_goals cases hc
  all_goals
    ((repeat' (first | (split at hc) | (obtain ⟨_, _, hc⟩ := bind_some hc))) <;> first | (cases hc; done) | contradiction | exact absurd (Option.some.inj hc) cBuiltin_not_a)

theorem cOper_spec {n : Nat} {ops : Array Oper} {o : Oper} {io : IOper} (h : cOper P n ops o = some io) : ∃ g, cGuard ops o.guard = some g ∧ dstOk n o.dst = true ∧ io = ⟨o.dst.map Pos.of, cOp P o.op, g⟩ := by
  simp only [cOper] at h
  split at h
  · rename_i g hg
    cases hd : dstOk n o.dst with
    | false => simp [hd] at h
    | true =>
      simp only [hd, cond_true, Option.some.injEq] at h
      exact ⟨g, hg, rfl, h.symm⟩
  · cases h

theorem one_uses {n : Nat} {ops : Array Oper} {o : Oper} {d : DOper} {i : Nat} (h1 : d.ixs = [i]) (h3 : cOper P n ops o = some d.io) : ∀ t ∈ d.io.op.tmps ++ guardT d.io.guard, (i, t) ∈ d.uses := by
  obtain ⟨g, _, _, hio⟩ := cOper_spec h3
  have hnl : ∀ kvs, d.io.op ≠ .a (.lit kvs) := by
    intro kvs h
    rw [hio] at h
    simp only [cOp] at h
    cases hq : cOpO P o.op with
    | none => rw [hq] at h; cases h
    | some q => rw [hq] at h; simp only [orBad] at h; subst h; exact cOpO_not_lit hq
  intro t ht
  unfold DOper.uses
  split
  · rename_i kvs j is hop _
    exact absurd hop (hnl kvs)
  · rw [h1]
    simp only [List.flatMap_cons, List.flatMap_nil, List.append_nil]
    exact List.mem_map.2 ⟨t, ht, rfl⟩

theorem cIns_spec {ops : Array Oper} {tm : Tmp} : ∀ {is : List Nat} {kvs : List (Opd × Opd)}, cIns P ops tm is = some kvs → is.length = kvs.length ∧
    ∀ (r i : Nat), is[r]? = some i → ∃ (o : Oper) (t : TypeId) (k x : Operand) (k' x' : Opd), ops[i]? = some o ∧ o.dst = none ∧ o.op = .insert t (.tmp tm) k x ∧ o.guard = none ∧ (mapT P t).isSome = true ∧ cOpd k = some k' ∧ cOpd x = some x' ∧ kvs[r]? = some (k', x')
  | [], kvs, h => by
    simp only [cIns, Option.some.injEq] at h
    subst h
    exact ⟨rfl, fun r i h => by simp at h⟩
  | i :: is, kvs, h => by
    simp only [cIns] at h
    split at h
    · rename_i t m k x _ _ _ hop
      split at h
      · rename_i e k' x' rr hmt hm hk hx hr
        simp only [Option.some.injEq] at h
        subst h
        obtain ⟨g1, g2⟩ := cIns_spec hr
        refine ⟨by simp [g1], fun r i' hi => ?_⟩
        cases r with
        | zero =>
          simp only [List.getElem?_cons_zero, Option.some.injEq] at hi
          subst hi
          rw [nbeq, decide_eq_true_eq] at hm
          subst hm
          exact ⟨_, t, k, x, k', x', hop, rfl, rfl, rfl, by rw [hmt]; rfl, hk, hx, rfl⟩
        | succ r => exact g2 r i' (by simpa using hi)
      · cases h
    · cases h

theorem lit_uses {d : DOper} {j : Nat} {is : List Nat} {kvs : List (Opd × Opd)} (h1 : d.ixs = j :: is) (h7 : d.io.op = .a (.lit kvs)) {r i : Nat} {k x : Opd} (hi : is[r]? = some i) (hk : kvs[r]? = some (k, x)) : ∀ t ∈ k.tmps ++ x.tmps, (i, t) ∈ d.uses := by
  intro t ht
  unfold DOper.uses
  split
  · rename_i kvs' j' is' hop hix
    rw [h7] at hop
    cases hop
    rw [h1] at hix
    cases hix
    refine List.mem_flatMap.2 ⟨(i, k, x), ?_, List.mem_map.2 ⟨t, ht, rfl⟩⟩
    rw [List.mem_iff_getElem?]
    exact ⟨r, by simp [List.zip, List.getElem?_zipWith, hi, hk]⟩
  · rename_i hno
    exact absurd h1 (hno kvs j is h7)

end Go.Ev
