import Derived.Test.YtddcnopjjihmcaaGreatEv5
set_option linter.unusedSectionVars false
set_option linter.unusedVariables false
set_option linter.unusedSimpArgs false
namespace Go.Ev
variable {X : Type} [T : SymT] [V : SymV] {P : Program} {R : XRel X}

theorem szOf_run {e : TypeId} {n : Nat} (h : szOf P e = some n) (w : World) : (sizeOf e).run P w = .ok n w := by
  simp only [szOf, Option.map_eq_some_iff] at h
  obtain ⟨i, hi, he⟩ := h
  simp [sizeOf, typeInfo, hi, he]

theorem aggT_run {e : TypeId} {b : Bool} (h : aggT P e = some b) (w : World) : (isAgg e).run P w = .ok b w := by
  simp only [aggT, Option.map_eq_some_iff] at h
  obtain ⟨d, hd, hb⟩ := h
  subst hb
  simp only [isAgg, Sem.run_bind, run_underlying hd, Result.andThen_ok]
  split <;> rename_i h0 <;> simp_all

mutual
theorem cVal_sound (ι : Loc) : ∀ {v : Value} {a : AV}, cVal v = some a → VR ι a v
  | .bool b, a, h => by simp only [cVal, Option.some.injEq] at h; subst h; simp [VR]
  | .int k n, a, h => by simp only [cVal, Option.some.injEq] at h; subst h; simp [VR]
  | .string s, a, h => by simp only [cVal, Option.some.injEq] at h; subst h; exact VR.strOf ι s
  | .pointer none, a, h => by simp only [cVal, Option.some.injEq] at h; subst h; simp [VR]
  | .slice none 0 0, a, h => by simp only [cVal, Option.some.injEq] at h; subst h; simp [VR]
  | .map none, a, h => by simp only [cVal, Option.some.injEq] at h; subst h; simp [VR]
  | .nilFunc, a, h => by simp only [cVal, Option.some.injEq] at h; subst h; simp [VR]
  | .nilIface, a, h => by simp only [cVal, Option.some.injEq] at h; subst h; simp [VR]
  | .agg ⟨cs⟩, a, h => by
    simp only [cVal] at h
    split at h
    · rename_i l hl
      simp only [Option.some.injEq] at h; subst h
      simp only [VR]
      exact ⟨cs, rfl, cVals_sound ι hl⟩
    · cases h
  | .float _ _, a, h | .complex _ _ _, a, h | .pointer (some _), a, h | .slice (some _) _ _, a, h | .map (some _), a, h | .chan _, a, h | .func _ _ _, a, h | .iface _ _, a, h | .tuple _, a, h => by
    simp [cVal] at h
  | .slice none (n + 1) _, a, h | .slice none 0 (m + 1), a, h => by simp [cVal] at h
theorem cVals_sound (ι : Loc) : ∀ {v : List Value} {a : List AV}, cVals v = some a → VRs ι a v
  | [], a, h => by simp only [cVals, Option.some.injEq] at h; subst h; exact VRs.nil
  | v :: vs, a, h => by
    simp only [cVals] at h
    split at h
    · rename_i x l hx hl
      simp only [Option.some.injEq] at h; subst h
      exact VRs.cons (cVal_sound ι hx) (cVals_sound ι hl)
    · cases h
end

theorem opd_sound {ι : Loc} {env : Env} {a : Act} {x : Operand} {y : Opd} (h : cOpd x = some y) (he : EnvR ι env a.tmps) : VR ι (y.ev env) (a.eval x) := by
  cases x with
  | tmp t => simp only [cOpd, Option.some.injEq] at h; subst h; exact he t
  | const v =>
    simp only [cOpd, Option.map_eq_some_iff] at h
    obtain ⟨c, hc, rfl⟩ := h
    exact cVal_sound ι hc
  | func f =>
    simp only [cOpd, Option.some.injEq] at h; subst h
    simp only [Opd.ev, Act.eval, VR]
    exact ⟨f, [], [], rfl, rfl, VRs.nil, VRs.nil⟩
  | global g => simp [cOpd] at h

theorem opds_sound {ι : Loc} {env : Env} {a : Act} (he : EnvR ι env a.tmps) : ∀ {xs : List Operand} {ys : List Opd}, cOpds xs = some ys → VRs ι (ys.map (Opd.ev env)) (xs.map a.eval)
  | [], ys, h => by simp only [cOpds, Option.some.injEq] at h; subst h; exact VRs.nil
  | x :: xs, ys, h => by
    simp only [cOpds] at h
    split at h
    · rename_i y l hy hl
      simp only [Option.some.injEq] at h; subst h
      exact VRs.cons (opd_sound hy he) (opds_sound he hl)
    · cases h

/-! ### equality of aggregates -/
/-- the test of a head, and what is left to be asked of the rest -/
def Goes (r1 r : Bool) (rest : Option Bool) : Prop := (r1 = false → r = false) ∧ (r1 = true → rest = some r)

theorem Goes.mk_eq {c r : Bool} {rest : Option Bool} (h : (bif c then rest else some false) = some r) : Goes c r rest := by
  cases c
  · simp only [cond_false, Option.some.injEq] at h; subst h; exact ⟨fun _ => rfl, fun h => by cases h⟩
  · exact ⟨fun h => (by cases h), fun _ => h⟩

/-- what the cells of a value of the type are -/
theorem part_leaf {cs : Array Value} {t : TypeId} {off : Nat} {v : Value} (h : aggT P t = some false) (hv : cs[off]? = some v) (w : World) : (part t cs off).run P w = .ok v w := by
  simp [part, aggT_run h, hv]

theorem part_agg {cs : Array Value} {t : TypeId} {off n : Nat} (h : aggT P t = some true) (hn : szOf P t = some n) (w : World) : (part t cs off).run P w = .ok (.agg (cs.extract off (off + n))) w := by
  simp [part, aggT_run h, szOf_run hn]

theorem eqKs_len : ∀ {d : Nat} {t : TypeId} {ks : List LK}, eqKs P d t = some ks → szOf P t = some ks.length
  | 0, _, _, h => by simp [eqKs] at h
  | d + 1, t, ks, h => by
    simp only [eqKs] at h
    split at h
    · rename_i h1 h2; simp only [Option.some.injEq] at h; subst h; exact h2
    · rename_i h1 h2; simp only [Option.some.injEq] at h; subst h; exact h2
    · rename_i h1 h2; simp only [Option.some.injEq] at h; subst h; exact h2
    · rename_i fs n h1 h2
      cases hp : P.stoodInHeld t with
      | true => simp [hp] at h
      | false =>
        simp only [hp, cond_false] at h
        split at h
        · rename_i l hl
          rw [nbeq] at h
          by_cases e : l.length = n
          · simp only [e, decide_true, cond_true, Option.some.injEq] at h
            subst h; rw [e]; exact h2
          · simp [e] at h
        · cases h
    · cases h

/-- a value of the type, of these cells -/
def CellsOf (P : Program) (ι : Loc) (t : TypeId) (xs : List AV) (v : Value) : Prop :=
  (aggT P t = some true ∧ ∃ l, v = .agg ⟨l⟩ ∧ VRs ι xs l) ∨ (aggT P t = some false ∧ ∃ p, xs = [p] ∧ VR ι p v)

theorem eqKs_one {d : Nat} {t : TypeId} {ks : List LK} (hk : eqKs P d t = some ks) (hag : aggT P t = some false) : ks.length = 1 := by
  cases d with
  | zero => simp [eqKs] at hk
  | succ d =>
    simp only [aggT, Option.map_eq_some_iff] at hag
    obtain ⟨td, htd, hb⟩ := hag
    simp only [eqKs] at hk
    split at hk
    · simp only [Option.some.injEq] at hk; subst hk; rfl
    · simp only [Option.some.injEq] at hk; subst hk; rfl
    · simp only [Option.some.injEq] at hk; subst hk; rfl
    · rename_i h1 h2
      rw [htd] at h1
      simp only [Option.some.injEq] at h1
      subst h1
      simp at hb
    · cases hk

theorem eqKs_agg {d : Nat} {t : TypeId} {ks : List LK} (hk : eqKs P d t = some ks) : ∃ b, aggT P t = some b := by
  cases hag : aggT P t with
  | some b => exact ⟨b, rfl⟩
  | none =>
    cases d with
    | zero => simp [eqKs] at hk
    | succ d =>
      simp only [aggT, Option.map_eq_none_iff] at hag
      simp only [eqKs, hag] at hk
      cases hk

/-- the value read as a part: its cells -/
theorem part_any {ι : Loc} {cs : List Value} {xs : List AV} {d off : Nat} {t : TypeId} {ks : List LK} (hk : eqKs P d t = some ks) (hv : VRs ι xs cs) (hlen : off + ks.length ≤ xs.length) (w : World) :
    ∃ v, (part t ⟨cs⟩ off).run P w = .ok v w ∧ CellsOf P ι t ((xs.drop off).take ks.length) v := by
  have hsz := eqKs_len hk
  have hcl := hv.length
  obtain ⟨v1, u1, e1, h1, h2⟩ := VRs.split (a := xs.take off) (b := xs.drop off) (by rw [List.take_append_drop]; exact hv)
  obtain ⟨v2, u2, e2, h3, h4⟩ := VRs.split (a := (xs.drop off).take ks.length) (b := (xs.drop off).drop ks.length) (by rw [List.take_append_drop]; exact h2)
  have l1 := h1.length
  have l2 := h3.length
  simp only [List.length_take, List.length_drop] at l1 l2
  have e3 : cs = v1 ++ (v2 ++ u2) := by rw [e1, e2]
  have q1 : v1.length = off := by omega
  have q2 : v2.length = ks.length := by omega
  obtain ⟨b, hag⟩ := eqKs_agg hk
  cases b with
  | true =>
    refine ⟨_, part_agg hag hsz w, .inl ⟨hag, v2, ?_, h3⟩⟩
    congr 1
    apply Array.ext'
    simp only [Array.toList_extract, List.extract_eq_take_drop, e3]
    rw [List.drop_append_of_le_length (by omega), List.drop_of_length_le (by omega), List.nil_append]
    rw [show off + ks.length - off = v2.length by omega, List.take_left]
  | false =>
    have hone := eqKs_one hk hag
    rw [hone] at q2 h3 ⊢
    obtain ⟨v, rfl⟩ := List.length_eq_one_iff.1 q2
    refine ⟨v, part_leaf hag (by simp [e3, q1]) w, .inr ⟨hag, ?_⟩⟩
    obtain ⟨p, hp⟩ := List.length_eq_one_iff.1 (show ((xs.drop off).take 1).length = 1 by simp; omega)
    rw [hp] at h3 ⊢
    obtain ⟨v', vs', e, hv', _⟩ := VRs.cons_inv h3
    simp only [List.cons.injEq] at e
    obtain ⟨rfl, _⟩ := e
    exact ⟨p, rfl, hv'⟩

theorem eq_type {ι : Loc} : ∀ (d : Nat) (t : TypeId) (ks : List LK), eqKs P d t = some ks → ∀ (D : Nat), d ≤ D → ∀ (x y : List AV) (a b : Value), CellsOf P ι t x a → CellsOf P ι t y b →
    x.length = ks.length → y.length = ks.length → ∀ (ks' : List LK) (x' y' : List AV) (r : Bool) (w : World), eqCells (ks ++ ks') (x ++ x') (y ++ y') = some r →
    ∃ r1, (Op.equalIn D t a b).run P w = .ok r1 w ∧ Goes r1 r (eqCells ks' x' y')
  | 0, _, _, h => by simp [eqKs] at h
  | d + 1, t, ks, h => by
    intro D hD x y a b hx hy lx ly ks' x' y' r w hc
    obtain ⟨D, rfl⟩ : ∃ k, D = k + 1 := ⟨D - 1, by omega⟩
    have h0 := h
    simp only [eqKs] at h
    have leaf : ∀ {k : LK}, ks = [k] → aggT P t = some false → ∃ p q, x = [p] ∧ y = [q] ∧ VR ι p a ∧ VR ι q b := fun _ hag => by
      rcases hx with ⟨h1, _⟩ | ⟨_, p, rfl, hp⟩
      · rw [hag] at h1; cases h1
      rcases hy with ⟨h1, _⟩ | ⟨_, q, rfl, hq⟩
      · rw [hag] at h1; cases h1
      exact ⟨p, q, rfl, rfl, hp, hq⟩
    split at h
    · rename_i h1 h2
      simp only [Option.some.injEq] at h
      obtain ⟨p, q, rfl, rfl, hp, hq⟩ := leaf h.symm (by simp [aggT, h1])
      subst h
      simp only [List.cons_append, List.nil_append] at hc
      cases p <;> cases q <;> simp only [eqCells] at hc <;> try cases hc
      simp only [VR] at hp hq
      subst hp hq
      exact ⟨_, run_equalIn_bool' w D t _ _ h1, Goes.mk_eq hc⟩
    · rename_i k h1 h2
      simp only [Option.some.injEq] at h
      obtain ⟨p, q, rfl, rfl, hp, hq⟩ := leaf h.symm (by simp [aggT, h1])
      subst h
      simp only [List.cons_append, List.nil_append] at hc
      cases p <;> cases q <;> simp only [eqCells] at hc <;> try cases hc
      simp only [VR] at hp hq
      subst hp hq
      rename_i k1 n1 k2 n2
      cases hk : kbeq k1 k2 with
      | false => simp [hk] at hc
      | true =>
        obtain rfl := kbeq_eq hk
        simp only [hk, cond_true, ieq_eq] at hc
        exact ⟨_, run_equalIn_int w D t k1 k _ _ h1, Goes.mk_eq hc⟩
    · rename_i h1 h2
      simp only [Option.some.injEq] at h
      obtain ⟨p, q, rfl, rfl, hp, hq⟩ := leaf h.symm (by simp [aggT, h1])
      subst h
      simp only [List.cons_append, List.nil_append] at hc
      cases p <;> cases q <;> simp only [eqCells] at hc <;> try cases hc
      simp only [VR] at hp hq
      obtain ⟨s1, rfl, e1, _⟩ := hp
      obtain ⟨s2, rfl, e2, _⟩ := hq
      obtain ⟨q, hq, hc⟩ := str_eq e1 e2 hc
      exact ⟨_, run_equalIn_string w D t _ _ h1, Goes.mk_eq (by rw [ByteArray.toList_eq, ByteArray.toList_eq]; rw [show (s1.data.toList == s2.data.toList) = q from hq]; exact hc)⟩
    · rename_i fs n h1 h2
      cases hp : P.stoodInHeld t with
      | true => simp [hp] at h
      | false =>
        simp only [hp, cond_false] at h
        split at h
        · rename_i l hl
          rw [nbeq] at h
          by_cases e : l.length = n
          · simp only [e, decide_true, cond_true, Option.some.injEq] at h
            subst h
            have hag : aggT P t = some true := by simp [aggT, h1]
            rcases hx with ⟨_, va, rfl, hx⟩ | ⟨h3, _⟩
            · rcases hy with ⟨_, vb, rfl, hy⟩ | ⟨h3, _⟩
              · have hfo : P.fieldsOf t = fs := by simp [Program.fieldsOf, h1]
                rw [run_equalIn_struct w D t _ _ (by rw [hfo]; exact h1) hp, hfo]
                -- the fields
                have key : ∀ (gs : List Field) (off : Nat) (ls : List LK), eqFs P (eqKs P d) off gs = some ls → off + ls.length = l.length →
                    eqCells (ls ++ ks') (x.drop off ++ x') (y.drop off ++ y') = some r →
                    ∃ r1, (Op.eqFields D ⟨va⟩ ⟨vb⟩ gs).run P w = .ok r1 w ∧ Goes r1 r (eqCells ks' x' y') := by
                  intro gs
                  induction gs with
                  | nil =>
                    intro off ls hls hoff hcc
                    simp only [eqFs, Option.some.injEq] at hls
                    subst hls
                    simp only [List.length_nil, Nat.add_zero] at hoff
                    rw [List.drop_of_length_le (by omega), List.drop_of_length_le (by omega)] at hcc
                    exact ⟨true, by simp [Op.eqFields], fun h => (by cases h), fun _ => hcc⟩
                  | cons g gs ih =>
                    intro off ls hls hoff hcc
                    simp only [eqFs] at hls
                    split at hls
                    · rename_i k1 hk1
                      cases hcond : Nat.beq g.offset off && g.name != "_" with
                      | false => simp [hcond] at hls
                      | true =>
                        simp only [hcond, cond_true] at hls
                        simp only [Bool.and_eq_true, bne_iff_ne, nbeq, decide_eq_true_eq] at hcond
                        obtain ⟨ho, hname⟩ := hcond
                        split at hls
                        · rename_i l2 hl2
                          simp only [Option.some.injEq] at hls
                          subst hls
                          simp only [List.length_append] at hoff
                          obtain ⟨pa, hpa, ca⟩ := part_any (w := w) (off := off) hk1 hx (by omega)
                          obtain ⟨pb, hpb, cb⟩ := part_any (w := w) (off := off) hk1 hy (by omega)
                          have dx : x.drop off = (x.drop off).take k1.length ++ x.drop (off + k1.length) := by
                            rw [← List.drop_drop, List.take_append_drop]
                          have dy : y.drop off = (y.drop off).take k1.length ++ y.drop (off + k1.length) := by
                            rw [← List.drop_drop, List.take_append_drop]
                          rw [dx, dy, List.append_assoc, List.append_assoc, List.append_assoc] at hcc
                          obtain ⟨r1, hr1, hg1, hg2⟩ := eq_type d g.type k1 hk1 D (by omega) _ _ pa pb ca cb (by simp; omega) (by simp; omega) _ _ _ r w hcc
                          simp only [Op.eqFields, ne_eq, hname, not_false_eq_true, if_true, Sem.run_bind, ho, hpa, hpb, Result.andThen_ok, hr1]
                          cases r1 with
                          | false => exact ⟨false, by simp, fun _ => hg1 rfl, fun h => by cases h⟩
                          | true =>
                            obtain ⟨r2, hr2, hgo⟩ := ih (off + k1.length) l2 hl2 (by omega) (hg2 rfl)
                            exact ⟨r2, by simpa using hr2, hgo⟩
                        · cases hls
                    · cases hls
                exact key fs.toList 0 l hl (by simp) (by simpa using hc)
              · rw [hag] at h3; cases h3
            · rw [hag] at h3; cases h3
          · simp [e] at h
        · cases h
    · cases h

theorem eqa_sound {n : Bool} {t : TypeId} {ks : List LK} {x y v : AV} {a b : Value} {ι : Loc} (h : evEqa n ks x y = some v) (hx : VR ι x a) (hy : VR ι y b) (w : World)
    (hk : eqKs P 20 t = some ks) {fs : Array Field} (ht : P.underlying t = some (.struct fs)) :
    ∃ u, (binOp (if n then .neq else .eql) t a b).run P w = .ok u w ∧ VR ι v u := by
  cases x <;> try (simp [evEqa] at h; done)
  cases y <;> try (simp [evEqa] at h; done)
  simp only [evEqa] at h
  rename_i x y
  cases hl : Nat.beq x.length ks.length && Nat.beq y.length ks.length with
  | false => simp [hl] at h
  | true =>
    simp only [hl, cond_true] at h
    simp only [Bool.and_eq_true, nbeq, decide_eq_true_eq] at hl
    split at h
    · rename_i r hr
      simp only [Option.some.injEq] at h
      subst h
      simp only [VR] at hx hy
      obtain ⟨va, rfl, hx⟩ := hx
      obtain ⟨vb, rfl, hy⟩ := hy
      have hag : aggT P t = some true := by simp [aggT, ht]
      refine ⟨.bool (bxor n r), ?_, by simp only [VR]⟩
      obtain ⟨r1, h1, h2, h3⟩ := eq_type 20 t ks hk 10000 (by omega) x y _ _ (.inl ⟨hag, va, rfl, hx⟩) (.inl ⟨hag, vb, rfl, hy⟩) hl.1 hl.2 [] [] [] r w (by simpa using hr)
      have e : r1 = r := by
        cases r1 with
        | false => exact (h2 rfl).symm
        | true => have := h3 rfl; simp only [eqCells, Option.some.injEq] at this; exact this
      subst e
      cases n
      · simp only [Bool.false_eq_true, if_false, run_eql_struct, h1, Result.andThen_ok, bxor, cond_false]
      · simp only [if_true, run_neq_struct, h1, Result.andThen_ok, bxor, cond_true]
    · cases h

/-! ### the other pure operations -/
theorem fold_set (off : Nat) : ∀ (c : List Value) (k : Nat) (vs : List Value), off + k + c.length ≤ vs.length →
    (c.zipIdx k).foldl (fun (cs : Array Value) (p : Value × Nat) => cs.setIfInBounds (off + p.2) p.1) ⟨vs⟩ = ⟨vs.take (off + k) ++ c ++ vs.drop (off + k + c.length)⟩
  | [], k, vs, _ => by simp
  | v :: c, k, vs, h => by
    simp only [List.length_cons] at h
    simp only [List.zipIdx_cons, List.foldl_cons, List.setIfInBounds_toArray]
    rw [fold_set off c (k + 1) _ (by simp; omega)]
    have := list_over vs v c (off + k) (by omega)
    congr 1

theorem over_VRs {ι : Loc} {o : Nat} {cs c r : List AV} {vs us : List Value} (h : over o cs c = some r) (hv : VRs ι cs vs) (hu : VRs ι c us) :
    (c ≠ [] → o + us.length ≤ vs.length) ∧ (o + us.length ≤ vs.length → VRs ι r (vs.take o ++ us ++ vs.drop (o + us.length))) := by
  by_cases hc : c = []
  · subst hc
    have := VRs.nil_inv hu
    subst this
    rw [over_nil h]
    refine ⟨fun h => absurd rfl h, fun _ => by simpa using hv⟩
  · obtain ⟨pre, mid, post, rfl, rfl, h1, h2⟩ := over_spec h hc
    obtain ⟨v1, u1, rfl, g1, g2⟩ := VRs.split hv
    obtain ⟨v2, v3, rfl, g3, g4⟩ := VRs.split g1
    have l1 := g3.length
    have l2 := g4.length
    have l3 := hu.length
    refine ⟨fun _ => by simp; omega, fun _ => ?_⟩
    have e1 : (v2 ++ v3 ++ u1).take o = v2 := by
      rw [List.append_assoc, show o = v2.length by omega, List.take_left]
    have e2 : (v2 ++ v3 ++ u1).drop (o + us.length) = u1 := by
      rw [show o + us.length = (v2 ++ v3).length by simp; omega, List.drop_left]
    rw [e1, e2]
    exact (g3.append hu).append g2

theorem fillP_sound {ι : Loc} {env : Env} {a : Act} (he : EnvR ι env a.tmps) {place : Nat → Option (Nat × Nat)} : ∀ {ps : List (Nat × Operand)} {l : List (Nat × Nat × Opd)} {cs r : List AV} {vs : List Value},
    cParts place ps = some l → fillP env cs l = some r → VRs ι cs vs → ∃ us, Instr.fill place ⟨vs⟩ (ps.map fun (i, x) => (i, a.eval x)) = some ⟨us⟩ ∧ VRs ι r us
  | [], l, cs, r, vs, hp, hf, hv => by
    simp only [cParts, Option.some.injEq] at hp
    subst hp
    simp only [fillP, Option.some.injEq] at hf
    subst hf
    exact ⟨vs, rfl, hv⟩
  | (i, x) :: ps, l, cs, r, vs, hp, hf, hv => by
    simp only [cParts] at hp
    split at hp
    · rename_i o n y l' hpl hy hl
      simp only [Option.some.injEq] at hp
      subst hp
      simp only [fillP] at hf
      have hxv := (opd_sound hy he).cells
      generalize (y.ev env).cells = c at hf hxv
      have hlen := hxv.length
      cases hb : Nat.beq c.length (n + 1) with
      | false => simp [hb] at hf
      | true =>
        simp only [hb, cond_true] at hf
        rw [nbeq, decide_eq_true_eq] at hb
        split at hf
        · rename_i cs' hov
          obtain ⟨o1, o2⟩ := over_VRs hov hv hxv
          generalize hvc : (a.eval x).cells = vc at hxv hlen o1 o2
          have hfit : o + vc.toList.length ≤ vs.length := by
            exact o1 (fun e => by subst e; simp at hb)
          obtain ⟨us, h1, h2⟩ := fillP_sound he hl hf (o2 hfit)
          refine ⟨us, ?_, h2⟩
          simp only [List.map_cons, Instr.fill, hpl, hvc]
          rw [if_neg (by simp only [Array.length_toList] at hlen hfit; simp; omega)]
          rw [← h1]
          congr 1
          have := fold_set o vc.toList 0 vs (by simpa using hfit)
          simp only [Nat.add_zero] at this
          rw [← this, ← Array.foldl_toList, Array.toList_zipIdx]
        · cases hf
    · cases hp

theorem pick_sound {ι : Loc} {c x y v : AV} {cv xv yv : Value} (h : evPick c x y = some v) (hc : VR ι c cv) (hx : VR ι x xv) (hy : VR ι y yv) :
    ∃ b, cv = .bool b ∧ VR ι v (if b then xv else yv) := by
  cases c <;> try (simp [evPick] at h; done)
  rename_i b
  simp only [VR] at hc
  subst hc
  cases b <;> simp only [evPick, Option.some.injEq] at h <;> subst h
  · exact ⟨false, rfl, by simpa using hy⟩
  · exact ⟨true, rfl, by simpa using hx⟩

theorem bnd_sound {ι : Loc} {x : AV} {v : Value} {y y' i : Nat} (h : bnd x y = some i) (hy : y ≤ y') (hv : VR ι x v) (code : BoundsCode) (w : World) : (Instr.sliceBound v y' code).run P w = .ok i w ∧ i ≤ y := by
  cases x <;> try (simp [bnd] at h; done)
  rename_i k n
  cases n <;> try (simp [bnd] at h; done)
  rename_i m
  simp only [bnd, nble] at h
  by_cases hm : m ≤ y
  · simp only [hm, decide_true, cond_true, Option.some.injEq] at h
    subst h
    simp only [VR] at hv
    subst hv
    refine ⟨?_, hm⟩
    simp only [Instr.sliceBound, asIntOf, Sem.run_bind, Sem.run_pure, Result.andThen_ok]
    rw [if_pos (by simp only [Int.ofNat_eq_natCast]; omega)]
    rfl
  · simp [hm] at h

theorem bndO_none {env : Env} {y d : Nat} : bndO env none y d = some d := rfl

theorem slBounds_sound {ι : Loc} {env : Env} {a : Act} (he : EnvR ι env a.tmps) {isS : Bool} {len cap : Nat} {lo hi mx : Option Operand} {lo' hi' mx' : Option Opd} (hlo : cOpdO lo = some lo') (hhi : cOpdO hi = some hi') (hmx : cOpdO mx = some mx')
    {c0 y m h l : Nat} (hc0 : c0 ≤ cap) (h1 : bndO env mx' c0 cap = some m) (h2 : bndO env hi' y len = some h) (hym : y ≤ m) (h3 : bndO env lo' h 0 = some l) (hm : mx' = none ∨ hi' ≠ none) (hlc : len ≤ cap) (w : World) :
    (Instr.sliceBounds isS len cap (lo.map a.eval) (hi.map a.eval) (mx.map a.eval)).run P w = .ok (l, h, m) w ∧ l ≤ h ∧ h ≤ m ∧ m ≤ cap := by
  have opd : ∀ {x : Option Operand} {x' : Option Opd}, cOpdO x = some x' → (x = none ∧ x' = none) ∨ (∃ y y', x = some y ∧ x' = some y' ∧ cOpd y = some y') := fun {x x'} hx => by
    cases x with
    | none => simp only [cOpdO, Option.some.injEq] at hx; exact .inl ⟨rfl, hx.symm⟩
    | some y =>
      simp only [cOpdO, Option.map_eq_some_iff] at hx
      obtain ⟨z, hz, rfl⟩ := hx
      exact .inr ⟨y, z, rfl, rfl, hz⟩
  have low : l ≤ h ∧ ((lo = none ∧ l = 0) ∨ (∃ y, lo = some y ∧ ∀ code, (Instr.sliceBound (a.eval y) h code).run P w = .ok l w)) := by
    rcases opd hlo with ⟨rfl, rfl⟩ | ⟨y, y', rfl, rfl, hy⟩
    · simp only [bndO, Option.some.injEq] at h3
      subst h3
      exact ⟨Nat.zero_le _, .inl ⟨rfl, rfl⟩⟩
    · exact ⟨(bnd_sound h3 (Nat.le_refl _) (opd_sound hy he) .index w (P := P)).2, .inr ⟨y, rfl, fun code => (bnd_sound h3 (Nat.le_refl _) (opd_sound hy he) code w).1⟩⟩
  obtain ⟨g2, low⟩ := low
  rcases opd hmx with ⟨rfl, rfl⟩ | ⟨y, y', rfl, rfl, hy⟩
  · simp only [bndO, Option.some.injEq] at h1
    subst h1
    rcases opd hhi with ⟨rfl, rfl⟩ | ⟨z, z', rfl, rfl, hz⟩
    · simp only [bndO, Option.some.injEq] at h2
      subst h2
      refine ⟨?_, g2, hlc, Nat.le_refl _⟩
      rcases low with ⟨rfl, rfl⟩ | ⟨y, rfl, g1⟩
      · simp [Instr.sliceBounds]
      · simp [Instr.sliceBounds, g1]
    · obtain ⟨g3, g4⟩ := bnd_sound (P := P) h2 hym (opd_sound hz he) (if isS then BoundsCode.sliceAcap else BoundsCode.sliceAlen) w
      refine ⟨?_, g2, Nat.le_trans g4 hym, Nat.le_refl _⟩
      rcases low with ⟨rfl, rfl⟩ | ⟨y, rfl, g1⟩
      · simp [Instr.sliceBounds, g3]
      · simp [Instr.sliceBounds, g3, g1]
  · obtain ⟨g5, g6⟩ := bnd_sound (P := P) h1 hc0 (opd_sound hy he) (if isS then BoundsCode.slice3Acap else BoundsCode.slice3Alen) w
    rcases opd hhi with ⟨rfl, rfl⟩ | ⟨z, z', rfl, rfl, hz⟩
    · rcases hm with hm | hm
      · cases hm
      · exact absurd rfl hm
    · obtain ⟨g3, g4⟩ := bnd_sound (P := P) h2 hym (opd_sound hz he) .slice3B w
      refine ⟨?_, g2, Nat.le_trans g4 hym, Nat.le_trans g6 hc0⟩
      rcases low with ⟨rfl, rfl⟩ | ⟨y, rfl, g1⟩
      · simp [Instr.sliceBounds, g5, g3]
      · simp [Instr.sliceBounds, g5, g3, g1]

/-- a slice expression's value, by its bounds -/
def slVal (a : Addr) (size l h m : Nat) : Value := .slice (some (if m = l then a else a.add (l * size))) (h - l) (m - l)

theorem mkSl_sound {ι : Loc} {i : LocI} {p : Pos} {esz o lo hi n cap m : Nat} {c : Cap} {mx : Option Nat} (hi' : ι p = some i) (hc : capR i c cap) (hn : n ≤ cap) (hlh : lo ≤ hi) (hhm : hi ≤ m)
    (hmx : (mx = some m ∧ m ≤ cap) ∨ (mx = none ∧ m = cap ∧ (∀ k, c = .un k → hi ≤ n))) : VR ι (mkSl esz p o lo hi n c mx) (slVal ⟨i.blk, i.base + o, none⟩ esz lo hi m) := by
  have kn : ∀ {m : Nat}, hi ≤ m → VR ι (bif Nat.beq m lo then .sl p o (hi - lo) (.kn 0) else .sl p (o + lo * esz) (hi - lo) (.kn (m - lo))) (slVal ⟨i.blk, i.base + o, none⟩ esz lo hi m) := fun {m} hm => by
    rw [nbeq]
    by_cases e : m = lo
    · subst e
      simp only [decide_true, cond_true, slVal, if_true, VR]
      exact ⟨i, hi', _, rfl, by simp [capR], by omega⟩
    · simp only [e, decide_false, cond_false, slVal, if_false, VR, add_none]
      exact ⟨i, hi', _, by rw [Nat.add_assoc], by simp [capR], by omega⟩
  rcases hmx with ⟨rfl, _⟩ | ⟨rfl, rfl, hu⟩
  · exact kn hhm
  · cases c with
    | kn c =>
      simp only [capR] at hc
      subst hc
      exact kn hhm
    | un k =>
      have hhn := hu k rfl
      simp only [capR] at hc
      simp only [mkSl, nbeq, blt_iff]
      by_cases e : lo = 0
      · subst e
        simp only [decide_true, cond_true, VR, slVal, Nat.sub_zero, Nat.zero_mul]
        refine ⟨i, hi', m, ?_, by simp only [capR]; exact hc, hhm⟩
        split
        · rfl
        · rw [add_none, Nat.add_zero]
      · simp only [e, decide_false, cond_false]
        by_cases e2 : lo < n
        · simp only [e2, decide_true, cond_true, VR, slVal]
          rw [if_neg (by omega), add_none]
          exact ⟨i, hi', _, by rw [Nat.add_assoc], by simp only [capR]; omega, by omega⟩
        · simp only [e2, decide_false, cond_false, VR, slVal]
          have : hi - lo = 0 := by omega
          rw [this]
          exact ⟨_, _, rfl⟩

theorem slRow_sound {ι : Loc} {env : Env} {a : Act} (he : EnvR ι env a.tmps) {isS : Bool} {i : LocI} {p : Pos} {esz o n cap : Nat} {c : Cap} {lo hi mx : Option Operand} {lo' hi' mx' : Option Opd}
    (hlo : cOpdO lo = some lo') (hhi : cOpdO hi = some hi') (hmx : cOpdO mx = some mx') (hloc : ι p = some i) (hc : capR i c cap) (hn : n ≤ cap) {v : AV} (h : slRow env esz p o n c lo' hi' mx' = some v) (w : World) :
    ∃ l h' m, (Instr.sliceBounds isS n cap (lo.map a.eval) (hi.map a.eval) (mx.map a.eval)).run P w = .ok (l, h', m) w ∧ VR ι v (slVal ⟨i.blk, i.base + o, none⟩ esz l h' m) := by
  have hleast : c.least n ≤ cap := by
    cases c with
    | kn c => simp only [capR] at hc; simp [Cap.least, hc]
    | un k => simpa [Cap.least] using hn
  have hun : ∀ k, c = .un k → c.least n = n := fun k hk => by subst hk; rfl
  cases mx' with
  | some mo =>
    simp only [slRow] at h
    split at h
    · cases h
    · rename_i ho
      split at h
      · rename_i m hm
        split at h
        · rename_i h' hh
          split at h
          · rename_i l hl
            simp only [Option.some.injEq] at h
            subst h
            obtain ⟨g1, g2, g3, g4⟩ := slBounds_sound he (isS := isS) (P := P) hlo hhi hmx (len := n) (cap := cap) (c0 := c.least n) (y := m) (m := m) hleast (by simpa [bndO] using hm) (by simpa [bndO] using hh) (Nat.le_refl _) hl (.inr (by simp)) hn w
            exact ⟨l, h', m, g1, mkSl_sound hloc hc hn g2 g3 (.inl ⟨rfl, g4⟩)⟩
          · cases h
        · cases h
      · cases h
  | none =>
    simp only [slRow] at h
    split at h
    · rename_i h' hh
      split at h
      · rename_i l hl
        simp only [Option.some.injEq] at h
        subst h
        obtain ⟨g1, g2, g3, g4⟩ := slBounds_sound he (isS := isS) (P := P) hlo hhi hmx (len := n) (cap := cap) (c0 := c.least n) (y := c.least n) (m := cap) hleast rfl hh hleast hl (.inl rfl) hn w
        refine ⟨l, h', cap, g1, mkSl_sound hloc hc hn g2 g3 (.inr ⟨rfl, rfl, fun k hk => ?_⟩)⟩
        rw [hun k hk] at hh
        cases hi' with
        | none => simp only [bndO, Option.some.injEq] at hh; omega
        | some z =>
          simp only [bndO] at hh
          unfold bnd at hh
          split at hh
          · rw [nble] at hh
            rename_i m _ 
            by_cases hm : m ≤ n
            · simp only [hm, decide_true, cond_true, Option.some.injEq] at hh; omega
            · simp [hm] at hh
          · cases hh
      · cases h
    · cases h

theorem bind_some {α β : Type} {x : Option α} {f : α → Option β} {b : β} (h : (x >>= f) = some b) : ∃ a, x = some a ∧ f a = some b := by
  cases x with
  | none => cases h
  | some a => exact ⟨a, rfl, h⟩

theorem evIdx_sound {ι : Loc} {n j : Nat} {x : AV} {v : Value} (h : idx n x = some j) (hv : VR ι x v) : ∃ k, v = .int k (Int.ofNat j) ∧ j < n := by
  cases x <;> try (simp [idx] at h; done)
  rename_i k m
  cases m <;> try (simp [idx] at h; done)
  rename_i m
  simp only [idx, blt_iff] at h
  by_cases hm : m < n
  · simp only [hm, decide_true, cond_true, Option.some.injEq] at h
    subst h
    simp only [VR] at hv
    exact ⟨k, hv, hm⟩
  · simp [hm] at h

theorem cut_VRs {ι : Loc} {o n : Nat} {l r : List AV} {vs : List Value} (h : cut o n l = some r) (hv : VRs ι l vs) : VRs ι r ((vs.drop o).take n) ∧ o + n ≤ vs.length := by
  obtain ⟨pre, post, rfl, h1, h2⟩ := cut_spec h
  obtain ⟨v1, u1, rfl, g1, g2⟩ := VRs.split hv
  obtain ⟨v2, v3, rfl, g3, g4⟩ := VRs.split g1
  have l1 := g3.length
  have l2 := g4.length
  refine ⟨?_, by simp; omega⟩
  rw [List.append_assoc, show o = v2.length by omega, List.drop_left, show n = v3.length by omega, List.take_left]
  exact g4

end Go.Ev
