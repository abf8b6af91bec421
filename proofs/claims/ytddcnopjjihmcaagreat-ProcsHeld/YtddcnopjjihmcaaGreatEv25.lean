import Derived.Test.YtddcnopjjihmcaaGreatEv24
set_option linter.unusedSectionVars false
set_option linter.unusedVariables false
set_option linter.unusedSimpArgs false
namespace Go.Ev
variable {X : Type} [T : SymT] [V : SymV] {P : Program} {R : XRel X}

def doneOf (listed : Array Bool) (i : Nat) : Prop := listed[i]? = some true

def undone (N : Nat) (listed : Array Bool) : Nat := (List.range N).countP fun j => !(listed.getD j true)

theorem countP_less {α : Type} {f g : α → Bool} : ∀ {l : List α}, (∀ x ∈ l, g x = true → f x = true) → (∃ x ∈ l, f x = true ∧ g x = false) → l.countP g + 1 ≤ l.countP f
  | [], _, h => by obtain ⟨x, hx, _⟩ := h; cases hx
  | a :: l, hs, h => by
    obtain ⟨x, hx, h1, h2⟩ := h
    have hmono : l.countP g ≤ l.countP f := List.countP_mono_left fun y hy => hs y (List.mem_cons_of_mem _ hy)
    rw [List.countP_cons, List.countP_cons]
    rcases List.mem_cons.1 hx with rfl | hx
    · rw [h1, h2]
      simp
      omega
    · have ih := countP_less (f := f) (g := g) (l := l) (fun y hy => hs y (List.mem_cons_of_mem _ hy)) ⟨x, hx, h1, h2⟩
      have := hs a (List.mem_cons_self ..)
      cases hg : g a with
      | false => simp; omega
      | true => rw [this hg]; simp; omega

theorem doneOf_set {listed : Array Bool} {i : Nat} (hi : i < listed.size) : doneOf (listed.setIfInBounds i true) = Two (doneOf listed) i := by
  funext j
  apply propext
  simp only [doneOf, Two, Array.getElem?_setIfInBounds]
  by_cases h : i = j
  · subst h
    simp [hi]
  · rw [if_neg h]
    constructor
    · exact .inr
    · rintro (e | e)
      · exact absurd e.symm h
      · exact e

theorem not_done {listed : Array Bool} {i : Nat} (h : listed.getD i true = false) : i < listed.size ∧ ¬ doneOf listed i := by
  rw [Array.getD_eq_getD_getElem?] at h
  cases hg : listed[i]? with
  | none => rw [hg] at h; cases h
  | some b =>
    rw [hg] at h
    simp only [Option.getD_some] at h
    subst h
    exact ⟨(Array.getElem?_eq_some_iff.1 hg).1, by simp [doneOf, hg]⟩

theorem is_done {listed : Array Bool} {i : Nat} (h : listed.getD i false = true) : doneOf listed i := by
  rw [Array.getD_eq_getD_getElem?] at h
  cases hg : listed[i]? with
  | none => rw [hg] at h; cases h
  | some b =>
    rw [hg] at h
    simp only [Option.getD_some] at h
    subst h
    exact hg

theorem getD_done {listed : Array Bool} {i : Nat} (h : doneOf listed i) : listed.getD i false = true := by
  rw [Array.getD_eq_getD_getElem?, show listed[i]? = some true from h]
  rfl

theorem getD_not_done {listed : Array Bool} {i : Nat} (hi : i < listed.size) (h : ¬ doneOf listed i) : listed.getD i true = false := by
  rw [Array.getD_eq_getD_getElem?]
  have hg : listed[i]? = some listed[i] := Array.getElem?_eq_getElem hi
  cases hb : listed[i] with
  | true => exact absurd (by rw [doneOf, hg, hb]) h
  | false => rw [hg, hb]; rfl

theorem undone_set {N i : Nat} {listed : Array Bool} (hs : listed.size = N) (h : listed.getD i true = false) : undone N (listed.setIfInBounds i true) + 1 ≤ undone N listed := by
  have hi := (not_done h).1
  refine countP_less (fun j _ hj => ?_) ⟨i, List.mem_range.2 (by omega), by simp [h], ?_⟩
  · simp only [Bool.not_eq_true'] at hj ⊢
    rw [Array.getD_eq_getD_getElem?, Array.getElem?_setIfInBounds] at hj
    by_cases e : i = j
    · subst e; rw [if_pos rfl, if_pos hi] at hj; cases hj
    · rw [if_neg e, ← Array.getD_eq_getD_getElem?] at hj; exact hj
  · rw [Array.getD_eq_getD_getElem?, Array.getElem?_setIfInBounds, if_pos rfl, if_pos hi]
    rfl

theorem mem_edges {o : Oper} {e : Edge} (he : e ∈ o.after) (hb : Region.binds .any e = true) : e.on ∈ edges o := by
  unfold edges
  exact List.mem_map.2 ⟨e, List.mem_filter.2 ⟨by simpa using he, hb⟩, rfl⟩

theorem of_mem_edges {o : Oper} {i : Nat} (h : i ∈ edges o) : ∃ e ∈ o.after, Region.binds .any e = true ∧ e.on = i := by
  unfold edges at h
  obtain ⟨e, he, rfl⟩ := List.mem_map.1 h
  obtain ⟨h1, h2⟩ := List.mem_filter.1 he
  exact ⟨e, by simpa using h1, h2, rfl⟩

theorem Rel.congr {ι : Loc} {F : Foot} {h h' : Heap X} {w : World} (r : Rel P R ι F h w) (hn : h'.next = h.next) (hg : ∀ x, h'.m.get x = h.m.get x) : Rel P R ι F h' w :=
  ⟨fun x o hx => r.obj x o (by rw [← hg]; exact hx), fun x x' o o' b h1 h2 => r.disj x x' o o' b (by rw [← hg]; exact h1) (by rw [← hg]; exact h2), fun x hx => by
    have := r.fresh x (by rw [← hn]; exact hx)
    exact ⟨this.1, by rw [hg]; exact this.2⟩⟩

theorem Ev.congr {ι0 ι : Loc} {F0 F : Foot} {h0 h h' : Heap X} {w0 w : World} (e : Ev ι0 F0 h0 w0 ι F h w) (hn : h'.next = h.next) (hg : ∀ x, h'.m.get x = h.m.get x) : Ev ι0 F0 h0 w0 ι F h' w :=
  ⟨e.dom, by rw [hn]; exact e.nx, e.size, e.frame, fun x o b hx => e.foot x o b (by rw [← hg]; exact hx), fun x o hlt hx => e.old x o hlt (by rw [← hg]; exact hx), e.io⟩

theorem EnvR.congr {ι : Loc} {env env' : Env} {tmps : Array Value} (he : EnvR ι env tmps) (h : ∀ t, env'.get t = env.get t) : EnvR ι env' tmps := fun t => by
  have := he t
  simp only [Opd.ev] at this ⊢
  rw [h]
  exact this

section
variable {call : CallF X} {n : Nat} {ops : Array Oper} {l : List DOper} {T : PT Nat} {st : Nat → DSt X} {z : Was X} {p : Nat} {D : Nat → Prop} {ι : Loc} {F : Foot} {h : Heap X} {env : Env} {a : Act} {w : World}

/-- an effect that is ready: all that stands ahead of it is done -/
theorem Inv.advTo (H : Reg P call n ops l T st) {k i : Nat} {d : DOper} (hd : l[k]? = some d) (he : isEffD d = true) (hi : i ∈ d.ixs) (hnd : ¬ D i) (hrd : ∀ j, (bmOf T i).testBit j = true → D j) : ∀ (m p : Nat), p + m = k → Inv P R l T ops.size st z p D ι F h env a w → Inv P R l T ops.size st z k D ι F h env a w
  | 0, p, hp, I => by subst hp; exact I
  | m + 1, p, hp, I => by
    have hk := lt_of_get hd
    have hd' : l[p]? = some l[p] := List.getElem?_eq_getElem (by omega)
    have hdn : Don l D p := ⟨_, hd', fun j hj => hrd j (H.eff k d i p _ j hd he hi hd' (by omega) hj)⟩
    have hne : isEffD l[p] = false := by
      cases he' : isEffD l[p] with
      | false => rfl
      | true =>
        obtain ⟨i', hi'⟩ := (H.item p _ hd').ne
        obtain ⟨d', hd'', hall⟩ := hdn
        rw [hd'] at hd''
        cases hd''
        exact absurd (hall i' hi') (I.effs p _ i' (Nat.le_refl _) hd' he' hi')
    exact Inv.advTo H hd he hi hnd hrd m (p + 1) (by omega) (I.adv H hd' hdn hne)

theorem Inv.advAll (H : Reg P call n ops l T st) (hall : ∀ j, j < ops.size → D j) : ∀ (m p : Nat), p + m = l.length → Inv P R l T ops.size st z p D ι F h env a w → Inv P R l T ops.size st z l.length D ι F h env a w
  | 0, p, hp, I => by rw [← hp]; exact I
  | m + 1, p, hp, I => by
    have hd' : l[p]? = some l[p] := List.getElem?_eq_getElem (by omega)
    have hlt : ∀ i ∈ (l[p]).ixs, D i := by
      intro i hi
      refine hall i ?_
      cases H.item p _ hd' with
      | one i' o h1 h2 =>
        rw [h1] at hi
        simp only [List.mem_singleton] at hi
        subst hi
        exact (Array.getElem?_eq_some_iff.1 h2).1
      | lit j i' is tm o t kvs h1 h2 _ _ _ _ _ h5 =>
        rw [h1] at hi
        rcases List.mem_cons.1 hi with rfl | hi
        · exact (Array.getElem?_eq_some_iff.1 h2).1
        · obtain ⟨r, hr⟩ := List.mem_iff_getElem?.1 hi
          obtain ⟨o', _, _, _, _, _, ho', _⟩ := (cIns_spec h5).2 r i hr
          exact (Array.getElem?_eq_some_iff.1 ho').1
    have hdn : Don l D p := ⟨_, hd', hlt⟩
    have hne : isEffD l[p] = false := by
      cases he' : isEffD l[p] with
      | false => rfl
      | true =>
        obtain ⟨i', hi'⟩ := (H.item p _ hd').ne
        exact absurd (hlt i' hi') (I.effs p _ i' (Nat.le_refl _) hd' he' hi')
    exact Inv.advAll H hall m (p + 1) (by omega) (I.adv H hd' hdn hne)

/-- **all is done** -/
theorem Inv.finish (H : Reg P call n ops l T st) (hall : ∀ j, j < ops.size → D j) (I : Inv P R l T ops.size st z p D ι F h env a w) :
    St P R z.n z.b0 ι F (st l.length).env (st l.length).heap a w ∧ Ev z.ι z.F z.h z.w ι F (st l.length).heap w := by
  have hp := I.ple
  have J := I.advAll H hall (l.length - p) p (by omega)
  have hdon : ∀ (k : Nat) (d : DOper), l[k]? = some d → Don l D k := fun k d hd => J.pre k (lt_of_get hd)
  have hg : ∀ x, (st l.length).heap.m.get x = h.m.get x := fun x => by
    cases hx : h.m.get x with
    | none =>
      cases hs : (st l.length).heap.m.get x with
      | none => rfl
      | some o => rw [J.sub1 x o hs] at hx; cases hx
    | some o =>
      rcases J.only x o hx with hh | ⟨k', d', q, q1, q2, _⟩ | ⟨k', d', q, q2, _, _, q5, _⟩
      · exact hh
      · have := lt_of_get q2; omega
      · exact absurd (hdon k' d' q2) q5
  have henv : ∀ t, (st l.length).env.get t = env.get t := fun t => by
    by_cases hw : ∃ (kw : Nat) (dw : DOper), l[kw]? = some dw ∧ dw.io.dst = some t
    · obtain ⟨kw, dw, hdw, hdt⟩ := hw
      rw [J.env2 kw dw t hdw hdt (hdon kw dw hdw)]
      have hk := lt_of_get hdw
      exact H.envKeep' (by omega) (Nat.le_refl _) fun k' d' h1 h2 hd' ht' => by have := H.one k' d' kw dw t hd' hdw ht' hdt; omega
    · have hno : ∀ (k' : Nat) (d' : DOper), l[k']? = some d' → d'.io.dst ≠ some t := fun k' d' hd' ht' => hw ⟨k', d', hd', ht'⟩
      rw [J.env1 t fun k' d' hd' ht' => absurd ht' (hno k' d' hd')]
      exact H.envKeep' (by omega) (Nat.le_refl _) fun k' d' _ _ hd' => hno k' d' hd'
  refine ⟨⟨J.envR.congr henv, J.size, J.rel.congr J.nx.symm hg, ?_, J.b0⟩, J.ev.congr J.nx.symm hg⟩
  obtain ⟨rs, m1, m2, m3⟩ := J.marks
  refine ⟨rs, m1, m2, fun r hr => ?_⟩
  obtain ⟨q1, q2, q3⟩ := m3 r hr
  exact ⟨q1, q2, fun y o hy => q3 y o (by rw [← hg]; exact hy)⟩

/-- one operation that is ready -/
theorem Inv.oper (hcall : CallOk P R call) (H : Reg P call n ops l T st) (hz : z.h.next = (st 0).nm) (hn : z.n = n) (I : Inv P R l T ops.size st z p D ι F h env a w) {i k : Nat} {o : Oper} {rb : Option Nat} {K : Act → World → Prop} {Q : Exit → Act → World → Prop}
    (ho : ops[i]? = some o) (hnd : ¬ D i) (hrd : ∀ j, (bmOf T i).testBit j = true → D j) (hK : ∀ a' w' p' ι' F' h' env', Inv P R l T ops.size st z p' (Two D i) ι' F' h' env' a' w' → K a' w') :
    wpOpIn (fen rb) k P ops Q i K a w := by
  have hiN : i < ops.size := (Array.getElem?_eq_some_iff.1 ho).1
  obtain ⟨kd, d, hd, hid⟩ := H.all i hiN
  have hnotpre : p ≤ kd := I.not_pre fun hdn => by
    obtain ⟨d', hd', hall⟩ := hdn
    rw [hd] at hd'
    cases hd'
    exact hnd (hall i hid)
  unfold wpOpIn
  simp only [ho]
  cases H.item kd d hd with
  | one i' o' h1 h2 h3 =>
    rw [h1] at hid
    simp only [List.mem_singleton] at hid
    subst hid
    rw [ho] at h2
    cases h2
    have hsame := I.same H hd hnd hrd (one_uses h1 h3)
    obtain ⟨g, hg, hok, hio⟩ := cOper_spec h3
    have hgd : d.io.guard = g := by rw [hio]
    have hopd : d.io.op = cOp P o.op := by rw [hio]
    have hdst : d.io.dst = o.dst.map Pos.of := by rw [hio]
    rw [← hn] at hok
    have hw : Region.wanted o (yielded ops a.tmps) = wanted (st kd).env d.io.guard := by
      rw [wanted_sound hg I.envR, ← hgd, wanted_same hsame.right]
    obtain ⟨v, hev⟩ := H.step kd d hd
    rw [hw]
    cases hwk : wanted (st kd).env d.io.guard with
    | false =>
      simp only [Bool.false_eq_true, if_false]
      refine ⟨fun f _ => fen_fn rb f, ?_⟩
      obtain ⟨rfl, hheap⟩ := evD_no hev hwk
      cases he : isEffD d with
      | false => exact hK _ _ _ _ _ _ _ (I.quiet H hd h1 hiN hnd hrd he (fun _ _ => hwk) hev (VR.undef ι) hdst hok)
      | true =>
        have J := Inv.advTo H hd he (by rw [h1]; exact List.mem_cons_self ..) hnd hrd (kd - p) p (by omega) I
        obtain ⟨F2, h2, J2⟩ := J.eff H hd h1 hiN hnd hrd he hev (VR.undef ι) hdst hok (F' := F) (by rw [hheap]; exact J.relSub) (by rw [hheap]; exact Ev.refl ..)
        exact hK _ _ _ _ _ _ _ J2
    | true =>
      simp only [if_true]
      refine ⟨fun f _ => fen_fn rb f, ?_⟩
      rw [fen_round]
      cases he : isEffD d with
      | true =>
        have hna : isAD d = false := by
          unfold isEffD IOp.eff at he
          unfold isAD IOp.isA
          split at he <;> rename_i hq <;> first | (cases he; done) | (rw [hq])
        have J := Inv.advTo H hd he (by rw [h1]; exact List.mem_cons_self ..) hnd hrd (kd - p) p (by omega) I
        obtain ⟨hop, _⟩ := evD_op hev hwk hna
        rw [op_same hsame.left, hopd] at hop
        refine op_sound hcall hop J.envR J.relSub k o a K Q fun u w' ι' F' hu r e => ?_
        obtain ⟨F2, h2, J2⟩ := J.eff H hd h1 hiN hnd hrd he hev hu hdst hok r e
        exact hK _ _ _ _ _ _ _ J2
      | false =>
        cases hq : cOpO P o.op with
        | none =>
          exfalso
          rw [cOp, hq] at hopd
          have hna : isAD d = false := by simp [isAD, hopd, orBad, IOp.isA]
          obtain ⟨hop, _⟩ := evD_op hev hwk hna
          rw [hopd] at hop
          simp [orBad, evOp, evP] at hop
        | some q =>
          have hopq : d.io.op = q := by rw [hopd, cOp, hq]; rfl
          rw [semAt_exec hq]
          cases q with
          | a q =>
            obtain ⟨ob, hA, hnone, hheap⟩ := evD_a hev hwk hopq
            rw [a_same (hopq ▸ hsame.left : Same (st kd).env env (IOp.a q).tmps)] at hA
            obtain ⟨u, obj, i0, w1, g1, g2, g3⟩ := a_sound hq hA I.envR (w := w)
            rw [g1]
            exact hK _ _ _ _ _ _ _ (I.alloc H hz hd h1 hiN hnd hrd hopq hwk hev hdst hok hheap g2 g3)
          | p q =>
            obtain ⟨hop, _⟩ := evD_op hev hwk (by simp [isAD, hopq, IOp.isA])
            rw [hopq] at hop
            simp only [evOp] at hop
            split at hop
            · rename_i v' hv'
              simp only [Option.some.injEq, Prod.mk.injEq] at hop
              obtain ⟨rfl, _⟩ := hop
              rw [p_same (hopq ▸ hsame.left : Same (st kd).env env (IOp.p q).tmps)] at hv'
              obtain ⟨u, g1, g2⟩ := p_sound hq hv' I.envR w
              rw [g1]
              exact hK _ _ _ _ _ _ _ (I.quiet H hd h1 hiN hnd hrd he (fun q' h => by rw [hopq] at h; cases h) hev g2 hdst hok)
            · cases hop
          | r q =>
            have hclo := H.clo kd d q hd hopq
            have hro := H.read kd d q i hd hopq (by rw [h1]; exact List.mem_cons_self ..)
            simp only [readOk, Bool.and_eq_true] at hro
            obtain ⟨hlo, hhi⟩ := hro
            have hpl := I.ple
            have e1 : d.lo ≤ cnt isEffD l p := by
              cases hl : d.lo with
              | zero => omega
              | succ lo =>
                rw [hl] at hlo
                simp only at hlo
                have := nthN_eff l lo
                split at hlo
                · rename_i e hE
                  rw [hE] at this
                  obtain ⟨q', d', k1, k2, k3, k4⟩ := this
                  have hDe := hrd e hlo
                  have hq' : q' < p := by
                    rcases Nat.lt_or_ge q' p with h | h
                    · exact h
                    · exfalso
                      cases H.item q' d' k1 with
                      | one i'' o'' x1 =>
                        rw [x1] at k3
                        simp only [List.headD_cons] at k3
                        subst k3
                        exact I.effs q' d' i'' h k1 k2 (by rw [x1]; exact List.mem_cons_self ..) hDe
                      | lit j'' i'' is'' tm'' o'' t'' kvs'' x1 x2 x3 x4 x5 x6 x7 x8 x9 x10 =>
                        simp [isEffD, x10, IOp.eff] at k2
                  have := cnt_succ (f := isEffD) k1
                  rw [k2] at this
                  simp only [cond_true] at this
                  have : cnt isEffD l (q' + 1) ≤ cnt isEffD l p := cnt_mono (by omega)
                  omega
                · cases hlo
            have e2 : cnt isEffD l p ≤ d.hi := by
              have := nthN_eff l d.hi
              split at hhi
              · rename_i e hE
                rw [hE] at this
                obtain ⟨q', d', k1, k2, k3, k4⟩ := this
                have hDe : ¬ D e := fun hDe => hnd (I.closed e i hDe hhi)
                rw [← k4]
                refine cnt_mono (I.not_pre fun hdn => hDe ?_)
                obtain ⟨d'', x1, x2⟩ := hdn
                rw [k1] at x1
                cases x1
                refine x2 e ?_
                obtain ⟨i'', hi''⟩ := (H.item q' d' k1).ne
                cases hix : d'.ixs with
                | nil => rw [hix] at hi''; cases hi''
                | cons y ys =>
                  rw [hix] at k3
                  simp only [List.headD_cons] at k3
                  rw [k3]
                  exact List.mem_cons_self ..
              · rename_i hE
                rw [hE] at this
                exact Nat.le_trans (cnt_mono hpl) this
            obtain ⟨q', x1, x2, x3⟩ := H.rd kd d q v _ hd hopq hwk hev (cnt isEffD l p) (cnt_mono hpl) e1 e2
            rw [r_same (hopq ▸ hsame.left : Same (st kd).env env (IOp.r q).tmps)] at x3
            have x4 := evR_grow I.envR hclo I.rel (fun x ob hx hgx => I.sees H x1 x2 hx hgx) x3
            obtain ⟨u, g1, g2⟩ := r_sound hq x4 I.envR I.rel
            rw [g1]
            exact hK _ _ _ _ _ _ _ (I.quiet H hd h1 hiN hnd hrd he (fun q' h => by rw [hopq] at h; cases h) hev g2 hdst hok)
          | w q => simp [isEffD, hopq, IOp.eff] at he
          | ins m kk x =>
            exfalso
            exact (evD_op hev hwk (by simp [isAD, hopq, IOp.isA])).2 m kk x hopq
          | call f args => simp [isEffD, hopq, IOp.eff] at he
          | callv f args => simp [isEffD, hopq, IOp.eff] at he
  | lit j i0 is tm oj t kvs h1 h2 hod hoo hog h3 h4 h5 h6 h7 =>
    have hop : d.io.op = .a (.lit kvs) := by rw [h7]
    have hdst : d.io.dst = some (Pos.of tm) := by rw [h7]
    have hwk : wanted (st kd).env d.io.guard = true := by rw [h7]; rfl
    obtain ⟨v, hev⟩ := H.step kd d hd
    obtain ⟨ob, hA, hnone, hheap⟩ := evD_a hev hwk hop
    simp only [evA, evLit] at hA
    split at hA
    · rename_i fin hfin
      simp only [Option.some.injEq, Prod.mk.injEq] at hA
      obtain ⟨rfl, rfl⟩ := hA
      obtain ⟨f1, f2, f3, f4⟩ := ltake_spec hfin
      obtain ⟨c1, c2⟩ := cIns_spec h5
      have hfing : (st (kd + 1)).heap.m.get (st kd).nm = some (.lmap fin fin.length) := by rw [hheap]; exact PT.get_put_same ..
      obtain ⟨mt, hmt⟩ := Option.isSome_iff_exists.1 h3
      rw [← hn] at h4
      rw [h1] at hid
      rcases List.mem_cons.1 hid with rfl | hin
      · rw [ho] at h2
        cases h2
        have hwt : Region.wanted o (yielded ops a.tmps) = true := by simp [Region.wanted, hog]
        rw [hwt]
        simp only [if_true]
        refine ⟨fun f _ => fen_fn rb f, ?_⟩
        rw [fen_round]
        have hq : cOpO P o.op = some (.a .mkmap) := by rw [hoo]; simp only [cOpO, hmt]
        rw [semAt_exec hq]
        obtain ⟨u, obj, l0, w1, g1, g2, g3⟩ := a_sound (X := X) (R := R) (l := (st kd).nm.succ) hq rfl I.envR (w := w)
        rw [g1]
        show K (a.put o.dst u) w1
        rw [hod]
        exact hK _ _ _ _ _ _ _ (I.begin H hz hd h1 hiN hnd hrd h6 hop hdst h4 g2 g3)
      · obtain ⟨r, hr⟩ := List.mem_iff_getElem?.1 hin
        obtain ⟨o', t', kk, xx, kk', xx', y1, y2, y3, y4, y5, y6, y7, y8⟩ := c2 r i hr
        rw [ho] at y1
        cases y1
        have hwt : Region.wanted o (yielded ops a.tmps) = true := by simp [Region.wanted, y4]
        rw [hwt]
        simp only [if_true]
        refine ⟨fun f _ => fen_fn rb f, ?_⟩
        rw [fen_round]
        have hDj : D j := hrd j (H.lit kd d j (i0 :: is) kvs hd hop h1 i hin)
        have hbeg : Beg l D kd := ⟨d, hd, j, by rw [h1]; exact List.mem_cons_self .., hDj⟩
        have hndk : ¬ Don l D kd := by
          rintro ⟨d', hd', hall⟩
          rw [hd] at hd'
          cases hd'
          exact hnd (hall i (by rw [h1]; exact List.mem_cons_of_mem _ hin))
        obtain ⟨es, hes, hcon⟩ := I.con kd d j (i0 :: is) kvs fin fin.length hd hop h1 hbeg hndk hfing
        obtain ⟨mt', hmt'⟩ := Option.isSome_iff_exists.1 y5
        have hq : cOpO P o.op = some (.ins (.t (Pos.of tm)) kk' xx') := by
          rw [y3]
          simp only [cOpO, hmt', y6, y7]
          rfl
        rw [semAt_exec hq]
        obtain ⟨key, hkey, hfr⟩ := f3 r kk' xx' y8
        have hs := I.same H hd hnd hrd (lit_uses h1 hop hr y8)
        rw [ev_same hs.left] at hkey
        rw [ev_same hs.right] at hfr
        have htm : env.get (Pos.of tm) = some (.mp (st kd).nm.succ) := I.env3 kd d _ hd hdst hbeg hndk
        obtain ⟨hnew, hcon'⟩ := hcon.ins hr hfr hnd (List.nodup_cons.1 h6).2 f2
        have hup : evMupd h (.mp (st kd).nm.succ) (kk'.ev env) (xx'.ev env) = some (.tup [], h.upd (st kd).nm.succ (.map (es ++ [(key, xx'.ev env, es.length)]) (es ++ [(key, xx'.ev env, es.length)]).length)) := by
          rw [hkey]
          simp only [evMupd, hes, mset_none_of hnew]
          simp
        have vm : VR ι (.mp (st kd).nm.succ) (a.eval (.tmp tm)) := by
          have := I.envR tm
          simp only [Opd.ev, htm] at this
          exact this
        obtain ⟨w', g1, _, g3, g4⟩ := mupd_sound I.rel hmt' hup vm (opd_sound y6 I.envR) (opd_sound y7 I.envR)
        have hrun : (execOp a.eval o).run P w = .ok .skip w' := by
          obtain ⟨odst, oop, otype, opos, oafter, oguard⟩ := o
          simp only at y3
          subst y3
          simp [execOp, g1]
        rw [hrun]
        show K (a.put o.dst undef) w'
        rw [y2]
        show K a w'
        by_cases hdn : Don l (Two D i) kd
        · obtain ⟨ι', F', h', J⟩ := I.last H hz hd h1 hiN hr hnd hDj hrd hop hdst h4 hwk hdn hfing hcon' hes (by omega) f2 f4 (evD_env hev).1 g3 g4
          exact hK _ _ _ _ _ _ _ J
        · exact hK _ _ _ _ _ _ _ (I.ins H hd h1 hiN hr hnd hDj hrd hop hdn hfing hcon' hes g3 g4)
    · cases hA

theorem any_ok (hcall : CallOk P R call) (H : Reg P call n ops l T st) (hz : z.h.next = (st 0).nm) (hn : z.n = n) {k : Nat} {rb : Option Nat} {Q : Exit → Act → World → Prop}
    (hq : ∀ a' w' ι' F', St P R z.n z.b0 ι' F' (st l.length).env (st l.length).heap a' w' → Ev z.ι z.F z.h z.w ι' F' (st l.length).heap w' → Q .normal a' w') :
    ∀ (fuel : Nat) (listed : Array Bool) (p : Nat) (ι : Loc) (F : Foot) (h : Heap X) (env : Env) (a : Act) (w : World), listed.size = ops.size → Inv P R l T ops.size st z p (doneOf listed) ι F h env a w → undone ops.size listed ≤ fuel →
      wpAnyIn (fen rb) k P .any ops Q fuel listed a w := by
  intro fuel
  have fin : ∀ (listed : Array Bool) (p : Nat) (ι : Loc) (F : Foot) (h : Heap X) (env : Env) (a : Act) (w : World), Inv P R l T ops.size st z p (doneOf listed) ι F h env a w → (∀ j, j < ops.size → doneOf listed j) → Q .normal a w := by
    intro listed p ι F h env a w I hall
    obtain ⟨h1, h2⟩ := I.finish H hall
    exact hq a w ι F h1 h2
  have allDone : ∀ (listed : Array Bool), listed.size = ops.size → Region.ready .any ops listed = [] → ∀ j, j < ops.size → doneOf listed j := by
    intro listed hs hr j
    induction j using Nat.strongRecOn with
    | _ j ih =>
      intro hj
      by_cases hd : doneOf listed j
      · exact hd
      · exfalso
        have ho : ops[j]? = some ops[j] := Array.getElem?_eq_getElem hj
        have : j ∈ Region.ready .any ops listed := mem_ready.2 ⟨getD_not_done (by omega) hd, _, ho, fun e he hb => by
          have hlt := H.edgLt j _ e.on ho (mem_edges he hb)
          exact getD_done (ih e.on hlt (by omega))⟩
        rw [hr] at this
        cases this
  induction fuel with
  | zero =>
    intro listed p ι F h env a w hs I hu
    have hall : ∀ j, j < ops.size → doneOf listed j := fun j hj => by
      have h0 : undone ops.size listed = 0 := by omega
      have := List.countP_eq_zero.1 h0 j (List.mem_range.2 hj)
      by_cases hd : doneOf listed j
      · exact hd
      · rw [getD_not_done (by omega) hd] at this
        simp at this
    refine ⟨?_, fin listed p ι F h env a w I hall⟩
    cases hr : Region.ready .any ops listed with
    | nil => rfl
    | cons i rest =>
      have : i ∈ Region.ready .any ops listed := by rw [hr]; exact List.mem_cons_self ..
      obtain ⟨h1, o, h2, _⟩ := mem_ready.1 this
      exact absurd (hall i (Array.getElem?_eq_some_iff.1 h2).1) (not_done h1).2
  | succ fuel ih =>
    intro listed p ι F h env a w hs I hu
    refine ⟨fun hr => fin listed p ι F h env a w I (allDone listed hs hr), fun i hi => ?_⟩
    obtain ⟨h1, o, ho, hall⟩ := mem_ready.1 hi
    obtain ⟨hlt, hnd⟩ := not_done h1
    have hrd : ∀ j, (bmOf T i).testBit j = true → doneOf listed j := fun j hj => by
      obtain ⟨e, he, hje⟩ := H.edg i o j ho hj
      obtain ⟨ed, q1, q2, rfl⟩ := of_mem_edges he
      have hde := is_done (hall ed q1 q2)
      rcases hje with rfl | hje
      · exact hde
      · exact I.closed _ j hde hje
    refine I.oper hcall H hz hn ho hnd hrd fun a' w' p' ι' F' h' env' J => ?_
    rw [← doneOf_set hlt] at J
    exact ih _ p' ι' F' h' env' a' w' (by simpa using hs) J (by have := undone_set hs h1; omega)

end

/-- **a region that draws its order** -/
theorem region_ok (hm : P.follows .mixedOrders = true) {call : CallF X} (hcall : CallOk P R call) : RegionOk P R call := by
  intro n b0 k id rb ops l ι F env env' h h' a w Q hc hv s hq
  obtain ⟨T, st, H, hst0, rfl, rfl⟩ := reg_of hc hv
  refine wpIn_region_any hm ?_
  have hsize : w.heap.size = ({ w with drawn := w.drawn + 1 } : World).heap.size := rfl
  have hbump : h.next.toNat ≤ (bump l h.next).toNat := by rw [bump_toNat]; omega
  have hnone : ∀ x : Pos, h.next.toNat ≤ x.toNat → ι x = none ∧ h.m.get x = none := fun x hx => s.rel.fresh x hx
  have hlist : ∀ i, ¬ doneOf (Array.replicate ops.size false) i := fun i hd => by
    simp only [doneOf, Array.getElem?_replicate] at hd
    split at hd <;> cases hd
  have hnb : ∀ kk, ¬ Beg l (doneOf (Array.replicate ops.size false)) kk := fun kk ⟨d, _, i, _, hd⟩ => hlist i hd
  have hst0h : (st 0).heap.m = h.m := by rw [hst0]
  have hst0n : (st 0).nm = h.next := by rw [hst0]
  have hnm : ∀ (kk : Nat) (d : DOper) (q : AOp), l[kk]? = some d → d.io.op = .a q → h.next.toNat ≤ (st kk).nm.toNat ∧ h.next.toNat ≤ (st kk).nm.succ.toNat := fun kk d q hd hop => by
    have := (H.nmLt hd (isAD_of hop)).1
    rw [hst0n] at this
    exact ⟨this, by rw [Pos.toNat_succ]; omega⟩
  refine any_ok (z := ⟨n, b0, ι, F, h, w⟩) hcall H hst0n.symm rfl hq ops.size _ 0 ι F ⟨bump l h.next, h.m⟩ env a _ (by simp) ?_ ?_
  · refine ⟨fun i hd => absurd hd (hlist i), fun i j hd => absurd hd (hlist i), Nat.zero_le _, fun k' hk' => by omega, fun _ _ i _ _ _ _ hd => hlist i hd, s.env, fun t _ => by rw [hst0], fun k' d' t hd' _ hdn => absurd (H.don_beg hdn) (hnb k'), fun k' d' t _ _ hb => absurd hb (hnb k'), s.size, ?_, ?_, ?_, s.b0, by rw [hst0], by rw [hst0]; exact Nat.le_refl _, fun x o hx => by rw [hst0h] at hx; exact hx,
      fun k' d' q o _ _ _ _ hdn => absurd (H.don_beg hdn) (hnb k'), fun x o hx => .inl (by rw [hst0h]; exact hx), fun k' d' q _ hd' hop => ?_, fun k' d' q hd' hop _ => ?_, fun k' d' q hd' hop _ => ?_, fun k' d' j is kvs fin c _ _ _ hb => absurd hb (hnb k')⟩
    · exact Rel.worldEq ⟨s.rel.obj, s.rel.disj, fun x hx => hnone x (Nat.le_trans hbump hx)⟩ rfl
    · exact ⟨fun _ _ => rfl, hbump, Nat.le_refl _, fun _ _ _ => rfl, fun x o b hx hb => .inr ⟨x, o, hx, hb⟩, fun x o _ hx => ⟨o, hx⟩, ⟨rfl, rfl⟩⟩
    · exact s.marks
    · obtain ⟨q1, q2⟩ := hnm k' d' q hd' hop
      rw [hst0h]
      exact ⟨(hnone _ q1).2, (hnone _ q2).2⟩
    · exact (hnone _ (hnm k' d' q hd' hop).1).1
    · exact (hnone _ (hnm k' d' q hd' hop).2).1
  · have := List.countP_le_length (p := fun j => !((Array.replicate ops.size false).getD j true)) (l := List.range ops.size)
    simpa [undone] using this

/-- **calls do what the evaluator says** -/
theorem callN_ok {tab : Pos → Option IFunc} {prim : Pos → Option (List AV → Heap X → Option (AV × Heap X))} (hm : P.follows .mixedOrders = true) (ht : TabOk P tab) (hp : PrimOk P R prim) : ∀ n, CallOk P R (callN tab prim n)
  | 0 => fun _ _ _ _ _ h => by simp [callN] at h
  | n + 1 => step_ok ht hp (callN_ok hm ht hp n) (region_ok hm (callN_ok hm ht hp n))

end Go.Ev
