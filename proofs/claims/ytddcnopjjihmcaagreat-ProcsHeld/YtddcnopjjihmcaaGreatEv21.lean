import Derived.Test.YtddcnopjjihmcaaGreatEv20
set_option linter.unusedSectionVars false
set_option linter.unusedVariables false
set_option linter.unusedSimpArgs false
namespace Go.Ev
variable {X : Type} [T : SymT] [V : SymV] {P : Program} {R : XRel X}

/-! ### consequences -/
section
variable {call : CallF X} {n : Nat} {ops : Array Oper} {l : List DOper} {T : PT Nat} {st : Nat → DSt X}

theorem Reg.env1 (H : Reg P call n ops l T st) {k : Nat} {d : DOper} (hd : l[k]? = some d) : ∃ v, evD call d (st k) = some (v, st (k + 1)) ∧ (st (k + 1)).env = putD (st k).env d.io.dst v := by
  obtain ⟨v, hv⟩ := H.step k d hd
  exact ⟨v, hv, (evD_env hv).1⟩

theorem putD_other {env : Env} {dst : Option Pos} {v : AV} {t : Pos} (h : dst ≠ some t) : (putD env dst v).get t = env.get t := by
  cases dst with
  | none => rfl
  | some p => exact PT.get_put_other _ _ _ _ (fun e => h (by rw [e]))

theorem putD_same {env : Env} {t : Pos} {v : AV} : (putD env (some t) v).get t = some v := PT.get_put_same ..

theorem Reg.envKeep (H : Reg P call n ops l T st) {t : Pos} {p : Nat} : ∀ (m : Nat), p + m ≤ l.length → (∀ (k : Nat) (d : DOper), p ≤ k → k < p + m → l[k]? = some d → d.io.dst ≠ some t) → (st (p + m)).env.get t = (st p).env.get t
  | 0, _, _ => rfl
  | m + 1, hl, hn => by
    have hlt : p + m < l.length := by omega
    have hd : l[p + m]? = some l[p + m] := List.getElem?_eq_getElem hlt
    obtain ⟨v, _, he⟩ := H.env1 hd
    rw [show p + (m + 1) = p + m + 1 by omega, he, putD_other (hn _ _ (by omega) (by omega) hd)]
    exact H.envKeep m (by omega) fun k d h1 h2 => hn k d h1 (by omega)

theorem Reg.envKeep' (H : Reg P call n ops l T st) {t : Pos} {p q : Nat} (hpq : p ≤ q) (hq : q ≤ l.length) (hn : ∀ (k : Nat) (d : DOper), p ≤ k → k < q → l[k]? = some d → d.io.dst ≠ some t) : (st q).env.get t = (st p).env.get t := by
  have := H.envKeep (t := t) (p := p) (q - p) (by omega) (fun k d h1 h2 => hn k d h1 (by omega))
  rwa [show p + (q - p) = q by omega] at this

theorem bump_toNat : ∀ (l : List DOper) (p : Pos), (bump l p).toNat = p.toNat + 2 * cnt isAD l l.length
  | [], p => by simp [bump, cnt]
  | d :: l, p => by
    simp only [bump, List.length_cons, cnt_cons]
    rw [bump_toNat l]
    unfold isAD
    cases d.io.op.isA <;> simp [Pos.toNat_succ] <;> omega

theorem Reg.nm (H : Reg P call n ops l T st) : ∀ (k : Nat), k ≤ l.length → (st k).nm.toNat = (st 0).nm.toNat + 2 * cnt isAD l k
  | 0, _ => by simp [cnt_zero]
  | k + 1, hk => by
    have hd : l[k]? = some l[k] := List.getElem?_eq_getElem (by omega)
    obtain ⟨v, hv⟩ := H.step k _ hd
    rw [(evD_env hv).2, cnt_succ hd]
    have ih := H.nm k (by omega)
    cases isAD l[k] <;> simp [Pos.toNat_succ] <;> omega

theorem lt_of_get {k : Nat} {d : DOper} (hd : l[k]? = some d) : k < l.length := (List.getElem?_eq_some_iff.1 hd).1

/-- the names lie between the old next and the new one -/
theorem Reg.nmLt (H : Reg P call n ops l T st) {k : Nat} {d : DOper} (hd : l[k]? = some d) (ha : isAD d = true) : (st 0).nm.toNat ≤ (st k).nm.toNat ∧ (st k).nm.toNat + 1 < (st 0).heap.next.toNat := by
  have hlt := lt_of_get hd
  have h1 := H.nm k (by omega)
  have h2 := cnt_succ (f := isAD) hd
  have h3 : cnt isAD l (k + 1) ≤ cnt isAD l l.length := cnt_mono (by omega)
  have h4 := congrArg Pos.toNat H.bmp
  rw [bump_toNat] at h4
  rw [ha] at h2
  simp only [cond_true] at h2
  omega

theorem Reg.nmStep (H : Reg P call n ops l T st) {k k' : Nat} {d : DOper} (hd : l[k]? = some d) (ha : isAD d = true) (hlt : k < k') (hk' : k' ≤ l.length) : (st k).nm.toNat + 2 ≤ (st k').nm.toNat := by
  have hlt' := lt_of_get hd
  have h1 := H.nm k (by omega)
  have h1' := H.nm k' hk'
  have h2 := cnt_succ (f := isAD) hd
  have h3 : cnt isAD l (k + 1) ≤ cnt isAD l k' := cnt_mono (by omega)
  rw [ha] at h2
  simp only [cond_true] at h2
  omega

def Don (l : List DOper) (D : Nat → Prop) (k : Nat) : Prop := ∃ d : DOper, l[k]? = some d ∧ ∀ i ∈ d.ixs, D i
def Beg (l : List DOper) (D : Nat → Prop) (k : Nat) : Prop := ∃ d : DOper, l[k]? = some d ∧ ∃ i ∈ d.ixs, D i

def Two (D : Nat → Prop) (i : Nat) : Nat → Prop := fun j => j = i ∨ D j

theorem Reg.don_other (H : Reg P call n ops l T st) {D : Nat → Prop} {k k' i : Nat} {d : DOper} (hd : l[k]? = some d) (hi : i ∈ d.ixs) (hne : k' ≠ k) : Don l (Two D i) k' ↔ Don l D k' := by
  constructor
  · rintro ⟨d', hd', h⟩
    refine ⟨d', hd', fun j hj => ?_⟩
    rcases h j hj with rfl | h
    · exact absurd (H.new _ _ _ _ _ hd' hd hj hi) hne
    · exact h
  · rintro ⟨d', hd', h⟩
    exact ⟨d', hd', fun j hj => .inr (h j hj)⟩

theorem Reg.beg_other (H : Reg P call n ops l T st) {D : Nat → Prop} {k k' i : Nat} {d : DOper} (hd : l[k]? = some d) (hi : i ∈ d.ixs) (hne : k' ≠ k) : Beg l (Two D i) k' ↔ Beg l D k' := by
  constructor
  · rintro ⟨d', hd', j, hj, h⟩
    rcases h with rfl | h
    · exact absurd (H.new _ _ _ _ _ hd' hd hj hi) hne
    · exact ⟨d', hd', j, hj, h⟩
  · rintro ⟨d', hd', j, hj, h⟩
    exact ⟨d', hd', j, hj, .inr h⟩

theorem Reg.don_beg (H : Reg P call n ops l T st) {D : Nat → Prop} {k : Nat} (h : Don l D k) : Beg l D k := by
  obtain ⟨d, hd, h⟩ := h
  obtain ⟨i, hi⟩ := (H.item k d hd).ne
  exact ⟨d, hd, i, hi, h i hi⟩

theorem one_don {D : Nat → Prop} {k i : Nat} {d : DOper} (hd : l[k]? = some d) (h1 : d.ixs = [i]) : (Don l D k ↔ D i) ∧ (Beg l D k ↔ D i) := by
  constructor <;> constructor
  · rintro ⟨d', hd', h⟩; rw [hd] at hd'; cases hd'; exact h i (by rw [h1]; exact List.mem_cons_self ..)
  · intro h; exact ⟨d, hd, fun j hj => by rw [h1] at hj; simp only [List.mem_singleton] at hj; subst hj; exact h⟩
  · rintro ⟨d', hd', j, hj, h⟩; rw [hd] at hd'; cases hd'; rw [h1] at hj; simp only [List.mem_singleton] at hj; subst hj; exact h
  · intro h; exact ⟨d, hd, i, by rw [h1]; exact List.mem_cons_self .., h⟩
end

/-! ### the invariant -/
/-- a map under construction: entries whose operations are done -/
structure Con (D : Nat → Prop) (is : List Nat) (fin : List (Int × AV × Option Nat)) (es : List (Int × AV × Nat)) : Prop where
  keys : (es.map (·.1)).Nodup
  born : (es.map (·.2.2)).Nodup
  lt : ∀ e ∈ es, e.2.2 < es.length
  fwd : ∀ (r i : Nat) (k : Int) (v : AV) (b : Option Nat), is[r]? = some i → fin[r]? = some (k, v, b) → D i → ∃ c, (k, v, c) ∈ es
  bwd : ∀ e ∈ es, ∃ (r i : Nat) (b : Option Nat), is[r]? = some i ∧ D i ∧ fin[r]? = some (e.1, e.2.1, b)

/-- what was there at the region's entry -/
structure Was (X : Type) where
  n : Nat
  b0 : Nat
  ι : Loc
  F : Foot
  h : Heap X
  w : World

structure Inv (P : Program) (R : XRel X) (l : List DOper) (T : PT Nat) (N : Nat) (st : Nat → DSt X) (z : Was X) (p : Nat) (D : Nat → Prop) (ι : Loc) (F : Foot) (h : Heap X) (env : Env) (a : Act) (w : World) : Prop where
  sub : ∀ i, D i → i < N
  closed : ∀ i j, D i → (bmOf T i).testBit j = true → D j
  ple : p ≤ l.length
  pre : ∀ k, k < p → Don l D k
  effs : ∀ (k : Nat) (d : DOper) (i : Nat), p ≤ k → l[k]? = some d → isEffD d = true → i ∈ d.ixs → ¬ D i
  envR : EnvR ι env a.tmps
  env1 : ∀ t : Pos, (∀ (k : Nat) (d : DOper), l[k]? = some d → d.io.dst = some t → ¬ Beg l D k) → env.get t = (st 0).env.get t
  env2 : ∀ (k : Nat) (d : DOper) (t : Pos), l[k]? = some d → d.io.dst = some t → Don l D k → env.get t = (st (k + 1)).env.get t
  env3 : ∀ (k : Nat) (d : DOper) (t : Pos), l[k]? = some d → d.io.dst = some t → Beg l D k → ¬ Don l D k → env.get t = some (.mp (st k).nm.succ)
  size : a.tmps.size = z.n
  rel : Rel P R ι F h w
  ev : Ev z.ι z.F z.h z.w ι F h w
  marks : Mk z.b0 a.defers F h w
  b0 : z.b0 ≤ w.heap.size
  nx : h.next = (st p).heap.next
  nx0 : (st 0).heap.next.toNat ≤ h.next.toNat
  sub1 : ∀ x o, (st p).heap.m.get x = some o → h.m.get x = some o
  own : ∀ (k : Nat) (d : DOper) (q : AOp) (o : AObj X), p ≤ k → l[k]? = some d → d.io.op = .a q → wanted (st k).env d.io.guard = true → Don l D k → (st (k + 1)).heap.m.get (st k).nm = some o → h.m.get (st k).nm = some o
  only : ∀ x o, h.m.get x = some o → (st p).heap.m.get x = some o ∨ (∃ (k : Nat) (d : DOper) (q : AOp), p ≤ k ∧ l[k]? = some d ∧ d.io.op = .a q ∧ wanted (st k).env d.io.guard = true ∧ Don l D k ∧ x = (st k).nm ∧ (st (k + 1)).heap.m.get x = some o) ∨
    (∃ (k : Nat) (d : DOper) (q : AOp), l[k]? = some d ∧ d.io.op = .a q ∧ Beg l D k ∧ ¬ Don l D k ∧ x = (st k).nm.succ)
  res : ∀ (k : Nat) (d : DOper) (q : AOp), p ≤ k → l[k]? = some d → d.io.op = .a q → (st p).heap.m.get (st k).nm = none ∧ (st p).heap.m.get (st k).nm.succ = none
  non1 : ∀ (k : Nat) (d : DOper) (q : AOp), l[k]? = some d → d.io.op = .a q → ¬ Don l D k → ι (st k).nm = none
  non2 : ∀ (k : Nat) (d : DOper) (q : AOp), l[k]? = some d → d.io.op = .a q → ¬ Beg l D k → ι (st k).nm.succ = none
  con : ∀ (k : Nat) (d : DOper) (j : Nat) (is : List Nat) (kvs : List (Opd × Opd)) (fin : List (Int × AV × Option Nat)) (c : Nat), l[k]? = some d → d.io.op = .a (.lit kvs) → d.ixs = j :: is → Beg l D k → ¬ Don l D k → (st (k + 1)).heap.m.get (st k).nm = some (.lmap fin c) → ∃ es, h.m.get (st k).nm.succ = some (.map es es.length) ∧ Con D is fin es

section
variable {call : CallF X} {n : Nat} {ops : Array Oper} {l : List DOper} {T : PT Nat} {st : Nat → DSt X} {z : Was X} {p : Nat} {D : Nat → Prop} {ι : Loc} {F : Foot} {h : Heap X} {env : Env} {a : Act} {w : World}

/-- an item that is ready sees what it saw in the order chosen -/
theorem Inv.same (H : Reg P call n ops l T st) (I : Inv P R l T ops.size st z p D ι F h env a w) {k i : Nat} {d : DOper} (hd : l[k]? = some d) (hnd : ¬ D i) (hrd : ∀ j, (bmOf T i).testBit j = true → D j) {ts : List Pos} (hts : ∀ t ∈ ts, (i, t) ∈ d.uses) : Same (st k).env env ts := by
  intro t ht
  have hu := hts t ht
  have hk := lt_of_get hd
  by_cases hw : ∃ (kw : Nat) (dw : DOper), l[kw]? = some dw ∧ dw.io.dst = some t
  · obtain ⟨kw, dw, hdw, hdt⟩ := hw
    have huniq : ∀ (k' : Nat) (d' : DOper), l[k']? = some d' → d'.io.dst = some t → k' = kw := fun k' d' hd' ht' => H.one k' d' kw dw t hd' hdw ht' hdt
    rcases H.use k d i t kw dw hd hu hdw hdt with ⟨hlt, hall⟩ | ⟨hge, hall⟩
    · rw [I.env2 kw dw t hdw hdt ⟨dw, hdw, fun j hj => hrd j (hall j hj)⟩]
      exact H.envKeep' (by omega) (by omega) fun k' d' h1 h2 hd' ht' => by have := huniq k' d' hd' ht'; omega
    · have hnb : ¬ Beg l D kw := by
        rintro ⟨d', hd', j, hj, hDj⟩
        rw [hdw] at hd'
        cases hd'
        exact hnd (I.closed j i hDj (hall j hj))
      rw [I.env1 t fun k' d' hd' ht' => by rw [huniq k' d' hd' ht']; exact hnb]
      exact H.envKeep' (by omega) (by omega) fun k' d' h1 h2 hd' ht' => by have := huniq k' d' hd' ht'; omega
  · have hno : ∀ (k' : Nat) (d' : DOper), l[k']? = some d' → d'.io.dst ≠ some t := fun k' d' hd' ht' => hw ⟨k', d', hd', ht'⟩
    rw [I.env1 t fun k' d' hd' ht' => absurd ht' (hno k' d' hd')]
    exact H.envKeep' (by omega) (by omega) fun k' d' _ _ hd' => hno k' d' hd'

theorem Inv.get_none (I : Inv P R l T ops.size st z p D ι F h env a w) {x : Pos} (hx : ι x = none) : h.m.get x = none := by
  cases hg : h.m.get x with
  | none => rfl
  | some o =>
    obtain ⟨i, hi, _⟩ := I.rel.obj x o hg
    rw [hx] at hi
    cases hi

/-- between two effects the heaps differ in early blocks alone -/
theorem Reg.heapKeep (H : Reg P call n ops l T st) {p : Nat} : ∀ (m : Nat), p + m ≤ l.length → cnt isEffD l (p + m) = cnt isEffD l p → ∀ x o, (st (p + m)).heap.m.get x = some o →
    (st p).heap.m.get x = some o ∨ ∃ (k : Nat) (d : DOper) (q : AOp), p ≤ k ∧ k < p + m ∧ l[k]? = some d ∧ d.io.op = .a q ∧ wanted (st k).env d.io.guard = true ∧ x = (st k).nm ∧ (st (k + 1)).heap.m.get x = some o
  | 0, _, _, x, o, hx => .inl hx
  | m + 1, hl, hc, x, o, hx => by
    have hlt : p + m < l.length := by omega
    have hd : l[p + m]? = some l[p + m] := List.getElem?_eq_getElem hlt
    obtain ⟨v, hv⟩ := H.step _ _ hd
    have h1 : cnt isEffD l p ≤ cnt isEffD l (p + m) := cnt_mono (by omega)
    have h2 := cnt_succ (f := isEffD) hd
    rw [show p + (m + 1) = p + m + 1 by omega] at hc hx
    have he : isEffD l[p + m] = false := by
      cases he : isEffD l[p + m] with
      | false => rfl
      | true => rw [he] at h2; simp only [cond_true] at h2; omega
    rw [he] at h2
    simp only [cond_false] at h2
    have ih := H.heapKeep (p := p) m (by omega) (by omega) x o
    have ih' : (st (p + m)).heap.m.get x = some o → (st p).heap.m.get x = some o ∨ ∃ (k : Nat) (d : DOper) (q : AOp), p ≤ k ∧ k < p + (m + 1) ∧ l[k]? = some d ∧ d.io.op = .a q ∧ wanted (st k).env d.io.guard = true ∧ x = (st k).nm ∧ (st (k + 1)).heap.m.get x = some o := by
      intro hx'
      rcases ih hx' with h | ⟨k, d, q, h1, h2, rest⟩
      · exact .inl h
      · exact .inr ⟨k, d, q, h1, by omega, rest⟩
    cases hw : wanted (st (p + m)).env l[p + m].io.guard with
    | false => rw [(evD_no hv hw).2] at hx; exact ih' hx
    | true =>
      cases hop : l[p + m].io.op with
      | a q =>
        obtain ⟨ob, _, _, hh⟩ := evD_a hv hw hop
        have hx0 := hx
        rw [hh] at hx
        by_cases hxn : x = (st (p + m)).nm
        · subst hxn
          exact .inr ⟨p + m, _, q, by omega, by omega, hd, hop, hw, rfl, hx0⟩
        · rw [Heap.upd, PT.get_put_other _ _ _ _ hxn] at hx
          exact ih' hx
      | _ =>
        rw [evD_heap hv he (by simp [isAD, hop, IOp.isA])] at hx
        exact ih' hx

theorem Reg.heapGrow (H : Reg P call n ops l T st) {p : Nat} : ∀ (m : Nat), p + m ≤ l.length → cnt isEffD l (p + m) = cnt isEffD l p → ∀ x o, (st p).heap.m.get x = some o → (st (p + m)).heap.m.get x = some o
  | 0, _, _, x, o, hx => hx
  | m + 1, hl, hc, x, o, hx => by
    have hlt : p + m < l.length := by omega
    have hd : l[p + m]? = some l[p + m] := List.getElem?_eq_getElem hlt
    obtain ⟨v, hv⟩ := H.step _ _ hd
    have h1 : cnt isEffD l p ≤ cnt isEffD l (p + m) := cnt_mono (by omega)
    have h2 := cnt_succ (f := isEffD) hd
    rw [show p + (m + 1) = p + m + 1 by omega] at hc ⊢
    have he : isEffD l[p + m] = false := by
      cases he : isEffD l[p + m] with
      | false => rfl
      | true => rw [he] at h2; simp only [cond_true] at h2; omega
    rw [he] at h2
    simp only [cond_false] at h2
    have ih := H.heapGrow (p := p) m (by omega) (by omega) x o hx
    cases hw : wanted (st (p + m)).env l[p + m].io.guard with
    | false => rw [(evD_no hv hw).2]; exact ih
    | true =>
      cases hop : l[p + m].io.op with
      | a q =>
        obtain ⟨ob, _, hn, hh⟩ := evD_a hv hw hop
        rw [hh, Heap.upd, PT.get_put_other _ _ _ _ (fun e => by subst e; rw [hn] at ih; cases ih)]
        exact ih
      | _ =>
        rw [evD_heap hv he (by simp [isAD, hop, IOp.isA])]
        exact ih

/-- what a read sees: what it sees in the order chosen, where its objects live -/
theorem Inv.sees (H : Reg P call n ops l T st) (I : Inv P R l T ops.size st z p D ι F h env a w) {q : Nat} (hq : q ≤ l.length) (hc : cnt isEffD l q = cnt isEffD l p) {x : Pos} {o : AObj X} (hx : ι x ≠ none) (hg : (st q).heap.m.get x = some o) : h.m.get x = some o := by
  rcases Nat.le_total p q with hpq | hpq
  · have := H.heapKeep (p := p) (q - p) (by omega) (by rw [show p + (q - p) = q by omega]; exact hc) x o (by rw [show p + (q - p) = q by omega]; exact hg)
    rcases this with h1 | ⟨k, d, q', h1, h2, h3, h4, h5, h6, h7⟩
    · exact I.sub1 x o h1
    · subst h6
      by_cases hdn : Don l D k
      · exact I.own k d q' o h1 h3 h4 h5 hdn h7
      · exact absurd (I.non1 k d q' h3 h4 hdn) hx
  · have := H.heapGrow (p := q) (p - q) (by have := I.ple; omega) (by rw [show q + (p - q) = p by omega]; exact hc.symm) x o hg
    rw [show q + (p - q) = p by omega] at this
    exact I.sub1 x o this

/-- an operand's places live -/
theorem ev_lives (he : EnvR ι env a.tmps) {x : Opd} (hx : x.clo = true) : (∀ y o, x.ev env = .ptr y o → ι y ≠ none) ∧ (∀ y o n c, x.ev env = .sl y o n c → ι y ≠ none) ∧ (∀ y, x.ev env = .mp y → ι y ≠ none) := by
  cases x with
  | t q =>
    have hq : q = Pos.of (q.toNat - 1) := Pos.toNat_inj (by rw [Pos.toNat_of]; have := Pos.toNat_pos q; omega)
    rw [hq]
    have := he (q.toNat - 1)
    refine ⟨fun y o e => ?_, fun y o n c e => ?_, fun y e => ?_⟩
    all_goals
      rw [e] at this
      simp only [VR] at this
      obtain ⟨i, hi, _⟩ := this
      rw [hi]
      intro hc
      cases hc
  | c v =>
    refine ⟨fun y o e => ?_, fun y o n c e => ?_, fun y e => ?_⟩
    all_goals
      simp only [Opd.ev] at e
      subst e
      simp [Opd.clo] at hx

/-- a read under a bigger heap -/
theorem evR_grow {g : Heap X} {q : ROp} {v : AV} (he : EnvR ι env a.tmps) (hq : q.clo = true) (r : Rel P R ι F h w) (hg : ∀ x o, ι x ≠ none → g.m.get x = some o → h.m.get x = some o) (hv : evR env g q = some v) : evR env h q = some v := by
  have ldN_g : ∀ {y o n cs}, ι y ≠ none → ldN g y o n = some cs → ldN h y o n = some cs := fun {y o n cs} hy hn => by
    simp only [ldN] at hn ⊢
    split at hn
    · rename_i e cs' f hgy
      rw [hg y _ hy hgy]
      exact hn
    · cases hn
  cases q with
  | ldS x =>
    obtain ⟨l1, _, _⟩ := ev_lives he (x := x) hq
    simp only [evR, ldS] at hv ⊢
    generalize x.ev env = ax at hv l1
    cases ax <;> first | (simp only at hv; cases hv; done) | skip
    rename_i y o
    simp only at hv ⊢
    split at hv
    · rename_i e cs' f hgy
      rw [hg y _ (l1 y o rfl) hgy]
      exact hv
    · cases hv
  | ldA n x =>
    obtain ⟨l1, _, _⟩ := ev_lives he (x := x) hq
    simp only [evR, ldA] at hv ⊢
    generalize x.ev env = ax at hv l1
    cases ax <;> first | (simp only at hv; cases hv; done) | skip
    rename_i y o
    simp only at hv ⊢
    split at hv
    · rename_i cs hcs
      rw [ldN_g (l1 y o rfl) hcs]
      exact hv
    · cases hv
  | look zr m k ok =>
    obtain ⟨_, _, l3⟩ := ev_lives he (x := m) hq
    simp only [evR, evLook] at hv ⊢
    generalize m.ev env = am at hv l3
    split at hv
    · rename_i nk _
      have : ∀ {r}, g.findM nk am = some r → h.findM nk am = some r := fun {r} hr => by
        cases am <;> first | (simp only [Heap.findM] at hr; cases hr; done) | skip
        · exact hr
        · rename_i y
          simp only [Heap.findM] at hr ⊢
          split at hr
          · rename_i es c hgy
            rw [hg y _ (l3 y rfl) hgy]
            exact hr
          · rename_i es c hgy
            rw [hg y _ (l3 y rfl) hgy]
            exact hr
          · cases hr
      split at hv
      · rename_i hf
        rw [this hf]
        exact hv
      · rename_i hf
        rw [this hf]
        exact hv
      · cases hv
    · cases hv
  | lenM x =>
    obtain ⟨_, _, l3⟩ := ev_lives he (x := x) hq
    simp only [evR, evLenM] at hv ⊢
    generalize x.ev env = am at hv l3
    have : ∀ {r}, g.lenM am = some r → h.lenM am = some r := fun {r} hr => by
      cases am <;> first | (simp only [Heap.lenM] at hr; cases hr; done) | skip
      · exact hr
      · rename_i y
        simp only [Heap.lenM] at hr ⊢
        split at hr
        · rename_i es c hgy
          rw [hg y _ (l3 y rfl) hgy]
          exact hr
        · rename_i es c hgy
          rw [hg y _ (l3 y rfl) hgy]
          exact hr
        · cases hr
    split at hv
    · rename_i nn hf
      rw [this hf]
      exact hv
    · cases hv
  | b2s x =>
    obtain ⟨_, l2, _⟩ := ev_lives he (x := x) hq
    simp only [evR, evB2s] at hv ⊢
    generalize x.ev env = ax at hv l2
    cases ax <;> first | (simp only at hv; cases hv; done) | skip
    · exact hv
    · rename_i y o nn c
      simp only at hv ⊢
      split at hv
      · rename_i cs hcs
        rw [ldN_g (l2 y o nn c rfl) hcs]
        exact hv
      · cases hv
  | entry x =>
    obtain ⟨l1, _, _⟩ := ev_lives he (x := x) hq
    simp only [evR, evEntry] at hv ⊢
    generalize x.ev env = ax at hv l1
    split at hv
    · rename_i y
      have hy := l1 y 0 rfl
      split at hv
      · rename_i m since seen stepped hgy
        have hhy := hg y _ hy hgy
        obtain ⟨i, hi, ho⟩ := r.obj y _ hhy
        obtain ⟨_, _, m', _, hm⟩ := ho
        obtain ⟨j, hj, _⟩ := hm
        have hmn : ι m ≠ none := by rw [hj]; intro hc; cases hc
        rw [hhy]
        simp only
        split at hv
        · rename_i b hb
          split at hv
          · rename_i es clock hgm
            rw [hg m _ hmn hgm]
            exact hv
          · cases hv
        · cases hv
      · cases hv
    · cases hv
  | sdata x => exact hv
  | p2u x =>
    obtain ⟨l1, _, _⟩ := ev_lives he (x := x) hq
    simp only [evR, evP2u] at hv ⊢
    generalize x.ev env = ax at hv l1
    cases ax <;> first | (simp only at hv; cases hv; done) | skip
    · exact hv
    · rename_i y o
      simp only at hv ⊢
      split at hv
      · rename_i e cs' f hgy
        rw [hg y _ (l1 y o rfl) hgy]
        exact hv
      · cases hv
  | u2p u sz x =>
    obtain ⟨l1, _, _⟩ := ev_lives he (x := x) hq
    simp only [evR, evU2p] at hv ⊢
    generalize x.ev env = ax at hv l1
    split at hv
    · exact hv
    · rename_i y
      split at hv
      · rename_i e cs' f hgy
        rw [hg y _ (l1 y 0 rfl) hgy]
        exact hv
      · cases hv
    · cases hv
end

end Go.Ev
