import Derived.Test.YtddcnopjjihmcaaGreatEv21
set_option linter.unusedSectionVars false
set_option linter.unusedVariables false
set_option linter.unusedSimpArgs false
namespace Go.Ev
variable {X : Type} [T : SymT] [V : SymV] {P : Program} {R : XRel X}

/-- an object laid at a name that was laid by -/
theorem rel_put {ι : Loc} {F : Foot} {h : Heap X} {w w' : World} (r : Rel P R ι F h w) {x : Pos} (i : LocI) (o : AObj X) (S : Nat → Prop) (hx : x.toNat < h.next.toNat) (hn : ι x = none)
    (hw : ∀ b, b < w.heap.size → w'.heap[b]? = w.heap[b]?) (hS : ∀ b y o', S b → h.m.get y = some o' → ¬F y b) (ho : OR P R (ι.set x i) i S w' o) : Rel P R (ι.set x i) (F.set x S) (h.upd x o) w' := by
  have hget : ∀ {k y}, (h.upd x o).m.get k = some y → (k = x ∧ y = o) ∨ (k ≠ x ∧ h.m.get k = some y) := fun {k y} hk => by
    by_cases e : k = x
    · subst e
      rw [Heap.upd, PT.get_put_same] at hk
      exact .inl ⟨rfl, (Option.some.inj hk).symm⟩
    · rw [Heap.upd, PT.get_put_other _ _ _ _ e] at hk
      exact .inr ⟨e, hk⟩
  refine ⟨fun y o' hy => ?_, fun y y' o1 o2 b h1 h2 f1 f2 => ?_, fun y hy => ?_⟩
  · rcases hget hy with ⟨rfl, rfl⟩ | ⟨hne, hy'⟩
    · exact ⟨i, Loc.set_same .., by rw [Foot.set_same]; exact ho⟩
    · obtain ⟨j, hj, hoj⟩ := r.obj y o' hy'
      exact ⟨j, by rw [Loc.set_other _ _ hne]; exact hj, by rw [Foot.set_other _ _ hne]; exact hoj.mono (Loc.le_set i hn) (fun b hb => hw b (hoj.lt hb))⟩
  · rcases hget h1 with ⟨rfl, rfl⟩ | ⟨n1, g1⟩ <;> rcases hget h2 with ⟨rfl, rfl⟩ | ⟨n2, g2⟩
    · rfl
    · rw [Foot.set_same] at f1; rw [Foot.set_other _ _ n2] at f2
      exact absurd f2 (hS b y' o2 f1 g2)
    · rw [Foot.set_same] at f2; rw [Foot.set_other _ _ n1] at f1
      exact absurd f1 (hS b y o1 f2 g1)
    · rw [Foot.set_other _ _ n1] at f1; rw [Foot.set_other _ _ n2] at f2
      exact r.disj _ _ _ _ b g1 g2 f1 f2
  · have := r.fresh y hy
    have hne : y ≠ x := fun e => by subst e; exact absurd hx (by simp only [Heap.upd] at hy; omega)
    exact ⟨by rw [Loc.set_other _ _ hne]; exact this.1, by rw [Heap.upd, PT.get_put_other _ _ _ _ hne]; exact this.2⟩

theorem ev_put {ι0 ι : Loc} {F0 F : Foot} {h0 h : Heap X} {w0 w w' : World} (e : Ev ι0 F0 h0 w0 ι F h w) {x : Pos} (hx : h0.next.toNat ≤ x.toNat) (i : LocI) (o : AObj X) (S : Nat → Prop)
    (hs : w.heap.size ≤ w'.heap.size) (hw : ∀ b, b < w.heap.size → w'.heap[b]? = w.heap[b]?) (hS : ∀ b, S b → w0.heap.size ≤ b ∨ ∃ l0 o0, h0.m.get l0 = some o0 ∧ F0 l0 b)
    (io : w'.os = w.os ∧ w'.output = w.output := by first | exact ⟨rfl, rfl⟩ | assumption) :
    Ev ι0 F0 h0 w0 (ι.set x i) (F.set x S) (h.upd x o) w' := by
  have hget : ∀ {k y}, (h.upd x o).m.get k = some y → k = x ∨ (k ≠ x ∧ h.m.get k = some y) := fun {k y} hk => by
    by_cases e : k = x
    · exact .inl e
    · rw [Heap.upd, PT.get_put_other _ _ _ _ e] at hk
      exact .inr ⟨e, hk⟩
  refine ⟨fun y hy => ?_, e.nx, Nat.le_trans e.size hs, fun b hb hF => ?_, fun y o' b hy hb => ?_, fun y o' hlt hy => ?_, io.1.trans e.io.1, io.2.trans e.io.2⟩
  · rw [Loc.set_other _ _ (fun e => by subst e; omega)]; exact e.dom y hy
  · rw [hw b (Nat.lt_of_lt_of_le hb e.size)]; exact e.frame b hb hF
  · rcases hget hy with rfl | ⟨hne, hy'⟩
    · rw [Foot.set_same] at hb; exact hS b hb
    · rw [Foot.set_other _ _ hne] at hb; exact e.foot y o' b hy' hb
  · rcases hget hy with rfl | ⟨hne, hy'⟩
    · omega
    · exact e.old y o' hlt hy'

theorem Mk.put {b0 : Nat} {ds : List Deferred} {F : Foot} {h : Heap X} {w w' : World} (m : Mk b0 ds F h w) (x : Pos) (o : AObj X) (S : Nat → Prop) (hw : ∀ b, b < w.heap.size → w'.heap[b]? = w.heap[b]?)
    (hS : ∀ r, r < w.heap.size → (∀ y o', h.m.get y = some o' → ¬F y r) → ¬S r) : Mk b0 ds (F.set x S) (h.upd x o) w' := by
  obtain ⟨rs, h1, h2, h3⟩ := m
  refine ⟨rs, h1, h2, fun r hr => ?_⟩
  obtain ⟨g1, g2, g3⟩ := h3 r hr
  have hlt : r < w.heap.size := (Array.getElem?_eq_some_iff.1 g2).1
  refine ⟨g1, by rw [hw r hlt]; exact g2, fun y o' hy hF => ?_⟩
  by_cases e : y = x
  · subst e
    rw [Foot.set_same] at hF
    exact hS r hlt g3 hF
  · rw [Foot.set_other _ _ e] at hF
    rw [Heap.upd, PT.get_put_other _ _ _ _ e] at hy
    exact g3 y o' hy hF

section
variable {call : CallF X} {n : Nat} {ops : Array Oper} {l : List DOper} {T : PT Nat} {st : Nat → DSt X} {z : Was X} {p : Nat} {D : Nat → Prop} {ι : Loc} {F : Foot} {h : Heap X} {env : Env} {a : Act} {w : World}

theorem Don.mono {D : Nat → Prop} {i k : Nat} (h : Don l D k) : Don l (Two D i) k := by
  obtain ⟨d, hd, h⟩ := h
  exact ⟨d, hd, fun j hj => .inr (h j hj)⟩

theorem Beg.mono {D : Nat → Prop} {i k : Nat} (h : Beg l D k) : Beg l (Two D i) k := by
  obtain ⟨d, hd, j, hj, h⟩ := h
  exact ⟨d, hd, j, hj, .inr h⟩

theorem Inv.not_pre (I : Inv P R l T ops.size st z p D ι F h env a w) {k : Nat} (hnd : ¬ Don l D k) : p ≤ k := by
  rcases Nat.lt_or_ge k p with h1 | h1
  · exact absurd (I.pre k h1) hnd
  · exact h1

theorem isAD_of {d : DOper} {q : AOp} (h : d.io.op = .a q) : isAD d = true := by simp [isAD, h, IOp.isA]

/-- names differ -/
theorem Reg.nmNe (H : Reg P call n ops l T st) {k k' : Nat} {d d' : DOper} (hd : l[k]? = some d) (hd' : l[k']? = some d') (ha : isAD d = true) (ha' : isAD d' = true) :
    (k ≠ k' → (st k).nm ≠ (st k').nm ∧ (st k).nm.succ ≠ (st k').nm.succ) ∧ (st k).nm.succ ≠ (st k').nm := by
  have hk := lt_of_get hd
  have hk' := lt_of_get hd'
  have key : ∀ {x y : Pos}, x.toNat ≠ y.toNat → x ≠ y := fun h e => h (by rw [e])
  rcases Nat.lt_trichotomy k k' with hlt | heq | hgt
  · have := H.nmStep hd ha hlt (by omega)
    exact ⟨fun _ => ⟨key (by omega), key (by simp only [Pos.toNat_succ]; omega)⟩, key (by simp only [Pos.toNat_succ]; omega)⟩
  · subst heq
    exact ⟨fun h => absurd rfl h, key (by simp only [Pos.toNat_succ]; omega)⟩
  · have := H.nmStep hd' ha' hgt (by omega)
    exact ⟨fun _ => ⟨key (by omega), key (by simp only [Pos.toNat_succ]; omega)⟩, key (by simp only [Pos.toNat_succ]; omega)⟩

theorem Inv.nmLt (H : Reg P call n ops l T st) (I : Inv P R l T ops.size st z p D ι F h env a w) {k : Nat} {d : DOper} (hd : l[k]? = some d) (ha : isAD d = true) : (st k).nm.toNat < h.next.toNat ∧ (st k).nm.succ.toNat < h.next.toNat := by
  have h1 := (H.nmLt hd ha).2
  have h2 := I.nx0
  rw [Pos.toNat_succ]
  omega

/-- the temporaries behind an item of one operation -/
theorem Inv.envStep (H : Reg P call n ops l T st) (I : Inv P R l T ops.size st z p D ι F h env a w) {k i : Nat} {d : DOper} {v : AV} (hd : l[k]? = some d) (h1 : d.ixs = [i]) (he : (st (k + 1)).env = putD (st k).env d.io.dst v) :
    (∀ t : Pos, (∀ (k : Nat) (d : DOper), l[k]? = some d → d.io.dst = some t → ¬ Beg l (Two D i) k) → (putD env d.io.dst v).get t = (st 0).env.get t) ∧
    (∀ (k' : Nat) (d' : DOper) (t : Pos), l[k']? = some d' → d'.io.dst = some t → Don l (Two D i) k' → (putD env d.io.dst v).get t = (st (k' + 1)).env.get t) ∧
    (∀ (k' : Nat) (d' : DOper) (t : Pos), l[k']? = some d' → d'.io.dst = some t → Beg l (Two D i) k' → ¬ Don l (Two D i) k' → (putD env d.io.dst v).get t = some (.mp (st k').nm.succ)) := by
  have hi : i ∈ d.ixs := by rw [h1]; exact List.mem_cons_self ..
  have hdon : Don l (Two D i) k := (one_don hd h1).1.2 (.inl rfl)
  refine ⟨fun t ht => ?_, fun k' d' t hd' ht hdn => ?_, fun k' d' t hd' ht hb hnd => ?_⟩
  · have hne : d.io.dst ≠ some t := fun e => ht k d hd e (H.don_beg hdon)
    rw [putD_other hne]
    exact I.env1 t fun k' d' hd' ht' hb => ht k' d' hd' ht' hb.mono
  · by_cases hk : k' = k
    · subst hk
      rw [hd] at hd'
      cases hd'
      rw [he, ht, putD_same, putD_same]
    · have hne : d.io.dst ≠ some t := fun e => hk (H.one k' d' k d t hd' hd ht e)
      rw [putD_other hne]
      exact I.env2 k' d' t hd' ht ((H.don_other hd hi hk).1 hdn)
  · have hk : k' ≠ k := fun e => hnd (e ▸ hdon)
    have hne : d.io.dst ≠ some t := fun e => hk (H.one k' d' k d t hd' hd ht e)
    rw [putD_other hne]
    exact I.env3 k' d' t hd' ht ((H.beg_other hd hi hk).1 hb) fun hd'' => hnd hd''.mono

/-- a map under construction is not touched by others -/
theorem Inv.conStep (H : Reg P call n ops l T st) (I : Inv P R l T ops.size st z p D ι F h env a w) {k i : Nat} {d : DOper} (hd : l[k]? = some d) (hi : i ∈ d.ixs) {k' : Nat} (hk : k' ≠ k) {d' : DOper} {j : Nat} {is : List Nat} {kvs : List (Opd × Opd)} {fin : List (Int × AV × Option Nat)} {c : Nat}
    (hd' : l[k']? = some d') (hop : d'.io.op = .a (.lit kvs)) (hix : d'.ixs = j :: is) (hb : Beg l (Two D i) k') (hnd : ¬ Don l (Two D i) k') (hfin : (st (k' + 1)).heap.m.get (st k').nm = some (.lmap fin c)) :
    ∃ es, h.m.get (st k').nm.succ = some (.map es es.length) ∧ Con (Two D i) is fin es := by
  obtain ⟨es, h1, h2⟩ := I.con k' d' j is kvs fin c hd' hop hix ((H.beg_other hd hi hk).1 hb) (fun hd'' => hnd hd''.mono) hfin
  refine ⟨es, h1, h2.keys, h2.born, h2.lt, fun r i' kk v b hr hf hD => ?_, fun e he => ?_⟩
  · rcases hD with rfl | hD
    · exact absurd (H.new k' d' k d i' hd' hd (by rw [hix]; exact List.mem_cons_of_mem _ (List.mem_of_getElem? hr)) hi) hk
    · exact h2.fwd r i' kk v b hr hf hD
  · obtain ⟨r, i', b, g1, g2, g3⟩ := h2.bwd e he
    exact ⟨r, i', b, g1, .inr g2, g3⟩

theorem Inv.closedStep (I : Inv P R l T ops.size st z p D ι F h env a w) {i : Nat} (hrd : ∀ j, (bmOf T i).testBit j = true → D j) : ∀ i' j, Two D i i' → (bmOf T i').testBit j = true → Two D i j := by
  rintro i' j (rfl | hD) hj
  · exact .inr (hrd j hj)
  · exact .inr (I.closed i' j hD hj)

theorem Inv.effsStep (H : Reg P call n ops l T st) (I : Inv P R l T ops.size st z p D ι F h env a w) {k i : Nat} {d : DOper} (hd : l[k]? = some d) (hi : i ∈ d.ixs) (he : isEffD d = false) : ∀ (k' : Nat) (d' : DOper) (i' : Nat), p ≤ k' → l[k']? = some d' → isEffD d' = true → i' ∈ d'.ixs → ¬ Two D i i' := by
  rintro k' d' i' hp hd' he' hi' (rfl | hD)
  · have := H.new k' d' k d i' hd' hd hi' hi
    subst this
    rw [hd] at hd'
    cases hd'
    rw [he] at he'
    cases he'
  · exact I.effs k' d' i' hp hd' he' hi' hD

/-- **a quiet item** -/
theorem Inv.quiet (H : Reg P call n ops l T st) (I : Inv P R l T ops.size st z p D ι F h env a w) {k i : Nat} {d : DOper} {v : AV} {u : Value} {dst : Option Tmp} (hd : l[k]? = some d) (h1 : d.ixs = [i]) (hiN : i < ops.size) (hnd : ¬ D i) (hrd : ∀ j, (bmOf T i).testBit j = true → D j)
    (he : isEffD d = false) (hna : ∀ q, d.io.op = .a q → wanted (st k).env d.io.guard = false) (hev : evD call d (st k) = some (v, st (k + 1))) (hu : VR ι v u) (hdst : d.io.dst = dst.map Pos.of) (hok : dstOk z.n dst = true) :
    Inv P R l T ops.size st z p (Two D i) ι F h (putD env d.io.dst v) (a.put dst u) w := by
  have hi : i ∈ d.ixs := by rw [h1]; exact List.mem_cons_self ..
  obtain ⟨e1, e2, e3⟩ := I.envStep H hd h1 (evD_env hev).1
  obtain ⟨g1, g2, g3⟩ := putD_sound I.envR I.size hok hu
  have hdon : Don l (Two D i) k := (one_don hd h1).1.2 (.inl rfl)
  have hbn : ∀ k', Beg l (Two D i) k' → ¬ Don l (Two D i) k' → k' ≠ k := fun k' _ hn e => hn (e ▸ hdon)
  have hob : ¬ (Beg l D k ∧ ¬ Don l D k) := fun ⟨hb, hn⟩ => hn ((one_don hd h1).1.2 ((one_don hd h1).2.1 hb))
  refine ⟨?_, I.closedStep hrd, I.ple, fun k' hk' => (I.pre k' hk').mono, I.effsStep H hd hi he, by rw [hdst]; exact g1, e1, e2, e3, g2, I.rel, I.ev, by rw [g3]; exact I.marks, I.b0, I.nx, I.nx0, I.sub1, ?_, ?_, I.res, ?_, ?_, ?_⟩
  · rintro j (rfl | hD)
    · exact hiN
    · exact I.sub j hD
  · intro k' d' q o hp hd' hop hw hdn ho
    by_cases hk : k' = k
    · subst hk
      rw [hd] at hd'
      cases hd'
      rw [hna q hop] at hw
      cases hw
    · exact I.own k' d' q o hp hd' hop hw ((H.don_other hd hi hk).1 hdn) ho
  · intro x o hx
    rcases I.only x o hx with hh | ⟨k', d', q, q1, q2, q3, q4, q5, q6⟩ | ⟨k', d', q, q1, q2, q3, q4, q5⟩
    · exact .inl hh
    · exact .inr (.inl ⟨k', d', q, q1, q2, q3, q4, q5.mono, q6⟩)
    · have hk : k' ≠ k := fun e => hob (e ▸ ⟨q3, q4⟩)
      exact .inr (.inr ⟨k', d', q, q1, q2, q3.mono, fun hdn => q4 ((H.don_other hd hi hk).1 hdn), q5⟩)
  · exact fun k' d' q hd' hop hdn => I.non1 k' d' q hd' hop fun hdn' => hdn hdn'.mono
  · exact fun k' d' q hd' hop hdn => I.non2 k' d' q hd' hop fun hdn' => hdn hdn'.mono
  · exact fun k' d' j is kvs fin c hd' hop hix hb hdn hfin => I.conStep H hd hi (hbn k' hb hdn) hd' hop hix hb hdn hfin

/-- **a block made** -/
theorem Inv.alloc (H : Reg P call n ops l T st) (hz : z.h.next = (st 0).nm) (I : Inv P R l T ops.size st z p D ι F h env a w) {k i : Nat} {d : DOper} {v : AV} {u : Value} {dst : Option Tmp} {q : AOp} {ob : AObj X} {obj : Obj} {i0 : LocI} {w1 : World} (hd : l[k]? = some d) (h1 : d.ixs = [i]) (hiN : i < ops.size) (hnd : ¬ D i) (hrd : ∀ j, (bmOf T i).testBit j = true → D j)
    (hop : d.io.op = .a q) (hwk : wanted (st k).env d.io.guard = true) (hev : evD call d (st k) = some (v, st (k + 1))) (hdst : d.io.dst = dst.map Pos.of) (hok : dstOk z.n dst = true)
    (hheap : (st (k + 1)).heap = (st k).heap.upd (st k).nm ob) (hw1' : w1.heap = w.heap.push obj ∧ w1.os = w.os ∧ w1.output = w.output) (hs : ∀ (ι' : Loc) (w2 : World), ι.le ι' → ι' (st k).nm = some i0 → w2.heap[w.heap.size]? = some obj → VR ι' v u ∧ OR P R ι' i0 (fun b => b = w.heap.size) w2 ob) :
    Inv P R l T ops.size st z p (Two D i) (ι.set (st k).nm i0) (F.set (st k).nm fun b => b = w.heap.size) (h.upd (st k).nm ob) (putD env d.io.dst v) (a.put dst u) w1 := by
  obtain ⟨hw1, hio⟩ := hw1'
  have hi : i ∈ d.ixs := by rw [h1]; exact List.mem_cons_self ..
  have ha := isAD_of hop
  have he : isEffD d = false := by simp [isEffD, hop, IOp.eff]
  have hndk : ¬ Don l D k := fun hdn => hnd ((one_don hd h1).1.1 hdn)
  have hin : ι (st k).nm = none := I.non1 k d q hd hop hndk
  have hle : ι.le (ι.set (st k).nm i0) := Loc.le_set _ hin
  have hold : ∀ b, b < w.heap.size → w1.heap[b]? = w.heap[b]? := fun b hb => by rw [hw1, Array.getElem?_push, if_neg (Nat.ne_of_lt hb)]
  have hnew : w1.heap[w.heap.size]? = some obj := by rw [hw1, Array.getElem?_push_size]
  have hsz : w1.heap.size = w.heap.size + 1 := by rw [hw1, Array.size_push]
  obtain ⟨hvr, hor⟩ := hs _ w1 hle (Loc.set_same ..) hnew
  have hlt := I.nmLt H hd ha
  have hnm0 := (H.nmLt hd ha).1
  obtain ⟨e1, e2, e3⟩ := I.envStep H hd h1 (evD_env hev).1
  obtain ⟨g1, g2, g3⟩ := putD_sound (I.envR.mono hle) I.size hok hvr
  have hdon : Don l (Two D i) k := (one_don hd h1).1.2 (.inl rfl)
  have hbn : ∀ k', Beg l (Two D i) k' → ¬ Don l (Two D i) k' → k' ≠ k := fun k' _ hn e => hn (e ▸ hdon)
  have hob : ¬ (Beg l D k ∧ ¬ Don l D k) := fun ⟨hb, hn⟩ => hn ((one_don hd h1).1.2 ((one_don hd h1).2.1 hb))
  have hother : ∀ {x}, x ≠ (st k).nm → (h.upd (st k).nm ob).m.get x = h.m.get x := fun hx => PT.get_put_other _ _ _ _ hx
  have hwant : wanted (st k).env d.io.guard = true → ∀ o, (st (k + 1)).heap.m.get (st k).nm = some o → o = ob := fun _ o ho => by
    rw [hheap, Heap.upd, PT.get_put_same] at ho
    exact (Option.some.inj ho).symm
  refine ⟨?_, I.closedStep hrd, I.ple, fun k' hk' => (I.pre k' hk').mono, I.effsStep H hd hi he, by rw [hdst]; exact g1, e1, e2, e3, g2, ?_, ?_, ?_, by have := I.b0; omega, I.nx, I.nx0, ?_, ?_, ?_, I.res, ?_, ?_, ?_⟩
  · rintro j (rfl | hD)
    · exact hiN
    · exact I.sub j hD
  · exact rel_put I.rel i0 ob _ hlt.1 hin hold (fun b y o' hb hy hF => by
      obtain ⟨_, _, ho⟩ := I.rel.obj y o' hy
      have := ho.lt hF
      omega) hor
  · exact ev_put I.ev (by rw [hz]; exact hnm0) i0 ob _ (by omega) hold (fun b hb => .inl (by have := I.ev.size; omega))
  · rw [g3]
    exact I.marks.put _ _ _ hold (fun r hr _ hS => by omega)
  · intro x o hx
    have hne : x ≠ (st k).nm := fun e => by
      subst e
      rw [(I.res k d q (I.not_pre hndk) hd hop).1] at hx
      cases hx
    rw [hother hne]
    exact I.sub1 x o hx
  · intro k' d' q' o hp hd' hop' hw hdn ho
    by_cases hk : k' = k
    · subst hk
      rw [hwant hwk o ho, Heap.upd, PT.get_put_same]
    · rw [hother (((H.nmNe hd' hd (isAD_of hop') ha).1 hk).1)]
      exact I.own k' d' q' o hp hd' hop' hw ((H.don_other hd hi hk).1 hdn) ho
  · intro x o hx
    by_cases hxn : x = (st k).nm
    · subst hxn
      rw [Heap.upd, PT.get_put_same] at hx
      cases hx
      exact .inr (.inl ⟨k, d, q, I.not_pre hndk, hd, hop, hwk, hdon, rfl, by rw [hheap, Heap.upd, PT.get_put_same]⟩)
    · rw [hother hxn] at hx
      rcases I.only x o hx with hh | ⟨k', d', q', q1, q2, q3, q4, q5, q6⟩ | ⟨k', d', q', q1, q2, q3, q4, q5⟩
      · exact .inl hh
      · exact .inr (.inl ⟨k', d', q', q1, q2, q3, q4, q5.mono, q6⟩)
      · have hk : k' ≠ k := fun e => hob (e ▸ ⟨q3, q4⟩)
        exact .inr (.inr ⟨k', d', q', q1, q2, q3.mono, fun hdn => q4 ((H.don_other hd hi hk).1 hdn), q5⟩)
  · intro k' d' q' hd' hop' hdn
    have hk : k' ≠ k := fun e => hdn (e ▸ hdon)
    rw [Loc.set_other _ _ (((H.nmNe hd' hd (isAD_of hop') ha).1 hk).1)]
    exact I.non1 k' d' q' hd' hop' fun hdn' => hdn hdn'.mono
  · intro k' d' q' hd' hop' hdn
    rw [Loc.set_other _ _ ((H.nmNe hd' hd (isAD_of hop') ha).2)]
    exact I.non2 k' d' q' hd' hop' fun hdn' => hdn hdn'.mono
  · intro k' d' j is kvs fin c hd' hop' hix hb hdn hfin
    rw [hother ((H.nmNe hd' hd (isAD_of hop') ha).2)]
    exact I.conStep H hd hi (hbn k' hb hdn) hd' hop' hix hb hdn hfin

end
end Go.Ev
