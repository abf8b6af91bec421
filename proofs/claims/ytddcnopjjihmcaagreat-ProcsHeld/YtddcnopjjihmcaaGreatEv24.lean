import Derived.Test.YtddcnopjjihmcaaGreatEv23
set_option linter.unusedSectionVars false
set_option linter.unusedVariables false
set_option linter.unusedSimpArgs false
namespace Go.Ev
variable {X : Type} [T : SymT] [V : SymV] {P : Program} {R : XRel X}

/-! ### map literals -/
theorem lfind_none_mem {k : Int} : ∀ {es : List (Int × AV × Option Nat)}, lfind k es = none → k ∉ es.map (·.1)
  | [], _ => by simp
  | (k', v, b) :: es, h => by
    simp only [lfind, ieq_eq] at h
    by_cases e : k = k'
    · simp [e] at h
    · rw [beq_false_of_ne e, cond_false] at h
      simp only [List.map_cons, List.mem_cons, not_or]
      exact ⟨e, lfind_none_mem h⟩

theorem ltake_spec {env : Env} : ∀ {kvs : List (Opd × Opd)} {fin : List (Int × AV × Option Nat)}, ltake env kvs = some fin → fin.length = kvs.length ∧ (fin.map (·.1)).Nodup ∧
    (∀ (r : Nat) (k x : Opd), kvs[r]? = some (k, x) → ∃ m, k.ev env = .int .i64 m ∧ fin[r]? = some (m, x.ev env, none)) ∧ ∀ e ∈ fin, e.2.2 = none
  | [], fin, h => by
    simp only [ltake, Option.some.injEq] at h
    subst h
    exact ⟨rfl, List.nodup_nil, fun r k x h => by simp at h, fun e he => by cases he⟩
  | (k, x) :: l, fin, h => by
    simp only [ltake] at h
    split at h
    · rename_i m r hk hr
      split at h
      · cases h
      · rename_i hf
        simp only [Option.some.injEq] at h
        subst h
        obtain ⟨g1, g2, g3, g4⟩ := ltake_spec hr
        refine ⟨by simp [g1], ?_, fun r' k' x' h' => ?_, fun e he => ?_⟩
        · rw [List.map_cons, List.nodup_cons]
          exact ⟨lfind_none_mem hf, g2⟩
        · cases r' with
          | zero =>
            simp only [List.getElem?_cons_zero, Option.some.injEq, Prod.mk.injEq] at h'
            obtain ⟨rfl, rfl⟩ := h'
            exact ⟨m, hk, rfl⟩
          | succ r' => simpa using g3 r' k' x' (by simpa using h')
        · rcases List.mem_cons.1 he with rfl | he
          · rfl
          · exact g4 e he
    · cases h

theorem mset_none_of {k : Int} {v : AV} : ∀ {es : List (Int × AV × Nat)}, k ∉ es.map (·.1) → mset k v es = none
  | [], _ => rfl
  | (k', v', b) :: es, h => by
    simp only [List.map_cons, List.mem_cons, not_or] at h
    simp only [mset, ieq_eq, beq_false_of_ne h.1, cond_false, mset_none_of h.2]

theorem MR.mem {ι : Loc} : ∀ {es : List (Int × AV × Nat)} {l : List MapEntry}, MR ι es l → (∀ k v c, (k, v, c) ∈ es → ∃ e ∈ l, e.key = .int .i64 k ∧ VR ι v e.val ∧ e.born = c) ∧
    (∀ e ∈ l, ∃ k v c, (k, v, c) ∈ es ∧ e.key = .int .i64 k ∧ VR ι v e.val ∧ e.born = c) ∧ l.map (·.born) = es.map (·.2.2)
  | [], l, h => by
    simp only [MR] at h
    subst h
    exact ⟨fun _ _ _ h => (by cases h), fun _ h => (by cases h), rfl⟩
  | (k, v, b) :: es, l, h => by
    simp only [MR] at h
    obtain ⟨e, rest, rfl, h1, h2, h3, h4⟩ := h
    obtain ⟨g1, g2, g3⟩ := MR.mem h4
    refine ⟨fun k' v' c' hm => ?_, fun e' he => ?_, by simp [h3, g3]⟩
    · rcases List.mem_cons.1 hm with hm | hm
      · cases hm
        exact ⟨e, List.mem_cons_self .., h1, h2, h3⟩
      · obtain ⟨e', q1, q2⟩ := g1 k' v' c' hm
        exact ⟨e', List.mem_cons_of_mem _ q1, q2⟩
    · rcases List.mem_cons.1 he with rfl | he
      · exact ⟨k, v, b, List.mem_cons_self .., h1, h2, h3⟩
      · obtain ⟨k', v', c', q1, q2⟩ := g2 e' he
        exact ⟨k', v', c', List.mem_cons_of_mem _ q1, q2⟩

theorem nodup_ix {α : Type} {l : List α} (h : l.Nodup) {i j : Nat} {a : α} (hi : l[i]? = some a) (hj : l[j]? = some a) : i = j := nodup_get h hi hj

theorem Con.ins {D : Nat → Prop} {is : List Nat} {fin : List (Int × AV × Option Nat)} {es : List (Int × AV × Nat)} (c : Con D is fin es) {r i : Nat} {k : Int} {v : AV} {b : Option Nat} (hi : is[r]? = some i) (hf : fin[r]? = some (k, v, b)) (hnd : ¬ D i) (hn : is.Nodup) (hk : (fin.map (·.1)).Nodup) :
    k ∉ es.map (·.1) ∧ Con (Two D i) is fin (es ++ [(k, v, es.length)]) := by
  have hnew : k ∉ es.map (·.1) := by
    intro hm
    obtain ⟨e, he, hek⟩ := List.mem_map.1 hm
    obtain ⟨r', i', b', g1, g2, g3⟩ := c.bwd e he
    have : r' = r := nodup_ix hk (a := k) (by rw [List.getElem?_map, g3]; simpa using hek) (by rw [List.getElem?_map, hf]; rfl)
    subst this
    rw [hi] at g1
    cases g1
    exact hnd g2
  refine ⟨hnew, ⟨?_, ?_, fun e he => ?_, fun r' i' k' v' b' hr hf' hD => ?_, fun e he => ?_⟩⟩
  · rw [List.map_append, List.nodup_append]
    refine ⟨c.keys, by simp, fun x hx y hy => ?_⟩
    simp only [List.map_cons, List.map_nil, List.mem_singleton] at hy
    subst hy
    exact fun e => hnew (e ▸ hx)
  · rw [List.map_append, List.nodup_append]
    refine ⟨c.born, by simp, fun x hx y hy => ?_⟩
    simp only [List.map_cons, List.map_nil, List.mem_singleton] at hy
    subst hy
    obtain ⟨e, he, rfl⟩ := List.mem_map.1 hx
    have := c.lt e he
    omega
  · rcases List.mem_append.1 he with he | he
    · have := c.lt e he
      simp; omega
    · simp only [List.mem_singleton] at he
      subst he
      simp
  · rcases hD with rfl | hD
    · have : r' = r := nodup_ix hn hr hi
      subst this
      rw [hf] at hf'
      cases hf'
      exact ⟨es.length, List.mem_append_right _ (List.mem_singleton.2 rfl)⟩
    · obtain ⟨c', hc⟩ := c.fwd r' i' k' v' b' hr hf' hD
      exact ⟨c', List.mem_append_left _ hc⟩
  · rcases List.mem_append.1 he with he | he
    · obtain ⟨r', i', b', g1, g2, g3⟩ := c.bwd e he
      exact ⟨r', i', b', g1, .inr g2, g3⟩
    · simp only [List.mem_singleton] at he
      subst he
      exact ⟨r, i, b, hi, .inl rfl, hf⟩

/-- the stamps of a map's keys -/
def bornOf (es : List (Int × AV × Nat)) (k : Int) : Nat := match mborn k es with
  | some (_, b) => b
  | none => 0

theorem bornOf_mem {k : Int} {v : AV} {c : Nat} : ∀ {es : List (Int × AV × Nat)}, (es.map (·.1)).Nodup → (k, v, c) ∈ es → bornOf es k = c
  | [], _, h => by cases h
  | (k', v', c') :: es, hn, h => by
    rw [List.map_cons, List.nodup_cons] at hn
    simp only [bornOf, mborn, ieq_eq]
    rcases List.mem_cons.1 h with h | h
    · cases h
      simp
    · have : k ≠ k' := fun e => hn.1 (e ▸ List.mem_map.2 ⟨_, h, rfl⟩)
      simp only [beq_false_of_ne this, cond_false]
      exact bornOf_mem hn.2 h

/-- a map whose entries are all there, seen as a map without an order -/
theorem Con.whole {D : Nat → Prop} {is : List Nat} {fin : List (Int × AV × Option Nat)} {es : List (Int × AV × Nat)} (c : Con D is fin es) (hall : ∀ i ∈ is, D i) (hl : fin.length = is.length) (hk : (fin.map (·.1)).Nodup) (hnone : ∀ e ∈ fin, e.2.2 = none) {ι : Loc} {i : LocI} (hst : i.st = bornOf es) {ents : List MapEntry} (hm : MR ι es ents) :
    es.length = fin.length ∧ LR ι i fin ents es.length := by
  obtain ⟨g1, g2, g3⟩ := hm.mem
  have fw : ∀ k v b, (k, v, b) ∈ fin → ∃ cc, (k, v, cc) ∈ es := fun k v b hmem => by
    obtain ⟨r, hr⟩ := List.mem_iff_getElem?.1 hmem
    have hlt := (List.getElem?_eq_some_iff.1 hr).1
    have hi : is[r]? = some is[r] := List.getElem?_eq_getElem (by omega)
    exact c.fwd r _ k v b hi hr (hall _ (List.mem_of_getElem? hi))
  have bw : ∀ e ∈ es, (e.1, e.2.1, none) ∈ fin := fun e he => by
    obtain ⟨r, i', b, _, _, h3⟩ := c.bwd e he
    have := List.mem_of_getElem? h3
    have hb := hnone _ this
    simp only at hb
    rw [hb] at this
    exact this
  have hlen : es.length = fin.length := by
    have hperm : (es.map (·.1)).Perm (fin.map (·.1)) := (List.perm_ext_iff_of_nodup c.keys hk).2 fun x => by
      constructor
      · intro hx
        obtain ⟨e, he, rfl⟩ := List.mem_map.1 hx
        exact List.mem_map.2 ⟨_, bw e he, rfl⟩
      · intro hx
        obtain ⟨e, he, rfl⟩ := List.mem_map.1 hx
        obtain ⟨cc, hc⟩ := fw e.1 e.2.1 e.2.2 he
        exact List.mem_map.2 ⟨_, hc, rfl⟩
    simpa using hperm.length_eq
  refine ⟨hlen, ⟨?_, fun k v b hmem => ?_, fun e he => ?_, hk, by rw [g3]; exact c.born, fun e he => ?_⟩⟩
  · have := congrArg List.length g3
    simp at this
    omega
  · have hb := hnone _ hmem
    simp only at hb
    subst hb
    obtain ⟨cc, hc⟩ := fw k v none hmem
    obtain ⟨e, he, q1, q2, q3⟩ := g1 k v cc hc
    exact ⟨e, he, q1, q2, by rw [q3, stOf, hst, bornOf_mem c.keys hc]⟩
  · obtain ⟨k, v, cc, q1, q2, q3, q4⟩ := g2 e he
    exact ⟨k, v, none, bw _ q1, q2, q3, by rw [q4, stOf, hst, bornOf_mem c.keys q1]⟩
  · obtain ⟨k, v, cc, q1, q2, q3, q4⟩ := g2 e he
    have := c.lt _ q1
    simp only at this
    omega

section
variable {call : CallF X} {n : Nat} {ops : Array Oper} {l : List DOper} {T : PT Nat} {st : Nat → DSt X} {z : Was X} {p : Nat} {D : Nat → Prop} {ι : Loc} {F : Foot} {h : Heap X} {env : Env} {a : Act} {w : World}

/-- **a map literal begun** -/
theorem Inv.begin (H : Reg P call n ops l T st) (hz : z.h.next = (st 0).nm) (I : Inv P R l T ops.size st z p D ι F h env a w) {k j i : Nat} {is : List Nat} {d : DOper} {tm : Tmp} {kvs : List (Opd × Opd)} {u : Value} {obj : Obj} {i0 : LocI} {w1 : World}
    (hd : l[k]? = some d) (h1 : d.ixs = j :: i :: is) (hjN : j < ops.size) (hnd : ¬ D j) (hrd : ∀ j', (bmOf T j).testBit j' = true → D j') (hno : (j :: i :: is).Nodup)
    (hop : d.io.op = .a (.lit kvs)) (hdst : d.io.dst = some (Pos.of tm)) (hok : tm < z.n)
    (hw1' : w1.heap = w.heap.push obj ∧ w1.os = w.os ∧ w1.output = w.output) (hs : ∀ (ι' : Loc) (w2 : World), ι.le ι' → ι' (st k).nm.succ = some i0 → w2.heap[w.heap.size]? = some obj → VR ι' (.mp (st k).nm.succ) u ∧ OR P R ι' i0 (fun b => b = w.heap.size) w2 (.map [] 0 : AObj X)) :
    Inv P R l T ops.size st z p (Two D j) (ι.set (st k).nm.succ i0) (F.set (st k).nm.succ fun b => b = w.heap.size) (h.upd (st k).nm.succ (.map [] 0)) (env.put (Pos.of tm) (some (.mp (st k).nm.succ))) (a.put (some tm) u) w1 := by
  obtain ⟨hw1, hio⟩ := hw1'
  have hj : j ∈ d.ixs := by rw [h1]; exact List.mem_cons_self ..
  have ha := isAD_of hop
  have he : isEffD d = false := by simp [isEffD, hop, IOp.eff]
  have hins : ∀ i' ∈ i :: is, ¬ D i' := fun i' hi' hD => hnd (I.closed i' j hD (H.lit k d j (i :: is) kvs hd hop h1 i' hi'))
  have hnb : ¬ Beg l D k := by
    rintro ⟨d', hd', i', hi', hD⟩
    rw [hd] at hd'
    cases hd'
    rw [h1] at hi'
    rcases List.mem_cons.1 hi' with rfl | hi'
    · exact hnd hD
    · exact hins i' hi' hD
  have hndk : ¬ Don l D k := fun hdn => hnb (H.don_beg hdn)
  have hnd' : ¬ Don l (Two D j) k := by
    rintro ⟨d', hd', hall⟩
    rw [hd] at hd'
    cases hd'
    rw [h1] at hall
    rcases hall i (List.mem_cons_of_mem _ (List.mem_cons_self ..)) with e | hD
    · subst e
      exact (List.nodup_cons.1 hno).1 (List.mem_cons_self ..)
    · exact hins i (List.mem_cons_self ..) hD
  have hbeg' : Beg l (Two D j) k := ⟨d, hd, j, hj, .inl rfl⟩
  have hin : ι (st k).nm.succ = none := I.non2 k d _ hd hop hnb
  have hle : ι.le (ι.set (st k).nm.succ i0) := Loc.le_set _ hin
  have hold : ∀ b, b < w.heap.size → w1.heap[b]? = w.heap[b]? := fun b hb => by rw [hw1, Array.getElem?_push, if_neg (Nat.ne_of_lt hb)]
  have hnew : w1.heap[w.heap.size]? = some obj := by rw [hw1, Array.getElem?_push_size]
  have hsz : w1.heap.size = w.heap.size + 1 := by rw [hw1, Array.size_push]
  obtain ⟨hvr, hor⟩ := hs _ w1 hle (Loc.set_same ..) hnew
  have hlt := I.nmLt H hd ha
  have hnm0 := (H.nmLt hd ha).1
  have hother : ∀ {x}, x ≠ (st k).nm.succ → (h.upd (st k).nm.succ (.map [] 0)).m.get x = h.m.get x := fun hx => PT.get_put_other _ _ _ _ hx
  have hput : ∀ {t}, t ≠ Pos.of tm → (env.put (Pos.of tm) (some (.mp (st k).nm.succ))).get t = env.get t := fun ht => PT.get_put_other _ _ _ _ ht
  have hne : ∀ {k' d' q'}, l[k']? = some d' → d'.io.op = .a q' → (st k').nm ≠ (st k).nm.succ := fun {k' d' q'} hd' hop' e => (H.nmNe hd hd' ha (isAD_of hop')).2 e.symm
  refine ⟨?_, I.closedStep hrd, I.ple, fun k' hk' => (I.pre k' hk').mono, I.effsStep H hd hj he, (I.envR.mono hle).put hvr (by rw [I.size]; exact hok), fun t ht => ?_, fun k' d' t hd' ht hdn => ?_, fun k' d' t hd' ht hb hdn => ?_, by simpa [Act.put] using I.size, ?_, ?_, ?_, by have := I.b0; omega, I.nx, I.nx0, ?_, ?_, ?_, I.res, ?_, ?_, ?_⟩
  · rintro j' (rfl | hD)
    · exact hjN
    · exact I.sub j' hD
  · have : t ≠ Pos.of tm := fun e => ht k d hd (by rw [e]; exact hdst) hbeg'
    rw [hput this]
    exact I.env1 t fun k' d' hd' ht' hb => ht k' d' hd' ht' hb.mono
  · have hk : k' ≠ k := fun e => hnd' (e ▸ hdn)
    have : t ≠ Pos.of tm := fun e => hk (H.one k' d' k d t hd' hd ht (by rw [e]; exact hdst))
    rw [hput this]
    exact I.env2 k' d' t hd' ht ((H.don_other hd hj hk).1 hdn)
  · by_cases hk : k' = k
    · subst hk
      rw [hd] at hd'
      cases hd'
      rw [hdst] at ht
      cases ht
      exact PT.get_put_same ..
    · have : t ≠ Pos.of tm := fun e => hk (H.one k' d' k d t hd' hd ht (by rw [e]; exact hdst))
      rw [hput this]
      exact I.env3 k' d' t hd' ht ((H.beg_other hd hj hk).1 hb) fun hdn' => hdn hdn'.mono
  · exact rel_put I.rel i0 _ _ hlt.2 hin hold (fun b y o' hb hy hF => by
      obtain ⟨_, _, ho⟩ := I.rel.obj y o' hy
      have := ho.lt hF
      omega) hor
  · exact ev_put I.ev (by rw [hz, Pos.toNat_succ]; omega) i0 _ _ (by omega) hold (fun b hb => .inl (by have := I.ev.size; omega))
  · exact I.marks.put _ _ _ hold (fun r hr _ hS => by omega)
  · intro x o hx
    have hxn : x ≠ (st k).nm.succ := fun e => by
      subst e
      rw [(I.res k d _ (I.not_pre hndk) hd hop).2] at hx
      cases hx
    rw [hother hxn]
    exact I.sub1 x o hx
  · intro k' d' q' o hp hd' hop' hw hdn ho
    have hk : k' ≠ k := fun e => hnd' (e ▸ hdn)
    rw [hother (hne hd' hop')]
    exact I.own k' d' q' o hp hd' hop' hw ((H.don_other hd hj hk).1 hdn) ho
  · intro x o hx
    by_cases hxn : x = (st k).nm.succ
    · exact .inr (.inr ⟨k, d, _, hd, hop, hbeg', hnd', hxn⟩)
    · rw [hother hxn] at hx
      rcases I.only x o hx with hh | ⟨k', d', q', q1, q2, q3, q4, q5, q6⟩ | ⟨k', d', q', q1, q2, q3, q4, q5⟩
      · exact .inl hh
      · exact .inr (.inl ⟨k', d', q', q1, q2, q3, q4, q5.mono, q6⟩)
      · have hk : k' ≠ k := fun e => hnb (e ▸ q3)
        exact .inr (.inr ⟨k', d', q', q1, q2, q3.mono, fun hdn => q4 ((H.don_other hd hj hk).1 hdn), q5⟩)
  · intro k' d' q' hd' hop' hdn
    rw [Loc.set_other _ _ (hne hd' hop')]
    exact I.non1 k' d' q' hd' hop' fun hdn' => hdn hdn'.mono
  · intro k' d' q' hd' hop' hdn
    have hk : k' ≠ k := fun e => hdn (e ▸ hbeg')
    rw [Loc.set_other _ _ (((H.nmNe hd' hd (isAD_of hop') ha).1 hk).2)]
    exact I.non2 k' d' q' hd' hop' fun hdn' => hdn hdn'.mono
  · intro k' d' j' is' kvs' fin c hd' hop' hix hb hdn hfin
    by_cases hk : k' = k
    · subst hk
      rw [hd] at hd'
      cases hd'
      rw [h1] at hix
      cases hix
      refine ⟨[], PT.get_put_same .., ⟨List.nodup_nil, List.nodup_nil, fun e he => (by cases he), fun r i' kk v b hr hf hD => ?_, fun e he => (by cases he)⟩⟩
      have hmem := List.mem_of_getElem? hr
      rcases hD with rfl | hD
      · exact absurd hmem (List.nodup_cons.1 hno).1
      · exact absurd hD (hins i' hmem)
    · rw [hother (((H.nmNe hd' hd (isAD_of hop') ha).1 hk).2)]
      exact I.conStep H hd hj hk hd' hop' hix hb hdn hfin

/-- **an entry of a map literal, not the last** -/
theorem Inv.ins (H : Reg P call n ops l T st) (I : Inv P R l T ops.size st z p D ι F h env a w) {k j i r : Nat} {is : List Nat} {d : DOper} {kvs : List (Opd × Opd)} {fin : List (Int × AV × Option Nat)} {c : Nat} {es : List (Int × AV × Nat)} {w' : World}
    (hd : l[k]? = some d) (h1 : d.ixs = j :: is) (hiN : i < ops.size) (hi : is[r]? = some i) (hnd : ¬ D i) (hj : D j) (hrd : ∀ j', (bmOf T i).testBit j' = true → D j')
    (hop : d.io.op = .a (.lit kvs)) (hnl : ¬ Don l (Two D i) k) (hfin : (st (k + 1)).heap.m.get (st k).nm = some (.lmap fin c)) (hcon : Con (Two D i) is fin es) {o0 : AObj X} (ho0 : h.m.get (st k).nm.succ = some o0)
    (hr : Rel P R ι F (h.upd (st k).nm.succ (.map es es.length)) w') (hE : Ev ι F h w ι F (h.upd (st k).nm.succ (.map es es.length)) w') :
    Inv P R l T ops.size st z p (Two D i) ι F (h.upd (st k).nm.succ (.map es es.length)) env a w' := by
  have hid : i ∈ d.ixs := by rw [h1]; exact List.mem_cons_of_mem _ (List.mem_of_getElem? hi)
  have ha := isAD_of hop
  have he : isEffD d = false := by simp [isEffD, hop, IOp.eff]
  have hbeg : Beg l D k := ⟨d, hd, j, by rw [h1]; exact List.mem_cons_self .., hj⟩
  have hndk : ¬ Don l D k := fun hdn => hnl hdn.mono
  have hother : ∀ {x}, x ≠ (st k).nm.succ → (h.upd (st k).nm.succ (.map es es.length)).m.get x = h.m.get x := fun hx => PT.get_put_other _ _ _ _ hx
  have hne : ∀ {k' d' q'}, l[k']? = some d' → d'.io.op = .a q' → (st k').nm ≠ (st k).nm.succ := fun {k' d' q'} hd' hop' e => (H.nmNe hd hd' ha (isAD_of hop')).2 e.symm
  refine ⟨?_, I.closedStep hrd, I.ple, fun k' hk' => (I.pre k' hk').mono, I.effsStep H hd hid he, I.envR, fun t ht => ?_, fun k' d' t hd' ht hdn => ?_, fun k' d' t hd' ht hb hdn => ?_, I.size, hr, I.ev.trans hE, I.marks.ev hE, Nat.le_trans I.b0 hE.size, I.nx, I.nx0, ?_, ?_, ?_, I.res, ?_, ?_, ?_⟩
  · rintro j' (rfl | hD)
    · exact hiN
    · exact I.sub j' hD
  · exact I.env1 t fun k' d' hd' ht' hb => ht k' d' hd' ht' hb.mono
  · have hk : k' ≠ k := fun e => hnl (e ▸ hdn)
    exact I.env2 k' d' t hd' ht ((H.don_other hd hid hk).1 hdn)
  · by_cases hk : k' = k
    · subst hk
      exact I.env3 k' d' t hd' ht hbeg hndk
    · exact I.env3 k' d' t hd' ht ((H.beg_other hd hid hk).1 hb) fun hdn' => hdn hdn'.mono
  · intro x o hx
    have hxn : x ≠ (st k).nm.succ := fun e => by
      subst e
      rw [(I.res k d _ (I.not_pre hndk) hd hop).2] at hx
      cases hx
    rw [hother hxn]
    exact I.sub1 x o hx
  · intro k' d' q' o hp hd' hop' hw hdn ho
    have hk : k' ≠ k := fun e => hnl (e ▸ hdn)
    rw [hother (hne hd' hop')]
    exact I.own k' d' q' o hp hd' hop' hw ((H.don_other hd hid hk).1 hdn) ho
  · intro x o hx
    by_cases hxn : x = (st k).nm.succ
    · exact .inr (.inr ⟨k, d, _, hd, hop, hbeg.mono, hnl, hxn⟩)
    · rw [hother hxn] at hx
      rcases I.only x o hx with hh | ⟨k', d', q', q1, q2, q3, q4, q5, q6⟩ | ⟨k', d', q', q1, q2, q3, q4, q5⟩
      · exact .inl hh
      · exact .inr (.inl ⟨k', d', q', q1, q2, q3, q4, q5.mono, q6⟩)
      · refine .inr (.inr ⟨k', d', q', q1, q2, q3.mono, fun hdn => ?_, q5⟩)
        by_cases hk : k' = k
        · subst hk; exact hnl hdn
        · exact q4 ((H.don_other hd hid hk).1 hdn)
  · exact fun k' d' q' hd' hop' hdn => I.non1 k' d' q' hd' hop' fun hdn' => hdn hdn'.mono
  · exact fun k' d' q' hd' hop' hdn => I.non2 k' d' q' hd' hop' fun hdn' => hdn hdn'.mono
  · intro k' d' j' is' kvs' fin' c' hd' hop' hix hb hdn hfin'
    by_cases hk : k' = k
    · subst hk
      rw [hd] at hd'
      cases hd'
      rw [h1] at hix
      cases hix
      rw [hfin] at hfin'
      cases hfin'
      exact ⟨es, PT.get_put_same .., hcon⟩
    · rw [hother (((H.nmNe hd' hd (isAD_of hop') ha).1 hk).2)]
      exact I.conStep H hd hid hk hd' hop' hix hb hdn hfin'

/-- **the last entry of a map literal** -/
theorem Inv.last (H : Reg P call n ops l T st) (hz : z.h.next = (st 0).nm) (I : Inv P R l T ops.size st z p D ι F h env a w) {k j i r : Nat} {is : List Nat} {d : DOper} {tm : Tmp} {kvs : List (Opd × Opd)} {fin : List (Int × AV × Option Nat)} {es : List (Int × AV × Nat)} {w' : World}
    (hd : l[k]? = some d) (h1 : d.ixs = j :: is) (hiN : i < ops.size) (hi : is[r]? = some i) (hnd : ¬ D i) (hj : D j) (hrd : ∀ j', (bmOf T i).testBit j' = true → D j')
    (hop : d.io.op = .a (.lit kvs)) (hdst : d.io.dst = some (Pos.of tm)) (hok : tm < z.n) (hwk : wanted (st k).env d.io.guard = true) (hnl : Don l (Two D i) k) (hfin : (st (k + 1)).heap.m.get (st k).nm = some (.lmap fin fin.length)) (hcon : Con (Two D i) is fin es) {o0 : AObj X} (ho0 : h.m.get (st k).nm.succ = some o0)
    (hlen : fin.length = is.length) (hkeys : (fin.map (·.1)).Nodup) (hnone : ∀ e ∈ fin, e.2.2 = none) (henv : (st (k + 1)).env = putD (st k).env d.io.dst (.mp (st k).nm))
    (hr : Rel P R ι F (h.upd (st k).nm.succ (.map es es.length)) w') (hE : Ev ι F h w ι F (h.upd (st k).nm.succ (.map es es.length)) w') :
    ∃ ι' F' h', Inv P R l T ops.size st z p (Two D i) ι' F' h' (env.put (Pos.of tm) (some (.mp (st k).nm))) a w' := by
  have hid : i ∈ d.ixs := by rw [h1]; exact List.mem_cons_of_mem _ (List.mem_of_getElem? hi)
  have ha := isAD_of hop
  have he : isEffD d = false := by simp [isEffD, hop, IOp.eff]
  have hbeg : Beg l D k := ⟨d, hd, j, by rw [h1]; exact List.mem_cons_self .., hj⟩
  have hndk : ¬ Don l D k := by
    rintro ⟨d', hd', hall⟩
    rw [hd] at hd'
    cases hd'
    exact hnd (hall i hid)
  have hall : ∀ i' ∈ is, Two D i i' := by
    obtain ⟨d', hd', hall⟩ := hnl
    rw [hd] at hd'
    cases hd'
    intro i' hi'
    exact hall i' (by rw [h1]; exact List.mem_cons_of_mem _ hi')
  -- the map as it is
  have hg : (h.upd (st k).nm.succ (.map es es.length)).m.get (st k).nm.succ = some (.map es es.length) := PT.get_put_same ..
  obtain ⟨i1, hi1, hS1, ents, hb1, hm1⟩ := hr.obj _ _ hg
  obtain ⟨r2, e2⟩ := rel_kill hr (st k).nm.succ
  have hlt := I.nmLt H hd ha
  have hnm0 := (H.nmLt hd ha).1
  have hin : ι (st k).nm = none := I.non1 k d _ hd hop hndk
  let i2 : LocI := ⟨i1.blk, i1.base, i1.cap, bornOf es⟩
  have hle : ι.le (ι.set (st k).nm i2) := Loc.le_set _ hin
  obtain ⟨hel, hLR⟩ := hcon.whole hall hlen hkeys hnone (i := i2) rfl hm1
  have hkget : ∀ {x y}, ((h.upd (st k).nm.succ (.map es es.length)).kill (st k).nm.succ).m.get x = some y → x ≠ (st k).nm.succ ∧ h.m.get x = some y := fun {x y} hx => by
    by_cases e : x = (st k).nm.succ
    · subst e; rw [Heap.kill, PT.get_put_same] at hx; cases hx
    · rw [Heap.kill, PT.get_put_other _ _ _ _ e, Heap.upd, PT.get_put_other _ _ _ _ e] at hx
      exact ⟨e, hx⟩
  have hkeep : ∀ {x}, x ≠ (st k).nm.succ → x ≠ (st k).nm → (((h.upd (st k).nm.succ (.map es es.length)).kill (st k).nm.succ).upd (st k).nm (.lmap fin fin.length)).m.get x = h.m.get x := fun {x} h1 h2 => by
    rw [Heap.upd, PT.get_put_other _ _ _ _ h2, Heap.kill, PT.get_put_other _ _ _ _ h1, Heap.upd, PT.get_put_other _ _ _ _ h1]
  have hne : ∀ {k' d' q'}, l[k']? = some d' → d'.io.op = .a q' → (st k').nm ≠ (st k).nm.succ := fun {k' d' q'} hd' hop' e => (H.nmNe hd hd' ha (isAD_of hop')).2 e.symm
  have hput : ∀ {t}, t ≠ Pos.of tm → (env.put (Pos.of tm) (some (.mp (st k).nm))).get t = env.get t := fun ht => PT.get_put_other _ _ _ _ ht
  have htm : env.get (Pos.of tm) = some (.mp (st k).nm.succ) := I.env3 k d _ hd hdst hbeg hndk
  refine ⟨ι.set (st k).nm i2, F.set (st k).nm (F (st k).nm.succ), ((h.upd (st k).nm.succ (.map es es.length)).kill (st k).nm.succ).upd (st k).nm (.lmap fin fin.length), ?_⟩
  refine ⟨?_, I.closedStep hrd, I.ple, fun k' hk' => (I.pre k' hk').mono, I.effsStep H hd hid he, fun t => ?_, fun t ht => ?_, fun k' d' t hd' ht hdn => ?_, fun k' d' t hd' ht hb hdn => ?_, I.size, ?_, ?_, ?_, Nat.le_trans I.b0 hE.size, I.nx, I.nx0, ?_, ?_, ?_, I.res, ?_, ?_, ?_⟩
  · rintro j' (rfl | hD)
    · exact hiN
    · exact I.sub j' hD
  · by_cases ht : Pos.of t = Pos.of tm
    · have htt := Pos.of_inj ht
      subst htt
      have hv := I.envR t
      simp only [Opd.ev, htm, VR] at hv
      simp only [Opd.ev, PT.get_put_same, VR]
      obtain ⟨i', hi', hv⟩ := hv
      rw [hi1] at hi'
      cases hi'
      exact ⟨i2, Loc.set_same .., hv⟩
    · have hv := (I.envR.mono hle) t
      simp only [Opd.ev] at hv ⊢
      rw [hput ht]
      exact hv
  · have : t ≠ Pos.of tm := fun e => ht k d hd (by rw [e]; exact hdst) hbeg.mono
    rw [hput this]
    exact I.env1 t fun k' d' hd' ht' hb => ht k' d' hd' ht' hb.mono
  · by_cases hk : k' = k
    · subst hk
      rw [hd] at hd'
      cases hd'
      rw [hdst] at ht
      cases ht
      rw [henv, hdst, putD_same, PT.get_put_same]
    · have : t ≠ Pos.of tm := fun e => hk (H.one k' d' k d t hd' hd ht (by rw [e]; exact hdst))
      rw [hput this]
      exact I.env2 k' d' t hd' ht ((H.don_other hd hid hk).1 hdn)
  · have hk : k' ≠ k := fun e => hdn (e ▸ hnl)
    have : t ≠ Pos.of tm := fun e => hk (H.one k' d' k d t hd' hd ht (by rw [e]; exact hdst))
    rw [hput this]
    exact I.env3 k' d' t hd' ht ((H.beg_other hd hid hk).1 hb) fun hdn' => hdn hdn'.mono
  · refine rel_put r2 i2 _ _ hlt.1 hin (fun _ _ => rfl) (fun b y o' hb hy hF => ?_) ⟨hS1, ents, by rw [← hel]; exact hb1, ?_⟩
    · obtain ⟨hyn, hy'⟩ := hkget hy
      have := I.rel.disj y (st k).nm.succ o' o0 b hy' ho0 hF hb
      exact hyn this
    · rw [← hel]; exact hLR.mono hle
  · refine ev_put (I.ev.trans (hE.trans e2)) (by rw [hz]; exact hnm0) i2 _ _ (Nat.le_refl _) (fun _ _ => rfl) (fun b hb => ?_)
    have := (I.ev.trans hE).foot (st k).nm.succ _ b hg hb
    exact this
  · obtain ⟨rs, m1, m2, m3⟩ := I.marks.ev hE
    refine ⟨rs, m1, m2, fun r' hr' => ?_⟩
    obtain ⟨q1, q2, q3⟩ := m3 r' hr'
    refine ⟨q1, q2, fun y o' hy hF => ?_⟩
    by_cases e : y = (st k).nm
    · subst e
      rw [Foot.set_same] at hF
      exact q3 _ _ hg hF
    · rw [Foot.set_other _ _ e] at hF
      rw [Heap.upd, PT.get_put_other _ _ _ _ e] at hy
      obtain ⟨hyn, hy'⟩ := hkget hy
      exact q3 y o' (by rw [Heap.upd, PT.get_put_other _ _ _ _ hyn]; exact hy') hF
  · intro x o hx
    have hxn : x ≠ (st k).nm.succ := fun e => by
      subst e
      rw [(I.res k d _ (I.not_pre hndk) hd hop).2] at hx
      cases hx
    have hxn' : x ≠ (st k).nm := fun e => by
      subst e
      rw [(I.res k d _ (I.not_pre hndk) hd hop).1] at hx
      cases hx
    rw [hkeep hxn hxn']
    exact I.sub1 x o hx
  · intro k' d' q' o hp hd' hop' hw hdn ho
    by_cases hk : k' = k
    · subst hk
      rw [hfin] at ho
      cases ho
      exact PT.get_put_same ..
    · rw [hkeep (hne hd' hop') (((H.nmNe hd' hd (isAD_of hop') ha).1 hk).1)]
      exact I.own k' d' q' o hp hd' hop' hw ((H.don_other hd hid hk).1 hdn) ho
  · intro x o hx
    by_cases hxn : x = (st k).nm
    · subst hxn
      rw [Heap.upd, PT.get_put_same] at hx
      cases hx
      exact .inr (.inl ⟨k, d, _, I.not_pre hndk, hd, hop, hwk, hnl, rfl, hfin⟩)
    · have hx' := hx
      rw [Heap.upd, PT.get_put_other _ _ _ _ hxn] at hx'
      obtain ⟨hxs, hx''⟩ := hkget hx'
      rcases I.only x o hx'' with hh | ⟨k', d', q', q1, q2, q3, q4, q5, q6⟩ | ⟨k', d', q', q1, q2, q3, q4, q5⟩
      · exact .inl hh
      · exact .inr (.inl ⟨k', d', q', q1, q2, q3, q4, q5.mono, q6⟩)
      · have hk : k' ≠ k := fun e => hxs (e ▸ q5)
        exact .inr (.inr ⟨k', d', q', q1, q2, q3.mono, fun hdn => q4 ((H.don_other hd hid hk).1 hdn), q5⟩)
  · intro k' d' q' hd' hop' hdn
    have hk : k' ≠ k := fun e => hdn (e ▸ hnl)
    rw [Loc.set_other _ _ (((H.nmNe hd' hd (isAD_of hop') ha).1 hk).1)]
    exact I.non1 k' d' q' hd' hop' fun hdn' => hdn hdn'.mono
  · intro k' d' q' hd' hop' hdn
    rw [Loc.set_other _ _ ((H.nmNe hd' hd (isAD_of hop') ha).2)]
    exact I.non2 k' d' q' hd' hop' fun hdn' => hdn hdn'.mono
  · intro k' d' j' is' kvs' fin' c' hd' hop' hix hb hdn hfin'
    have hk : k' ≠ k := fun e => hdn (e ▸ hnl)
    rw [hkeep (((H.nmNe hd' hd (isAD_of hop') ha).1 hk).2) ((H.nmNe hd' hd (isAD_of hop') ha).2)]
    exact I.conStep H hd hid hk hd' hop' hix hb hdn hfin'
end
end Go.Ev
