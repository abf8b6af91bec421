import Derived.Test.YtddcnopjjihmcaaGreatEv22
set_option linter.unusedSectionVars false
set_option linter.unusedVariables false
set_option linter.unusedSimpArgs false
namespace Go.Ev
variable {X : Type} [T : SymT] [V : SymV] {P : Program} {R : XRel X}

theorem overlay (f : Pos → Option (AObj X)) : ∀ (L : List Pos) (m : PT (AObj X)), ∃ m' : PT (AObj X), ∀ x, (x ∈ L → m'.get x = f x) ∧ (x ∉ L → m'.get x = m.get x)
  | [], m => ⟨m, fun x => ⟨fun h => (by cases h), fun _ => rfl⟩⟩
  | y :: L, m => by
    obtain ⟨m', h⟩ := overlay f L m
    refine ⟨m'.put y (f y), fun x => ⟨fun hx => ?_, fun hx => ?_⟩⟩
    · by_cases e : x = y
      · subst e; exact PT.get_put_same ..
      · rw [PT.get_put_other _ _ _ _ e]
        rcases List.mem_cons.1 hx with rfl | hx
        · exact absurd rfl e
        · exact (h x).1 hx
    · simp only [List.mem_cons, not_or] at hx
      rw [PT.get_put_other _ _ _ _ hx.1]
      exact (h x).2 hx.2

section
variable {call : CallF X} {n : Nat} {ops : Array Oper} {l : List DOper} {T : PT Nat} {st : Nat → DSt X} {z : Was X} {p : Nat} {D : Nat → Prop} {ι : Loc} {F : Foot} {h : Heap X} {env : Env} {a : Act} {w : World}

theorem names_list (l : List DOper) (st : Nat → DSt X) (p : Nat) : ∃ L : List Pos, ∀ x, x ∈ L ↔ ∃ (k : Nat) (d : DOper), p ≤ k ∧ l[k]? = some d ∧ isAD d = true ∧ (x = (st k).nm ∨ x = (st k).nm.succ) := by
  refine ⟨(List.range l.length).flatMap fun k => match l[k]? with
    | some d => if p ≤ k ∧ isAD d = true then [(st k).nm, (st k).nm.succ] else []
    | none => [], fun x => ?_⟩
  rw [List.mem_flatMap]
  constructor
  · rintro ⟨k, _, hx⟩
    split at hx
    · rename_i d hd
      split at hx
      · rename_i hc
        simp only [List.mem_cons, List.not_mem_nil, or_false] at hx
        exact ⟨k, d, hc.1, hd, hc.2, hx⟩
      · cases hx
    · cases hx
  · rintro ⟨k, d, h1, h2, h3, h4⟩
    refine ⟨k, List.mem_range.2 (lt_of_get h2), ?_⟩
    rw [h2]
    simp only [h1, h3, and_self, if_true, List.mem_cons, List.not_mem_nil, or_false]
    exact h4

/-- the heap of the order chosen is a part of the heap that is -/
theorem Inv.relSub (I : Inv P R l T ops.size st z p D ι F h env a w) : Rel P R ι F (st p).heap w := by
  refine ⟨fun x o hx => I.rel.obj x o (I.sub1 x o hx), fun x x' o o' b h1 h2 => I.rel.disj x x' o o' b (I.sub1 x o h1) (I.sub1 x' o' h2), fun x hx => ?_⟩
  have := I.rel.fresh x (by rw [I.nx]; exact hx)
  refine ⟨this.1, ?_⟩
  cases hg : (st p).heap.m.get x with
  | none => rfl
  | some o => rw [I.sub1 x o hg] at this; cases this.2

/-- **an item that is done, come by in the order chosen** -/
theorem Inv.adv (H : Reg P call n ops l T st) (I : Inv P R l T ops.size st z p D ι F h env a w) {d : DOper} (hd : l[p]? = some d) (hdn : Don l D p) (he : isEffD d = false) : Inv P R l T ops.size st z (p + 1) D ι F h env a w := by
  obtain ⟨v, hv⟩ := H.step p d hd
  have hlt := lt_of_get hd
  -- what the item did to the heap
  have key : (st (p + 1)).heap.next = (st p).heap.next ∧ ((st (p + 1)).heap = (st p).heap ∧ (∀ q, d.io.op = .a q → wanted (st p).env d.io.guard = false) ∨
      ∃ q o, d.io.op = .a q ∧ wanted (st p).env d.io.guard = true ∧ (st (p + 1)).heap = (st p).heap.upd (st p).nm o) := by
    cases hw : wanted (st p).env d.io.guard with
    | false =>
      have := (evD_no hv hw).2
      exact ⟨by rw [this], .inl ⟨this, fun _ _ => rfl⟩⟩
    | true =>
      cases hop : d.io.op with
      | a q =>
        obtain ⟨o, _, _, h3⟩ := evD_a hv hw hop
        exact ⟨by rw [h3]; rfl, .inr ⟨q, o, rfl, rfl, h3⟩⟩
      | _ =>
        have := evD_heap hv he (by simp [isAD, hop, IOp.isA])
        exact ⟨by rw [this], .inl ⟨this, fun _ h => by cases h⟩⟩
  obtain ⟨hnext, hkind⟩ := key
  refine ⟨I.sub, I.closed, hlt, fun k hk => ?_, fun k d' i hk => I.effs k d' i (by omega), I.envR, I.env1, I.env2, I.env3, I.size, I.rel, I.ev, I.marks, I.b0, by rw [hnext]; exact I.nx, I.nx0, fun x o hx => ?_, fun k d' q o hk => I.own k d' q o (by omega), fun x o hx => ?_, fun k d' q hk hd' hop => ?_, I.non1, I.non2, I.con⟩
  · rcases Nat.lt_or_ge k p with h1 | h1
    · exact I.pre k h1
    · have : k = p := by omega
      subst this
      exact hdn
  · rcases hkind with ⟨h1, _⟩ | ⟨q, o', hop, hw, h1⟩
    · rw [h1] at hx; exact I.sub1 x o hx
    · have hx0 := hx
      rw [h1] at hx
      by_cases hxn : x = (st p).nm
      · subst hxn
        exact I.own p d q o (Nat.le_refl _) hd hop hw hdn hx0
      · rw [Heap.upd, PT.get_put_other _ _ _ _ hxn] at hx
        exact I.sub1 x o hx
  · rcases I.only x o hx with hh | ⟨k', d', q, q1, q2, q3, q4, q5, q6, q7⟩ | hh
    · rcases hkind with ⟨h1, _⟩ | ⟨q, o', hop, hw, h1⟩
      · rw [h1]; exact .inl hh
      · refine .inl ?_
        have hxn : x ≠ (st p).nm := fun e => by
          subst e
          rw [(I.res p d q (Nat.le_refl _) hd hop).1] at hh
          cases hh
        rw [h1, Heap.upd, PT.get_put_other _ _ _ _ hxn]
        exact hh
    · by_cases hk : k' = p
      · subst hk
        exact .inl q7
      · exact .inr (.inl ⟨k', d', q, by omega, q2, q3, q4, q5, q6, q7⟩)
    · exact .inr (.inr hh)
  · have hres := I.res k d' q (by omega) hd' hop
    rcases hkind with ⟨h1, _⟩ | ⟨q0, o', hop0, hw, h1⟩
    · rw [h1]; exact hres
    · have hne := H.nmNe hd' hd (isAD_of hop) (isAD_of hop0)
      rw [h1, Heap.upd, PT.get_put_other _ _ _ _ ((hne.1 (by omega)).1), PT.get_put_other _ _ _ _ hne.2]
      exact hres

/-- **an effect** -/
theorem Inv.eff (H : Reg P call n ops l T st) (I : Inv P R l T ops.size st z p D ι F h env a w) {i : Nat} {d : DOper} {v : AV} {u : Value} {dst : Option Tmp} {ι' : Loc} {F' : Foot} {w' : World} (hd : l[p]? = some d) (h1 : d.ixs = [i]) (hiN : i < ops.size) (hnd : ¬ D i) (hrd : ∀ j, (bmOf T i).testBit j = true → D j)
    (he : isEffD d = true) (hev : evD call d (st p) = some (v, st (p + 1))) (hu : VR ι' v u) (hdst : d.io.dst = dst.map Pos.of) (hok : dstOk z.n dst = true)
    (hr : Rel P R ι' F' (st (p + 1)).heap w') (hE : Ev ι F (st p).heap w ι' F' (st (p + 1)).heap w') :
    ∃ F2 h2, Inv P R l T ops.size st z (p + 1) (Two D i) ι' F2 h2 (putD env d.io.dst v) (a.put dst u) w' := by
  classical
  have hi : i ∈ d.ixs := by rw [h1]; exact List.mem_cons_self ..
  have hlt := lt_of_get hd
  have hle := hE.le I.relSub
  obtain ⟨L, hL⟩ := names_list l st p
  obtain ⟨m', hm'⟩ := overlay (fun x => h.m.get x) L (st (p + 1)).heap.m
  have hop0 : ∀ q, d.io.op ≠ .a q := fun q hq => by simp [isEffD, hq, IOp.eff] at he
  have hLnone : ∀ x, x ∈ L → (st p).heap.m.get x = none := fun x hx => by
    obtain ⟨k, d', k1, k2, k3, k4⟩ := (hL x).1 hx
    obtain ⟨q, hq⟩ : ∃ q, d'.io.op = .a q := by
      unfold isAD IOp.isA at k3
      split at k3
      · rename_i q hq; exact ⟨q, hq⟩
      · cases k3
    rcases k4 with rfl | rfl
    · exact (I.res k d' q k1 k2 hq).1
    · exact (I.res k d' q k1 k2 hq).2
  have hLlt : ∀ x, x ∈ L → x.toNat < h.next.toNat := fun x hx => by
    obtain ⟨k, d', k1, k2, k3, k4⟩ := (hL x).1 hx
    have := I.nmLt H k2 k3
    rcases k4 with rfl | rfl
    · exact this.1
    · exact this.2
  have hLlt' : ∀ x, x ∈ L → x.toNat < (st p).heap.next.toNat := fun x hx => by rw [← I.nx]; exact hLlt x hx
  -- the later heap holds none of these names
  have hLnone' : ∀ x, x ∈ L → (st (p + 1)).heap.m.get x = none := fun x hx => by
    cases hg : (st (p + 1)).heap.m.get x with
    | none => rfl
    | some o =>
      obtain ⟨o0, ho⟩ := hE.old x o (hLlt' x hx) hg
      rw [hLnone x hx] at ho
      cases ho
  have hblk : ∀ x o b, x ∈ L → h.m.get x = some o → F x b → b < w.heap.size ∧ w'.heap[b]? = w.heap[b]? := fun x o b hx ho hb => by
    obtain ⟨_, _, hor⟩ := I.rel.obj x o ho
    have hlt := hor.lt hb
    refine ⟨hlt, hE.frame b hlt fun y o' hy hF => ?_⟩
    have := I.rel.disj x y o o' b ho (I.sub1 y o' hy) hb hF
    subst this
    rw [hLnone x hx] at hy
    cases hy
  obtain ⟨F2, hF2⟩ : ∃ F2 : Foot, ∀ x, (x ∈ L → F2 x = F x) ∧ (x ∉ L → F2 x = F' x) := ⟨fun x => if x ∈ L then F x else F' x, fun x => ⟨fun hx => by simp [hx], fun hx => by simp [hx]⟩⟩
  have hrel : Rel P R ι' F2 ⟨(st (p + 1)).heap.next, m'⟩ w' := by
    refine ⟨fun x o hx => ?_, fun x x' o o' b hx hx' hb hb' => ?_, fun x hx => ?_⟩
    · by_cases hxL : x ∈ L
      · rw [(hm' x).1 hxL] at hx
        obtain ⟨j, hj, hor⟩ := I.rel.obj x o hx
        refine ⟨j, hle x j hj, ?_⟩
        rw [(hF2 x).1 hxL]
        exact hor.mono hle fun b hb => (hblk x o b hxL hx hb).2
      · rw [(hm' x).2 hxL] at hx
        obtain ⟨j, hj, hor⟩ := hr.obj x o hx
        exact ⟨j, hj, by rw [(hF2 x).2 hxL]; exact hor⟩
    · have cross : ∀ {x x' o o'}, x ∈ L → x' ∉ L → h.m.get x = some o → (st (p + 1)).heap.m.get x' = some o' → F x b → ¬ F' x' b := by
        intro x x' o o' hxL hxL' hx hx' hb hb'
        have := (hblk x o b hxL hx hb).1
        rcases hE.foot x' o' b hx' hb' with h2 | ⟨y, oy, h2, h3⟩
        · omega
        · have := I.rel.disj x y o oy b hx (I.sub1 y oy h2) hb h3
          subst this
          rw [hLnone x hxL] at h2
          cases h2
      by_cases hxL : x ∈ L <;> by_cases hxL' : x' ∈ L
      · rw [(hm' x).1 hxL] at hx; rw [(hm' x').1 hxL'] at hx'
        rw [(hF2 x).1 hxL] at hb; rw [(hF2 x').1 hxL'] at hb'
        exact I.rel.disj x x' o o' b hx hx' hb hb'
      · rw [(hm' x).1 hxL] at hx; rw [(hm' x').2 hxL'] at hx'
        rw [(hF2 x).1 hxL] at hb; rw [(hF2 x').2 hxL'] at hb'
        exact absurd hb' (cross hxL hxL' hx hx' hb)
      · rw [(hm' x).2 hxL] at hx; rw [(hm' x').1 hxL'] at hx'
        rw [(hF2 x).2 hxL] at hb; rw [(hF2 x').1 hxL'] at hb'
        exact absurd hb (cross hxL' hxL hx' hx hb')
      · rw [(hm' x).2 hxL] at hx; rw [(hm' x').2 hxL'] at hx'
        rw [(hF2 x).2 hxL] at hb; rw [(hF2 x').2 hxL'] at hb'
        exact hr.disj x x' o o' b hx hx' hb hb'
    · have := hr.fresh x hx
      have hxL : x ∉ L := fun hxL => by
        have h2 := hLlt' x hxL
        have h3 := hE.nx
        simp only at hx
        omega
      exact ⟨this.1, by show m'.get x = none; rw [(hm' x).2 hxL]; exact this.2⟩
  have hEv : Ev ι F h w ι' F2 ⟨(st (p + 1)).heap.next, m'⟩ w' := by
    refine ⟨fun x hx => hE.dom x (by rw [← I.nx]; exact hx), by rw [I.nx]; exact hE.nx, hE.size, fun b hb hF => hE.frame b hb fun y o hy => hF y o (I.sub1 y o hy), fun x o b hx hb => ?_, fun x o hx hg => ?_, hE.io⟩
    · by_cases hxL : x ∈ L
      · have hx' : h.m.get x = some o := by rw [← (hm' x).1 hxL]; exact hx
        rw [(hF2 x).1 hxL] at hb
        exact .inr ⟨x, o, hx', hb⟩
      · have hx' : (st (p + 1)).heap.m.get x = some o := by rw [← (hm' x).2 hxL]; exact hx
        rw [(hF2 x).2 hxL] at hb
        rcases hE.foot x o b hx' hb with h2 | ⟨y, oy, h2, h3⟩
        · exact .inl h2
        · exact .inr ⟨y, oy, I.sub1 y oy h2, h3⟩
    · by_cases hxL : x ∈ L
      · exact ⟨o, by rw [← (hm' x).1 hxL]; exact hg⟩
      · have hx' : (st (p + 1)).heap.m.get x = some o := by rw [← (hm' x).2 hxL]; exact hg
        obtain ⟨o0, h0⟩ := hE.old x o (by rw [← I.nx]; exact hx) hx'
        exact ⟨o0, I.sub1 x o0 h0⟩
  obtain ⟨e1, e2, e3⟩ := I.envStep H hd h1 (evD_env hev).1
  obtain ⟨g1, g2, g3⟩ := putD_sound (I.envR.mono hle) I.size hok hu
  have hdon : Don l (Two D i) p := (one_don hd h1).1.2 (.inl rfl)
  have hbn : ∀ k', Beg l (Two D i) k' → ¬ Don l (Two D i) k' → k' ≠ p := fun k' _ hn e => hn (e ▸ hdon)
  have hob : ¬ (Beg l D p ∧ ¬ Don l D p) := fun ⟨hb, hn⟩ => hn ((one_don hd h1).1.2 ((one_don hd h1).2.1 hb))
  have memL : ∀ {k d' q}, p ≤ k → l[k]? = some d' → d'.io.op = .a q → (st k).nm ∈ L ∧ (st k).nm.succ ∈ L := fun {k d' q} hk hd' hop =>
    ⟨(hL _).2 ⟨k, d', hk, hd', isAD_of hop, .inl rfl⟩, (hL _).2 ⟨k, d', hk, hd', isAD_of hop, .inr rfl⟩⟩
  refine ⟨F2, ⟨(st (p + 1)).heap.next, m'⟩, ?_, I.closedStep hrd, hlt, fun k hk => ?_, ?_, by rw [hdst]; exact g1, e1, e2, e3, g2, hrel, I.ev.trans hEv, by rw [g3]; exact I.marks.ev hEv, Nat.le_trans I.b0 hE.size, rfl, ?_, ?_, ?_, ?_, ?_, ?_, ?_, ?_⟩
  · rintro j (rfl | hD)
    · exact hiN
    · exact I.sub j hD
  · rcases Nat.lt_or_ge k p with h1 | h1
    · exact (I.pre k h1).mono
    · have : k = p := by omega
      subst this
      exact hdon
  · rintro k' d' i' hk' hd' he' hi' (rfl | hD)
    · have := H.new k' d' p d i' hd' hd hi' hi
      omega
    · exact I.effs k' d' i' (by omega) hd' he' hi' hD
  · have := I.nx0
    rw [I.nx] at this
    exact Nat.le_trans this hE.nx
  · intro x o hx
    have hxL : x ∉ L := fun hxL => by rw [hLnone' x hxL] at hx; cases hx
    show m'.get x = some o
    rw [(hm' x).2 hxL]
    exact hx
  · intro k' d' q o hk' hd' hop hw hdn ho
    have hkp : k' ≠ p := by omega
    show m'.get (st k').nm = some o
    rw [(hm' _).1 (memL (by omega) hd' hop).1]
    exact I.own k' d' q o (by omega) hd' hop hw ((H.don_other hd hi hkp).1 hdn) ho
  · intro x o hx
    replace hx : m'.get x = some o := hx
    by_cases hxL : x ∈ L
    · rw [(hm' x).1 hxL] at hx
      rcases I.only x o hx with hh | ⟨k', d', q, q1, q2, q3, q4, q5, q6, q7⟩ | ⟨k', d', q, q1, q2, q3, q4, q5⟩
      · rw [hLnone x hxL] at hh; cases hh
      · have hk : k' ≠ p := fun e => by
          subst e
          rw [hd] at q2
          cases q2
          exact hop0 q q3
        exact .inr (.inl ⟨k', d', q, by omega, q2, q3, q4, q5.mono, q6, q7⟩)
      · have hk : k' ≠ p := fun e => hob (e ▸ ⟨q3, q4⟩)
        exact .inr (.inr ⟨k', d', q, q1, q2, q3.mono, fun hdn => q4 ((H.don_other hd hi hk).1 hdn), q5⟩)
    · rw [(hm' x).2 hxL] at hx
      exact .inl hx
  · intro k' d' q hk' hd' hop
    obtain ⟨m1, m2⟩ := memL (by omega) hd' hop
    exact ⟨hLnone' _ m1, hLnone' _ m2⟩
  · intro k' d' q hd' hop hdn
    have hdn' : ¬ Don l D k' := fun hdn' => hdn hdn'.mono
    have := I.non1 k' d' q hd' hop hdn'
    rw [hE.dom _ (hLlt' _ (memL (I.not_pre hdn') hd' hop).1)]
    exact this
  · intro k' d' q hd' hop hdn
    have hdn' : ¬ Beg l D k' := fun hdn' => hdn hdn'.mono
    have := I.non2 k' d' q hd' hop hdn'
    rw [hE.dom _ (hLlt' _ (memL (I.not_pre fun hdd => hdn' (H.don_beg hdd)) hd' hop).2)]
    exact this
  · intro k' d' j is kvs fin c hd' hop hix hb hdn hfin
    have hdn' : ¬ Don l D k' := fun hdn' => hdn hdn'.mono
    show ∃ es, m'.get (st k').nm.succ = _ ∧ _
    rw [(hm' _).1 (memL (I.not_pre hdn') hd' hop).2]
    exact I.conStep H hd hi (hbn k' hb hdn) hd' hop hix hb hdn hfin

end
end Go.Ev
