import Derived.Test.YtddcnopjjihmcaaGreatEv3
import Derived.Laws.Cells
import Derived.Laws.World
set_option linter.unusedSectionVars false
set_option linter.unusedVariables false
set_option linter.unusedSimpArgs false
namespace Go.Ev
variable {X : Type} [T : SymT] [V : SymV] {P : Program} {R : XRel X}

/-! ### memory -/
theorem add_none (b o n : Nat) : Addr.add ⟨b, o, none⟩ n = ⟨b, o + n, none⟩ := by
  unfold Addr.add; split
  · subst_vars; rfl
  · rfl

theorem cell_of {w : World} {b : Nat} {arr : Array Value} {e : TypeId} {fz : Nat × Nat} {j : Nat} (h : w.heap[b]? = some (.cells arr e fz)) : w.cell? ⟨b, j, none⟩ = arr[j]? := by
  simp [World.cell?, h]

theorem frozen_of {w : World} {b : Nat} {arr : Array Value} {e : TypeId} {fz : Nat × Nat} {j : Nat} (h : w.heap[b]? = some (.cells arr e fz)) : w.frozen? ⟨b, j, none⟩ = (fz.1 ≤ j && j < fz.2) := by
  obtain ⟨lo, hi⟩ := fz
  simp [World.frozen?, h]

theorem run_loadRow {w : World} {b : Nat} {arr : Array Value} {e : TypeId} {fz : Nat × Nat} (h : w.heap[b]? = some (.cells arr e fz)) (o : Nat) (vs : List Value)
    (hv : ∀ j v, vs[j]? = some v → arr[o + j]? = some v) : (loadCells ⟨b, o, none⟩ vs.length).run P w = .ok ⟨vs⟩ w := by
  have := run_loadCells_list (P := P) w ⟨b, o, none⟩ vs (fun j v hj => by rw [add_none, cell_of h]; exact hv j v hj)
  simpa using this

theorem setCell_cells {w : World} {b o : Nat} {arr : Array Value} {e : TypeId} {fz : Nat × Nat} (v : Value) (h : w.heap[b]? = some (.cells arr e fz)) :
    (w.setCell ⟨b, o, none⟩ v).heap[b]? = some (.cells (arr.setIfInBounds o v) e fz) := by
  obtain ⟨lo, hi⟩ := fz
  simp [World.setCell, Array.getElem?_modify, h]

theorem setCell_others {w : World} {b o b' : Nat} (v : Value) (h : b' ≠ b) : (w.setCell ⟨b, o, none⟩ v).heap[b']? = w.heap[b']? := by
  simp [World.setCell, Array.getElem?_modify, Ne.symm h]

theorem list_over {α : Type} (l : List α) (v : α) (vs : List α) (n : Nat) (hn : n < l.length) :
    (l.set n v).take (n + 1) ++ vs ++ (l.set n v).drop (n + 1 + vs.length) = l.take n ++ (v :: vs) ++ l.drop (n + (vs.length + 1)) := by
  rw [List.set_eq_take_append_cons_drop, if_pos hn]
  have e : (l.take n).length = n := by simp; omega
  have h1 : (l.take n ++ v :: l.drop (n + 1)).take (n + 1) = l.take n ++ [v] := by
    rw [List.take_append, e, List.take_of_length_le (by omega)]
    simp
  have h2 : (l.take n ++ v :: l.drop (n + 1)).drop (n + 1 + vs.length) = l.drop (n + (vs.length + 1)) := by
    rw [List.drop_append, e, List.drop_of_length_le (by omega)]
    rw [show n + 1 + vs.length - n = vs.length + 1 by omega]
    simp [List.drop_drop]
    congr 1
    omega
  rw [h1, h2]
  simp

/-- a row of cells written -/
theorem run_storeRow {b : Nat} {e : TypeId} {fz : Nat × Nat} : ∀ (vs : List Value) (o i : Nat) (w : World) (arr : Array Value), w.heap[b]? = some (.cells arr e fz) →
    (∀ v ∈ vs, v.oneCell' = true) → o + i + vs.length ≤ arr.size → (∀ j, j < arr.size → ¬(fz.1 ≤ j ∧ j < fz.2)) →
    ∃ w' arr', (storeCells ⟨b, o, none⟩ vs i).run P w = .ok () w' ∧ (w'.os = w.os ∧ w'.output = w.output) ∧ w'.heap.size = w.heap.size ∧ (∀ b', b' ≠ b → w'.heap[b']? = w.heap[b']?) ∧ w'.heap[b]? = some (.cells arr' e fz) ∧
      arr'.size = arr.size ∧ arr'.toList = arr.toList.take (o + i) ++ vs ++ arr.toList.drop (o + i + vs.length)
  | [], o, i, w, arr, h, _, _, _ => ⟨w, arr, by simp [storeCells], ⟨rfl, rfl⟩, rfl, fun _ _ => rfl, h, rfl, by simp⟩
  | v :: vs, o, i, w, arr, h, hone, hlen, hfz => by
    simp only [List.length_cons] at hlen
    have hlt : o + i < arr.size := by omega
    have hcell : w.cell? ⟨b, o + i, none⟩ = some arr[o + i] := by rw [cell_of h]; simp [hlt]
    have hnf : w.frozen? ⟨b, o + i, none⟩ = false := by
      rw [frozen_of h]
      have := hfz _ hlt
      simp only [Bool.and_eq_false_iff, decide_eq_false_iff_not]
      rcases Nat.lt_or_ge (o + i) fz.1 with h1 | h1
      · exact .inl (by omega)
      · exact .inr (fun h2 => this ⟨h1, h2⟩)
    have h1 := setCell_cells (o := o + i) v h
    obtain ⟨w', arr', hr, hio, hs, ho, hb, hsz, hl⟩ := run_storeRow vs o (i + 1) (w.setCell ⟨b, o + i, none⟩ v) (arr.setIfInBounds (o + i) v) h1 (fun x hx => hone x (List.mem_cons_of_mem _ hx)) (by simp; omega)
      (fun j hj => hfz j (by simpa using hj))
    refine ⟨w', arr', ?_, ⟨hio.1.trans (by rfl), hio.2.trans (by rfl)⟩, by simpa using hs, fun b' hb' => (ho b' hb').trans (setCell_others v hb'), hb, by simpa using hsz, ?_⟩
    · simp only [storeCells, Sem.run_bind, add_none]
      rw [run_store P w _ v _ (hone v (List.mem_cons_self ..))]
      simp only [hcell, hnf, Bool.false_eq_true, if_false, Result.andThen]
      exact hr
    · rw [hl, Array.toList_setIfInBounds]
      have := list_over arr.toList v vs (o + i) (by simpa using hlt)
      simpa [Nat.add_assoc, Nat.add_comm 1] using this

theorem cells_one {v : Value} (h : v.oneCell' = true) : v.cells = #[v] := by
  cases v <;> first | rfl | (simp [Value.oneCell'] at h)

theorem VR.oneCell {ι : Loc} {a : AV} {v : Value} (h : VR ι a v) (h1 : a.one = true) : v.oneCell' = true := by
  cases a <;> simp only [VR] at h <;> first | (simp [AV.one] at h1; done) | (subst h; rfl) | skip
  case str => obtain ⟨_, rfl, _⟩ := h; rfl
  case ptr => obtain ⟨_, _, rfl⟩ := h; rfl
  case sl => obtain ⟨_, _, _, rfl, _⟩ := h; rfl
  case sle => obtain ⟨_, _, rfl⟩ := h; rfl
  case mp => obtain ⟨_, _, rfl⟩ := h; rfl
  case fn => obtain ⟨_, _, _, rfl, _⟩ := h; rfl
  case yld => obtain ⟨_, _, rfl⟩ := h; rfl
  case stp => obtain ⟨_, _, rfl⟩ := h; rfl
  case opq i => rw [h]; exact V.one i

theorem VRs.oneCells {ι : Loc} : ∀ {a : List AV} {v : List Value}, VRs ι a v → allOne a = true → ∀ x ∈ v, x.oneCell' = true
  | [], _, h, _, x, hx => by rw [VRs.nil_inv h] at hx; cases hx
  | _ :: _, _, h, h1, x, hx => by
    obtain ⟨v, vs, rfl, h2, h3⟩ := VRs.cons_inv h
    simp only [allOne, Bool.and_eq_true] at h1
    rcases List.mem_cons.1 hx with rfl | hx
    · exact h2.oneCell h1.1
    · exact h3.oneCells h1.2 x hx

theorem VR.cells {ι : Loc} {a : AV} {v : Value} (h : VR ι a v) : VRs ι a.cells v.cells.toList := by
  have one : ∀ {a : AV} {v : Value}, a.cells = [a] → v.cells = #[v] → VR ι a v → VRs ι a.cells v.cells.toList := fun e1 e2 h => by
    rw [e1, e2]; exact VRs.cons h VRs.nil
  cases a
  case agg cs =>
    simp only [VR] at h
    obtain ⟨x, rfl, h⟩ := h
    exact h
  all_goals
    refine one rfl ?_ h
    simp only [VR] at h
  case str => obtain ⟨_, rfl, _⟩ := h; rfl
  case ptr => obtain ⟨_, _, rfl⟩ := h; rfl
  case sl => obtain ⟨_, _, _, rfl, _⟩ := h; rfl
  case sle => obtain ⟨_, _, rfl⟩ := h; rfl
  case mp => obtain ⟨_, _, rfl⟩ := h; rfl
  case fn => obtain ⟨_, _, _, rfl, _⟩ := h; rfl
  case yld => obtain ⟨_, _, rfl⟩ := h; rfl
  case stp => obtain ⟨_, _, rfl⟩ := h; rfl
  case tup => obtain ⟨_, rfl, _⟩ := h; rfl
  case opq i => rw [h]; exact cells_one (V.one i)
  all_goals (subst h; rfl)

/-! ### the heap's steps -/
theorem Rel.worldEq {ι : Loc} {F : Foot} {h : Heap X} {w w' : World} (r : Rel P R ι F h w) (e : w'.heap = w.heap) : Rel P R ι F h w' :=
  ⟨fun l o hl => let ⟨i, hi, ho⟩ := r.obj l o hl; ⟨i, hi, ho.mono (fun _ _ h => h) (fun b _ => by rw [e])⟩, r.disj, r.fresh⟩

theorem Ev.worldEq {ι : Loc} {F : Foot} {h : Heap X} {w w' : World} (e : w'.heap = w.heap) (io : w'.os = w.os ∧ w'.output = w.output := by first | exact ⟨rfl, rfl⟩ | assumption) : Ev ι F h w ι F h w' :=
  ⟨fun _ _ => rfl, Nat.le_refl _, by rw [e]; exact Nat.le_refl _, fun b _ _ => by rw [e], fun l o _ hl hb => .inr ⟨l, o, hl, hb⟩, fun _ o _ hl => ⟨o, hl⟩, io⟩

def Loc.set (ι : Loc) (l : Pos) (i : LocI) : Loc := fun l' => bif Pos.beq l' l then some i else ι l'
def Foot.set (F : Foot) (l : Pos) (S : Nat → Prop) : Foot := fun l' => bif Pos.beq l' l then S else F l'

theorem Loc.set_same (ι : Loc) (l : Pos) (i : LocI) : ι.set l i l = some i := by simp [Loc.set, Pos.beq_iff.2 rfl]
theorem Loc.set_other (ι : Loc) {l l' : Pos} (i : LocI) (h : l' ≠ l) : ι.set l i l' = ι l' := by
  have : Pos.beq l' l = false := by
    cases hb : Pos.beq l' l with
    | false => rfl
    | true => exact absurd (Pos.beq_iff.1 hb) h
  simp [Loc.set, this]
theorem Foot.set_same (F : Foot) (l : Pos) (S : Nat → Prop) : F.set l S l = S := by simp [Foot.set, Pos.beq_iff.2 rfl]
theorem Foot.set_other (F : Foot) {l l' : Pos} (S : Nat → Prop) (h : l' ≠ l) : F.set l S l' = F l' := by
  have : Pos.beq l' l = false := by
    cases hb : Pos.beq l' l with
    | false => rfl
    | true => exact absurd (Pos.beq_iff.1 hb) h
  simp [Foot.set, this]

theorem Loc.le_set {ι : Loc} {l : Pos} (i : LocI) (h : ι l = none) : ι.le (ι.set l i) := fun l' j hj => by
  have : l' ≠ l := fun e => by rw [e, h] at hj; cases hj
  rw [Loc.set_other _ _ this]; exact hj

/-- a new object, in a new block -/
theorem rel_add {ι : Loc} {F : Foot} {h : Heap X} {w : World} (r : Rel P R ι F h w) (o : AObj X) (obj : Obj) (i : LocI)
    (ho : OR P R (ι.set h.next i) i (fun b => b = w.heap.size) (w.alloc obj) o) :
    Rel P R (ι.set h.next i) (F.set h.next fun b => b = w.heap.size) (h.add o) (w.alloc obj) ∧
    Ev ι F h w (ι.set h.next i) (F.set h.next fun b => b = w.heap.size) (h.add o) (w.alloc obj) := by
  have hn : ι h.next = none := (r.fresh _ (Nat.le_refl _)).1
  have hne : ∀ {l o'}, h.m.get l = some o' → l ≠ h.next := fun hl e => by rw [e, (r.fresh _ (Nat.le_refl _)).2] at hl; cases hl
  have hlt : ∀ {l o' b}, h.m.get l = some o' → F l b → b < w.heap.size := fun hl hb => let ⟨_, _, ho⟩ := r.obj _ _ hl; ho.lt hb
  have hold : ∀ {b}, b < w.heap.size → (w.alloc obj).heap[b]? = w.heap[b]? := fun hb => by simp only [World.alloc, Array.getElem?_push]; rw [if_neg (Nat.ne_of_lt hb)]
  have hget : ∀ {l o'}, (h.add o).m.get l = some o' → (l = h.next ∧ o' = o) ∨ (l ≠ h.next ∧ h.m.get l = some o') := fun {l o'} hl => by
    by_cases e : l = h.next
    · subst e
      rw [Heap.add, PT.get_put_same] at hl
      exact .inl ⟨rfl, (Option.some.inj hl).symm⟩
    · rw [Heap.add, PT.get_put_other _ _ _ _ e] at hl
      exact .inr ⟨e, hl⟩
  refine ⟨⟨fun l o' hl => ?_, fun l l' o1 o2 b h1 h2 f1 f2 => ?_, fun l hl => ?_⟩, ⟨fun l hl => ?_, ?_, by simp, fun b hb _ => hold hb, fun l o' b hl hb => ?_, fun l o' hlt hl => ?_, ⟨rfl, rfl⟩⟩⟩
  · rcases hget hl with ⟨rfl, rfl⟩ | ⟨hne', hl'⟩
    · exact ⟨i, Loc.set_same .., by rw [Foot.set_same]; exact ho⟩
    · obtain ⟨j, hj, hoj⟩ := r.obj l o' hl'
      exact ⟨j, by rw [Loc.set_other _ _ hne']; exact hj, by rw [Foot.set_other _ _ hne']; exact hoj.mono (Loc.le_set i hn) (fun b hb => hold (hoj.lt hb))⟩
  · rcases hget h1 with ⟨rfl, rfl⟩ | ⟨n1, g1⟩ <;> rcases hget h2 with ⟨rfl, rfl⟩ | ⟨n2, g2⟩
    · rfl
    · rw [Foot.set_same] at f1; rw [Foot.set_other _ _ n2] at f2
      have := hlt g2 f2; omega
    · rw [Foot.set_same] at f2; rw [Foot.set_other _ _ n1] at f1
      have := hlt g1 f1; omega
    · rw [Foot.set_other _ _ n1] at f1; rw [Foot.set_other _ _ n2] at f2
      exact r.disj _ _ _ _ b g1 g2 f1 f2
  · simp only [Heap.add, Pos.toNat_succ] at hl
    have hne' : l ≠ h.next := fun e => by subst e; omega
    have := r.fresh l (by omega)
    exact ⟨by rw [Loc.set_other _ _ hne']; exact this.1, by rw [Heap.add, PT.get_put_other _ _ _ _ hne']; exact this.2⟩
  · exact Loc.set_other _ _ (fun e => by subst e; omega)
  · simp [Heap.add, Pos.toNat_succ]
  · rcases hget hl with ⟨rfl, rfl⟩ | ⟨hne', hl'⟩
    · rw [Foot.set_same] at hb; exact .inl (by omega)
    · rw [Foot.set_other _ _ hne'] at hb; exact .inr ⟨l, o', hl', hb⟩
  · rcases hget hl with ⟨rfl, rfl⟩ | ⟨hne', hl'⟩
    · omega
    · exact ⟨o', hl'⟩

/-- an object put in another's place -/
theorem rel_upd {ι : Loc} {F : Foot} {h : Heap X} {w w' : World} (r : Rel P R ι F h w) {l : Pos} {o : AObj X} {i : LocI} (o' : AObj X) (hl : h.m.get l = some o) (hi : ι l = some i)
    (hs : w'.heap.size = w.heap.size) (hw : ∀ b, ¬F l b → w'.heap[b]? = w.heap[b]?) (ho : OR P R ι i (F l) w' o') (io : w'.os = w.os ∧ w'.output = w.output := by first | exact ⟨rfl, rfl⟩ | assumption) :
    Rel P R ι F (h.upd l o') w' ∧ Ev ι F h w ι F (h.upd l o') w' := by
  have hget : ∀ {k x}, (h.upd l o').m.get k = some x → (k = l ∧ x = o') ∨ (k ≠ l ∧ h.m.get k = some x) := fun {k x} hk => by
    by_cases e : k = l
    · subst e
      rw [Heap.upd, PT.get_put_same] at hk
      exact .inl ⟨rfl, (Option.some.inj hk).symm⟩
    · rw [Heap.upd, PT.get_put_other _ _ _ _ e] at hk
      exact .inr ⟨e, hk⟩
  have hlive : ∀ {k x}, (h.upd l o').m.get k = some x → ∃ y, h.m.get k = some y := fun hk => by
    rcases hget hk with ⟨rfl, _⟩ | ⟨_, h1⟩
    · exact ⟨o, hl⟩
    · exact ⟨_, h1⟩
  refine ⟨⟨fun k x hk => ?_, fun k k' x x' b h1 h2 f1 f2 => ?_, fun k hk => ?_⟩, ⟨fun _ _ => rfl, Nat.le_refl _, Nat.le_of_eq hs.symm, fun b _ hF => hw b (hF l o hl), fun k x b hk hb => ?_, fun k x _ hk => hlive hk, io⟩⟩
  · rcases hget hk with ⟨rfl, rfl⟩ | ⟨hne, hk'⟩
    · exact ⟨i, hi, ho⟩
    · obtain ⟨j, hj, hoj⟩ := r.obj k x hk'
      exact ⟨j, hj, hoj.mono (fun _ _ h => h) (fun b hb => hw b (fun hb' => hne (r.disj _ _ _ _ b hk' hl hb hb')))⟩
  · obtain ⟨y, hy⟩ := hlive h1
    obtain ⟨y', hy'⟩ := hlive h2
    exact r.disj _ _ _ _ b hy hy' f1 f2
  · have := r.fresh k hk
    refine ⟨this.1, ?_⟩
    have hne : k ≠ l := fun e => by subst e; rw [this.2] at hl; cases hl
    rw [Heap.upd, PT.get_put_other _ _ _ _ hne]; exact this.2
  · obtain ⟨y, hy⟩ := hlive hk
    exact .inr ⟨k, y, hy, hb⟩

/-- an object dies, and a new one stands in its blocks -/
theorem rel_move {ι : Loc} {F : Foot} {h : Heap X} {w w' : World} (r : Rel P R ι F h w) {l : Pos} {o : AObj X} (i : LocI) (o' : AObj X) (hl : h.m.get l = some o)
    (hs : w'.heap.size = w.heap.size) (hw : ∀ b, ¬F l b → w'.heap[b]? = w.heap[b]?) (ho : OR P R (ι.set h.next i) i (F l) w' o') (io : w'.os = w.os ∧ w'.output = w.output := by first | exact ⟨rfl, rfl⟩ | assumption) :
    Rel P R (ι.set h.next i) (F.set h.next (F l)) ((h.kill l).add o') w' ∧ Ev ι F h w (ι.set h.next i) (F.set h.next (F l)) ((h.kill l).add o') w' := by
  have hn : ι h.next = none := (r.fresh _ (Nat.le_refl _)).1
  have hln : l ≠ h.next := fun e => by rw [e, (r.fresh _ (Nat.le_refl _)).2] at hl; cases hl
  have hget : ∀ {k x}, ((h.kill l).add o').m.get k = some x → (k = h.next ∧ x = o') ∨ (k ≠ h.next ∧ k ≠ l ∧ h.m.get k = some x) := fun {k x} hk => by
    by_cases e : k = h.next
    · subst e
      rw [Heap.add, show (h.kill l).next = h.next from rfl, PT.get_put_same] at hk
      exact .inl ⟨rfl, (Option.some.inj hk).symm⟩
    · rw [Heap.add, show (h.kill l).next = h.next from rfl, PT.get_put_other _ _ _ _ e] at hk
      by_cases e' : k = l
      · subst e'; rw [Heap.kill, PT.get_put_same] at hk; cases hk
      · rw [Heap.kill, PT.get_put_other _ _ _ _ e'] at hk
        exact .inr ⟨e, e', hk⟩
  refine ⟨⟨fun k x hk => ?_, fun k k' x x' b h1 h2 f1 f2 => ?_, fun k hk => ?_⟩, ⟨fun k hk => ?_, ?_, Nat.le_of_eq hs.symm, fun b _ hF => hw b (hF l o hl), fun k x b hk hb => ?_, fun k x hlt hk => ?_, io⟩⟩
  · rcases hget hk with ⟨rfl, rfl⟩ | ⟨hne, hne', hk'⟩
    · exact ⟨i, Loc.set_same .., by rw [Foot.set_same]; exact ho⟩
    · obtain ⟨j, hj, hoj⟩ := r.obj k x hk'
      exact ⟨j, by rw [Loc.set_other _ _ hne]; exact hj, by
        rw [Foot.set_other _ _ hne]
        exact hoj.mono (Loc.le_set i hn) (fun b hb => hw b (fun hb' => hne' (r.disj _ _ _ _ b hk' hl hb hb')))⟩
  · rcases hget h1 with ⟨rfl, rfl⟩ | ⟨n1, m1, g1⟩ <;> rcases hget h2 with ⟨rfl, rfl⟩ | ⟨n2, m2, g2⟩
    · rfl
    · rw [Foot.set_same] at f1; rw [Foot.set_other _ _ n2] at f2
      exact absurd (r.disj _ _ _ _ b g2 hl f2 f1) m2
    · rw [Foot.set_same] at f2; rw [Foot.set_other _ _ n1] at f1
      exact absurd (r.disj _ _ _ _ b g1 hl f1 f2) m1
    · rw [Foot.set_other _ _ n1] at f1; rw [Foot.set_other _ _ n2] at f2
      exact r.disj _ _ _ _ b g1 g2 f1 f2
  · simp only [Heap.add, show (h.kill l).next = h.next from rfl, Pos.toNat_succ] at hk
    have hne : k ≠ h.next := fun e => by subst e; omega
    have := r.fresh k (by omega)
    refine ⟨by rw [Loc.set_other _ _ hne]; exact this.1, ?_⟩
    rw [Heap.add, show (h.kill l).next = h.next from rfl, PT.get_put_other _ _ _ _ hne]
    by_cases e : k = l
    · subst e; rw [Heap.kill, PT.get_put_same]
    · rw [Heap.kill, PT.get_put_other _ _ _ _ e]; exact this.2
  · exact Loc.set_other _ _ (fun e => by subst e; omega)
  · simp [Heap.add, Heap.kill, Pos.toNat_succ]
  · rcases hget hk with ⟨rfl, rfl⟩ | ⟨hne, _, hk'⟩
    · rw [Foot.set_same] at hb; exact .inr ⟨l, o, hl, hb⟩
    · rw [Foot.set_other _ _ hne] at hb; exact .inr ⟨k, x, hk', hb⟩
  · rcases hget hk with ⟨rfl, rfl⟩ | ⟨_, _, hk'⟩
    · omega
    · exact ⟨x, hk'⟩

end Go.Ev
