import Derived.Test.YtddcnopjjihmcaaGreatEv30
import Derived.Test.YtddcnopjjihmcaaGreatEv27
import Derived.CallsIn
import Derived.ChangeSame
set_option linter.unusedSectionVars false
set_option linter.unusedVariables false
set_option linter.unusedSimpArgs false
namespace Go.Ev

/-- of what was there nothing turns -/
structure Old (w w' : World) : Prop where
  os : w'.os = w.os
  output : w'.output = w.output
  size : w.heap.size ≤ w'.heap.size
  block : ∀ b, b < w.heap.size → w'.heap[b]? = w.heap[b]?

theorem Old.frame {w w' : World} (h : Old w w') (may : MemPlace → Prop) : w.keptBut w' may := by
  refine World.keptBut_mono (may := fun _ => False) (fun _ f => f.elim) ?_
  refine ⟨h.os, h.output, fun i hi => ?_⟩
  have := (World.keptBut_refl w fun _ => False).2.2 i hi
  rw [h.block i hi]
  exact this

theorem Old.frozen {w w' : World} (h : Old w w') (a : Addr) (ha : a.block < w.heap.size) : w'.frozen? a = w.frozen? a := by
  simp only [World.frozen?, h.block a.block ha]

section
variable {X : Type} [T : SymT] [V : SymV] {P : Program} {R : XRel X}

/-- **the evaluator's answer, as the model's** -/
theorem calls_of {tab : Pos → Option IFunc} {prim : Pos → Option (Prim X)} {n : Nat} (hc : CallOk P R (callN tab prim n)) {g : FuncId} {q : Pos} (e : Pos.of g = q) {args : List AV} {v : AV} (hv : valB v (callN tab prim n (.it q) args mt) = true)
    {w : World} {argvs : List Value} (ha : VRs noLoc args argvs) : Calls P g ⟨argvs⟩ w fun e w' => (∃ u ι', e = .returned u ∧ VR ι' v u) ∧ Old w w' := by
  subst e
  obtain ⟨h1, g1⟩ := valB_ok hv
  have := (hc (.it (Pos.of g)) args mt v h1 g1 none noLoc (fun _ _ => False) w argvs (rel_mt _ w) ha g rfl).2 0
  refine (callsIn_wide (n := 0)).1 (this.mono ?_)
  intro e w' ⟨u, ι', F', he, hv', r', e'⟩
  exact ⟨⟨u, ι', he, hv'⟩, e'.io.1, e'.io.2, e'.size, fun b hb => e'.frame b hb fun l o hl => absurd hl (by simp [mt, PT.get_lf])⟩
end

section
open Go.ChangeShapes Go.WideShapes
variable {H : Type} {enc : TypeId × Value → H} {P : Program}
/-- what the row asks of the world behind, of a call that keeps what was there -/
theorem post_of_old {f : Func} {s : ChangeSpec} {apart fresh handsOn again : Bool} {W W' : World} {args : Array Value} {v : Value} {ds gs : List (DataW H)} {before pa pv : List MemPlace}
    (hW : DataW.Whole enc P f.params.toList s.vars apart W args.toList ds gs before)
    (hres : ∀ (b : Nat) (sp : Nat → Bool) (hd : Bool), DataW.TrodAll enc P W' b sp hd f.resultTypes.toList (v.resultList f.resultTypes.size) (s.fn H (ds ++ gs)).results [])
    (hargs : ∀ sp : Nat → Bool, (∀ p ∈ before, sp p.block = true) → DataW.TrodAll enc P W' 0 sp true f.params.toList args.toList (s.fn H (ds ++ gs)).args pa)
    (hvars : ∀ sp : Nat → Bool, (∀ p ∈ before, sp p.block = true) → DataW.TrodVars enc P W' sp s.vars (s.fn H (ds ++ gs)).vars pv)
    (hps : before = pa ++ pv) (hk : Old W W')
    (hok : ∀ (j : Nat) (t : TypeId) (r : Value), f.resultTypes[j]? = some t → (v.resultList f.resultTypes.size)[j]? = some r → Value.okWide P W' .any 0 t r) :
    s.post enc P f apart fresh handsOn again W args v W' := by
  have hold : ∀ p ∈ before, (fun b => decide (b < W.heap.size)) p.block = true := fun p hp => by simpa using hW.lt p hp
  have hlt := hW.lt
  refine ⟨ds, gs, before, [], pa, pv, hW, hres _ _ _, hargs _ hold, hvars _ hold, World.keptBut_mono (fun p hp => ⟨hp, ?_⟩) (hk.frame (· ∈ before)), fun _ => ?_⟩
  · rw [hps, List.mem_append] at hp
    exact Or.inr hp
  · obtain ⟨_, _, _, _, _, hz, hn⟩ := hW
    refine ⟨hok, _, _, ([] ++ pa) ++ pv, ⟨[] ++ pa, pv, trodAll_append (hargs _ (fun _ _ => rfl)) (hres _ _ _), hvars _ (fun _ _ => rfl), rfl, ?_, ?_⟩, ?_⟩
    · intro b off hp
      have hp' : MemPlace.cell b off ∈ before := by rw [hps]; simpa using hp
      rw [hk.frozen _ (hlt _ hp')]
      exact hz b off hp'
    · intro ha
      have := hn ha
      rw [hps] at this
      simpa using this
    · intro p hp _
      rw [hps]
      simpa using hp
end
end Go.Ev
