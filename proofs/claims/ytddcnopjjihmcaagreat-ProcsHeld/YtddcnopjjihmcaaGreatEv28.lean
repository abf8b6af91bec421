import Derived.Test.YtddcnopjjihmcaaGreatEv25
set_option linter.unusedSectionVars false
set_option linter.unusedVariables false
set_option linter.unusedSimpArgs false
namespace Go.Ev
section
variable {X : Type}
/-! ### a heap that says less -/
structure Sub (h2 h1 : Heap X) : Prop where
  next : h1.next.toNat ≤ h2.next.toNat
  get : ∀ x o, h2.m.get x = some o → h1.m.get x = some o

theorem Sub.refl (h : Heap X) : Sub h h := ⟨Nat.le_refl _, fun _ _ h => h⟩

/-- no name is taken from next on -/
def Fresh (h : Heap X) : Prop := ∀ x, h.next.toNat ≤ x.toNat → h.m.get x = none

/-- the k-th name behind -/
def addP : Pos → Nat → Pos
  | p, 0 => p
  | p, k + 1 => addP p.succ k

theorem addP_toNat : ∀ (k : Nat) (p : Pos), (addP p k).toNat = p.toNat + k
  | 0, p => rfl
  | k + 1, p => by rw [addP, addP_toNat k, Pos.toNat_succ]; omega

theorem addP_succ (k : Nat) (p : Pos) : (addP p k).succ = addP p (k + 1) := Pos.toNat_inj (by rw [Pos.toNat_succ, addP_toNat, addP_toNat]; omega)

theorem get_put {α : Type} (p q : Pos) (v : Option α) (t : PT α) : (PT.put p v t).get q = bif Pos.beq q p then v else t.get q := by
  cases h : Pos.beq q p with
  | true => rw [Pos.beq_iff.1 h, PT.get_put_same]; rfl
  | false => rw [PT.get_put_other _ _ _ _ (fun e => by rw [Pos.beq_iff.2 e] at h; cases h)]; rfl

theorem iter_nrm {body : Env → Heap X → Option (Ex × Env × Heap X)} {n : Nat} {env env' : Env} {h h' : Heap X} (hb : body env h = some (.nrm, env', h')) : iter body (n + 1) env h = iter body n env' h' := by simp only [iter, hb]

theorem iter_ext {body : Env → Heap X → Option (Ex × Env × Heap X)} {n i : Nat} {env env' : Env} {h h' : Heap X} (hb : body env h = some (.ext i, env', h')) : iter body (n + 1) env h = some (.ext i, env', h') := by simp only [iter, hb]

end

variable {X : Type} [T : SymT] [V : SymV] {P : Program} {R : XRel X}

theorem Rel.sub {ι : Loc} {F : Foot} {h1 h2 : Heap X} {w : World} (r : Rel P R ι F h1 w) (s : Sub h2 h1) : Rel P R ι F h2 w :=
  ⟨fun x o hx => r.obj x o (s.get x o hx), fun x x' o o' b hx hx' => r.disj x x' o o' b (s.get x o hx) (s.get x' o' hx'), fun x hx => by
    have := r.fresh x (Nat.le_trans s.next hx)
    refine ⟨this.1, ?_⟩
    cases hg : h2.m.get x with
    | none => rfl
    | some o => rw [s.get x o hg] at this; cases this.2⟩

theorem Ev.sub {ι ι' : Loc} {F F' : Foot} {h h1 h2 : Heap X} {w w' : World} (e : Ev ι F h w ι' F' h1 w') (s : Sub h2 h1) : Ev ι F h w ι' F' h2 w' :=
  ⟨e.dom, Nat.le_trans e.nx s.next, e.size, e.frame, fun x o b hx hb => e.foot x o b (s.get x o hx) hb, fun x o hlt hx => e.old x o hlt (s.get x o hx), e.io⟩

theorem UponOk.sub {ro : Option Nat} {ι : Loc} {F : Foot} {h h1 h2 : Heap X} {w : World} {v : AV} {res : Result Next} (u : UponOk P R ro ι F h w v h1 res) (s : Sub h2 h1) : UponOk P R ro ι F h w v h2 res :=
  fun n o a next Q hn => u n o a next Q fun x w' ι' F' hv r e => hn x w' ι' F' hv (r.sub s) (e.sub s)

theorem EndOk.sub {ι : Loc} {F : Foot} {h h1 h2 : Heap X} {w w' : World} {v : AV} {e : Ending} (u : EndOk P R ι F h w v h1 e w') (s : Sub h2 h1) : EndOk P R ι F h w v h2 e w' := by
  obtain ⟨x, ι', F', h1, h2, h3, h4⟩ := u
  exact ⟨x, ι', F', h1, h2, h3.sub s, h4.sub s⟩

/-- what is proved of the calls may be answered without a walk -/
theorem prim_of {tab : Pos → Option IFunc} {prim prim2 : Pos → Option (List AV → Heap X → Option (AV × Heap X))} {n : Nat} (hc : CallOk P R (callN tab prim n))
    (hp : ∀ (f : Pos) (p : List AV → Heap X → Option (AV × Heap X)), prim2 f = some p → ∀ args h v h2, p args h = some (v, h2) → Fresh h → ∃ h1, callN tab prim n (.fn f) args h = some (v, h1) ∧ Sub h2 h1) : PrimOk P R prim2 := by
  intro g p hg args h v h2 hv ro ι F w argvs r ha
  obtain ⟨h1, h3, h4⟩ := hp _ p hg args h v h2 hv fun x hx => (r.fresh x hx).2
  exact UponOk.sub (hc (.fn (Pos.of g)) args h v h1 h3 ro ι F w argvs r ha g rfl) h4

end Go.Ev
