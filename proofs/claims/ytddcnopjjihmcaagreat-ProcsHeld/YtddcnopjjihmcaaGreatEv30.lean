import Derived.Test.YtddcnopjjihmcaaGreatEv29
import Derived.Laws.Externs
import Derived.Lib.Builder
set_option linter.unusedSectionVars false
set_option linter.unusedVariables false
set_option linter.unusedSimpArgs false
namespace Go.Ev

/-! ### equality, computed -/
def lnbeq : List Nat → List Nat → Bool
  | [], [] => true
  | a :: x, b :: y => Nat.beq a b && lnbeq x y
  | _, _ => false

theorem lnbeq_ok : ∀ {a b : List Nat}, lnbeq a b = true → a = b
  | [], [], _ => rfl
  | [], _ :: _, h => by simp [lnbeq] at h
  | _ :: _, [], h => by simp [lnbeq] at h
  | a :: x, b :: y, h => by
    simp only [lnbeq, Bool.and_eq_true, Nat.beq_eq] at h
    rw [h.1, lnbeq_ok h.2]

def capB : Cap → Cap → Bool
  | .kn a, .kn b => Nat.beq a b
  | .un a, .un b => Nat.beq a b
  | _, _ => false
theorem capB_ok {a b : Cap} (h : capB a b = true) : a = b := by
  cases a <;> cases b <;> simp [capB] at h <;> rw [h]

def boolB : Bool → Bool → Bool
  | true, b => b
  | false, true => false
  | false, false => true
theorem boolB_ok {a b : Bool} (h : boolB a b = true) : a = b := by cases a <;> cases b <;> simp [boolB] at h <;> rfl

theorem ieq_ok {a b : Int} (h : ieq a b = true) : a = b := by
  cases a <;> cases b <;> simp [ieq] at h <;> rw [h]

theorem kbeq_ok {a b : IntKind} (h : kbeq a b = true) : a = b := by cases a <;> cases b <;> first | rfl | (simp [kbeq] at h)

mutual
def avB : AV → AV → Bool
  | .bool a, y => match y with | .bool b => boolB a b | _ => false
  | .int k n, y => match y with | .int k' n' => kbeq k k' && ieq n n' | _ => false
  | .str s, y => match y with | .str s' => lnbeq s s' | _ => false
  | .nilp, y => match y with | .nilp => true | _ => false
  | .ptr l o, y => match y with | .ptr l' o' => Pos.beq l l' && Nat.beq o o' | _ => false
  | .nils, y => match y with | .nils => true | _ => false
  | .sl l o n c, y => match y with | .sl l' o' n' c' => Pos.beq l l' && (Nat.beq o o' && (Nat.beq n n' && capB c c')) | _ => false
  | .sle, y => match y with | .sle => true | _ => false
  | .nilm, y => match y with | .nilm => true | _ => false
  | .mp l, y => match y with | .mp l' => Pos.beq l l' | _ => false
  | .nilf, y => match y with | .nilf => true | _ => false
  | .fn f a b, y => match y with | .fn f' a' b' => Pos.beq f f' && (avsB a a' && avsB b b') | _ => false
  | .yld l, y => match y with | .yld l' => Pos.beq l l' | _ => false
  | .nili, y => match y with | .nili => true | _ => false
  | .agg a, y => match y with | .agg a' => avsB a a' | _ => false
  | .tup a, y => match y with | .tup a' => avsB a a' | _ => false
  | .stp l k, y => match y with | .stp l' k' => Pos.beq l l' && ieq k k' | _ => false
  | .sb k j c, y => match y with | .sb k' j' c' => kbeq k k' && (Nat.beq j j' && ieq c c') | _ => false
  | .su j, y => match y with | .su j' => Nat.beq j j' | _ => false
  | .opq i, y => match y with | .opq i' => Nat.beq i i' | _ => false
def avsB : List AV → List AV → Bool
  | [], y => match y with | [] => true | _ => false
  | a :: x, y => match y with | b :: z => avB a b && avsB x z | [] => false
end

mutual
theorem avB_ok : ∀ {a b : AV}, avB a b = true → a = b
  | .bool a, b, h => by cases b <;> simp only [avB, Bool.false_eq_true] at h; rw [boolB_ok h]
  | .int k n, b, h => by cases b <;> simp only [avB, Bool.false_eq_true, Bool.and_eq_true] at h; rw [kbeq_ok h.1, ieq_ok h.2]
  | .str s, b, h => by cases b <;> simp only [avB, Bool.false_eq_true] at h; rw [lnbeq_ok h]
  | .nilp, b, h => by cases b <;> simp only [avB, Bool.false_eq_true] at h; rfl
  | .ptr l o, b, h => by cases b <;> simp only [avB, Bool.false_eq_true, Bool.and_eq_true, Nat.beq_eq] at h; rw [Pos.beq_iff.1 h.1, h.2]
  | .nils, b, h => by cases b <;> simp only [avB, Bool.false_eq_true] at h; rfl
  | .sl l o n c, b, h => by cases b <;> simp only [avB, Bool.false_eq_true, Bool.and_eq_true, Nat.beq_eq] at h; rw [Pos.beq_iff.1 h.1, h.2.1, h.2.2.1, capB_ok h.2.2.2]
  | .sle, b, h => by cases b <;> simp only [avB, Bool.false_eq_true] at h; rfl
  | .nilm, b, h => by cases b <;> simp only [avB, Bool.false_eq_true] at h; rfl
  | .mp l, b, h => by cases b <;> simp only [avB, Bool.false_eq_true] at h; rw [Pos.beq_iff.1 h]
  | .nilf, b, h => by cases b <;> simp only [avB, Bool.false_eq_true] at h; rfl
  | .fn f x y, b, h => by cases b <;> simp only [avB, Bool.false_eq_true, Bool.and_eq_true] at h; rw [Pos.beq_iff.1 h.1, avsB_ok h.2.1, avsB_ok h.2.2]
  | .yld l, b, h => by cases b <;> simp only [avB, Bool.false_eq_true] at h; rw [Pos.beq_iff.1 h]
  | .nili, b, h => by cases b <;> simp only [avB, Bool.false_eq_true] at h; rfl
  | .agg x, b, h => by cases b <;> simp only [avB, Bool.false_eq_true] at h; rw [avsB_ok h]
  | .tup x, b, h => by cases b <;> simp only [avB, Bool.false_eq_true] at h; rw [avsB_ok h]
  | .stp l k, b, h => by cases b <;> simp only [avB, Bool.false_eq_true, Bool.and_eq_true] at h; rw [Pos.beq_iff.1 h.1, ieq_ok h.2]
  | .sb k j c, b, h => by cases b <;> simp only [avB, Bool.false_eq_true, Bool.and_eq_true, Nat.beq_eq] at h; rw [kbeq_ok h.1, h.2.1, ieq_ok h.2.2]
  | .su j, b, h => by cases b <;> simp only [avB, Bool.false_eq_true, Nat.beq_eq] at h; rw [h]
  | .opq j, b, h => by cases b <;> simp only [avB, Bool.false_eq_true, Nat.beq_eq] at h; rw [h]
theorem avsB_ok : ∀ {a b : List AV}, avsB a b = true → a = b
  | [], b, h => by cases b <;> simp only [avsB, Bool.false_eq_true] at h; rfl
  | a :: x, b, h => by
    cases b <;> simp only [avsB, Bool.false_eq_true, Bool.and_eq_true] at h
    rw [avB_ok h.1, avsB_ok h.2]
end

def mapB : List (Int × AV × Nat) → List (Int × AV × Nat) → Bool
  | [], [] => true
  | (k, v, b) :: x, (k', v', b') :: y => ieq k k' && (Nat.beq b b' && (avB v v' && mapB x y))
  | _, _ => false
theorem mapB_ok : ∀ {a b : List (Int × AV × Nat)}, mapB a b = true → a = b
  | [], [], _ => rfl
  | [], _ :: _, h => by simp [mapB] at h
  | _ :: _, [], h => by simp [mapB] at h
  | (k, v, b) :: x, (k', v', b') :: y, h => by
    simp only [mapB, Bool.and_eq_true, Nat.beq_eq] at h
    rw [ieq_ok h.1, h.2.1, avB_ok h.2.2.1, mapB_ok h.2.2.2]

def ornB : Option Nat → Option Nat → Bool
  | none, none => true
  | some a, some b => Nat.beq a b
  | _, _ => false
theorem ornB_ok {a b : Option Nat} (h : ornB a b = true) : a = b := by cases a <;> cases b <;> simp [ornB] at h <;> first | rfl | rw [h]

def lmapB : List (Int × AV × Option Nat) → List (Int × AV × Option Nat) → Bool
  | [], [] => true
  | (k, v, b) :: x, (k', v', b') :: y => ieq k k' && (ornB b b' && (avB v v' && lmapB x y))
  | _, _ => false
theorem lmapB_ok : ∀ {a b : List (Int × AV × Option Nat)}, lmapB a b = true → a = b
  | [], [], _ => rfl
  | [], _ :: _, h => by simp [lmapB] at h
  | _ :: _, [], h => by simp [lmapB] at h
  | (k, v, b) :: x, (k', v', b') :: y, h => by
    simp only [lmapB, Bool.and_eq_true] at h
    rw [ieq_ok h.1, ornB_ok h.2.1, avB_ok h.2.2.1, lmapB_ok h.2.2.2]

section
variable {X : Type}
def objB : AObj X → AObj X → Bool
  | .cells e cs f, .cells e' cs' f' => Nat.beq e e' && (boolB f f' && avsB cs cs')
  | .map es c, .map es' c' => Nat.beq c c' && mapB es es'
  | .lmap es c, .lmap es' c' => Nat.beq c c' && lmapB es es'
  | _, _ => false
theorem objB_ok {a b : AObj X} (h : objB a b = true) : a = b := by
  cases a <;> cases b <;> simp only [objB, Bool.false_eq_true, Bool.and_eq_true, Nat.beq_eq] at h
  · rw [h.1, boolB_ok h.2.1, avsB_ok h.2.2]
  · rw [h.1, mapB_ok h.2]
  · rw [h.1, lmapB_ok h.2]

def PT.rt {α : Type} : PT α → Option α
  | .lf => none
  | .nd _ o _ => o
def PT.lt {α : Type} : PT α → PT α
  | .lf => .lf
  | .nd a _ _ => a
def PT.gt {α : Type} : PT α → PT α
  | .lf => .lf
  | .nd _ _ b => b

def rtB : Option (AObj X) → Option (AObj X) → Bool
  | none, _ => true
  | some x, some y => objB x y
  | some _, none => false

/-- the first's objects are the second's -/
def subT : PT (AObj X) → PT (AObj X) → Bool
  | .lf, _ => true
  | .nd a o b, t => rtB o t.rt && (subT a t.lt && subT b t.gt)

theorem subT_ok : ∀ {a b : PT (AObj X)}, subT a b = true → ∀ p o, a.get p = some o → b.get p = some o
  | .lf, b, _, p, o, hg => by rw [PT.get_lf] at hg; cases hg
  | .nd l x r, b, h, p, o, hg => by
    simp only [subT, Bool.and_eq_true] at h
    obtain ⟨h1, h2, h3⟩ := h
    cases p with
    | H =>
      simp only [PT.get] at hg
      subst hg
      cases b with
      | lf => simp [rtB, PT.rt] at h1
      | nd l' y r' =>
        cases y with
        | none => simp [rtB, PT.rt] at h1
        | some y => simp only [rtB, PT.rt] at h1; rw [objB_ok h1]; rfl
    | O p =>
      have := subT_ok h2 p o hg
      cases b with
      | lf => simp only [PT.lt, PT.get_lf] at this; cases this
      | nd l' y r' => exact this
    | I p =>
      have := subT_ok h3 p o hg
      cases b with
      | lf => simp only [PT.gt, PT.get_lf] at this; cases this
      | nd l' y r' => exact this

def subB (h2 h1 : Heap X) : Bool := Nat.ble h1.next.toNat h2.next.toNat && subT h2.m h1.m
theorem subB_ok {h2 h1 : Heap X} (h : subB h2 h1 = true) : Sub h2 h1 := by
  simp only [subB, Bool.and_eq_true, Nat.ble_eq] at h
  exact ⟨h.1, subT_ok h.2⟩

/-- the answer said -/
def ansB (v : AV) (h2 : Heap X) : Option (AV × Heap X) → Bool
  | some (v', h1) => avB v v' && subB h2 h1
  | none => false
theorem ansB_ok {v : AV} {h2 : Heap X} {r : Option (AV × Heap X)} (h : ansB v h2 r = true) : ∃ h1, r = some (v, h1) ∧ Sub h2 h1 := by
  cases r with
  | none => cases h
  | some p =>
    obtain ⟨v', h1⟩ := p
    simp only [ansB, Bool.and_eq_true] at h
    rw [avB_ok h.1]
    exact ⟨h1, rfl, subB_ok h.2⟩
def valB (v : AV) : Option (AV × Heap X) → Bool
  | some (v', _) => avB v v'
  | none => false
theorem valB_ok {v : AV} {r : Option (AV × Heap X)} (h : valB v r = true) : ∃ h1, r = some (v, h1) := by
  cases r with
  | none => cases h
  | some p =>
    obtain ⟨v', h1⟩ := p
    simp only [valB] at h
    rw [avB_ok h]
    exact ⟨h1, rfl⟩

end

/-! ### values in which no place is named -/
mutual
def AV.flat : AV → Bool
  | .bool _ | .int _ _ | .str _ | .nilp | .nils | .sle | .nilm | .nilf | .nili | .sb _ _ _ | .su _ | .opq _ => true
  | .fn _ a b => flats a && flats b
  | .agg a | .tup a => flats a
  | .ptr _ _ | .sl _ _ _ _ | .mp _ | .yld _ | .stp _ _ => false
def flats : List AV → Bool
  | [] => true
  | a :: l => a.flat && flats l
end

variable {X : Type} [T : SymT] [V : SymV] {P : Program} {R : XRel X}
mutual
theorem VR.flat {ι ι' : Loc} : ∀ {a : AV} {v : Value}, a.flat = true → VR ι a v → VR ι' a v
  | .bool _, _, _, hv | .int _ _, _, _, hv | .str _, _, _, hv | .nilp, _, _, hv | .nils, _, _, hv | .sle, _, _, hv | .nilm, _, _, hv | .nilf, _, _, hv | .nili, _, _, hv | .sb _ _ _, _, _, hv | .su _, _, _, hv | .opq _, _, _, hv => by
    simpa [VR] using hv
  | .ptr _ _, _, h, _ | .sl _ _ _ _, _, h, _ | .mp _, _, h, _ | .yld _, _, h, _ | .stp _ _, _, h, _ => by simp [AV.flat] at h
  | .fn _ _ _, _, h, hv => by
    simp only [AV.flat, Bool.and_eq_true] at h
    simp only [VR] at hv ⊢
    obtain ⟨g, x, y, e, ef, h1, h2⟩ := hv
    exact ⟨g, x, y, e, ef, VRs.flat h.1 h1, VRs.flat h.2 h2⟩
  | .agg _, _, h, hv => by
    simp only [AV.flat] at h
    simp only [VR] at hv ⊢
    obtain ⟨x, e, h1⟩ := hv
    exact ⟨x, e, VRs.flat h h1⟩
  | .tup _, _, h, hv => by
    simp only [AV.flat] at h
    simp only [VR] at hv ⊢
    obtain ⟨x, e, h1⟩ := hv
    exact ⟨x, e, VRs.flat h h1⟩
theorem VRs.flat {ι ι' : Loc} : ∀ {a : List AV} {v : List Value}, flats a = true → VRs ι a v → VRs ι' a v
  | [], _, _, hv => by simpa [VRs] using hv
  | _ :: _, _, h, hv => by
    simp only [flats, Bool.and_eq_true] at h
    simp only [VRs] at hv ⊢
    obtain ⟨v, vs, e, h1, h2⟩ := hv
    exact ⟨v, vs, e, VR.flat h.1 h1, VRs.flat h.2 h2⟩
end

/-- nothing known -/
def mt : Heap X := ⟨.H, .lf⟩
def noLoc : Loc := fun _ => none

theorem rel_mt (F : Foot) (w : World) : Rel P R noLoc F (mt : Heap X) w :=
  ⟨fun l o h => absurd h (by simp [mt, PT.get_lf]), fun l l' o o' b h => absurd h (by simp [mt, PT.get_lf]), fun l _ => ⟨rfl, PT.get_lf l⟩⟩

/-- **a call that was run from nothing, and names no place, may be taken from any heap, which stays** -/
theorem pure_ok {call : CallF X} (hc : CallOk P R call) {g : FuncId} {args : List AV} {v : AV} {h' : Heap X} (hv : call (.fn (Pos.of g)) args mt = some (v, h')) (ha : flats args = true) (hf : v.flat = true)
    {ro : Option Nat} {ι : Loc} {F : Foot} {h : Heap X} {w : World} {argvs : List Value} (r : Rel P R ι F h w) (hr : VRs ι args argvs) : UponOk P R ro ι F h w v h ((callFunc g ⟨argvs⟩).run P w) := by
  intro n o a next Q hn
  refine hc (.fn (Pos.of g)) args mt v h' hv ro noLoc F w argvs (rel_mt F w) (hr.flat ha) g rfl n o a next Q fun u w' ι' F' hv' r' e' => ?_
  have hold : ∀ b, b < w.heap.size → w'.heap[b]? = w.heap[b]? := fun b hb => e'.frame b hb fun l o hl => absurd hl (by simp [mt, PT.get_lf])
  exact hn u w' ι F (hv'.flat hf) ⟨fun l o hl => let ⟨i, hi, ho⟩ := r.obj l o hl; ⟨i, hi, ho.mono (fun _ _ h => h) fun b hb => hold b (ho.lt hb)⟩, r.disj, r.fresh⟩
    ⟨fun _ _ => rfl, Nat.le_refl _, e'.size, fun b hb _ => hold b hb, fun l o b hl hb => .inr ⟨l, o, hl, hb⟩, fun _ o _ hl => ⟨o, hl⟩, e'.io⟩

theorem Ev.ofSub {ι ι' : Loc} {F F' : Foot} {h0 h h1 : Heap X} {w w' : World} (e : Ev ι F h0 w ι' F' h1 w') (s : Sub h0 h) : Ev ι F h w ι' F' h1 w' :=
  ⟨fun l hl => e.dom l (Nat.lt_of_lt_of_le hl s.next), Nat.le_trans s.next e.nx, e.size, fun b hb hF => e.frame b hb fun l o hl => hF l o (s.get l o hl), fun l o b hl hb => by
    rcases e.foot l o b hl hb with h | ⟨l0, o0, h1, h2⟩
    · exact .inl h
    · exact .inr ⟨l0, o0, s.get _ _ h1, h2⟩, fun l o hlt hl => by
    obtain ⟨o0, h1⟩ := e.old l o (Nat.lt_of_lt_of_le hlt s.next) hl
    exact ⟨o0, s.get _ _ h1⟩, e.io⟩

/-- **a call that was run from a heap may be taken from any that says more** -/
theorem chunk_ok {call : CallF X} (hc : CallOk P R call) {g : FuncId} {args : List AV} {v : AV} {h0 h1 h2 : Heap X} (hv : call (.fn (Pos.of g)) args h0 = some (v, h1)) (s2 : Sub h2 h1)
    {ro : Option Nat} {ι : Loc} {F : Foot} {h : Heap X} {w : World} {argvs : List Value} (s : Sub h0 h) (r : Rel P R ι F h w) (hr : VRs ι args argvs) : UponOk P R ro ι F h w v h2 ((callFunc g ⟨argvs⟩).run P w) := by
  intro n o a next Q hn
  exact hc (.fn (Pos.of g)) args h0 v h1 hv ro ι F w argvs (r.sub s) hr g rfl n o a next Q fun u w' ι' F' hv' r' e' => hn u w' ι' F' hv' (r'.sub s2) ((e'.ofSub s).sub s2)

abbrev Prim (X : Type) := List AV → Heap X → Option (AV × Heap X)

/-- the chunk's answer -/
def chunkP (args : List AV) (h0 : Heap X) (v : AV) (h2 : Heap X) : Prim X := fun as h => bif avsB args as && subB h0 h then some (v, h2) else none
def pureP (args : List AV) (v : AV) : Prim X := fun as h => bif avsB args as then some (v, h) else none
def sameP : Prim X := fun as h => match as with
  | [a] => some (a, h)
  | _ => none

def POk (P : Program) (R : XRel X) (g : FuncId) (p : Prim X) : Prop :=
  ∀ args h v h', p args h = some (v, h') → ∀ (ro : Option Nat) (ι : Loc) (F : Foot) (w : World) (argvs : List Value), Rel P R ι F h w → VRs ι args argvs → UponOk P R ro ι F h w v h' ((callFunc g ⟨argvs⟩).run P w)

def addPrim (prim : Pos → Option (Prim X)) (q : Pos) (p : Prim X) : Pos → Option (Prim X) := fun x => bif Pos.beq x q then some p else prim x

theorem primOk_none : PrimOk P R (fun _ => none : Pos → Option (Prim X)) := fun _ _ h => by cases h

theorem PrimOk.add {prim : Pos → Option (Prim X)} (hp : PrimOk P R prim) {g : FuncId} {q : Pos} {p : Prim X} (e : Pos.of g = q) (h : POk P R g p) : PrimOk P R (addPrim prim q p) := by
  intro g' p' hg
  unfold addPrim at hg
  cases hb : Pos.beq (Pos.of g') q with
  | true =>
    simp only [hb, cond_true, Option.some.injEq] at hg
    subst hg
    have := Pos.of_inj ((Pos.beq_iff.1 hb).trans e.symm)
    subst this
    exact h
  | false =>
    simp only [hb, cond_false] at hg
    exact hp g' p' hg

theorem chunkP_ok {call : CallF X} (hc : CallOk P R call) {g : FuncId} {q : Pos} (e : Pos.of g = q) {args : List AV} {h0 h2 : Heap X} {v : AV} (hv : ansB v h2 (call (.fn q) args h0) = true) : POk P R g (chunkP args h0 v h2) := by
  intro as h v' h' hp ro ι F w argvs r ha
  unfold chunkP at hp
  cases hb : avsB args as && subB h0 h with
  | false => simp [hb] at hp
  | true =>
    simp only [hb, cond_true, Option.some.injEq, Prod.mk.injEq] at hp
    obtain ⟨rfl, rfl⟩ := hp
    simp only [Bool.and_eq_true] at hb
    have := avsB_ok hb.1
    subst this
    subst e
    obtain ⟨h1, g1, g2⟩ := ansB_ok hv
    exact chunk_ok hc g1 g2 (subB_ok hb.2) r ha

theorem pureP_ok {call : CallF X} (hc : CallOk P R call) {g : FuncId} {q : Pos} (e : Pos.of g = q) {args : List AV} {v : AV} (hv : valB v (call (.fn q) args mt) = true) (h1 : flats args = true) (h2 : v.flat = true) : POk P R g (pureP args v) := by
  intro as h v' h' hp ro ι F w argvs r ha
  unfold pureP at hp
  cases hb : avsB args as with
  | false => simp [hb] at hp
  | true =>
    simp only [hb, cond_true, Option.some.injEq, Prod.mk.injEq] at hp
    obtain ⟨rfl, rfl⟩ := hp
    have := avsB_ok hb
    subst this
    subst e
    obtain ⟨h', g1⟩ := valB_ok hv
    exact pure_ok hc g1 h1 h2 r ha

theorem sameP_ok {g : FuncId} {fn : Func} (hf : P.funcs[g]? = some fn) (hname : (fn.name == "runtime.NumGoroutine") = false) (hb : fn.body.isNone = true) (hn : Extern.findNext fn = none) (he : Extern.find fn = some Extern.AbiNoEscape.same) : POk P R g (sameP : Prim X) := by
  intro as h v' h' hp ro ι F w argvs r ha
  unfold sameP at hp
  split at hp
  · rename_i a
    simp only [Option.some.injEq, Prod.mk.injEq] at hp
    obtain ⟨rfl, rfl⟩ := hp
    obtain ⟨x, xs, rfl, h1, h2⟩ := VRs.cons_inv ha
    have := VRs.nil_inv h2
    subst this
    rw [run_callFunc_extern hf hname hb hn he]
    have : (Extern.AbiNoEscape.same ⟨[x]⟩).run P w = .ok x w := rfl
    rw [this]
    exact UponOk.value h1 r (Ev.refl ..)
  · cases hp

/-- **numbers.List, without a walk** -/
theorem listP_ok {tab : Pos → Option IFunc} {prim : Pos → Option (Prim X)} {n : Nat} (hc : CallOk P R (callN tab prim (n + 1))) {g : FuncId} {q : Pos} (eq : Pos.of g = q) {e : Nat} (ht : tab q = some (Nums.listF e)) (hpr : (prim q).isNone = true) : POk P R g (Nums.listP e : Prim X) := by
  intro as h v' h' hp ro ι F w argvs r ha
  subst eq
  obtain ⟨h1, g1, g2⟩ := Nums.list_ok (call := callN tab prim n) hp (fun x hx => (r.fresh x hx).2)
  have hcall : callN tab prim (n + 1) (.fn (Pos.of g)) as h = some (v', h1) := by
    have hn : prim (Pos.of g) = none := by cases hq : prim (Pos.of g) with | none => rfl | some _ => rw [hq] at hpr; cases hpr
    show step tab prim (callN tab prim n) (.fn (Pos.of g)) as h = _
    simp only [step, hn, ht]
    have hl : as.length = 1 := by
      unfold Nums.listP at hp
      split at hp
      · rfl
      · cases hp
    rw [hl]
    exact g1
  exact chunk_ok hc hcall g2 (Sub.refl h) r ha

end Go.Ev
