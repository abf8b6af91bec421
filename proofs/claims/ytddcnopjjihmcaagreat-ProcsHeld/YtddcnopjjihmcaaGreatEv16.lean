import Derived.Test.YtddcnopjjihmcaaGreatEv15
import Derived.RangeFuncRecord
set_option linter.unusedSectionVars false
set_option linter.unusedVariables false
set_option linter.unusedSimpArgs false
namespace Go.Ev
variable {X : Type} [T : SymT] [V : SymV] {P : Program} {R : XRel X}

/-! ### worlds that differ where no object lies -/
theorem Rel.out {ι : Loc} {F : Foot} {h : Heap X} {w w' : World} (r : Rel P R ι F h w) (hw : ∀ b, (∃ l o, h.m.get l = some o ∧ F l b) → w'.heap[b]? = w.heap[b]?) : Rel P R ι F h w' :=
  ⟨fun l o hl => let ⟨i, hi, ho⟩ := r.obj l o hl; ⟨i, hi, ho.mono (fun _ _ h => h) (fun b hb => hw b ⟨l, o, hl, hb⟩)⟩, r.disj, r.fresh⟩

theorem Ev.out {ι ι' : Loc} {F F' : Foot} {h h' : Heap X} {w w' w'' : World} (e : Ev ι F h w ι' F' h' w') (hs : w'.heap.size ≤ w''.heap.size) (hw : ∀ b, b < w.heap.size → w''.heap[b]? = w'.heap[b]?) (io : w''.os = w'.os ∧ w''.output = w'.output := by first | exact ⟨rfl, rfl⟩ | assumption) : Ev ι F h w ι' F' h' w'' :=
  ⟨e.dom, e.nx, Nat.le_trans e.size hs, fun b hb hF => (hw b hb).trans (e.frame b hb hF), e.foot, e.old, io.1.trans e.io.1, io.2.trans e.io.2⟩

theorem rel_raw {ι : Loc} {F : Foot} {h : Heap X} {w : World} (r : Rel P R ι F h w) (o : Obj) : Rel P R ι F h (w.alloc o) ∧ Ev ι F h w ι F h (w.alloc o) := by
  have hold : ∀ {b}, b < w.heap.size → (w.alloc o).heap[b]? = w.heap[b]? := fun hb => by simp only [World.alloc, Array.getElem?_push]; rw [if_neg (Nat.ne_of_lt hb)]
  refine ⟨r.out fun b ⟨l, o', hl, hb⟩ => ?_, (Ev.refl ι F h w).out (by simp) fun b hb => hold hb⟩
  obtain ⟨_, _, ho⟩ := r.obj l o' hl
  exact hold (ho.lt hb)

/-- an object dies, and its blocks may change -/
theorem rel_killW {ι : Loc} {F : Foot} {h : Heap X} {w w' : World} (r : Rel P R ι F h w) {l : Pos} {o : AObj X} (hl : h.m.get l = some o) (hs : w'.heap.size = w.heap.size) (hw : ∀ b, ¬F l b → w'.heap[b]? = w.heap[b]?) (io : w'.os = w.os ∧ w'.output = w.output := by first | exact ⟨rfl, rfl⟩ | assumption) :
    Rel P R ι F (h.kill l) w' ∧ Ev ι F h w ι F (h.kill l) w' := by
  obtain ⟨r1, e1⟩ := rel_kill r l
  have hget : ∀ {k x}, (h.kill l).m.get k = some x → k ≠ l ∧ h.m.get k = some x := fun {k x} hk => by
    by_cases e : k = l
    · subst e; rw [Heap.kill, PT.get_put_same] at hk; cases hk
    · rw [Heap.kill, PT.get_put_other _ _ _ _ e] at hk; exact ⟨e, hk⟩
  refine ⟨r1.out fun b ⟨k, x, hk, hb⟩ => hw b fun hb' => ?_, ⟨e1.dom, e1.nx, by rw [hs]; exact Nat.le_refl _, fun b _ hF => hw b (hF l o hl), e1.foot, e1.old, io⟩⟩
  obtain ⟨hne, hk⟩ := hget hk
  exact hne (r.disj _ _ _ _ b hk hl hb hb')

/-! ### marks -/
def mkD (r : Nat) : Deferred := { target := .collected r, args := #[] }

def Mk (b0 : Nat) (ds : List Deferred) (F : Foot) (h : Heap X) (w : World) : Prop :=
  ∃ rs : List Nat, ds = rs.map mkD ∧ rs.Nodup ∧ ∀ r ∈ rs, b0 ≤ r ∧ w.heap[r]? = some (.deferred (some [])) ∧ ∀ l o, h.m.get l = some o → ¬F l r

theorem Mk.ev {b0 : Nat} {ds : List Deferred} {ι ι' : Loc} {F F' : Foot} {h h' : Heap X} {w w' : World} (m : Mk b0 ds F h w) (e : Ev ι F h w ι' F' h' w') : Mk b0 ds F' h' w' := by
  obtain ⟨rs, h1, h2, h3⟩ := m
  refine ⟨rs, h1, h2, fun r hr => ?_⟩
  obtain ⟨g1, g2, g3⟩ := h3 r hr
  have hlt : r < w.heap.size := (Array.getElem?_eq_some_iff.1 g2).1
  refine ⟨g1, by rw [e.frame r hlt g3]; exact g2, fun l o hl hF => ?_⟩
  rcases e.foot l o r hl hF with h4 | ⟨l0, o0, h4, h5⟩
  · omega
  · exact g3 l0 o0 h4 h5

/-- where an activation stands -/
structure St (P : Program) (R : XRel X) (n b0 : Nat) (ι : Loc) (F : Foot) (env : Env) (h : Heap X) (a : Act) (w : World) : Prop where
  env : EnvR ι env a.tmps
  size : a.tmps.size = n
  rel : Rel P R ι F h w
  marks : Mk b0 a.defers F h w
  b0 : b0 ≤ w.heap.size

def RoR (ι : Loc) : Option Pos → Option Nat → Prop
  | none, rb => rb = none
  | some l, rb => ∃ i, ι l = some i ∧ rb = some i.blk

theorem RoR.mono {ι ι' : Loc} (h : ι.le ι') {ro : Option Pos} {rb : Option Nat} (hr : RoR ι ro rb) : RoR ι' ro rb := by
  cases ro with
  | none => exact hr
  | some l => obtain ⟨i, hi, e⟩ := hr; exact ⟨i, h _ _ hi, e⟩

theorem EnvR.put {ι : Loc} {env : Env} {tmps : Array Value} {t : Tmp} {v : AV} {u : Value} (he : EnvR ι env tmps) (hv : VR ι v u) (ht : t < tmps.size) : EnvR ι (env.put (Pos.of t) (some v)) (tmps.setIfInBounds t u) := by
  intro s
  rw [Array.getD_eq_getD_getElem?, Array.getElem?_setIfInBounds]
  by_cases hs : t = s
  · subst hs
    simp only [Opd.ev, PT.get_put_same, if_true, ht, Option.getD_some]
    exact hv
  · have := he s
    rw [Array.getD_eq_getD_getElem?] at this
    simp only [Opd.ev] at this ⊢
    rw [PT.get_put_other _ _ _ _ (fun e => hs (Pos.of_inj e).symm), if_neg hs]
    exact this

theorem putD_sound {ι : Loc} {env : Env} {a : Act} {dst : Option Tmp} {v : AV} {u : Value} {n : Nat} (he : EnvR ι env a.tmps) (hs : a.tmps.size = n) (hd : dstOk n dst = true) (hv : VR ι v u) :
    EnvR ι (putD env (dst.map Pos.of) v) (a.put dst u).tmps ∧ (a.put dst u).tmps.size = n ∧ (a.put dst u).defers = a.defers := by
  cases dst with
  | none => exact ⟨he, hs, rfl⟩
  | some t =>
    simp only [dstOk, blt_iff, decide_eq_true_eq] at hd
    exact ⟨he.put hv (by rw [hs]; exact hd), by simpa [Act.put] using hs, rfl⟩

/-- one operation of a region -/
theorem oper_sound {call : CallF X} (hcall : CallOk P R call) {n b0 k : Nat} {rb : Option Nat} {ι : Loc} {F : Foot} {env env' : Env} {h h' : Heap X} {a : Act} {w : World} {ops : Array Oper} {o : Oper} {io : IOper} {next : Act → World → Prop} {Q : Exit → Act → World → Prop}
    (hc : cOper P n ops o = some io) (hv : evOper call env h io = some (env', h')) (s : St P R n b0 ι F env h a w) (hn : ∀ a' w' ι' F', St P R n b0 ι' F' env' h' a' w' → Ev ι F h w ι' F' h' w' → next a' w') :
    if Region.wanted o (yielded ops a.tmps) then o.wpIn (fen rb) k P a w next Q else (∀ f, o.about P w a.eval = some f → (fen rb).fn f) ∧ next (a.put o.dst undef) w := by
  simp only [cOper] at hc
  split at hc
  · rename_i g hg
    cases hd : dstOk n o.dst with
    | false => simp [hd] at hc
    | true =>
      simp only [hd, cond_true, Option.some.injEq] at hc
      subst hc
      simp only [evOper] at hv
      rw [wanted_sound hg s.env]
      cases hw : wanted env g with
      | false =>
        simp only [hw, cond_false, Option.some.injEq, Prod.mk.injEq] at hv
        obtain ⟨rfl, rfl⟩ := hv
        simp only [Bool.false_eq_true, if_false]
        obtain ⟨g1, g2, g3⟩ := putD_sound s.env s.size hd (VR.undef ι)
        exact ⟨fun f _ => fen_fn rb f, hn _ _ ι F ⟨g1, g2, s.rel, by rw [g3]; exact s.marks, s.b0⟩ (Ev.refl ..)⟩
      | true =>
        simp only [hw, cond_true] at hv
        simp only [if_true]
        split at hv
        · rename_i v h2 hop
          simp only [Option.some.injEq, Prod.mk.injEq] at hv
          obtain ⟨rfl, rfl⟩ := hv
          refine ⟨fun f _ => fen_fn rb f, ?_⟩
          rw [fen_round]
          refine op_sound hcall hop s.env s.rel k o a next Q fun u w' ι' F' hu r e => ?_
          obtain ⟨g1, g2, g3⟩ := putD_sound (s.env.mono (e.le s.rel)) s.size hd hu
          exact hn _ _ ι' F' ⟨g1, g2, r, by rw [g3]; exact s.marks.ev e, Nat.le_trans s.b0 e.size⟩ e
        · cases hv
  · cases hc

/-- the operations of a region that does not draw -/
theorem ops_sound {call : CallF X} (hcall : CallOk P R call) {n b0 k : Nat} {rb : Option Nat} {ops : Array Oper} {Q : Exit → Act → World → Prop} : ∀ (suf pre : List Oper) {l : List IOper} {ι : Loc} {F : Foot} {env env' : Env} {h h' : Heap X} {a : Act} {w : World},
    ops.toList = pre ++ suf → cOpers P n ops suf = some l → evOps call l env h = some (env', h') → St P R n b0 ι F env h a w → (∀ a' w' ι' F', St P R n b0 ι' F' env' h' a' w' → Ev ι F h w ι' F' h' w' → Q .normal a' w') →
    wpOpsIn (fen rb) k P ops Q (List.range' pre.length suf.length) a w
  | [], pre, l, ι, F, env, env', h, h', a, w, _, hc, hv, s, hn => by
    simp only [cOpers, Option.some.injEq] at hc
    subst hc
    simp only [evOps, Option.some.injEq, Prod.mk.injEq] at hv
    obtain ⟨rfl, rfl⟩ := hv
    exact hn a w ι F s (Ev.refl ..)
  | o :: suf, pre, l, ι, F, env, env', h, h', a, w, hp, hc, hv, s, hn => by
    simp only [cOpers] at hc
    split at hc
    · rename_i io l' ho hl
      simp only [Option.some.injEq] at hc
      subst hc
      simp only [evOps] at hv
      split at hv
      · rename_i env1 h1 hv1
        have hi : ops[pre.length]? = some o := by rw [← Array.getElem?_toList, hp]; simp
        simp only [List.length_cons, List.range'_succ, wpOpsIn, hi]
        refine oper_sound hcall ho hv1 s fun a' w' ι' F' s' e => ?_
        have := ops_sound hcall (rb := rb) (k := k) (Q := Q) suf (pre ++ [o]) (by simp [hp]) hl hv s' (fun a'' w'' ι'' F'' s'' e' => hn a'' w'' ι'' F'' s'' (e.trans e'))
        simpa using this
      · cases hv
    · cases hc

end Go.Ev
