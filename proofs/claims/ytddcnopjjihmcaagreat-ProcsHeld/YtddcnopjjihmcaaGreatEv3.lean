import Derived.Test.YtddcnopjjihmcaaGreatEv2
import Derived.Laws.Cells
set_option linter.unusedSectionVars false
set_option linter.unusedVariables false
set_option linter.unusedSimpArgs false
namespace Go.Ev

/-! ### Pos and PT -/
theorem Pos.toNat_pos : ∀ p : Pos, 0 < p.toNat
  | .H => by simp [Pos.toNat]
  | .O p => by have := Pos.toNat_pos p; simp [Pos.toNat]; omega
  | .I p => by simp [Pos.toNat]

theorem Pos.toNat_succ : ∀ p : Pos, p.succ.toNat = p.toNat + 1
  | .H => rfl
  | .O p => by simp [Pos.succ, Pos.toNat]
  | .I p => by simp only [Pos.succ, Pos.toNat, Pos.toNat_succ p]; omega

theorem Pos.toNat_of : ∀ n, (Pos.of n).toNat = n + 1
  | 0 => rfl
  | n + 1 => by simp only [Pos.of, Pos.toNat_succ, Pos.toNat_of n]

theorem Pos.toNat_inj : ∀ {p q : Pos}, p.toNat = q.toNat → p = q
  | .H, .H, _ => rfl
  | .H, .O q, h => by have := Pos.toNat_pos q; simp [Pos.toNat] at h; omega
  | .H, .I q, h => by have := Pos.toNat_pos q; simp [Pos.toNat] at h; omega
  | .O p, .H, h => by have := Pos.toNat_pos p; simp [Pos.toNat] at h; omega
  | .I p, .H, h => by have := Pos.toNat_pos p; simp [Pos.toNat] at h; omega
  | .O p, .O q, h => by rw [Pos.toNat_inj (p := p) (q := q) (by simp [Pos.toNat] at h; omega)]
  | .I p, .I q, h => by rw [Pos.toNat_inj (p := p) (q := q) (by simp [Pos.toNat] at h; omega)]
  | .O p, .I q, h => by simp [Pos.toNat] at h; omega
  | .I p, .O q, h => by simp [Pos.toNat] at h; omega

theorem Pos.of_inj {a b : Nat} (h : Pos.of a = Pos.of b) : a = b := by
  have := congrArg Pos.toNat h
  simp [Pos.toNat_of] at this
  exact this

theorem Pos.beq_iff : ∀ {p q : Pos}, Pos.beq p q = true ↔ p = q
  | .H, .H => by simp [Pos.beq]
  | .H, .O q => by simp [Pos.beq]
  | .H, .I q => by simp [Pos.beq]
  | .O p, .H => by simp [Pos.beq]
  | .I p, .H => by simp [Pos.beq]
  | .O p, .O q => by simp [Pos.beq, Pos.beq_iff (p := p) (q := q)]
  | .I p, .I q => by simp [Pos.beq, Pos.beq_iff (p := p) (q := q)]
  | .O p, .I q => by simp [Pos.beq]
  | .I p, .O q => by simp [Pos.beq]

theorem PT.get_put_same {α : Type} : ∀ (p : Pos) (v : Option α) (t : PT α), (t.put p v).get p = v
  | .H, v, .lf => rfl
  | .H, v, .nd _ _ _ => rfl
  | .O p, v, .lf => by simp only [PT.put, PT.get]; exact PT.get_put_same p v .lf
  | .O p, v, .nd l _ _ => by simp only [PT.put, PT.get]; exact PT.get_put_same p v l
  | .I p, v, .lf => by simp only [PT.put, PT.get]; exact PT.get_put_same p v .lf
  | .I p, v, .nd _ _ r => by simp only [PT.put, PT.get]; exact PT.get_put_same p v r

theorem PT.get_lf {α : Type} (p : Pos) : (PT.lf : PT α).get p = none := by cases p <;> rfl

theorem PT.get_put_other {α : Type} : ∀ (p q : Pos) (v : Option α) (t : PT α), q ≠ p → (t.put p v).get q = t.get q
  | .H, .H, _, _, h => absurd rfl h
  | .H, .O q, v, .lf, _ => by simp [PT.put, PT.get, PT.get_lf]
  | .H, .I q, v, .lf, _ => by simp [PT.put, PT.get, PT.get_lf]
  | .H, .O q, v, .nd _ _ _, _ => rfl
  | .H, .I q, v, .nd _ _ _, _ => rfl
  | .O p, .H, v, .lf, _ => rfl
  | .O p, .H, v, .nd _ _ _, _ => rfl
  | .I p, .H, v, .lf, _ => rfl
  | .I p, .H, v, .nd _ _ _, _ => rfl
  | .O p, .I q, v, .lf, _ => by simp [PT.put, PT.get, PT.get_lf]
  | .O p, .I q, v, .nd _ _ _, _ => rfl
  | .I p, .O q, v, .lf, _ => by simp [PT.put, PT.get, PT.get_lf]
  | .I p, .O q, v, .nd _ _ _, _ => rfl
  | .O p, .O q, v, .lf, h => by
    simp only [PT.put, PT.get]; rw [PT.get_put_other p q v .lf (fun e => h (e ▸ rfl))]; exact PT.get_lf q
  | .O p, .O q, v, .nd l _ _, h => by
    simp only [PT.put, PT.get]; exact PT.get_put_other p q v l (fun e => h (e ▸ rfl))
  | .I p, .I q, v, .lf, h => by
    simp only [PT.put, PT.get]; rw [PT.get_put_other p q v .lf (fun e => h (e ▸ rfl))]; exact PT.get_lf q
  | .I p, .I q, v, .nd _ _ r, h => by
    simp only [PT.put, PT.get]; exact PT.get_put_other p q v r (fun e => h (e ▸ rfl))

/-! ### values related -/
structure LocI where
  blk : Nat
  base : Nat
  cap : Nat
  st : Int → Nat

def LocI.at (blk base cap : Nat) : LocI := ⟨blk, base, cap, fun _ => 0⟩

abbrev Loc := Pos → Option LocI

def capR (i : LocI) : Cap → Nat → Prop
  | .kn c, cap => cap = c
  | .un k, cap => cap + k = i.cap

/-- what a residue is said to be -/
def UmOk (val : Nat → Int) (j m : Nat) : AV → Prop
  | .int k n => k = .u64 ∧ (val j % 18446744073709551616) % (m : Int) = n
  | .sb k i c => k = .u64 ∧ (val j % 18446744073709551616) % (m : Int) = val i + c
  | _ => False

/-- the unknown numbers, and the values that are never looked at -/
class SymV [T : SymT] where
  val : Nat → Int
  opq : Nat → Value
  lo : ∀ j, T.lo j ≤ val j
  hi : ∀ j, val j ≤ T.hi j
  um : ∀ j m v, T.um j m = some v → UmOk val j m v
  one : ∀ i, (opq i).oneCell' = true
  nb : ∀ i b, opq i ≠ .bool b

section
variable [T : SymT] [V : SymV]

/-- a byte's code read -/
def bvN (c : Nat) : Nat := if c < 256 then c else (V.val (c - 256)).toNat
/-- the codes stand for bytes -/
def BOk (s : List Nat) : Prop := ∀ c ∈ s, 256 ≤ c → 0 ≤ V.val (c - 256)

mutual
def VR (ι : Loc) : AV → Value → Prop
  | .bool b, v => v = .bool b
  | .int k n, v => v = .int k n
  | .str s, v => ∃ b : ByteArray, v = .string b ∧ b.data.toList.map (·.toNat) = s.map bvN ∧ BOk s
  | .nilp, v => v = .pointer none
  | .ptr l o, v => ∃ i, ι l = some i ∧ v = .pointer (some ⟨i.blk, i.base + o, none⟩)
  | .nils, v => v = .slice none 0 0
  | .sl l o n c, v => ∃ i, ι l = some i ∧ ∃ cap, v = .slice (some ⟨i.blk, i.base + o, none⟩) n cap ∧ capR i c cap ∧ n ≤ cap
  | .sle, v => ∃ a cap, v = .slice (some a) 0 cap
  | .nilm, v => v = .map none
  | .mp l, v => ∃ i, ι l = some i ∧ v = .map (some i.blk)
  | .nilf, v => v = .nilFunc
  | .fn f a b, v => ∃ g x y, v = .func (.func g) ⟨x⟩ ⟨y⟩ ∧ Pos.of g = f ∧ VRs ι a x ∧ VRs ι b y
  | .yld l, v => ∃ i, ι l = some i ∧ v = .func (.yield i.blk) #[] #[]
  | .nili, v => v = .nilIface
  | .agg cs, v => ∃ x, v = .agg ⟨x⟩ ∧ VRs ι cs x
  | .tup vs, v => ∃ x, v = .tuple ⟨x⟩ ∧ VRs ι vs x
  | .stp l k, v => ∃ i, ι l = some i ∧ v = .int .i64 (Int.ofNat (i.st k))
  | .sb k j c, v => v = .int k (V.val j + c)
  | .su j, v => v = .int .u64 (V.val j % 18446744073709551616)
  | .opq i, v => v = V.opq i
def VRs (ι : Loc) : List AV → List Value → Prop
  | [], l => l = []
  | a :: as, l => ∃ v vs, l = v :: vs ∧ VR ι a v ∧ VRs ι as vs
end

def Loc.le (ι ι' : Loc) : Prop := ∀ l i, ι l = some i → ι' l = some i

mutual
theorem VR.mono {ι ι' : Loc} (h : ι.le ι') : ∀ {a : AV} {v : Value}, VR ι a v → VR ι' a v
  | .bool _, _, hv | .int _ _, _, hv | .str _, _, hv | .nilp, _, hv | .nils, _, hv | .sle, _, hv | .nilm, _, hv | .nilf, _, hv | .nili, _, hv | .sb _ _ _, _, hv | .su _, _, hv | .opq _, _, hv => by
    simpa [VR] using hv
  | .ptr _ _, _, hv => by
    obtain ⟨i, hi, hv⟩ := by simpa [VR] using hv
    simp only [VR]; exact ⟨i, h _ _ hi, hv⟩
  | .sl _ _ _ _, _, hv => by
    simp only [VR] at hv ⊢
    obtain ⟨i, hi, hv⟩ := hv
    exact ⟨i, h _ _ hi, hv⟩
  | .mp _, _, hv => by
    simp only [VR] at hv ⊢
    obtain ⟨i, hi, hv⟩ := hv
    exact ⟨i, h _ _ hi, hv⟩
  | .yld _, _, hv => by
    simp only [VR] at hv ⊢
    obtain ⟨i, hi, hv⟩ := hv
    exact ⟨i, h _ _ hi, hv⟩
  | .stp _ _, _, hv => by
    simp only [VR] at hv ⊢
    obtain ⟨i, hi, hv⟩ := hv
    exact ⟨i, h _ _ hi, hv⟩
  | .fn _ _ _, _, hv => by
    simp only [VR] at hv ⊢
    obtain ⟨g, x, y, e, ef, h1, h2⟩ := hv
    exact ⟨g, x, y, e, ef, VRs.mono h h1, VRs.mono h h2⟩
  | .agg _, _, hv => by
    simp only [VR] at hv ⊢
    obtain ⟨x, e, h1⟩ := hv
    exact ⟨x, e, VRs.mono h h1⟩
  | .tup _, _, hv => by
    simp only [VR] at hv ⊢
    obtain ⟨x, e, h1⟩ := hv
    exact ⟨x, e, VRs.mono h h1⟩
theorem VRs.mono {ι ι' : Loc} (h : ι.le ι') : ∀ {a : List AV} {v : List Value}, VRs ι a v → VRs ι' a v
  | [], _, hv => by simpa [VRs] using hv
  | _ :: _, _, hv => by
    simp only [VRs] at hv ⊢
    obtain ⟨v, vs, e, h1, h2⟩ := hv
    exact ⟨v, vs, e, VR.mono h h1, VRs.mono h h2⟩
end

theorem VRs.length {ι : Loc} : ∀ {a : List AV} {v : List Value}, VRs ι a v → a.length = v.length
  | [], _, h => by simp only [VRs] at h; subst h; rfl
  | _ :: _, _, h => by
    simp only [VRs] at h
    obtain ⟨v, vs, rfl, _, h2⟩ := h
    simp [VRs.length h2]

theorem VRs.append {ι : Loc} : ∀ {a b : List AV} {v u : List Value}, VRs ι a v → VRs ι b u → VRs ι (a ++ b) (v ++ u)
  | [], _, _, _, h, h' => by simp only [VRs] at h; subst h; simpa using h'
  | _ :: _, _, _, _, h, h' => by
    simp only [VRs] at h
    obtain ⟨v, vs, rfl, h1, h2⟩ := h
    simp only [List.cons_append, VRs]
    exact ⟨v, _, rfl, h1, VRs.append h2 h'⟩

theorem VRs.cons {ι : Loc} {a : AV} {as : List AV} {v : Value} {vs : List Value} (h : VR ι a v) (h' : VRs ι as vs) : VRs ι (a :: as) (v :: vs) := by
  simp only [VRs]; exact ⟨v, vs, rfl, h, h'⟩

theorem VRs.nil {ι : Loc} : VRs ι [] [] := by simp [VRs]

theorem VRs.cons_inv {ι : Loc} {a : AV} {as : List AV} {l : List Value} (h : VRs ι (a :: as) l) : ∃ v vs, l = v :: vs ∧ VR ι a v ∧ VRs ι as vs := by
  simpa only [VRs] using h

theorem VRs.nil_inv {ι : Loc} {l : List Value} (h : VRs ι [] l) : l = [] := by simpa only [VRs] using h

/-- splitting on the left -/
theorem VRs.split {ι : Loc} : ∀ {a b : List AV} {l : List Value}, VRs ι (a ++ b) l → ∃ v u, l = v ++ u ∧ VRs ι a v ∧ VRs ι b u
  | [], _, l, h => ⟨[], l, rfl, VRs.nil, by simpa using h⟩
  | _ :: _, _, _, h => by
    obtain ⟨v, vs, rfl, h1, h2⟩ := VRs.cons_inv (by simpa using h)
    obtain ⟨x, y, rfl, h3, h4⟩ := VRs.split h2
    exact ⟨v :: x, y, rfl, VRs.cons h1 h3, h4⟩

/-- splitting on the right -/
theorem VRs.split' {ι : Loc} : ∀ {l : List AV} {v u : List Value}, VRs ι l (v ++ u) → ∃ a b, l = a ++ b ∧ VRs ι a v ∧ VRs ι b u
  | l, [], _, h => ⟨[], l, rfl, VRs.nil, by simpa using h⟩
  | [], _ :: _, _, h => by have := VRs.nil_inv h; simp at this
  | _ :: _, _ :: _, _, h => by
    obtain ⟨v, vs, e, h1, h2⟩ := VRs.cons_inv h
    simp only [List.cons_append, List.cons.injEq] at e
    obtain ⟨rfl, rfl⟩ := e
    obtain ⟨x, y, rfl, h3, h4⟩ := VRs.split' h2
    exact ⟨_ :: x, y, rfl, VRs.cons h1 h3, h4⟩

theorem VRs.get {ι : Loc} : ∀ {a : List AV} {v : List Value} {n : Nat} {x : AV}, VRs ι a v → nth n a = some x → ∃ y, v[n]? = some y ∧ VR ι x y
  | [], _, n, _, _, h => by cases n <;> simp [nth] at h
  | _ :: _, _, 0, _, h, hx => by
    obtain ⟨v, vs, rfl, h1, _⟩ := VRs.cons_inv h
    simp only [nth, Option.some.injEq] at hx
    subst hx
    exact ⟨v, rfl, h1⟩
  | _ :: _, _, n + 1, _, h, hx => by
    obtain ⟨v, vs, rfl, _, h2⟩ := VRs.cons_inv h
    simp only [nth] at hx
    obtain ⟨y, hy, hr⟩ := VRs.get h2 hx
    exact ⟨y, by simpa using hy, hr⟩

theorem VRs.nth_none {ι : Loc} : ∀ {a : List AV} {v : List Value} {n : Nat}, VRs ι a v → nth n a = none → v[n]? = none
  | [], _, n, h, _ => by rw [VRs.nil_inv h]; simp
  | _ :: _, _, 0, h, hx => by simp [nth] at hx
  | _ :: _, _, n + 1, h, hx => by
    obtain ⟨v, vs, rfl, _, h2⟩ := VRs.cons_inv h
    simp only [nth] at hx
    simpa using VRs.nth_none h2 hx

theorem cut_spec : ∀ {o n : Nat} {l r : List AV}, cut o n l = some r → ∃ pre post, l = pre ++ r ++ post ∧ pre.length = o ∧ r.length = n
  | 0, 0, l, r, h => by simp only [cut, Option.some.injEq] at h; subst h; exact ⟨[], l, by simp⟩
  | 0, n + 1, c :: cs, r, h => by
    simp only [cut] at h
    split at h
    · rename_i r' hr
      simp only [Option.some.injEq] at h
      subst h
      obtain ⟨pre, post, e, h1, h2⟩ := cut_spec hr
      have : pre = [] := List.length_eq_zero_iff.1 h1
      subst this
      exact ⟨[], post, by simp [e], rfl, by simp [h2]⟩
    · cases h
  | o + 1, n, c :: cs, r, h => by
    simp only [cut] at h
    obtain ⟨pre, post, e, h1, h2⟩ := cut_spec h
    exact ⟨c :: pre, post, by simp [e], by simp [h1], h2⟩
  | o + 1, n, [], r, h => by simp [cut] at h
  | 0, n + 1, [], r, h => by simp [cut] at h

theorem over_spec : ∀ {o : Nat} {l vs r : List AV}, over o l vs = some r → vs ≠ [] → ∃ pre mid post, l = pre ++ mid ++ post ∧ r = pre ++ vs ++ post ∧ pre.length = o ∧ mid.length = vs.length
  | o, [], v :: vs, r, h, _ => by cases o <;> simp [over] at h
  | 0, c :: cs, v :: vs, r, h, _ => by
    simp only [over] at h
    split at h
    · rename_i r' hr
      simp only [Option.some.injEq] at h
      subst h
      by_cases hv : vs = []
      · subst hv
        cases cs <;> simp only [over, Option.some.injEq] at hr <;> subst hr
        · exact ⟨[], [c], [], by simp⟩
        · rename_i c' cs'
          exact ⟨[], [c], c' :: cs', by simp⟩
      · obtain ⟨pre, mid, post, e1, e2, h1, h2⟩ := over_spec hr hv
        have : pre = [] := List.length_eq_zero_iff.1 h1
        subst this
        exact ⟨[], c :: mid, post, by simp [e1], by simp [e2], rfl, by simp [h2]⟩
    · cases h
  | o + 1, c :: cs, v :: vs, r, h, _ => by
    simp only [over] at h
    split at h
    · rename_i r' hr
      simp only [Option.some.injEq] at h
      subst h
      obtain ⟨pre, mid, post, e1, e2, h1, h2⟩ := over_spec hr (by simp)
      exact ⟨c :: pre, mid, post, by simp [e1], by simp [e2], by simp [h1], h2⟩
    · cases h

theorem over_nil {o : Nat} {l r : List AV} (h : over o l [] = some r) : r = l := by
  cases l <;> cases o <;> simp only [over, Option.some.injEq] at h <;> exact h.symm

/-! ### objects related -/
def MR (ι : Loc) : List (Int × AV × Nat) → List MapEntry → Prop
  | [], l => l = []
  | (k, v, b) :: es, l => ∃ e rest, l = e :: rest ∧ e.key = .int .i64 k ∧ VR ι v e.val ∧ e.born = b ∧ MR ι es rest

def stOf (i : LocI) (k : Int) : Option Nat → Nat
  | some b => b
  | none => i.st k

/-- the entries of a map in no order: each of the one side has its like on the other -/
def LE (ι : Loc) (i : LocI) (k : Int) (v : AV) (b : Option Nat) (e : MapEntry) : Prop :=
  e.key = .int .i64 k ∧ VR ι v e.val ∧ e.born = stOf i k b

structure LR (ι : Loc) (i : LocI) (es : List (Int × AV × Option Nat)) (l : List MapEntry) (clock : Nat) : Prop where
  len : es.length = l.length
  fwd : ∀ k v b, (k, v, b) ∈ es → ∃ e ∈ l, LE ι i k v b e
  bwd : ∀ e ∈ l, ∃ k v b, (k, v, b) ∈ es ∧ LE ι i k v b e
  keys : (es.map (·.1)).Nodup
  born : (l.map (·.born)).Nodup
  lt : ∀ e ∈ l, e.born < clock

theorem LR.mono {ι ι' : Loc} (h : ι.le ι') {i : LocI} {es : List (Int × AV × Option Nat)} {l : List MapEntry} {clock : Nat} (hl : LR ι i es l clock) : LR ι' i es l clock := by
  obtain ⟨h0, h1, h2, h3, h4, h5⟩ := hl
  refine ⟨h0, fun k v b hm => ?_, fun e he => ?_, h3, h4, h5⟩
  · obtain ⟨e, he, a, b, c⟩ := h1 k v b hm
    exact ⟨e, he, a, b.mono h, c⟩
  · obtain ⟨k, v, b, hm, x, y, z⟩ := h2 e he
    exact ⟨k, v, b, hm, x, y.mono h, z⟩

theorem MR.mono {ι ι' : Loc} (h : ι.le ι') : ∀ {es : List (Int × AV × Nat)} {l : List MapEntry}, MR ι es l → MR ι' es l
  | [], _, hm => by simpa [MR] using hm
  | (_, _, _) :: _, _, hm => by
    simp only [MR] at hm ⊢
    obtain ⟨e, rest, h1, h2, h3, h4, h5⟩ := hm
    exact ⟨e, rest, h1, h2, h3.mono h, h4, h5.mono h⟩

def EnvR (ι : Loc) (env : Env) (tmps : Array Value) : Prop := ∀ t, VR ι (Opd.ev env (.t (Pos.of t))) (tmps.getD t undef)

theorem EnvR.mono {ι ι' : Loc} (h : ι.le ι') {env : Env} {tmps : Array Value} (he : EnvR ι env tmps) : EnvR ι' env tmps := fun t => (he t).mono h

def stR : LSt → LoopState → Prop
  | .ready, .ready => True
  | .busy, .busy => True
  | .done, .done => True
  | _, _ => False

def exR : Ex → Option Code → Prop
  | .nrm, c => c = none
  | .ext id, c => c = some (.exit id)
  | .ret, c => c = some .ret

end
variable {X : Type} [T : SymT] [V : SymV]

/-- what an object of the kind `ext` says of a world; the blocks that it owns -/
structure XRel (X : Type) where
  rel : X → World → LocI → (Nat → Prop) → Prop
  lt : ∀ x w i S b, rel x w i S → S b → b < w.heap.size
  keep : ∀ x w w' i S, rel x w i S → (∀ b, S b → w'.heap[b]? = w.heap[b]?) → rel x w' i S

def OR (P : Program) (R : XRel X) (ι : Loc) (i : LocI) (S : Nat → Prop) (w : World) : AObj X → Prop
  | .ext x => R.rel x w i S
  | .cells e cs frz => (∀ b, S b ↔ b = i.blk) ∧ ∃ arr fz pre vs post, w.heap[i.blk]? = some (.cells arr e fz) ∧ arr.toList = pre ++ vs ++ post ∧ pre.length = i.base ∧
      VRs ι cs vs ∧ (∀ n, szOf P e = some n → i.base + i.cap * n ≤ arr.size) ∧ (frz = false → ∀ j, j < arr.size → ¬(fz.1 ≤ j ∧ j < fz.2)) ∧ (∀ n, szOf P e = some n → ∃ k, i.base = k * n)
  | .map es clock => (∀ b, S b ↔ b = i.blk) ∧ ∃ ents, w.heap[i.blk]? = some (.map ents clock) ∧ MR ι es ents.toList
  | .lmap es clock => (∀ b, S b ↔ b = i.blk) ∧ ∃ ents, w.heap[i.blk]? = some (.map ents clock) ∧ LR ι i es ents.toList clock
  | .iter m since seen stepped => (∀ b, S b ↔ b = i.blk) ∧ i.base = 0 ∧ ∃ m', w.heap[i.blk]? = some (.mapIter m' since ⟨seen⟩ stepped) ∧
      (match m with | none => m' = none | some l => ∃ j, ι l = some j ∧ m' = some j.blk)
  | .loop st pend env ps asg body => (∀ b, S b ↔ b = i.blk) ∧ ∃ L : Loop, w.heap[i.blk]? = some (.loop L) ∧ stR st L.state ∧ exR pend L.pending ∧ EnvR ι env L.tmps ∧
      L.params.toList.map Pos.of = ps ∧ (∀ t ∈ L.params.toList, t < L.tmps.size) ∧ cCode P L.tmps.size L.assign = asg ∧ cCode P L.tmps.size L.body = body

theorem OR.mono {P : Program} {R : XRel X} {ι ι' : Loc} {i : LocI} {S : Nat → Prop} {w w' : World} {o : AObj X} (h : ι.le ι') (hw : ∀ b, S b → w'.heap[b]? = w.heap[b]?)
    (ho : OR P R ι i S w o) : OR P R ι' i S w' o := by
  cases o with
  | ext x => exact R.keep _ _ _ _ _ ho hw
  | cells e cs frz =>
    obtain ⟨hS, arr, fz, pre, vs, post, h1, h2, h3, h4, h5, h6⟩ := ho
    exact ⟨hS, arr, fz, pre, vs, post, by rw [hw _ ((hS _).2 rfl)]; exact h1, h2, h3, h4.mono h, h5, h6⟩
  | map es clock =>
    obtain ⟨hS, ents, h1, h2⟩ := ho
    exact ⟨hS, ents, by rw [hw _ ((hS _).2 rfl)]; exact h1, h2.mono h⟩
  | lmap es clock =>
    obtain ⟨hS, ents, h1, h2⟩ := ho
    exact ⟨hS, ents, by rw [hw _ ((hS _).2 rfl)]; exact h1, h2.mono h⟩
  | iter m since seen stepped =>
    obtain ⟨hS, hb, m', h1, h2⟩ := ho
    refine ⟨hS, hb, m', by rw [hw _ ((hS _).2 rfl)]; exact h1, ?_⟩
    cases m with
    | none => exact h2
    | some l =>
      obtain ⟨j, hj, e⟩ := h2
      exact ⟨j, h _ _ hj, e⟩
  | loop st pend env ps asg body =>
    obtain ⟨hS, L, h1, h2, h3, h4, h5⟩ := ho
    exact ⟨hS, L, by rw [hw _ ((hS _).2 rfl)]; exact h1, h2, h3, h4.mono h, h5⟩

theorem OR.lt {P : Program} {R : XRel X} {ι : Loc} {i : LocI} {S : Nat → Prop} {w : World} {o : AObj X} (ho : OR P R ι i S w o) {b : Nat} (hb : S b) : b < w.heap.size := by
  have key : ∀ {x : Obj}, w.heap[i.blk]? = some x → (∀ b, S b ↔ b = i.blk) → b < w.heap.size := fun hx hS => by
    rw [(hS b).1 hb]; exact (Array.getElem?_eq_some_iff.1 hx).1
  cases o with
  | ext x => exact R.lt _ _ _ _ _ ho hb
  | cells e cs frz => obtain ⟨hS, _, _, _, _, _, h1, _⟩ := ho; exact key h1 hS
  | map es clock => obtain ⟨hS, _, h1, _⟩ := ho; exact key h1 hS
  | lmap es clock => obtain ⟨hS, _, h1, _⟩ := ho; exact key h1 hS
  | iter m since seen stepped => obtain ⟨hS, _, _, h1, _⟩ := ho; exact key h1 hS
  | loop st pend env ps asg body => obtain ⟨hS, _, h1, _⟩ := ho; exact key h1 hS

abbrev Foot := Pos → Nat → Prop

structure Rel (P : Program) (R : XRel X) (ι : Loc) (F : Foot) (h : Heap X) (w : World) : Prop where
  obj : ∀ l o, h.m.get l = some o → ∃ i, ι l = some i ∧ OR P R ι i (F l) w o
  disj : ∀ l l' o o' b, h.m.get l = some o → h.m.get l' = some o' → F l b → F l' b → l = l'
  fresh : ∀ l, h.next.toNat ≤ l.toNat → ι l = none ∧ h.m.get l = none

/-- what a step does -/
structure Ev (ι : Loc) (F : Foot) (h : Heap X) (w : World) (ι' : Loc) (F' : Foot) (h' : Heap X) (w' : World) : Prop where
  dom : ∀ l, l.toNat < h.next.toNat → ι' l = ι l
  nx : h.next.toNat ≤ h'.next.toNat
  size : w.heap.size ≤ w'.heap.size
  frame : ∀ b, b < w.heap.size → (∀ l o, h.m.get l = some o → ¬F l b) → w'.heap[b]? = w.heap[b]?
  foot : ∀ l o b, h'.m.get l = some o → F' l b → w.heap.size ≤ b ∨ ∃ l0 o0, h.m.get l0 = some o0 ∧ F l0 b
  old : ∀ l o, l.toNat < h.next.toNat → h'.m.get l = some o → ∃ o0, h.m.get l = some o0
  io : w'.os = w.os ∧ w'.output = w.output

theorem Ev.refl (ι : Loc) (F : Foot) (h : Heap X) (w : World) : Ev ι F h w ι F h w :=
  ⟨fun _ _ => rfl, Nat.le_refl _, Nat.le_refl _, fun _ _ _ => rfl, fun l o _ hl hb => .inr ⟨l, o, hl, hb⟩, fun _ o _ hl => ⟨o, hl⟩, ⟨rfl, rfl⟩⟩

theorem Ev.le {P : Program} {R : XRel X} {ι ι' : Loc} {F F' : Foot} {h h' : Heap X} {w w' : World} (e : Ev ι F h w ι' F' h' w') (r : Rel P R ι F h w) : ι.le ι' := fun l i hi => by
  rw [e.dom l]
  · exact hi
  · rcases Nat.lt_or_ge l.toNat h.next.toNat with hlt | hge
    · exact hlt
    · rw [(r.fresh l hge).1] at hi; cases hi

theorem Ev.trans {ι ι' ι'' : Loc} {F F' F'' : Foot} {h h' h'' : Heap X} {w w' w'' : World} (e : Ev ι F h w ι' F' h' w') (e' : Ev ι' F' h' w' ι'' F'' h'' w'') : Ev ι F h w ι'' F'' h'' w'' := by
  refine ⟨fun l hl => (e'.dom l (Nat.lt_of_lt_of_le hl e.nx)).trans (e.dom l hl), Nat.le_trans e.nx e'.nx, Nat.le_trans e.size e'.size, fun b hb hF => ?_, fun l o b hl hb => ?_, fun l o hlt hl => ?_, e'.io.1.trans e.io.1, e'.io.2.trans e.io.2⟩
  · rw [e'.frame b (Nat.lt_of_lt_of_le hb e.size), e.frame b hb hF]
    intro l o hl hF'
    rcases e.foot l o b hl hF' with h1 | ⟨l0, o0, h1, h2⟩
    · omega
    · exact hF l0 o0 h1 h2
  · rcases e'.foot l o b hl hb with h1 | ⟨l0, o0, h1, h2⟩
    · exact .inl (Nat.le_trans e.size h1)
    · exact e.foot l0 o0 b h1 h2
  · obtain ⟨o1, h1⟩ := e'.old l o (Nat.lt_of_lt_of_le hlt e.nx) hl
    exact e.old l o1 hlt h1

end Go.Ev
