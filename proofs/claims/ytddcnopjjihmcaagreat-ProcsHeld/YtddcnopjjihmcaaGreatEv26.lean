import Derived.Test.YtddcnopjjihmcaaGreatEv2
set_option linter.unusedSectionVars false
set_option linter.unusedVariables false
set_option linter.unusedSimpArgs false
namespace Go.Ev.F
open Go.Ev

/-! # the evaluator once more, by recursors, for the kernel: the same answers, fewer steps -/
abbrev X0 := Empty

/-! ### trees -/
noncomputable def getE (t : PT AV) (p : Pos) : Option AV :=
  @Pos.rec (fun _ => PT AV → Option AV)
    (fun t => @PT.rec AV (fun _ => Option AV) none (fun _ o _ _ _ => o) t)
    (fun _ ih t => @PT.rec AV (fun _ => Option AV) none (fun l _ _ _ _ => ih l) t)
    (fun _ ih t => @PT.rec AV (fun _ => Option AV) none (fun _ _ r _ _ => ih r) t) p t

theorem getE_eq : ∀ (p : Pos) (t : PT AV), getE t p = t.get p
  | .H, .lf => rfl
  | .H, .nd _ _ _ => rfl
  | .O _, .lf => rfl
  | .O p, .nd l _ _ => getE_eq p l
  | .I _, .lf => rfl
  | .I p, .nd _ _ r => getE_eq p r

noncomputable def getH (t : PT (AObj X0)) (p : Pos) : Option (AObj X0) :=
  @Pos.rec (fun _ => PT (AObj X0) → Option (AObj X0))
    (fun t => @PT.rec (AObj X0) (fun _ => Option (AObj X0)) none (fun _ o _ _ _ => o) t)
    (fun _ ih t => @PT.rec (AObj X0) (fun _ => Option (AObj X0)) none (fun l _ _ _ _ => ih l) t)
    (fun _ ih t => @PT.rec (AObj X0) (fun _ => Option (AObj X0)) none (fun _ _ r _ _ => ih r) t) p t

theorem getH_eq : ∀ (p : Pos) (t : PT (AObj X0)), getH t p = t.get p
  | .H, .lf => rfl
  | .H, .nd _ _ _ => rfl
  | .O _, .lf => rfl
  | .O p, .nd l _ _ => getH_eq p l
  | .I _, .lf => rfl
  | .I p, .nd _ _ r => getH_eq p r

noncomputable def putE (p : Pos) (v : Option AV) (t : PT AV) : PT AV :=
  @Pos.rec (fun _ => Option AV → PT AV → PT AV)
    (fun v t => @PT.rec AV (fun _ => PT AV) (.nd .lf v .lf) (fun l _ r _ _ => .nd l v r) t)
    (fun _ ih v t => @PT.rec AV (fun _ => PT AV) (.nd (ih v .lf) none .lf) (fun l o r _ _ => .nd (ih v l) o r) t)
    (fun _ ih v t => @PT.rec AV (fun _ => PT AV) (.nd .lf none (ih v .lf)) (fun l o r _ _ => .nd l o (ih v r)) t) p v t

theorem putE_eq : ∀ (p : Pos) (v : Option AV) (t : PT AV), putE p v t = PT.put p v t
  | .H, _, .lf => rfl
  | .H, _, .nd _ _ _ => rfl
  | .O p, v, .lf => congrArg (fun x => PT.nd x none .lf) (putE_eq p v .lf)
  | .O p, v, .nd l o r => congrArg (fun x => PT.nd x o r) (putE_eq p v l)
  | .I p, v, .lf => congrArg (fun x => PT.nd .lf none x) (putE_eq p v .lf)
  | .I p, v, .nd l o r => congrArg (fun x => PT.nd l o x) (putE_eq p v r)

noncomputable def putH (p : Pos) (v : Option (AObj X0)) (t : PT (AObj X0)) : PT (AObj X0) :=
  @Pos.rec (fun _ => Option (AObj X0) → PT (AObj X0) → PT (AObj X0))
    (fun v t => @PT.rec (AObj X0) (fun _ => PT (AObj X0)) (.nd .lf v .lf) (fun l _ r _ _ => .nd l v r) t)
    (fun _ ih v t => @PT.rec (AObj X0) (fun _ => PT (AObj X0)) (.nd (ih v .lf) none .lf) (fun l o r _ _ => .nd (ih v l) o r) t)
    (fun _ ih v t => @PT.rec (AObj X0) (fun _ => PT (AObj X0)) (.nd .lf none (ih v .lf)) (fun l o r _ _ => .nd l o (ih v r)) t) p v t

theorem putH_eq : ∀ (p : Pos) (v : Option (AObj X0)) (t : PT (AObj X0)), putH p v t = PT.put p v t
  | .H, _, .lf => rfl
  | .H, _, .nd _ _ _ => rfl
  | .O p, v, .lf => congrArg (fun x => PT.nd x none .lf) (putH_eq p v .lf)
  | .O p, v, .nd l o r => congrArg (fun x => PT.nd x o r) (putH_eq p v l)
  | .I p, v, .lf => congrArg (fun x => PT.nd .lf none x) (putH_eq p v .lf)
  | .I p, v, .nd l o r => congrArg (fun x => PT.nd l o x) (putH_eq p v r)

noncomputable def opd (x : Opd) (env : PT AV) : AV :=
  @Opd.rec (fun _ => PT AV → AV) (fun p env => @Option.rec AV (fun _ => AV) (.tup []) (fun v => v) (getE env p)) (fun v _ => v) x env

theorem opd_eq (x : Opd) (env : PT AV) : opd x env = x.ev env := by
  cases x with
  | t p =>
    show @Option.rec AV (fun _ => AV) (.tup []) (fun v => v) (getE env p) = _
    rw [getE_eq]
    simp only [Opd.ev]
    cases env.get p <;> rfl
  | c v => rfl

noncomputable def opds (l : List Opd) (env : PT AV) : List AV :=
  @List.rec Opd (fun _ => PT AV → List AV) (fun _ => []) (fun x _ ih env => opd x env :: ih env) l env

theorem opds_eq : ∀ (l : List Opd) (env : PT AV), opds l env = l.map (Opd.ev env)
  | [], _ => rfl
  | x :: l, env => by
    show opd x env :: opds l env = _
    rw [opd_eq, opds_eq l env]
    rfl

/-! ### lists -/
noncomputable def nthF (n : Nat) (cs : List AV) : Option AV :=
  @List.rec AV (fun _ => Nat → Option AV) (fun _ => none) (fun c _ ih n => @Nat.rec (fun _ => Option AV) (some c) (fun m _ => ih m) n) cs n

theorem nthF_eq : ∀ (cs : List AV) (n : Nat), nthF n cs = nth n cs
  | [], 0 => rfl
  | [], _ + 1 => rfl
  | _ :: _, 0 => rfl
  | _ :: cs, n + 1 => nthF_eq cs n

noncomputable def cutF (o n : Nat) (cs : List AV) : Option (List AV) :=
  @List.rec AV (fun _ => Nat → Nat → Option (List AV))
    (fun o n => @Nat.rec (fun _ => Option (List AV)) (@Nat.rec (fun _ => Option (List AV)) (some []) (fun _ _ => none) n) (fun _ _ => none) o)
    (fun c _ ih o n => @Nat.rec (fun _ => Option (List AV)) (@Nat.rec (fun _ => Option (List AV)) (some []) (fun m _ => @Option.rec (List AV) (fun _ => Option (List AV)) none (fun r => some (c :: r)) (ih 0 m)) n) (fun o' _ => ih o' n) o) cs o n

theorem cutF_eq : ∀ (cs : List AV) (o n : Nat), cutF o n cs = cut o n cs
  | [], 0, 0 => rfl
  | [], 0, _ + 1 => rfl
  | [], _ + 1, 0 => rfl
  | [], _ + 1, _ + 1 => rfl
  | _ :: _, 0, 0 => rfl
  | c :: cs, 0, n + 1 => by
    show @Option.rec (List AV) (fun _ => Option (List AV)) none (fun r => some (c :: r)) (cutF 0 n cs) = _
    rw [cutF_eq cs 0 n]
    simp only [cut]
    cases cut 0 n cs <;> rfl
  | _ :: cs, o + 1, n => by
    show cutF o n cs = _
    rw [cutF_eq cs o n]
    simp only [cut]

noncomputable def overF (o : Nat) (cs vs : List AV) : Option (List AV) :=
  @List.rec AV (fun _ => Nat → List AV → Option (List AV))
    (fun _ vs => @List.rec AV (fun _ => Option (List AV)) (some []) (fun _ _ _ => none) vs)
    (fun c cs ih o vs => @List.rec AV (fun _ => Option (List AV)) (some (c :: cs)) (fun v vs _ => @Nat.rec (fun _ => Option (List AV)) (@Option.rec (List AV) (fun _ => Option (List AV)) none (fun r => some (v :: r)) (ih 0 vs))
      (fun o' _ => @Option.rec (List AV) (fun _ => Option (List AV)) none (fun r => some (c :: r)) (ih o' (v :: vs))) o) vs) cs o vs

theorem overF_eq : ∀ (cs : List AV) (o : Nat) (vs : List AV), overF o cs vs = over o cs vs
  | [], 0, [] => rfl
  | [], _ + 1, [] => rfl
  | [], 0, _ :: _ => rfl
  | [], _ + 1, _ :: _ => rfl
  | _ :: _, 0, [] => by simp only [over]; rfl
  | _ :: _, _ + 1, [] => by simp only [over]; rfl
  | c :: cs, 0, v :: vs => by
    show @Option.rec (List AV) (fun _ => Option (List AV)) none (fun r => some (v :: r)) (overF 0 cs vs) = _
    rw [overF_eq cs 0 vs]
    simp only [over]
    cases over 0 cs vs <;> rfl
  | c :: cs, o + 1, v :: vs => by
    show @Option.rec (List AV) (fun _ => Option (List AV)) none (fun r => some (c :: r)) (overF o cs (v :: vs)) = _
    rw [overF_eq cs o (v :: vs)]
    simp only [over]
    cases over o cs (v :: vs) <;> rfl

noncomputable def lenF {α : Type} (l : List α) : Nat := @List.rec α (fun _ => Nat → Nat) (fun n => n) (fun _ _ ih n => ih (Nat.succ n)) l 0

theorem lenF_eq {α : Type} (l : List α) : lenF l = l.length := by
  have : ∀ (l : List α) (n : Nat), @List.rec α (fun _ => Nat → Nat) (fun n => n) (fun _ _ ih n => ih (Nat.succ n)) l n = l.length + n := by
    intro l
    induction l with
    | nil => intro n; simp
    | cons a l ih => intro n; show @List.rec α (fun _ => Nat → Nat) (fun n => n) (fun _ _ ih n => ih (Nat.succ n)) l (n + 1) = _; rw [ih]; simp; omega
  simpa [lenF] using this l 0

/-! ### integers -/
noncomputable def kbeqF (k k' : IntKind) : Bool :=
  @IntKind.rec (fun _ => IntKind → Bool)
    (fun k' => @IntKind.rec (fun _ => Bool) (kbeq .i8 .i8) (kbeq .i8 .i16) (kbeq .i8 .i32) (kbeq .i8 .i64) (kbeq .i8 .u8) (kbeq .i8 .u16) (kbeq .i8 .u32) (kbeq .i8 .u64) k')
    (fun k' => @IntKind.rec (fun _ => Bool) (kbeq .i16 .i8) (kbeq .i16 .i16) (kbeq .i16 .i32) (kbeq .i16 .i64) (kbeq .i16 .u8) (kbeq .i16 .u16) (kbeq .i16 .u32) (kbeq .i16 .u64) k')
    (fun k' => @IntKind.rec (fun _ => Bool) (kbeq .i32 .i8) (kbeq .i32 .i16) (kbeq .i32 .i32) (kbeq .i32 .i64) (kbeq .i32 .u8) (kbeq .i32 .u16) (kbeq .i32 .u32) (kbeq .i32 .u64) k')
    (fun k' => @IntKind.rec (fun _ => Bool) false false false true false false false false k')
    (fun k' => @IntKind.rec (fun _ => Bool) false false false false true false false false k')
    (fun k' => @IntKind.rec (fun _ => Bool) (kbeq .u16 .i8) (kbeq .u16 .i16) (kbeq .u16 .i32) (kbeq .u16 .i64) (kbeq .u16 .u8) (kbeq .u16 .u16) (kbeq .u16 .u32) (kbeq .u16 .u64) k')
    (fun k' => @IntKind.rec (fun _ => Bool) (kbeq .u32 .i8) (kbeq .u32 .i16) (kbeq .u32 .i32) (kbeq .u32 .i64) (kbeq .u32 .u8) (kbeq .u32 .u16) (kbeq .u32 .u32) (kbeq .u32 .u64) k')
    (fun k' => @IntKind.rec (fun _ => Bool) false false false false false false false true k') k k'

theorem kbeqF_eq (k k' : IntKind) : kbeqF k k' = kbeq k k' := by cases k <;> cases k' <;> rfl

noncomputable def ieqF (a b : Int) : Bool :=
  @Int.rec (fun _ => Int → Bool) (fun m b => @Int.rec (fun _ => Bool) (fun n => Nat.beq m n) (fun _ => false) b) (fun m b => @Int.rec (fun _ => Bool) (fun _ => false) (fun n => Nat.beq m n) b) a b
theorem ieqF_eq (a b : Int) : ieqF a b = ieq a b := by cases a <;> cases b <;> rfl

noncomputable def iltF (a b : Int) : Bool :=
  @Int.rec (fun _ => Int → Bool) (fun m b => @Int.rec (fun _ => Bool) (fun n => Nat.ble (Nat.succ m) n) (fun _ => false) b) (fun m b => @Int.rec (fun _ => Bool) (fun _ => true) (fun n => Nat.ble (Nat.succ n) m) b) a b
theorem iltF_eq (a b : Int) : iltF a b = ilt a b := by cases a <;> cases b <;> rfl

noncomputable def iaddF (a b : Int) : Int :=
  @Int.rec (fun _ => Int → Int) (fun m b => @Int.rec (fun _ => Int) (fun n => .ofNat (Nat.add m n)) (fun n => Int.ofNat m + Int.negSucc n) b) (fun m b => Int.negSucc m + b) a b
theorem iaddF_eq (a b : Int) : iaddF a b = a + b := by cases a <;> cases b <;> rfl

noncomputable def wrap64F (n : Int) : Int :=
  @Int.rec (fun _ => Int) (fun m => @Bool.rec (fun _ => Int) (IntKind.wrap .i64 (.ofNat m)) (.ofNat m) (Nat.ble m 9223372036854775807)) (fun m => @Bool.rec (fun _ => Int) (IntKind.wrap .i64 (.negSucc m)) (.negSucc m) (Nat.ble m 9223372036854775807)) n
theorem brec {α : Type} (b : Bool) (x y : α) : @Bool.rec (fun _ => α) x y b = bif b then y else x := by cases b <;> rfl
theorem wrap64F_eq (n : Int) : wrap64F n = wrapF .i64 n := by
  cases n with
  | ofNat m => exact brec _ _ _
  | negSucc m => exact brec _ _ _

noncomputable def wrapFF (k : IntKind) (n : Int) : Int :=
  @IntKind.rec (fun _ => Int → Int) (fun n => wrapF .i8 n) (fun n => wrapF .i16 n) (fun n => wrapF .i32 n) (fun n => wrap64F n) (fun n => wrapF .u8 n) (fun n => wrapF .u16 n) (fun n => wrapF .u32 n) (fun n => wrapF .u64 n) k n
theorem wrapFF_eq (k : IntKind) (n : Int) : wrapFF k n = wrapF k n := by cases k <;> first | rfl | exact wrap64F_eq n

/-- two numbers of one kind -/
noncomputable def same (k k' : IntKind) (v : AV) : Option AV := @Bool.rec (fun _ => Option AV) none (some v) (kbeqF k k')
theorem same_eq (k k' : IntKind) (v : AV) : same k k' v = bif kbeq k k' then some v else none := by
  unfold same; rw [kbeqF_eq]; cases kbeq k k' <;> rfl

noncomputable def binIF (op : BinOp) (k : IntKind) (a : Int) (k' : IntKind) (b : Int) : Option AV :=
  @BinOp.rec (fun _ => IntKind → Int → IntKind → Int → Option AV)
    (fun k a k' b => same k k' (.int k (wrapFF k (iaddF a b))))
    (fun k a k' b => same k k' (.int k (wrapFF k (a - b))))
    (fun k a k' b => binI .mul k a k' b)
    (fun k a k' b => binI .quo k a k' b)
    (fun k a k' b => binI .rem k a k' b)
    (fun k a k' b => binI .and k a k' b)
    (fun k a k' b => binI .or k a k' b)
    (fun k a k' b => binI .xor k a k' b)
    (fun k a k' b => binI .shl k a k' b)
    (fun k a k' b => binI .shr k a k' b)
    (fun k a k' b => binI .andNot k a k' b)
    (fun k a k' b => same k k' (.bool (ieqF a b)))
    (fun k a k' b => same k k' (.bool (!ieqF a b)))
    (fun k a k' b => same k k' (.bool (iltF a b)))
    (fun k a k' b => same k k' (.bool (!iltF b a)))
    (fun k a k' b => same k k' (.bool (iltF b a)))
    (fun k a k' b => same k k' (.bool (!iltF a b))) op k a k' b
theorem binIF_eq (op : BinOp) (k : IntKind) (a : Int) (k' : IntKind) (b : Int) : binIF op k a k' b = binI op k a k' b := by
  cases op
  case add => show same k k' (.int k (wrapFF k (iaddF a b))) = _; rw [same_eq, wrapFF_eq, iaddF_eq]; rfl
  case sub => show same k k' (.int k (wrapFF k (a - b))) = _; rw [same_eq, wrapFF_eq]; rfl
  case eql => show same k k' (.bool (ieqF a b)) = _; rw [same_eq, ieqF_eq]; rfl
  case neq => show same k k' (.bool (!ieqF a b)) = _; rw [same_eq, ieqF_eq]; rfl
  case lss => show same k k' (.bool (iltF a b)) = _; rw [same_eq, iltF_eq]; rfl
  case leq => show same k k' (.bool (!iltF b a)) = _; rw [same_eq, iltF_eq]; rfl
  case gtr => show same k k' (.bool (iltF b a)) = _; rw [same_eq, iltF_eq]; rfl
  case geq => show same k k' (.bool (!iltF a b)) = _; rw [same_eq, iltF_eq]; rfl
  all_goals rfl

/-! ### values taken apart -/
variable [T : SymT]

/-- a number, or something else -/
noncomputable def asInt (v : AV) (d : Option AV) : (IntKind → Int → Option AV) → Option AV :=
  @AV.rec (fun _ => Option AV → (IntKind → Int → Option AV) → Option AV) (fun _ => Unit)
    (fun _ d _ => d) (fun k n _ f => f k n) (fun _ d _ => d) (fun d _ => d) (fun _ _ d _ => d) (fun d _ => d) (fun _ _ _ _ d _ => d) (fun d _ => d) (fun d _ => d) (fun _ d _ => d) (fun d _ => d) (fun _ _ _ _ _ d _ => d) (fun _ d _ => d) (fun d _ => d) (fun _ _ d _ => d) (fun _ _ d _ => d) (fun _ _ d _ => d)
    (fun _ _ _ d _ => d) (fun _ d _ => d) (fun _ d _ => d) () (fun _ _ _ _ => ()) v d

noncomputable def asPtr (v : AV) (d : Option AV) : (Pos → Nat → Option AV) → Option AV :=
  @AV.rec (fun _ => Option AV → (Pos → Nat → Option AV) → Option AV) (fun _ => Unit)
    (fun _ d _ => d) (fun _ _ d _ => d) (fun _ d _ => d) (fun d _ => d) (fun l o _ f => f l o) (fun d _ => d) (fun _ _ _ _ d _ => d) (fun d _ => d) (fun d _ => d) (fun _ d _ => d) (fun d _ => d) (fun _ _ _ _ _ d _ => d) (fun _ d _ => d) (fun d _ => d) (fun _ _ d _ => d) (fun _ _ d _ => d) (fun _ _ d _ => d)
    (fun _ _ _ d _ => d) (fun _ d _ => d) (fun _ d _ => d) () (fun _ _ _ _ => ()) v d

noncomputable def asSl (v : AV) (d : Option AV) : (Pos → Nat → Nat → Cap → Option AV) → Option AV :=
  @AV.rec (fun _ => Option AV → (Pos → Nat → Nat → Cap → Option AV) → Option AV) (fun _ => Unit)
    (fun _ d _ => d) (fun _ _ d _ => d) (fun _ d _ => d) (fun d _ => d) (fun _ _ d _ => d) (fun d _ => d) (fun l o n c _ f => f l o n c) (fun d _ => d) (fun d _ => d) (fun _ d _ => d) (fun d _ => d) (fun _ _ _ _ _ d _ => d) (fun _ d _ => d) (fun d _ => d) (fun _ _ d _ => d) (fun _ _ d _ => d) (fun _ _ d _ => d)
    (fun _ _ _ d _ => d) (fun _ d _ => d) (fun _ d _ => d) () (fun _ _ _ _ => ()) v d

noncomputable def asCells (v : AV) (d : Option AV) : (List AV → Option AV) → Option AV :=
  @AV.rec (fun _ => Option AV → (List AV → Option AV) → Option AV) (fun _ => Unit)
    (fun _ d _ => d) (fun _ _ d _ => d) (fun _ d _ => d) (fun d _ => d) (fun _ _ d _ => d) (fun d _ => d) (fun _ _ _ _ d _ => d) (fun d _ => d) (fun d _ => d) (fun _ d _ => d) (fun d _ => d) (fun _ _ _ _ _ d _ => d) (fun _ d _ => d) (fun d _ => d) (fun l _ _ f => f l) (fun l _ _ f => f l) (fun _ _ d _ => d)
    (fun _ _ _ d _ => d) (fun _ d _ => d) (fun _ d _ => d) () (fun _ _ _ _ => ()) v d

noncomputable def asBool (v : AV) (d : Option AV) : (Bool → Option AV) → Option AV :=
  @AV.rec (fun _ => Option AV → (Bool → Option AV) → Option AV) (fun _ => Unit)
    (fun b _ f => f b) (fun _ _ d _ => d) (fun _ d _ => d) (fun d _ => d) (fun _ _ d _ => d) (fun d _ => d) (fun _ _ _ _ d _ => d) (fun d _ => d) (fun d _ => d) (fun _ d _ => d) (fun d _ => d) (fun _ _ _ _ _ d _ => d) (fun _ d _ => d) (fun d _ => d) (fun _ _ d _ => d) (fun _ _ d _ => d) (fun _ _ d _ => d)
    (fun _ _ _ d _ => d) (fun _ d _ => d) (fun _ d _ => d) () (fun _ _ _ _ => ()) v d

noncomputable def binF (op : BinOp) (x y : AV) : Option AV :=
  asInt x (evBin op x y) fun k a => asInt y (evBin op x y) fun k' b => binIF op k a k' b
theorem binF_eq (op : BinOp) (x y : AV) : binF op x y = evBin op x y := by
  cases x <;> first | rfl | skip
  cases y <;> first | rfl | exact binIF_eq ..

noncomputable def nilckF (x : AV) : Option AV := asPtr x (evNilck x) fun l o => some (.ptr l o)
theorem nilckF_eq (x : AV) : nilckF x = evNilck x := by cases x <;> rfl

noncomputable def faddrF (off : Nat) (x : AV) : Option AV := asPtr x none fun l o => some (.ptr l (Nat.add o off))
theorem faddrF_eq (off : Nat) (x : AV) : faddrF off x = evFaddr off x := by cases x <;> rfl

noncomputable def fieldSF (off : Nat) (x : AV) : Option AV := @AV.rec (fun _ => Nat → Option AV) (fun _ => Unit)
    (fun _ _ => none) (fun _ _ _ => none) (fun _ _ => none) (fun _ => none) (fun _ _ _ => none) (fun _ => none) (fun _ _ _ _ _ => none) (fun _ => none) (fun _ => none) (fun _ _ => none) (fun _ => none) (fun _ _ _ _ _ _ => none) (fun _ _ => none) (fun _ => none) (fun l _ off => nthF off l) (fun _ _ _ => none) (fun _ _ _ => none)
    (fun _ _ _ _ => none) (fun _ _ => none) (fun _ _ => none) () (fun _ _ _ _ => ()) x off
theorem fieldSF_eq (off : Nat) (x : AV) : fieldSF off x = evFieldS off x := by cases x <;> first | rfl | exact nthF_eq ..

noncomputable def extF (i : Nat) (x : AV) : Option AV := @AV.rec (fun _ => Nat → Option AV) (fun _ => Unit)
    (fun _ _ => none) (fun _ _ _ => none) (fun _ _ => none) (fun _ => none) (fun _ _ _ => none) (fun _ => none) (fun _ _ _ _ _ => none) (fun _ => none) (fun _ => none) (fun _ _ => none) (fun _ => none) (fun _ _ _ _ _ _ => none) (fun _ _ => none) (fun _ => none) (fun _ _ _ => none) (fun l _ i => nthF i l) (fun _ _ _ => none)
    (fun _ _ _ _ => none) (fun _ _ => none) (fun _ _ => none) () (fun _ _ _ _ => ()) x i
theorem extF_eq (i : Nat) (x : AV) : extF i x = evExt i x := by cases x <;> first | rfl | exact nthF_eq ..

/-- an index below n -/
noncomputable def idxF (n : Nat) (x : AV) (f : Nat → Option AV) : Option AV :=
  asInt x none fun _ i => @Int.rec (fun _ => Option AV) (fun m => @Bool.rec (fun _ => Option AV) none (f m) (Nat.ble (Nat.succ m) n)) (fun _ => none) i
theorem idxF_eq (n : Nat) (x : AV) (f : Nat → Option AV) : idxF n x f = match idx n x with
    | some i => f i
    | none => none := by
  cases x <;> first | rfl | skip
  rename_i k i
  cases i with
  | negSucc _ => rfl
  | ofNat m =>
    show @Bool.rec (fun _ => Option AV) none (f m) (Nat.ble (Nat.succ m) n) = match (bif Nat.ble (Nat.succ m) n then some m else none) with | some i => f i | none => none
    cases Nat.ble (Nat.succ m) n <;> rfl

noncomputable def iaddrSF (esz : Nat) (x i : AV) : Option AV := asSl x none fun l o n _ => idxF n i fun i => some (.ptr l (Nat.add o (Nat.mul i esz)))
theorem iaddrSF_eq (esz : Nat) (x i : AV) : iaddrSF esz x i = evIaddrS esz x i := by
  cases x <;> first | rfl | skip
  rename_i l o n c
  show idxF n i (fun i => some (.ptr l (Nat.add o (Nat.mul i esz)))) = _
  rw [idxF_eq]; rfl

noncomputable def iaddrAF (n esz : Nat) (x i : AV) : Option AV := asPtr x none fun l o => idxF n i fun i => some (.ptr l (Nat.add o (Nat.mul i esz)))
theorem iaddrAF_eq (n esz : Nat) (x i : AV) : iaddrAF n esz x i = evIaddrA n esz x i := by
  cases x <;> first | rfl | skip
  rename_i l o
  show idxF n i (fun i => some (.ptr l (Nat.add o (Nat.mul i esz)))) = _
  rw [idxF_eq]; rfl

/-! ### the heap -/
noncomputable def addF (h : Heap X0) (o : AObj X0) : Heap X0 := ⟨h.next.succ, putH h.next (some o) h.m⟩
theorem addF_eq (h : Heap X0) (o : AObj X0) : addF h o = h.add o := by unfold addF Heap.add; rw [putH_eq]
noncomputable def updF (h : Heap X0) (l : Pos) (o : AObj X0) : Heap X0 := ⟨h.next, putH l (some o) h.m⟩
theorem updF_eq (h : Heap X0) (l : Pos) (o : AObj X0) : updF h l o = h.upd l o := by unfold updF Heap.upd; rw [putH_eq]

/-- a row of cells, or something else -/
noncomputable def rowF (ob : Option (AObj X0)) : (Nat → List AV → Bool → Option AV) → Option AV :=
  @Option.rec (AObj X0) (fun _ => (Nat → List AV → Bool → Option AV) → Option AV) (fun _ => none)
    (fun o => @AObj.rec X0 (fun _ => (Nat → List AV → Bool → Option AV) → Option AV) (fun _ _ => none) (fun e cs z f => f e cs z) (fun _ _ _ => none) (fun _ _ _ => none) (fun _ _ _ _ _ => none) (fun _ _ _ _ _ _ _ => none) o) ob

noncomputable def ldSF (h : Heap X0) (x : AV) : Option AV := asPtr x none fun l o => rowF (getH h.m l) fun _ cs _ => nthF o cs
theorem ldSF_eq (h : Heap X0) (x : AV) : ldSF h x = ldS h x := by
  cases x <;> first | rfl | skip
  rename_i l o
  show rowF (getH h.m l) (fun _ cs _ => nthF o cs) = _
  rw [getH_eq]
  simp only [ldS]
  cases h.m.get l with
  | none => rfl
  | some ob => cases ob <;> first | rfl | exact nthF_eq ..

noncomputable def aggO (o : Option (List AV)) : Option AV := @Option.rec (List AV) (fun _ => Option AV) none (fun cs => some (.agg cs)) o
noncomputable def ldAF (h : Heap X0) (n : Nat) (x : AV) : Option AV := asPtr x none fun l o => rowF (getH h.m l) fun _ cs _ => aggO (cutF o n cs)
theorem ldAF_eq (h : Heap X0) (n : Nat) (x : AV) : ldAF h n x = ldA h n x := by
  cases x <;> first | rfl | skip
  rename_i l o
  show rowF (getH h.m l) (fun _ cs _ => aggO (cutF o n cs)) = _
  rw [getH_eq]
  simp only [ldA, ldN]
  cases h.m.get l with
  | none => rfl
  | some ob =>
    cases ob <;> first | rfl | skip
    show aggO (cutF o n _) = _
    rw [cutF_eq]
    simp only
    split <;> rename_i h1 <;> rw [h1] <;> rfl

noncomputable def cellsF (x : AV) : List AV :=
  @AV.rec (fun _ => AV → List AV) (fun _ => Unit) (fun _ x => [x]) (fun _ _ x => [x]) (fun _ x => [x]) (fun x => [x]) (fun _ _ x => [x]) (fun x => [x]) (fun _ _ _ _ x => [x]) (fun x => [x]) (fun x => [x]) (fun _ x => [x]) (fun x => [x]) (fun _ _ _ _ _ x => [x]) (fun _ x => [x]) (fun x => [x]) (fun l _ _ => l) (fun _ _ x => [x]) (fun _ _ x => [x]) (fun _ _ _ x => [x]) (fun _ x => [x]) (fun _ x => [x]) () (fun _ _ _ _ => ()) x x
theorem cellsF_eq (x : AV) : cellsF x = x.cells := by cases x <;> rfl

noncomputable def oneF (x : AV) : Bool :=
  @AV.rec (fun _ => Bool) (fun _ => Unit) (fun _ => true) (fun _ _ => true) (fun _ => true) (true) (fun _ _ => true) (true) (fun _ _ _ _ => true) (true) (true) (fun _ => true) (true) (fun _ _ _ _ _ => true) (fun _ => true) (true) (fun _ _ => false) (fun _ _ => false) (fun _ _ => true) (fun _ _ _ => true) (fun _ => true) (fun _ => true) () (fun _ _ _ _ => ()) x
theorem oneF_eq (x : AV) : oneF x = x.one := by cases x <;> rfl

noncomputable def allOneF (l : List AV) : Bool := @List.rec AV (fun _ => Bool) true (fun v _ ih => @Bool.rec (fun _ => Bool) false ih (oneF v)) l
theorem allOneF_eq : ∀ l : List AV, allOneF l = allOne l
  | [] => rfl
  | v :: l => by
    show @Bool.rec (fun _ => Bool) false (allOneF l) (oneF v) = (v.one && allOne l)
    rw [oneF_eq, allOneF_eq l]
    cases v.one <;> rfl

abbrev R2 := Option (AV × Heap X0)

noncomputable def rowW (ob : Option (AObj X0)) : (Nat → List AV → Bool → Option (Heap X0)) → Option (Heap X0) :=
  @Option.rec (AObj X0) (fun _ => (Nat → List AV → Bool → Option (Heap X0)) → Option (Heap X0)) (fun _ => none)
    (fun o => @AObj.rec X0 (fun _ => (Nat → List AV → Bool → Option (Heap X0)) → Option (Heap X0)) (fun _ _ => none) (fun e cs z f => f e cs z) (fun _ _ _ => none) (fun _ _ _ => none) (fun _ _ _ _ _ => none) (fun _ _ _ _ _ _ _ => none) o) ob

noncomputable def stNF (h : Heap X0) (l : Pos) (o : Nat) (vs : List AV) : Option (Heap X0) :=
  rowW (getH h.m l) fun e cs z => @Bool.rec (fun _ => Option (Heap X0)) (@Bool.rec (fun _ => Option (Heap X0)) none (@Option.rec (List AV) (fun _ => Option (Heap X0)) none (fun cs => some (updF h l (.cells e cs false))) (overF o cs vs)) (allOneF vs)) none z
theorem stNF_eq (h : Heap X0) (l : Pos) (o : Nat) (vs : List AV) : stNF h l o vs = stN h l o vs := by
  unfold stNF stN
  rw [getH_eq]
  cases h.m.get l with
  | none => rfl
  | some ob =>
    cases ob <;> first | rfl | skip
    rename_i e cs z
    cases z with
    | true => rfl
    | false =>
      show @Bool.rec (fun _ => Option (Heap X0)) none (@Option.rec (List AV) (fun _ => Option (Heap X0)) none (fun cs => some (updF h l (.cells e cs false))) (overF o cs vs)) (allOneF vs) = _
      rw [allOneF_eq, overF_eq]
      simp only
      cases allOne vs with
      | false => rfl
      | true =>
        simp only [cond_true]
        split <;> rename_i h1 <;> rw [h1]
        · show some (updF h l _) = _; rw [updF_eq]

noncomputable def unitO (o : Option (Heap X0)) : R2 := @Option.rec (Heap X0) (fun _ => R2) none (fun h => some (.tup [], h)) o

noncomputable def stF (h : Heap X0) (n : Nat) (a x : AV) : R2 :=
  @AV.rec (fun _ => Heap X0 → Nat → AV → R2) (fun _ => Unit) (fun _ _ _ _ => none) (fun _ _ _ _ _ => none) (fun _ _ _ _ => none) (fun _ _ _ => none) (fun l o h n x => @Bool.rec (fun _ => R2) none (unitO (stNF h l o (cellsF x))) (Nat.beq (lenF (cellsF x)) n)) (fun _ _ _ => none) (fun _ _ _ _ _ _ _ => none) (fun _ _ _ => none) (fun _ _ _ => none) (fun _ _ _ _ => none) (fun _ _ _ => none) (fun _ _ _ _ _ _ _ _ => none) (fun _ _ _ _ => none) (fun _ _ _ => none) (fun _ _ _ _ _ => none) (fun _ _ _ _ _ => none) (fun _ _ _ _ _ => none) (fun _ _ _ _ _ _ => none) (fun _ _ _ _ => none) (fun _ _ _ _ => none) () (fun _ _ _ _ => ()) a h n x
theorem stF_eq (h : Heap X0) (n : Nat) (a x : AV) : stF h n a x = evSt h n a x := by
  cases a <;> first | rfl | skip
  rename_i l o
  show @Bool.rec (fun _ => R2) none (unitO (stNF h l o (cellsF x))) (Nat.beq (lenF (cellsF x)) n) = _
  rw [stNF_eq, cellsF_eq, lenF_eq]
  simp only [evSt]
  cases Nat.beq x.cells.length n with
  | false => rfl
  | true =>
    simp only [cond_true]
    split <;> rename_i h1 <;> rw [h1] <;> rfl

/-! ### rows of cells -/
noncomputable def fillF (l : List (Nat × Nat × Opd)) (env : PT AV) (cs : List AV) : Option (List AV) :=
  @List.rec (Nat × Nat × Opd) (fun _ => PT AV → List AV → Option (List AV)) (fun _ cs => some cs)
    (fun p _ ih env cs => @Prod.rec Nat (Nat × Opd) (fun _ => Option (List AV)) (fun o q => @Prod.rec Nat Opd (fun _ => Option (List AV)) (fun n x =>
      @Bool.rec (fun _ => Option (List AV)) none (@Option.rec (List AV) (fun _ => Option (List AV)) none (fun cs => ih env cs) (overF o cs (cellsF (opd x env)))) (Nat.beq (lenF (cellsF (opd x env))) n)) q) p) l env cs
theorem fillF_eq : ∀ (l : List (Nat × Nat × Opd)) (env : PT AV) (cs : List AV), fillF l env cs = fillP env cs l
  | [], _, _ => rfl
  | (o, n, x) :: l, env, cs => by
    show @Bool.rec (fun _ => Option (List AV)) none (@Option.rec (List AV) (fun _ => Option (List AV)) none (fun cs => fillF l env cs) (overF o cs (cellsF (opd x env)))) (Nat.beq (lenF (cellsF (opd x env))) n) = _
    rw [lenF_eq, cellsF_eq, opd_eq, overF_eq, brec]
    simp only [fillP]
    congr 1
    generalize over o cs (x.ev env).cells = r
    cases r with
    | none => rfl
    | some r => exact fillF_eq l env r

noncomputable def buildF (z : List AV) (ps : List (Nat × Nat × Opd)) (env : PT AV) : Option AV := aggO (fillF ps env z)
theorem buildF_eq (z : List AV) (ps : List (Nat × Nat × Opd)) (env : PT AV) : buildF z ps env = evP env (.build z ps) := by
  unfold buildF
  rw [fillF_eq]
  simp only [evP, evBuild]
  generalize fillP env z ps = r
  cases r <;> rfl

noncomputable def bsliceF (e n : Nat) (z : List AV) (ps : List (Nat × Nat × Opd)) (env : PT AV) (l : Pos) : Option (AV × AObj X0) :=
  @Option.rec (List AV) (fun _ => Option (AV × AObj X0)) none (fun cs => some (.sl l 0 n (.kn n), .cells e cs false)) (fillF ps env z)
theorem bsliceF_eq (e esz n : Nat) (z : List AV) (ps : List (Nat × Nat × Opd)) (env : PT AV) (l : Pos) : bsliceF e n z ps env l = evA env l (.bslice e esz n z ps) := by
  unfold bsliceF
  rw [fillF_eq]
  simp only [evA, evBslice]
  generalize fillP env z ps = r
  cases r <;> rfl

/-- the cells from o on, n of them -/
noncomputable def rowL (ob : Option (AObj X0)) : (List AV → Option (List AV)) → Option (List AV) :=
  @Option.rec (AObj X0) (fun _ => (List AV → Option (List AV)) → Option (List AV)) (fun _ => none)
    (fun o => @AObj.rec X0 (fun _ => (List AV → Option (List AV)) → Option (List AV)) (fun _ _ => none) (fun _ cs _ f => f cs) (fun _ _ _ => none) (fun _ _ _ => none) (fun _ _ _ _ _ => none) (fun _ _ _ _ _ _ _ => none) o) ob
noncomputable def ldNF (h : Heap X0) (l : Pos) (o n : Nat) : Option (List AV) := rowL (getH h.m l) fun cs => cutF o n cs
theorem ldNF_eq (h : Heap X0) (l : Pos) (o n : Nat) : ldNF h l o n = ldN h l o n := by
  unfold ldNF ldN
  rw [getH_eq]
  cases h.m.get l with
  | none => rfl
  | some ob => cases ob <;> first | rfl | exact cutF_eq ..

noncomputable def byteF (b : Nat) : AV := @Bool.rec (fun _ => AV) (.sb .u8 (b - 256) 0) (.int .u8 (.ofNat b)) (Nat.ble (Nat.succ b) 256)
theorem byteF_eq (b : Nat) : byteF b = byteAV b := brec _ _ _
noncomputable def bytesF (s : List Nat) : List AV := @List.rec Nat (fun _ => List AV) [] (fun b _ ih => byteF b :: ih) s
theorem bytesF_eq : ∀ s : List Nat, bytesF s = s.map byteAV
  | [] => rfl
  | b :: s => by show byteF b :: bytesF s = _; rw [byteF_eq, bytesF_eq s]; rfl

abbrev RS := Option (Nat × List AV)
noncomputable def srcF (h : Heap X0) (esz : Nat) (x : AV) : RS :=
  @AV.rec (fun _ => Heap X0 → Nat → RS) (fun _ => Unit) (fun _ _ _ => none) (fun _ _ _ _ => none) (fun s _ esz => @Bool.rec (fun _ => RS) none (some (lenF s, bytesF s)) (Nat.beq esz 1)) (fun _ _ => none) (fun _ _ _ _ => none) (fun _ _ => some (0, [])) (fun l o n _ h esz => @Option.rec (List AV) (fun _ => RS) none (fun cs => some (n, cs)) (ldNF h l o (n * esz))) (fun _ _ => some (0, [])) (fun _ _ => none) (fun _ _ _ => none) (fun _ _ => none) (fun _ _ _ _ _ _ _ => none) (fun _ _ _ => none) (fun _ _ => none) (fun _ _ _ _ => none) (fun _ _ _ _ => none) (fun _ _ _ _ => none) (fun _ _ _ _ _ => none) (fun _ _ _ => none) (fun _ _ _ => none) () (fun _ _ _ _ => ()) x h esz
theorem srcF_eq (h : Heap X0) (esz : Nat) (x : AV) : srcF h esz x = srcOf h esz x := by
  cases x <;> first | rfl | skip
  · rename_i s
    show @Bool.rec (fun _ => RS) none (some (lenF s, bytesF s)) (Nat.beq esz 1) = _
    rw [lenF_eq, bytesF_eq, brec]; rfl
  · rename_i l o n c
    show @Option.rec (List AV) (fun _ => RS) none (fun cs => some (n, cs)) (ldNF h l o (n * esz)) = _
    rw [ldNF_eq]
    simp only [srcOf]
    generalize ldN h l o (n * esz) = r
    cases r <;> rfl

noncomputable def slO (l : Pos) (o n : Nat) (c : Cap) (r : Option (Heap X0)) : R2 := @Option.rec (Heap X0) (fun _ => R2) none (fun h => some (.sl l o n c, h)) r

noncomputable def appF (h : Heap X0) (e esz bytes : Nat) (s x : AV) : R2 :=
  @Option.rec (Nat × List AV) (fun _ => R2) none (fun p => @Prod.rec Nat (List AV) (fun _ => R2) (fun n new =>
    match s with
    | .nils => @Bool.rec (fun _ => R2) (@Bool.rec (fun _ => R2) none (some (.sl h.next 0 n (.un 0), addF h (.cells e new false))) (@Bool.rec (fun _ => Bool) false (allOneF new) (Nat.ble (n * bytes) 1048576))) (some (.nils, h)) (Nat.beq n 0)
    | .sl l o len (.kn c) =>
      @Bool.rec (fun _ => R2)
        (@Bool.rec (fun _ => R2) none (@Option.rec (List AV) (fun _ => R2) none (fun old => some (.sl h.next 0 (len + n) (.un 0), addF h (.cells e (old ++ new) false))) (ldNF h l o (len * esz))) (@Bool.rec (fun _ => Bool) false (allOneF new) (Nat.ble ((len + n) * bytes) 1048576)))
        (@Bool.rec (fun _ => R2) (slO l o (len + n) (.kn c) (stNF h l (o + len * esz) new)) (some (.sl l o len (.kn c), h)) (Nat.beq n 0)) (Nat.ble (len + n) c)
    | .sl l o len (.un k) => evApp h e esz bytes (.sl l o len (.un k)) x
    | s => evApp h e esz bytes s x) p) (srcF h esz x)
theorem appF_eq (h : Heap X0) (e esz bytes : Nat) (s x : AV) : appF h e esz bytes s x = evApp h e esz bytes s x := by
  unfold appF
  rw [srcF_eq]
  cases hs : srcOf h esz x with
  | none => simp only [evApp, hs]
  | some p =>
    obtain ⟨n, new⟩ := p
    simp only
    split
    · simp only [evApp, hs, brec, allOneF_eq, addF_eq]
      cases Nat.beq n 0 <;> cases Nat.ble (n * bytes) 1048576 <;> cases allOne new <;> rfl
    · rename_i l o len c
      simp only [evApp, hs, brec, allOneF_eq, addF_eq, stNF_eq, ldNF_eq, slO]
      generalize stN h l (o + len * esz) new = r1
      generalize ldN h l o (len * esz) = r2
      cases Nat.ble (len + n) c <;> cases Nat.beq n 0 <;> cases Nat.ble ((len + n) * bytes) 1048576 <;> cases allOne new <;> cases r1 <;> cases r2 <;> rfl
    · rfl
    · rfl

noncomputable def copyF (h : Heap X0) (esz : Nat) (d s : AV) : R2 :=
  @Option.rec (Nat × List AV) (fun _ => R2) none (fun p => @Prod.rec Nat (List AV) (fun _ => R2) (fun n new =>
    match d with
    | .sl l o dn _ => @Bool.rec (fun _ => R2)
        (@Option.rec (Heap X0) (fun _ => R2) none (fun h => some (.int .i64 (.ofNat dn), h)) (stNF h l o (new.take (dn * esz))))
        (@Option.rec (Heap X0) (fun _ => R2) none (fun h => some (.int .i64 (.ofNat n), h)) (stNF h l o (new.take (n * esz)))) (Nat.ble n dn)
    | d => evCopy h esz d s) p) (srcF h esz s)
theorem copyF_eq (h : Heap X0) (esz : Nat) (d s : AV) : copyF h esz d s = evCopy h esz d s := by
  unfold copyF
  rw [srcF_eq]
  cases hs : srcOf h esz s with
  | none => simp only [evCopy, hs]
  | some p =>
    obtain ⟨n, new⟩ := p
    simp only
    split
    · rename_i l o dn c
      simp only [evCopy, hs, stNF_eq]
      cases hb : Nat.ble n dn with
      | false =>
        simp only [cond_false]
        generalize stN h l o (new.take (dn * esz)) = r
        cases r <;> rfl
      | true =>
        simp only [cond_true]
        generalize stN h l o (new.take (n * esz)) = r
        cases r <;> rfl
    · rfl

noncomputable def byteO (v : AV) (d ih : Option (List Nat)) : Option (List Nat) :=
  @AV.rec (fun _ => Option (List Nat) → Option (List Nat) → Option (List Nat)) (fun _ => Unit) (fun _ d _ => d) (fun k n d ih => @IntKind.rec (fun _ => Option (List Nat)) d d d d (@Int.rec (fun _ => Option (List Nat)) (fun b => @Bool.rec (fun _ => Option (List Nat)) d (@Option.rec (List Nat) (fun _ => Option (List Nat)) none (fun r => some (b :: r)) ih) (Nat.ble (Nat.succ b) 256)) (fun _ => d) n) d d d k) (fun _ d _ => d) (fun d _ => d) (fun _ _ d _ => d) (fun d _ => d) (fun _ _ _ _ d _ => d) (fun d _ => d) (fun d _ => d) (fun _ d _ => d) (fun d _ => d) (fun _ _ _ _ _ d _ => d) (fun _ d _ => d) (fun d _ => d) (fun _ _ d _ => d) (fun _ _ d _ => d) (fun _ _ d _ => d) (fun _ _ _ d _ => d) (fun _ d _ => d) (fun _ d _ => d) () (fun _ _ _ _ => ()) v d ih
noncomputable def obytesF (cs : List AV) : Option (List Nat) :=
  @List.rec AV (fun _ => Option (List Nat)) (some []) (fun v cs ih => byteO v (bytesOf (v :: cs)) ih) cs
theorem obytesF_eq : ∀ cs : List AV, obytesF cs = bytesOf cs
  | [] => rfl
  | v :: cs => by
    have ih := obytesF_eq cs
    show byteO v (bytesOf (v :: cs)) (obytesF cs) = _
    rw [ih]
    cases v <;> first | rfl | skip
    rename_i k n
    cases k <;> first | rfl | skip
    cases n <;> first | rfl | skip
    rename_i b
    show @Bool.rec (fun _ => Option (List Nat)) (bytesOf (.int .u8 (.ofNat b) :: cs)) (@Option.rec (List Nat) (fun _ => Option (List Nat)) none (fun r => some (b :: r)) (bytesOf cs)) (Nat.ble (Nat.succ b) 256) = _
    rw [brec]
    cases hb : Nat.ble (Nat.succ b) 256 with
    | false => rfl
    | true =>
      simp only [cond_true, bytesOf, Nat.blt, Nat.succ_eq_add_one] at hb ⊢
      rw [hb]
      simp only [cond_true]
      generalize bytesOf cs = r
      cases r <;> rfl

noncomputable def strO (r : Option (List Nat)) : Option AV := @Option.rec (List Nat) (fun _ => Option AV) none (fun s => some (.str s)) r
noncomputable def b2sF (h : Heap X0) (x : AV) : Option AV := asSl x (evB2s h x) fun l o n _ => @Option.rec (List AV) (fun _ => Option AV) none (fun cs => strO (obytesF cs)) (ldNF h l o n)
theorem b2sF_eq (h : Heap X0) (x : AV) : b2sF h x = evB2s h x := by
  cases x <;> first | rfl | skip
  rename_i l o n c
  show @Option.rec (List AV) (fun _ => Option AV) none (fun cs => strO (obytesF cs)) (ldNF h l o n) = _
  rw [ldNF_eq]
  simp only [evB2s]
  generalize ldN h l o n = r
  cases r with
  | none => rfl
  | some cs =>
    show strO (obytesF cs) = _
    rw [obytesF_eq]
    simp only
    generalize bytesOf cs = r
    cases r <;> rfl

noncomputable def pF (o : POp) (env : PT AV) : Option AV :=
  @POp.rec (fun _ => PT AV → Option AV)
    (fun _ => none)
    (fun x env => some (opd x env))
    (fun x env => evP env (.mvS x))
    (fun c a b env => asBool (opd c env) none fun t => @Bool.rec (fun _ => Option AV) (some (opd b env)) (some (opd a env)) t)
    (fun z ps env => buildF z ps env)
    (fun op x y env => binF op (opd x env) (opd y env))
    (fun n x y env => evP env (.eqv n x y))
    (fun n x y env => evEqp n (opd x env) (opd y env))
    (fun n x y env => evP env (.eqs n x y))
    (fun n x y env => evP env (.eqm n x y))
    (fun n x y env => evP env (.eqf n x y))
    (fun n ks x y env => evP env (.eqa n ks x y))
    (fun x env => asBool (opd x env) none fun t => some (.bool (!t)))
    (fun x env => evP env (.neg x))
    (fun k x env => evConv k (opd x env))
    (fun f a b env => some (.fn f (opds a env) (opds b env)))
    (fun x env => nilckF (opd x env))
    (fun x lo hi env => evP env (.slStr x lo hi))
    (fun esz x lo hi mx env => evP env (.slSl esz x lo hi mx))
    (fun n esz x lo hi mx env => evP env (.slArr n esz x lo hi mx))
    (fun off x env => faddrF off (opd x env))
    (fun off x env => fieldSF off (opd x env))
    (fun off sz x env => evP env (.fieldA off sz x))
    (fun esz x i env => iaddrSF esz (opd x env) (opd i env))
    (fun n esz x i env => iaddrAF n esz (opd x env) (opd i env))
    (fun n esz ag x i env => evP env (.idxA n esz ag x i))
    (fun x i env => evP env (.idxStr x i))
    (fun x i env => extF i (opd x env))
    (fun x env => evP env (.lenStr x))
    (fun x env => evLenSl (opd x env))
    (fun n _ => some (.int .i64 (.ofNat n)))
    (fun x env => evP env (.capSl x))
    (fun x y env => evP env (.mn x y))
    (fun x y env => evP env (.mx x y)) o env

theorem pF_eq (o : POp) (env : PT AV) : pF o env = evP env o := by
  cases o <;> first | rfl | skip
  case mv x => show some (opd x env) = some _; rw [opd_eq]
  case build z ps => exact buildF_eq ..
  case pick c a b =>
    show asBool (opd c env) none (fun t => @Bool.rec (fun _ => Option AV) (some (opd b env)) (some (opd a env)) t) = evPick _ _ _
    rw [opd_eq, opd_eq, opd_eq]
    cases c.ev env <;> first | rfl | skip
    rename_i t; cases t <;> rfl
  case bin op x y => show binF op (opd x env) (opd y env) = _; rw [binF_eq, opd_eq, opd_eq]; rfl
  case eqp n x y => show evEqp n (opd x env) (opd y env) = _; rw [opd_eq, opd_eq]; rfl
  case not x =>
    show asBool (opd x env) none (fun t => some (.bool (!t))) = evNot _
    rw [opd_eq]
    cases x.ev env <;> rfl
  case conv k x => show evConv k (opd x env) = _; rw [opd_eq]; rfl
  case mkfn f a b => show some (AV.fn f (opds a env) (opds b env)) = _; rw [opds_eq, opds_eq]; rfl
  case nilck x => show nilckF (opd x env) = _; rw [nilckF_eq, opd_eq]; rfl
  case faddr off x => show faddrF off (opd x env) = _; rw [faddrF_eq, opd_eq]; rfl
  case fieldS off x => show fieldSF off (opd x env) = _; rw [fieldSF_eq, opd_eq]; rfl
  case iaddrS esz x i => show iaddrSF esz (opd x env) (opd i env) = _; rw [iaddrSF_eq, opd_eq, opd_eq]; rfl
  case iaddrA n esz x i => show iaddrAF n esz (opd x env) (opd i env) = _; rw [iaddrAF_eq, opd_eq, opd_eq]; rfl
  case ext x i => show extF i (opd x env) = _; rw [extF_eq, opd_eq]; rfl
  case lenSl x => show evLenSl (opd x env) = _; rw [opd_eq]; rfl

noncomputable def rF (o : ROp) (env : PT AV) (h : Heap X0) : Option AV :=
  @ROp.rec (fun _ => PT AV → Heap X0 → Option AV)
    (fun x env h => ldSF h (opd x env))
    (fun n x env h => ldAF h n (opd x env))
    (fun z m k ok env h => evLook h z ok (opd m env) (opd k env))
    (fun x env h => evLenM h (opd x env))
    (fun x env h => b2sF h (opd x env))
    (fun x env h => evEntry h (opd x env))
    (fun x env h => evSdata h (opd x env))
    (fun x env h => evP2u h (opd x env))
    (fun u sz x env h => evU2p h u sz (opd x env)) o env h
theorem rF_eq (o : ROp) (env : PT AV) (h : Heap X0) : rF o env h = evR env h o := by
  cases o
  case ldS x => show ldSF h (opd x env) = _; rw [ldSF_eq, opd_eq]; rfl
  case ldA n x => show ldAF h n (opd x env) = _; rw [ldAF_eq, opd_eq]; rfl
  case look z m k ok => show evLook h z ok (opd m env) (opd k env) = _; rw [opd_eq, opd_eq]; rfl
  case lenM x => show evLenM h (opd x env) = _; rw [opd_eq]; rfl
  case b2s x => show b2sF h (opd x env) = _; rw [b2sF_eq, opd_eq]; rfl
  case entry x => show evEntry h (opd x env) = _; rw [opd_eq]; rfl
  case sdata x => show evSdata h (opd x env) = _; rw [opd_eq]; rfl
  case p2u x => show evP2u h (opd x env) = _; rw [opd_eq]; rfl
  case u2p u sz x => show evU2p h u sz (opd x env) = _; rw [opd_eq]; rfl

noncomputable def aF (o : AOp) (env : PT AV) (l : Pos) : Option (AV × AObj X0) :=
  @AOp.rec (fun _ => PT AV → Pos → Option (AV × AObj X0))
    (fun e z _ l => some (.ptr l 0, .cells e z false))
    (fun e x env l => some (.ptr l 0, .cells e (cellsF (opd x env)) false))
    (fun e _ n z ps env l => bsliceF e n z ps env l)
    (fun _ l => some (.mp l, .map [] 0))
    (fun e esz b z n c env l => evA env l (.mkslice e esz b z n c))
    (fun e x env l => evA env l (.s2b e x))
    (fun kvs env l => evA env l (.lit kvs)) o env l
theorem aF_eq (o : AOp) (env : PT AV) (l : Pos) : aF o env l = evA env l o := by
  cases o <;> first | rfl | skip
  case bslice e esz n z ps => exact bsliceF_eq ..
  case box e x => show some (AV.ptr l 0, AObj.cells e (cellsF (opd x env)) false) = _; rw [cellsF_eq, opd_eq]; rfl

noncomputable def wF (o : WOp) (env : PT AV) (h : Heap X0) : R2 :=
  @WOp.rec (fun _ => PT AV → Heap X0 → R2)
    (fun n a x env h => stF h n (opd a env) (opd x env))
    (fun m k x env h => evMupd h (opd m env) (opd k env) (opd x env))
    (fun z m k env h => evW env h (.ment z m k))
    (fun m s x env h => evW env h (.mest m s x))
    (fun m k env h => evW env h (.mdel m k))
    (fun x env h => evW env h (.range x))
    (fun x env h => evW env h (.next x))
    (fun e esz b s x env h => appF h e esz b (opd s env) (opd x env))
    (fun esz d s env h => copyF h esz (opd d env) (opd s env))
    (fun esz z x env h => evW env h (.clearS esz z x))
    (fun x env h => evW env h (.clearM x))
    (fun u a n env h => evW env h (.ustr u a n)) o env h
theorem wF_eq (o : WOp) (env : PT AV) (h : Heap X0) : wF o env h = evW env h o := by
  cases o <;> first | rfl | skip
  case st n a x => show stF h n (opd a env) (opd x env) = _; rw [stF_eq, opd_eq, opd_eq]; rfl
  case mupd m k x => show evMupd h (opd m env) (opd k env) (opd x env) = _; rw [opd_eq, opd_eq, opd_eq]; rfl
  case app e esz b s x => show appF h e esz b (opd s env) (opd x env) = _; rw [appF_eq, opd_eq, opd_eq]; rfl
  case copy esz d s => show copyF h esz (opd d env) (opd s env) = _; rw [copyF_eq, opd_eq, opd_eq]; rfl

/-! ### operations -/
noncomputable def wantF (g : Option (Pos × Bool)) (env : PT AV) : Bool :=
  @Option.rec (Pos × Bool) (fun _ => PT AV → Bool) (fun _ => true) (fun g env => wanted env (some g)) g env
theorem wantF_eq (g : Option (Pos × Bool)) (env : PT AV) : wantF g env = wanted env g := by cases g <;> rfl

noncomputable def putDF (d : Option Pos) (v : AV) (env : PT AV) : PT AV :=
  @Option.rec Pos (fun _ => AV → PT AV → PT AV) (fun _ env => env) (fun p v env => putE p (some v) env) d v env
theorem putDF_eq (d : Option Pos) (v : AV) (env : PT AV) : putDF d v env = putD env d v := by
  cases d with
  | none => rfl
  | some p => exact putE_eq ..

noncomputable def withH (o : Option AV) (h : Heap X0) : R2 := @Option.rec AV (fun _ => R2) none (fun v => some (v, h)) o
noncomputable def made (o : Option (AV × AObj X0)) (h : Heap X0) : R2 := @Option.rec (AV × AObj X0) (fun _ => R2) none (fun p => @Prod.rec AV (AObj X0) (fun _ => R2) (fun v o => some (v, addF h o)) p) o

noncomputable def opF (o : IOp) (call : CallF X0) (env : PT AV) (h : Heap X0) : R2 :=
  @IOp.rec (fun _ => CallF X0 → PT AV → Heap X0 → R2)
    (fun o _ env h => withH (pF o env) h)
    (fun o _ env h => withH (rF o env h) h)
    (fun o _ env h => made (aF o env h.next) h)
    (fun o _ env h => wF o env h)
    (fun m k x _ env h => evMupd h (opd m env) (opd k env) (opd x env))
    (fun f args call env h => call (.fn f) (opds args env) h)
    (fun f args call env h => evCallv call h (opd f env) (opds args env)) o call env h
theorem opF_eq (o : IOp) (call : CallF X0) (env : PT AV) (h : Heap X0) : opF o call env h = evOp call env h o := by
  cases o
  case p o =>
    show withH (pF o env) h = _
    rw [pF_eq]
    simp only [evOp]
    cases evP env o <;> rfl
  case r o =>
    show withH (rF o env h) h = _
    rw [rF_eq]
    simp only [evOp]
    cases evR env h o <;> rfl
  case a o =>
    show made (aF o env h.next) h = _
    rw [aF_eq]
    simp only [evOp]
    cases evA env h.next o with
    | none => rfl
    | some p => obtain ⟨v, ob⟩ := p; show some (v, addF h ob) = _; rw [addF_eq]
  case w o => exact wF_eq ..
  case ins m k x => show evMupd h (opd m env) (opd k env) (opd x env) = _; rw [opd_eq, opd_eq, opd_eq]; rfl
  case call f args => show call (.fn f) (opds args env) h = _; rw [opds_eq]; rfl
  case callv f args => show evCallv call h (opd f env) (opds args env) = _; rw [opd_eq, opds_eq]; rfl

abbrev R1 := Option (PT AV × Heap X0)

noncomputable def operF (o : IOper) (call : CallF X0) (env : PT AV) (h : Heap X0) : R1 :=
  @IOper.rec (fun _ => CallF X0 → PT AV → Heap X0 → R1) (fun dst op g call env h =>
    @Bool.rec (fun _ => R1) (some (putDF dst (.tup []) env, h))
      (@Option.rec (AV × Heap X0) (fun _ => R1) none (fun p => @Prod.rec AV (Heap X0) (fun _ => R1) (fun v h => some (putDF dst v env, h)) p) (opF op call env h)) (wantF g env)) o call env h
theorem operF_eq (o : IOper) (call : CallF X0) (env : PT AV) (h : Heap X0) : operF o call env h = evOper call env h o := by
  obtain ⟨dst, op, g⟩ := o
  show @Bool.rec (fun _ => R1) (some (putDF dst (.tup []) env, h)) (@Option.rec (AV × Heap X0) (fun _ => R1) none (fun p => @Prod.rec AV (Heap X0) (fun _ => R1) (fun v h => some (putDF dst v env, h)) p) (opF op call env h)) (wantF g env) = _
  rw [wantF_eq, opF_eq]
  simp only [evOper]
  cases wanted env g with
  | false => show some (putDF dst (.tup []) env, h) = _; rw [putDF_eq]; rfl
  | true =>
    simp only [cond_true]
    cases evOp call env h op with
    | none => rfl
    | some p => obtain ⟨v, h'⟩ := p; show some (putDF dst v env, h') = _; rw [putDF_eq]

noncomputable def opsF (l : List IOper) (call : CallF X0) (env : PT AV) (h : Heap X0) : R1 :=
  @List.rec IOper (fun _ => CallF X0 → PT AV → Heap X0 → R1) (fun _ env h => some (env, h))
    (fun o _ ih call env h => @Option.rec (PT AV × Heap X0) (fun _ => R1) none (fun p => @Prod.rec (PT AV) (Heap X0) (fun _ => R1) (fun env h => ih call env h) p) (operF o call env h)) l call env h
theorem opsF_eq : ∀ (l : List IOper) (call : CallF X0) (env : PT AV) (h : Heap X0), opsF l call env h = evOps call l env h
  | [], _, _, _ => rfl
  | o :: l, call, env, h => by
    show @Option.rec (PT AV × Heap X0) (fun _ => R1) none (fun p => @Prod.rec (PT AV) (Heap X0) (fun _ => R1) (fun env h => opsF l call env h) p) (operF o call env h) = _
    rw [operF_eq]
    simp only [evOps]
    cases evOper call env h o with
    | none => rfl
    | some p => obtain ⟨env', h'⟩ := p; exact opsF_eq l call env' h'

end Go.Ev.F
