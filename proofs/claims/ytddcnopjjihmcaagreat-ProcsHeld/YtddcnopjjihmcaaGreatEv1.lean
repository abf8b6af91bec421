import GoSem.Machine.Start
set_option linter.unusedSectionVars false
set_option linter.unusedVariables false
set_option linter.unusedSimpArgs false
namespace Go.Ev

/-! ### positive numbers and trees -/
inductive Pos where
  | H | O (p : Pos) | I (p : Pos)
  deriving Repr, Inhabited

def Pos.beq : Pos → Pos → Bool
  | .H, .H => true
  | .O p, .O q => Pos.beq p q
  | .I p, .I q => Pos.beq p q
  | _, _ => false

def Pos.succ : Pos → Pos
  | .H => .O .H
  | .O p => .I p
  | .I p => .O p.succ

def Pos.toNat : Pos → Nat
  | .H => 1
  | .O p => 2 * p.toNat
  | .I p => 2 * p.toNat + 1

/-- the number n + 1 -/
def Pos.of : Nat → Pos
  | 0 => .H
  | n + 1 => (Pos.of n).succ

inductive PT (α : Type) where
  | lf
  | nd (l : PT α) (o : Option α) (r : PT α)
  deriving Inhabited

def PT.get {α : Type} : PT α → Pos → Option α
  | .lf, _ => none
  | .nd _ o _, .H => o
  | .nd l _ _, .O p => l.get p
  | .nd _ _ r, .I p => r.get p

def PT.put {α : Type} : Pos → Option α → PT α → PT α
  | .H, v, .lf => .nd .lf v .lf
  | .H, v, .nd l _ r => .nd l v r
  | .O p, v, .lf => .nd (PT.put p v .lf) none .lf
  | .O p, v, .nd l o r => .nd (PT.put p v l) o r
  | .I p, v, .lf => .nd .lf none (PT.put p v .lf)
  | .I p, v, .nd l o r => .nd l o (PT.put p v r)

/-! ### values -/
inductive Cap where
  | kn (n : Nat)
  | un (k : Nat)
  deriving Repr, Inhabited

inductive AV where
  | bool (b : Bool)
  | int (k : IntKind) (n : Int)
  | str (s : List Nat)
  | nilp
  | ptr (l : Pos) (o : Nat)
  | nils
  | sl (l : Pos) (o n : Nat) (c : Cap)
  | sle
  | nilm
  | mp (l : Pos)
  | nilf
  | fn (f : Pos) (first caps : List AV)
  | yld (l : Pos)
  | nili
  | agg (cs : List AV)
  | tup (vs : List AV)
  | stp (l : Pos) (k : Int)
  | sb (k : IntKind) (j : Nat) (c : Int)
  | su (j : Nat)
  | opq (i : Nat)
  deriving Inhabited

/-- what is known of the unknown numbers: their bounds, and residues -/
class SymT where
  lo : Nat → Int
  hi : Nat → Int
  um : Nat → Nat → Option AV

def AV.cells : AV → List AV
  | .agg cs => cs
  | v => [v]

def AV.one : AV → Bool
  | .agg _ => false
  | .tup _ => false
  | _ => true

/-- the kinds of what is compared cell by cell -/
inductive LK where
  | b | i | s
  deriving Repr, Inhabited

inductive Opd where
  | t (p : Pos)
  | c (v : AV)
  deriving Inhabited

/-- pure operations -/
inductive POp where
  | bad
  | mv (x : Opd)
  | mvS (x : Opd)
  | pick (c a b : Opd)
  | build (zero : List AV) (parts : List (Nat × Nat × Opd))
  | bin (op : BinOp) (x y : Opd)
  | eqv (neg : Bool) (x y : Opd)
  | eqp (neg : Bool) (x y : Opd)
  | eqs (neg : Bool) (x y : Opd)
  | eqm (neg : Bool) (x y : Opd)
  | eqf (neg : Bool) (x y : Opd)
  | eqa (neg : Bool) (ks : List LK) (x y : Opd)
  | not (x : Opd)
  | neg (x : Opd)
  | conv (k : IntKind) (x : Opd)
  | mkfn (f : Pos) (first caps : List Opd)
  | nilck (x : Opd)
  | slStr (x : Opd) (lo hi : Option Opd)
  | slSl (esz : Nat) (x : Opd) (lo hi mx : Option Opd)
  | slArr (n esz : Nat) (x : Opd) (lo hi mx : Option Opd)
  | faddr (off : Nat) (x : Opd)
  | fieldS (off : Nat) (x : Opd)
  | fieldA (off sz : Nat) (x : Opd)
  | iaddrS (esz : Nat) (x i : Opd)
  | iaddrA (n esz : Nat) (x i : Opd)
  | idxA (n esz : Nat) (ag : Bool) (x i : Opd)
  | idxStr (x i : Opd)
  | ext (x : Opd) (i : Nat)
  | lenStr (x : Opd)
  | lenSl (x : Opd)
  | lenArr (n : Nat)
  | capSl (x : Opd)
  | mn (x y : Opd)
  | mx (x y : Opd)
  deriving Inhabited

/-- operations that read the heap -/
inductive ROp where
  | ldS (x : Opd)
  | ldA (n : Nat) (x : Opd)
  | look (zero : AV) (m k : Opd) (ok : Bool)
  | lenM (x : Opd)
  | b2s (x : Opd)
  | entry (x : Opd)
  | sdata (x : Opd)
  | p2u (x : Opd)
  | u2p (u sz : Nat) (x : Opd)
  deriving Inhabited

/-- operations that make a block -/
inductive AOp where
  | alloc (e : Nat) (zero : List AV)
  | box (e : Nat) (x : Opd)
  | bslice (e esz n : Nat) (zero : List AV) (parts : List (Nat × Nat × Opd))
  | mkmap
  | mkslice (e esz bytes : Nat) (zero : List AV) (n c : Opd)
  | s2b (e : Nat) (x : Opd)
  | lit (kvs : List (Opd × Opd))
  deriving Inhabited

/-- operations that write -/
inductive WOp where
  | st (n : Nat) (a x : Opd)
  | mupd (m k x : Opd)
  | ment (zero : AV) (m k : Opd)
  | mest (m s x : Opd)
  | mdel (m k : Opd)
  | range (x : Opd)
  | next (x : Opd)
  | app (e esz bytes : Nat) (s x : Opd)
  | copy (esz : Nat) (d s : Opd)
  | clearS (esz : Nat) (zero : List AV) (x : Opd)
  | clearM (x : Opd)
  | ustr (u : Nat) (a n : Opd)
  deriving Inhabited

inductive IOp where
  | p (o : POp)
  | r (o : ROp)
  | a (o : AOp)
  | w (o : WOp)
  | ins (m k x : Opd)
  | call (f : Pos) (args : List Opd)
  | callv (f : Opd) (args : List Opd)
  deriving Inhabited

structure IOper where
  dst : Option Pos
  op : IOp
  guard : Option (Pos × Bool)
  deriving Inhabited

/-- an item of a region that draws its order: its operation's number in the text (of a map literal: the map's, then the entries'); for a read: from how many effects on, up to how many, it may come -/
structure DOper where
  ixs : List Nat
  io : IOper
  lo : Nat
  hi : Nat
  deriving Inhabited

inductive ICode where
  | bad
  | skip
  | ops (l : List IOper)
  | reg (l : List DOper)
  | seq (a b : ICode)
  | cond (c : Opd) (a b : ICode)
  | block (id : Nat) (c : ICode)
  | loop (c : ICode)
  | rangef (g : Opd) (ps : List Pos) (asg body : ICode)
  | exit (id : Nat)
  | ret
  deriving Inhabited

inductive IRes where
  | t (p : Pos)
  | cS (p : Pos)
  | cA (p : Pos) (n : Nat)
  deriving Inhabited

structure IFunc where
  nargs : Nat
  res : List IRes
  body : ICode
  deriving Inhabited

inductive Ex where
  | nrm
  | ext (id : Nat)
  | ret
  deriving Inhabited, Repr

inductive LSt where
  | ready | busy | done
  deriving Inhabited

inductive AObj (X : Type) where
  | ext (x : X)
  | cells (e : Nat) (cs : List AV) (frz : Bool)
  | map (es : List (Int × AV × Nat)) (clock : Nat)
  | lmap (es : List (Int × AV × Option Nat)) (clock : Nat)
  | iter (m : Option Pos) (since : Nat) (seen : List Nat) (stepped : Nat)
  | loop (st : LSt) (pend : Ex) (env : PT AV) (ps : List Pos) (asg body : ICode)
  deriving Inhabited

structure Heap (X : Type) where
  next : Pos
  m : PT (AObj X)
  deriving Inhabited

/-! ### pure operations -/
variable {X : Type} [T : SymT]
abbrev Env := PT AV

def Opd.ev (env : Env) : Opd → AV
  | .t p => match env.get p with
    | some v => v
    | none => .tup []
  | .c v => v

def ieq : Int → Int → Bool
  | .ofNat a, .ofNat b => Nat.beq a b
  | .negSucc a, .negSucc b => Nat.beq a b
  | _, _ => false

def ilt : Int → Int → Bool
  | .ofNat a, .ofNat b => Nat.blt a b
  | .ofNat _, .negSucc _ => false
  | .negSucc _, .ofNat _ => true
  | .negSucc a, .negSucc b => Nat.blt b a

def wrapF (k : IntKind) (n : Int) : Int :=
  match k, n with
  | .i64, .ofNat m => bif Nat.ble m 9223372036854775807 then .ofNat m else k.wrap (.ofNat m)
  | .i64, .negSucc m => bif Nat.ble m 9223372036854775807 then .negSucc m else k.wrap (.negSucc m)
  | .u8, .ofNat m => .ofNat (m % 256)
  | .u64, .ofNat m => .ofNat (m % 18446744073709551616)
  | _, n => k.wrap n

def kbeq : IntKind → IntKind → Bool
  | .i64, .i64 => true
  | .u8, .u8 => true
  | .u64, .u64 => true
  | .i32, .i32 => true
  | .u32, .u32 => true
  | _, _ => false

def bitsI (op : BinOp) (k : IntKind) (x y : Int) : Option Int :=
  let a := BitVec.ofInt k.bits x
  let b := BitVec.ofInt k.bits y
  match op with
  | .and => some (k.wrap (a &&& b).toNat)
  | .or => some (k.wrap (a ||| b).toNat)
  | .xor => some (k.wrap (a ^^^ b).toNat)
  | .andNot => some (k.wrap (a &&& ~~~b).toNat)
  | _ => none

def binI (op : BinOp) (k : IntKind) (a : Int) (k' : IntKind) (b : Int) : Option AV :=
  match op with
  | .add => bif kbeq k k' then some (.int k (wrapF k (a + b))) else none
  | .sub => bif kbeq k k' then some (.int k (wrapF k (a - b))) else none
  | .mul => bif kbeq k k' then some (.int k (wrapF k (a * b))) else none
  | .quo => bif kbeq k k' then (bif ieq b 0 then none else some (.int k (wrapF k (a.tdiv b)))) else none
  | .rem => bif kbeq k k' then (bif ieq b 0 then none else some (.int k (a.tmod b))) else none
  | .eql => bif kbeq k k' then some (.bool (ieq a b)) else none
  | .neq => bif kbeq k k' then some (.bool (!ieq a b)) else none
  | .lss => bif kbeq k k' then some (.bool (ilt a b)) else none
  | .leq => bif kbeq k k' then some (.bool (!ilt b a)) else none
  | .gtr => bif kbeq k k' then some (.bool (ilt b a)) else none
  | .geq => bif kbeq k k' then some (.bool (!ilt a b)) else none
  | .shl => bif ilt b 0 then none else some (.int k (wrapF k (a * .ofNat (2 ^ (min b.toNat k.bits)))))
  | .shr => bif ilt b 0 then none else some (.int k (a.fdiv (.ofNat (2 ^ (min b.toNat k.bits)))))
  | op => bif kbeq k k' then (match bitsI op k a b with | some r => some (.int k r) | none => none) else none

def ile (a b : Int) : Bool := !ilt b a

def kmin : IntKind → Int
  | .i8 => -128 | .i16 => -32768 | .i32 => -2147483648 | .i64 => -9223372036854775808 | _ => 0
def kmax : IntKind → Int
  | .i8 => 127 | .i16 => 32767 | .i32 => 2147483647 | .i64 => 9223372036854775807
  | .u8 => 255 | .u16 => 65535 | .u32 => 4294967295 | .u64 => 18446744073709551615

/-- all values of a number from a to b are of the kind -/
def inK (k : IntKind) (a b : Int) : Bool := ile (kmin k) a && ile b (kmax k)

def sbAdd (k : IntKind) (j : Nat) (c : Int) : Option AV :=
  bif inK k (T.lo j + c) (T.hi j + c) then some (.sb k j c) else
  bif inK k (T.lo j + (c - 18446744073709551616)) (T.hi j + (c - 18446744073709551616)) && Nat.beq k.bits 64 then some (.sb k j (c - 18446744073709551616)) else
  bif inK k (T.lo j + (c + 18446744073709551616)) (T.hi j + (c + 18446744073709551616)) && Nat.beq k.bits 64 then some (.sb k j (c + 18446744073709551616)) else none

/-- a < b, of a number from lo to hi -/
def sbLt (j : Nat) (c b : Int) : Option Bool :=
  bif ilt (T.hi j + c) b then some true else bif ile b (T.lo j + c) then some false else none
def sbGt (j : Nat) (c b : Int) : Option Bool :=
  bif ilt b (T.lo j + c) then some true else bif ile (T.hi j + c) b then some false else none
def sbEq (j : Nat) (c b : Int) : Option Bool :=
  bif ilt (T.hi j + c) b then some false else bif ilt b (T.lo j + c) then some false else bif ieq (T.lo j + c) b && ieq (T.hi j + c) b then some true else none

def obool (n : Bool) : Option Bool → Option AV
  | some b => some (.bool (bif n then !b else b))
  | none => none

def evSbL (op : BinOp) (k : IntKind) (j : Nat) (c : Int) (k' : IntKind) (b : Int) : Option AV :=
  match op with
  | .add => bif kbeq k k' then sbAdd k j (c + b) else none
  | .sub => bif kbeq k k' then sbAdd k j (c - b) else none
  | .eql => bif kbeq k k' then obool false (sbEq j c b) else none
  | .neq => bif kbeq k k' then obool true (sbEq j c b) else none
  | .lss => bif kbeq k k' then obool false (sbLt j c b) else none
  | .geq => bif kbeq k k' then obool true (sbLt j c b) else none
  | .gtr => bif kbeq k k' then obool false (sbGt j c b) else none
  | .leq => bif kbeq k k' then obool true (sbGt j c b) else none
  | .or => bif kbeq k k' && ieq b 0 && inK k (T.lo j + c) (T.hi j + c) then some (.sb k j c) else none
  | .shl => bif ieq b 0 && inK k (T.lo j + c) (T.hi j + c) then some (.sb k j c) else none
  | .shr => bif ilt b 0 then none else bif ieq b 0 then some (.sb k j c) else
    bif ile 0 (T.lo j + c) && ilt (T.hi j + c) (.ofNat (2 ^ (min b.toNat k.bits))) then some (.int k 0) else none
  | _ => none

def evSbR (op : BinOp) (k : IntKind) (a : Int) (k' : IntKind) (j : Nat) (c : Int) : Option AV :=
  match op with
  | .add => bif kbeq k k' then sbAdd k j (c + a) else none
  | .eql => bif kbeq k k' then obool false (sbEq j c a) else none
  | .neq => bif kbeq k k' then obool true (sbEq j c a) else none
  | .lss => bif kbeq k k' then obool false (sbGt j c a) else none
  | .geq => bif kbeq k k' then obool true (sbGt j c a) else none
  | .gtr => bif kbeq k k' then obool false (sbLt j c a) else none
  | .leq => bif kbeq k k' then obool true (sbLt j c a) else none
  | .or => bif kbeq k k' && ieq a 0 && inK k (T.lo j + c) (T.hi j + c) then some (.sb k j c) else none
  | _ => none

def evSbB (op : BinOp) (k : IntKind) (j : Nat) (c : Int) (k' : IntKind) (j' : Nat) (c' : Int) : Option AV :=
  bif kbeq k k' && Nat.beq j j' then
    match op with
    | .eql => some (.bool (ieq c c'))
    | .neq => some (.bool (!ieq c c'))
    | .lss => some (.bool (ilt c c'))
    | .leq => some (.bool (!ilt c' c))
    | .gtr => some (.bool (ilt c' c))
    | .geq => some (.bool (!ilt c c'))
    | _ => none
  else none

/-- a byte of a text: below 256 itself, from 256 on an unknown one -/
def byteAV (b : Nat) : AV := bif Nat.blt b 256 then .int .u8 (.ofNat b) else .sb .u8 (b - 256) 0

/-- a text without unknown bytes -/
def lit : List Nat → Bool
  | [] => true
  | b :: s => Nat.blt b 256 && lit s

def leq : List Nat → List Nat → Bool
  | [], [] => true
  | a :: x, b :: y => Nat.beq a b && leq x y
  | _, _ => false

def llt : List Nat → List Nat → Bool
  | _, [] => false
  | [], _ :: _ => true
  | a :: x, b :: y => Nat.blt a b || (Nat.beq a b && llt x y)

def binS (op : BinOp) (a b : List Nat) : Option AV :=
  match op with
  | .add => bif Nat.blt (a.length + b.length) 1099511627776 then some (.str (a ++ b)) else none
  | .eql => bif leq a b then some (.bool true) else bif lit a && lit b then some (.bool false) else none
  | .neq => bif leq a b then some (.bool false) else bif lit a && lit b then some (.bool true) else none
  | .lss => bif lit a && lit b then some (.bool (llt a b)) else none
  | .leq => bif lit a && lit b then some (.bool (llt a b || leq a b)) else none
  | .gtr => bif lit a && lit b then some (.bool (!(llt a b || leq a b))) else none
  | .geq => bif lit a && lit b then some (.bool (!llt a b)) else none
  | _ => none

def evBin (op : BinOp) : AV → AV → Option AV
  | .int k a, .int k' b => binI op k a k' b
  | .str a, .str b => binS op a b
  | .sb k j c, .int k' b => evSbL op k j c k' b
  | .int k a, .sb k' j c => evSbR op k a k' j c
  | .sb k j c, .sb k' j' c' => evSbB op k j c k' j' c'
  | .su j, .int k' b => match op, k', b with
    | .rem, .u64, .ofNat m => bif Nat.beq m 0 then none else T.um j m
    | _, _, _ => none
  | _, _ => none

def bxor (n b : Bool) : Bool := bif n then !b else b

def evEqp (n : Bool) : AV → AV → Option AV
  | .nilp, .nilp => some (.bool (bxor n true))
  | .nilp, .ptr _ _ => some (.bool (bxor n false))
  | .ptr _ _, .nilp => some (.bool (bxor n false))
  | .ptr l o, .ptr l' o' => bif Pos.beq l l' then some (.bool (bxor n (Nat.beq o o'))) else none
  | _, _ => none

def evEqs (n : Bool) : AV → AV → Option AV
  | .nils, .nils => some (.bool (bxor n true))
  | .nils, .sl _ _ _ _ => some (.bool (bxor n false))
  | .nils, .sle => some (.bool (bxor n false))
  | .sl _ _ _ _, .nils => some (.bool (bxor n false))
  | .sle, .nils => some (.bool (bxor n false))
  | _, _ => none

def evEqm (n : Bool) : AV → AV → Option AV
  | .nilm, .nilm => some (.bool (bxor n true))
  | .nilm, .mp _ => some (.bool (bxor n false))
  | .mp _, .nilm => some (.bool (bxor n false))
  | _, _ => none

def evEqf (n : Bool) : AV → AV → Option AV
  | .nilf, .nilf => some (.bool (bxor n true))
  | .nilf, .fn _ _ _ => some (.bool (bxor n false))
  | .fn _ _ _, .nilf => some (.bool (bxor n false))
  | _, _ => none

def eqCells : List LK → List AV → List AV → Option Bool
  | [], [], [] => some true
  | .i :: ks, .int k a :: x, .int k' b :: y => bif kbeq k k' then (bif ieq a b then eqCells ks x y else some false) else none
  | .b :: ks, .bool a :: x, .bool b :: y => bif a == b then eqCells ks x y else some false
  | .s :: ks, .str a :: x, .str b :: y => bif leq a b then eqCells ks x y else bif lit a && lit b then some false else none
  | _, _, _ => none

def evEqa (n : Bool) (ks : List LK) : AV → AV → Option AV
  | .agg x, .agg y => bif Nat.beq x.length ks.length && Nat.beq y.length ks.length then (match eqCells ks x y with
    | some b => some (.bool (bxor n b))
    | none => none) else none
  | _, _ => none

/-- `vs` laid over `cs` from `o` on; none if they do not fit -/
def over : Nat → List AV → List AV → Option (List AV)
  | _, cs, [] => some cs
  | 0, _ :: cs, v :: vs => match over 0 cs vs with
    | some r => some (v :: r)
    | none => none
  | o + 1, c :: cs, v :: vs => match over o cs (v :: vs) with
    | some r => some (c :: r)
    | none => none
  | _, [], _ :: _ => none

def fillP (env : Env) : List AV → List (Nat × Nat × Opd) → Option (List AV)
  | cs, [] => some cs
  | cs, (o, n, x) :: rest =>
    let v := (x.ev env).cells
    bif Nat.beq v.length n then
      match over o cs v with
      | some cs => fillP env cs rest
      | none => none
    else none

/-- exactly n cells from o on -/
def cut : Nat → Nat → List AV → Option (List AV)
  | 0, 0, _ => some []
  | 0, n + 1, c :: cs => match cut 0 n cs with
    | some r => some (c :: r)
    | none => none
  | o + 1, n, _ :: cs => cut o n cs
  | _ + 1, _, [] => none
  | 0, _ + 1, [] => none

def nth : Nat → List AV → Option AV
  | _, [] => none
  | 0, c :: _ => some c
  | n + 1, _ :: cs => nth n cs

/-- a bound of a slice expression -/
def bnd (x : AV) (y : Nat) : Option Nat :=
  match x with
  | .int _ (.ofNat i) => bif Nat.ble i y then some i else none
  | _ => none

def bndO (env : Env) (x : Option Opd) (y d : Nat) : Option Nat :=
  match x with
  | none => some d
  | some x => bnd (x.ev env) y

def Cap.least : Cap → Nat → Nat
  | .kn c, _ => c
  | .un _, n => n

/-- a slice of a row at l+o, lo ≤ hi within the capacity -/
def mkSl (esz : Nat) (l : Pos) (o lo hi n : Nat) (c : Cap) (mx : Option Nat) : AV :=
  match mx with
  | some m => bif Nat.beq m lo then .sl l o (hi - lo) (.kn 0) else .sl l (o + lo * esz) (hi - lo) (.kn (m - lo))
  | none => match c with
    | .kn m => bif Nat.beq m lo then .sl l o (hi - lo) (.kn 0) else .sl l (o + lo * esz) (hi - lo) (.kn (m - lo))
    | .un k => bif Nat.beq lo 0 then .sl l o hi (.un k) else bif Nat.blt lo n then .sl l (o + lo * esz) (hi - lo) (.un (k + lo)) else .sle

def slRow (env : Env) (esz : Nat) (l : Pos) (o n : Nat) (c : Cap) (lo hi mx : Option Opd) : Option AV :=
  match mx with
  | some m => match hi with
    | none => none
    | some hi => match bnd (m.ev env) (c.least n) with
      | some m => match bnd (hi.ev env) m with
        | some h => match bndO env lo h 0 with
          | some l' => some (mkSl esz l o l' h n c (some m))
          | none => none
        | none => none
      | none => none
  | none => match bndO env hi (c.least n) n with
    | some h => match bndO env lo h 0 with
      | some l' => some (mkSl esz l o l' h n c none)
      | none => none
    | none => none

def slNil0 (env : Env) : Option Opd → Option Opd → Option Nat
  | some _, none => none
  | mx, _ => bndO env mx 0 0

def slNil (env : Env) (lo hi mx : Option Opd) : Option AV :=
  match slNil0 env mx hi with
  | some _ => match bndO env hi 0 0 with
    | some _ => match bndO env lo 0 0 with
      | some _ => some .nils
      | none => none
    | none => none
  | none => none

def evSlSl (env : Env) (esz : Nat) (x : AV) (lo hi mx : Option Opd) : Option AV :=
  match x with
  | .nils => slNil env lo hi mx
  | .sl l o n c => slRow env esz l o n c lo hi mx
  | _ => none

def evSlArr (env : Env) (n esz : Nat) (x : AV) (lo hi mx : Option Opd) : Option AV :=
  match x with
  | .ptr l o => slRow env esz l o n (.kn n) lo hi mx
  | _ => none

def evSlStr (env : Env) (x : AV) (lo hi : Option Opd) : Option AV :=
  match x with
  | .str s => match bndO env hi s.length s.length with
    | some h => match bndO env lo h 0 with
      | some l => some (.str ((s.drop l).take (h - l)))
      | none => none
    | none => none
  | _ => none

def evBuild (env : Env) (zero : List AV) (parts : List (Nat × Nat × Opd)) : Option AV :=
  match fillP env zero parts with
  | some cs => some (.agg cs)
  | none => none

def evPick (c a b : AV) : Option AV :=
  match c with
  | .bool true => some a
  | .bool false => some b
  | _ => none

def evNot : AV → Option AV
  | .bool b => some (.bool !b)
  | _ => none

def evNeg : AV → Option AV
  | .int k n => some (.int k (wrapF k (0 - n)))
  | _ => none

def evConv (k : IntKind) : AV → Option AV
  | .int _ n => some (.int k (wrapF k n))
  | .sb _ j c => bif inK k (T.lo j + c) (T.hi j + c) then some (.sb k j c) else bif kbeq k .u64 && ieq c 0 then some (.su j) else none
  | _ => none

def evNilck : AV → Option AV
  | .ptr l o => some (.ptr l o)
  | .fn f a b => some (.fn f a b)
  | .yld l => some (.yld l)
  | _ => none

def evFaddr (off : Nat) : AV → Option AV
  | .ptr l o => some (.ptr l (o + off))
  | _ => none

def evFieldS (off : Nat) : AV → Option AV
  | .agg cs => nth off cs
  | _ => none

def evFieldA (off sz : Nat) : AV → Option AV
  | .agg cs => match cut off sz cs with
    | some r => some (.agg r)
    | none => none
  | _ => none

/-- an index below n -/
def idx (n : Nat) : AV → Option Nat
  | .int _ (.ofNat i) => bif Nat.blt i n then some i else none
  | _ => none

def evIaddrS (esz : Nat) (x i : AV) : Option AV :=
  match x with
  | .sl l o n _ => match idx n i with
    | some i => some (.ptr l (o + i * esz))
    | none => none
  | _ => none

def evIaddrA (n esz : Nat) (x i : AV) : Option AV :=
  match x with
  | .ptr l o => match idx n i with
    | some i => some (.ptr l (o + i * esz))
    | none => none
  | _ => none

def evIdxA (n esz : Nat) (ag : Bool) (x i : AV) : Option AV :=
  match idx n i with
  | some i => bif ag then evFieldA (i * esz) esz x else evFieldS (i * esz) x
  | none => none

def nthB : Nat → List Nat → Option Nat
  | _, [] => none
  | 0, c :: _ => some c
  | n + 1, _ :: cs => nthB n cs

def evIdxStr (x i : AV) : Option AV :=
  match x, i with
  | .str s, .int _ (.ofNat i) => match nthB i s with
    | some b => some (byteAV b)
    | none => none
  | _, _ => none

def evExt (i : Nat) : AV → Option AV
  | .tup vs => nth i vs
  | _ => none

def evLenStr : AV → Option AV
  | .str s => some (.int .i64 (.ofNat s.length))
  | _ => none

def evLenSl : AV → Option AV
  | .nils => some (.int .i64 0)
  | .sle => some (.int .i64 0)
  | .sl _ _ n _ => some (.int .i64 (.ofNat n))
  | _ => none

def evCapSl : AV → Option AV
  | .nils => some (.int .i64 0)
  | .sl _ _ _ (.kn n) => some (.int .i64 (.ofNat n))
  | _ => none

def evMn : AV → AV → Option AV
  | .int k x, .int _ y => some (.int k (bif ilt y x then y else x))
  | _, _ => none

def evMx : AV → AV → Option AV
  | .int k x, .int _ y => some (.int k (bif ilt x y then y else x))
  | _, _ => none

def evEqv (n : Bool) : AV → AV → Option AV
  | .bool a, .bool b => some (.bool (bxor n (a == b)))
  | _, _ => none

def evMvS : AV → Option AV
  | .str s => some (.str s)
  | _ => none

def evP (env : Env) : POp → Option AV
  | .bad => none
  | .mv x => some (x.ev env)
  | .mvS x => evMvS (x.ev env)
  | .pick c a b => evPick (c.ev env) (a.ev env) (b.ev env)
  | .build z ps => evBuild env z ps
  | .bin op x y => evBin op (x.ev env) (y.ev env)
  | .eqv n x y => evEqv n (x.ev env) (y.ev env)
  | .eqp n x y => evEqp n (x.ev env) (y.ev env)
  | .eqs n x y => evEqs n (x.ev env) (y.ev env)
  | .eqm n x y => evEqm n (x.ev env) (y.ev env)
  | .eqf n x y => evEqf n (x.ev env) (y.ev env)
  | .eqa n ks x y => evEqa n ks (x.ev env) (y.ev env)
  | .not x => evNot (x.ev env)
  | .neg x => evNeg (x.ev env)
  | .conv k x => evConv k (x.ev env)
  | .mkfn f a b => some (.fn f (a.map (Opd.ev env)) (b.map (Opd.ev env)))
  | .nilck x => evNilck (x.ev env)
  | .slStr x lo hi => evSlStr env (x.ev env) lo hi
  | .slSl esz x lo hi mx => evSlSl env esz (x.ev env) lo hi mx
  | .slArr n esz x lo hi mx => evSlArr env n esz (x.ev env) lo hi mx
  | .faddr off x => evFaddr off (x.ev env)
  | .fieldS off x => evFieldS off (x.ev env)
  | .fieldA off sz x => evFieldA off sz (x.ev env)
  | .iaddrS esz x i => evIaddrS esz (x.ev env) (i.ev env)
  | .iaddrA n esz x i => evIaddrA n esz (x.ev env) (i.ev env)
  | .idxA n esz ag x i => evIdxA n esz ag (x.ev env) (i.ev env)
  | .idxStr x i => evIdxStr (x.ev env) (i.ev env)
  | .ext x i => evExt i (x.ev env)
  | .lenStr x => evLenStr (x.ev env)
  | .lenSl x => evLenSl (x.ev env)
  | .lenArr n => some (.int .i64 (.ofNat n))
  | .capSl x => evCapSl (x.ev env)
  | .mn x y => evMn (x.ev env) (y.ev env)
  | .mx x y => evMx (x.ev env) (y.ev env)

/-! ### reads -/
def Heap.row (h : Heap X) (l : Pos) : Option (Nat × List AV × Bool) :=
  match h.m.get l with
  | some (.cells e cs f) => some (e, cs, f)
  | _ => none

def ldS (h : Heap X) : AV → Option AV
  | .ptr l o => match h.m.get l with
    | some (.cells _ cs _) => nth o cs
    | _ => none
  | _ => none

def ldN (h : Heap X) (l : Pos) (o n : Nat) : Option (List AV) :=
  match h.m.get l with
  | some (.cells _ cs _) => cut o n cs
  | _ => none

def ldA (h : Heap X) (n : Nat) : AV → Option AV
  | .ptr l o => match ldN h l o n with
    | some cs => some (.agg cs)
    | none => none
  | _ => none

def mfind (k : Int) : List (Int × AV × Nat) → Option AV
  | [] => none
  | (k', v, _) :: es => bif ieq k k' then some v else mfind k es

def lfind (k : Int) : List (Int × AV × Option Nat) → Option (AV × Option Nat)
  | [] => none
  | (k', v, b) :: es => bif ieq k k' then some (v, b) else lfind k es

/-- a map's entry at a key -/
def Heap.findM (h : Heap X) (k : Int) : AV → Option (Option AV)
  | .nilm => some none
  | .mp l => match h.m.get l with
    | some (.map es _) => some (mfind k es)
    | some (.lmap es _) => some ((lfind k es).map (·.1))
    | _ => none
  | _ => none

def Heap.lenM (h : Heap X) : AV → Option Nat
  | .nilm => some 0
  | .mp l => match h.m.get l with
    | some (.map es _) => some es.length
    | some (.lmap es _) => some es.length
    | _ => none
  | _ => none

def evLook (h : Heap X) (zero : AV) (ok : Bool) (m k : AV) : Option AV :=
  match k with
  | .int .i64 n => match h.findM n m with
    | some (some v) => some (bif ok then .tup [v, .bool true] else v)
    | some none => some (bif ok then .tup [zero, .bool false] else zero)
    | none => none
  | _ => none

def evLenM (h : Heap X) (m : AV) : Option AV :=
  match h.lenM m with
  | some n => some (.int .i64 (.ofNat n))
  | none => none

def bytesOf : List AV → Option (List Nat)
  | [] => some []
  | .int .u8 (.ofNat b) :: cs => bif Nat.blt b 256 then (match bytesOf cs with | some r => some (b :: r) | none => none) else none
  | .sb .u8 j c :: cs => bif ieq c 0 && ile 0 (T.lo j) && ile (T.hi j) 255 then (match bytesOf cs with | some r => some ((256 + j) :: r) | none => none) else none
  | _ => none

def evB2s (h : Heap X) : AV → Option AV
  | .nils => some (.str [])
  | .sl l o n _ => match ldN h l o n with
    | some cs => match bytesOf cs with
      | some s => some (.str s)
      | none => none
    | none => none
  | _ => none

def efind (b : Nat) : List (Int × AV × Nat) → Option AV
  | [] => none
  | (k, v, b') :: es => bif Nat.beq b b' then some (.tup [.int .i64 k, v]) else efind b es

def lastN : List Nat → Option Nat
  | [] => none
  | [a] => some a
  | _ :: l => lastN l

def evEntry (h : Heap X) : AV → Option AV
  | .ptr l 0 => match h.m.get l with
    | some (.iter (some m) _ seen stepped) => match lastN seen with
      | some b => match h.m.get m with
        | some (.map es clock) => bif Nat.beq clock stepped then efind b es else none
        | _ => none
      | none => none
    | _ => none
  | _ => none

def evSdata (h : Heap X) : AV → Option AV
  | .nils => some .nilp
  | .sl l o n c => bif Nat.blt 0 (c.least n) then some (.ptr l o) else none
  | _ => none

def evP2u (h : Heap X) : AV → Option AV
  | .nilp => some .nilp
  | .ptr l o => match h.m.get l with
    | some (.cells _ cs _) => bif Nat.blt o cs.length then some (.ptr l o) else none
    | _ => none
  | _ => none

def evU2p (h : Heap X) (u sz : Nat) : AV → Option AV
  | .nilp => some .nilp
  | .ptr l 0 => match h.m.get l with
    | some (.cells e cs _) => bif Nat.beq e u && Nat.ble sz cs.length then some (.ptr l 0) else none
    | _ => none
  | _ => none

def evR (env : Env) (h : Heap X) : ROp → Option AV
  | .ldS x => ldS h (x.ev env)
  | .ldA n x => ldA h n (x.ev env)
  | .look z m k ok => evLook h z ok (m.ev env) (k.ev env)
  | .lenM x => evLenM h (x.ev env)
  | .b2s x => evB2s h (x.ev env)
  | .entry x => evEntry h (x.ev env)
  | .sdata x => evSdata h (x.ev env)
  | .p2u x => evP2u h (x.ev env)
  | .u2p u sz x => evU2p h u sz (x.ev env)

/-! ### blocks made -/
def rep (n : Nat) (zero : List AV) : List AV :=
  match n with
  | 0 => []
  | n + 1 => zero ++ rep n zero

def evBslice (env : Env) (e n : Nat) (l : Pos) (zero : List AV) (parts : List (Nat × Nat × Opd)) : Option (AV × AObj X) :=
  match fillP env zero parts with
  | some cs => some (.sl l 0 n (.kn n), .cells e cs false)
  | none => none

def evMkslice (e bytes : Nat) (l : Pos) (zero : List AV) (n c : AV) : Option (AV × AObj X) :=
  match n, c with
  | .int .i64 (.ofNat n), .int .i64 (.ofNat c) =>
    bif Nat.ble n c && Nat.ble (c * bytes) 1048576 then some (.sl l 0 n (.kn c), .cells e (rep c zero) false) else none
  | _, _ => none

def evS2b (e : Nat) (l : Pos) : AV → Option (AV × AObj X)
  | .str s => some (.sl l 0 s.length (.un 0), .cells e (s.map byteAV) false)
  | _ => none

def ltake (env : Env) : List (Opd × Opd) → Option (List (Int × AV × Option Nat))
  | [] => some []
  | (k, x) :: l => match k.ev env, ltake env l with
    | .int .i64 n, some r => match lfind n r with
      | some _ => none
      | none => some ((n, x.ev env, none) :: r)
    | _, _ => none

def evLit (env : Env) (l : Pos) (kvs : List (Opd × Opd)) : Option (AV × AObj X) :=
  match ltake env kvs with
  | some es => some (.mp l, .lmap es es.length)
  | none => none

def evA (env : Env) (l : Pos) : AOp → Option (AV × AObj X)
  | .alloc e z => some (.ptr l 0, .cells e z false)
  | .box e x => some (.ptr l 0, .cells e (x.ev env).cells false)
  | .bslice e _ n z ps => evBslice env e n l z ps
  | .mkmap => some (.mp l, .map [] 0)
  | .mkslice e _ b z n c => evMkslice e b l z (n.ev env) (c.ev env)
  | .s2b e x => evS2b e l (x.ev env)
  | .lit kvs => evLit env l kvs

def Heap.add (h : Heap X) (o : AObj X) : Heap X := ⟨h.next.succ, h.m.put h.next (some o)⟩
def Heap.upd (h : Heap X) (l : Pos) (o : AObj X) : Heap X := ⟨h.next, h.m.put l (some o)⟩
def Heap.kill (h : Heap X) (l : Pos) : Heap X := ⟨h.next, h.m.put l none⟩

/-! ### writes -/
def allOne : List AV → Bool
  | [] => true
  | v :: vs => v.one && allOne vs

def stN (h : Heap X) (l : Pos) (o : Nat) (vs : List AV) : Option (Heap X) :=
  match h.m.get l with
  | some (.cells e cs false) => bif allOne vs then (match over o cs vs with
    | some cs => some (h.upd l (.cells e cs false))
    | none => none) else none
  | _ => none

def evSt (h : Heap X) (n : Nat) (a x : AV) : Option (AV × Heap X) :=
  match a with
  | .ptr l o => bif Nat.beq x.cells.length n then (match stN h l o x.cells with
    | some h => some (.tup [], h)
    | none => none) else none
  | _ => none

def mset (k : Int) (v : AV) : List (Int × AV × Nat) → Option (List (Int × AV × Nat))
  | [] => none
  | (k', v', b) :: es => bif ieq k k' then some ((k', v, b) :: es) else match mset k v es with
    | some es => some ((k', v', b) :: es)
    | none => none

def lset (k : Int) (v : AV) : List (Int × AV × Option Nat) → Option (List (Int × AV × Option Nat))
  | [] => none
  | (k', v', b) :: es => bif ieq k k' then some ((k', v, b) :: es) else match lset k v es with
    | some es => some ((k', v', b) :: es)
    | none => none

def evMupd (h : Heap X) (m k v : AV) : Option (AV × Heap X) :=
  match m, k with
  | .mp l, .int .i64 n => match h.m.get l with
    | some (.lmap es clock) => match lset n v es with
      | some es => some (.tup [], h.upd l (.lmap es clock))
      | none => some (.tup [], h.upd l (.lmap ((n, v, some clock) :: es) (clock + 1)))
    | some (.map es clock) => match mset n v es with
      | some es => some (.tup [], h.upd l (.map es clock))
      | none => some (.tup [], h.upd l (.map (es ++ [(n, v, clock)]) (clock + 1)))
    | _ => none
  | _, _ => none

def mborn (k : Int) : List (Int × AV × Nat) → Option (AV × Nat)
  | [] => none
  | (k', v, b) :: es => bif ieq k k' then some (v, b) else mborn k es

def stamp (l : Pos) (k : Int) : Option Nat → AV
  | some b => .int .i64 (.ofNat b)
  | none => .stp l k

def evMent (h : Heap X) (zero m k : AV) : Option (AV × Heap X) :=
  match m, k with
  | .mp l, .int .i64 n => match h.m.get l with
    | some (.lmap es clock) => match lfind n es with
      | some (v, b) => some (.tup [v, stamp l n b], h)
      | none => some (.tup [zero, .int .i64 (.ofNat clock)], h.upd l (.lmap ((n, zero, some clock) :: es) (clock + 1)))
    | some (.map es clock) => match mborn n es with
      | some (v, b) => some (.tup [v, .int .i64 (.ofNat b)], h)
      | none => some (.tup [zero, .int .i64 (.ofNat clock)], h.upd l (.map (es ++ [(n, zero, clock)]) (clock + 1)))
    | _ => none
  | _, _ => none

def msetB (b : Nat) (v : AV) : List (Int × AV × Nat) → Option (List (Int × AV × Nat))
  | [] => none
  | (k, v', b') :: es => bif Nat.beq b b' then some ((k, v, b') :: es) else match msetB b v es with
    | some es => some ((k, v', b') :: es)
    | none => none

def lsetB (b : Nat) (v : AV) : List (Int × AV × Option Nat) → Option (List (Int × AV × Option Nat))
  | [] => none
  | (k, v', some b') :: es => bif Nat.beq b b' then some ((k, v, some b') :: es) else match lsetB b v es with
    | some es => some ((k, v', some b') :: es)
    | none => none
  | e :: es => match lsetB b v es with
    | some es => some (e :: es)
    | none => none

def lsetK (k : Int) (v : AV) : List (Int × AV × Option Nat) → Option (List (Int × AV × Option Nat))
  | [] => none
  | (k', v', none) :: es => bif ieq k k' then some ((k', v, none) :: es) else match lsetK k v es with
    | some es => some ((k', v', none) :: es)
    | none => none
  | e :: es => match lsetK k v es with
    | some es => some (e :: es)
    | none => none

def evMest (h : Heap X) (m s v : AV) : Option (AV × Heap X) :=
  match m, s with
  | .mp l, .int _ (.ofNat b) => match h.m.get l with
    | some (.map es clock) => match msetB b v es with
      | some es => some (.tup [], h.upd l (.map es clock))
      | none => none
    | some (.lmap es clock) => match lsetB b v es with
      | some es => some (.tup [], h.upd l (.lmap es clock))
      | none => none
    | _ => none
  | .mp l, .stp l' k => bif Pos.beq l l' then (match h.m.get l with
    | some (.lmap es clock) => match lsetK k v es with
      | some es => some (.tup [], h.upd l (.lmap es clock))
      | none => none
    | _ => none) else none
  | _, _ => none

def mdelL (k : Int) : List (Int × AV × Nat) → List (Int × AV × Nat)
  | [] => []
  | (k', v, b) :: es => bif ieq k k' then es else (k', v, b) :: mdelL k es

def ldel (k : Int) : List (Int × AV × Option Nat) → List (Int × AV × Option Nat)
  | [] => []
  | (k', v, b) :: es => bif ieq k k' then es else (k', v, b) :: ldel k es

def evMdel (h : Heap X) (m k : AV) : Option (AV × Heap X) :=
  match m, k with
  | .nilm, .int .i64 _ => some (.tup [], h)
  | .mp l, .int .i64 n => match h.m.get l with
    | some (.lmap es clock) => some (.tup [], h.upd l (.lmap (ldel n es) clock))
    | some (.map es clock) => some (.tup [], h.upd l (.map (mdelL n es) clock))
    | _ => none
  | _, _ => none

def evRange (h : Heap X) : AV → Option (AV × Heap X)
  | .nilm => some (.ptr h.next 0, h.add (.iter none 0 [] 0))
  | .mp l => match h.m.get l with
    | some (.map _ clock) => some (.ptr h.next 0, h.add (.iter (some l) clock [] clock))
    | _ => none
  | _ => none

def inN (b : Nat) : List Nat → Bool
  | [] => false
  | a :: l => Nat.beq a b || inN b l

def unseen (seen : List Nat) : List (Int × AV × Nat) → List (Int × AV × Nat)
  | [] => []
  | (k, v, b) :: es => bif inN b seen then unseen seen es else (k, v, b) :: unseen seen es

def allNew (last : Nat) : List (Int × AV × Nat) → Bool
  | [] => true
  | (_, _, b) :: es => Nat.ble last b && allNew last es

def evNext (h : Heap X) : AV → Option (AV × Heap X)
  | .ptr l 0 => match h.m.get l with
    | some (.iter none _ _ _) => some (.tup [.bool false], h)
    | some (.iter (some m) since seen last) => match h.m.get m with
      | some (.map es clock) =>
        bif !seen.isEmpty && !es.isEmpty && allNew last es then none else
        match unseen seen es with
        | [] => some (.tup [.bool false], h)
        | [(k, v, b)] => bif Nat.blt b since then some (.tup [.bool true, .int .i64 k, v], h.upd l (.iter (some m) since (seen ++ [b]) clock)) else none
        | _ => none
      | _ => none
    | _ => none
  | _ => none

/-- the cells of what is appended -/
def srcOf (h : Heap X) (esz : Nat) : AV → Option (Nat × List AV)
  | .nils => some (0, [])
  | .sle => some (0, [])
  | .sl l o n _ => match ldN h l o (n * esz) with
    | some cs => some (n, cs)
    | none => none
  | .str s => bif Nat.beq esz 1 then some (s.length, s.map byteAV) else none
  | _ => none

def evApp (h : Heap X) (e esz bytes : Nat) (s x : AV) : Option (AV × Heap X) :=
  match srcOf h esz x with
  | none => none
  | some (n, new) =>
    match s with
    | .nils => bif Nat.beq n 0 then some (.nils, h) else
      bif Nat.ble (n * bytes) 1048576 && allOne new then some (.sl h.next 0 n (.un 0), h.add (.cells e new false)) else none
    | .sl l o len (.kn c) =>
      bif Nat.ble (len + n) c then
        (bif Nat.beq n 0 then some (.sl l o len (.kn c), h) else
        match stN h l (o + len * esz) new with
        | some h => some (.sl l o (len + n) (.kn c), h)
        | none => none)
      else bif Nat.ble ((len + n) * bytes) 1048576 && allOne new then
        (match ldN h l o (len * esz) with
        | some old => some (.sl h.next 0 (len + n) (.un 0), h.add (.cells e (old ++ new) false))
        | none => none)
      else none
    | .sl l o len (.un k) =>
      bif Nat.beq n 0 then some (.sl l o len (.un k), h) else
      bif Nat.ble ((len + n) * bytes) 1048576 && allOne new && Nat.beq o (k * esz) then
        (match h.m.get l with
        | some (.cells e' cs false) => bif Nat.beq e e' then (match cut o (len * esz) cs with
          | some old => some (.sl h.next 0 (len + n) (.un 0), (h.kill l).add (.cells e (old ++ new) false))
          | none => none) else none
        | _ => none)
      else none
    | _ => none

def evCopy (h : Heap X) (esz : Nat) (d s : AV) : Option (AV × Heap X) :=
  match srcOf h esz s with
  | none => none
  | some (n, new) =>
    match d with
    | .nils => some (.int .i64 0, h)
    | .sle => some (.int .i64 0, h)
    | .sl l o dn _ =>
      let m := bif Nat.ble n dn then n else dn
      (match stN h l o (new.take (m * esz)) with
      | some h => some (.int .i64 (.ofNat m), h)
      | none => none)
    | _ => none

def evClearS (h : Heap X) (esz : Nat) (zero : List AV) : AV → Option (AV × Heap X)
  | .nils => some (.tup [], h)
  | .sle => some (.tup [], h)
  | .sl l o n _ => bif Nat.beq n 0 then some (.tup [], h) else match stN h l o (rep n zero) with
    | some h => some (.tup [], h)
    | none => none
  | _ => none

def evClearM (h : Heap X) : AV → Option (AV × Heap X)
  | .nilm => some (.tup [], h)
  | .mp l => match h.m.get l with
    | some (.map _ clock) => some (.tup [], h.upd l (.map [] clock))
    | some (.lmap _ clock) => some (.tup [], h.upd l (.lmap [] clock))
    | _ => none
  | _ => none

/-- unsafe.String: the bytes, and the block is written no more -/
def evUstr (h : Heap X) (u : Nat) (a n : AV) : Option (AV × Heap X) :=
  match a, n with
  | .nilp, .int .i64 (.ofNat 0) => some (.str [], h)
  | .ptr l o, .int .i64 (.ofNat n) => bif Nat.beq n 0 then some (.str [], h) else match h.m.get l with
    | some (.cells e cs _) => bif Nat.beq e u && Nat.ble n 1048576 then (match cut o n cs with
      | some c => match bytesOf c with
        | some s => some (.str s, h.upd l (.cells e cs true))
        | none => none
      | none => none) else none
    | _ => none
  | _, _ => none

def evW (env : Env) (h : Heap X) : WOp → Option (AV × Heap X)
  | .st n a x => evSt h n (a.ev env) (x.ev env)
  | .mupd m k x => evMupd h (m.ev env) (k.ev env) (x.ev env)
  | .ment z m k => evMent h z (m.ev env) (k.ev env)
  | .mest m s x => evMest h (m.ev env) (s.ev env) (x.ev env)
  | .mdel m k => evMdel h (m.ev env) (k.ev env)
  | .range x => evRange h (x.ev env)
  | .next x => evNext h (x.ev env)
  | .app e esz b s x => evApp h e esz b (s.ev env) (x.ev env)
  | .copy esz d s => evCopy h esz (d.ev env) (s.ev env)
  | .clearS esz z x => evClearS h esz z (x.ev env)
  | .clearM x => evClearM h (x.ev env)
  | .ustr u a n => evUstr h u (a.ev env) (n.ev env)

/-! ### code -/
/-- what a call comes to -/
inductive Callee where
  | fn (f : Pos)
  | it (f : Pos)
  | rnd (l : Pos)

abbrev CallF (X : Type) := Callee → List AV → Heap X → Option (AV × Heap X)

def wanted (env : Env) : Option (Pos × Bool) → Bool
  | none => true
  | some (p, w) => match env.get p with
    | some (.bool b) => b == w
    | _ => false

def putD (env : Env) (d : Option Pos) (v : AV) : Env :=
  match d with
  | some p => env.put p (some v)
  | none => env

def evCallv (call : CallF X) (h : Heap X) (f : AV) (args : List AV) : Option (AV × Heap X) :=
  match f with
  | .fn f a b => call (.fn f) (a ++ args ++ b) h
  | .yld l => call (.rnd l) args h
  | _ => none

def evOp (call : CallF X) (env : Env) (h : Heap X) : IOp → Option (AV × Heap X)
  | .p o => match evP env o with
    | some v => some (v, h)
    | none => none
  | .r o => match evR env h o with
    | some v => some (v, h)
    | none => none
  | .a o => match evA env h.next o with
    | some (v, o) => some (v, h.add o)
    | none => none
  | .w o => evW env h o
  | .ins m k x => evMupd h (m.ev env) (k.ev env) (x.ev env)
  | .call f args => call (.fn f) (args.map (Opd.ev env)) h
  | .callv f args => evCallv call h (f.ev env) (args.map (Opd.ev env))

def evOper (call : CallF X) (env : Env) (h : Heap X) (o : IOper) : Option (Env × Heap X) :=
  bif wanted env o.guard then
    match evOp call env h o.op with
    | some (v, h) => some (putD env o.dst v, h)
    | none => none
  else some (putD env o.dst (.tup []), h)

def evOps (call : CallF X) : List IOper → Env → Heap X → Option (Env × Heap X)
  | [], env, h => some (env, h)
  | o :: l, env, h => match evOper call env h o with
    | some (env, h) => evOps call l env h
    | none => none

mutual
def avEq : AV → AV → Bool
  | .bool a, .bool b => a == b
  | .int k a, .int k' b => kbeq k k' && ieq a b
  | .str a, .str b => leq a b
  | .nilp, .nilp => true
  | .ptr l o, .ptr l' o' => Pos.beq l l' && Nat.beq o o'
  | .nils, .nils => true
  | .sl l o n (.kn c), .sl l' o' n' (.kn c') => Pos.beq l l' && Nat.beq o o' && Nat.beq n n' && Nat.beq c c'
  | .sl l o n (.un c), .sl l' o' n' (.un c') => Pos.beq l l' && Nat.beq o o' && Nat.beq n n' && Nat.beq c c'
  | .sle, .sle => true
  | .nilm, .nilm => true
  | .mp l, .mp l' => Pos.beq l l'
  | .nilf, .nilf => true
  | .fn f a b, .fn f' a' b' => Pos.beq f f' && avEqs a a' && avEqs b b'
  | .yld l, .yld l' => Pos.beq l l'
  | .nili, .nili => true
  | .agg a, .agg b => avEqs a b
  | .tup a, .tup b => avEqs a b
  | .stp l k, .stp l' k' => Pos.beq l l' && ieq k k'
  | .sb k j c, .sb k' j' c' => kbeq k k' && Nat.beq j j' && ieq c c'
  | .su j, .su j' => Nat.beq j j'
  | .opq i, .opq i' => Nat.beq i i'
  | _, _ => false
def avEqs : List AV → List AV → Bool
  | [], [] => true
  | a :: x, b :: y => avEq a b && avEqs x y
  | _, _ => false
end

/-- a read under way: at every heap of its range it gives its value -/
structure Rd where
  env : Env
  op : ROp
  v : AV
  lo : Nat
  hi : Nat

def rdOk (r : Rd) : Nat → List (Heap X) → Bool
  | _, [] => true
  | k, h :: hs => (bif Nat.ble r.lo k && Nat.ble k r.hi then (match evR r.env h r.op with
    | some v => avEq r.v v
    | none => false) else true) && rdOk r (k + 1) hs

def rdsOk (hs : List (Heap X)) : List Rd → Bool
  | [] => true
  | r :: rs => rdOk r 0 hs && rdsOk hs rs

def IOp.eff : IOp → Bool
  | .w _ => true
  | .call _ _ => true
  | .callv _ _ => true
  | _ => false

/-- where a region that draws stands -/
structure DSt (X : Type) where
  env : Env
  heap : Heap X
  nm : Pos

def IOp.isA : IOp → Bool
  | .a _ => true
  | _ => false

/-- one item; a block made gets a name that was laid by for it -/
def evD (call : CallF X) (d : DOper) (s : DSt X) : Option (AV × DSt X) :=
  bif wanted s.env d.io.guard then
    match d.io.op with
    | .a q => match evA s.env s.nm q with
      | some (v, o) => match s.heap.m.get s.nm with
        | none => some (v, ⟨putD s.env d.io.dst v, s.heap.upd s.nm o, s.nm.succ.succ⟩)
        | some _ => none
      | none => none
    | .ins _ _ _ => none
    | op => match evOp call s.env s.heap op with
      | some (v, h) => some (v, ⟨putD s.env d.io.dst v, h, s.nm⟩)
      | none => none
  else some (.tup [], ⟨putD s.env d.io.dst (.tup []), s.heap, bif d.io.op.isA then s.nm.succ.succ else s.nm⟩)

/-- the items in the order chosen; the heap just ahead of each effect, and the last; the reads that may come elsewhere too -/
def evReg (call : CallF X) : List DOper → DSt X → Nat → Option (DSt X × List (Heap X) × List Rd)
  | [], s, _ => some (s, [s.heap], [])
  | d :: l, s, c => match evD call d s with
    | some (v, s') => match evReg call l s' (bif d.io.op.eff then c + 1 else c) with
      | some (f, hs, rs) => match d.io.op with
        | .r o => bif wanted s.env d.io.guard then
            (bif Nat.beq d.lo d.hi then (bif Nat.beq d.lo c then some (f, hs, rs) else none) else some (f, hs, ⟨s.env, o, v, d.lo, d.hi⟩ :: rs))
          else some (f, hs, rs)
        | o => some (f, bif o.eff then s.heap :: hs else hs, rs)
      | none => none
    | none => none

def bump : List DOper → Pos → Pos
  | [], p => p
  | d :: l, p => bump l (bif d.io.op.isA then p.succ.succ else p)

def evRegion (call : CallF X) (l : List DOper) (env : Env) (h : Heap X) : Option (Env × Heap X) :=
  match evReg call l ⟨env, ⟨bump l h.next, h.m⟩, h.next⟩ 0 with
  | some (f, hs, rs) => bif rdsOk hs rs then some (f.env, f.heap) else none
  | none => none

def iter (body : Env → Heap X → Option (Ex × Env × Heap X)) : Nat → Env → Heap X → Option (Ex × Env × Heap X)
  | 0, _, _ => none
  | n + 1, env, h => match body env h with
    | some (.nrm, env, h) => iter body n env h
    | r => r

def rounds : Nat := 100000

def zipSet : List Pos → List AV → Env → Option Env
  | [], [], env => some env
  | p :: ps, v :: vs, env => zipSet ps vs (env.put p (some v))
  | _, _, _ => none

def endF (l : Pos) (env : Env) (h : Heap X) : Option (Ex × Env × Heap X) :=
  match h.m.get l with
  | some (.loop .busy _ _ _ _ _) => none
  | some (.loop _ j _ _ _ _) => some (j, env, h.kill l)
  | _ => none

/-- the loop whose round this is lives -/
def roOk (ro : Option Pos) (h : Heap X) : Bool :=
  match ro with
  | none => true
  | some l => match h.m.get l with
    | some (.loop _ _ _ _ _ _) => true
    | _ => false

def evC (call : CallF X) (ro : Option Pos) : ICode → Env → Heap X → Option (Ex × Env × Heap X)
  | .bad, _, _ => none
  | .skip, env, h => some (.nrm, env, h)
  | .ops l, env, h => match evOps call l env h with
    | some (env, h) => some (.nrm, env, h)
    | none => none
  | .reg l, env, h => match evRegion call l env h with
    | some (env, h) => some (.nrm, env, h)
    | none => none
  | .seq a b, env, h => match evC call ro a env h with
    | some (.nrm, env, h) => evC call ro b env h
    | r => r
  | .cond c a b, env, h => match c.ev env with
    | .bool true => evC call ro a env h
    | .bool false => evC call ro b env h
    | _ => none
  | .block id c, env, h => match evC call ro c env h with
    | some (.ext i, env, h) => some (bif Nat.beq i id then .nrm else .ext i, env, h)
    | r => r
  | .loop c, env, h => iter (evC call ro c) rounds env h
  | .rangef g ps asg body, env, h => match g.ev env with
    | .fn f a b =>
      let l := h.next
      bif roOk ro h then
        match call (.it f) (a ++ [.yld l] ++ b) (h.add (.loop .ready .nrm env ps asg body)) with
        | some (_, h) => endF l env h
        | none => none
      else none
    | _ => none
  | .exit id, env, h => some (.ext id, env, h)
  | .ret, env, h => some (.ret, env, h)

def resOf (env : Env) (h : Heap X) : IRes → Option AV
  | .t p => some (Opd.ev env (.t p))
  | .cS p => ldS h (Opd.ev env (.t p))
  | .cA p n => ldA h n (Opd.ev env (.t p))

def ress (env : Env) (h : Heap X) : List IRes → Option (List AV)
  | [] => some []
  | r :: rs => match resOf env h r with
    | some v => match ress env h rs with
      | some vs => some (v :: vs)
      | none => none
    | none => none

def tupOf : List AV → AV
  | [v] => v
  | vs => .tup vs

def args0 : Pos → List AV → Env → Env
  | _, [], env => env
  | p, v :: vs, env => args0 p.succ vs (env.put p (some v))

/-- the round's end: what was left is kept, yield answers whether all is to go on -/
def endR (l : Pos) (e : Ex) (h : Heap X) : Option (AV × Heap X) :=
  match h.m.get l with
  | some (.loop _ _ env ps asg body) => match e with
    | .nrm => some (.bool true, h.upd l (.loop .ready .nrm env ps asg body))
    | e => some (.bool false, h.upd l (.loop .done e env ps asg body))
  | _ => none

def enterF (call : CallF X) (fi : IFunc) (args : List AV) (h : Heap X) : Option (AV × Heap X) :=
  match evC call none fi.body (args0 .H args .lf) h with
  | some (.ext _, _, _) => none
  | some (_, env, h) => match ress env h fi.res with
    | some vs => some (tupOf vs, h)
    | none => none
  | none => none

def roundF (call : CallF X) (l : Pos) (args : List AV) (h : Heap X) : Option (AV × Heap X) :=
  match h.m.get l with
  | some (.loop _ _ env ps asg body) => match zipSet ps args env with
    | some env' => match evC call (some l) asg env' h with
      | some (.nrm, env', h) => match h.m.get l with
        | some (.loop .ready j env ps asg body') =>
          match evC call (some l) body env' (h.upd l (.loop .busy j env ps asg body')) with
          | some (e, _, h) => endR l e h
          | none => none
        | _ => none
      | _ => none
    | none => none
  | _ => none

def step (tab : Pos → Option IFunc) (prim : Pos → Option (List AV → Heap X → Option (AV × Heap X))) (call : CallF X) : CallF X
  | .fn f, args, h => match prim f with
    | some p => p args h
    | none => match tab f with
      | some fi => bif Nat.beq args.length fi.nargs then enterF call fi args h else none
      | none => none
  | .it f, args, h => match tab f with
    | some fi => bif Nat.beq args.length fi.nargs then enterF call fi args h else none
    | none => none
  | .rnd l, args, h => roundF call l args h

def callN (tab : Pos → Option IFunc) (prim : Pos → Option (List AV → Heap X → Option (AV × Heap X))) : Nat → CallF X
  | 0 => fun _ _ _ => none
  | n + 1 => step tab prim (callN tab prim n)

end Go.Ev
