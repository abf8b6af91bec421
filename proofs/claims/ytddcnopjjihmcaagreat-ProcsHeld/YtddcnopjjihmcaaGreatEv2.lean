import Derived.Test.YtddcnopjjihmcaaGreatEv1
set_option linter.unusedSectionVars false
set_option linter.unusedVariables false
set_option linter.unusedSimpArgs false
namespace Go.Ev

/-! ### the compiler: from the model's code to the IR -/
mutual
def cVal : Value → Option AV
  | .bool b => some (.bool b)
  | .int k n => some (.int k n)
  | .string s => some (.str (s.data.toList.map (·.toNat)))
  | .pointer none => some .nilp
  | .slice none 0 0 => some .nils
  | .map none => some .nilm
  | .nilFunc => some .nilf
  | .nilIface => some .nili
  | .agg ⟨cs⟩ => match cVals cs with
    | some l => some (.agg l)
    | none => none
  | _ => none
def cVals : List Value → Option (List AV)
  | [] => some []
  | v :: vs => match cVal v, cVals vs with
    | some a, some l => some (a :: l)
    | _, _ => none
end

def cOpd : Operand → Option Opd
  | .tmp t => some (.t (Pos.of t))
  | .const v => (cVal v).map .c
  | .func f => some (.c (.fn (Pos.of f) [] []))
  | .global _ => none

def cOpds : List Operand → Option (List Opd)
  | [] => some []
  | x :: xs => match cOpd x, cOpds xs with
    | some a, some l => some (a :: l)
    | _, _ => none

def cOpdO : Option Operand → Option (Option Opd)
  | none => some none
  | some x => (cOpd x).map some

def szOf (P : Program) (t : TypeId) : Option Nat := (P.info? t).map (·.size)
def zeroOf (P : Program) (t : TypeId) : Option AV := ((P.info? t).bind (·.zero)).bind cVal
def aggT (P : Program) (t : TypeId) : Option Bool :=
  (P.underlying t).map fun | .struct _ => true | .array _ _ => true | _ => false

/-- the parts of a struct or an array: where they go -/
def cParts (place : Nat → Option (Nat × Nat)) : List (Nat × Operand) → Option (List (Nat × Nat × Opd))
  | [] => some []
  | (i, x) :: rest => match place i, cOpd x, cParts place rest with
    | some (o, n + 1), some x, some l => some ((o, n + 1, x) :: l)
    | _, _, _ => none

/-- the kinds of a struct's cells, if its fields stand one behind the other and can be compared cell by cell -/
def eqFs (P : Program) (ok : TypeId → Option (List LK)) : Nat → List Field → Option (List LK)
  | _, [] => some []
  | off, f :: fs => match ok f.type with
    | some ks => bif Nat.beq f.offset off && f.name != "_" then (match eqFs P ok (off + ks.length) fs with
      | some l => some (ks ++ l)
      | none => none) else none
    | none => none

/-- the kinds of a type's cells, if its values can be compared cell by cell -/
def eqKs (P : Program) : Nat → TypeId → Option (List LK)
  | 0, _ => none
  | d + 1, t => match P.underlying t, szOf P t with
    | some .bool, some 1 => some [.b]
    | some (.int _), some 1 => some [.i]
    | some .string, some 1 => some [.s]
    | some (.struct fs), some n => bif P.stoodInHeld t then none else (match eqFs P (eqKs P d) 0 fs.toList with
      | some ks => bif Nat.beq ks.length n then some ks else none
      | none => none)
    | _, _ => none

def cEq (P : Program) (neg : Bool) (op : BinOp) (t : TypeId) (x y : Opd) : POp :=
  match P.underlying t with
  | some (.int _) => .bin op x y
  | some .string => .bin op x y
  | some .bool => .eqv neg x y
  | some (.pointer e) => match szOf P e with
    | some (_ + 1) => .eqp neg x y
    | _ => .bad
  | some (.slice _) => .eqs neg x y
  | some (.map _ _) => .eqm neg x y
  | some (.func _ _ _) => .eqf neg x y
  | some (.struct _) => match eqKs P 20 t with
    | some ks => bif P.eqGuardType P.depth t then .bad else .eqa neg ks x y
    | none => .bad
  | _ => .bad

def cConv (P : Program) (s d : TypeId) (x : Opd) : IOp :=
  match P.underlying s, P.underlying d with
  | some (.int _), some (.int k) => .p (.conv k x)
  | some .string, some .string => .p (.mvS x)
  | some .string, some (.slice e) => match P.underlying e, szOf P e with
    | some (.int .u8), some 1 => .a (.s2b e x)
    | _, _ => .p .bad
  | some (.slice e), some .string => match P.underlying e with
    | some (.int .u8) => .r (.b2s x)
    | _ => .p .bad
  | some (.pointer e), some .unsafePointer => match szOf P e with
    | some (_ + 1) => .r (.p2u x)
    | _ => .p .bad
  | some .unsafePointer, some (.pointer e) => match szOf P e with
    | some (n + 1) => .r (.u2p e (n + 1) x)
    | _ => .p .bad
  | _, _ => .p .bad

def mapT (P : Program) (t : TypeId) : Option TypeId :=
  match P.underlying t with
  | some (.map k e) => match P.underlying k with
    | some (.int .i64) => some e
    | _ => none
  | _ => none

def sliceT (P : Program) (t : TypeId) : Option (TypeId × Nat × Nat × List AV) :=
  match P.underlying t with
  | some (.slice e) => match P.info? e, zeroOf P e with
    | some i, some z => bif Nat.beq z.cells.length i.size then some (e, i.size, i.bytes, z.cells) else none
    | _, _ => none
  | _ => none

def cBuiltin (P : Program) (b : Builtin) (ts : List TypeId) (args : List Opd) : IOp :=
  match b, ts, args with
  | .len, t :: _, [x] => match P.underlying t with
    | some .string => .p (.lenStr x)
    | some (.slice _) => .p (.lenSl x)
    | some (.array n _) => .p (.lenArr n)
    | some (.map _ _) => .r (.lenM x)
    | some (.pointer a) => match P.underlying a with
      | some (.array n _) => .p (.lenArr n)
      | _ => .p .bad
    | _ => .p .bad
  | .cap, t :: _, [x] => match P.underlying t with
    | some (.slice _) => .p (.capSl x)
    | _ => .p .bad
  | .append, t :: u :: _, [s, x] => match sliceT P t, P.underlying u with
    | some (e, n + 1, b + 1, _), some (.slice _) => .w (.app e (n + 1) (b + 1) s x)
    | some (e, n + 1, b + 1, _), some .string => .w (.app e (n + 1) (b + 1) s x)
    | _, _ => .p .bad
  | .copy, t :: _, [d, s] => match sliceT P t with
    | some (_, n + 1, _, _) => .w (.copy (n + 1) d s)
    | _ => .p .bad
  | .clear, t :: _, [x] => match P.underlying t with
    | some (.map _ _) => .w (.clearM x)
    | some (.slice _) => match sliceT P t with
      | some (_, n + 1, _, z) => .w (.clearS (n + 1) z x)
      | _ => .p .bad
    | _ => .p .bad
  | .delete, t :: _, [m, k] => match mapT P t with
    | some _ => .w (.mdel m k)
    | none => .p .bad
  | .min, _, [x, y] => .p (.mn x y)
  | .max, _, [x, y] => .p (.mx x y)
  | .unsafeSliceData, _, [x] => .r (.sdata x)
  | .unsafeString, t :: _, [a, n] => match P.underlying t with
    | some (.pointer e) => match szOf P e with
      | some 1 => .w (.ustr e a n)
      | _ => .p .bad
    | _ => .p .bad
  | _, _, _ => .p .bad

def orBad : Option IOp → IOp
  | some o => o
  | none => .p .bad

def cOpO (P : Program) : Op → Option IOp
  | .move x => do pure (.p (.mv (← cOpd x)))
  | .assign x => do pure (.p (.mv (← cOpd x)))
  | .pick c a b => do pure (.p (.pick (← cOpd c) (← cOpd a) (← cOpd b)))
  | .alloc e => do pure (.a (.alloc e (← zeroOf P e).cells))
  | .box e x => do pure (.a (.box e (← cOpd x)))
  | .build t ps => match P.underlying t with
    | some (.struct fs) => do
      let z ← zeroOf P t
      let places ← fs.toList.mapM fun f => (P.info? f.type).map fun i => (f.offset, i.size)
      let l ← cParts (fun i => places.toArray[i]?) ps.toList
      pure (.p (.build z.cells l))
    | some (.array _ e) => do
      let z ← zeroOf P t
      let n ← szOf P e
      let l ← cParts (fun i => some (i * n, n)) ps.toList
      pure (.p (.build z.cells l))
    | _ => none
  | .buildSlice t n ps => match sliceT P t with
    | some (e, sz + 1, _, z) => do
      if n * (sz + 1) > 65536 then none
      let l ← cParts (fun i => some (i * (sz + 1), sz + 1)) ps.toList
      pure (.a (.bslice e (sz + 1) n (rep n z) l))
    | _ => none
  | .insert t m k x => match mapT P t with
    | some _ => do pure (.ins (← cOpd m) (← cOpd k) (← cOpd x))
    | none => none
  | .load t a => match aggT P t, szOf P t with
    | some true, some n => do pure (.r (.ldA n (← cOpd a)))
    | some false, some 1 => do pure (.r (.ldS (← cOpd a)))
    | _, _ => none
  | .store t a x => do pure (.w (.st (← szOf P t) (← cOpd a) (← cOpd x)))
  | .nilCheck x => do pure (.p (.nilck (← cOpd x)))
  | .binOp .eql t x y _ => do pure (.p (cEq P false .eql t (← cOpd x) (← cOpd y)))
  | .binOp .neq t x y _ => do pure (.p (cEq P true .neq t (← cOpd x) (← cOpd y)))
  | .binOp op _ x y _ => do pure (.p (.bin op (← cOpd x) (← cOpd y)))
  | .unOp .not _ x => do pure (.p (.not (← cOpd x)))
  | .unOp .neg _ x => do pure (.p (.neg (← cOpd x)))
  | .convert s d x => do pure (cConv P s d (← cOpd x))
  | .makeFunc (.func f) a b => do pure (.p (.mkfn (Pos.of f) (← cOpds a.toList) (← cOpds b.toList)))
  | .makeMap t none => match mapT P t with
    | some _ => some (.a .mkmap)
    | none => none
  | .makeSlice t n c => match sliceT P t with
    | some (e, sz + 1, b + 1, z) => do pure (.a (.mkslice e (sz + 1) (b + 1) z (← cOpd n) (← cOpd c)))
    | _ => none
  | .slice t x lo hi mx => match P.underlying t with
    | some .string => match mx with
      | none => do pure (.p (.slStr (← cOpd x) (← cOpdO lo) (← cOpdO hi)))
      | some _ => none
    | some (.slice e) => do pure (.p (.slSl (← szOf P e) (← cOpd x) (← cOpdO lo) (← cOpdO hi) (← cOpdO mx)))
    | some (.array n e) => do pure (.p (.slArr n (← szOf P e) (← cOpd x) (← cOpdO lo) (← cOpdO hi) (← cOpdO mx)))
    | _ => none
  | .fieldAddr s x f => match P.underlying s with
    | some (.struct fs) => match fs[f]? with
      | some f => match szOf P f.type with
        | some (_ + 1) => do pure (.p (.faddr f.offset (← cOpd x)))
        | _ => none
      | none => none
    | _ => none
  | .field s x f => match P.underlying s with
    | some (.struct fs) => match fs[f]? with
      | some f => match aggT P f.type, szOf P f.type with
        | some true, some n => do pure (.p (.fieldA f.offset n (← cOpd x)))
        | some false, some 1 => do pure (.p (.fieldS f.offset (← cOpd x)))
        | _, _ => none
      | none => none
    | _ => none
  | .indexAddr t x i => match P.underlying t with
    | some (.slice e) => do pure (.p (.iaddrS (← szOf P e) (← cOpd x) (← cOpd i)))
    | some (.array n e) => do pure (.p (.iaddrA n (← szOf P e) (← cOpd x) (← cOpd i)))
    | _ => none
  | .index t x i => match P.underlying t with
    | some .string => do pure (.p (.idxStr (← cOpd x) (← cOpd i)))
    | some (.array n e) => match aggT P e, szOf P e with
      | some true, some sz => do pure (.p (.idxA n sz true (← cOpd x) (← cOpd i)))
      | some false, some 1 => do pure (.p (.idxA n 1 false (← cOpd x) (← cOpd i)))
      | _, _ => none
    | _ => none
  | .lookup t m k ok => match mapT P t with
    | some e => do pure (.r (.look (← zeroOf P e) (← cOpd m) (← cOpd k) ok))
    | none => none
  | .mapUpdate t m k x => match mapT P t with
    | some _ => do pure (.w (.mupd (← cOpd m) (← cOpd k) (← cOpd x)))
    | none => none
  | .mapEntry t m k => match mapT P t with
    | some e => do pure (.w (.ment (← zeroOf P e) (← cOpd m) (← cOpd k)))
    | none => none
  | .entryStore _ m s x => do pure (.w (.mest (← cOpd m) (← cOpd s) (← cOpd x)))
  | .range t x => match mapT P t with
    | some _ => do pure (.w (.range (← cOpd x)))
    | none => none
  | .next x false => do pure (.w (.next (← cOpd x)))
  | .entry x => do pure (.r (.entry (← cOpd x)))
  | .extract x i => do pure (.p (.ext (← cOpd x) i))
  | .call { callee := .value (.func f), args, .. } => do pure (.call (Pos.of f) (← cOpds args.toList))
  | .call { callee := .value x, args, .. } => do pure (.callv (← cOpd x) (← cOpds args.toList))
  | .call { callee := .builtin b, args, argTypes } => do pure (cBuiltin P b argTypes.toList (← cOpds args.toList))
  | _ => none

def cOp (P : Program) (o : Op) : IOp := orBad (cOpO P o)

def cGuard (ops : Array Oper) : Option (Nat × Bool) → Option (Option (Pos × Bool))
  | none => some none
  | some (j, w) => match (ops[j]?).bind (·.dst) with
    | some t => some (some (Pos.of t, w))
    | none => none

def dstOk (n : Nat) : Option Tmp → Bool
  | none => true
  | some t => Nat.blt t n

def cOper (P : Program) (n : Nat) (ops : Array Oper) (o : Oper) : Option IOper :=
  match cGuard ops o.guard with
  | some g => bif dstOk n o.dst then some ⟨o.dst.map Pos.of, cOp P o.op, g⟩ else none
  | none => none

def cOpers (P : Program) (n : Nat) (ops : Array Oper) : List Oper → Option (List IOper)
  | [] => some []
  | o :: l => match cOper P n ops o, cOpers P n ops l with
    | some o, some l => some (o :: l)
    | _, _ => none

/-! #### a region that draws its order -/
def force {α : Type} (n : Nat) (k : Nat → α) : α := match n with | 0 => k 0 | m + 1 => k (m + 1)

/-- what binds an operation -/
def edges (o : Oper) : List Nat := (o.after.toList.filter (Region.binds .any)).map (·.on)

def bmOf (T : PT Nat) (i : Nat) : Nat := match T.get (Pos.of i) with
  | some m => m
  | none => 0

def orEdges (T : PT Nat) : List Nat → Nat
  | [] => 0
  | e :: l => 2 ^ e ||| bmOf T e ||| orEdges T l

/-- who stands ahead of whom -/
def befT : List Oper → Nat → PT Nat → PT Nat
  | [], _, T => T
  | o :: l, i, T => force (orEdges T (edges o)) fun m => befT l (i + 1) (T.put (Pos.of i) (some m))

def maskOf : List Nat → Nat
  | [] => 0
  | i :: l => 2 ^ i ||| maskOf l

def subM (m a : Nat) : Bool := Nat.beq (m &&& a) m

def Opd.tmps : Opd → List Pos
  | .t p => [p]
  | .c _ => []

def opdsT : List Opd → List Pos
  | [] => []
  | x :: l => x.tmps ++ opdsT l

def optT : Option Opd → List Pos
  | none => []
  | some x => x.tmps

def partsT : List (Nat × Nat × Opd) → List Pos
  | [] => []
  | (_, _, x) :: l => x.tmps ++ partsT l

def POp.tmps : POp → List Pos
  | .bad => []
  | .mv x | .mvS x | .not x | .neg x | .conv _ x | .nilck x | .faddr _ x | .fieldS _ x | .fieldA _ _ x | .ext x _ | .lenStr x | .lenSl x | .capSl x => x.tmps
  | .pick c a b => c.tmps ++ (a.tmps ++ b.tmps)
  | .build _ ps => partsT ps
  | .bin _ x y | .eqv _ x y | .eqp _ x y | .eqs _ x y | .eqm _ x y | .eqf _ x y | .eqa _ _ x y | .mn x y | .mx x y => x.tmps ++ y.tmps
  | .mkfn _ a b => opdsT a ++ opdsT b
  | .slStr x lo hi => x.tmps ++ (optT lo ++ optT hi)
  | .slSl _ x lo hi m => x.tmps ++ (optT lo ++ (optT hi ++ optT m))
  | .slArr _ _ x lo hi m => x.tmps ++ (optT lo ++ (optT hi ++ optT m))
  | .iaddrS _ x i => x.tmps ++ i.tmps
  | .iaddrA _ _ x i => x.tmps ++ i.tmps
  | .idxA _ _ _ x i => x.tmps ++ i.tmps
  | .idxStr x i => x.tmps ++ i.tmps
  | .lenArr _ => []

def ROp.tmps : ROp → List Pos
  | .ldS x | .ldA _ x | .lenM x | .b2s x | .entry x | .sdata x | .p2u x | .u2p _ _ x => x.tmps
  | .look _ m k _ => m.tmps ++ k.tmps

def litT : List (Opd × Opd) → List Pos
  | [] => []
  | (k, x) :: l => k.tmps ++ (x.tmps ++ litT l)

def AOp.tmps : AOp → List Pos
  | .alloc _ _ | .mkmap => []
  | .box _ x | .s2b _ x => x.tmps
  | .bslice _ _ _ _ ps => partsT ps
  | .mkslice _ _ _ _ n c => n.tmps ++ c.tmps
  | .lit kvs => litT kvs

def WOp.tmps : WOp → List Pos
  | .st _ a x => a.tmps ++ x.tmps
  | .mupd m k x => m.tmps ++ (k.tmps ++ x.tmps)
  | .ment _ m k => m.tmps ++ k.tmps
  | .mest m s x => m.tmps ++ (s.tmps ++ x.tmps)
  | .mdel m k => m.tmps ++ k.tmps
  | .range x | .next x | .clearS _ _ x | .clearM x => x.tmps
  | .app _ _ _ s x => s.tmps ++ x.tmps
  | .copy _ d s => d.tmps ++ s.tmps
  | .ustr _ a n => a.tmps ++ n.tmps

def IOp.tmps : IOp → List Pos
  | .p o => o.tmps
  | .r o => o.tmps
  | .a o => o.tmps
  | .w o => o.tmps
  | .ins m k x => m.tmps ++ (k.tmps ++ x.tmps)
  | .call _ args => opdsT args
  | .callv f args => f.tmps ++ opdsT args

def guardT : Option (Pos × Bool) → List Pos
  | none => []
  | some (p, _) => [p]

/-- who uses which temporaries -/
def DOper.uses (d : DOper) : List (Nat × Pos) :=
  match d.io.op, d.ixs with
  | .a (.lit kvs), _ :: is => (is.zip kvs).flatMap fun (i, k, x) => (k.tmps ++ x.tmps).map fun t => (i, t)
  | op, ixs => ixs.flatMap fun i => (op.tmps ++ guardT d.io.guard).map fun t => (i, t)

def effIxs : List DOper → List Nat
  | [] => []
  | d :: l => bif d.io.op.eff then d.ixs.headD 0 :: effIxs l else effIxs l

def nthN : Nat → List Nat → Option Nat
  | _, [] => none
  | 0, a :: _ => some a
  | n + 1, _ :: l => nthN n l

/-- where a read may come -/
def readOk (T : PT Nat) (E : List Nat) (d : DOper) (i : Nat) : Bool :=
  (match d.lo with
   | 0 => true
   | l + 1 => match nthN l E with
     | some e => (bmOf T i).testBit e
     | none => false) &&
  (match nthN d.hi E with
   | some e => (bmOf T e).testBit i
   | none => true)

def isR : IOp → Bool
  | .r _ => true
  | _ => false

/-- no constant that names a place -/
def Opd.clo : Opd → Bool
  | .c (.ptr _ _) => false
  | .c (.sl _ _ _ _) => false
  | .c (.mp _) => false
  | _ => true

def ROp.clo : ROp → Bool
  | .ldS x | .ldA _ x | .lenM x | .b2s x | .entry x | .sdata x | .p2u x | .u2p _ _ x => x.clo
  | .look _ m _ _ => m.clo

/-- a map literal's entries come behind its map -/
def litOk (T : PT Nat) (d : DOper) : Bool :=
  match d.io.op, d.ixs with
  | .a (.lit _), j :: is => is.all fun i => (bmOf T i).testBit j
  | .r o, _ => o.clo
  | _, _ => true

def chkItem (T : PT Nat) (W : PT (List Nat)) (E : List Nat) (seen : Nat) (d : DOper) : Bool :=
  Nat.beq (seen &&& maskOf d.ixs) 0 &&
  (!d.io.op.eff || d.ixs.all fun i => subM seen (bmOf T i)) &&
  (d.uses.all fun (i, t) => match W.get t with
    | none => true
    | some js => (js.all fun j => (bmOf T i).testBit j && seen.testBit j) || (js.all fun j => (bmOf T j).testBit i && !seen.testBit j)) &&
  (!isR d.io.op || d.ixs.all (readOk T E d)) && litOk T d

def chkItems (T : PT Nat) (W : PT (List Nat)) (E : List Nat) (N : Nat) : List DOper → Nat → Bool
  | [], seen => Nat.beq (seen + 1) (2 ^ N)
  | d :: l, seen => chkItem T W E seen d && force (seen ||| maskOf d.ixs) fun seen => chkItems T W E N l seen

/-- who writes which temporary -/
def mkW : List DOper → PT (List Nat) → Option (PT (List Nat))
  | [], W => some W
  | d :: l, W => match d.io.dst with
    | none => mkW l W
    | some t => match W.get t with
      | some _ => none
      | none => mkW l (W.put t (some d.ixs))

def cIns (P : Program) (ops : Array Oper) (tm : Tmp) : List Nat → Option (List (Opd × Opd))
  | [] => some []
  | i :: l => match ops[i]? with
    | some ⟨none, .insert t (.tmp m) k x, _, _, _, none⟩ => match mapT P t, Nat.beq m tm, cOpd k, cOpd x, cIns P ops tm l with
      | some _, true, some k, some x, some r => some ((k, x) :: r)
      | _, _, _, _, _ => none
    | _ => none

def nodupN : List Nat → Bool
  | [] => true
  | a :: l => !inN a l && nodupN l

/-- an item: an operation, or a map literal -/
def mkItem (P : Program) (n : Nat) (ops : Array Oper) (T : PT Nat) (effs : List Nat) : List Nat → Option DOper
  | [] => none
  | [i] => match (ops[i]?).bind (cOper P n ops) with
    | some ⟨_, .ins _ _ _, _⟩ => none
    | some o => some ⟨[i], o, (effs.filter fun e => (bmOf T i).testBit e).length, (effs.filter fun e => !(bmOf T e).testBit i && e != i).length⟩
    | none => none
  | j :: i :: is => match ops[j]? with
    | some ⟨some tm, .makeMap t none, _, _, _, none⟩ => match mapT P t, Nat.blt tm n, cIns P ops tm (i :: is) with
      | some _, true, some kvs => bif nodupN (j :: i :: is) then some ⟨j :: i :: is, ⟨some (Pos.of tm), .a (.lit kvs), none⟩, 0, 0⟩ else none
      | _, _, _ => none
    | _ => none

def mkItems (P : Program) (n : Nat) (ops : Array Oper) (T : PT Nat) (effs : List Nat) : List (List Nat) → Option (List DOper)
  | [] => some []
  | g :: l => match mkItem P n ops T effs g, mkItems P n ops T effs l with
    | some d, some r => some (d :: r)
    | _, _ => none

/-- the order chosen: ahead of each effect what must come ahead of it, and no more -/
def order (T : PT Nat) (effs : List Nat) (n : Nat) : List Nat :=
  let (done, acc) := effs.foldl (init := ((0 : Nat), ([] : List Nat))) fun (done, acc) e =>
    let ps := (List.range n).filter fun i => (bmOf T e).testBit i && !done.testBit i
    let done := ps.foldl (fun d i => d ||| 2 ^ i) done
    (done ||| 2 ^ e, acc ++ ps ++ (if done.testBit e then [] else [e]))
  acc ++ (List.range n).filter fun i => !done.testBit i

def isEff (P : Program) (ops : Array Oper) (i : Nat) : Bool := (ops[i]?).any fun o => (cOp P o.op).eff

def insMap (ops : Array Oper) (i : Nat) : Option Tmp := match ops[i]? with
  | some ⟨_, .insert _ (.tmp m) _ _, _, _, _, _⟩ => some m
  | _ => none

/-- the groups: a map literal with its entries at the place of its last -/
def groups (ops : Array Oper) : List Nat → List (List Nat)
  | [] => []
  | i :: l =>
    let tm := match insMap ops i with
      | some m => some m
      | none => match ops[i]? with
        | some ⟨some t, .makeMap _ none, _, _, _, _⟩ => bif (List.range ops.size).any (fun k => insMap ops k == some t) then some t else none
        | _ => none
    match tm with
    | none => [i] :: groups ops l
    | some m =>
      bif l.any (fun k => insMap ops k == some m) then groups ops l
      else ((List.range ops.size).filter (fun k => insMap ops k != some m && ((ops[k]?).bind (·.dst)) == some m) ++ (List.range ops.size).filter (fun k => insMap ops k == some m)) :: groups ops l

def edgesOk : List Oper → Nat → Bool
  | [], _ => true
  | o :: l, i => (edges o).all (Nat.blt · i) && edgesOk l (i + 1)

def cReg (P : Program) (n : Nat) (ops : Array Oper) : Option (List DOper) :=
  let T := befT ops.toList 0 .lf
  let effs := (List.range ops.size).filter (isEff P ops)
  match mkItems P n ops T effs (groups ops (order T effs ops.size)) with
  | some l => match mkW l .lf with
    | some W => bif edgesOk ops.toList 0 && chkItems T W (effIxs l) ops.size l 0 then some l else none
    | none => none
  | none => none

def cCode (P : Program) (n : Nat) : Code → ICode
  | .skip => .skip
  | .label _ => .skip
  | .region _ ops false => match cOpers P n ops ops.toList with
    | some l => .ops l
    | none => .bad
  | .region _ ops true => match cReg P n ops with
    | some l => .reg l
    | none => .bad
  | .seq a b => .seq (cCode P n a) (cCode P n b)
  | .cond c a b => match cOpd c with
    | some c => .cond c (cCode P n a) (cCode P n b)
    | none => .bad
  | .block id c => .block id (cCode P n c)
  | .loop c => .loop (cCode P n c)
  | .rangeFunc g ps a c => match cOpd g with
    | some g => bif ps.toList.all (Nat.blt · n) then .rangef g (ps.toList.map Pos.of) (cCode P n a) (cCode P n c) else .bad
    | none => .bad
  | .exit id => .exit id
  | .ret => .ret
  | _ => .bad

def cRes (P : Program) : List ResultVar → Option (List IRes)
  | [] => some []
  | .tmp t :: l => (cRes P l).map (.t (Pos.of t) :: ·)
  | .cell a t :: l => match aggT P t, szOf P t with
    | some true, some n => (cRes P l).map (.cA (Pos.of a) n :: ·)
    | some false, some 1 => (cRes P l).map (.cS (Pos.of a) :: ·)
    | _, _ => none

def cFunc (P : Program) (f : Func) : Option IFunc :=
  match f.body, cRes P f.results.toList with
  | some c, some r => bif Nat.ble (f.params.size + f.nfree) f.ntmps then some ⟨f.params.size + f.nfree, r, cCode P f.ntmps c⟩ else none
  | _, _ => none

end Go.Ev
