/-
  No cell of these rows narrows 'for every input' (looked for: loops, veiled, ifaces, maps, wideKeys, modest, calm, conditions, laid).
  DERIVED. THE GIVEN ROWS OF THIS SEAT. 7 by the template 'for every input the law returns true; each argument reads behind the call as it read before'; 0 by the template 'total and deterministic' (their statements: YtddcnopjjihmcaaGreatTotals.lean).
  GIVEN WITH THE SEED: the statements are not yours to turn. If you find one false, say at which input.
  Laid BY PROGRAM, IN A SANDBOX (cutbox-rows.mjs): the forced cells as the released guide's own fill.sh prints them over the translation 9aaab5797e7270da… (all of the seat's roots in one cut). By AI agents, Wed Nov 11 2026. No macro, syntax, notation, axiom, sorry.
-/
import Derived.Test.YtddcnopjjihmcaaGreatChecked
import GoSem.Claim
import GoSem.ClaimJoined
import GoSem.ClaimMapViews
import Derived.JoinedTies
import Derived.KernelRfl
namespace Go.Proofs.YtddcnopjjihmcaaGreat
/- THE CELL 'sum', in the pinned program and in every row, IS THE sha256 OF THE DUMP (.gsa) THAT YtddcnopjjihmcaaGreatProg.lean LOADS. Nothing in Lean hashes anything: it is a label: what it is worth is what the hold of that sum in a sandbox is worth. -/
noncomputable def Tryz.pinned : Pinned := { name := "ytddcnopjjihmcaagreat", sum := "9aaab5797e7270daf31708e6f454b22ee5e027b8047cef7ec4295184a1b4d9e5", checked := Tryz.checked }
namespace Rows
def none {H : Type} : Left H := { results := [], args := [] }

/-- 'gatehouselaw18.ProcsFull': WHATEVER THE INPUT: true; the input reads as it did. -/
def procsFullSpec : ChangeSpec := { name := "procsFull", fn := fun _ => fun
  | [d] => { results := [.lit (.bool true)], args := [d] }
  | _ => none }
def procsFullRow : OpenClaim := { program := "ytddcnopjjihmcaagreat", sum := "9aaab5797e7270daf31708e6f454b22ee5e027b8047cef7ec4295184a1b4d9e5", func := "gatehouse/gatehouselaw18.ProcsFull", spec := "procsFull", inPlace := ["internal/abi.NoEscape", "internal/bytealg.MakeNoZero", "slices.overlaps[gatehouse/api.Map]"], unfollowed := true, recurses := true, apart := false }
def ProcsFullSaid : Prop := procsFullRow.holds Tryz.pinned (OpenSpec.ofChange procsFullSpec)

/-- ITS FALSE NEIGHBOUR: 'it returns false'. Refute it at one input. -/
def procsFullWrong : ChangeSpec := { name := "procsFull", fn := fun _ => fun
  | [d] => { results := [.lit (.bool false)], args := [d] }
  | _ => none }
def ProcsFullWrongFalsely : Prop := procsFullRow.holds Tryz.pinned (OpenSpec.ofChange procsFullWrong)

/-- 'gatehouselaw18.ProcsSignals': WHATEVER THE INPUT: true; the input reads as it did. -/
def procsSignalsSpec : ChangeSpec := { name := "procsSignals", fn := fun _ => fun
  | [d1, d2] => { results := [.lit (.bool true)], args := [d1, d2] }
  | _ => none }
def procsSignalsRow : OpenClaim := { program := "ytddcnopjjihmcaagreat", sum := "9aaab5797e7270daf31708e6f454b22ee5e027b8047cef7ec4295184a1b4d9e5", func := "gatehouse/gatehouselaw18.ProcsSignals", spec := "procsSignals", inPlace := ["internal/abi.NoEscape", "internal/bytealg.MakeNoZero", "slices.overlaps[gatehouse/api.Map]"], unfollowed := true, recurses := true, apart := false }
def ProcsSignalsSaid : Prop := procsSignalsRow.holds Tryz.pinned (OpenSpec.ofChange procsSignalsSpec)

/-- ITS FALSE NEIGHBOUR: 'it returns false'. Refute it at one input. -/
def procsSignalsWrong : ChangeSpec := { name := "procsSignals", fn := fun _ => fun
  | [d1, d2] => { results := [.lit (.bool false)], args := [d1, d2] }
  | _ => none }
def ProcsSignalsWrongFalsely : Prop := procsSignalsRow.holds Tryz.pinned (OpenSpec.ofChange procsSignalsWrong)

/-- 'gatehouselaw18.ProcsHeld': WHATEVER THE INPUT: true; the input reads as it did. -/
def procsHeldSpec : ChangeSpec := { name := "procsHeld", fn := fun _ => fun
  | [d1, d2] => { results := [.lit (.bool true)], args := [d1, d2] }
  | _ => none }
def procsHeldRow : OpenClaim := { program := "ytddcnopjjihmcaagreat", sum := "9aaab5797e7270daf31708e6f454b22ee5e027b8047cef7ec4295184a1b4d9e5", func := "gatehouse/gatehouselaw18.ProcsHeld", spec := "procsHeld", inPlace := ["internal/abi.NoEscape", "internal/bytealg.MakeNoZero", "slices.overlaps[gatehouse/api.Map]"], unfollowed := true, recurses := true, apart := false }
def ProcsHeldSaid : Prop := procsHeldRow.holds Tryz.pinned (OpenSpec.ofChange procsHeldSpec)

/-- ITS FALSE NEIGHBOUR: 'it returns false'. Refute it at one input. -/
def procsHeldWrong : ChangeSpec := { name := "procsHeld", fn := fun _ => fun
  | [d1, d2] => { results := [.lit (.bool false)], args := [d1, d2] }
  | _ => none }
def ProcsHeldWrongFalsely : Prop := procsHeldRow.holds Tryz.pinned (OpenSpec.ofChange procsHeldWrong)

/-- 'gatehouselaw18.ProcsKids': WHATEVER THE INPUT: true; the input reads as it did. -/
def procsKidsSpec : ChangeSpec := { name := "procsKids", fn := fun _ => fun
  | [d1, d2, d3] => { results := [.lit (.bool true)], args := [d1, d2, d3] }
  | _ => none }
def procsKidsRow : OpenClaim := { program := "ytddcnopjjihmcaagreat", sum := "9aaab5797e7270daf31708e6f454b22ee5e027b8047cef7ec4295184a1b4d9e5", func := "gatehouse/gatehouselaw18.ProcsKids", spec := "procsKids", inPlace := ["internal/abi.NoEscape", "internal/bytealg.MakeNoZero", "slices.overlaps[gatehouse/api.Map]"], unfollowed := true, recurses := true, apart := false }
def ProcsKidsSaid : Prop := procsKidsRow.holds Tryz.pinned (OpenSpec.ofChange procsKidsSpec)

/-- ITS FALSE NEIGHBOUR: 'it returns false'. Refute it at one input. -/
def procsKidsWrong : ChangeSpec := { name := "procsKids", fn := fun _ => fun
  | [d1, d2, d3] => { results := [.lit (.bool false)], args := [d1, d2, d3] }
  | _ => none }
def ProcsKidsWrongFalsely : Prop := procsKidsRow.holds Tryz.pinned (OpenSpec.ofChange procsKidsWrong)

/-- 'gatehouselaw18.ProcsOpen': WHATEVER THE INPUT: true; the input reads as it did. -/
def procsOpenSpec : ChangeSpec := { name := "procsOpen", fn := fun _ => fun
  | [d1, d2, d3] => { results := [.lit (.bool true)], args := [d1, d2, d3] }
  | _ => none }
def procsOpenRow : OpenClaim := { program := "ytddcnopjjihmcaagreat", sum := "9aaab5797e7270daf31708e6f454b22ee5e027b8047cef7ec4295184a1b4d9e5", func := "gatehouse/gatehouselaw18.ProcsOpen", spec := "procsOpen", inPlace := ["internal/abi.NoEscape", "internal/bytealg.MakeNoZero", "slices.overlaps[gatehouse/api.Map]"], unfollowed := true, recurses := true, apart := false }
def ProcsOpenSaid : Prop := procsOpenRow.holds Tryz.pinned (OpenSpec.ofChange procsOpenSpec)

/-- ITS FALSE NEIGHBOUR: 'it returns false'. Refute it at one input. -/
def procsOpenWrong : ChangeSpec := { name := "procsOpen", fn := fun _ => fun
  | [d1, d2, d3] => { results := [.lit (.bool false)], args := [d1, d2, d3] }
  | _ => none }
def ProcsOpenWrongFalsely : Prop := procsOpenRow.holds Tryz.pinned (OpenSpec.ofChange procsOpenWrong)

/-- 'gatehouselaw18.ProcsTrees': WHATEVER THE INPUT: true; the input reads as it did. -/
def procsTreesSpec : ChangeSpec := { name := "procsTrees", fn := fun _ => fun
  | [d] => { results := [.lit (.bool true)], args := [d] }
  | _ => none }
def procsTreesRow : OpenClaim := { program := "ytddcnopjjihmcaagreat", sum := "9aaab5797e7270daf31708e6f454b22ee5e027b8047cef7ec4295184a1b4d9e5", func := "gatehouse/gatehouselaw18.ProcsTrees", spec := "procsTrees", inPlace := ["internal/abi.NoEscape", "internal/bytealg.MakeNoZero", "slices.overlaps[gatehouse/api.Map]"], unfollowed := true, recurses := true, apart := false }
def ProcsTreesSaid : Prop := procsTreesRow.holds Tryz.pinned (OpenSpec.ofChange procsTreesSpec)

/-- ITS FALSE NEIGHBOUR: 'it returns false'. Refute it at one input. -/
def procsTreesWrong : ChangeSpec := { name := "procsTrees", fn := fun _ => fun
  | [d] => { results := [.lit (.bool false)], args := [d] }
  | _ => none }
def ProcsTreesWrongFalsely : Prop := procsTreesRow.holds Tryz.pinned (OpenSpec.ofChange procsTreesWrong)

/-- 'gatehouselaw18.ProcsNone': WHATEVER THE INPUT: true; the input reads as it did. -/
def procsNoneSpec : ChangeSpec := { name := "procsNone", fn := fun _ => fun
  | [d] => { results := [.lit (.bool true)], args := [d] }
  | _ => none }
def procsNoneRow : OpenClaim := { program := "ytddcnopjjihmcaagreat", sum := "9aaab5797e7270daf31708e6f454b22ee5e027b8047cef7ec4295184a1b4d9e5", func := "gatehouse/gatehouselaw18.ProcsNone", spec := "procsNone", inPlace := ["internal/abi.NoEscape", "internal/bytealg.MakeNoZero", "slices.overlaps[gatehouse/api.Map]"], unfollowed := true, recurses := true, apart := false }
def ProcsNoneSaid : Prop := procsNoneRow.holds Tryz.pinned (OpenSpec.ofChange procsNoneSpec)

/-- ITS FALSE NEIGHBOUR: 'it returns false'. Refute it at one input. -/
def procsNoneWrong : ChangeSpec := { name := "procsNone", fn := fun _ => fun
  | [d] => { results := [.lit (.bool false)], args := [d] }
  | _ => none }
def ProcsNoneWrongFalsely : Prop := procsNoneRow.holds Tryz.pinned (OpenSpec.ofChange procsNoneWrong)

/- THE SECOND FORM. 'bulk': how many values and letters a reading holds, each counted each time it is reached (what is shared counts as often as it is met; a slice's spare places count too). A statement '..UptoSaid' is the law's where the arguments, and the package variables that the reading takes, are together of bulk at most 1048576: NARROWER than '..Said'. Prove '..Said' where nothing that the law and all that it calls make is longer than what came in: it says more and counts as full. Else prove '..UptoSaid'. A law counts once. -/
mutual
def uptoBulk {H : Type} : DataW H → Nat
  | .lit (.string bytes) => bytes.length + 1
  | .lit _ => 1
  | .nil => 1
  | .ptr d => uptoBulk d + 1
  | .slice elems spare => uptoBulkAll elems + uptoBulkAll spare + 1
  | .agg parts => uptoBulkAll parts + 1
  | .iface _ d => uptoBulk d + 1
  | .map entries => uptoBulkEntries entries + 1
  | .held _ => 1
def uptoBulkAll {H : Type} : List (DataW H) → Nat
  | [] => 0
  | d :: r => uptoBulk d + uptoBulkAll r
def uptoBulkEntries {H : Type} : List (Lit × DataW H) → Nat
  | [] => 0
  | x :: r => uptoBulkEntry x + uptoBulkEntries r
def uptoBulkEntry {H : Type} : Lit × DataW H → Nat
  | (.string bytes, d) => bytes.length + uptoBulk d + 1
  | (_, d) => uptoBulk d + 1
 end
def uptoSmall : (H : Type) → List (DataW H) → Bool := fun _ ds => decide (uptoBulkAll ds ≤ 1048576)
def OpenSpec.upto (s : _root_.Go.ChangeSpec) : _root_.Go.OpenSpec := { _root_.Go.OpenSpec.ofChange s with cond := some uptoSmall }

/-- 'gatehouselaw18.ProcsFull', WHERE WHAT IT READS IS OF BULK AT MOST 1048576: true; the input reads as it did. -/
def procsFullUptoRow : OpenClaim := { program := "ytddcnopjjihmcaagreat", sum := "9aaab5797e7270daf31708e6f454b22ee5e027b8047cef7ec4295184a1b4d9e5", func := "gatehouse/gatehouselaw18.ProcsFull", spec := "procsFull", inPlace := ["internal/abi.NoEscape", "internal/bytealg.MakeNoZero", "slices.overlaps[gatehouse/api.Map]"], unfollowed := true, recurses := true, apart := false, narrowed := true }
def ProcsFullUptoSaid : Prop := procsFullUptoRow.holds Tryz.pinned (OpenSpec.upto procsFullSpec)

/-- 'gatehouselaw18.ProcsSignals', WHERE WHAT IT READS IS OF BULK AT MOST 1048576: true; the input reads as it did. -/
def procsSignalsUptoRow : OpenClaim := { program := "ytddcnopjjihmcaagreat", sum := "9aaab5797e7270daf31708e6f454b22ee5e027b8047cef7ec4295184a1b4d9e5", func := "gatehouse/gatehouselaw18.ProcsSignals", spec := "procsSignals", inPlace := ["internal/abi.NoEscape", "internal/bytealg.MakeNoZero", "slices.overlaps[gatehouse/api.Map]"], unfollowed := true, recurses := true, apart := false, narrowed := true }
def ProcsSignalsUptoSaid : Prop := procsSignalsUptoRow.holds Tryz.pinned (OpenSpec.upto procsSignalsSpec)

/-- 'gatehouselaw18.ProcsHeld', WHERE WHAT IT READS IS OF BULK AT MOST 1048576: true; the input reads as it did. -/
def procsHeldUptoRow : OpenClaim := { program := "ytddcnopjjihmcaagreat", sum := "9aaab5797e7270daf31708e6f454b22ee5e027b8047cef7ec4295184a1b4d9e5", func := "gatehouse/gatehouselaw18.ProcsHeld", spec := "procsHeld", inPlace := ["internal/abi.NoEscape", "internal/bytealg.MakeNoZero", "slices.overlaps[gatehouse/api.Map]"], unfollowed := true, recurses := true, apart := false, narrowed := true }
def ProcsHeldUptoSaid : Prop := procsHeldUptoRow.holds Tryz.pinned (OpenSpec.upto procsHeldSpec)

/-- 'gatehouselaw18.ProcsKids', WHERE WHAT IT READS IS OF BULK AT MOST 1048576: true; the input reads as it did. -/
def procsKidsUptoRow : OpenClaim := { program := "ytddcnopjjihmcaagreat", sum := "9aaab5797e7270daf31708e6f454b22ee5e027b8047cef7ec4295184a1b4d9e5", func := "gatehouse/gatehouselaw18.ProcsKids", spec := "procsKids", inPlace := ["internal/abi.NoEscape", "internal/bytealg.MakeNoZero", "slices.overlaps[gatehouse/api.Map]"], unfollowed := true, recurses := true, apart := false, narrowed := true }
def ProcsKidsUptoSaid : Prop := procsKidsUptoRow.holds Tryz.pinned (OpenSpec.upto procsKidsSpec)

/-- 'gatehouselaw18.ProcsOpen', WHERE WHAT IT READS IS OF BULK AT MOST 1048576: true; the input reads as it did. -/
def procsOpenUptoRow : OpenClaim := { program := "ytddcnopjjihmcaagreat", sum := "9aaab5797e7270daf31708e6f454b22ee5e027b8047cef7ec4295184a1b4d9e5", func := "gatehouse/gatehouselaw18.ProcsOpen", spec := "procsOpen", inPlace := ["internal/abi.NoEscape", "internal/bytealg.MakeNoZero", "slices.overlaps[gatehouse/api.Map]"], unfollowed := true, recurses := true, apart := false, narrowed := true }
def ProcsOpenUptoSaid : Prop := procsOpenUptoRow.holds Tryz.pinned (OpenSpec.upto procsOpenSpec)

/-- 'gatehouselaw18.ProcsTrees', WHERE WHAT IT READS IS OF BULK AT MOST 1048576: true; the input reads as it did. -/
def procsTreesUptoRow : OpenClaim := { program := "ytddcnopjjihmcaagreat", sum := "9aaab5797e7270daf31708e6f454b22ee5e027b8047cef7ec4295184a1b4d9e5", func := "gatehouse/gatehouselaw18.ProcsTrees", spec := "procsTrees", inPlace := ["internal/abi.NoEscape", "internal/bytealg.MakeNoZero", "slices.overlaps[gatehouse/api.Map]"], unfollowed := true, recurses := true, apart := false, narrowed := true }
def ProcsTreesUptoSaid : Prop := procsTreesUptoRow.holds Tryz.pinned (OpenSpec.upto procsTreesSpec)

/-- 'gatehouselaw18.ProcsNone', WHERE WHAT IT READS IS OF BULK AT MOST 1048576: true; the input reads as it did. -/
def procsNoneUptoRow : OpenClaim := { program := "ytddcnopjjihmcaagreat", sum := "9aaab5797e7270daf31708e6f454b22ee5e027b8047cef7ec4295184a1b4d9e5", func := "gatehouse/gatehouselaw18.ProcsNone", spec := "procsNone", inPlace := ["internal/abi.NoEscape", "internal/bytealg.MakeNoZero", "slices.overlaps[gatehouse/api.Map]"], unfollowed := true, recurses := true, apart := false, narrowed := true }
def ProcsNoneUptoSaid : Prop := procsNoneUptoRow.holds Tryz.pinned (OpenSpec.upto procsNoneSpec)

end Rows
end Go.Proofs.YtddcnopjjihmcaaGreat
