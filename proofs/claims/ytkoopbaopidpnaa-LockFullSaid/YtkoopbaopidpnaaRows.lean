/-
  No cell of these rows narrows 'for every input' (looked for: loops, veiled, ifaces, maps, wideKeys, modest, calm, conditions, laid).
  DERIVED. THE GIVEN ROWS OF THIS SEAT. 7 by the template 'for every input the law returns true; each argument reads behind the call as it read before'; 0 by the template 'total and deterministic' (their statements: YtkoopbaopidpnaaTotals.lean).
  GIVEN WITH THE SEED: the statements are not yours to turn. If you find one false, say at which input.
  Laid BY PROGRAM, IN A SANDBOX (cutbox-rows.mjs): the forced cells as the released guide's own fill.sh prints them over the translation cb85441a221941c2… (all of the seat's roots in one cut). By AI agents, Wed Nov 11 2026. No macro, syntax, notation, axiom, sorry.
-/
import Derived.Test.YtkoopbaopidpnaaChecked
import GoSem.Claim
import GoSem.ClaimJoined
import GoSem.ClaimMapViews
import Derived.JoinedTies
import Derived.KernelRfl
namespace Go.Proofs.Ytkoopbaopidpnaa
/- THE CELL 'sum', in the pinned program and in every row, IS THE sha256 OF THE DUMP (.gsa) THAT YtkoopbaopidpnaaProg.lean LOADS. Nothing in Lean hashes anything: it is a label: what it is worth is what the hold of that sum in a sandbox is worth. -/
noncomputable def Try.pinned : Pinned := { name := "ytkoopbaopidpnaa", sum := "cb85441a221941c2e50cf77b6373d4ea15701d61048d6f0c2d7efa15ad1694d7", checked := Try.checked }
namespace Rows
def none {H : Type} : Left H := { results := [], args := [] }

/-- 'palimpsestlaw15.LockCircles': WHATEVER THE INPUT: true; the input reads as it did. -/
def lockCirclesSpec : ChangeSpec := { name := "lockCircles", fn := fun _ => fun
  | [d] => { results := [.lit (.bool true)], args := [d] }
  | _ => none }
def lockCirclesRow : OpenClaim := { program := "ytkoopbaopidpnaa", sum := "cb85441a221941c2e50cf77b6373d4ea15701d61048d6f0c2d7efa15ad1694d7", func := "palimpsest/palimpsestlaw15.LockCircles", spec := "lockCircles", recurses := true, apart := false }
def LockCirclesSaid : Prop := lockCirclesRow.holds Try.pinned (OpenSpec.ofChange lockCirclesSpec)

/-- ITS FALSE NEIGHBOUR: 'it returns false'. Refute it at one input. -/
def lockCirclesWrong : ChangeSpec := { name := "lockCircles", fn := fun _ => fun
  | [d] => { results := [.lit (.bool false)], args := [d] }
  | _ => none }
def LockCirclesWrongFalsely : Prop := lockCirclesRow.holds Try.pinned (OpenSpec.ofChange lockCirclesWrong)

/-- 'palimpsestlaw15.LockModes': WHATEVER THE INPUT: true; the input reads as it did. -/
def lockModesSpec : ChangeSpec := { name := "lockModes", fn := fun _ => fun
  | [d1, d2, d3] => { results := [.lit (.bool true)], args := [d1, d2, d3] }
  | _ => none }
def lockModesRow : OpenClaim := { program := "ytkoopbaopidpnaa", sum := "cb85441a221941c2e50cf77b6373d4ea15701d61048d6f0c2d7efa15ad1694d7", func := "palimpsest/palimpsestlaw15.LockModes", spec := "lockModes", recurses := true, apart := false }
def LockModesSaid : Prop := lockModesRow.holds Try.pinned (OpenSpec.ofChange lockModesSpec)

/-- ITS FALSE NEIGHBOUR: 'it returns false'. Refute it at one input. -/
def lockModesWrong : ChangeSpec := { name := "lockModes", fn := fun _ => fun
  | [d1, d2, d3] => { results := [.lit (.bool false)], args := [d1, d2, d3] }
  | _ => none }
def LockModesWrongFalsely : Prop := lockModesRow.holds Try.pinned (OpenSpec.ofChange lockModesWrong)

/-- 'palimpsestlaw15.LockFull': WHATEVER THE INPUT: true; the input reads as it did. -/
def lockFullSpec : ChangeSpec := { name := "lockFull", fn := fun _ => fun
  | [d] => { results := [.lit (.bool true)], args := [d] }
  | _ => none }
def lockFullRow : OpenClaim := { program := "ytkoopbaopidpnaa", sum := "cb85441a221941c2e50cf77b6373d4ea15701d61048d6f0c2d7efa15ad1694d7", func := "palimpsest/palimpsestlaw15.LockFull", spec := "lockFull", recurses := true, apart := false }
def LockFullSaid : Prop := lockFullRow.holds Try.pinned (OpenSpec.ofChange lockFullSpec)

/-- ITS FALSE NEIGHBOUR: 'it returns false'. Refute it at one input. -/
def lockFullWrong : ChangeSpec := { name := "lockFull", fn := fun _ => fun
  | [d] => { results := [.lit (.bool false)], args := [d] }
  | _ => none }
def LockFullWrongFalsely : Prop := lockFullRow.holds Try.pinned (OpenSpec.ofChange lockFullWrong)

/-- 'palimpsestlaw15.LockAlone': WHATEVER THE INPUT: true; the input reads as it did. -/
def lockAloneSpec : ChangeSpec := { name := "lockAlone", fn := fun _ => fun
  | [d] => { results := [.lit (.bool true)], args := [d] }
  | _ => none }
def lockAloneRow : OpenClaim := { program := "ytkoopbaopidpnaa", sum := "cb85441a221941c2e50cf77b6373d4ea15701d61048d6f0c2d7efa15ad1694d7", func := "palimpsest/palimpsestlaw15.LockAlone", spec := "lockAlone", unfollowed := true, recurses := true, apart := false }
def LockAloneSaid : Prop := lockAloneRow.holds Try.pinned (OpenSpec.ofChange lockAloneSpec)

/-- ITS FALSE NEIGHBOUR: 'it returns false'. Refute it at one input. -/
def lockAloneWrong : ChangeSpec := { name := "lockAlone", fn := fun _ => fun
  | [d] => { results := [.lit (.bool false)], args := [d] }
  | _ => none }
def LockAloneWrongFalsely : Prop := lockAloneRow.holds Try.pinned (OpenSpec.ofChange lockAloneWrong)

/-- 'palimpsestlaw15.LockPlays': WHATEVER THE INPUT: true; the input reads as it did. -/
def lockPlaysSpec : ChangeSpec := { name := "lockPlays", fn := fun _ => fun
  | [d] => { results := [.lit (.bool true)], args := [d] }
  | _ => none }
def lockPlaysRow : OpenClaim := { program := "ytkoopbaopidpnaa", sum := "cb85441a221941c2e50cf77b6373d4ea15701d61048d6f0c2d7efa15ad1694d7", func := "palimpsest/palimpsestlaw15.LockPlays", spec := "lockPlays", unfollowed := true, recurses := true, apart := false }
def LockPlaysSaid : Prop := lockPlaysRow.holds Try.pinned (OpenSpec.ofChange lockPlaysSpec)

/-- ITS FALSE NEIGHBOUR: 'it returns false'. Refute it at one input. -/
def lockPlaysWrong : ChangeSpec := { name := "lockPlays", fn := fun _ => fun
  | [d] => { results := [.lit (.bool false)], args := [d] }
  | _ => none }
def LockPlaysWrongFalsely : Prop := lockPlaysRow.holds Try.pinned (OpenSpec.ofChange lockPlaysWrong)

/-- 'palimpsestlaw15.LockNone': WHATEVER THE INPUT: true; the input reads as it did. -/
def lockNoneSpec : ChangeSpec := { name := "lockNone", fn := fun _ => fun
  | [d] => { results := [.lit (.bool true)], args := [d] }
  | _ => none }
def lockNoneRow : OpenClaim := { program := "ytkoopbaopidpnaa", sum := "cb85441a221941c2e50cf77b6373d4ea15701d61048d6f0c2d7efa15ad1694d7", func := "palimpsest/palimpsestlaw15.LockNone", spec := "lockNone", unfollowed := true, recurses := true, apart := false }
def LockNoneSaid : Prop := lockNoneRow.holds Try.pinned (OpenSpec.ofChange lockNoneSpec)

/-- ITS FALSE NEIGHBOUR: 'it returns false'. Refute it at one input. -/
def lockNoneWrong : ChangeSpec := { name := "lockNone", fn := fun _ => fun
  | [d] => { results := [.lit (.bool false)], args := [d] }
  | _ => none }
def LockNoneWrongFalsely : Prop := lockNoneRow.holds Try.pinned (OpenSpec.ofChange lockNoneWrong)

/-- 'palimpsestlaw15.LockFrees': WHATEVER THE INPUT: true; the input reads as it did. -/
def lockFreesSpec : ChangeSpec := { name := "lockFrees", fn := fun _ => fun
  | [d1, d2, d3] => { results := [.lit (.bool true)], args := [d1, d2, d3] }
  | _ => none }
def lockFreesRow : OpenClaim := { program := "ytkoopbaopidpnaa", sum := "cb85441a221941c2e50cf77b6373d4ea15701d61048d6f0c2d7efa15ad1694d7", func := "palimpsest/palimpsestlaw15.LockFrees", spec := "lockFrees", unfollowed := true, recurses := true, apart := false }
def LockFreesSaid : Prop := lockFreesRow.holds Try.pinned (OpenSpec.ofChange lockFreesSpec)

/-- ITS FALSE NEIGHBOUR: 'it returns false'. Refute it at one input. -/
def lockFreesWrong : ChangeSpec := { name := "lockFrees", fn := fun _ => fun
  | [d1, d2, d3] => { results := [.lit (.bool false)], args := [d1, d2, d3] }
  | _ => none }
def LockFreesWrongFalsely : Prop := lockFreesRow.holds Try.pinned (OpenSpec.ofChange lockFreesWrong)

/- THE SECOND FORM. 'bulk': how many values and letters a reading holds, each counted each time it is reached (what is shared counts as often as it is met; a slice's spare places count too). A statement '..UptoSaid' is the law's where the arguments, and the package variables that the reading takes, are together of bulk at most 1048576: NARROWER than '..Said'. Prove '..Said' where nothing that the law and all that it calls make is longer than what came in: it says more and counts as full. Else prove '..UptoSaid'. A law counts once. -/
mutual
def uptoBulk {H : Type} : DataW H → Nat
  | .lit (.string bytes) => bytes.length + 1
  | .lit _ => 1
  | .nil => 1
  | .ptr d => uptoBulk d + 1
  | .slice elems spare => uptoBulkAll elems + uptoBulkAll spare + 1
  | .agg parts => uptoBulkAll parts + 1
  | .iface _ d => uptoBulk d + 1
  | .map entries => uptoBulkEntries entries + 1
  | .held _ => 1
def uptoBulkAll {H : Type} : List (DataW H) → Nat
  | [] => 0
  | d :: r => uptoBulk d + uptoBulkAll r
def uptoBulkEntries {H : Type} : List (Lit × DataW H) → Nat
  | [] => 0
  | x :: r => uptoBulkEntry x + uptoBulkEntries r
def uptoBulkEntry {H : Type} : Lit × DataW H → Nat
  | (.string bytes, d) => bytes.length + uptoBulk d + 1
  | (_, d) => uptoBulk d + 1
 end
def uptoSmall : (H : Type) → List (DataW H) → Bool := fun _ ds => decide (uptoBulkAll ds ≤ 1048576)
def OpenSpec.upto (s : _root_.Go.ChangeSpec) : _root_.Go.OpenSpec := { _root_.Go.OpenSpec.ofChange s with cond := some uptoSmall }

/-- 'palimpsestlaw15.LockCircles', WHERE WHAT IT READS IS OF BULK AT MOST 1048576: true; the input reads as it did. -/
def lockCirclesUptoRow : OpenClaim := { program := "ytkoopbaopidpnaa", sum := "cb85441a221941c2e50cf77b6373d4ea15701d61048d6f0c2d7efa15ad1694d7", func := "palimpsest/palimpsestlaw15.LockCircles", spec := "lockCircles", recurses := true, apart := false, narrowed := true }
def LockCirclesUptoSaid : Prop := lockCirclesUptoRow.holds Try.pinned (OpenSpec.upto lockCirclesSpec)

/-- 'palimpsestlaw15.LockModes', WHERE WHAT IT READS IS OF BULK AT MOST 1048576: true; the input reads as it did. -/
def lockModesUptoRow : OpenClaim := { program := "ytkoopbaopidpnaa", sum := "cb85441a221941c2e50cf77b6373d4ea15701d61048d6f0c2d7efa15ad1694d7", func := "palimpsest/palimpsestlaw15.LockModes", spec := "lockModes", recurses := true, apart := false, narrowed := true }
def LockModesUptoSaid : Prop := lockModesUptoRow.holds Try.pinned (OpenSpec.upto lockModesSpec)

/-- 'palimpsestlaw15.LockFull', WHERE WHAT IT READS IS OF BULK AT MOST 1048576: true; the input reads as it did. -/
def lockFullUptoRow : OpenClaim := { program := "ytkoopbaopidpnaa", sum := "cb85441a221941c2e50cf77b6373d4ea15701d61048d6f0c2d7efa15ad1694d7", func := "palimpsest/palimpsestlaw15.LockFull", spec := "lockFull", recurses := true, apart := false, narrowed := true }
def LockFullUptoSaid : Prop := lockFullUptoRow.holds Try.pinned (OpenSpec.upto lockFullSpec)

/-- 'palimpsestlaw15.LockAlone', WHERE WHAT IT READS IS OF BULK AT MOST 1048576: true; the input reads as it did. -/
def lockAloneUptoRow : OpenClaim := { program := "ytkoopbaopidpnaa", sum := "cb85441a221941c2e50cf77b6373d4ea15701d61048d6f0c2d7efa15ad1694d7", func := "palimpsest/palimpsestlaw15.LockAlone", spec := "lockAlone", unfollowed := true, recurses := true, apart := false, narrowed := true }
def LockAloneUptoSaid : Prop := lockAloneUptoRow.holds Try.pinned (OpenSpec.upto lockAloneSpec)

/-- 'palimpsestlaw15.LockPlays', WHERE WHAT IT READS IS OF BULK AT MOST 1048576: true; the input reads as it did. -/
def lockPlaysUptoRow : OpenClaim := { program := "ytkoopbaopidpnaa", sum := "cb85441a221941c2e50cf77b6373d4ea15701d61048d6f0c2d7efa15ad1694d7", func := "palimpsest/palimpsestlaw15.LockPlays", spec := "lockPlays", unfollowed := true, recurses := true, apart := false, narrowed := true }
def LockPlaysUptoSaid : Prop := lockPlaysUptoRow.holds Try.pinned (OpenSpec.upto lockPlaysSpec)

/-- 'palimpsestlaw15.LockNone', WHERE WHAT IT READS IS OF BULK AT MOST 1048576: true; the input reads as it did. -/
def lockNoneUptoRow : OpenClaim := { program := "ytkoopbaopidpnaa", sum := "cb85441a221941c2e50cf77b6373d4ea15701d61048d6f0c2d7efa15ad1694d7", func := "palimpsest/palimpsestlaw15.LockNone", spec := "lockNone", unfollowed := true, recurses := true, apart := false, narrowed := true }
def LockNoneUptoSaid : Prop := lockNoneUptoRow.holds Try.pinned (OpenSpec.upto lockNoneSpec)

/-- 'palimpsestlaw15.LockFrees', WHERE WHAT IT READS IS OF BULK AT MOST 1048576: true; the input reads as it did. -/
def lockFreesUptoRow : OpenClaim := { program := "ytkoopbaopidpnaa", sum := "cb85441a221941c2e50cf77b6373d4ea15701d61048d6f0c2d7efa15ad1694d7", func := "palimpsest/palimpsestlaw15.LockFrees", spec := "lockFrees", unfollowed := true, recurses := true, apart := false, narrowed := true }
def LockFreesUptoSaid : Prop := lockFreesUptoRow.holds Try.pinned (OpenSpec.upto lockFreesSpec)

end Rows
end Go.Proofs.Ytkoopbaopidpnaa
