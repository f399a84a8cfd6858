/-
  No cell of these rows narrows 'for every input' (looked for: loops, veiled, ifaces, maps, wideKeys, modest, calm, conditions, laid).
  DERIVED. THE GIVEN ROWS OF THIS SEAT. 7 by the template 'for every input the law returns true; each argument reads behind the call as it read before'; 0 by the template 'total and deterministic' (their statements: YtbaphjnglkocpaaTotals.lean).
  GIVEN WITH THE SEED: the statements are not yours to turn. If you find one false, say at which input.
  Laid BY PROGRAM, IN A SANDBOX (cutbox-rows.mjs): the forced cells as the released guide's own fill.sh prints them over the translation b506ce54781f8628… (all of the seat's roots in one cut). By AI agents, Wed Nov 11 2026. No macro, syntax, notation, axiom, sorry.
-/
import Derived.Test.YtbaphjnglkocpaaChecked
import GoSem.Claim
import GoSem.ClaimJoined
import GoSem.ClaimMapViews
import Derived.JoinedTies
import Derived.KernelRfl
namespace Go.Proofs.Ytbaphjnglkocpaa
/- THE CELL 'sum', in the pinned program and in every row, IS THE sha256 OF THE DUMP (.gsa) THAT YtbaphjnglkocpaaProg.lean LOADS. Nothing in Lean hashes anything: it is a label: what it is worth is what the hold of that sum in a sandbox is worth. -/
noncomputable def Try.pinned : Pinned := { name := "ytbaphjnglkocpaa", sum := "b506ce54781f862879c1c64959fceab57df3f2cbb2df9acc6cf48ddedf42838d", checked := Try.checked }
namespace Rows
def none {H : Type} : Left H := { results := [], args := [] }

/-- 'palimpsestlaw04.JournalRooms': WHATEVER THE INPUT: true; the input reads as it did. -/
def journalRoomsSpec : ChangeSpec := { name := "journalRooms", fn := fun _ => fun
  | [d1, d2] => { results := [.lit (.bool true)], args := [d1, d2] }
  | _ => none }
def journalRoomsRow : OpenClaim := { program := "ytbaphjnglkocpaa", sum := "b506ce54781f862879c1c64959fceab57df3f2cbb2df9acc6cf48ddedf42838d", func := "palimpsest/palimpsestlaw04.JournalRooms", spec := "journalRooms", inPlace := ["sync/atomic.AddInt64"], apart := false }
def JournalRoomsSaid : Prop := journalRoomsRow.holds Try.pinned (OpenSpec.ofChange journalRoomsSpec)

/-- ITS FALSE NEIGHBOUR: 'it returns false'. Refute it at one input. -/
def journalRoomsWrong : ChangeSpec := { name := "journalRooms", fn := fun _ => fun
  | [d1, d2] => { results := [.lit (.bool false)], args := [d1, d2] }
  | _ => none }
def JournalRoomsWrongFalsely : Prop := journalRoomsRow.holds Try.pinned (OpenSpec.ofChange journalRoomsWrong)

/-- 'palimpsestlaw04.JournalBooks': WHATEVER THE INPUT: true; the input reads as it did. -/
def journalBooksSpec : ChangeSpec := { name := "journalBooks", fn := fun _ => fun
  | [d1, d2, d3] => { results := [.lit (.bool true)], args := [d1, d2, d3] }
  | _ => none }
def journalBooksRow : OpenClaim := { program := "ytbaphjnglkocpaa", sum := "b506ce54781f862879c1c64959fceab57df3f2cbb2df9acc6cf48ddedf42838d", func := "palimpsest/palimpsestlaw04.JournalBooks", spec := "journalBooks", inPlace := ["sync/atomic.AddInt64"], apart := false }
def JournalBooksSaid : Prop := journalBooksRow.holds Try.pinned (OpenSpec.ofChange journalBooksSpec)

/-- ITS FALSE NEIGHBOUR: 'it returns false'. Refute it at one input. -/
def journalBooksWrong : ChangeSpec := { name := "journalBooks", fn := fun _ => fun
  | [d1, d2, d3] => { results := [.lit (.bool false)], args := [d1, d2, d3] }
  | _ => none }
def JournalBooksWrongFalsely : Prop := journalBooksRow.holds Try.pinned (OpenSpec.ofChange journalBooksWrong)

/-- 'palimpsestlaw01.DiskOwns': WHATEVER THE INPUT: true; the input reads as it did. -/
def diskOwnsSpec : ChangeSpec := { name := "diskOwns", fn := fun _ => fun
  | [d] => { results := [.lit (.bool true)], args := [d] }
  | _ => none }
def diskOwnsRow : OpenClaim := { program := "ytbaphjnglkocpaa", sum := "b506ce54781f862879c1c64959fceab57df3f2cbb2df9acc6cf48ddedf42838d", func := "palimpsest/palimpsestlaw01.DiskOwns", spec := "diskOwns", inPlace := ["sync/atomic.AddInt64", "sync/atomic.LoadInt64"], unfollowed := true, recurses := true, apart := false }
def DiskOwnsSaid : Prop := diskOwnsRow.holds Try.pinned (OpenSpec.ofChange diskOwnsSpec)

/-- ITS FALSE NEIGHBOUR: 'it returns false'. Refute it at one input. -/
def diskOwnsWrong : ChangeSpec := { name := "diskOwns", fn := fun _ => fun
  | [d] => { results := [.lit (.bool false)], args := [d] }
  | _ => none }
def DiskOwnsWrongFalsely : Prop := diskOwnsRow.holds Try.pinned (OpenSpec.ofChange diskOwnsWrong)

/-- 'palimpsestlaw01.DiskPlays': WHATEVER THE INPUT: true; the input reads as it did. -/
def diskPlaysSpec : ChangeSpec := { name := "diskPlays", fn := fun _ => fun
  | [d1, d2] => { results := [.lit (.bool true)], args := [d1, d2] }
  | _ => none }
def diskPlaysRow : OpenClaim := { program := "ytbaphjnglkocpaa", sum := "b506ce54781f862879c1c64959fceab57df3f2cbb2df9acc6cf48ddedf42838d", func := "palimpsest/palimpsestlaw01.DiskPlays", spec := "diskPlays", inPlace := ["sync/atomic.AddInt64", "sync/atomic.LoadInt64"], unfollowed := true, recurses := true, apart := false }
def DiskPlaysSaid : Prop := diskPlaysRow.holds Try.pinned (OpenSpec.ofChange diskPlaysSpec)

/-- ITS FALSE NEIGHBOUR: 'it returns false'. Refute it at one input. -/
def diskPlaysWrong : ChangeSpec := { name := "diskPlays", fn := fun _ => fun
  | [d1, d2] => { results := [.lit (.bool false)], args := [d1, d2] }
  | _ => none }
def DiskPlaysWrongFalsely : Prop := diskPlaysRow.holds Try.pinned (OpenSpec.ofChange diskPlaysWrong)

/-- 'palimpsestlaw04.JournalNone': WHATEVER THE INPUT: true; the input reads as it did. -/
def journalNoneSpec : ChangeSpec := { name := "journalNone", fn := fun _ => fun
  | [d1, d2] => { results := [.lit (.bool true)], args := [d1, d2] }
  | _ => none }
def journalNoneRow : OpenClaim := { program := "ytbaphjnglkocpaa", sum := "b506ce54781f862879c1c64959fceab57df3f2cbb2df9acc6cf48ddedf42838d", func := "palimpsest/palimpsestlaw04.JournalNone", spec := "journalNone", inPlace := ["sync/atomic.AddInt64"], apart := false }
def JournalNoneSaid : Prop := journalNoneRow.holds Try.pinned (OpenSpec.ofChange journalNoneSpec)

/-- ITS FALSE NEIGHBOUR: 'it returns false'. Refute it at one input. -/
def journalNoneWrong : ChangeSpec := { name := "journalNone", fn := fun _ => fun
  | [d1, d2] => { results := [.lit (.bool false)], args := [d1, d2] }
  | _ => none }
def JournalNoneWrongFalsely : Prop := journalNoneRow.holds Try.pinned (OpenSpec.ofChange journalNoneWrong)

/-- 'palimpsestlaw03.SlotPlays': WHATEVER THE INPUT: true; the input reads as it did. -/
def slotPlaysSpec : ChangeSpec := { name := "slotPlays", fn := fun _ => fun
  | [d1, d2] => { results := [.lit (.bool true)], args := [d1, d2] }
  | _ => none }
def slotPlaysRow : OpenClaim := { program := "ytbaphjnglkocpaa", sum := "b506ce54781f862879c1c64959fceab57df3f2cbb2df9acc6cf48ddedf42838d", func := "palimpsest/palimpsestlaw03.SlotPlays", spec := "slotPlays", inPlace := ["sync/atomic.AddInt64"], unfollowed := true, recurses := true, apart := false }
def SlotPlaysSaid : Prop := slotPlaysRow.holds Try.pinned (OpenSpec.ofChange slotPlaysSpec)

/-- ITS FALSE NEIGHBOUR: 'it returns false'. Refute it at one input. -/
def slotPlaysWrong : ChangeSpec := { name := "slotPlays", fn := fun _ => fun
  | [d1, d2] => { results := [.lit (.bool false)], args := [d1, d2] }
  | _ => none }
def SlotPlaysWrongFalsely : Prop := slotPlaysRow.holds Try.pinned (OpenSpec.ofChange slotPlaysWrong)

/-- 'palimpsestlaw04.JournalTwice': WHATEVER THE INPUT: true; the input reads as it did. -/
def journalTwiceSpec : ChangeSpec := { name := "journalTwice", fn := fun _ => fun
  | [d1, d2, d3] => { results := [.lit (.bool true)], args := [d1, d2, d3] }
  | _ => none }
def journalTwiceRow : OpenClaim := { program := "ytbaphjnglkocpaa", sum := "b506ce54781f862879c1c64959fceab57df3f2cbb2df9acc6cf48ddedf42838d", func := "palimpsest/palimpsestlaw04.JournalTwice", spec := "journalTwice", inPlace := ["sync/atomic.AddInt64"], unfollowed := true, recurses := true, apart := false }
def JournalTwiceSaid : Prop := journalTwiceRow.holds Try.pinned (OpenSpec.ofChange journalTwiceSpec)

/-- ITS FALSE NEIGHBOUR: 'it returns false'. Refute it at one input. -/
def journalTwiceWrong : ChangeSpec := { name := "journalTwice", fn := fun _ => fun
  | [d1, d2, d3] => { results := [.lit (.bool false)], args := [d1, d2, d3] }
  | _ => none }
def JournalTwiceWrongFalsely : Prop := journalTwiceRow.holds Try.pinned (OpenSpec.ofChange journalTwiceWrong)

/- THE SECOND FORM. 'bulk': how many values and letters a reading holds, each counted each time it is reached (what is shared counts as often as it is met; a slice's spare places count too). A statement '..UptoSaid' is the law's where the arguments, and the package variables that the reading takes, are together of bulk at most 1048576: NARROWER than '..Said'. Prove '..Said' where nothing that the law and all that it calls make is longer than what came in: it says more and counts as full. Else prove '..UptoSaid'. A law counts once. -/
mutual
def uptoBulk {H : Type} : DataW H → Nat
  | .lit (.string bytes) => bytes.length + 1
  | .lit _ => 1
  | .nil => 1
  | .ptr d => uptoBulk d + 1
  | .slice elems spare => uptoBulkAll elems + uptoBulkAll spare + 1
  | .agg parts => uptoBulkAll parts + 1
  | .iface _ d => uptoBulk d + 1
  | .map entries => uptoBulkEntries entries + 1
  | .held _ => 1
def uptoBulkAll {H : Type} : List (DataW H) → Nat
  | [] => 0
  | d :: r => uptoBulk d + uptoBulkAll r
def uptoBulkEntries {H : Type} : List (Lit × DataW H) → Nat
  | [] => 0
  | x :: r => uptoBulkEntry x + uptoBulkEntries r
def uptoBulkEntry {H : Type} : Lit × DataW H → Nat
  | (.string bytes, d) => bytes.length + uptoBulk d + 1
  | (_, d) => uptoBulk d + 1
 end
def uptoSmall : (H : Type) → List (DataW H) → Bool := fun _ ds => decide (uptoBulkAll ds ≤ 1048576)
def OpenSpec.upto (s : _root_.Go.ChangeSpec) : _root_.Go.OpenSpec := { _root_.Go.OpenSpec.ofChange s with cond := some uptoSmall }

/-- 'palimpsestlaw04.JournalRooms', WHERE WHAT IT READS IS OF BULK AT MOST 1048576: true; the input reads as it did. -/
def journalRoomsUptoRow : OpenClaim := { program := "ytbaphjnglkocpaa", sum := "b506ce54781f862879c1c64959fceab57df3f2cbb2df9acc6cf48ddedf42838d", func := "palimpsest/palimpsestlaw04.JournalRooms", spec := "journalRooms", inPlace := ["sync/atomic.AddInt64"], apart := false, narrowed := true }
def JournalRoomsUptoSaid : Prop := journalRoomsUptoRow.holds Try.pinned (OpenSpec.upto journalRoomsSpec)

/-- 'palimpsestlaw04.JournalBooks', WHERE WHAT IT READS IS OF BULK AT MOST 1048576: true; the input reads as it did. -/
def journalBooksUptoRow : OpenClaim := { program := "ytbaphjnglkocpaa", sum := "b506ce54781f862879c1c64959fceab57df3f2cbb2df9acc6cf48ddedf42838d", func := "palimpsest/palimpsestlaw04.JournalBooks", spec := "journalBooks", inPlace := ["sync/atomic.AddInt64"], apart := false, narrowed := true }
def JournalBooksUptoSaid : Prop := journalBooksUptoRow.holds Try.pinned (OpenSpec.upto journalBooksSpec)

/-- 'palimpsestlaw01.DiskOwns', WHERE WHAT IT READS IS OF BULK AT MOST 1048576: true; the input reads as it did. -/
def diskOwnsUptoRow : OpenClaim := { program := "ytbaphjnglkocpaa", sum := "b506ce54781f862879c1c64959fceab57df3f2cbb2df9acc6cf48ddedf42838d", func := "palimpsest/palimpsestlaw01.DiskOwns", spec := "diskOwns", inPlace := ["sync/atomic.AddInt64", "sync/atomic.LoadInt64"], unfollowed := true, recurses := true, apart := false, narrowed := true }
def DiskOwnsUptoSaid : Prop := diskOwnsUptoRow.holds Try.pinned (OpenSpec.upto diskOwnsSpec)

/-- 'palimpsestlaw01.DiskPlays', WHERE WHAT IT READS IS OF BULK AT MOST 1048576: true; the input reads as it did. -/
def diskPlaysUptoRow : OpenClaim := { program := "ytbaphjnglkocpaa", sum := "b506ce54781f862879c1c64959fceab57df3f2cbb2df9acc6cf48ddedf42838d", func := "palimpsest/palimpsestlaw01.DiskPlays", spec := "diskPlays", inPlace := ["sync/atomic.AddInt64", "sync/atomic.LoadInt64"], unfollowed := true, recurses := true, apart := false, narrowed := true }
def DiskPlaysUptoSaid : Prop := diskPlaysUptoRow.holds Try.pinned (OpenSpec.upto diskPlaysSpec)

/-- 'palimpsestlaw04.JournalNone', WHERE WHAT IT READS IS OF BULK AT MOST 1048576: true; the input reads as it did. -/
def journalNoneUptoRow : OpenClaim := { program := "ytbaphjnglkocpaa", sum := "b506ce54781f862879c1c64959fceab57df3f2cbb2df9acc6cf48ddedf42838d", func := "palimpsest/palimpsestlaw04.JournalNone", spec := "journalNone", inPlace := ["sync/atomic.AddInt64"], apart := false, narrowed := true }
def JournalNoneUptoSaid : Prop := journalNoneUptoRow.holds Try.pinned (OpenSpec.upto journalNoneSpec)

/-- 'palimpsestlaw03.SlotPlays', WHERE WHAT IT READS IS OF BULK AT MOST 1048576: true; the input reads as it did. -/
def slotPlaysUptoRow : OpenClaim := { program := "ytbaphjnglkocpaa", sum := "b506ce54781f862879c1c64959fceab57df3f2cbb2df9acc6cf48ddedf42838d", func := "palimpsest/palimpsestlaw03.SlotPlays", spec := "slotPlays", inPlace := ["sync/atomic.AddInt64"], unfollowed := true, recurses := true, apart := false, narrowed := true }
def SlotPlaysUptoSaid : Prop := slotPlaysUptoRow.holds Try.pinned (OpenSpec.upto slotPlaysSpec)

/-- 'palimpsestlaw04.JournalTwice', WHERE WHAT IT READS IS OF BULK AT MOST 1048576: true; the input reads as it did. -/
def journalTwiceUptoRow : OpenClaim := { program := "ytbaphjnglkocpaa", sum := "b506ce54781f862879c1c64959fceab57df3f2cbb2df9acc6cf48ddedf42838d", func := "palimpsest/palimpsestlaw04.JournalTwice", spec := "journalTwice", inPlace := ["sync/atomic.AddInt64"], unfollowed := true, recurses := true, apart := false, narrowed := true }
def JournalTwiceUptoSaid : Prop := journalTwiceUptoRow.holds Try.pinned (OpenSpec.upto journalTwiceSpec)

end Rows
end Go.Proofs.Ytbaphjnglkocpaa
