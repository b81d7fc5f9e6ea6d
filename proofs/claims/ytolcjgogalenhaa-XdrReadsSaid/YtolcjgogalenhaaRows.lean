/-
  No cell of these rows narrows 'for every input' (looked for: loops, veiled, ifaces, maps, wideKeys, modest, calm, conditions, laid).
  DERIVED. THE GIVEN ROWS OF THIS SEAT. 8 by the template 'for every input the law returns true; each argument reads behind the call as it read before'; 0 by the template 'total and deterministic' (their statements: YtolcjgogalenhaaTotals.lean).
  GIVEN WITH THE SEED: the statements are not yours to turn. If you find one false, say at which input.
  Laid BY PROGRAM, IN A SANDBOX (cutbox-rows.mjs): the forced cells as the released guide's own fill.sh prints them over the translation 54fdc82539a4b2ca… (all of the seat's roots in one cut). By AI agents, Wed Nov 11 2026. No macro, syntax, notation, axiom, sorry.
-/
import Derived.Test.YtolcjgogalenhaaChecked
import GoSem.Claim
import GoSem.ClaimJoined
import GoSem.ClaimMapViews
import Derived.JoinedTies
import Derived.KernelRfl
namespace Go.Proofs.Ytolcjgogalenhaa
/- THE CELL 'sum', in the pinned program and in every row, IS THE sha256 OF THE DUMP (.gsa) THAT YtolcjgogalenhaaProg.lean LOADS. Nothing in Lean hashes anything: it is a label: what it is worth is what the hold of that sum in a sandbox is worth. -/
noncomputable def Try.pinned : Pinned := { name := "ytolcjgogalenhaa", sum := "54fdc82539a4b2ca026f4d81fe48a5bef895740ee5f748d8f8c5d0c5e8248bed", checked := Try.checked }
namespace Rows
def none {H : Type} : Left H := { results := [], args := [] }

/-- 'truchmanlaw01.XdrParts': WHATEVER THE INPUT: true; the input reads as it did. -/
def xdrPartsSpec : ChangeSpec := { name := "xdrParts", fn := fun _ => fun
  | [d1, d2] => { results := [.lit (.bool true)], args := [d1, d2] }
  | _ => none }
def xdrPartsRow : OpenClaim := { program := "ytolcjgogalenhaa", sum := "54fdc82539a4b2ca026f4d81fe48a5bef895740ee5f748d8f8c5d0c5e8248bed", func := "truchman/truchmanlaw01.XdrParts", spec := "xdrParts", apart := false }
def XdrPartsSaid : Prop := xdrPartsRow.holds Try.pinned (OpenSpec.ofChange xdrPartsSpec)

/-- ITS FALSE NEIGHBOUR: 'it returns false'. Refute it at one input. -/
def xdrPartsWrong : ChangeSpec := { name := "xdrParts", fn := fun _ => fun
  | [d1, d2] => { results := [.lit (.bool false)], args := [d1, d2] }
  | _ => none }
def XdrPartsWrongFalsely : Prop := xdrPartsRow.holds Try.pinned (OpenSpec.ofChange xdrPartsWrong)

/-- 'truchmanlaw01.XdrPuts': WHATEVER THE INPUT: true; the input reads as it did. -/
def xdrPutsSpec : ChangeSpec := { name := "xdrPuts", fn := fun _ => fun
  | [d1, d2, d3, d4, d5] => { results := [.lit (.bool true)], args := [d1, d2, d3, d4, d5] }
  | _ => none }
def xdrPutsRow : OpenClaim := { program := "ytolcjgogalenhaa", sum := "54fdc82539a4b2ca026f4d81fe48a5bef895740ee5f748d8f8c5d0c5e8248bed", func := "truchman/truchmanlaw01.XdrPuts", spec := "xdrPuts", apart := false }
def XdrPutsSaid : Prop := xdrPutsRow.holds Try.pinned (OpenSpec.ofChange xdrPutsSpec)

/-- ITS FALSE NEIGHBOUR: 'it returns false'. Refute it at one input. -/
def xdrPutsWrong : ChangeSpec := { name := "xdrPuts", fn := fun _ => fun
  | [d1, d2, d3, d4, d5] => { results := [.lit (.bool false)], args := [d1, d2, d3, d4, d5] }
  | _ => none }
def XdrPutsWrongFalsely : Prop := xdrPutsRow.holds Try.pinned (OpenSpec.ofChange xdrPutsWrong)

/-- 'truchmanlaw01.XdrOwns': WHATEVER THE INPUT: true; the input reads as it did. -/
def xdrOwnsSpec : ChangeSpec := { name := "xdrOwns", fn := fun _ => fun
  | [d1, d2] => { results := [.lit (.bool true)], args := [d1, d2] }
  | _ => none }
def xdrOwnsRow : OpenClaim := { program := "ytolcjgogalenhaa", sum := "54fdc82539a4b2ca026f4d81fe48a5bef895740ee5f748d8f8c5d0c5e8248bed", func := "truchman/truchmanlaw01.XdrOwns", spec := "xdrOwns", apart := false }
def XdrOwnsSaid : Prop := xdrOwnsRow.holds Try.pinned (OpenSpec.ofChange xdrOwnsSpec)

/-- ITS FALSE NEIGHBOUR: 'it returns false'. Refute it at one input. -/
def xdrOwnsWrong : ChangeSpec := { name := "xdrOwns", fn := fun _ => fun
  | [d1, d2] => { results := [.lit (.bool false)], args := [d1, d2] }
  | _ => none }
def XdrOwnsWrongFalsely : Prop := xdrOwnsRow.holds Try.pinned (OpenSpec.ofChange xdrOwnsWrong)

/-- 'truchmanlaw01.XdrPads': WHATEVER THE INPUT: true; the input reads as it did. -/
def xdrPadsSpec : ChangeSpec := { name := "xdrPads", fn := fun _ => fun
  | [d1, d2, d3, d4] => { results := [.lit (.bool true)], args := [d1, d2, d3, d4] }
  | _ => none }
def xdrPadsRow : OpenClaim := { program := "ytolcjgogalenhaa", sum := "54fdc82539a4b2ca026f4d81fe48a5bef895740ee5f748d8f8c5d0c5e8248bed", func := "truchman/truchmanlaw01.XdrPads", spec := "xdrPads", apart := false }
def XdrPadsSaid : Prop := xdrPadsRow.holds Try.pinned (OpenSpec.ofChange xdrPadsSpec)

/-- ITS FALSE NEIGHBOUR: 'it returns false'. Refute it at one input. -/
def xdrPadsWrong : ChangeSpec := { name := "xdrPads", fn := fun _ => fun
  | [d1, d2, d3, d4] => { results := [.lit (.bool false)], args := [d1, d2, d3, d4] }
  | _ => none }
def XdrPadsWrongFalsely : Prop := xdrPadsRow.holds Try.pinned (OpenSpec.ofChange xdrPadsWrong)

/-- 'truchmanlaw01.XdrReads': WHATEVER THE INPUT: true; the input reads as it did. -/
def xdrReadsSpec : ChangeSpec := { name := "xdrReads", fn := fun _ => fun
  | [d1, d2] => { results := [.lit (.bool true)], args := [d1, d2] }
  | _ => none }
def xdrReadsRow : OpenClaim := { program := "ytolcjgogalenhaa", sum := "54fdc82539a4b2ca026f4d81fe48a5bef895740ee5f748d8f8c5d0c5e8248bed", func := "truchman/truchmanlaw01.XdrReads", spec := "xdrReads", apart := false }
def XdrReadsSaid : Prop := xdrReadsRow.holds Try.pinned (OpenSpec.ofChange xdrReadsSpec)

/-- ITS FALSE NEIGHBOUR: 'it returns false'. Refute it at one input. -/
def xdrReadsWrong : ChangeSpec := { name := "xdrReads", fn := fun _ => fun
  | [d1, d2] => { results := [.lit (.bool false)], args := [d1, d2] }
  | _ => none }
def XdrReadsWrongFalsely : Prop := xdrReadsRow.holds Try.pinned (OpenSpec.ofChange xdrReadsWrong)

/-- 'truchmanlaw01.XdrRound': WHATEVER THE INPUT: true; the input reads as it did. -/
def xdrRoundSpec : ChangeSpec := { name := "xdrRound", fn := fun _ => fun
  | [d1, d2, d3, d4] => { results := [.lit (.bool true)], args := [d1, d2, d3, d4] }
  | _ => none }
def xdrRoundRow : OpenClaim := { program := "ytolcjgogalenhaa", sum := "54fdc82539a4b2ca026f4d81fe48a5bef895740ee5f748d8f8c5d0c5e8248bed", func := "truchman/truchmanlaw01.XdrRound", spec := "xdrRound", apart := false }
def XdrRoundSaid : Prop := xdrRoundRow.holds Try.pinned (OpenSpec.ofChange xdrRoundSpec)

/-- ITS FALSE NEIGHBOUR: 'it returns false'. Refute it at one input. -/
def xdrRoundWrong : ChangeSpec := { name := "xdrRound", fn := fun _ => fun
  | [d1, d2, d3, d4] => { results := [.lit (.bool false)], args := [d1, d2, d3, d4] }
  | _ => none }
def XdrRoundWrongFalsely : Prop := xdrRoundRow.holds Try.pinned (OpenSpec.ofChange xdrRoundWrong)

/-- 'truchmanlaw14.CallsSame': WHATEVER THE INPUT: true; the input reads as it did. -/
def callsSameSpec : ChangeSpec := { name := "callsSame", fn := fun _ => fun
  | [d1, d2, d3, d4, d5] => { results := [.lit (.bool true)], args := [d1, d2, d3, d4, d5] }
  | _ => none }
def callsSameRow : OpenClaim := { program := "ytolcjgogalenhaa", sum := "54fdc82539a4b2ca026f4d81fe48a5bef895740ee5f748d8f8c5d0c5e8248bed", func := "truchman/truchmanlaw14.CallsSame", spec := "callsSame", unfollowed := true, recurses := true, apart := false }
def CallsSameSaid : Prop := callsSameRow.holds Try.pinned (OpenSpec.ofChange callsSameSpec)

/-- ITS FALSE NEIGHBOUR: 'it returns false'. Refute it at one input. -/
def callsSameWrong : ChangeSpec := { name := "callsSame", fn := fun _ => fun
  | [d1, d2, d3, d4, d5] => { results := [.lit (.bool false)], args := [d1, d2, d3, d4, d5] }
  | _ => none }
def CallsSameWrongFalsely : Prop := callsSameRow.holds Try.pinned (OpenSpec.ofChange callsSameWrong)

/-- 'truchmanlaw14.CallsMay': WHATEVER THE INPUT: true; the input reads as it did. -/
def callsMaySpec : ChangeSpec := { name := "callsMay", fn := fun _ => fun
  | [d1, d2, d3, d4] => { results := [.lit (.bool true)], args := [d1, d2, d3, d4] }
  | _ => none }
def callsMayRow : OpenClaim := { program := "ytolcjgogalenhaa", sum := "54fdc82539a4b2ca026f4d81fe48a5bef895740ee5f748d8f8c5d0c5e8248bed", func := "truchman/truchmanlaw14.CallsMay", spec := "callsMay", unfollowed := true, recurses := true, apart := false }
def CallsMaySaid : Prop := callsMayRow.holds Try.pinned (OpenSpec.ofChange callsMaySpec)

/-- ITS FALSE NEIGHBOUR: 'it returns false'. Refute it at one input. -/
def callsMayWrong : ChangeSpec := { name := "callsMay", fn := fun _ => fun
  | [d1, d2, d3, d4] => { results := [.lit (.bool false)], args := [d1, d2, d3, d4] }
  | _ => none }
def CallsMayWrongFalsely : Prop := callsMayRow.holds Try.pinned (OpenSpec.ofChange callsMayWrong)

/- THE SECOND FORM. 'bulk': how many values and letters a reading holds, each counted each time it is reached (what is shared counts as often as it is met; a slice's spare places count too). A statement '..UptoSaid' is the law's where the arguments, and the package variables that the reading takes, are together of bulk at most 1048576: NARROWER than '..Said'. Prove '..Said' where nothing that the law and all that it calls make is longer than what came in: it says more and counts as full. Else prove '..UptoSaid'. A law counts once. -/
mutual
def uptoBulk {H : Type} : DataW H → Nat
  | .lit (.string bytes) => bytes.length + 1
  | .lit _ => 1
  | .nil => 1
  | .ptr d => uptoBulk d + 1
  | .slice elems spare => uptoBulkAll elems + uptoBulkAll spare + 1
  | .agg parts => uptoBulkAll parts + 1
  | .iface _ d => uptoBulk d + 1
  | .map entries => uptoBulkEntries entries + 1
  | .held _ => 1
def uptoBulkAll {H : Type} : List (DataW H) → Nat
  | [] => 0
  | d :: r => uptoBulk d + uptoBulkAll r
def uptoBulkEntries {H : Type} : List (Lit × DataW H) → Nat
  | [] => 0
  | x :: r => uptoBulkEntry x + uptoBulkEntries r
def uptoBulkEntry {H : Type} : Lit × DataW H → Nat
  | (.string bytes, d) => bytes.length + uptoBulk d + 1
  | (_, d) => uptoBulk d + 1
 end
def uptoSmall : (H : Type) → List (DataW H) → Bool := fun _ ds => decide (uptoBulkAll ds ≤ 1048576)
def OpenSpec.upto (s : _root_.Go.ChangeSpec) : _root_.Go.OpenSpec := { _root_.Go.OpenSpec.ofChange s with cond := some uptoSmall }

/-- 'truchmanlaw01.XdrParts', WHERE WHAT IT READS IS OF BULK AT MOST 1048576: true; the input reads as it did. -/
def xdrPartsUptoRow : OpenClaim := { program := "ytolcjgogalenhaa", sum := "54fdc82539a4b2ca026f4d81fe48a5bef895740ee5f748d8f8c5d0c5e8248bed", func := "truchman/truchmanlaw01.XdrParts", spec := "xdrParts", apart := false, narrowed := true }
def XdrPartsUptoSaid : Prop := xdrPartsUptoRow.holds Try.pinned (OpenSpec.upto xdrPartsSpec)

/-- 'truchmanlaw01.XdrPuts', WHERE WHAT IT READS IS OF BULK AT MOST 1048576: true; the input reads as it did. -/
def xdrPutsUptoRow : OpenClaim := { program := "ytolcjgogalenhaa", sum := "54fdc82539a4b2ca026f4d81fe48a5bef895740ee5f748d8f8c5d0c5e8248bed", func := "truchman/truchmanlaw01.XdrPuts", spec := "xdrPuts", apart := false, narrowed := true }
def XdrPutsUptoSaid : Prop := xdrPutsUptoRow.holds Try.pinned (OpenSpec.upto xdrPutsSpec)

/-- 'truchmanlaw01.XdrOwns', WHERE WHAT IT READS IS OF BULK AT MOST 1048576: true; the input reads as it did. -/
def xdrOwnsUptoRow : OpenClaim := { program := "ytolcjgogalenhaa", sum := "54fdc82539a4b2ca026f4d81fe48a5bef895740ee5f748d8f8c5d0c5e8248bed", func := "truchman/truchmanlaw01.XdrOwns", spec := "xdrOwns", apart := false, narrowed := true }
def XdrOwnsUptoSaid : Prop := xdrOwnsUptoRow.holds Try.pinned (OpenSpec.upto xdrOwnsSpec)

/-- 'truchmanlaw01.XdrPads', WHERE WHAT IT READS IS OF BULK AT MOST 1048576: true; the input reads as it did. -/
def xdrPadsUptoRow : OpenClaim := { program := "ytolcjgogalenhaa", sum := "54fdc82539a4b2ca026f4d81fe48a5bef895740ee5f748d8f8c5d0c5e8248bed", func := "truchman/truchmanlaw01.XdrPads", spec := "xdrPads", apart := false, narrowed := true }
def XdrPadsUptoSaid : Prop := xdrPadsUptoRow.holds Try.pinned (OpenSpec.upto xdrPadsSpec)

/-- 'truchmanlaw01.XdrReads', WHERE WHAT IT READS IS OF BULK AT MOST 1048576: true; the input reads as it did. -/
def xdrReadsUptoRow : OpenClaim := { program := "ytolcjgogalenhaa", sum := "54fdc82539a4b2ca026f4d81fe48a5bef895740ee5f748d8f8c5d0c5e8248bed", func := "truchman/truchmanlaw01.XdrReads", spec := "xdrReads", apart := false, narrowed := true }
def XdrReadsUptoSaid : Prop := xdrReadsUptoRow.holds Try.pinned (OpenSpec.upto xdrReadsSpec)

/-- 'truchmanlaw01.XdrRound', WHERE WHAT IT READS IS OF BULK AT MOST 1048576: true; the input reads as it did. -/
def xdrRoundUptoRow : OpenClaim := { program := "ytolcjgogalenhaa", sum := "54fdc82539a4b2ca026f4d81fe48a5bef895740ee5f748d8f8c5d0c5e8248bed", func := "truchman/truchmanlaw01.XdrRound", spec := "xdrRound", apart := false, narrowed := true }
def XdrRoundUptoSaid : Prop := xdrRoundUptoRow.holds Try.pinned (OpenSpec.upto xdrRoundSpec)

/-- 'truchmanlaw14.CallsSame', WHERE WHAT IT READS IS OF BULK AT MOST 1048576: true; the input reads as it did. -/
def callsSameUptoRow : OpenClaim := { program := "ytolcjgogalenhaa", sum := "54fdc82539a4b2ca026f4d81fe48a5bef895740ee5f748d8f8c5d0c5e8248bed", func := "truchman/truchmanlaw14.CallsSame", spec := "callsSame", unfollowed := true, recurses := true, apart := false, narrowed := true }
def CallsSameUptoSaid : Prop := callsSameUptoRow.holds Try.pinned (OpenSpec.upto callsSameSpec)

/-- 'truchmanlaw14.CallsMay', WHERE WHAT IT READS IS OF BULK AT MOST 1048576: true; the input reads as it did. -/
def callsMayUptoRow : OpenClaim := { program := "ytolcjgogalenhaa", sum := "54fdc82539a4b2ca026f4d81fe48a5bef895740ee5f748d8f8c5d0c5e8248bed", func := "truchman/truchmanlaw14.CallsMay", spec := "callsMay", unfollowed := true, recurses := true, apart := false, narrowed := true }
def CallsMayUptoSaid : Prop := callsMayUptoRow.holds Try.pinned (OpenSpec.upto callsMaySpec)

end Rows
end Go.Proofs.Ytolcjgogalenhaa
