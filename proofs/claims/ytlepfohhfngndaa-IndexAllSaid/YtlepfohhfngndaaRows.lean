/-
  No cell of these rows narrows 'for every input' (looked for: loops, veiled, ifaces, maps, wideKeys, modest, calm, conditions, laid).
  DERIVED. THE GIVEN ROWS OF THIS SEAT. 5 by the template 'for every input the law returns true; each argument reads behind the call as it read before'; 0 by the template 'total and deterministic' (their statements: YtlepfohhfngndaaTotals.lean).
  GIVEN WITH THE SEED: the statements are not yours to turn. If you find one false, say at which input.
  Laid BY PROGRAM, IN A SANDBOX (cutbox-rows.mjs): the forced cells as the released guide's own fill.sh prints them over the translation 55a43ed1a9dd40b8… (all of the seat's roots in one cut). By AI agents, Wed Nov 11 2026. No macro, syntax, notation, axiom, sorry.
-/
import Derived.Test.YtlepfohhfngndaaChecked
import GoSem.Claim
import GoSem.ClaimJoined
import GoSem.ClaimMapViews
import Derived.JoinedTies
import Derived.KernelRfl
namespace Go.Proofs.Ytlepfohhfngndaa
/- THE CELL 'sum', in the pinned program and in every row, IS THE sha256 OF THE DUMP (.gsa) THAT YtlepfohhfngndaaProg.lean LOADS. Nothing in Lean hashes anything: it is a label: what it is worth is what the hold of that sum in a sandbox is worth. -/
noncomputable def Try.pinned : Pinned := { name := "ytlepfohhfngndaa", sum := "55a43ed1a9dd40b8b1a72c73700b1035e31eb87c4e0fee199acd3cbc0a4b46a9", checked := Try.checked }
namespace Rows
def none {H : Type} : Left H := { results := [], args := [] }

/-- 'stonecroplaw16.WheelPlays': WHATEVER THE INPUT: true; the input reads as it did. -/
def wheelPlaysSpec : ChangeSpec := { name := "wheelPlays", fn := fun _ => fun
  | [d] => { results := [.lit (.bool true)], args := [d] }
  | _ => none }
def wheelPlaysRow : OpenClaim := { program := "ytlepfohhfngndaa", sum := "55a43ed1a9dd40b8b1a72c73700b1035e31eb87c4e0fee199acd3cbc0a4b46a9", func := "stonecrop/stonecroplaw16.WheelPlays", spec := "wheelPlays", unfollowed := true, recurses := true, plainKeys := false, apart := false }
def WheelPlaysSaid : Prop := wheelPlaysRow.holds Try.pinned (OpenSpec.ofChange wheelPlaysSpec)

/-- ITS FALSE NEIGHBOUR: 'it returns false'. Refute it at one input. -/
def wheelPlaysWrong : ChangeSpec := { name := "wheelPlays", fn := fun _ => fun
  | [d] => { results := [.lit (.bool false)], args := [d] }
  | _ => none }
def WheelPlaysWrongFalsely : Prop := wheelPlaysRow.holds Try.pinned (OpenSpec.ofChange wheelPlaysWrong)

/-- 'stonecroplaw16.WheelOnce': WHATEVER THE INPUT: true; the input reads as it did. -/
def wheelOnceSpec : ChangeSpec := { name := "wheelOnce", fn := fun _ => fun
  | [d1, d2, d3, d4] => { results := [.lit (.bool true)], args := [d1, d2, d3, d4] }
  | _ => none }
def wheelOnceRow : OpenClaim := { program := "ytlepfohhfngndaa", sum := "55a43ed1a9dd40b8b1a72c73700b1035e31eb87c4e0fee199acd3cbc0a4b46a9", func := "stonecrop/stonecroplaw16.WheelOnce", spec := "wheelOnce", unfollowed := true, recurses := true, plainKeys := false, apart := false }
def WheelOnceSaid : Prop := wheelOnceRow.holds Try.pinned (OpenSpec.ofChange wheelOnceSpec)

/-- ITS FALSE NEIGHBOUR: 'it returns false'. Refute it at one input. -/
def wheelOnceWrong : ChangeSpec := { name := "wheelOnce", fn := fun _ => fun
  | [d1, d2, d3, d4] => { results := [.lit (.bool false)], args := [d1, d2, d3, d4] }
  | _ => none }
def WheelOnceWrongFalsely : Prop := wheelOnceRow.holds Try.pinned (OpenSpec.ofChange wheelOnceWrong)

/-- 'stonecroplaw17.IndexPlays': WHATEVER THE INPUT: true; the input reads as it did. -/
def indexPlaysSpec : ChangeSpec := { name := "indexPlays", fn := fun _ => fun
  | [d1, d2, d3] => { results := [.lit (.bool true)], args := [d1, d2, d3] }
  | _ => none }
def indexPlaysRow : OpenClaim := { program := "ytlepfohhfngndaa", sum := "55a43ed1a9dd40b8b1a72c73700b1035e31eb87c4e0fee199acd3cbc0a4b46a9", func := "stonecrop/stonecroplaw17.IndexPlays", spec := "indexPlays", unfollowed := true, recurses := true, plainKeys := false, apart := false }
def IndexPlaysSaid : Prop := indexPlaysRow.holds Try.pinned (OpenSpec.ofChange indexPlaysSpec)

/-- ITS FALSE NEIGHBOUR: 'it returns false'. Refute it at one input. -/
def indexPlaysWrong : ChangeSpec := { name := "indexPlays", fn := fun _ => fun
  | [d1, d2, d3] => { results := [.lit (.bool false)], args := [d1, d2, d3] }
  | _ => none }
def IndexPlaysWrongFalsely : Prop := indexPlaysRow.holds Try.pinned (OpenSpec.ofChange indexPlaysWrong)

/-- 'stonecroplaw17.IndexAll': WHATEVER THE INPUT: true; the input reads as it did. -/
def indexAllSpec : ChangeSpec := { name := "indexAll", fn := fun _ => fun
  | [d1, d2] => { results := [.lit (.bool true)], args := [d1, d2] }
  | _ => none }
def indexAllRow : OpenClaim := { program := "ytlepfohhfngndaa", sum := "55a43ed1a9dd40b8b1a72c73700b1035e31eb87c4e0fee199acd3cbc0a4b46a9", func := "stonecrop/stonecroplaw17.IndexAll", spec := "indexAll", unfollowed := true, recurses := true, plainKeys := false, apart := false }
def IndexAllSaid : Prop := indexAllRow.holds Try.pinned (OpenSpec.ofChange indexAllSpec)

/-- ITS FALSE NEIGHBOUR: 'it returns false'. Refute it at one input. -/
def indexAllWrong : ChangeSpec := { name := "indexAll", fn := fun _ => fun
  | [d1, d2] => { results := [.lit (.bool false)], args := [d1, d2] }
  | _ => none }
def IndexAllWrongFalsely : Prop := indexAllRow.holds Try.pinned (OpenSpec.ofChange indexAllWrong)

/-- 'stonecroplaw17.IndexMeets': WHATEVER THE INPUT: true; the input reads as it did. -/
def indexMeetsSpec : ChangeSpec := { name := "indexMeets", fn := fun _ => fun
  | [d1, d2, d3, d4, d5] => { results := [.lit (.bool true)], args := [d1, d2, d3, d4, d5] }
  | _ => none }
def indexMeetsRow : OpenClaim := { program := "ytlepfohhfngndaa", sum := "55a43ed1a9dd40b8b1a72c73700b1035e31eb87c4e0fee199acd3cbc0a4b46a9", func := "stonecrop/stonecroplaw17.IndexMeets", spec := "indexMeets", unfollowed := true, recurses := true, plainKeys := false, apart := false }
def IndexMeetsSaid : Prop := indexMeetsRow.holds Try.pinned (OpenSpec.ofChange indexMeetsSpec)

/-- ITS FALSE NEIGHBOUR: 'it returns false'. Refute it at one input. -/
def indexMeetsWrong : ChangeSpec := { name := "indexMeets", fn := fun _ => fun
  | [d1, d2, d3, d4, d5] => { results := [.lit (.bool false)], args := [d1, d2, d3, d4, d5] }
  | _ => none }
def IndexMeetsWrongFalsely : Prop := indexMeetsRow.holds Try.pinned (OpenSpec.ofChange indexMeetsWrong)

/- THE SECOND FORM. 'bulk': how many values and letters a reading holds, each counted each time it is reached (what is shared counts as often as it is met; a slice's spare places count too). A statement '..UptoSaid' is the law's where the arguments, and the package variables that the reading takes, are together of bulk at most 1048576: NARROWER than '..Said'. Prove '..Said' where nothing that the law and all that it calls make is longer than what came in: it says more and counts as full. Else prove '..UptoSaid'. A law counts once. -/
mutual
def uptoBulk {H : Type} : DataW H → Nat
  | .lit (.string bytes) => bytes.length + 1
  | .lit _ => 1
  | .nil => 1
  | .ptr d => uptoBulk d + 1
  | .slice elems spare => uptoBulkAll elems + uptoBulkAll spare + 1
  | .agg parts => uptoBulkAll parts + 1
  | .iface _ d => uptoBulk d + 1
  | .map entries => uptoBulkEntries entries + 1
  | .held _ => 1
def uptoBulkAll {H : Type} : List (DataW H) → Nat
  | [] => 0
  | d :: r => uptoBulk d + uptoBulkAll r
def uptoBulkEntries {H : Type} : List (Lit × DataW H) → Nat
  | [] => 0
  | x :: r => uptoBulkEntry x + uptoBulkEntries r
def uptoBulkEntry {H : Type} : Lit × DataW H → Nat
  | (.string bytes, d) => bytes.length + uptoBulk d + 1
  | (_, d) => uptoBulk d + 1
 end
def uptoSmall : (H : Type) → List (DataW H) → Bool := fun _ ds => decide (uptoBulkAll ds ≤ 1048576)
def OpenSpec.upto (s : _root_.Go.ChangeSpec) : _root_.Go.OpenSpec := { _root_.Go.OpenSpec.ofChange s with cond := some uptoSmall }

/-- 'stonecroplaw16.WheelPlays', WHERE WHAT IT READS IS OF BULK AT MOST 1048576: true; the input reads as it did. -/
def wheelPlaysUptoRow : OpenClaim := { program := "ytlepfohhfngndaa", sum := "55a43ed1a9dd40b8b1a72c73700b1035e31eb87c4e0fee199acd3cbc0a4b46a9", func := "stonecrop/stonecroplaw16.WheelPlays", spec := "wheelPlays", unfollowed := true, recurses := true, plainKeys := false, apart := false, narrowed := true }
def WheelPlaysUptoSaid : Prop := wheelPlaysUptoRow.holds Try.pinned (OpenSpec.upto wheelPlaysSpec)

/-- 'stonecroplaw16.WheelOnce', WHERE WHAT IT READS IS OF BULK AT MOST 1048576: true; the input reads as it did. -/
def wheelOnceUptoRow : OpenClaim := { program := "ytlepfohhfngndaa", sum := "55a43ed1a9dd40b8b1a72c73700b1035e31eb87c4e0fee199acd3cbc0a4b46a9", func := "stonecrop/stonecroplaw16.WheelOnce", spec := "wheelOnce", unfollowed := true, recurses := true, plainKeys := false, apart := false, narrowed := true }
def WheelOnceUptoSaid : Prop := wheelOnceUptoRow.holds Try.pinned (OpenSpec.upto wheelOnceSpec)

/-- 'stonecroplaw17.IndexPlays', WHERE WHAT IT READS IS OF BULK AT MOST 1048576: true; the input reads as it did. -/
def indexPlaysUptoRow : OpenClaim := { program := "ytlepfohhfngndaa", sum := "55a43ed1a9dd40b8b1a72c73700b1035e31eb87c4e0fee199acd3cbc0a4b46a9", func := "stonecrop/stonecroplaw17.IndexPlays", spec := "indexPlays", unfollowed := true, recurses := true, plainKeys := false, apart := false, narrowed := true }
def IndexPlaysUptoSaid : Prop := indexPlaysUptoRow.holds Try.pinned (OpenSpec.upto indexPlaysSpec)

/-- 'stonecroplaw17.IndexAll', WHERE WHAT IT READS IS OF BULK AT MOST 1048576: true; the input reads as it did. -/
def indexAllUptoRow : OpenClaim := { program := "ytlepfohhfngndaa", sum := "55a43ed1a9dd40b8b1a72c73700b1035e31eb87c4e0fee199acd3cbc0a4b46a9", func := "stonecrop/stonecroplaw17.IndexAll", spec := "indexAll", unfollowed := true, recurses := true, plainKeys := false, apart := false, narrowed := true }
def IndexAllUptoSaid : Prop := indexAllUptoRow.holds Try.pinned (OpenSpec.upto indexAllSpec)

/-- 'stonecroplaw17.IndexMeets', WHERE WHAT IT READS IS OF BULK AT MOST 1048576: true; the input reads as it did. -/
def indexMeetsUptoRow : OpenClaim := { program := "ytlepfohhfngndaa", sum := "55a43ed1a9dd40b8b1a72c73700b1035e31eb87c4e0fee199acd3cbc0a4b46a9", func := "stonecrop/stonecroplaw17.IndexMeets", spec := "indexMeets", unfollowed := true, recurses := true, plainKeys := false, apart := false, narrowed := true }
def IndexMeetsUptoSaid : Prop := indexMeetsUptoRow.holds Try.pinned (OpenSpec.upto indexMeetsSpec)

end Rows
end Go.Proofs.Ytlepfohhfngndaa
