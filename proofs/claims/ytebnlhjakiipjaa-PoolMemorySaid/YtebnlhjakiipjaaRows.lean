/-
  No cell of these rows narrows 'for every input' (looked for: loops, veiled, ifaces, maps, wideKeys, modest, calm, conditions, laid).
  DERIVED. THE GIVEN ROWS OF THIS SEAT. 6 by the template 'for every input the law returns true; each argument reads behind the call as it read before'; 0 by the template 'total and deterministic' (their statements: YtebnlhjakiipjaaTotals.lean).
  GIVEN WITH THE SEED: the statements are not yours to turn. If you find one false, say at which input.
  Laid BY PROGRAM, IN A SANDBOX (cutbox-rows.mjs): the forced cells as the released guide's own fill.sh prints them over the translation ae8a76632d59e624… (all of the seat's roots in one cut). By AI agents, Wed Nov 11 2026. No macro, syntax, notation, axiom, sorry.
-/
import Derived.Test.YtebnlhjakiipjaaChecked
import GoSem.Claim
import GoSem.ClaimJoined
import GoSem.ClaimMapViews
import Derived.JoinedTies
import Derived.KernelRfl
namespace Go.Proofs.Ytebnlhjakiipjaa
/- THE CELL 'sum', in the pinned program and in every row, IS THE sha256 OF THE DUMP (.gsa) THAT YtebnlhjakiipjaaProg.lean LOADS. Nothing in Lean hashes anything: it is a label: what it is worth is what the hold of that sum in a sandbox is worth. -/
noncomputable def Try.pinned : Pinned := { name := "ytebnlhjakiipjaa", sum := "ae8a76632d59e624bdf2adf35fb4d4318f40485943d1b4da0b5f5e95285b5bb6", checked := Try.checked }
namespace Rows
def none {H : Type} : Left H := { results := [], args := [] }

/-- 'weftlaw10.PoolNews': WHATEVER THE INPUT: true; the input reads as it did. -/
def poolNewsSpec : ChangeSpec := { name := "poolNews", fn := fun _ => fun
  | [d] => { results := [.lit (.bool true)], args := [d] }
  | _ => none }
def poolNewsRow : OpenClaim := { program := "ytebnlhjakiipjaa", sum := "ae8a76632d59e624bdf2adf35fb4d4318f40485943d1b4da0b5f5e95285b5bb6", func := "weft/weftlaw10.PoolNews", spec := "poolNews", inPlace := ["internal/reflectlite.ValueOf", "internal/reflectlite.Swapper", "(internal/reflectlite.Value).Len"], unfollowed := true, recurses := true, apart := false }
def PoolNewsSaid : Prop := poolNewsRow.holds Try.pinned (OpenSpec.ofChange poolNewsSpec)

/-- ITS FALSE NEIGHBOUR: 'it returns false'. Refute it at one input. -/
def poolNewsWrong : ChangeSpec := { name := "poolNews", fn := fun _ => fun
  | [d] => { results := [.lit (.bool false)], args := [d] }
  | _ => none }
def PoolNewsWrongFalsely : Prop := poolNewsRow.holds Try.pinned (OpenSpec.ofChange poolNewsWrong)

/-- 'weftlaw10.PoolRooms': WHATEVER THE INPUT: true; the input reads as it did. -/
def poolRoomsSpec : ChangeSpec := { name := "poolRooms", fn := fun _ => fun
  | [d1, d2] => { results := [.lit (.bool true)], args := [d1, d2] }
  | _ => none }
def poolRoomsRow : OpenClaim := { program := "ytebnlhjakiipjaa", sum := "ae8a76632d59e624bdf2adf35fb4d4318f40485943d1b4da0b5f5e95285b5bb6", func := "weft/weftlaw10.PoolRooms", spec := "poolRooms", inPlace := ["internal/reflectlite.ValueOf", "internal/reflectlite.Swapper", "(internal/reflectlite.Value).Len"], unfollowed := true, recurses := true, apart := false }
def PoolRoomsSaid : Prop := poolRoomsRow.holds Try.pinned (OpenSpec.ofChange poolRoomsSpec)

/-- ITS FALSE NEIGHBOUR: 'it returns false'. Refute it at one input. -/
def poolRoomsWrong : ChangeSpec := { name := "poolRooms", fn := fun _ => fun
  | [d1, d2] => { results := [.lit (.bool false)], args := [d1, d2] }
  | _ => none }
def PoolRoomsWrongFalsely : Prop := poolRoomsRow.holds Try.pinned (OpenSpec.ofChange poolRoomsWrong)

/-- 'weftlaw10.PoolPlays': WHATEVER THE INPUT: true; the input reads as it did. -/
def poolPlaysSpec : ChangeSpec := { name := "poolPlays", fn := fun _ => fun
  | [d1, d2, d3] => { results := [.lit (.bool true)], args := [d1, d2, d3] }
  | _ => none }
def poolPlaysRow : OpenClaim := { program := "ytebnlhjakiipjaa", sum := "ae8a76632d59e624bdf2adf35fb4d4318f40485943d1b4da0b5f5e95285b5bb6", func := "weft/weftlaw10.PoolPlays", spec := "poolPlays", inPlace := ["internal/reflectlite.ValueOf", "internal/reflectlite.Swapper", "(internal/reflectlite.Value).Len"], unfollowed := true, recurses := true, apart := false }
def PoolPlaysSaid : Prop := poolPlaysRow.holds Try.pinned (OpenSpec.ofChange poolPlaysSpec)

/-- ITS FALSE NEIGHBOUR: 'it returns false'. Refute it at one input. -/
def poolPlaysWrong : ChangeSpec := { name := "poolPlays", fn := fun _ => fun
  | [d1, d2, d3] => { results := [.lit (.bool false)], args := [d1, d2, d3] }
  | _ => none }
def PoolPlaysWrongFalsely : Prop := poolPlaysRow.holds Try.pinned (OpenSpec.ofChange poolPlaysWrong)

/-- 'weftlaw10.PoolLowest': WHATEVER THE INPUT: true; the input reads as it did. -/
def poolLowestSpec : ChangeSpec := { name := "poolLowest", fn := fun _ => fun
  | [d1, d2] => { results := [.lit (.bool true)], args := [d1, d2] }
  | _ => none }
def poolLowestRow : OpenClaim := { program := "ytebnlhjakiipjaa", sum := "ae8a76632d59e624bdf2adf35fb4d4318f40485943d1b4da0b5f5e95285b5bb6", func := "weft/weftlaw10.PoolLowest", spec := "poolLowest", inPlace := ["internal/reflectlite.ValueOf", "internal/reflectlite.Swapper", "(internal/reflectlite.Value).Len"], unfollowed := true, recurses := true, apart := false }
def PoolLowestSaid : Prop := poolLowestRow.holds Try.pinned (OpenSpec.ofChange poolLowestSpec)

/-- ITS FALSE NEIGHBOUR: 'it returns false'. Refute it at one input. -/
def poolLowestWrong : ChangeSpec := { name := "poolLowest", fn := fun _ => fun
  | [d1, d2] => { results := [.lit (.bool false)], args := [d1, d2] }
  | _ => none }
def PoolLowestWrongFalsely : Prop := poolLowestRow.holds Try.pinned (OpenSpec.ofChange poolLowestWrong)

/-- 'weftlaw10.PoolSets': WHATEVER THE INPUT: true; the input reads as it did. -/
def poolSetsSpec : ChangeSpec := { name := "poolSets", fn := fun _ => fun
  | [d1, d2, d3] => { results := [.lit (.bool true)], args := [d1, d2, d3] }
  | _ => none }
def poolSetsRow : OpenClaim := { program := "ytebnlhjakiipjaa", sum := "ae8a76632d59e624bdf2adf35fb4d4318f40485943d1b4da0b5f5e95285b5bb6", func := "weft/weftlaw10.PoolSets", spec := "poolSets", inPlace := ["internal/reflectlite.ValueOf", "internal/reflectlite.Swapper", "(internal/reflectlite.Value).Len"], unfollowed := true, recurses := true, apart := false }
def PoolSetsSaid : Prop := poolSetsRow.holds Try.pinned (OpenSpec.ofChange poolSetsSpec)

/-- ITS FALSE NEIGHBOUR: 'it returns false'. Refute it at one input. -/
def poolSetsWrong : ChangeSpec := { name := "poolSets", fn := fun _ => fun
  | [d1, d2, d3] => { results := [.lit (.bool false)], args := [d1, d2, d3] }
  | _ => none }
def PoolSetsWrongFalsely : Prop := poolSetsRow.holds Try.pinned (OpenSpec.ofChange poolSetsWrong)

/-- 'weftlaw10.PoolMemory': WHATEVER THE INPUT: true; the input reads as it did. -/
def poolMemorySpec : ChangeSpec := { name := "poolMemory", fn := fun _ => fun
  | [d1, d2] => { results := [.lit (.bool true)], args := [d1, d2] }
  | _ => none }
def poolMemoryRow : OpenClaim := { program := "ytebnlhjakiipjaa", sum := "ae8a76632d59e624bdf2adf35fb4d4318f40485943d1b4da0b5f5e95285b5bb6", func := "weft/weftlaw10.PoolMemory", spec := "poolMemory", inPlace := ["internal/reflectlite.ValueOf", "internal/reflectlite.Swapper", "(internal/reflectlite.Value).Len"], unfollowed := true, recurses := true, apart := false }
def PoolMemorySaid : Prop := poolMemoryRow.holds Try.pinned (OpenSpec.ofChange poolMemorySpec)

/-- ITS FALSE NEIGHBOUR: 'it returns false'. Refute it at one input. -/
def poolMemoryWrong : ChangeSpec := { name := "poolMemory", fn := fun _ => fun
  | [d1, d2] => { results := [.lit (.bool false)], args := [d1, d2] }
  | _ => none }
def PoolMemoryWrongFalsely : Prop := poolMemoryRow.holds Try.pinned (OpenSpec.ofChange poolMemoryWrong)

/- THE SECOND FORM. 'bulk': how many values and letters a reading holds, each counted each time it is reached (what is shared counts as often as it is met; a slice's spare places count too). A statement '..UptoSaid' is the law's where the arguments, and the package variables that the reading takes, are together of bulk at most 1048576: NARROWER than '..Said'. Prove '..Said' where nothing that the law and all that it calls make is longer than what came in: it says more and counts as full. Else prove '..UptoSaid'. A law counts once. -/
mutual
def uptoBulk {H : Type} : DataW H → Nat
  | .lit (.string bytes) => bytes.length + 1
  | .lit _ => 1
  | .nil => 1
  | .ptr d => uptoBulk d + 1
  | .slice elems spare => uptoBulkAll elems + uptoBulkAll spare + 1
  | .agg parts => uptoBulkAll parts + 1
  | .iface _ d => uptoBulk d + 1
  | .map entries => uptoBulkEntries entries + 1
  | .held _ => 1
def uptoBulkAll {H : Type} : List (DataW H) → Nat
  | [] => 0
  | d :: r => uptoBulk d + uptoBulkAll r
def uptoBulkEntries {H : Type} : List (Lit × DataW H) → Nat
  | [] => 0
  | x :: r => uptoBulkEntry x + uptoBulkEntries r
def uptoBulkEntry {H : Type} : Lit × DataW H → Nat
  | (.string bytes, d) => bytes.length + uptoBulk d + 1
  | (_, d) => uptoBulk d + 1
 end
def uptoSmall : (H : Type) → List (DataW H) → Bool := fun _ ds => decide (uptoBulkAll ds ≤ 1048576)
def OpenSpec.upto (s : _root_.Go.ChangeSpec) : _root_.Go.OpenSpec := { _root_.Go.OpenSpec.ofChange s with cond := some uptoSmall }

/-- 'weftlaw10.PoolNews', WHERE WHAT IT READS IS OF BULK AT MOST 1048576: true; the input reads as it did. -/
def poolNewsUptoRow : OpenClaim := { program := "ytebnlhjakiipjaa", sum := "ae8a76632d59e624bdf2adf35fb4d4318f40485943d1b4da0b5f5e95285b5bb6", func := "weft/weftlaw10.PoolNews", spec := "poolNews", inPlace := ["internal/reflectlite.ValueOf", "internal/reflectlite.Swapper", "(internal/reflectlite.Value).Len"], unfollowed := true, recurses := true, apart := false, narrowed := true }
def PoolNewsUptoSaid : Prop := poolNewsUptoRow.holds Try.pinned (OpenSpec.upto poolNewsSpec)

/-- 'weftlaw10.PoolRooms', WHERE WHAT IT READS IS OF BULK AT MOST 1048576: true; the input reads as it did. -/
def poolRoomsUptoRow : OpenClaim := { program := "ytebnlhjakiipjaa", sum := "ae8a76632d59e624bdf2adf35fb4d4318f40485943d1b4da0b5f5e95285b5bb6", func := "weft/weftlaw10.PoolRooms", spec := "poolRooms", inPlace := ["internal/reflectlite.ValueOf", "internal/reflectlite.Swapper", "(internal/reflectlite.Value).Len"], unfollowed := true, recurses := true, apart := false, narrowed := true }
def PoolRoomsUptoSaid : Prop := poolRoomsUptoRow.holds Try.pinned (OpenSpec.upto poolRoomsSpec)

/-- 'weftlaw10.PoolPlays', WHERE WHAT IT READS IS OF BULK AT MOST 1048576: true; the input reads as it did. -/
def poolPlaysUptoRow : OpenClaim := { program := "ytebnlhjakiipjaa", sum := "ae8a76632d59e624bdf2adf35fb4d4318f40485943d1b4da0b5f5e95285b5bb6", func := "weft/weftlaw10.PoolPlays", spec := "poolPlays", inPlace := ["internal/reflectlite.ValueOf", "internal/reflectlite.Swapper", "(internal/reflectlite.Value).Len"], unfollowed := true, recurses := true, apart := false, narrowed := true }
def PoolPlaysUptoSaid : Prop := poolPlaysUptoRow.holds Try.pinned (OpenSpec.upto poolPlaysSpec)

/-- 'weftlaw10.PoolLowest', WHERE WHAT IT READS IS OF BULK AT MOST 1048576: true; the input reads as it did. -/
def poolLowestUptoRow : OpenClaim := { program := "ytebnlhjakiipjaa", sum := "ae8a76632d59e624bdf2adf35fb4d4318f40485943d1b4da0b5f5e95285b5bb6", func := "weft/weftlaw10.PoolLowest", spec := "poolLowest", inPlace := ["internal/reflectlite.ValueOf", "internal/reflectlite.Swapper", "(internal/reflectlite.Value).Len"], unfollowed := true, recurses := true, apart := false, narrowed := true }
def PoolLowestUptoSaid : Prop := poolLowestUptoRow.holds Try.pinned (OpenSpec.upto poolLowestSpec)

/-- 'weftlaw10.PoolSets', WHERE WHAT IT READS IS OF BULK AT MOST 1048576: true; the input reads as it did. -/
def poolSetsUptoRow : OpenClaim := { program := "ytebnlhjakiipjaa", sum := "ae8a76632d59e624bdf2adf35fb4d4318f40485943d1b4da0b5f5e95285b5bb6", func := "weft/weftlaw10.PoolSets", spec := "poolSets", inPlace := ["internal/reflectlite.ValueOf", "internal/reflectlite.Swapper", "(internal/reflectlite.Value).Len"], unfollowed := true, recurses := true, apart := false, narrowed := true }
def PoolSetsUptoSaid : Prop := poolSetsUptoRow.holds Try.pinned (OpenSpec.upto poolSetsSpec)

/-- 'weftlaw10.PoolMemory', WHERE WHAT IT READS IS OF BULK AT MOST 1048576: true; the input reads as it did. -/
def poolMemoryUptoRow : OpenClaim := { program := "ytebnlhjakiipjaa", sum := "ae8a76632d59e624bdf2adf35fb4d4318f40485943d1b4da0b5f5e95285b5bb6", func := "weft/weftlaw10.PoolMemory", spec := "poolMemory", inPlace := ["internal/reflectlite.ValueOf", "internal/reflectlite.Swapper", "(internal/reflectlite.Value).Len"], unfollowed := true, recurses := true, apart := false, narrowed := true }
def PoolMemoryUptoSaid : Prop := poolMemoryUptoRow.holds Try.pinned (OpenSpec.upto poolMemorySpec)

end Rows
end Go.Proofs.Ytebnlhjakiipjaa
