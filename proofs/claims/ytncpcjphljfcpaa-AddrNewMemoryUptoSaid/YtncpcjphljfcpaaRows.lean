/-
  No cell of these rows narrows 'for every input' (looked for: loops, veiled, ifaces, maps, wideKeys, modest, calm, conditions, laid).
  DERIVED. THE GIVEN ROWS OF THIS SEAT. 6 by the template 'for every input the law returns true; each argument reads behind the call as it read before'; 0 by the template 'total and deterministic' (their statements: YtncpcjphljfcpaaTotals.lean).
  GIVEN WITH THE SEED: the statements are not yours to turn. If you find one false, say at which input.
  Laid BY PROGRAM, IN A SANDBOX (cutbox-rows.mjs): the forced cells as the released guide's own fill.sh prints them over the translation 7658ad62fdd2e961… (all of the seat's roots in one cut). By AI agents, Wed Nov 11 2026. No macro, syntax, notation, axiom, sorry.
-/
import Derived.Test.YtncpcjphljfcpaaChecked
import GoSem.Claim
import GoSem.ClaimJoined
import GoSem.ClaimMapViews
import Derived.JoinedTies
import Derived.KernelRfl
namespace Go.Proofs.Ytncpcjphljfcpaa
/- THE CELL 'sum', in the pinned program and in every row, IS THE sha256 OF THE DUMP (.gsa) THAT YtncpcjphljfcpaaProg.lean LOADS. Nothing in Lean hashes anything: it is a label: what it is worth is what the hold of that sum in a sandbox is worth. -/
noncomputable def Try.pinned : Pinned := { name := "ytncpcjphljfcpaa", sum := "7658ad62fdd2e96124a3cb709603abadd0d162a558180039cfec5e665ea0df24", checked := Try.checked }
namespace Rows
def none {H : Type} : Left H := { results := [], args := [] }

/-- 'weftlaw1.AddrCovers': WHATEVER THE INPUT: true; the input reads as it did. -/
def addrCoversSpec : ChangeSpec := { name := "addrCovers", fn := fun _ => fun
  | [d1, d2] => { results := [.lit (.bool true)], args := [d1, d2] }
  | _ => none }
def addrCoversRow : OpenClaim := { program := "ytncpcjphljfcpaa", sum := "7658ad62fdd2e96124a3cb709603abadd0d162a558180039cfec5e665ea0df24", func := "weft/weftlaw1.AddrCovers", spec := "addrCovers", recurses := true, apart := false }
def AddrCoversSaid : Prop := addrCoversRow.holds Try.pinned (OpenSpec.ofChange addrCoversSpec)

/-- ITS FALSE NEIGHBOUR: 'it returns false'. Refute it at one input. -/
def addrCoversWrong : ChangeSpec := { name := "addrCovers", fn := fun _ => fun
  | [d1, d2] => { results := [.lit (.bool false)], args := [d1, d2] }
  | _ => none }
def AddrCoversWrongFalsely : Prop := addrCoversRow.holds Try.pinned (OpenSpec.ofChange addrCoversWrong)

/-- 'weftlaw1.AddrCoverWhole': WHATEVER THE INPUT: true; the input reads as it did. -/
def addrCoverWholeSpec : ChangeSpec := { name := "addrCoverWhole", fn := fun _ => fun
  | [d1, d2] => { results := [.lit (.bool true)], args := [d1, d2] }
  | _ => none }
def addrCoverWholeRow : OpenClaim := { program := "ytncpcjphljfcpaa", sum := "7658ad62fdd2e96124a3cb709603abadd0d162a558180039cfec5e665ea0df24", func := "weft/weftlaw1.AddrCoverWhole", spec := "addrCoverWhole", apart := false }
def AddrCoverWholeSaid : Prop := addrCoverWholeRow.holds Try.pinned (OpenSpec.ofChange addrCoverWholeSpec)

/-- ITS FALSE NEIGHBOUR: 'it returns false'. Refute it at one input. -/
def addrCoverWholeWrong : ChangeSpec := { name := "addrCoverWhole", fn := fun _ => fun
  | [d1, d2] => { results := [.lit (.bool false)], args := [d1, d2] }
  | _ => none }
def AddrCoverWholeWrongFalsely : Prop := addrCoverWholeRow.holds Try.pinned (OpenSpec.ofChange addrCoverWholeWrong)

/-- 'weftlaw1.AddrTwoWays': WHATEVER THE INPUT: true; the input reads as it did. -/
def addrTwoWaysSpec : ChangeSpec := { name := "addrTwoWays", fn := fun _ => fun
  | [d1, d2] => { results := [.lit (.bool true)], args := [d1, d2] }
  | _ => none }
def addrTwoWaysRow : OpenClaim := { program := "ytncpcjphljfcpaa", sum := "7658ad62fdd2e96124a3cb709603abadd0d162a558180039cfec5e665ea0df24", func := "weft/weftlaw1.AddrTwoWays", spec := "addrTwoWays", recurses := true, apart := false }
def AddrTwoWaysSaid : Prop := addrTwoWaysRow.holds Try.pinned (OpenSpec.ofChange addrTwoWaysSpec)

/-- ITS FALSE NEIGHBOUR: 'it returns false'. Refute it at one input. -/
def addrTwoWaysWrong : ChangeSpec := { name := "addrTwoWays", fn := fun _ => fun
  | [d1, d2] => { results := [.lit (.bool false)], args := [d1, d2] }
  | _ => none }
def AddrTwoWaysWrongFalsely : Prop := addrTwoWaysRow.holds Try.pinned (OpenSpec.ofChange addrTwoWaysWrong)

/-- 'weftlaw1.AddrMerges': WHATEVER THE INPUT: true; the input reads as it did. -/
def addrMergesSpec : ChangeSpec := { name := "addrMerges", fn := fun _ => fun
  | [d] => { results := [.lit (.bool true)], args := [d] }
  | _ => none }
def addrMergesRow : OpenClaim := { program := "ytncpcjphljfcpaa", sum := "7658ad62fdd2e96124a3cb709603abadd0d162a558180039cfec5e665ea0df24", func := "weft/weftlaw1.AddrMerges", spec := "addrMerges", inPlace := ["internal/reflectlite.ValueOf", "internal/reflectlite.Swapper", "(internal/reflectlite.Value).Len"], unfollowed := true, recurses := true, apart := false }
def AddrMergesSaid : Prop := addrMergesRow.holds Try.pinned (OpenSpec.ofChange addrMergesSpec)

/-- ITS FALSE NEIGHBOUR: 'it returns false'. Refute it at one input. -/
def addrMergesWrong : ChangeSpec := { name := "addrMerges", fn := fun _ => fun
  | [d] => { results := [.lit (.bool false)], args := [d] }
  | _ => none }
def AddrMergesWrongFalsely : Prop := addrMergesRow.holds Try.pinned (OpenSpec.ofChange addrMergesWrong)

/-- 'weftlaw1.AddrMergeWhole': WHATEVER THE INPUT: true; the input reads as it did. -/
def addrMergeWholeSpec : ChangeSpec := { name := "addrMergeWhole", fn := fun _ => fun
  | [d1, d2] => { results := [.lit (.bool true)], args := [d1, d2] }
  | _ => none }
def addrMergeWholeRow : OpenClaim := { program := "ytncpcjphljfcpaa", sum := "7658ad62fdd2e96124a3cb709603abadd0d162a558180039cfec5e665ea0df24", func := "weft/weftlaw1.AddrMergeWhole", spec := "addrMergeWhole", inPlace := ["internal/reflectlite.ValueOf", "internal/reflectlite.Swapper", "(internal/reflectlite.Value).Len"], unfollowed := true, recurses := true, apart := false }
def AddrMergeWholeSaid : Prop := addrMergeWholeRow.holds Try.pinned (OpenSpec.ofChange addrMergeWholeSpec)

/-- ITS FALSE NEIGHBOUR: 'it returns false'. Refute it at one input. -/
def addrMergeWholeWrong : ChangeSpec := { name := "addrMergeWhole", fn := fun _ => fun
  | [d1, d2] => { results := [.lit (.bool false)], args := [d1, d2] }
  | _ => none }
def AddrMergeWholeWrongFalsely : Prop := addrMergeWholeRow.holds Try.pinned (OpenSpec.ofChange addrMergeWholeWrong)

/-- 'weftlaw1.AddrNewMemory': WHATEVER THE INPUT: true; the input reads as it did. -/
def addrNewMemorySpec : ChangeSpec := { name := "addrNewMemory", fn := fun _ => fun
  | [d1, d2, d3] => { results := [.lit (.bool true)], args := [d1, d2, d3] }
  | _ => none }
def addrNewMemoryRow : OpenClaim := { program := "ytncpcjphljfcpaa", sum := "7658ad62fdd2e96124a3cb709603abadd0d162a558180039cfec5e665ea0df24", func := "weft/weftlaw1.AddrNewMemory", spec := "addrNewMemory", inPlace := ["internal/reflectlite.ValueOf", "internal/reflectlite.Swapper", "(internal/reflectlite.Value).Len"], unfollowed := true, recurses := true, apart := false }
def AddrNewMemorySaid : Prop := addrNewMemoryRow.holds Try.pinned (OpenSpec.ofChange addrNewMemorySpec)

/-- ITS FALSE NEIGHBOUR: 'it returns false'. Refute it at one input. -/
def addrNewMemoryWrong : ChangeSpec := { name := "addrNewMemory", fn := fun _ => fun
  | [d1, d2, d3] => { results := [.lit (.bool false)], args := [d1, d2, d3] }
  | _ => none }
def AddrNewMemoryWrongFalsely : Prop := addrNewMemoryRow.holds Try.pinned (OpenSpec.ofChange addrNewMemoryWrong)

/- THE SECOND FORM. 'bulk': how many values and letters a reading holds, each counted each time it is reached (what is shared counts as often as it is met; a slice's spare places count too). A statement '..UptoSaid' is the law's where the arguments, and the package variables that the reading takes, are together of bulk at most 1048576: NARROWER than '..Said'. Prove '..Said' where nothing that the law and all that it calls make is longer than what came in: it says more and counts as full. Else prove '..UptoSaid'. A law counts once. -/
mutual
def uptoBulk {H : Type} : DataW H → Nat
  | .lit (.string bytes) => bytes.length + 1
  | .lit _ => 1
  | .nil => 1
  | .ptr d => uptoBulk d + 1
  | .slice elems spare => uptoBulkAll elems + uptoBulkAll spare + 1
  | .agg parts => uptoBulkAll parts + 1
  | .iface _ d => uptoBulk d + 1
  | .map entries => uptoBulkEntries entries + 1
  | .held _ => 1
def uptoBulkAll {H : Type} : List (DataW H) → Nat
  | [] => 0
  | d :: r => uptoBulk d + uptoBulkAll r
def uptoBulkEntries {H : Type} : List (Lit × DataW H) → Nat
  | [] => 0
  | x :: r => uptoBulkEntry x + uptoBulkEntries r
def uptoBulkEntry {H : Type} : Lit × DataW H → Nat
  | (.string bytes, d) => bytes.length + uptoBulk d + 1
  | (_, d) => uptoBulk d + 1
 end
def uptoSmall : (H : Type) → List (DataW H) → Bool := fun _ ds => decide (uptoBulkAll ds ≤ 1048576)
def OpenSpec.upto (s : _root_.Go.ChangeSpec) : _root_.Go.OpenSpec := { _root_.Go.OpenSpec.ofChange s with cond := some uptoSmall }

/-- 'weftlaw1.AddrCovers', WHERE WHAT IT READS IS OF BULK AT MOST 1048576: true; the input reads as it did. -/
def addrCoversUptoRow : OpenClaim := { program := "ytncpcjphljfcpaa", sum := "7658ad62fdd2e96124a3cb709603abadd0d162a558180039cfec5e665ea0df24", func := "weft/weftlaw1.AddrCovers", spec := "addrCovers", recurses := true, apart := false, narrowed := true }
def AddrCoversUptoSaid : Prop := addrCoversUptoRow.holds Try.pinned (OpenSpec.upto addrCoversSpec)

/-- 'weftlaw1.AddrCoverWhole', WHERE WHAT IT READS IS OF BULK AT MOST 1048576: true; the input reads as it did. -/
def addrCoverWholeUptoRow : OpenClaim := { program := "ytncpcjphljfcpaa", sum := "7658ad62fdd2e96124a3cb709603abadd0d162a558180039cfec5e665ea0df24", func := "weft/weftlaw1.AddrCoverWhole", spec := "addrCoverWhole", apart := false, narrowed := true }
def AddrCoverWholeUptoSaid : Prop := addrCoverWholeUptoRow.holds Try.pinned (OpenSpec.upto addrCoverWholeSpec)

/-- 'weftlaw1.AddrTwoWays', WHERE WHAT IT READS IS OF BULK AT MOST 1048576: true; the input reads as it did. -/
def addrTwoWaysUptoRow : OpenClaim := { program := "ytncpcjphljfcpaa", sum := "7658ad62fdd2e96124a3cb709603abadd0d162a558180039cfec5e665ea0df24", func := "weft/weftlaw1.AddrTwoWays", spec := "addrTwoWays", recurses := true, apart := false, narrowed := true }
def AddrTwoWaysUptoSaid : Prop := addrTwoWaysUptoRow.holds Try.pinned (OpenSpec.upto addrTwoWaysSpec)

/-- 'weftlaw1.AddrMerges', WHERE WHAT IT READS IS OF BULK AT MOST 1048576: true; the input reads as it did. -/
def addrMergesUptoRow : OpenClaim := { program := "ytncpcjphljfcpaa", sum := "7658ad62fdd2e96124a3cb709603abadd0d162a558180039cfec5e665ea0df24", func := "weft/weftlaw1.AddrMerges", spec := "addrMerges", inPlace := ["internal/reflectlite.ValueOf", "internal/reflectlite.Swapper", "(internal/reflectlite.Value).Len"], unfollowed := true, recurses := true, apart := false, narrowed := true }
def AddrMergesUptoSaid : Prop := addrMergesUptoRow.holds Try.pinned (OpenSpec.upto addrMergesSpec)

/-- 'weftlaw1.AddrMergeWhole', WHERE WHAT IT READS IS OF BULK AT MOST 1048576: true; the input reads as it did. -/
def addrMergeWholeUptoRow : OpenClaim := { program := "ytncpcjphljfcpaa", sum := "7658ad62fdd2e96124a3cb709603abadd0d162a558180039cfec5e665ea0df24", func := "weft/weftlaw1.AddrMergeWhole", spec := "addrMergeWhole", inPlace := ["internal/reflectlite.ValueOf", "internal/reflectlite.Swapper", "(internal/reflectlite.Value).Len"], unfollowed := true, recurses := true, apart := false, narrowed := true }
def AddrMergeWholeUptoSaid : Prop := addrMergeWholeUptoRow.holds Try.pinned (OpenSpec.upto addrMergeWholeSpec)

/-- 'weftlaw1.AddrNewMemory', WHERE WHAT IT READS IS OF BULK AT MOST 1048576: true; the input reads as it did. -/
def addrNewMemoryUptoRow : OpenClaim := { program := "ytncpcjphljfcpaa", sum := "7658ad62fdd2e96124a3cb709603abadd0d162a558180039cfec5e665ea0df24", func := "weft/weftlaw1.AddrNewMemory", spec := "addrNewMemory", inPlace := ["internal/reflectlite.ValueOf", "internal/reflectlite.Swapper", "(internal/reflectlite.Value).Len"], unfollowed := true, recurses := true, apart := false, narrowed := true }
def AddrNewMemoryUptoSaid : Prop := addrNewMemoryUptoRow.holds Try.pinned (OpenSpec.upto addrNewMemorySpec)

end Rows
end Go.Proofs.Ytncpcjphljfcpaa
