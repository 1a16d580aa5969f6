/-
  No cell of these rows narrows 'for every input' (looked for: loops, veiled, ifaces, maps, wideKeys, modest, calm, conditions, laid).
  DERIVED. THE GIVEN ROWS OF THIS SEAT. 12 by the template 'for every input the law returns true; each argument reads behind the call as it read before'; 0 by the template 'total and deterministic' (their statements: YtgabkifojnkbkaaTotals.lean).
  GIVEN WITH THE SEED: the statements are not yours to turn. If you find one false, say at which input.
  Laid BY PROGRAM, IN A SANDBOX (cutbox-rows.mjs): the forced cells as the released guide's own fill.sh prints them over the translation e6812687ed0cb866… (all of the seat's roots in one cut). By AI agents, Wed Nov 11 2026. No macro, syntax, notation, axiom, sorry.
-/
import Derived.Test.YtgabkifojnkbkaaChecked
import GoSem.Claim
import GoSem.ClaimJoined
import GoSem.ClaimMapViews
import Derived.JoinedTies
import Derived.KernelRfl
namespace Go.Proofs.Ytgabkifojnkbkaa
/- THE CELL 'sum', in the pinned program and in every row, IS THE sha256 OF THE DUMP (.gsa) THAT YtgabkifojnkbkaaProg.lean LOADS. Nothing in Lean hashes anything: it is a label: what it is worth is what the hold of that sum in a sandbox is worth. -/
noncomputable def Try.pinned : Pinned := { name := "ytgabkifojnkbkaa", sum := "e6812687ed0cb86650d16d547457d102d23afd3991b69728322bc569762b4224", checked := Try.checked }
namespace Rows
def none {H : Type} : Left H := { results := [], args := [] }

/-- 'weftlaw15.IpamNews': WHATEVER THE INPUT: true; the input reads as it did. -/
def ipamNewsSpec : ChangeSpec := { name := "ipamNews", fn := fun _ => fun
  | [d] => { results := [.lit (.bool true)], args := [d] }
  | _ => none }
def ipamNewsRow : OpenClaim := { program := "ytgabkifojnkbkaa", sum := "e6812687ed0cb86650d16d547457d102d23afd3991b69728322bc569762b4224", func := "weft/weftlaw15.IpamNews", spec := "ipamNews", unfollowed := true, recurses := true, apart := false }
def IpamNewsSaid : Prop := ipamNewsRow.holds Try.pinned (OpenSpec.ofChange ipamNewsSpec)

/-- ITS FALSE NEIGHBOUR: 'it returns false'. Refute it at one input. -/
def ipamNewsWrong : ChangeSpec := { name := "ipamNews", fn := fun _ => fun
  | [d] => { results := [.lit (.bool false)], args := [d] }
  | _ => none }
def IpamNewsWrongFalsely : Prop := ipamNewsRow.holds Try.pinned (OpenSpec.ofChange ipamNewsWrong)

/-- 'weftlaw15.IpamAdds': WHATEVER THE INPUT: true; the input reads as it did. -/
def ipamAddsSpec : ChangeSpec := { name := "ipamAdds", fn := fun _ => fun
  | [d1, d2] => { results := [.lit (.bool true)], args := [d1, d2] }
  | _ => none }
def ipamAddsRow : OpenClaim := { program := "ytgabkifojnkbkaa", sum := "e6812687ed0cb86650d16d547457d102d23afd3991b69728322bc569762b4224", func := "weft/weftlaw15.IpamAdds", spec := "ipamAdds", unfollowed := true, recurses := true, apart := false }
def IpamAddsSaid : Prop := ipamAddsRow.holds Try.pinned (OpenSpec.ofChange ipamAddsSpec)

/-- ITS FALSE NEIGHBOUR: 'it returns false'. Refute it at one input. -/
def ipamAddsWrong : ChangeSpec := { name := "ipamAdds", fn := fun _ => fun
  | [d1, d2] => { results := [.lit (.bool false)], args := [d1, d2] }
  | _ => none }
def IpamAddsWrongFalsely : Prop := ipamAddsRow.holds Try.pinned (OpenSpec.ofChange ipamAddsWrong)

/-- 'weftlaw15.IpamDels': WHATEVER THE INPUT: true; the input reads as it did. -/
def ipamDelsSpec : ChangeSpec := { name := "ipamDels", fn := fun _ => fun
  | [d1, d2] => { results := [.lit (.bool true)], args := [d1, d2] }
  | _ => none }
def ipamDelsRow : OpenClaim := { program := "ytgabkifojnkbkaa", sum := "e6812687ed0cb86650d16d547457d102d23afd3991b69728322bc569762b4224", func := "weft/weftlaw15.IpamDels", spec := "ipamDels", unfollowed := true, recurses := true, apart := false }
def IpamDelsSaid : Prop := ipamDelsRow.holds Try.pinned (OpenSpec.ofChange ipamDelsSpec)

/-- ITS FALSE NEIGHBOUR: 'it returns false'. Refute it at one input. -/
def ipamDelsWrong : ChangeSpec := { name := "ipamDels", fn := fun _ => fun
  | [d1, d2] => { results := [.lit (.bool false)], args := [d1, d2] }
  | _ => none }
def IpamDelsWrongFalsely : Prop := ipamDelsRow.holds Try.pinned (OpenSpec.ofChange ipamDelsWrong)

/-- 'weftlaw15.IpamFinds': WHATEVER THE INPUT: true; the input reads as it did. -/
def ipamFindsSpec : ChangeSpec := { name := "ipamFinds", fn := fun _ => fun
  | [d1, d2] => { results := [.lit (.bool true)], args := [d1, d2] }
  | _ => none }
def ipamFindsRow : OpenClaim := { program := "ytgabkifojnkbkaa", sum := "e6812687ed0cb86650d16d547457d102d23afd3991b69728322bc569762b4224", func := "weft/weftlaw15.IpamFinds", spec := "ipamFinds", unfollowed := true, recurses := true, apart := false }
def IpamFindsSaid : Prop := ipamFindsRow.holds Try.pinned (OpenSpec.ofChange ipamFindsSpec)

/-- ITS FALSE NEIGHBOUR: 'it returns false'. Refute it at one input. -/
def ipamFindsWrong : ChangeSpec := { name := "ipamFinds", fn := fun _ => fun
  | [d1, d2] => { results := [.lit (.bool false)], args := [d1, d2] }
  | _ => none }
def IpamFindsWrongFalsely : Prop := ipamFindsRow.holds Try.pinned (OpenSpec.ofChange ipamFindsWrong)

/-- 'weftlaw15.IpamLists': WHATEVER THE INPUT: true; the input reads as it did. -/
def ipamListsSpec : ChangeSpec := { name := "ipamLists", fn := fun _ => fun
  | [d1, d2] => { results := [.lit (.bool true)], args := [d1, d2] }
  | _ => none }
def ipamListsRow : OpenClaim := { program := "ytgabkifojnkbkaa", sum := "e6812687ed0cb86650d16d547457d102d23afd3991b69728322bc569762b4224", func := "weft/weftlaw15.IpamLists", spec := "ipamLists", unfollowed := true, recurses := true, apart := false }
def IpamListsSaid : Prop := ipamListsRow.holds Try.pinned (OpenSpec.ofChange ipamListsSpec)

/-- ITS FALSE NEIGHBOUR: 'it returns false'. Refute it at one input. -/
def ipamListsWrong : ChangeSpec := { name := "ipamLists", fn := fun _ => fun
  | [d1, d2] => { results := [.lit (.bool false)], args := [d1, d2] }
  | _ => none }
def IpamListsWrongFalsely : Prop := ipamListsRow.holds Try.pinned (OpenSpec.ofChange ipamListsWrong)

/-- 'weftlaw15.IpamAll': WHATEVER THE INPUT: true; the input reads as it did. -/
def ipamAllSpec : ChangeSpec := { name := "ipamAll", fn := fun _ => fun
  | [d1, d2] => { results := [.lit (.bool true)], args := [d1, d2] }
  | _ => none }
def ipamAllRow : OpenClaim := { program := "ytgabkifojnkbkaa", sum := "e6812687ed0cb86650d16d547457d102d23afd3991b69728322bc569762b4224", func := "weft/weftlaw15.IpamAll", spec := "ipamAll", unfollowed := true, recurses := true, apart := false }
def IpamAllSaid : Prop := ipamAllRow.holds Try.pinned (OpenSpec.ofChange ipamAllSpec)

/-- ITS FALSE NEIGHBOUR: 'it returns false'. Refute it at one input. -/
def ipamAllWrong : ChangeSpec := { name := "ipamAll", fn := fun _ => fun
  | [d1, d2] => { results := [.lit (.bool false)], args := [d1, d2] }
  | _ => none }
def IpamAllWrongFalsely : Prop := ipamAllRow.holds Try.pinned (OpenSpec.ofChange ipamAllWrong)

/-- 'weftlaw15.IpamTwo': WHATEVER THE INPUT: true; the input reads as it did. -/
def ipamTwoSpec : ChangeSpec := { name := "ipamTwo", fn := fun _ => fun
  | [d1, d2, d3, d4] => { results := [.lit (.bool true)], args := [d1, d2, d3, d4] }
  | _ => none }
def ipamTwoRow : OpenClaim := { program := "ytgabkifojnkbkaa", sum := "e6812687ed0cb86650d16d547457d102d23afd3991b69728322bc569762b4224", func := "weft/weftlaw15.IpamTwo", spec := "ipamTwo", unfollowed := true, recurses := true, apart := false }
def IpamTwoSaid : Prop := ipamTwoRow.holds Try.pinned (OpenSpec.ofChange ipamTwoSpec)

/-- ITS FALSE NEIGHBOUR: 'it returns false'. Refute it at one input. -/
def ipamTwoWrong : ChangeSpec := { name := "ipamTwo", fn := fun _ => fun
  | [d1, d2, d3, d4] => { results := [.lit (.bool false)], args := [d1, d2, d3, d4] }
  | _ => none }
def IpamTwoWrongFalsely : Prop := ipamTwoRow.holds Try.pinned (OpenSpec.ofChange ipamTwoWrong)

/-- 'weftlaw15.IpamOnce': WHATEVER THE INPUT: true; the input reads as it did. -/
def ipamOnceSpec : ChangeSpec := { name := "ipamOnce", fn := fun _ => fun
  | [d1, d2] => { results := [.lit (.bool true)], args := [d1, d2] }
  | _ => none }
def ipamOnceRow : OpenClaim := { program := "ytgabkifojnkbkaa", sum := "e6812687ed0cb86650d16d547457d102d23afd3991b69728322bc569762b4224", func := "weft/weftlaw15.IpamOnce", spec := "ipamOnce", unfollowed := true, recurses := true, apart := false }
def IpamOnceSaid : Prop := ipamOnceRow.holds Try.pinned (OpenSpec.ofChange ipamOnceSpec)

/-- ITS FALSE NEIGHBOUR: 'it returns false'. Refute it at one input. -/
def ipamOnceWrong : ChangeSpec := { name := "ipamOnce", fn := fun _ => fun
  | [d1, d2] => { results := [.lit (.bool false)], args := [d1, d2] }
  | _ => none }
def IpamOnceWrongFalsely : Prop := ipamOnceRow.holds Try.pinned (OpenSpec.ofChange ipamOnceWrong)

/-- 'weftlaw15.IpamRound': WHATEVER THE INPUT: true; the input reads as it did. -/
def ipamRoundSpec : ChangeSpec := { name := "ipamRound", fn := fun _ => fun
  | [d1, d2, d3] => { results := [.lit (.bool true)], args := [d1, d2, d3] }
  | _ => none }
def ipamRoundRow : OpenClaim := { program := "ytgabkifojnkbkaa", sum := "e6812687ed0cb86650d16d547457d102d23afd3991b69728322bc569762b4224", func := "weft/weftlaw15.IpamRound", spec := "ipamRound", unfollowed := true, recurses := true, apart := false }
def IpamRoundSaid : Prop := ipamRoundRow.holds Try.pinned (OpenSpec.ofChange ipamRoundSpec)

/-- ITS FALSE NEIGHBOUR: 'it returns false'. Refute it at one input. -/
def ipamRoundWrong : ChangeSpec := { name := "ipamRound", fn := fun _ => fun
  | [d1, d2, d3] => { results := [.lit (.bool false)], args := [d1, d2, d3] }
  | _ => none }
def IpamRoundWrongFalsely : Prop := ipamRoundRow.holds Try.pinned (OpenSpec.ofChange ipamRoundWrong)

/-- 'weftlaw15.IpamFull': WHATEVER THE INPUT: true; the input reads as it did. -/
def ipamFullSpec : ChangeSpec := { name := "ipamFull", fn := fun _ => fun
  | [d1, d2] => { results := [.lit (.bool true)], args := [d1, d2] }
  | _ => none }
def ipamFullRow : OpenClaim := { program := "ytgabkifojnkbkaa", sum := "e6812687ed0cb86650d16d547457d102d23afd3991b69728322bc569762b4224", func := "weft/weftlaw15.IpamFull", spec := "ipamFull", unfollowed := true, recurses := true, apart := false }
def IpamFullSaid : Prop := ipamFullRow.holds Try.pinned (OpenSpec.ofChange ipamFullSpec)

/-- ITS FALSE NEIGHBOUR: 'it returns false'. Refute it at one input. -/
def ipamFullWrong : ChangeSpec := { name := "ipamFull", fn := fun _ => fun
  | [d1, d2] => { results := [.lit (.bool false)], args := [d1, d2] }
  | _ => none }
def IpamFullWrongFalsely : Prop := ipamFullRow.holds Try.pinned (OpenSpec.ofChange ipamFullWrong)

/-- 'weftlaw15.IpamNames': WHATEVER THE INPUT: true; the input reads as it did. -/
def ipamNamesSpec : ChangeSpec := { name := "ipamNames", fn := fun _ => fun
  | [d] => { results := [.lit (.bool true)], args := [d] }
  | _ => none }
def ipamNamesRow : OpenClaim := { program := "ytgabkifojnkbkaa", sum := "e6812687ed0cb86650d16d547457d102d23afd3991b69728322bc569762b4224", func := "weft/weftlaw15.IpamNames", spec := "ipamNames", unfollowed := true, recurses := true, apart := false }
def IpamNamesSaid : Prop := ipamNamesRow.holds Try.pinned (OpenSpec.ofChange ipamNamesSpec)

/-- ITS FALSE NEIGHBOUR: 'it returns false'. Refute it at one input. -/
def ipamNamesWrong : ChangeSpec := { name := "ipamNames", fn := fun _ => fun
  | [d] => { results := [.lit (.bool false)], args := [d] }
  | _ => none }
def IpamNamesWrongFalsely : Prop := ipamNamesRow.holds Try.pinned (OpenSpec.ofChange ipamNamesWrong)

/-- 'weftlaw15.IpamFresh': WHATEVER THE INPUT: true; the input reads as it did. -/
def ipamFreshSpec : ChangeSpec := { name := "ipamFresh", fn := fun _ => fun
  | [d1, d2] => { results := [.lit (.bool true)], args := [d1, d2] }
  | _ => none }
def ipamFreshRow : OpenClaim := { program := "ytgabkifojnkbkaa", sum := "e6812687ed0cb86650d16d547457d102d23afd3991b69728322bc569762b4224", func := "weft/weftlaw15.IpamFresh", spec := "ipamFresh", unfollowed := true, recurses := true, apart := false }
def IpamFreshSaid : Prop := ipamFreshRow.holds Try.pinned (OpenSpec.ofChange ipamFreshSpec)

/-- ITS FALSE NEIGHBOUR: 'it returns false'. Refute it at one input. -/
def ipamFreshWrong : ChangeSpec := { name := "ipamFresh", fn := fun _ => fun
  | [d1, d2] => { results := [.lit (.bool false)], args := [d1, d2] }
  | _ => none }
def IpamFreshWrongFalsely : Prop := ipamFreshRow.holds Try.pinned (OpenSpec.ofChange ipamFreshWrong)

/- THE SECOND FORM. 'bulk': how many values and letters a reading holds, each counted each time it is reached (what is shared counts as often as it is met; a slice's spare places count too). A statement '..UptoSaid' is the law's where the arguments, and the package variables that the reading takes, are together of bulk at most 1048576: NARROWER than '..Said'. Prove '..Said' where nothing that the law and all that it calls make is longer than what came in: it says more and counts as full. Else prove '..UptoSaid'. A law counts once. -/
mutual
def uptoBulk {H : Type} : DataW H → Nat
  | .lit (.string bytes) => bytes.length + 1
  | .lit _ => 1
  | .nil => 1
  | .ptr d => uptoBulk d + 1
  | .slice elems spare => uptoBulkAll elems + uptoBulkAll spare + 1
  | .agg parts => uptoBulkAll parts + 1
  | .iface _ d => uptoBulk d + 1
  | .map entries => uptoBulkEntries entries + 1
  | .held _ => 1
def uptoBulkAll {H : Type} : List (DataW H) → Nat
  | [] => 0
  | d :: r => uptoBulk d + uptoBulkAll r
def uptoBulkEntries {H : Type} : List (Lit × DataW H) → Nat
  | [] => 0
  | x :: r => uptoBulkEntry x + uptoBulkEntries r
def uptoBulkEntry {H : Type} : Lit × DataW H → Nat
  | (.string bytes, d) => bytes.length + uptoBulk d + 1
  | (_, d) => uptoBulk d + 1
 end
def uptoSmall : (H : Type) → List (DataW H) → Bool := fun _ ds => decide (uptoBulkAll ds ≤ 1048576)
def OpenSpec.upto (s : _root_.Go.ChangeSpec) : _root_.Go.OpenSpec := { _root_.Go.OpenSpec.ofChange s with cond := some uptoSmall }

/-- 'weftlaw15.IpamNews', WHERE WHAT IT READS IS OF BULK AT MOST 1048576: true; the input reads as it did. -/
def ipamNewsUptoRow : OpenClaim := { program := "ytgabkifojnkbkaa", sum := "e6812687ed0cb86650d16d547457d102d23afd3991b69728322bc569762b4224", func := "weft/weftlaw15.IpamNews", spec := "ipamNews", unfollowed := true, recurses := true, apart := false, narrowed := true }
def IpamNewsUptoSaid : Prop := ipamNewsUptoRow.holds Try.pinned (OpenSpec.upto ipamNewsSpec)

/-- 'weftlaw15.IpamAdds', WHERE WHAT IT READS IS OF BULK AT MOST 1048576: true; the input reads as it did. -/
def ipamAddsUptoRow : OpenClaim := { program := "ytgabkifojnkbkaa", sum := "e6812687ed0cb86650d16d547457d102d23afd3991b69728322bc569762b4224", func := "weft/weftlaw15.IpamAdds", spec := "ipamAdds", unfollowed := true, recurses := true, apart := false, narrowed := true }
def IpamAddsUptoSaid : Prop := ipamAddsUptoRow.holds Try.pinned (OpenSpec.upto ipamAddsSpec)

/-- 'weftlaw15.IpamDels', WHERE WHAT IT READS IS OF BULK AT MOST 1048576: true; the input reads as it did. -/
def ipamDelsUptoRow : OpenClaim := { program := "ytgabkifojnkbkaa", sum := "e6812687ed0cb86650d16d547457d102d23afd3991b69728322bc569762b4224", func := "weft/weftlaw15.IpamDels", spec := "ipamDels", unfollowed := true, recurses := true, apart := false, narrowed := true }
def IpamDelsUptoSaid : Prop := ipamDelsUptoRow.holds Try.pinned (OpenSpec.upto ipamDelsSpec)

/-- 'weftlaw15.IpamFinds', WHERE WHAT IT READS IS OF BULK AT MOST 1048576: true; the input reads as it did. -/
def ipamFindsUptoRow : OpenClaim := { program := "ytgabkifojnkbkaa", sum := "e6812687ed0cb86650d16d547457d102d23afd3991b69728322bc569762b4224", func := "weft/weftlaw15.IpamFinds", spec := "ipamFinds", unfollowed := true, recurses := true, apart := false, narrowed := true }
def IpamFindsUptoSaid : Prop := ipamFindsUptoRow.holds Try.pinned (OpenSpec.upto ipamFindsSpec)

/-- 'weftlaw15.IpamLists', WHERE WHAT IT READS IS OF BULK AT MOST 1048576: true; the input reads as it did. -/
def ipamListsUptoRow : OpenClaim := { program := "ytgabkifojnkbkaa", sum := "e6812687ed0cb86650d16d547457d102d23afd3991b69728322bc569762b4224", func := "weft/weftlaw15.IpamLists", spec := "ipamLists", unfollowed := true, recurses := true, apart := false, narrowed := true }
def IpamListsUptoSaid : Prop := ipamListsUptoRow.holds Try.pinned (OpenSpec.upto ipamListsSpec)

/-- 'weftlaw15.IpamAll', WHERE WHAT IT READS IS OF BULK AT MOST 1048576: true; the input reads as it did. -/
def ipamAllUptoRow : OpenClaim := { program := "ytgabkifojnkbkaa", sum := "e6812687ed0cb86650d16d547457d102d23afd3991b69728322bc569762b4224", func := "weft/weftlaw15.IpamAll", spec := "ipamAll", unfollowed := true, recurses := true, apart := false, narrowed := true }
def IpamAllUptoSaid : Prop := ipamAllUptoRow.holds Try.pinned (OpenSpec.upto ipamAllSpec)

/-- 'weftlaw15.IpamTwo', WHERE WHAT IT READS IS OF BULK AT MOST 1048576: true; the input reads as it did. -/
def ipamTwoUptoRow : OpenClaim := { program := "ytgabkifojnkbkaa", sum := "e6812687ed0cb86650d16d547457d102d23afd3991b69728322bc569762b4224", func := "weft/weftlaw15.IpamTwo", spec := "ipamTwo", unfollowed := true, recurses := true, apart := false, narrowed := true }
def IpamTwoUptoSaid : Prop := ipamTwoUptoRow.holds Try.pinned (OpenSpec.upto ipamTwoSpec)

/-- 'weftlaw15.IpamOnce', WHERE WHAT IT READS IS OF BULK AT MOST 1048576: true; the input reads as it did. -/
def ipamOnceUptoRow : OpenClaim := { program := "ytgabkifojnkbkaa", sum := "e6812687ed0cb86650d16d547457d102d23afd3991b69728322bc569762b4224", func := "weft/weftlaw15.IpamOnce", spec := "ipamOnce", unfollowed := true, recurses := true, apart := false, narrowed := true }
def IpamOnceUptoSaid : Prop := ipamOnceUptoRow.holds Try.pinned (OpenSpec.upto ipamOnceSpec)

/-- 'weftlaw15.IpamRound', WHERE WHAT IT READS IS OF BULK AT MOST 1048576: true; the input reads as it did. -/
def ipamRoundUptoRow : OpenClaim := { program := "ytgabkifojnkbkaa", sum := "e6812687ed0cb86650d16d547457d102d23afd3991b69728322bc569762b4224", func := "weft/weftlaw15.IpamRound", spec := "ipamRound", unfollowed := true, recurses := true, apart := false, narrowed := true }
def IpamRoundUptoSaid : Prop := ipamRoundUptoRow.holds Try.pinned (OpenSpec.upto ipamRoundSpec)

/-- 'weftlaw15.IpamFull', WHERE WHAT IT READS IS OF BULK AT MOST 1048576: true; the input reads as it did. -/
def ipamFullUptoRow : OpenClaim := { program := "ytgabkifojnkbkaa", sum := "e6812687ed0cb86650d16d547457d102d23afd3991b69728322bc569762b4224", func := "weft/weftlaw15.IpamFull", spec := "ipamFull", unfollowed := true, recurses := true, apart := false, narrowed := true }
def IpamFullUptoSaid : Prop := ipamFullUptoRow.holds Try.pinned (OpenSpec.upto ipamFullSpec)

/-- 'weftlaw15.IpamNames', WHERE WHAT IT READS IS OF BULK AT MOST 1048576: true; the input reads as it did. -/
def ipamNamesUptoRow : OpenClaim := { program := "ytgabkifojnkbkaa", sum := "e6812687ed0cb86650d16d547457d102d23afd3991b69728322bc569762b4224", func := "weft/weftlaw15.IpamNames", spec := "ipamNames", unfollowed := true, recurses := true, apart := false, narrowed := true }
def IpamNamesUptoSaid : Prop := ipamNamesUptoRow.holds Try.pinned (OpenSpec.upto ipamNamesSpec)

/-- 'weftlaw15.IpamFresh', WHERE WHAT IT READS IS OF BULK AT MOST 1048576: true; the input reads as it did. -/
def ipamFreshUptoRow : OpenClaim := { program := "ytgabkifojnkbkaa", sum := "e6812687ed0cb86650d16d547457d102d23afd3991b69728322bc569762b4224", func := "weft/weftlaw15.IpamFresh", spec := "ipamFresh", unfollowed := true, recurses := true, apart := false, narrowed := true }
def IpamFreshUptoSaid : Prop := ipamFreshUptoRow.holds Try.pinned (OpenSpec.upto ipamFreshSpec)

end Rows
end Go.Proofs.Ytgabkifojnkbkaa
