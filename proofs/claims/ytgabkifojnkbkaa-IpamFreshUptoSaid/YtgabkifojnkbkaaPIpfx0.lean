-- written by xp.sh, a program of this seat's session
import Derived.Test.YtgabkifojnkbkaaProg
import Derived.Below
import Derived.Deep.Draws
import Derived.Deep.AppendLies
import Derived.Maps.AppendAt
import Derived.OwnWalk
import Derived.Laws.BytesArg
import Derived.Laws.MakeOwn
import Derived.Laws.OwnMore
import Derived.Deep.OwnRows
import Derived.Tactics
import Derived.Lib.ConvBytes
import Derived.Laws.Slices
import Derived.WalkKit
import Derived.KernelRfl
import Derived.RowKit3
import Derived.Deep.LoopGhost
import Derived.Deep.QuietTactic
import Derived.BigQuiet
import Derived.WideLaws
import Derived.Deep.DeepCutAuto
import Derived.Deep.CutBlock
import Derived.Deep.RegionHeld3
import Derived.Laws.Rows
import Derived.Lib.AppendStr
import Derived.ArgAppend
import Derived.Laws.IdiomCopy
import Derived.OrdersHeld
import Derived.Laws.BitsLemmas
import Derived.RowKit
import Derived.LoopTactic
import Derived.RegionTactic
import Derived.BigRegion
import Derived.ChangeAlike
import Derived.Test.YtgabkifojnkbkaaXOpen
import Derived.Test.YtgabkifojnkbkaaWWords
import Derived.Test.YtgabkifojnkbkaaWLast
import Derived.Test.YtgabkifojnkbkaaWTab
import Derived.Test.YtgabkifojnkbkaaWFour
import Derived.Test.YtgabkifojnkbkaaWQPut
import Derived.Test.YtgabkifojnkbkaaWApart
import Derived.Test.YtgabkifojnkbkaaWArr
import Derived.Test.YtgabkifojnkbkaaWZeros
import Derived.Test.YtgabkifojnkbkaaWFoot
import Derived.Test.YtgabkifojnkbkaaWKept
import Derived.Test.YtgabkifojnkbkaaWShare
import Derived.Test.YtgabkifojnkbkaaWN
import Derived.Test.YtgabkifojnkbkaaWFootNe
import Derived.Test.YtgabkifojnkbkaaWAt
import Derived.Test.YtgabkifojnkbkaaWEqStruct
import Derived.Test.YtgabkifojnkbkaaWRepsOne
import Derived.Test.YtgabkifojnkbkaaWInv
import Derived.Test.YtgabkifojnkbkaaWInvWords
import Derived.Test.YtgabkifojnkbkaaWGuard
import Derived.Test.YtgabkifojnkbkaaWNEv
import Derived.Test.YtgabkifojnkbkaaWMore
namespace Go.Proofs.Ytgabkifojnkbkaa.PIpf
open Go.RowKit Go.Proofs.YtgabkifojnkbkaaW.PrintWords Go.Proofs.YtgabkifojnkbkaaW.PrintLast Go.Proofs.YtgabkifojnkbkaaW.PrintMore
attribute [local go_sem] max2_int min2_int max_two min_two max_three min_three max_four min_four   -- for this text's walks alone
set_option linter.unusedVariables false
set_option linter.unusedSimpArgs false



def errW : Option Int → Value
  | none => .nilIface
  | some c => .iface 0 (.int .i64 c)
theorem errW_none : errW none = .nilIface := rfl
theorem errW_some (c : Int) : errW (some c) = .iface 0 (.int .i64 c) := rfl

theorem info5 : (Try.prog.info? 5).map (fun i => (i.zero, i.size, i.bytes)) = some (some (.int .u8 0), 1, 1) := by kernel_rfl
-- the values' own types
/-! #### struct type 84 -/
structure S84 where
  f0 : ByteArray
  f1 : Int
def z84 : S84 := ⟨(⟨#[]⟩ : ByteArray), (0 : Int)⟩
def k84 : Kd S84 := Kd.iso (Kd.pair Kd.string (Kd.int .u32)) (fun x : S84 => (x.f0, x.f1))
theorem k84_open {w : World} {x : S84} {cs : List Value} (h : k84.K w x cs) : cs = [.string x.f0, .int .u32 x.f1] := by
  obtain ⟨_, _, rfl, rfl, rfl⟩ := h
  exact rfl
theorem k84_openM {w : World} {base : Nat} {ok : Nat → Prop} {x : S84} {cs : List Value} (h : k84.M w base ok x cs) : cs = [.string x.f0, .int .u32 x.f1] := by
  obtain ⟨_, _, rfl, rfl, rfl⟩ := h
  exact rfl
theorem k84_mk (w : World) (x : S84)  : k84.K w x [.string x.f0, .int .u32 x.f1] := ⟨[.string x.f0], [.int .u32 x.f1], rfl, rfl, rfl⟩
theorem k84_mkM (w : World) (base : Nat) (ok : Nat → Prop) (x : S84)  : k84.M w base ok x [.string x.f0, .int .u32 x.f1] := ⟨[.string x.f0], [.int .u32 x.f1], rfl, rfl, rfl⟩
def rd_T84 (xs : List S84) (i : Int) : S84 := xs.getD i.toNat z84
theorem at_T84 {w : World} {A : Option Addr} {n : Nat} {xs : List S84} (h : Kd.C k84 w A n xs) (i : Int) (h0 : 0 ≤ i) (h1 : i < n) : ∃ ad , A = some ad ∧ w.cell? (ad.add (i.toNat * 2)) = some (.string (rd_T84 xs i).f0) ∧ w.cell? ⟨(ad.add (i.toNat * 2)).block, (ad.add (i.toNat * 2)).off + 1, none⟩ = some (.int .u32 (rd_T84 xs i).f1) := by
  obtain ⟨ad, c, e, _, hK, hc0⟩ := Kd.C_get h z84 i h0 h1
  have hc : ∀ j u, c[j]? = some u → w.cell? (ad.add (i.toNat * 2 + j)) = some u := hc0
  obtain rfl := k84_open hK
  exact ⟨ad, e, hc 0 _ rfl, by rw [← add_field _ _ 1 (by omega)]; exact hc 1 _ rfl⟩

end Go.Proofs.Ytgabkifojnkbkaa.PIpf
