-- written by xp.sh, a program of this seat's session
import Derived.Test.YtncpcjphljfcpaaDoorProg
import Derived.Below
import Derived.Deep.Draws
import Derived.Deep.AppendLies
import Derived.Maps.AppendAt
import Derived.OwnWalk
import Derived.Laws.BytesArg
import Derived.Laws.MakeOwn
import Derived.Laws.OwnMore
import Derived.Deep.OwnRows
import Derived.Tactics
import Derived.Lib.ConvBytes
import Derived.Laws.Slices
import Derived.WalkKit
import Derived.KernelRfl
import Derived.RowKit3
import Derived.Deep.LoopGhost
import Derived.Deep.QuietTactic
import Derived.BigQuiet
import Derived.WideLaws
import Derived.Deep.DeepCutAuto
import Derived.Deep.CutBlock
import Derived.Deep.RegionHeld3
import Derived.Laws.Rows
import Derived.Lib.AppendStr
import Derived.ArgAppend
import Derived.Laws.IdiomCopy
import Derived.OrdersHeld
import Derived.Laws.BitsLemmas
import Derived.RowKit
import Derived.LoopTactic
import Derived.RegionTactic
import Derived.BigRegion
import Derived.ChangeAlike
import Derived.Test.YtncpcjphljfcpaaDoorXOpen
import Derived.Test.YtncpcjphljfcpaaDoorTb
import Derived.Test.YtncpcjphljfcpaaDoorSortP
import Derived.Test.YtncpcjphljfcpaaDoorWWords
import Derived.Test.YtncpcjphljfcpaaDoorScMini
import Derived.Test.YtncpcjphljfcpaaDoorWLast
import Derived.Test.YtncpcjphljfcpaaDoorWTab
import Derived.Test.YtncpcjphljfcpaaDoorWApart
import Derived.Test.YtncpcjphljfcpaaDoorWArr
import Derived.Test.YtncpcjphljfcpaaDoorWFoot
import Derived.Test.YtncpcjphljfcpaaDoorWKept
import Derived.Test.YtncpcjphljfcpaaDoorWShare
import Derived.Test.YtncpcjphljfcpaaDoorWEqStruct
import Derived.Test.YtncpcjphljfcpaaDoorWRepsOne
import Derived.Test.YtncpcjphljfcpaaDoorWGuard
namespace Go.Proofs.YtncpcjphljfcpaaDoor.PScr
open Go.RowKit Go.Proofs.YtncpcjphljfcpaaDoorW.PrintWords Go.Proofs.YtncpcjphljfcpaaDoorW.PrintLast Go.Proofs.YtncpcjphljfcpaaDoorW.PrintMore
attribute [local go_sem] max2_int min2_int max_two min_two max_three min_three max_four min_four   -- for this text's walks alone
set_option linter.unusedVariables false
set_option linter.unusedSimpArgs false



def errW : Option Int → Value
  | none => .nilIface
  | some c => .iface 0 (.int .i64 c)
theorem errW_none : errW none = .nilIface := rfl
theorem errW_some (c : Int) : errW (some c) = .iface 0 (.int .i64 c) := rfl

theorem info5 : (Tryd.prog.info? 5).map (fun i => (i.zero, i.size, i.bytes)) = some (some (.int .u8 0), 1, 1) := by kernel_rfl
theorem info31 : (Tryd.prog.info? 31).map (fun i => (i.zero, i.size, i.bytes)) = some (some (.agg #[(.int .u32 0), (.int .i64 0)]), 2, 16) := by kernel_rfl
-- the values' own types
/-! #### struct type 33 -/
structure S33 where
  f0 : Int
  f1 : Int
  f2 : Int
  f3 : Int
  f4 : Int
  f5 : Int
def z33 : S33 := ⟨(0 : Int), (0 : Int), (0 : Int), (0 : Int), (0 : Int), (0 : Int)⟩
def k33 : Kd S33 := Kd.iso (Kd.pair (Kd.int .u8) (Kd.pair (Kd.int .u8) (Kd.pair (Kd.int .u8) (Kd.pair (Kd.int .u8) (Kd.pair (Kd.int .u8) (Kd.int .u8)))))) (fun x : S33 => (x.f0, x.f1, x.f2, x.f3, x.f4, x.f5))
theorem k33_open {w : World} {x : S33} {cs : List Value} (h : k33.K w x cs) : cs = [.int .u8 x.f0, .int .u8 x.f1, .int .u8 x.f2, .int .u8 x.f3, .int .u8 x.f4, .int .u8 x.f5] := by
  obtain ⟨_, _, rfl, rfl, ⟨_, _, rfl, rfl, ⟨_, _, rfl, rfl, ⟨_, _, rfl, rfl, ⟨_, _, rfl, rfl, rfl⟩⟩⟩⟩⟩ := h
  exact rfl
theorem k33_openM {w : World} {base : Nat} {ok : Nat → Prop} {x : S33} {cs : List Value} (h : k33.M w base ok x cs) : cs = [.int .u8 x.f0, .int .u8 x.f1, .int .u8 x.f2, .int .u8 x.f3, .int .u8 x.f4, .int .u8 x.f5] := by
  obtain ⟨_, _, rfl, rfl, ⟨_, _, rfl, rfl, ⟨_, _, rfl, rfl, ⟨_, _, rfl, rfl, ⟨_, _, rfl, rfl, rfl⟩⟩⟩⟩⟩ := h
  exact rfl
theorem k33_mk (w : World) (x : S33)  : k33.K w x [.int .u8 x.f0, .int .u8 x.f1, .int .u8 x.f2, .int .u8 x.f3, .int .u8 x.f4, .int .u8 x.f5] := ⟨[.int .u8 x.f0], [.int .u8 x.f1, .int .u8 x.f2, .int .u8 x.f3, .int .u8 x.f4, .int .u8 x.f5], rfl, rfl, ⟨[.int .u8 x.f1], [.int .u8 x.f2, .int .u8 x.f3, .int .u8 x.f4, .int .u8 x.f5], rfl, rfl, ⟨[.int .u8 x.f2], [.int .u8 x.f3, .int .u8 x.f4, .int .u8 x.f5], rfl, rfl, ⟨[.int .u8 x.f3], [.int .u8 x.f4, .int .u8 x.f5], rfl, rfl, ⟨[.int .u8 x.f4], [.int .u8 x.f5], rfl, rfl, rfl⟩⟩⟩⟩⟩
theorem k33_mkM (w : World) (base : Nat) (ok : Nat → Prop) (x : S33)  : k33.M w base ok x [.int .u8 x.f0, .int .u8 x.f1, .int .u8 x.f2, .int .u8 x.f3, .int .u8 x.f4, .int .u8 x.f5] := ⟨[.int .u8 x.f0], [.int .u8 x.f1, .int .u8 x.f2, .int .u8 x.f3, .int .u8 x.f4, .int .u8 x.f5], rfl, rfl, ⟨[.int .u8 x.f1], [.int .u8 x.f2, .int .u8 x.f3, .int .u8 x.f4, .int .u8 x.f5], rfl, rfl, ⟨[.int .u8 x.f2], [.int .u8 x.f3, .int .u8 x.f4, .int .u8 x.f5], rfl, rfl, ⟨[.int .u8 x.f3], [.int .u8 x.f4, .int .u8 x.f5], rfl, rfl, ⟨[.int .u8 x.f4], [.int .u8 x.f5], rfl, rfl, rfl⟩⟩⟩⟩⟩
theorem k33_mkF (W : World) (ok : Nat → Prop) (x : S33) : Kd.FK k33 W ok x [.int .u8 x.f0, .int .u8 x.f1, .int .u8 x.f2, .int .u8 x.f3, .int .u8 x.f4, .int .u8 x.f5] := fun W2 _ => k33_mk W2 x
def rd_T33 (xs : List S33) (i : Int) : S33 := xs.getD i.toNat z33
theorem at_T33 {w : World} {A : Option Addr} {n : Nat} {xs : List S33} (h : Kd.C k33 w A n xs) (i : Int) (h0 : 0 ≤ i) (h1 : i < n) : ∃ ad , A = some ad ∧ w.cell? (ad.add (i.toNat * 6)) = some (.int .u8 (rd_T33 xs i).f0) ∧ w.cell? ⟨(ad.add (i.toNat * 6)).block, (ad.add (i.toNat * 6)).off + 1, none⟩ = some (.int .u8 (rd_T33 xs i).f1) ∧ w.cell? ⟨(ad.add (i.toNat * 6)).block, (ad.add (i.toNat * 6)).off + 2, none⟩ = some (.int .u8 (rd_T33 xs i).f2) ∧ w.cell? ⟨(ad.add (i.toNat * 6)).block, (ad.add (i.toNat * 6)).off + 3, none⟩ = some (.int .u8 (rd_T33 xs i).f3) ∧ w.cell? ⟨(ad.add (i.toNat * 6)).block, (ad.add (i.toNat * 6)).off + 4, none⟩ = some (.int .u8 (rd_T33 xs i).f4) ∧ w.cell? ⟨(ad.add (i.toNat * 6)).block, (ad.add (i.toNat * 6)).off + 5, none⟩ = some (.int .u8 (rd_T33 xs i).f5) := by
  obtain ⟨ad, c, e, _, hK, hc0⟩ := Kd.C_get h z33 i h0 h1
  have hc : ∀ j u, c[j]? = some u → w.cell? (ad.add (i.toNat * 6 + j)) = some u := hc0
  obtain rfl := k33_open hK
  exact ⟨ad, e, hc 0 _ rfl, by rw [← add_field _ _ 1 (by omega)]; exact hc 1 _ rfl, by rw [← add_field _ _ 2 (by omega)]; exact hc 2 _ rfl, by rw [← add_field _ _ 3 (by omega)]; exact hc 3 _ rfl, by rw [← add_field _ _ 4 (by omega)]; exact hc 4 _ rfl, by rw [← add_field _ _ 5 (by omega)]; exact hc 5 _ rfl⟩

/-! #### struct type 31 -/
structure S31 where
  f0 : Int
  f1 : Int
def z31 : S31 := ⟨(0 : Int), (0 : Int)⟩
def k31 : Kd S31 := Kd.iso (Kd.pair (Kd.int .u32) (Kd.int .i64)) (fun x : S31 => (x.f0, x.f1))
theorem k31_open {w : World} {x : S31} {cs : List Value} (h : k31.K w x cs) : cs = [.int .u32 x.f0, .int .i64 x.f1] := by
  obtain ⟨_, _, rfl, rfl, rfl⟩ := h
  exact rfl
theorem k31_openM {w : World} {base : Nat} {ok : Nat → Prop} {x : S31} {cs : List Value} (h : k31.M w base ok x cs) : cs = [.int .u32 x.f0, .int .i64 x.f1] := by
  obtain ⟨_, _, rfl, rfl, rfl⟩ := h
  exact rfl
theorem k31_mk (w : World) (x : S31)  : k31.K w x [.int .u32 x.f0, .int .i64 x.f1] := ⟨[.int .u32 x.f0], [.int .i64 x.f1], rfl, rfl, rfl⟩
theorem k31_mkM (w : World) (base : Nat) (ok : Nat → Prop) (x : S31)  : k31.M w base ok x [.int .u32 x.f0, .int .i64 x.f1] := ⟨[.int .u32 x.f0], [.int .i64 x.f1], rfl, rfl, rfl⟩
theorem k31_mkF (W : World) (ok : Nat → Prop) (x : S31) : Kd.FK k31 W ok x [.int .u32 x.f0, .int .i64 x.f1] := fun W2 _ => k31_mk W2 x
def rd_T31 (xs : List S31) (i : Int) : S31 := xs.getD i.toNat z31
theorem at_T31 {w : World} {A : Option Addr} {n : Nat} {xs : List S31} (h : Kd.C k31 w A n xs) (i : Int) (h0 : 0 ≤ i) (h1 : i < n) : ∃ ad , A = some ad ∧ w.cell? (ad.add (i.toNat * 2)) = some (.int .u32 (rd_T31 xs i).f0) ∧ w.cell? ⟨(ad.add (i.toNat * 2)).block, (ad.add (i.toNat * 2)).off + 1, none⟩ = some (.int .i64 (rd_T31 xs i).f1) := by
  obtain ⟨ad, c, e, _, hK, hc0⟩ := Kd.C_get h z31 i h0 h1
  have hc : ∀ j u, c[j]? = some u → w.cell? (ad.add (i.toNat * 2 + j)) = some u := hc0
  obtain rfl := k31_open hK
  exact ⟨ad, e, hc 0 _ rfl, by rw [← add_field _ _ 1 (by omega)]; exact hc 1 _ rfl⟩

def rd_L5 (xs : List (List S31)) (i : Int) : (List S31) := xs.getD i.toNat ([] : List S31)
theorem at_L5 {w : World} {A : Option Addr} {n : Nat} {xs : List (List S31)} (h : Kd.C (Kd.slice 31 k31) w A n xs) (i : Int) (h0 : 0 ≤ i) (h1 : i < n) : ∃ ad A0 c0, A = some ad ∧ w.cell? (ad.add i.toNat) = some (.slice A0 (rd_L5 xs i).length c0) ∧ (rd_L5 xs i).length ≤ c0 ∧ k31.C w A0 (rd_L5 xs i).length (rd_L5 xs i) := by
  obtain ⟨ad, c, e, _, hK, hc0⟩ := Kd.C_get h ([] : List S31) i h0 h1
  have hc : ∀ j u, c[j]? = some u → w.cell? (ad.add (i.toNat * 1 + j)) = some u := hc0
  obtain ⟨A0, c0, rfl, l0, g0⟩ := hK
  exact ⟨ad, A0, c0, e, by have hq := hc 0 _ rfl; rwa [Nat.mul_one, Nat.add_zero] at hq, l0, g0⟩

/-! #### struct type 35 -/
structure S35 where
  f0 : Int
  f1 : S31
  f2 : S33
def z35 : S35 := ⟨(0 : Int), z31, z33⟩
def k35 : Kd S35 := Kd.iso (Kd.pair (Kd.int .u32) (Kd.pair k31 k33)) (fun x : S35 => (x.f0, x.f1, x.f2))
theorem k35_open {w : World} {x : S35} {cs : List Value} (h : k35.K w x cs) : cs = [.int .u32 x.f0, .int .u32 x.f1.f0, .int .i64 x.f1.f1, .int .u8 x.f2.f0, .int .u8 x.f2.f1, .int .u8 x.f2.f2, .int .u8 x.f2.f3, .int .u8 x.f2.f4, .int .u8 x.f2.f5] := by
  obtain ⟨_, _, rfl, rfl, ⟨_, _, rfl, s1, s3⟩⟩ := h
  obtain rfl := k31_open s1
  obtain rfl := k33_open s3
  exact rfl
theorem k35_openM {w : World} {base : Nat} {ok : Nat → Prop} {x : S35} {cs : List Value} (h : k35.M w base ok x cs) : cs = [.int .u32 x.f0, .int .u32 x.f1.f0, .int .i64 x.f1.f1, .int .u8 x.f2.f0, .int .u8 x.f2.f1, .int .u8 x.f2.f2, .int .u8 x.f2.f3, .int .u8 x.f2.f4, .int .u8 x.f2.f5] := by
  obtain ⟨_, _, rfl, rfl, ⟨_, _, rfl, s1, s3⟩⟩ := h
  obtain rfl := k31_openM s1
  obtain rfl := k33_openM s3
  exact rfl
theorem k35_mk (w : World) (x : S35)  : k35.K w x [.int .u32 x.f0, .int .u32 x.f1.f0, .int .i64 x.f1.f1, .int .u8 x.f2.f0, .int .u8 x.f2.f1, .int .u8 x.f2.f2, .int .u8 x.f2.f3, .int .u8 x.f2.f4, .int .u8 x.f2.f5] := ⟨[.int .u32 x.f0], [.int .u32 x.f1.f0, .int .i64 x.f1.f1, .int .u8 x.f2.f0, .int .u8 x.f2.f1, .int .u8 x.f2.f2, .int .u8 x.f2.f3, .int .u8 x.f2.f4, .int .u8 x.f2.f5], rfl, rfl, ⟨[.int .u32 x.f1.f0, .int .i64 x.f1.f1], [.int .u8 x.f2.f0, .int .u8 x.f2.f1, .int .u8 x.f2.f2, .int .u8 x.f2.f3, .int .u8 x.f2.f4, .int .u8 x.f2.f5], rfl, (k31_mk w x.f1 ), (k33_mk w x.f2 )⟩⟩
theorem k35_mkM (w : World) (base : Nat) (ok : Nat → Prop) (x : S35)  : k35.M w base ok x [.int .u32 x.f0, .int .u32 x.f1.f0, .int .i64 x.f1.f1, .int .u8 x.f2.f0, .int .u8 x.f2.f1, .int .u8 x.f2.f2, .int .u8 x.f2.f3, .int .u8 x.f2.f4, .int .u8 x.f2.f5] := ⟨[.int .u32 x.f0], [.int .u32 x.f1.f0, .int .i64 x.f1.f1, .int .u8 x.f2.f0, .int .u8 x.f2.f1, .int .u8 x.f2.f2, .int .u8 x.f2.f3, .int .u8 x.f2.f4, .int .u8 x.f2.f5], rfl, rfl, ⟨[.int .u32 x.f1.f0, .int .i64 x.f1.f1], [.int .u8 x.f2.f0, .int .u8 x.f2.f1, .int .u8 x.f2.f2, .int .u8 x.f2.f3, .int .u8 x.f2.f4, .int .u8 x.f2.f5], rfl, (k31_mkM w base ok x.f1 ), (k33_mkM w base ok x.f2 )⟩⟩
theorem k35_mkF (W : World) (ok : Nat → Prop) (x : S35) : Kd.FK k35 W ok x [.int .u32 x.f0, .int .u32 x.f1.f0, .int .i64 x.f1.f1, .int .u8 x.f2.f0, .int .u8 x.f2.f1, .int .u8 x.f2.f2, .int .u8 x.f2.f3, .int .u8 x.f2.f4, .int .u8 x.f2.f5] := fun W2 _ => k35_mk W2 x
def rd_T35 (xs : List S35) (i : Int) : S35 := xs.getD i.toNat z35
theorem at_T35 {w : World} {A : Option Addr} {n : Nat} {xs : List S35} (h : Kd.C k35 w A n xs) (i : Int) (h0 : 0 ≤ i) (h1 : i < n) : ∃ ad , A = some ad ∧ w.cell? (ad.add (i.toNat * 9)) = some (.int .u32 (rd_T35 xs i).f0) ∧ w.cell? ⟨(ad.add (i.toNat * 9)).block, (ad.add (i.toNat * 9)).off + 1, none⟩ = some (.int .u32 (rd_T35 xs i).f1.f0) ∧ w.cell? ⟨(ad.add (i.toNat * 9)).block, (ad.add (i.toNat * 9)).off + 2, none⟩ = some (.int .i64 (rd_T35 xs i).f1.f1) ∧ w.cell? ⟨(ad.add (i.toNat * 9)).block, (ad.add (i.toNat * 9)).off + 3, none⟩ = some (.int .u8 (rd_T35 xs i).f2.f0) ∧ w.cell? ⟨(ad.add (i.toNat * 9)).block, (ad.add (i.toNat * 9)).off + 4, none⟩ = some (.int .u8 (rd_T35 xs i).f2.f1) ∧ w.cell? ⟨(ad.add (i.toNat * 9)).block, (ad.add (i.toNat * 9)).off + 5, none⟩ = some (.int .u8 (rd_T35 xs i).f2.f2) ∧ w.cell? ⟨(ad.add (i.toNat * 9)).block, (ad.add (i.toNat * 9)).off + 6, none⟩ = some (.int .u8 (rd_T35 xs i).f2.f3) ∧ w.cell? ⟨(ad.add (i.toNat * 9)).block, (ad.add (i.toNat * 9)).off + 7, none⟩ = some (.int .u8 (rd_T35 xs i).f2.f4) ∧ w.cell? ⟨(ad.add (i.toNat * 9)).block, (ad.add (i.toNat * 9)).off + 8, none⟩ = some (.int .u8 (rd_T35 xs i).f2.f5) := by
  obtain ⟨ad, c, e, _, hK, hc0⟩ := Kd.C_get h z35 i h0 h1
  have hc : ∀ j u, c[j]? = some u → w.cell? (ad.add (i.toNat * 9 + j)) = some u := hc0
  obtain rfl := k35_open hK
  exact ⟨ad, e, hc 0 _ rfl, by rw [← add_field _ _ 1 (by omega)]; exact hc 1 _ rfl, by rw [← add_field _ _ 2 (by omega)]; exact hc 2 _ rfl, by rw [← add_field _ _ 3 (by omega)]; exact hc 3 _ rfl, by rw [← add_field _ _ 4 (by omega)]; exact hc 4 _ rfl, by rw [← add_field _ _ 5 (by omega)]; exact hc 5 _ rfl, by rw [← add_field _ _ 6 (by omega)]; exact hc 6 _ rfl, by rw [← add_field _ _ 7 (by omega)]; exact hc 7 _ rfl, by rw [← add_field _ _ 8 (by omega)]; exact hc 8 _ rfl⟩

/-! #### struct type 45 -/
structure S45 where
  f0 : Int
  f1 : ByteArray
  f2 : S35
  f3 : Int
  f4 : Int
  f5 : (List S31)
  f6 : Int
def z45 : S45 := ⟨(0 : Int), (⟨#[]⟩ : ByteArray), z35, (0 : Int), (0 : Int), ([] : List S31), (0 : Int)⟩
def k45 : Kd S45 := Kd.iso (Kd.pair (Kd.int .i64) (Kd.pair Kd.string (Kd.pair k35 (Kd.pair (Kd.int .u32) (Kd.pair (Kd.int .u32) (Kd.pair (Kd.slice 31 k31) (Kd.int .i64))))))) (fun x : S45 => (x.f0, x.f1, x.f2, x.f3, x.f4, x.f5, x.f6))
theorem k45_open {w : World} {x : S45} {cs : List Value} (h : k45.K w x cs) : ∃ A13 c13, cs = [.int .i64 x.f0, .string x.f1, .int .u32 x.f2.f0, .int .u32 x.f2.f1.f0, .int .i64 x.f2.f1.f1, .int .u8 x.f2.f2.f0, .int .u8 x.f2.f2.f1, .int .u8 x.f2.f2.f2, .int .u8 x.f2.f2.f3, .int .u8 x.f2.f2.f4, .int .u8 x.f2.f2.f5, .int .u32 x.f3, .int .u32 x.f4, .slice A13 x.f5.length c13, .int .i64 x.f6] ∧ x.f5.length ≤ c13 ∧ k31.C w A13 x.f5.length x.f5 := by
  obtain ⟨_, _, rfl, rfl, ⟨_, _, rfl, rfl, ⟨_, _, rfl, s2, ⟨_, _, rfl, rfl, ⟨_, _, rfl, rfl, ⟨_, _, rfl, ⟨A13, c13, rfl, l13, g13⟩, rfl⟩⟩⟩⟩⟩⟩ := h
  obtain rfl := k35_open s2
  exact ⟨A13, c13, rfl, l13, g13⟩
theorem k45_openM {w : World} {base : Nat} {ok : Nat → Prop} {x : S45} {cs : List Value} (h : k45.M w base ok x cs) : ∃ v13, cs = [.int .i64 x.f0, .string x.f1, .int .u32 x.f2.f0, .int .u32 x.f2.f1.f0, .int .i64 x.f2.f1.f1, .int .u8 x.f2.f2.f0, .int .u8 x.f2.f2.f1, .int .u8 x.f2.f2.f2, .int .u8 x.f2.f2.f3, .int .u8 x.f2.f2.f4, .int .u8 x.f2.f2.f5, .int .u32 x.f3, .int .u32 x.f4, v13, .int .i64 x.f6] ∧ k31.R 31 w base ok v13 x.f5 := by
  obtain ⟨_, _, rfl, rfl, ⟨_, _, rfl, rfl, ⟨_, _, rfl, s2, ⟨_, _, rfl, rfl, ⟨_, _, rfl, rfl, ⟨_, _, rfl, ⟨v13, rfl, g13⟩, rfl⟩⟩⟩⟩⟩⟩ := h
  obtain rfl := k35_openM s2
  exact ⟨v13, rfl, g13⟩
theorem k45_mk (w : World) (x : S45) {A13 : Option Addr} {c13 : Nat} (l13 : x.f5.length ≤ c13) (g13 : k31.C w A13 x.f5.length x.f5) : k45.K w x [.int .i64 x.f0, .string x.f1, .int .u32 x.f2.f0, .int .u32 x.f2.f1.f0, .int .i64 x.f2.f1.f1, .int .u8 x.f2.f2.f0, .int .u8 x.f2.f2.f1, .int .u8 x.f2.f2.f2, .int .u8 x.f2.f2.f3, .int .u8 x.f2.f2.f4, .int .u8 x.f2.f2.f5, .int .u32 x.f3, .int .u32 x.f4, .slice A13 x.f5.length c13, .int .i64 x.f6] := ⟨[.int .i64 x.f0], [.string x.f1, .int .u32 x.f2.f0, .int .u32 x.f2.f1.f0, .int .i64 x.f2.f1.f1, .int .u8 x.f2.f2.f0, .int .u8 x.f2.f2.f1, .int .u8 x.f2.f2.f2, .int .u8 x.f2.f2.f3, .int .u8 x.f2.f2.f4, .int .u8 x.f2.f2.f5, .int .u32 x.f3, .int .u32 x.f4, .slice A13 x.f5.length c13, .int .i64 x.f6], rfl, rfl, ⟨[.string x.f1], [.int .u32 x.f2.f0, .int .u32 x.f2.f1.f0, .int .i64 x.f2.f1.f1, .int .u8 x.f2.f2.f0, .int .u8 x.f2.f2.f1, .int .u8 x.f2.f2.f2, .int .u8 x.f2.f2.f3, .int .u8 x.f2.f2.f4, .int .u8 x.f2.f2.f5, .int .u32 x.f3, .int .u32 x.f4, .slice A13 x.f5.length c13, .int .i64 x.f6], rfl, rfl, ⟨[.int .u32 x.f2.f0, .int .u32 x.f2.f1.f0, .int .i64 x.f2.f1.f1, .int .u8 x.f2.f2.f0, .int .u8 x.f2.f2.f1, .int .u8 x.f2.f2.f2, .int .u8 x.f2.f2.f3, .int .u8 x.f2.f2.f4, .int .u8 x.f2.f2.f5], [.int .u32 x.f3, .int .u32 x.f4, .slice A13 x.f5.length c13, .int .i64 x.f6], rfl, (k35_mk w x.f2 ), ⟨[.int .u32 x.f3], [.int .u32 x.f4, .slice A13 x.f5.length c13, .int .i64 x.f6], rfl, rfl, ⟨[.int .u32 x.f4], [.slice A13 x.f5.length c13, .int .i64 x.f6], rfl, rfl, ⟨[.slice A13 x.f5.length c13], [.int .i64 x.f6], rfl, ⟨A13, c13, rfl, l13, g13⟩, rfl⟩⟩⟩⟩⟩⟩
theorem k45_mkM (w : World) (base : Nat) (ok : Nat → Prop) (x : S45) {v13 : Value} (g13 : k31.R 31 w base ok v13 x.f5) : k45.M w base ok x [.int .i64 x.f0, .string x.f1, .int .u32 x.f2.f0, .int .u32 x.f2.f1.f0, .int .i64 x.f2.f1.f1, .int .u8 x.f2.f2.f0, .int .u8 x.f2.f2.f1, .int .u8 x.f2.f2.f2, .int .u8 x.f2.f2.f3, .int .u8 x.f2.f2.f4, .int .u8 x.f2.f2.f5, .int .u32 x.f3, .int .u32 x.f4, v13, .int .i64 x.f6] := ⟨[.int .i64 x.f0], [.string x.f1, .int .u32 x.f2.f0, .int .u32 x.f2.f1.f0, .int .i64 x.f2.f1.f1, .int .u8 x.f2.f2.f0, .int .u8 x.f2.f2.f1, .int .u8 x.f2.f2.f2, .int .u8 x.f2.f2.f3, .int .u8 x.f2.f2.f4, .int .u8 x.f2.f2.f5, .int .u32 x.f3, .int .u32 x.f4, v13, .int .i64 x.f6], rfl, rfl, ⟨[.string x.f1], [.int .u32 x.f2.f0, .int .u32 x.f2.f1.f0, .int .i64 x.f2.f1.f1, .int .u8 x.f2.f2.f0, .int .u8 x.f2.f2.f1, .int .u8 x.f2.f2.f2, .int .u8 x.f2.f2.f3, .int .u8 x.f2.f2.f4, .int .u8 x.f2.f2.f5, .int .u32 x.f3, .int .u32 x.f4, v13, .int .i64 x.f6], rfl, rfl, ⟨[.int .u32 x.f2.f0, .int .u32 x.f2.f1.f0, .int .i64 x.f2.f1.f1, .int .u8 x.f2.f2.f0, .int .u8 x.f2.f2.f1, .int .u8 x.f2.f2.f2, .int .u8 x.f2.f2.f3, .int .u8 x.f2.f2.f4, .int .u8 x.f2.f2.f5], [.int .u32 x.f3, .int .u32 x.f4, v13, .int .i64 x.f6], rfl, (k35_mkM w base ok x.f2 ), ⟨[.int .u32 x.f3], [.int .u32 x.f4, v13, .int .i64 x.f6], rfl, rfl, ⟨[.int .u32 x.f4], [v13, .int .i64 x.f6], rfl, rfl, ⟨[v13], [.int .i64 x.f6], rfl, ⟨v13, rfl, g13⟩, rfl⟩⟩⟩⟩⟩⟩
theorem k45_openF {W : World} {ok : Nat → Prop} {x : S45} {cs : List Value} (h : Kd.FK k45 W ok x cs) : ∃ A13 c13, cs = [.int .i64 x.f0, .string x.f1, .int .u32 x.f2.f0, .int .u32 x.f2.f1.f0, .int .i64 x.f2.f1.f1, .int .u8 x.f2.f2.f0, .int .u8 x.f2.f2.f1, .int .u8 x.f2.f2.f2, .int .u8 x.f2.f2.f3, .int .u8 x.f2.f2.f4, .int .u8 x.f2.f2.f5, .int .u32 x.f3, .int .u32 x.f4, .slice A13 x.f5.length c13, .int .i64 x.f6] ∧ x.f5.length ≤ c13 ∧ Kd.F k31 W ok A13 x.f5.length x.f5 := by
  obtain ⟨A13, c13, rfl, l13, _⟩ := k45_open (Kd.FK_now h)
  exact ⟨A13, c13, rfl, l13, (fun W' hW => by obtain ⟨A13_, c13_, he, l13_, g13_⟩ := k45_open (h W' hW); injection (Option.some.inj (show some (Value.slice A13 x.f5.length c13) = some (Value.slice A13_ x.f5.length c13_) from congrArg (fun l => l[13]?) he)) with ha_ _ _; rw [ha_]; exact g13_)⟩
theorem k45_mkF (W : World) (ok : Nat → Prop) (x : S45) {A13 : Option Addr} {c13 : Nat} (l13 : x.f5.length ≤ c13) (g13 : Kd.F k31 W ok A13 x.f5.length x.f5) : Kd.FK k45 W ok x [.int .i64 x.f0, .string x.f1, .int .u32 x.f2.f0, .int .u32 x.f2.f1.f0, .int .i64 x.f2.f1.f1, .int .u8 x.f2.f2.f0, .int .u8 x.f2.f2.f1, .int .u8 x.f2.f2.f2, .int .u8 x.f2.f2.f3, .int .u8 x.f2.f2.f4, .int .u8 x.f2.f2.f5, .int .u32 x.f3, .int .u32 x.f4, .slice A13 x.f5.length c13, .int .i64 x.f6] := fun W2 hW => k45_mk W2 x l13 (g13 W2 hW)
def rd_T45 (xs : List S45) (i : Int) : S45 := xs.getD i.toNat z45
theorem at_T45 {w : World} {A : Option Addr} {n : Nat} {xs : List S45} (h : Kd.C k45 w A n xs) (i : Int) (h0 : 0 ≤ i) (h1 : i < n) : ∃ ad A13 c13, A = some ad ∧ w.cell? (ad.add (i.toNat * 15)) = some (.int .i64 (rd_T45 xs i).f0) ∧ w.cell? ⟨(ad.add (i.toNat * 15)).block, (ad.add (i.toNat * 15)).off + 1, none⟩ = some (.string (rd_T45 xs i).f1) ∧ w.cell? ⟨(ad.add (i.toNat * 15)).block, (ad.add (i.toNat * 15)).off + 2, none⟩ = some (.int .u32 (rd_T45 xs i).f2.f0) ∧ w.cell? ⟨(ad.add (i.toNat * 15)).block, (ad.add (i.toNat * 15)).off + 3, none⟩ = some (.int .u32 (rd_T45 xs i).f2.f1.f0) ∧ w.cell? ⟨(ad.add (i.toNat * 15)).block, (ad.add (i.toNat * 15)).off + 4, none⟩ = some (.int .i64 (rd_T45 xs i).f2.f1.f1) ∧ w.cell? ⟨(ad.add (i.toNat * 15)).block, (ad.add (i.toNat * 15)).off + 5, none⟩ = some (.int .u8 (rd_T45 xs i).f2.f2.f0) ∧ w.cell? ⟨(ad.add (i.toNat * 15)).block, (ad.add (i.toNat * 15)).off + 6, none⟩ = some (.int .u8 (rd_T45 xs i).f2.f2.f1) ∧ w.cell? ⟨(ad.add (i.toNat * 15)).block, (ad.add (i.toNat * 15)).off + 7, none⟩ = some (.int .u8 (rd_T45 xs i).f2.f2.f2) ∧ w.cell? ⟨(ad.add (i.toNat * 15)).block, (ad.add (i.toNat * 15)).off + 8, none⟩ = some (.int .u8 (rd_T45 xs i).f2.f2.f3) ∧ w.cell? ⟨(ad.add (i.toNat * 15)).block, (ad.add (i.toNat * 15)).off + 9, none⟩ = some (.int .u8 (rd_T45 xs i).f2.f2.f4) ∧ w.cell? ⟨(ad.add (i.toNat * 15)).block, (ad.add (i.toNat * 15)).off + 10, none⟩ = some (.int .u8 (rd_T45 xs i).f2.f2.f5) ∧ w.cell? ⟨(ad.add (i.toNat * 15)).block, (ad.add (i.toNat * 15)).off + 11, none⟩ = some (.int .u32 (rd_T45 xs i).f3) ∧ w.cell? ⟨(ad.add (i.toNat * 15)).block, (ad.add (i.toNat * 15)).off + 12, none⟩ = some (.int .u32 (rd_T45 xs i).f4) ∧ w.cell? ⟨(ad.add (i.toNat * 15)).block, (ad.add (i.toNat * 15)).off + 13, none⟩ = some (.slice A13 (rd_T45 xs i).f5.length c13) ∧ w.cell? ⟨(ad.add (i.toNat * 15)).block, (ad.add (i.toNat * 15)).off + 14, none⟩ = some (.int .i64 (rd_T45 xs i).f6) ∧ (rd_T45 xs i).f5.length ≤ c13 ∧ k31.C w A13 (rd_T45 xs i).f5.length (rd_T45 xs i).f5 := by
  obtain ⟨ad, c, e, _, hK, hc0⟩ := Kd.C_get h z45 i h0 h1
  have hc : ∀ j u, c[j]? = some u → w.cell? (ad.add (i.toNat * 15 + j)) = some u := hc0
  obtain ⟨A13, c13, rfl, l13, g13⟩ := k45_open hK
  exact ⟨ad, A13, c13, e, hc 0 _ rfl, by rw [← add_field _ _ 1 (by omega)]; exact hc 1 _ rfl, by rw [← add_field _ _ 2 (by omega)]; exact hc 2 _ rfl, by rw [← add_field _ _ 3 (by omega)]; exact hc 3 _ rfl, by rw [← add_field _ _ 4 (by omega)]; exact hc 4 _ rfl, by rw [← add_field _ _ 5 (by omega)]; exact hc 5 _ rfl, by rw [← add_field _ _ 6 (by omega)]; exact hc 6 _ rfl, by rw [← add_field _ _ 7 (by omega)]; exact hc 7 _ rfl, by rw [← add_field _ _ 8 (by omega)]; exact hc 8 _ rfl, by rw [← add_field _ _ 9 (by omega)]; exact hc 9 _ rfl, by rw [← add_field _ _ 10 (by omega)]; exact hc 10 _ rfl, by rw [← add_field _ _ 11 (by omega)]; exact hc 11 _ rfl, by rw [← add_field _ _ 12 (by omega)]; exact hc 12 _ rfl, by rw [← add_field _ _ 13 (by omega)]; exact hc 13 _ rfl, by rw [← add_field _ _ 14 (by omega)]; exact hc 14 _ rfl, l13, g13⟩

end Go.Proofs.YtncpcjphljfcpaaDoor.PScr
