/- The rows' listed variables, read off a world: the powers of ten as the contract of Itoa wants them, the classes as addr.Class wants them. -/
import Derived.Test.YtncpcjphljfcpaaDoorRows
import Derived.Test.YtncpcjphljfcpaaDoorTb
import Derived.LaidMore
import Derived.OpenShut
import Derived.ChangeSame
import Derived.Stop.Joined
namespace Go.Proofs.YtncpcjphljfcpaaDoor
open Go.RowKit
def laid3 : List (String × DataW Unit) := [("math/bits.deBruijn32tab", Rows.laid_math_bits_deBruijn32tab), ("math/bits.deBruijn64tab", Rows.laid_math_bits_deBruijn64tab), ("internal/strconv.uint64pow10", Rows.laid_internal_strconv_uint64pow10)]
theorem gPow : Tryd.prog.globalNamed "internal/strconv.uint64pow10" = some 1 := by kernel_rfl
theorem tPow : (Tryd.prog.globals[1]?).map (·.type) = some 124 := by kernel_rfl
theorem powData {H : Type} : (Rows.laid_internal_strconv_uint64pow10 : DataW H) = Lib.tabData .u64 Lib.pow10Tab := rfl
theorem pow_of_laid {W : World} (h : laidMetH Tryd.prog laid3 W) : Pow W := by
  rw [MakeChecks.laidMetH_plain _ _ _ (by kernel_rfl)] at h
  obtain ⟨ps, ⟨g0, t0, cs0, f0, p0, q0, hg0, ht0, hv0, hd0, ⟨g1, t1, cs1, f1, p1, q1, hg1, ht1, hv1, hd1, ⟨g2, t2, cs2, f2, p2, q2, hg2, ht2, hv2, hd2, _, _⟩, _⟩, _⟩, _, _⟩ := h
  obtain rfl := Option.some.inj (gPow.symm.trans hg2)
  obtain rfl := Option.some.inj (tPow.symm.trans ht2)
  unfold Pow Lib.TabIs
  rw [powData] at hd2
  rw [hv2, ← Lib.cells_of_tab Tryd.underlying124 Tryd.underlying106 (by kernel_rfl) (by kernel_rfl) hd2]
theorem door_met3 (os : Os) (args : Array Value) : laidMetH Tryd.prog laid3 ((World.doorLaid Tryd.prog 400 os).forCall (fun _ _ => 0) ⟨#[], args, []⟩).memory :=
  laidMetH_of_parts3 (fuel := 8) (laidMet_of_run' 8 (by kernel_rfl) (by kernel_rfl)) (by kernel_rfl) (by kernel_rfl)
def laid4 : List (String × DataW Unit) := [("math/bits.deBruijn32tab", Rows.laid_math_bits_deBruijn32tab), ("math/bits.deBruijn64tab", Rows.laid_math_bits_deBruijn64tab), ("internal/strconv.uint64pow10", Rows.laid_internal_strconv_uint64pow10), ("weft/addr.classes", Rows.laid_weft_addr_classes)]
theorem gCls : Tryd.prog.globalNamed "weft/addr.classes" = some 0 := by kernel_rfl
theorem tCls : (Tryd.prog.globals[0]?).map (·.type) = some 80 := by kernel_rfl
theorem len_three {α : Type} (l : List α) (h : l.length = 3) : ∃ a b c, l = [a, b, c] := by
  match l, h with
  | [a, b, c], _ => exact ⟨a, b, c, rfl⟩
theorem len_four {α : Type} (l : List α) (h : l.length = 4) : ∃ a b c d, l = [a, b, c, d] := by
  match l, h with
  | [a, b, c, d], _ => exact ⟨a, b, c, d, rfl⟩
set_option maxRecDepth 100000 in
/-- one class, read -/
theorem cls_cells {H : Type} {enc : TypeId × Value → H} {w : World} {base : Nat} {sp : Nat → Bool} {held : Bool} {fuel : Nat} {cs : List Value} {x : DataW H × List MemPlace} {a b c : Int}
    (h : DataW.trod enc Tryd.prog w base sp held fuel 82 cs = some x) (hx : x.1 = .agg [.agg [.lit (.int .u32 a), .lit (.int .i64 b)], .lit (.int .i64 c)]) : cs = [.int .u32 a, .int .i64 b, .int .i64 c] := by
  obtain ⟨y0, y1, n, rfl, hl, h0, h1⟩ := ChangeShapes.trod_struct2 Tryd.underlying82 h
  have c82 : Tryd.prog.cellsOf 82 = 3 := by kernel_rfl
  have c31 : Tryd.prog.cellsOf 31 = 2 := by kernel_rfl
  have c3 : Tryd.prog.cellsOf 3 = 1 := by kernel_rfl
  have c29 : Tryd.prog.cellsOf 29 = 1 := by kernel_rfl
  rw [c82] at hl
  obtain ⟨u, v, z, rfl⟩ := len_three cs hl
  dsimp only at h0 h1
  rw [c31] at h0
  rw [c3] at h1
  simp only [DataW.agg.injEq, List.cons.injEq, and_true] at hx
  obtain ⟨hx0, hx1⟩ := hx
  obtain ⟨k, e1, e2, _⟩ := DataW.trod_int Tryd.underlying3 h1
  rw [e2] at hx1
  obtain ⟨z0, z1, m, e3, hl2, g0, g1⟩ := ChangeShapes.trod_struct2 Tryd.underlying31 h0
  rw [e3] at hx0
  simp only [DataW.agg.injEq, List.cons.injEq, and_true] at hx0
  dsimp only at g0 g1
  rw [c29] at g0
  rw [c3] at g1
  obtain ⟨k0, f1, f2, _⟩ := DataW.trod_int Tryd.underlying29 g0
  obtain ⟨k1, f3, f4, _⟩ := DataW.trod_int Tryd.underlying3 g1
  rw [f2, f4] at hx0
  simp at hx0 hx1 e1 f1 f3
  obtain ⟨hx2, hx3⟩ := hx0
  subst hx1; subst hx2; subst hx3
  rw [e1, f1, f3]
set_option maxRecDepth 100000 in
theorem both_of_laid {W : World} (h : laidMetH Tryd.prog laid4 W) : Pow W ∧ Cls W := by
  rw [MakeChecks.laidMetH_plain _ _ _ (by kernel_rfl)] at h
  obtain ⟨ps, ⟨g0, t0, cs0, f0, p0, q0, hg0, ht0, hv0, hd0, ⟨g1, t1, cs1, f1, p1, q1, hg1, ht1, hv1, hd1, ⟨g2, t2, cs2, f2, p2, q2, hg2, ht2, hv2, hd2, ⟨g3, t3, cs3, f3, p3, q3, hg3, ht3, hv3, hd3, _, _⟩, _⟩, _⟩, _⟩, _, _⟩ := h
  obtain rfl := Option.some.inj (gPow.symm.trans hg2)
  obtain rfl := Option.some.inj (tPow.symm.trans ht2)
  obtain rfl := Option.some.inj (gCls.symm.trans hg3)
  obtain rfl := Option.some.inj (tCls.symm.trans ht3)
  refine ⟨?_, ?_⟩
  · unfold Pow Lib.TabIs
    rw [powData] at hd2
    rw [hv2, ← Lib.cells_of_tab Tryd.underlying124 Tryd.underlying106 (by kernel_rfl) (by kernel_rfl) hd2]
  · rcases DataW.trod_slice Tryd.underlying80 hd3 with ⟨_, hx⟩ | ⟨a, len, cap, elems, rest, n, _, hcs, hx, _, hlc, _, hel, hget, _, _⟩
    · simp [Rows.laid_weft_addr_classes] at hx
    · have c82 : Tryd.prog.cellsOf 82 = 3 := by kernel_rfl
      have hx := (Prod.mk.inj hx).1
      simp only [Rows.laid_weft_addr_classes, DataW.slice.injEq] at hx
      obtain ⟨hx, _⟩ := hx
      have h4 : elems.length = 4 := by have := congrArg List.length hx; simpa using this.symm
      obtain ⟨x0, x1, x2, x3, rfl⟩ := len_four elems h4
      simp only [List.map_cons, List.map_nil, List.cons.injEq, and_true] at hx
      obtain ⟨e0, e1, e2, e3⟩ := hx
      obtain rfl : len = 4 := by simpa using hel.symm
      have hcell : W.cell? ⟨0, 0, none⟩ = some (.slice (some a) 4 cap) := by
        have := World.var?_cell hg3 hv3 0
        rw [Array.eq_one_of_toList hcs] at this
        simpa using this
      refine ⟨a, cap, hcell, ?_⟩
      have rd : ∀ (i : Nat) (x : DataW Unit × List MemPlace) (p l c : Int), i < 4 → [x0, x1, x2, x3][i]? = some x → DataW.agg [.agg [.lit (.int .u32 p), .lit (.int .i64 l)], .lit (.int .i64 c)] = x.1 →
          W.cell? (a.add (i * 3)) = some (.int .u32 p) ∧ W.cell? (a.add (i * 3 + 1)) = some (.int .i64 l) ∧ W.cell? (a.add (i * 3 + 2)) = some (.int .i64 c) := by
        intro i x p l c hi hxi hxe
        have hg := hget i hi
        rw [c82, hxi] at hg
        obtain ⟨cs, hcs2, htr⟩ := Option.bind_eq_some_iff.1 hg
        obtain ⟨_, hcl, hce⟩ := World.cells?_some hcs2
        have hc3 := cls_cells htr hxe.symm
        subst hc3
        have q0 := hce 0 (by decide)
        have q1 := hce 1 (by decide)
        have q2 := hce 2 (by decide)
        have ea : ∀ j, (a.add (i * 3)).add j = a.add (i * 3 + j) := by
          intro j
          rcases a with ⟨ab, ao, asp⟩
          unfold Addr.add
          by_cases h1 : j = 0
          · subst h1; simp
          · by_cases h2 : i * 3 = 0
            · simp [h1, h2]
            · simp [h1, h2]; omega
        rw [ea] at q0 q1 q2
        exact ⟨by simpa using q0, by simpa using q1, by simpa using q2⟩
      obtain ⟨a0, a1, a2⟩ := rd 0 x0 _ _ _ (by omega) rfl e0
      obtain ⟨b0, b1, b2⟩ := rd 1 x1 _ _ _ (by omega) rfl e1
      obtain ⟨d0, d1, d2⟩ := rd 2 x2 _ _ _ (by omega) rfl e2
      obtain ⟨k0, k1, k2⟩ := rd 3 x3 _ _ _ (by omega) rfl e3
      intro i v hi
      have hi' : i < 12 := (List.getElem?_eq_some_iff.1 hi).1
      match i, hi', hi with
      | 0, _, hi => cases hi; exact a0
      | 1, _, hi => cases hi; exact a1
      | 2, _, hi => cases hi; exact a2
      | 3, _, hi => cases hi; exact b0
      | 4, _, hi => cases hi; exact b1
      | 5, _, hi => cases hi; exact b2
      | 6, _, hi => cases hi; exact d0
      | 7, _, hi => cases hi; exact d1
      | 8, _, hi => cases hi; exact d2
      | 9, _, hi => cases hi; exact k0
      | 10, _, hi => cases hi; exact k1
      | 11, _, hi => cases hi; exact k2
theorem door_met4 (os : Os) (args : Array Value) : laidMetH Tryd.prog laid4 ((World.doorLaid Tryd.prog 400 os).forCall (fun _ _ => 0) ⟨#[], args, []⟩).memory :=
  laidMetH_of_parts3 (fuel := 8) (laidMet_of_run' 8 (by kernel_rfl) (by kernel_rfl)) (by kernel_rfl) (by kernel_rfl)
end Go.Proofs.YtncpcjphljfcpaaDoor
