/- The sort at u32, from the kit's plain functions: rows of numbers, the insertion sort between any two places. The sort at u32: a range turned round. The sort at u32: sifting down. The sort at u32: heapSort. No condition beyond the row. The sort at u32: partitionEqual. No condition beyond the row. The sort at u32: partition. No condition beyond the row. The sort at u32: partialInsertionSort. No condition beyond the row. The sort at u32: the choice of a pivot. No condition beyond the row. The sort at u32: bits.Len below 65536, and the breaking of patterns. No condition beyond the row. The sort at u32: patterns broken. Of rows of fewer than 65536 numbers. The sort at u32: pdqsort in full. Of rows of fewer than 65536 numbers. slices.Sort, slices.Sorted at u32 and package ipam's List, of up to 1024 pods. No condition beyond the state's own. -/
import Derived.Test.YtgabkifojnkbkaaIpmY
import Derived.Sort.Defs
import Derived.Sort.LotA
import Derived.Sort.LotC
import Derived.Deep.DeepCutAuto
import Derived.Deep.CutBlock
import Derived.Deep.LoopGhost
import Derived.Lib.Strings
import Derived.Lib.Slices
import Derived.Lib.Small
import Derived.Lib.Walk
import Derived.Lib.BitFns
import Derived.Sort.Lot0
import Derived.Sort.LotB
import Derived.Sort.LotD3
import Derived.Test.YtgabkifojnkbkaaIpmB
set_option linter.unusedVariables false
set_option linter.unusedSimpArgs false
namespace Go.Proofs.Ytgabkifojnkbkaa.Ip
open Go.RowKit Go.Maps Go.WideMaps Go.MapKept Go.Proofs.YtgabkifojnkbkaaW.PrintWords Go.Proofs.Ytgabkifojnkbkaa.PIpf
open Go.Sort (swp insInner insOuter insertionSort ltInt)
/-- the row at g holds d -/
def RowA (w : World) (base g n cap : Nat) (d : Array Int) : Prop := d.size = n ∧ w.ownsRow base 23 1 (.slice (some ⟨g, 0, none⟩) n cap) n (d.toList.map encA)
section
variable {w w1 : World} {base g n cap : Nat} {d : Array Int}
theorem RowA.get (h : RowA w base g n cap d) (i : Nat) (hi : i < n) : w.cell? ⟨g, i, none⟩ = some (.int .u32 d[i]!) := by
  have hi2 : i < d.size := by rw [h.1]; exact hi
  have a := h.2.cells (g := g) rfl i (.int .u32 d[i]!) (by simp [hi2, getElem!_pos])
  rwa [add_plain] at a
theorem RowA.frozen (h : RowA w base g n cap d) (i : Nat) : w.frozen? ⟨g, i, none⟩ = false := h.2.frozenAt (g := g) i
theorem RowA.set (h : RowA w base g n cap d) (i : Nat) (x : Int) : RowA (w.setCell ⟨g, i, none⟩ (.int .u32 x)) base g n cap (d.setIfInBounds i x) := by
  refine ⟨by rw [Array.size_setIfInBounds]; exact h.1, ?_⟩
  have h1 := (h.2.stored i (.int .u32 x)).1
  rwa [show (d.toList.map encA).set i (.int .u32 x) = (d.setIfInBounds i x).toList.map encA from by rw [Array.toList_setIfInBounds, List.map_set]] at h1
theorem RowA.swp (h : RowA w base g n cap d) (i j : Nat) : RowA ((w.setCell ⟨g, i, none⟩ (.int .u32 d[j]!)).setCell ⟨g, j, none⟩ (.int .u32 d[i]!)) base g n cap (swp d i j) := (h.set i d[j]!).set j d[i]!
theorem RowA.drew (h : RowA w base g n cap d) (m : Nat) : RowA (w.drewN m) base g n cap d := h
theorem RowA.base_le (h : RowA w base g n cap d) : base ≤ g ∧ g < w.heap.size := h.2.lt g rfl
end
set_option maxHeartbeats 16000000 in
set_option maxRecDepth 100000 in
theorem insert66 (w : World) (base g n cap a b : Nat) (d : Array Int) (hab : a ≤ b) (hb : b ≤ n) (hm : n ≤ 4294967296) (hrow : RowA w base g n cap d) (hbase : base ≤ w.heap.size) :
    Calls Try.prog 66 #[.slice (some ⟨g, 0, none⟩) n cap, .int .i64 a, .int .i64 b] w fun e w' => e = .returned (.tuple #[]) ∧ RowA w' base g n cap (insertionSort ltInt d a b) ∧ Below base w w' := by
  have HROW := Aside0.mk hrow
  have HM := Aside0.mk hm
  have HG := Aside0.mk hrow.base_le.1
  have hless := less72
  clear hrow
  have hwa : IntKind.i64.wrap ((a : Int) + 1) = (a : Int) + 1 := wrap64_id (by omega) (by omega)
  go_enter Try.func66, Try.ntmps66
  go_wp2
  go_loopw [6] (fun vi wr => ∃ (i : Nat) (di : Array Int), vi = .int .i64 ((i : Nat) : Int) ∧ a + 1 ≤ i ∧ i ≤ b + 1 ∧ Aside0 (RowA wr base g n cap di) ∧ Aside0 (Below base w wr) ∧ Aside0 (insOuter ltInt a b i di = insertionSort ltInt d a b)) (fun vi _ => b + 1 - (intOf vi).toNat)
  case atStart => exact ⟨a + 1, d, by simp, by omega, by omega, HROW, ⟨Below.refl _ _⟩, ⟨rfl⟩⟩
  case round =>
    clear HROW
    obtain ⟨i, di, rfl, hi0, hi, HO, HB, HK⟩ := hrel
    by_cases hlt : i < b
    · have hli : (i : Int) < (b : Int) := by omega
      have hK2 : insOuter ltInt a b i di = insOuter ltInt a b (i + 1) (insInner ltInt a i di) := by rw [insOuter, if_pos hlt]
      have HK2 : Aside0 (insOuter ltInt a b (i + 1) (insInner ltInt a i di) = insertionSort ltInt d a b) := ⟨by rw [← hK2]; exact HK.out⟩
      clear hK2 HK
      go_wp2
      go_loopw [7] (fun vj wr2 => ∃ (j : Nat) (dj : Array Int), vj = .int .i64 j ∧ j ≤ i ∧ a ≤ j ∧ Aside0 (RowA wr2 base g n cap dj) ∧ Aside0 (Below base w wr2) ∧ Aside0 (insInner ltInt a j dj = insInner ltInt a i di)) (fun vj _ => (intOf vj).toNat)
      case atStart => exact ⟨i, di, rfl, Nat.le_refl _, by omega, HO, HB, ⟨rfl⟩⟩
      case round =>
        clear HO HB
        obtain ⟨j, dj, rfl, hj, hja, HO, HB, HK⟩ := hrel
        by_cases hja2 : j = a
        · subst hja2
          have hst : insInner ltInt j j dj = dj := by
            cases j with
            | zero => rfl
            | succ m => rw [insInner, if_neg (by simp)]
          have HKK : Aside0 (dj = insInner ltInt j i di) := ⟨by rw [← HK.out]; exact hst.symm⟩
          clear HK hst
          have hdec : decide ((j : Int) < (j : Int)) = false := by simp
          go_wp2
          go_quiet (fail)
          go_wp2
          go_roundw
          case rel => exact ⟨i + 1, dj, by go_num, by omega, by omega, ⟨HO.out.drew _⟩, ⟨pw_below_drewN HB.out _⟩, ⟨by rw [HKK.out]; exact HK2.out⟩⟩
          case measure => simp [intOf]; omega
        · obtain ⟨m, rfl⟩ : ∃ m, j = m + 1 := ⟨j - 1, by omega⟩
          rw [show ((m + 1 : Nat) : Int) = (m : Int) + 1 from by omega]
          have hm0 : (a : Int) < (m : Int) + 1 := by omega
          have hmi : (m : Int) + 1 < (n : Int) := by omega
          have hmi2 : (m : Int) < (n : Int) := by omega
          have hw1 : IntKind.i64.wrap ((m : Int) + 1 - 1) = (m : Int) := by rw [show (m : Int) + 1 - 1 = (m : Int) from by omega]; exact wrap64_id (by omega) (by omega)
          have c1 := HO.out.get (m + 1) (by omega)
          have c0 := HO.out.get m (by omega)
          have hstep : insInner ltInt a (m + 1) dj = if m + 1 > a && ltInt dj[m + 1]! dj[m]! then insInner ltInt a m (swp dj (m + 1) m) else dj := rfl
          have hgt : decide (m + 1 > a) = true := decide_eq_true (by omega)
          rw [HK.out, hgt, Bool.true_and] at hstep
          clear hgt
          by_cases hlt2 : dj[m + 1]! < dj[m]!
          · rw [show ltInt dj[m + 1]! dj[m]! = true from decide_eq_true hlt2, if_pos rfl] at hstep
            have HST := Aside0.mk hstep
            have hsw := Aside0.mk (fun (wq : World) (ho : RowA wq base g n cap dj) => (show _ ∧ _ ∧ _ from ⟨ho.get (m + 1) (by omega), ho.get m (by omega), ho.swp (m + 1) m⟩))
            clear hstep HK
            generalize swp dj (m + 1) m = sl at *
            generalize dj[m + 1]! = a1 at *
            generalize dj[m]! = a0 at *
            go_wp2
            go_quiet ((go_at_call 72; exact Calls.quiet_of_same (hless _ _ _)))
            obtain ⟨wq, hq⟩ : ∃ wq, wq = wr.drewN nq := ⟨_, rfl⟩
            rw [← hq]
            have HOq : Aside0 (RowA wq base g n cap dj) := ⟨by rw [hq]; exact HO.out⟩
            have HBq : Aside0 (Below base w wq) := ⟨by rw [hq]; exact pw_below_drewN HB.out _⟩
            clear hq c1 c0 HO HB
            obtain ⟨c1, c0, hs⟩ := hsw.out wq HOq.out
            have f1 := HOq.out.frozen (m + 1)
            have f3 := HOq.out.frozen m
            have hgq : g < wq.heap.size := HOq.out.base_le.2
            have HSW := Aside0.mk hs
            clear hs hsw
            go_wp2
            go_region
            all_goals
              go_wp2
              exact ⟨⟨m, sl, rfl, by omega, by omega, ⟨HSW.out⟩, ⟨(HBq.out.setCell (p := ⟨g, _, none⟩) HG.out _).setCell (p := ⟨g, _, none⟩) HG.out _ |>.drew⟩, ⟨HST.out.symm⟩⟩, by simp [intOf]⟩
          · rw [show ltInt dj[m + 1]! dj[m]! = false from decide_eq_false hlt2, if_neg (by decide)] at hstep
            have HKK : Aside0 (dj = insInner ltInt a i di) := ⟨hstep.symm⟩
            have hdec : decide (dj[m + 1]! < dj[m]!) = false := by simpa using hlt2
            clear hstep HK
            generalize dj[m + 1]! = a1 at *
            generalize dj[m]! = a0 at *
            go_wp2
            go_quiet ((go_at_call 72; exact Calls.quiet_of_same (hless _ _ _)))
            go_wp2
            go_roundw
            case rel => exact ⟨i + 1, dj, by go_num, by omega, by omega, ⟨HO.out.drew _⟩, ⟨pw_below_drewN HB.out _⟩, ⟨by rw [HKK.out]; exact HK2.out⟩⟩
            case measure => simp [intOf]; omega
    · have hend : insOuter ltInt a b i di = di := by rw [insOuter, if_neg hlt]
      have HE : Aside0 (di = insertionSort ltInt d a b) := ⟨by rw [← HK.out]; exact hend.symm⟩
      clear hend HK
      go_wp2
      go_end0
      exact ⟨rfl, by rw [← HE.out]; exact HO.out, HB.out⟩
end Go.Proofs.Ytgabkifojnkbkaa.Ip

set_option linter.unusedVariables false
set_option linter.unusedSimpArgs false
namespace Go.Proofs.Ytgabkifojnkbkaa.Ip
open Go.RowKit Go.Maps Go.WideMaps Go.MapKept Go.Proofs.YtgabkifojnkbkaaW.PrintWords Go.Proofs.Ytgabkifojnkbkaa.PIpf
open Go.Sort (swp reverseLoop reverseRange ltInt)
set_option maxHeartbeats 16000000 in
set_option maxRecDepth 100000 in
theorem reverse70 (w : World) (base g n cap a b : Nat) (d : Array Int) (hab : a < b) (hb : b ≤ n) (hm : n ≤ 4294967296) (hrow : RowA w base g n cap d) :
    Calls Try.prog 70 #[.slice (some ⟨g, 0, none⟩) n cap, .int .i64 a, .int .i64 b] w fun e w' => e = .returned (.tuple #[]) ∧ RowA w' base g n cap (reverseRange d a b) ∧ Below base w w' := by
  have HROW := Aside0.mk hrow
  have HG := Aside0.mk hrow.base_le.1
  clear hrow
  obtain ⟨b1, rfl⟩ : ∃ b1, b = b1 + 1 := ⟨b - 1, by omega⟩
  have hwb : IntKind.i64.wrap (((b1 + 1 : Nat) : Int) - 1) = (b1 : Int) := by rw [show ((b1 + 1 : Nat) : Int) - 1 = (b1 : Int) from by omega]; exact wrap64_id (by omega) (by omega)
  go_enter Try.func70, Try.ntmps70
  go_wp2
  go_loopw [6, 7] (fun vi vj wr => ∃ (i j : Nat) (di : Array Int), vi = .int .i64 (i : Int) ∧ vj = .int .i64 (j : Int) ∧ i ≤ b1 + 1 ∧ j ≤ b1 ∧ Aside0 (RowA wr base g n cap di) ∧ Aside0 (Below base w wr) ∧ Aside0 (reverseLoop i j di = reverseRange d a (b1 + 1))) (fun vi vj _ => (intOf vj).toNat - (intOf vi).toNat)
  case atStart => exact ⟨a, b1, d, rfl, by simp, by omega, by omega, HROW, ⟨Below.refl _ _⟩, ⟨rfl⟩⟩
  case round =>
    clear HROW
    obtain ⟨i, j, di, rfl, rfl, hi, hj, HO, HB, HK⟩ := hrel
    by_cases hlt : i < j
    · have hst : reverseLoop i j di = reverseLoop (i + 1) (j - 1) (swp di i j) := by rw [reverseLoop, if_pos hlt]
      have HST : Aside0 (reverseLoop (i + 1) (j - 1) (swp di i j) = reverseRange d a (b1 + 1)) := ⟨by rw [← hst]; exact HK.out⟩
      clear hst HK
      have hlti : (i : Int) < (j : Int) := by omega
      have hin : (i : Int) < (n : Int) := by omega
      have hjn : (j : Int) < (n : Int) := by omega
      have hw1 : IntKind.i64.wrap ((i : Int) + 1) = (i : Int) + 1 := wrap64_id (by omega) (by omega)
      have hw2 : IntKind.i64.wrap ((j : Int) - 1) = ((j - 1 : Nat) : Int) := by rw [show (j : Int) - 1 = ((j - 1 : Nat) : Int) from by omega]; exact wrap64_id (by omega) (by omega)
      have ci := HO.out.get i (by omega)
      have cj := HO.out.get j (by omega)
      have fi := HO.out.frozen i
      have fj := HO.out.frozen j
      have hgq : g < wr.heap.size := HO.out.base_le.2
      have HSW := Aside0.mk (HO.out.swp i j)
      generalize swp di i j = sl at *
      generalize di[i]! = a1 at *
      generalize di[j]! = a0 at *
      go_wp2
      go_region
      all_goals
        go_wp2
        exact ⟨⟨i + 1, j - 1, sl, by simp, by simp <;> omega, by omega, by omega, ⟨HSW.out⟩, ⟨(HB.out.setCell (p := ⟨g, _, none⟩) HG.out _).setCell (p := ⟨g, _, none⟩) HG.out _ |>.drew⟩, HST⟩, by simp [intOf]; omega⟩
    · have hend : reverseLoop i j di = di := by rw [reverseLoop, if_neg hlt]
      have HE : Aside0 (di = reverseRange d a (b1 + 1)) := ⟨by rw [← HK.out]; exact hend.symm⟩
      clear hend HK
      go_wp2
      go_end0
      exact ⟨rfl, by rw [← HE.out]; exact HO.out, HB.out⟩
end Go.Proofs.Ytgabkifojnkbkaa.Ip

set_option linter.unusedVariables false
set_option linter.unusedSimpArgs false
namespace Go.Proofs.Ytgabkifojnkbkaa.Ip
open Go.RowKit Go.Maps Go.WideMaps Go.MapKept Go.Proofs.YtgabkifojnkbkaaW.PrintWords Go.Proofs.Ytgabkifojnkbkaa.PIpf
open Go.Sort (swp siftDown ltInt)
theorem sift_end {hi f r : Nat} {d : Array Int} (h : hi ≤ 2 * r + 1) : siftDown ltInt hi f r d = d := by
  rw [siftDown, dif_pos h]
theorem sift_right {hi f r : Nat} {d : Array Int} (h : 2 * r + 1 + 1 < hi) (hl : d[f + (2 * r + 1)]! < d[f + (2 * r + 1) + 1]!) :
    siftDown ltInt hi f r d = if d[f + r]! < d[f + (2 * r + 1 + 1)]! then siftDown ltInt hi f (2 * r + 1 + 1) (swp d (f + r) (f + (2 * r + 1 + 1))) else d := by
  conv => lhs; rw [siftDown]
  rw [dif_neg (by omega), if_pos (by simp [ltInt, h, hl])]
  by_cases c : d[f + r]! < d[f + (2 * r + 2)]!
  · rw [if_neg (by simp [ltInt, c]), dif_pos (by omega), if_pos c]
  · rw [if_pos (by simp [ltInt]; omega), if_neg c]
theorem sift_left {hi f r : Nat} {d : Array Int} (h : 2 * r + 1 < hi) (hl : ¬ (2 * r + 1 + 1 < hi ∧ d[f + (2 * r + 1)]! < d[f + (2 * r + 1) + 1]!)) :
    siftDown ltInt hi f r d = if d[f + r]! < d[f + (2 * r + 1)]! then siftDown ltInt hi f (2 * r + 1) (swp d (f + r) (f + (2 * r + 1))) else d := by
  conv => lhs; rw [siftDown]
  rw [dif_neg (by omega), if_neg (by simpa [ltInt] using hl)]
  by_cases c : d[f + r]! < d[f + (2 * r + 1)]!
  · rw [if_neg (by simp [ltInt, c]), if_pos c]
  · rw [if_pos (by simp [ltInt]; omega), if_neg c]
set_option maxHeartbeats 16000000 in
set_option maxRecDepth 100000 in
theorem sift77 (w : World) (base g n cap lo hi f : Nat) (d : Array Int) (hb : f + hi ≤ n) (hlo : lo ≤ n) (hm : n ≤ 4294967296) (hrow : RowA w base g n cap d) :
    Calls Try.prog 77 #[.slice (some ⟨g, 0, none⟩) n cap, .int .i64 lo, .int .i64 hi, .int .i64 f] w fun e w' => e = .returned (.tuple #[]) ∧ RowA w' base g n cap (siftDown ltInt hi f lo d) ∧ Below base w w' := by
  have HROW := Aside0.mk hrow
  have HG := Aside0.mk hrow.base_le.1
  have hless := less72
  clear hrow
  go_enter Try.func77, Try.ntmps77
  go_wp2
  go_loopw [8] (fun vi wr => ∃ (r : Nat) (di : Array Int), vi = .int .i64 (r : Int) ∧ r ≤ n ∧ Aside0 (RowA wr base g n cap di) ∧ Aside0 (Below base w wr) ∧ Aside0 (siftDown ltInt hi f r di = siftDown ltInt hi f lo d)) (fun vi _ => hi - (intOf vi).toNat)
  case atStart => exact ⟨lo, d, rfl, hlo, HROW, ⟨Below.refl _ _⟩, ⟨rfl⟩⟩
  case round =>
    clear HROW
    obtain ⟨r, di, rfl, hr, HO, HB, HK⟩ := hrel
    have hwm : IntKind.i64.wrap (2 * (r : Int)) = 2 * (r : Int) := wrap64_id (by omega) (by omega)
    have hwc : IntKind.i64.wrap (2 * (r : Int) + 1) = ((2 * r + 1 : Nat) : Int) := by rw [show 2 * (r : Int) + 1 = ((2 * r + 1 : Nat) : Int) from by omega]; exact wrap64_id (by omega) (by omega)
    by_cases hlt : hi ≤ 2 * r + 1
    · have HE : Aside0 (di = siftDown ltInt hi f lo d) := ⟨by rw [← HK.out]; exact (sift_end hlt).symm⟩
      clear HK
      have hge : (hi : Int) ≤ ((2 * r + 1 : Nat) : Int) := by omega
      generalize 2 * r + 1 = ch at *
      go_wp2
      go_end0
      exact ⟨rfl, by rw [← HE.out]; exact HO.out, HB.out⟩
    · have hge : ¬ (hi : Int) ≤ ((2 * r + 1 : Nat) : Int) := by omega
      have hR : ∀ h hl, _ := fun h hl => sift_right (hi := hi) (f := f) (r := r) (d := di) h hl
      have hL := fun hl => sift_left (hi := hi) (f := f) (r := r) (d := di) (by omega) hl
      have hch : 2 * r + 1 < hi := by omega
      have hrc : r < 2 * r + 1 := by omega
      generalize 2 * r + 1 = ch at *
      clear hlt
      have hw1 : IntKind.i64.wrap ((ch : Int) + 1) = ((ch + 1 : Nat) : Int) := by rw [show (ch : Int) + 1 = ((ch + 1 : Nat) : Int) from by omega]; exact wrap64_id (by omega) (by omega)
      have hw2 : IntKind.i64.wrap ((f : Int) + (ch : Int)) = ((f + ch : Nat) : Int) := by rw [show (f : Int) + ch = ((f + ch : Nat) : Int) from by omega]; exact wrap64_id (by omega) (by omega)
      have hw3 : IntKind.i64.wrap (((f + ch : Nat) : Int) + 1) = ((f + ch + 1 : Nat) : Int) := by rw [show ((f + ch : Nat) : Int) + 1 = ((f + ch + 1 : Nat) : Int) from by omega]; exact wrap64_id (by omega) (by omega)
      have hw4 : IntKind.i64.wrap ((f : Int) + (r : Int)) = ((f + r : Nat) : Int) := by rw [show (f : Int) + r = ((f + r : Nat) : Int) from by omega]; exact wrap64_id (by omega) (by omega)
      have hw5 : IntKind.i64.wrap ((f : Int) + ((ch + 1 : Nat) : Int)) = ((f + ch + 1 : Nat) : Int) := by rw [show (f : Int) + ((ch + 1 : Nat) : Int) = ((f + ch + 1 : Nat) : Int) from by omega]; exact wrap64_id (by omega) (by omega)
      have hnr : ((f + r : Nat) : Int) < (n : Int) := by omega
      have hnc : ((f + ch : Nat) : Int) < (n : Int) := by omega
      have hp0 : (0 : Int) ≤ ((f + r : Nat) : Int) := by omega
      have hp1 : (0 : Int) ≤ ((f + ch : Nat) : Int) := by omega
      have hr1 : r < ch + 1 := by omega
      have hna : ¬ f + r = f + ch + 1 := by omega
      have hnb : ¬ f + ch + 1 = f + r := by omega
      have hnc1 : ¬ f + r = f + ch := by omega
      have hnc2 : ¬ f + ch = f + r := by omega
      have hcn0 : ch ≤ n := by omega
      have hrh : r < hi := by omega
      by_cases hA : ch + 1 < hi
      · have hAi : ((ch + 1 : Nat) : Int) < (hi : Int) := by omega
        have hnd : ((f + ch + 1 : Nat) : Int) < (n : Int) := by omega
        have hcn1 : ch + 1 ≤ n := by omega
        have hp2 : (0 : Int) ≤ ((f + ch + 1 : Nat) : Int) := by omega
        have c1 := HO.out.get (f + ch) (by omega)
        have c2 := HO.out.get (f + ch + 1) (by omega)
        by_cases hB : di[f + ch]! < di[f + ch + 1]!
        · have hst : siftDown ltInt hi f r di = if di[f + r]! < di[f + ch + 1]! then siftDown ltInt hi f (ch + 1) (swp di (f + r) (f + ch + 1)) else di := hR hA hB
          have hsw := Aside0.mk (fun (wq : World) (ho : RowA wq base g n cap di) => (show _ ∧ _ ∧ _ from ⟨ho.get (f + r) (by omega), ho.get (f + ch + 1) (by omega), ho.swp (f + r) (f + ch + 1)⟩))
          clear hR hL
          generalize swp di (f + r) (f + ch + 1) = sl at *
          generalize di[f + ch]! = v0 at *
          generalize di[f + ch + 1]! = v1 at *
          generalize di[f + r]! = vr at *
          generalize f + ch + 1 = i2 at *
          generalize f + ch = i1 at *
          generalize f + r = i0 at *
          generalize ch + 1 = ch1 at *
          go_wp2
          go_quiet ((go_at_call 72; exact Calls.quiet_of_same (hless _ _ _)))
          obtain ⟨wq, hq⟩ : ∃ wq, wq = wr.drewN nq := ⟨_, rfl⟩
          rw [← hq]
          have HOq : Aside0 (RowA wq base g n cap di) := ⟨by rw [hq]; exact HO.out⟩
          have HBq : Aside0 (Below base w wq) := ⟨by rw [hq]; exact pw_below_drewN HB.out _⟩
          clear hq c1 c2 HO HB
          by_cases hC : vr < v1
          · rw [if_pos hC] at hst
            have HST : Aside0 (siftDown ltInt hi f (ch1) sl = siftDown ltInt hi f lo d) := ⟨by rw [← HK.out]; exact hst.symm⟩
            clear hst HK
            obtain ⟨cr, cc, _⟩ := hsw.out wq HOq.out
            go_wp2
            go_quiet ((go_at_call 72; exact Calls.quiet_of_same (hless _ _ _)))
            obtain ⟨wz, hz⟩ : ∃ wz, wz = wq.drewN nq := ⟨_, rfl⟩
            rw [← hz]
            have HOz : Aside0 (RowA wz base g n cap di) := ⟨by rw [hz]; exact HOq.out⟩
            have HBz : Aside0 (Below base w wz) := ⟨by rw [hz]; exact pw_below_drewN HBq.out _⟩
            clear hz cr cc HOq HBq
            obtain ⟨cr, cc, hs⟩ := hsw.out wz HOz.out
            have f1 := HOz.out.frozen i0
            have f2 := HOz.out.frozen i2
            have hgq : g < wz.heap.size := HOz.out.base_le.2
            have HSW := Aside0.mk hs
            clear hs hsw
            go_wp2
            go_region
            all_goals
              go_wp2
              exact ⟨⟨ch1, sl, rfl, by omega, ⟨HSW.out⟩, ⟨(HBz.out.setCell (p := ⟨g, _, none⟩) HG.out _).setCell (p := ⟨g, _, none⟩) HG.out _ |>.drew⟩, HST⟩, by simp [intOf]; omega⟩
          · rw [if_neg hC] at hst
            have HE : Aside0 (di = siftDown ltInt hi f lo d) := ⟨by rw [← HK.out]; exact hst.symm⟩
            have hdC : decide (vr < v1) = false := by simpa using hC
            clear hst HK
            obtain ⟨cr, cc, _⟩ := hsw.out wq HOq.out
            go_wp2
            go_quiet ((go_at_call 72; exact Calls.quiet_of_same (hless _ _ _)))
            go_wp2
            (first | (go_end0) | ((try simp only [Exit.inBlock, Exit.then]); refine bodyPost_ret (results_none rfl _ _ _) rfl ?_))
            exact ⟨rfl, by rw [← HE.out]; exact HOq.out.drew _, pw_below_drewN HBq.out _⟩
        · have hst : siftDown ltInt hi f r di = if di[f + r]! < di[f + ch]! then siftDown ltInt hi f ch (swp di (f + r) (f + ch)) else di := hL (fun h => hB h.2)
          have hsw := Aside0.mk (fun (wq : World) (ho : RowA wq base g n cap di) => (show _ ∧ _ ∧ _ from ⟨ho.get (f + r) (by omega), ho.get (f + ch) (by omega), ho.swp (f + r) (f + ch)⟩))
          have hdB : decide (di[f + ch]! < di[f + ch + 1]!) = false := by simpa using hB
          clear hR hL
          generalize swp di (f + r) (f + ch) = sl at *
          generalize di[f + ch]! = v0 at *
          generalize di[f + ch + 1]! = v1 at *
          generalize di[f + r]! = vr at *
          generalize f + ch + 1 = i2 at *
          generalize f + ch = i1 at *
          generalize f + r = i0 at *
          generalize ch + 1 = ch1 at *
          go_wp2
          go_quiet ((go_at_call 72; exact Calls.quiet_of_same (hless _ _ _)))
          obtain ⟨wq, hq⟩ : ∃ wq, wq = wr.drewN nq := ⟨_, rfl⟩
          rw [← hq]
          have HOq : Aside0 (RowA wq base g n cap di) := ⟨by rw [hq]; exact HO.out⟩
          have HBq : Aside0 (Below base w wq) := ⟨by rw [hq]; exact pw_below_drewN HB.out _⟩
          clear hq c1 c2 HO HB
          by_cases hC : vr < v0
          · rw [if_pos hC] at hst
            have HST : Aside0 (siftDown ltInt hi f (ch) sl = siftDown ltInt hi f lo d) := ⟨by rw [← HK.out]; exact hst.symm⟩
            clear hst HK
            obtain ⟨cr, cc, _⟩ := hsw.out wq HOq.out
            go_wp2
            go_quiet ((go_at_call 72; exact Calls.quiet_of_same (hless _ _ _)))
            obtain ⟨wz, hz⟩ : ∃ wz, wz = wq.drewN nq := ⟨_, rfl⟩
            rw [← hz]
            have HOz : Aside0 (RowA wz base g n cap di) := ⟨by rw [hz]; exact HOq.out⟩
            have HBz : Aside0 (Below base w wz) := ⟨by rw [hz]; exact pw_below_drewN HBq.out _⟩
            clear hz cr cc HOq HBq
            obtain ⟨cr, cc, hs⟩ := hsw.out wz HOz.out
            have f1 := HOz.out.frozen i0
            have f2 := HOz.out.frozen i1
            have hgq : g < wz.heap.size := HOz.out.base_le.2
            have HSW := Aside0.mk hs
            clear hs hsw
            go_wp2
            go_region
            all_goals
              go_wp2
              exact ⟨⟨ch, sl, rfl, by omega, ⟨HSW.out⟩, ⟨(HBz.out.setCell (p := ⟨g, _, none⟩) HG.out _).setCell (p := ⟨g, _, none⟩) HG.out _ |>.drew⟩, HST⟩, by simp [intOf]; omega⟩
          · rw [if_neg hC] at hst
            have HE : Aside0 (di = siftDown ltInt hi f lo d) := ⟨by rw [← HK.out]; exact hst.symm⟩
            have hdC : decide (vr < v0) = false := by simpa using hC
            clear hst HK
            obtain ⟨cr, cc, _⟩ := hsw.out wq HOq.out
            go_wp2
            go_quiet ((go_at_call 72; exact Calls.quiet_of_same (hless _ _ _)))
            go_wp2
            (first | (go_end0) | ((try simp only [Exit.inBlock, Exit.then]); refine bodyPost_ret (results_none rfl _ _ _) rfl ?_))
            exact ⟨rfl, by rw [← HE.out]; exact HOq.out.drew _, pw_below_drewN HBq.out _⟩
      · have hAd : decide (((ch + 1 : Nat) : Int) < (hi : Int)) = false := by simp; omega
        have hst : siftDown ltInt hi f r di = if di[f + r]! < di[f + ch]! then siftDown ltInt hi f ch (swp di (f + r) (f + ch)) else di := hL (fun h => hA h.1)
        have hsw := Aside0.mk (fun (wq : World) (ho : RowA wq base g n cap di) => (show _ ∧ _ ∧ _ from ⟨ho.get (f + r) (by omega), ho.get (f + ch) (by omega), ho.swp (f + r) (f + ch)⟩))
        clear hR hL
        generalize swp di (f + r) (f + ch) = sl at *
        generalize di[f + ch]! = v0 at *
        generalize di[f + r]! = vr at *
        generalize f + ch + 1 = i2 at *
        generalize f + ch = i1 at *
        generalize f + r = i0 at *
        generalize ch + 1 = ch1 at *
        go_wp2
        go_quiet (fail)
        obtain ⟨wq, hq⟩ : ∃ wq, wq = wr.drewN nq := ⟨_, rfl⟩
        rw [← hq]
        have HOq : Aside0 (RowA wq base g n cap di) := ⟨by rw [hq]; exact HO.out⟩
        have HBq : Aside0 (Below base w wq) := ⟨by rw [hq]; exact pw_below_drewN HB.out _⟩
        clear hq HO HB
        by_cases hC : vr < v0
        · rw [if_pos hC] at hst
          have HST : Aside0 (siftDown ltInt hi f (ch) sl = siftDown ltInt hi f lo d) := ⟨by rw [← HK.out]; exact hst.symm⟩
          clear hst HK
          obtain ⟨cr, cc, _⟩ := hsw.out wq HOq.out
          go_wp2
          go_quiet ((go_at_call 72; exact Calls.quiet_of_same (hless _ _ _)))
          obtain ⟨wz, hz⟩ : ∃ wz, wz = wq.drewN nq := ⟨_, rfl⟩
          rw [← hz]
          have HOz : Aside0 (RowA wz base g n cap di) := ⟨by rw [hz]; exact HOq.out⟩
          have HBz : Aside0 (Below base w wz) := ⟨by rw [hz]; exact pw_below_drewN HBq.out _⟩
          clear hz cr cc HOq HBq
          obtain ⟨cr, cc, hs⟩ := hsw.out wz HOz.out
          have f1 := HOz.out.frozen i0
          have f2 := HOz.out.frozen i1
          have hgq : g < wz.heap.size := HOz.out.base_le.2
          have HSW := Aside0.mk hs
          clear hs hsw
          go_wp2
          go_region
          all_goals
            go_wp2
            exact ⟨⟨ch, sl, rfl, by omega, ⟨HSW.out⟩, ⟨(HBz.out.setCell (p := ⟨g, _, none⟩) HG.out _).setCell (p := ⟨g, _, none⟩) HG.out _ |>.drew⟩, HST⟩, by simp [intOf]; omega⟩
        · rw [if_neg hC] at hst
          have HE : Aside0 (di = siftDown ltInt hi f lo d) := ⟨by rw [← HK.out]; exact hst.symm⟩
          have hdC : decide (vr < v0) = false := by simpa using hC
          clear hst HK
          obtain ⟨cr, cc, _⟩ := hsw.out wq HOq.out
          go_wp2
          go_quiet ((go_at_call 72; exact Calls.quiet_of_same (hless _ _ _)))
          go_wp2
          (first | (go_end0) | ((try simp only [Exit.inBlock, Exit.then]); refine bodyPost_ret (results_none rfl _ _ _) rfl ?_))
          exact ⟨rfl, by rw [← HE.out]; exact HOq.out.drew _, pw_below_drewN HBq.out _⟩
end Go.Proofs.Ytgabkifojnkbkaa.Ip

set_option linter.unusedVariables false
set_option linter.unusedSimpArgs false
namespace Go.Proofs.Ytgabkifojnkbkaa.Ip
open Go.RowKit Go.Maps Go.WideMaps Go.MapKept Go.Proofs.YtgabkifojnkbkaaW.PrintWords Go.Proofs.Ytgabkifojnkbkaa.PIpf
open Go.Sort (swp siftDown heapBuild heapPop heapSort ltInt)
theorem RowA.drew1 {w : World} {base g n cap : Nat} {d : Array Int} (h : RowA w base g n cap d) : RowA w.drew base g n cap d := ⟨h.1, h.2.drew⟩
set_option maxHeartbeats 4000000 in
set_option maxRecDepth 100000 in
theorem heap67 (w : World) (base g n cap a h1 : Nat) (d : Array Int) (hb : a + (h1 + 1) ≤ n) (hm : n ≤ 4294967296) (hrow : RowA w base g n cap d) :
    Calls Try.prog 67 #[.slice (some ⟨g, 0, none⟩) n cap, .int .i64 a, .int .i64 ((a + (h1 + 1) : Nat) : Int)] w fun e w' => e = .returned (.tuple #[]) ∧ RowA w' base g n cap (heapSort ltInt d a (a + (h1 + 1))) ∧ Below base w w' := by
  have HROW := Aside0.mk hrow
  have HG := Aside0.mk hrow.base_le.1
  have hsift := Aside0.mk (fun (w' : World) (lo hi : Nat) (dj : Array Int) (h1 : a + hi ≤ n) (h2 : lo ≤ n) (ho : RowA w' base g n cap dj) => sift77 w' base g n cap lo hi a dj h1 h2 hm ho)
  clear hrow
  have hfin : heapSort ltInt d a (a + (h1 + 1)) = heapPop ltInt a (h1 + 1) (heapBuild ltInt (h1 + 1) a (h1 / 2 + 1) d) := by unfold heapSort; rw [show a + (h1 + 1) - a = h1 + 1 from by omega]; rfl
  have HFIN := Aside0.mk hfin
  clear hfin
  obtain ⟨b, hb1⟩ : ∃ b, b = a + (h1 + 1) := ⟨_, rfl⟩
  obtain ⟨h, hh1⟩ : ∃ h, h = h1 + 1 := ⟨_, rfl⟩
  obtain ⟨q, hq1⟩ : ∃ q, q = h1 / 2 := ⟨_, rfl⟩
  rw [← hb1, ← hh1, ← hq1] at HFIN
  rw [← hb1]
  rw [← hh1] at hb
  have hw1 : IntKind.i64.wrap ((b : Int) - (a : Int)) = (h : Int) := by rw [show (b : Int) - (a : Int) = (h : Int) from by omega]; exact wrap64_id (by omega) (by omega)
  have hw2 : IntKind.i64.wrap ((h : Int) - 1) = (h1 : Int) := by rw [show (h : Int) - 1 = (h1 : Int) from by omega]; exact wrap64_id (by omega) (by omega)
  have hq : Int.tdiv (h1 : Int) 2 = (q : Int) := by rw [Int.tdiv_eq_ediv_of_nonneg (by omega)]; omega
  have HQ : Aside0 (q + 1 ≤ h ∧ h1 + 1 = h) := ⟨by omega, by omega⟩
  have hqb : q < 4294967296 := by omega
  have hh1b : h1 < 4294967296 := by omega
  have hhb : h ≤ 4294967296 := by omega
  clear hb1 hh1 hq1
  go_enter Try.func67, Try.ntmps67
  go_wp2
  obtain ⟨FIN, hF⟩ : ∃ F, F = heapSort ltInt d a b := ⟨_, rfl⟩
  rw [← hF] at HFIN
  have HF := Aside0.mk hF
  clear hF
  obtain ⟨X, hX⟩ : ∃ X, X = heapBuild ltInt h a (q + 1) d := ⟨_, rfl⟩
  rw [← hX] at HFIN
  have HX := Aside0.mk hX.symm
  clear hX
  clear hw1 hw2
  have HQ' : Aside0 (IntKind.i64.wrap ((h : Int) - 1) = (h1 : Int)) := ⟨by rw [show (h : Int) - 1 = (h1 : Int) from by have := HQ.out.2; omega]; exact wrap64_id (by omega) (by omega)⟩
  go_loopw [9] (fun vi wr => ∃ (k : Nat) (di : Array Int), vi = .int .i64 ((k : Int) - 1) ∧ k ≤ h ∧ Aside0 (RowA wr base g n cap di) ∧ Aside0 (Below base w wr) ∧ Aside0 (heapBuild ltInt h a k di = X)) (fun vi _ => (intOf vi + 1).toNat)
  case atStart => exact ⟨q + 1, d, by congr 1; omega, HQ.out.1, HROW, ⟨Below.refl _ _⟩, HX⟩
  case round =>
    clear HROW HX
    try clear hq
    obtain ⟨k, di, rfl, hk, HO, HB, HK⟩ := hrel
    cases k with
    | zero =>
      have HE : Aside0 (di = X) := ⟨HK.out⟩
      have hw0 : ((0 : Nat) : Int) - 1 = -1 := by decide
      rw [hw0]
      have hw2 := HQ'.out
      go_wp2
      clear hw0 hw2 HK
      go_loopw [10] (fun vi wr => ∃ (k : Nat) (di : Array Int), vi = .int .i64 ((k : Int) - 1) ∧ k ≤ h ∧ Aside0 (RowA wr base g n cap di) ∧ Aside0 (Below base w wr) ∧ Aside0 (heapPop ltInt a k di = FIN)) (fun vi _ => (intOf vi + 1).toNat)
      case atStart => exact ⟨h, di, by congr 1; have := HQ.out.2; omega, Nat.le_refl _, HO, HB, ⟨by rw [HE.out]; exact HFIN.out.symm⟩⟩
      case round =>
        clear HO HB HE HFIN
        try clear HK
        obtain ⟨k, di, rfl, hk, HO, HB, HK⟩ := hrel
        cases k with
        | zero =>
          have HE : Aside0 (di = FIN) := ⟨HK.out⟩
          clear HK
          have hw0 : ((0 : Nat) : Int) - 1 = -1 := by decide
          rw [hw0]
          go_wp2
          go_end0
          exact ⟨rfl, by rw [← HF.out, ← HE.out]; exact HO.out, HB.out⟩
        | succ m =>
          have hm1 : ((m + 1 : Nat) : Int) - 1 = (m : Int) := by omega
          rw [hm1]
          have hw3 : IntKind.i64.wrap ((m : Int) - 1) = (m : Int) - 1 := IntWalk.i64_in _ (by omega)
          have hge : (0 : Int) ≤ (m : Int) := by omega
          have HKK : Aside0 (heapPop ltInt a m (siftDown ltInt m a 0 (swp di a (a + m))) = FIN) := ⟨HK.out⟩
          have hbm : a + m ≤ n := by omega
          clear hm1 HK
          obtain ⟨q, hq⟩ : ∃ q, q = a + m := ⟨_, rfl⟩
          have hwq : IntKind.i64.wrap ((a : Int) + (m : Int)) = (q : Int) := by rw [hq, show (a : Int) + m = ((a + m : Nat) : Int) from by omega]; exact wrap64_id (by omega) (by omega)
          have han : a < n := by omega
          have hqn : q < n := by omega
          rw [← hq] at HKK
          have ci := HO.out.get a han
          have cj := HO.out.get q hqn
          have fi := HO.out.frozen a
          have fj := HO.out.frozen q
          have hgq : g < wr.heap.size := HO.out.base_le.2
          have hai : (a : Int) < (n : Int) := by omega
          have hqi : (q : Int) < (n : Int) := by omega
          have hs0 := HO.out.swp a q
          have hs := Aside0.mk (show _ ∧ _ from ⟨hs0, fun (wq : World) (ho : RowA wq base g n cap (swp di a q)) => (show Calls Try.prog 77 #[.slice (some ⟨g, 0, none⟩) n cap, .int .i64 0, .int .i64 m, .int .i64 a] wq _ from hsift.out wq 0 m _ hbm (by omega) ho)⟩)
          clear hs0 hq
          generalize swp di a q = sl at *
          by_cases dif : q = a
          · subst dif
            clear cj fj hqi hqn
            generalize di[q]! = a1 at *
            go_wp2
            go_region
            all_goals
              go_wp2_with fail
              refine (hs.out.2 _ hs.out.1.drew1).mono ?_
              rintro e_ w5 ⟨rfl, hO, hB2⟩
              have HO2 := Aside0.mk hO
              have HB2 := Aside0.mk (((HB.out.setCell (p := ⟨g, _, none⟩) HG.out _).setCell (p := ⟨g, _, none⟩) HG.out _ |>.drew).trans hB2)
              clear hO hB2
              go_wp2
              exact ⟨⟨m, _, rfl, by omega, HO2, HB2, HKK⟩, by simp [intOf]⟩
          · have dif2 : ¬ a = q := fun e => dif e.symm
            generalize di[q]! = a1 at *
            generalize di[a]! = a0 at *
            go_wp2
            go_region
            all_goals
              go_wp2_with fail
              refine (hs.out.2 _ hs.out.1.drew1).mono ?_
              rintro e_ w5 ⟨rfl, hO, hB2⟩
              have HO2 := Aside0.mk hO
              have HB2 := Aside0.mk (((HB.out.setCell (p := ⟨g, _, none⟩) HG.out _).setCell (p := ⟨g, _, none⟩) HG.out _ |>.drew).trans hB2)
              clear hO hB2
              go_wp2
              exact ⟨⟨m, _, rfl, by omega, HO2, HB2, HKK⟩, by simp [intOf]⟩
    | succ m =>
      have hm1 : ((m + 1 : Nat) : Int) - 1 = (m : Int) := by omega
      rw [hm1]
      have hw3 : IntKind.i64.wrap ((m : Int) - 1) = (m : Int) - 1 := IntWalk.i64_in _ (by omega)
      have hge : (0 : Int) ≤ (m : Int) := by omega
      have hs := Aside0.mk (hsift.out wr m h di hb (by omega) HO.out)
      clear hm1
      go_wp2_with (first | (go_at_call 77; refine hs.out.mono ?_; rintro e_ w5 ⟨rfl, hO, hB2⟩; have HO2 := Aside0.mk hO; have HB2 := Aside0.mk (HB.out.trans hB2); clear hO hB2) | go_in)
      exact ⟨⟨m, _, rfl, by omega, HO2, HB2, ⟨HK.out⟩⟩, by simp [intOf] <;> omega⟩
end Go.Proofs.Ytgabkifojnkbkaa.Ip

set_option linter.unusedVariables false
set_option linter.unusedSimpArgs false
namespace Go.Proofs.Ytgabkifojnkbkaa.Ip
open Go.RowKit Go.Maps Go.WideMaps Go.MapKept Go.Proofs.YtgabkifojnkbkaaW.PrintWords Go.Proofs.Ytgabkifojnkbkaa.PIpf
open Go.Sort (swp scanUp scanDown partLoop partEqLoop partition partitionEqual ltInt)

theorem up_go {p : Int → Bool} {d : Array Int} {j i : Nat} (h : i ≤ j) (hp : p d[i]! = true) : scanUp p d j i = scanUp p d j (i + 1) := by
  conv => lhs; rw [scanUp]
  rw [if_pos (by simp [h, hp])]
theorem up_end {p : Int → Bool} {d : Array Int} {j i : Nat} (h : j < i ∨ p d[i]! = false) : scanUp p d j i = i := by
  rw [scanUp, if_neg]
  rcases h with h | h
  · simp; omega
  · simp [h]
theorem dn_go {p : Int → Bool} {d : Array Int} {i j : Nat} (h : i ≤ j) (hp : p d[j]! = true) (h0 : 0 < j) : scanDown p d i j = scanDown p d i (j - 1) := by
  obtain ⟨m, rfl⟩ : ∃ m, j = m + 1 := ⟨j - 1, by omega⟩
  rw [scanDown, if_pos (by simp [h, hp])]
  rfl
theorem dn_end {p : Int → Bool} {d : Array Int} {i j : Nat} (h : j < i ∨ p d[j]! = false) : scanDown p d i j = j := by
  cases j with
  | zero => rfl
  | succ m =>
    rw [scanDown, if_neg]
    rcases h with h | h
    · simp; omega
    · simp [h]

set_option maxHeartbeats 4000000 in
set_option maxRecDepth 100000 in
theorem parteq73 (w : World) (base g n cap a b1 pv : Nat) (d : Array Int) (hap : a ≤ pv) (hpb : pv ≤ b1) (hb : b1 < n) (hm : n ≤ 4294967296) (hrow : RowA w base g n cap d) :
    Calls Try.prog 73 #[.slice (some ⟨g, 0, none⟩) n cap, .int .i64 a, .int .i64 ((b1 + 1 : Nat) : Int), .int .i64 pv] w fun e w' => e = .returned (.int .i64 ((partitionEqual ltInt d a (b1 + 1) pv).1 : Int)) ∧ RowA w' base g n cap (partitionEqual ltInt d a (b1 + 1) pv).2 ∧ Below base w w' := by
  have HO := Aside0.mk hrow
  have HB : Aside0 (Below base w w) := ⟨Below.refl _ _⟩
  have HG := Aside0.mk hrow.base_le.1
  have hless := less72
  have han : a < n := by omega
  have hpn : pv < n := by omega
  clear hrow
  obtain ⟨RES, hR⟩ : ∃ r, r = partitionEqual ltInt d a (b1 + 1) pv := ⟨_, rfl⟩
  obtain ⟨d1, hd1⟩ : ∃ x, x = swp d a pv := ⟨_, rfl⟩
  have HR : Aside0 (partEqLoop ltInt a (a + 1) b1 d1 = RES) := ⟨by rw [hR, hd1]; rfl⟩
  rw [← hR]
  clear hR
  have hs0 := HO.out.swp a pv
  rw [← hd1] at hs0
  have HS := Aside0.mk hs0
  clear hs0 hd1
  obtain ⟨b, hbb⟩ : ∃ b, b = b1 + 1 := ⟨_, rfl⟩
  rw [← hbb]
  have hwb : IntKind.i64.wrap ((b : Int) - 1) = (b1 : Int) := by rw [show (b : Int) - 1 = (b1 : Int) from by omega]; exact wrap64_id (by omega) (by omega)
  have hwa : IntKind.i64.wrap ((a : Int) + 1) = ((a + 1 : Nat) : Int) := by rw [show (a : Int) + 1 = ((a + 1 : Nat) : Int) from by omega]; exact wrap64_id (by omega) (by omega)
  have ca := HO.out.get a han
  have cp := HO.out.get pv hpn
  have fa := HO.out.frozen a
  have fp := HO.out.frozen pv
  have hgq : g < w.heap.size := HO.out.base_le.2
  have hai : (a : Int) < (n : Int) := by omega
  have hpi : (pv : Int) < (n : Int) := by omega
  clear hbb
  go_enter Try.func73, Try.ntmps73
  go_upto_region 1 with fail
  go_cut [] (fun wx => Aside0 (RowA wx base g n cap d1) ∧ Aside0 (Below base w wx))
  case first =>
    by_cases dif : pv = a
    · subst dif
      clear cp fp hpi hpn
      generalize d[pv]! = a1 at *
      go_region
      all_goals
        go_wp2_with fail
        go_meet
        exact ⟨⟨HS.out.drew1⟩, ⟨(HB.out.setCell (p := ⟨g, _, none⟩) HG.out _).setCell (p := ⟨g, _, none⟩) HG.out _ |>.drew⟩⟩
    · have dif2 : ¬ a = pv := fun e => dif e.symm
      generalize d[pv]! = a1 at *
      generalize d[a]! = a0 at *
      go_region
      all_goals
        go_wp2_with fail
        go_meet
        exact ⟨⟨HS.out.drew1⟩, ⟨(HB.out.setCell (p := ⟨g, _, none⟩) HG.out _).setCell (p := ⟨g, _, none⟩) HG.out _ |>.drew⟩⟩
  case rest =>
    clear HO HB HS ca cp fa fp hgq
    obtain ⟨HO, HB⟩ := hcut
    go_wp2_with fail
    clear hwa hwb
    go_loopg [9, 10] (b1 + 1 - (a + 1)) (fun k vi vj wr => ∃ (i j : Nat) (di : Array Int), vi = .int .i64 (i : Int) ∧ vj = .int .i64 (j : Int) ∧ k = j + 1 - i ∧ a < i ∧ i ≤ j + 1 ∧ j ≤ b1 ∧ Aside0 (RowA wr base g n cap di) ∧ Aside0 (Below base w wr) ∧ Aside0 (partEqLoop ltInt a i j di = RES))
    case atStart => exact ⟨a + 1, b1, d1, rfl, rfl, by omega, by omega, by omega, by omega, HO, HB, HR⟩
    case round =>
      clear HO HB HR
      obtain ⟨i, j, di, rfl, rfl, rfl, hai1, hij, hjb, HO, HB, HK0⟩ := hrel
      go_upto_block 2 with fail
      go_cut [9] (fun v wx => ∃ i2 : Nat, v = .int .i64 (i2 : Int) ∧ Aside0 (i2 = scanUp (fun x => !ltInt di[a]! x) di j i) ∧ Aside0 (RowA wx base g n cap di) ∧ Aside0 (Below base w wx))
      case first =>
        go_wp2_with fail
        go_loopg [9] (j + 1 - i) (fun k v wx => ∃ i2 : Nat, v = .int .i64 (i2 : Int) ∧ k = j + 1 - i2 ∧ i ≤ i2 ∧ i2 ≤ j + 1 ∧ Aside0 (scanUp (fun x => !ltInt di[a]! x) di j i2 = scanUp (fun x => !ltInt di[a]! x) di j i) ∧ Aside0 (RowA wx base g n cap di) ∧ Aside0 (Below base w wx))
        case atStart => exact ⟨i, rfl, rfl, Nat.le_refl _, by omega, ⟨rfl⟩, HO, HB⟩
        case round =>
          clear HO HB
          obtain ⟨i2, rfl, rfl, hv0, hv1, HK, HO, HB⟩ := hrel
          by_cases hin : i2 ≤ j
          · have hini : (i2 : Int) ≤ (j : Int) := by omega
            have hvn : i2 < n := by omega
            have hvi : (i2 : Int) < (n : Int) := by omega
            have hvz : (0 : Int) ≤ (i2 : Int) := by omega
            have c1 := HO.out.get i2 hvn
            have ca := HO.out.get a han
            obtain ⟨a1, h1⟩ : ∃ x, x = di[i2]! := ⟨_, rfl⟩
            obtain ⟨a0, h0⟩ : ∃ x, x = di[a]! := ⟨_, rfl⟩
            rw [← h1] at c1
            rw [← h0] at ca
            have HA1 := Aside0.mk h1
            have HA0 := Aside0.mk h0
            clear h1 h0
            by_cases hp : a0 < a1
            · have HK2 : Aside0 (i2 = scanUp (fun x => !ltInt di[a]! x) di j i) := ⟨by rw [← HK.out]; exact (up_end (Or.inr (by rw [← HA1.out, ← HA0.out]; simp only [ltInt, Bool.not_eq_false', decide_eq_true_eq, decide_eq_false_iff_not]; exact hp))).symm⟩
              clear HK
              go_wp2_with fail
              go_quiet ((go_at_call 72; exact Calls.quiet_of_same (hless _ _ _)))
              go_wp2_with fail
              go_meet
              exact ⟨i2, rfl, HK2, ⟨HO.out.drew _⟩, ⟨pw_below_drewN HB.out _⟩⟩
            · have hdec : decide (a0 < a1) = false := by simpa using hp
              have HK2 : Aside0 (scanUp (fun x => !ltInt di[a]! x) di j (i2 + 1) = scanUp (fun x => !ltInt di[a]! x) di j i) := ⟨by rw [← HK.out]; exact (up_go (by omega) (by rw [← HA1.out, ← HA0.out]; simp only [ltInt, Bool.not_eq_true', decide_eq_true_eq, decide_eq_false_iff_not]; exact hp)).symm⟩
              have hw1 : IntKind.i64.wrap ((i2 : Int) + 1) = ((i2 + 1 : Nat) : Int) := by rw [show (i2 : Int) + 1 = ((i2 + 1 : Nat) : Int) from by omega]; exact wrap64_id (by omega) (by omega)
              clear HK
              go_wp2_with fail
              go_quiet ((go_at_call 72; exact Calls.quiet_of_same (hless _ _ _)))
              go_wp2_with fail
              go_roundg (j + 1 - (i2 + 1))
              case measure => omega
              case rel => exact ⟨i2 + 1, rfl, rfl, by omega, by omega, HK2, ⟨HO.out.drew _⟩, ⟨pw_below_drewN HB.out _⟩⟩
          · have HK2 : Aside0 (i2 = scanUp (fun x => !ltInt di[a]! x) di j i) := ⟨by rw [← HK.out]; exact (up_end (Or.inl (by omega))).symm⟩
            have hni : ¬ (i2 : Int) ≤ (j : Int) := by omega
            clear HK
            go_wp2_with fail
            go_quiet (fail)
            go_wp2_with fail
            go_meet
            exact ⟨i2, rfl, HK2, ⟨HO.out.drew _⟩, ⟨pw_below_drewN HB.out _⟩⟩
      case rest =>
        clear HO HB
        obtain ⟨i3, rfl, HI, HO, HB⟩ := hcut
        have hspec := Go.Sort.scanUp_spec (fun x => !ltInt di[a]! x) di j _ i rfl
        have hs1 := hspec.1
        have hs2 := hspec.2.1 hij
        have HSP := Aside0.mk hspec.2.2.2
        rw [← HI.out] at hs1 hs2 HSP
        clear hspec
        go_upto_block 4 with fail
        go_cut [10] (fun v wx => ∃ j2 : Nat, v = .int .i64 (j2 : Int) ∧ Aside0 (j2 = scanDown (fun x => ltInt di[a]! x) di i3 j) ∧ Aside0 (RowA wx base g n cap di) ∧ Aside0 (Below base w wx))
        case first =>
          go_wp2_with fail
          go_loopg [10] (j + 1 - i3) (fun k v wx => ∃ j2 : Nat, v = .int .i64 (j2 : Int) ∧ k = j2 + 1 - i3 ∧ j2 ≤ j ∧ i3 ≤ j2 + 1 ∧ Aside0 (scanDown (fun x => ltInt di[a]! x) di i3 j2 = scanDown (fun x => ltInt di[a]! x) di i3 j) ∧ Aside0 (RowA wx base g n cap di) ∧ Aside0 (Below base w wx))
          case atStart => exact ⟨j, rfl, rfl, Nat.le_refl _, by omega, ⟨rfl⟩, HO, HB⟩
          case round =>
            clear HO HB
            obtain ⟨j2, rfl, rfl, hv0, hv1, HK, HO, HB⟩ := hrel
            by_cases hin : i3 ≤ j2
            · have hini : (i3 : Int) ≤ (j2 : Int) := by omega
              have hvn : j2 < n := by omega
              have hvi : (j2 : Int) < (n : Int) := by omega
              have hvz : (0 : Int) ≤ (j2 : Int) := by omega
              have c1 := HO.out.get j2 hvn
              have ca := HO.out.get a han
              obtain ⟨a1, h1⟩ : ∃ x, x = di[j2]! := ⟨_, rfl⟩
              obtain ⟨a0, h0⟩ : ∃ x, x = di[a]! := ⟨_, rfl⟩
              rw [← h1] at c1
              rw [← h0] at ca
              have HA1 := Aside0.mk h1
              have HA0 := Aside0.mk h0
              clear h1 h0
              by_cases hp : a0 < a1
              · have HK2 : Aside0 (scanDown (fun x => ltInt di[a]! x) di i3 (j2 - 1) = scanDown (fun x => ltInt di[a]! x) di i3 j) := ⟨by rw [← HK.out]; exact (dn_go (by omega) (by rw [← HA1.out, ← HA0.out]; simp only [ltInt, Bool.not_eq_true', decide_eq_true_eq, decide_eq_false_iff_not]; exact hp) (by omega)).symm⟩
                have hw1 : IntKind.i64.wrap ((j2 : Int) - 1) = ((j2 - 1 : Nat) : Int) := by rw [show (j2 : Int) - 1 = ((j2 - 1 : Nat) : Int) from by omega]; exact wrap64_id (by omega) (by omega)
                clear HK
                go_wp2_with fail
                go_quiet ((go_at_call 72; exact Calls.quiet_of_same (hless _ _ _)))
                go_wp2_with fail
                go_roundg (j2 - 1 + 1 - i3)
                case measure => omega
                case rel => exact ⟨j2 - 1, rfl, rfl, by omega, by omega, HK2, ⟨HO.out.drew _⟩, ⟨pw_below_drewN HB.out _⟩⟩
              · have hdec : decide (a0 < a1) = false := by simpa using hp
                have HK2 : Aside0 (j2 = scanDown (fun x => ltInt di[a]! x) di i3 j) := ⟨by rw [← HK.out]; exact (dn_end (Or.inr (by rw [← HA1.out, ← HA0.out]; simp only [ltInt, Bool.not_eq_false', decide_eq_true_eq, decide_eq_false_iff_not]; exact hp))).symm⟩
                clear HK
                go_wp2_with fail
                go_quiet ((go_at_call 72; exact Calls.quiet_of_same (hless _ _ _)))
                go_wp2_with fail
                go_meet
                exact ⟨j2, rfl, HK2, ⟨HO.out.drew _⟩, ⟨pw_below_drewN HB.out _⟩⟩
            · have HK2 : Aside0 (j2 = scanDown (fun x => ltInt di[a]! x) di i3 j) := ⟨by rw [← HK.out]; exact (dn_end (Or.inl (by omega))).symm⟩
              have hni : ¬ (i3 : Int) ≤ (j2 : Int) := by omega
              clear HK
              go_wp2_with fail
              go_quiet (fail)
              go_wp2_with fail
              go_meet
              exact ⟨j2, rfl, HK2, ⟨HO.out.drew _⟩, ⟨pw_below_drewN HB.out _⟩⟩
        case rest =>
          clear HO HB
          obtain ⟨j3, rfl, HJ, HO, HB⟩ := hcut
          have hspec := Go.Sort.scanDown_spec (fun x => ltInt di[a]! x) di i3 j
          have hs3 := hspec.1
          have hs4 := hspec.2.1 hs2
          have HSQ := Aside0.mk hspec.2.2.2
          rw [← HJ.out] at hs3 hs4 HSQ
          clear hspec
          have hstep := Go.Sort.partEqLoop_eq ltInt a i j di
          rw [← HI.out, ← HJ.out, HK0.out] at hstep
          by_cases hgt : i3 > j3
          · have HE : Aside0 (RES = (i3, di)) := ⟨by rw [hstep, if_pos hgt]⟩
            have hgti : (j3 : Int) < (i3 : Int) := by omega
            clear hstep HK0 HI HJ HSP HSQ
            go_wp2_with fail
            go_ret
            exact ⟨by rw [HE.out]; rfl, by rw [HE.out]; exact HO.out, HB.out⟩
          · have hne : i3 ≠ j3 := fun e => by
              have h1 := HSP.out (by omega)
              have h2 := HSQ.out (by omega) (by omega)
              rw [← e] at h2
              have h1' : (!ltInt di[a]! di[i3]!) = false := h1
              have h2' : ltInt di[a]! di[i3]! = false := h2
              rw [h2'] at h1'; cases h1'
            have HST : Aside0 (partEqLoop ltInt a (i3 + 1) (j3 - 1) (swp di i3 j3) = RES) := ⟨by rw [hstep, if_neg hgt]⟩
            have hgti : ¬ (j3 : Int) < (i3 : Int) := by omega
            have hgtj : (i3 : Int) ≤ (j3 : Int) := by omega
            clear hstep HK0 HI HJ HSP HSQ hgt
            have hi3n : i3 < n := by omega
            have hj3n : j3 < n := by omega
            have ci := HO.out.get i3 hi3n
            have cj := HO.out.get j3 hj3n
            have fi := HO.out.frozen i3
            have fj := HO.out.frozen j3
            have hgq : g < wc.heap.size := HO.out.base_le.2
            have hzi : (i3 : Int) < (n : Int) := by omega
            have hzj : (j3 : Int) < (n : Int) := by omega
            have hw1 : IntKind.i64.wrap ((i3 : Int) + 1) = ((i3 + 1 : Nat) : Int) := by rw [show (i3 : Int) + 1 = ((i3 + 1 : Nat) : Int) from by omega]; exact wrap64_id (by omega) (by omega)
            have hw2 : IntKind.i64.wrap ((j3 : Int) - 1) = ((j3 - 1 : Nat) : Int) := by rw [show (j3 : Int) - 1 = ((j3 - 1 : Nat) : Int) from by omega]; exact wrap64_id (by omega) (by omega)
            have hna : ¬ i3 = j3 := hne
            have hnb : ¬ j3 = i3 := fun e => hne e.symm
            have HSW := Aside0.mk (HO.out.swp i3 j3)
            obtain ⟨sl, hsl⟩ : ∃ x, x = swp di i3 j3 := ⟨_, rfl⟩
            rw [← hsl] at HSW HST
            clear hsl hne
            generalize di[i3]! = a1 at *
            generalize di[j3]! = a0 at *
            go_wp2_with fail
            go_region
            all_goals
              go_wp2_with fail
              go_roundg (j3 - 1 + 1 - (i3 + 1))
              case measure => omega
              case rel => exact ⟨i3 + 1, j3 - 1, sl, rfl, rfl, rfl, by omega, by omega, by omega, ⟨HSW.out.drew1⟩, ⟨(HB.out.setCell (p := ⟨g, _, none⟩) HG.out _).setCell (p := ⟨g, _, none⟩) HG.out _ |>.drew⟩, HST⟩
end Go.Proofs.Ytgabkifojnkbkaa.Ip

set_option linter.unusedVariables false
set_option linter.unusedSimpArgs false
namespace Go.Proofs.Ytgabkifojnkbkaa.Ip
open Go.RowKit Go.Maps Go.WideMaps Go.MapKept Go.Proofs.YtgabkifojnkbkaaW.PrintWords Go.Proofs.Ytgabkifojnkbkaa.PIpf
open Go.Sort (swp scanUp scanDown partLoop partEqLoop partition partitionEqual ltInt)
set_option maxHeartbeats 8000000 in
set_option maxRecDepth 100000 in
theorem part74 (w : World) (base g n cap a b1 pv : Nat) (d : Array Int) (hap : a ≤ pv) (hpb : pv ≤ b1) (hb : b1 < n) (hm : n ≤ 4294967296) (hrow : RowA w base g n cap d) :
    Calls Try.prog 74 #[.slice (some ⟨g, 0, none⟩) n cap, .int .i64 a, .int .i64 ((b1 + 1 : Nat) : Int), .int .i64 pv] w fun e w' => e = .returned (.tuple #[.int .i64 ((partition ltInt d a (b1 + 1) pv).1 : Int), .bool (partition ltInt d a (b1 + 1) pv).2.1]) ∧ RowA w' base g n cap (partition ltInt d a (b1 + 1) pv).2.2 ∧ Below base w w' := by
  have HO := Aside0.mk hrow
  have HB : Aside0 (Below base w w) := ⟨Below.refl _ _⟩
  have HG := Aside0.mk hrow.base_le.1
  have hless := less72
  have han : a < n := by omega
  have hpn : pv < n := by omega
  clear hrow
  obtain ⟨RES, hR⟩ : ∃ r, r = partition ltInt d a (b1 + 1) pv := ⟨_, rfl⟩
  obtain ⟨d1, hd1⟩ : ∃ x, x = swp d a pv := ⟨_, rfl⟩
  have HR : Aside0 (RES = if scanUp (fun x => ltInt x d1[a]!) d1 b1 (a + 1) > scanDown (fun x => !ltInt x d1[a]!) d1 (scanUp (fun x => ltInt x d1[a]!) d1 b1 (a + 1)) b1 then (scanDown (fun x => !ltInt x d1[a]!) d1 (scanUp (fun x => ltInt x d1[a]!) d1 b1 (a + 1)) b1, true, swp d1 (scanDown (fun x => !ltInt x d1[a]!) d1 (scanUp (fun x => ltInt x d1[a]!) d1 b1 (a + 1)) b1) a)
    else ((partLoop ltInt a (scanUp (fun x => ltInt x d1[a]!) d1 b1 (a + 1) + 1) (scanDown (fun x => !ltInt x d1[a]!) d1 (scanUp (fun x => ltInt x d1[a]!) d1 b1 (a + 1)) b1 - 1) (swp d1 (scanUp (fun x => ltInt x d1[a]!) d1 b1 (a + 1)) (scanDown (fun x => !ltInt x d1[a]!) d1 (scanUp (fun x => ltInt x d1[a]!) d1 b1 (a + 1)) b1))).1, false,
      swp (partLoop ltInt a (scanUp (fun x => ltInt x d1[a]!) d1 b1 (a + 1) + 1) (scanDown (fun x => !ltInt x d1[a]!) d1 (scanUp (fun x => ltInt x d1[a]!) d1 b1 (a + 1)) b1 - 1) (swp d1 (scanUp (fun x => ltInt x d1[a]!) d1 b1 (a + 1)) (scanDown (fun x => !ltInt x d1[a]!) d1 (scanUp (fun x => ltInt x d1[a]!) d1 b1 (a + 1)) b1))).2
        (partLoop ltInt a (scanUp (fun x => ltInt x d1[a]!) d1 b1 (a + 1) + 1) (scanDown (fun x => !ltInt x d1[a]!) d1 (scanUp (fun x => ltInt x d1[a]!) d1 b1 (a + 1)) b1 - 1) (swp d1 (scanUp (fun x => ltInt x d1[a]!) d1 b1 (a + 1)) (scanDown (fun x => !ltInt x d1[a]!) d1 (scanUp (fun x => ltInt x d1[a]!) d1 b1 (a + 1)) b1))).1 a)) := ⟨by rw [hR, hd1]; rfl⟩
  rw [← hR]
  clear hR
  have hs0 := HO.out.swp a pv
  rw [← hd1] at hs0
  have HS := Aside0.mk hs0
  clear hs0 hd1
  obtain ⟨b, hbb⟩ : ∃ b, b = b1 + 1 := ⟨_, rfl⟩
  rw [← hbb]
  have hwb : IntKind.i64.wrap ((b : Int) - 1) = (b1 : Int) := by rw [show (b : Int) - 1 = (b1 : Int) from by omega]; exact wrap64_id (by omega) (by omega)
  have hwa : IntKind.i64.wrap ((a : Int) + 1) = ((a + 1 : Nat) : Int) := by rw [show (a : Int) + 1 = ((a + 1 : Nat) : Int) from by omega]; exact wrap64_id (by omega) (by omega)
  have ca := HO.out.get a han
  have cp := HO.out.get pv hpn
  have fa := HO.out.frozen a
  have fp := HO.out.frozen pv
  have hgq : g < w.heap.size := HO.out.base_le.2
  have hai : (a : Int) < (n : Int) := by omega
  have hpi : (pv : Int) < (n : Int) := by omega
  clear hbb
  go_enter Try.func74, Try.ntmps74
  go_upto_region 1 with fail
  go_cut [] (fun wx => Aside0 (RowA wx base g n cap d1) ∧ Aside0 (Below base w wx))
  case first =>
    by_cases dif : pv = a
    · subst dif
      clear cp fp hpi hpn
      generalize d[pv]! = a1 at *
      go_region
      all_goals
        go_wp2_with fail
        go_meet
        exact ⟨⟨HS.out.drew1⟩, ⟨(HB.out.setCell (p := ⟨g, _, none⟩) HG.out _).setCell (p := ⟨g, _, none⟩) HG.out _ |>.drew⟩⟩
    · have dif2 : ¬ a = pv := fun e => dif e.symm
      generalize d[pv]! = a1 at *
      generalize d[a]! = a0 at *
      go_region
      all_goals
        go_wp2_with fail
        go_meet
        exact ⟨⟨HS.out.drew1⟩, ⟨(HB.out.setCell (p := ⟨g, _, none⟩) HG.out _).setCell (p := ⟨g, _, none⟩) HG.out _ |>.drew⟩⟩
  case rest =>
    clear HO HB HS ca cp fa fp hgq
    obtain ⟨HO, HB⟩ := hcut
    have haj : a + 1 ≤ b1 + 1 := by omega
    go_upto_block 0 with fail
    go_cut [10] (fun v wx => ∃ i2 : Nat, v = .int .i64 (i2 : Int) ∧ Aside0 (i2 = scanUp (fun x => ltInt x d1[a]!) d1 b1 (a + 1)) ∧ Aside0 (RowA wx base g n cap d1) ∧ Aside0 (Below base w wx))
    case first =>
      go_wp2_with fail
      go_loopg [10] (b1 + 1 - (a + 1)) (fun k v wx => ∃ i2 : Nat, v = .int .i64 (i2 : Int) ∧ k = b1 + 1 - i2 ∧ (a + 1) ≤ i2 ∧ i2 ≤ b1 + 1 ∧ Aside0 (scanUp (fun x => ltInt x d1[a]!) d1 b1 i2 = scanUp (fun x => ltInt x d1[a]!) d1 b1 (a + 1)) ∧ Aside0 (RowA wx base g n cap d1) ∧ Aside0 (Below base w wx))
      case atStart => exact ⟨(a + 1), rfl, rfl, Nat.le_refl _, by omega, ⟨rfl⟩, HO, HB⟩
      case round =>
        clear HO HB
        obtain ⟨i2, rfl, rfl, hv0, hv1, HK, HO, HB⟩ := hrel
        by_cases hin : i2 ≤ b1
        · have hini : (i2 : Int) ≤ (b1 : Int) := by omega
          have hvn : i2 < n := by omega
          have hvi : (i2 : Int) < (n : Int) := by omega
          have hvz : (0 : Int) ≤ (i2 : Int) := by omega
          have c1 := HO.out.get i2 hvn
          have ca := HO.out.get a han
          obtain ⟨a1, h1⟩ : ∃ x, x = d1[i2]! := ⟨_, rfl⟩
          obtain ⟨a0, h0⟩ : ∃ x, x = d1[a]! := ⟨_, rfl⟩
          rw [← h1] at c1
          rw [← h0] at ca
          have HA1 := Aside0.mk h1
          have HA0 := Aside0.mk h0
          clear h1 h0
          by_cases hp : a1 < a0
          · have HK2 : Aside0 (scanUp (fun x => ltInt x d1[a]!) d1 b1 (i2 + 1) = scanUp (fun x => ltInt x d1[a]!) d1 b1 (a + 1)) := ⟨by rw [← HK.out]; exact (up_go (by omega) (by rw [← HA1.out, ← HA0.out]; simp only [ltInt, Bool.not_eq_true', decide_eq_true_eq, decide_eq_false_iff_not]; exact hp)).symm⟩
            have hw1 : IntKind.i64.wrap ((i2 : Int) + 1) = ((i2 + 1 : Nat) : Int) := by rw [show (i2 : Int) + 1 = ((i2 + 1 : Nat) : Int) from by omega]; exact wrap64_id (by omega) (by omega)
            clear HK
            go_wp2_with fail
            go_quiet ((go_at_call 72; exact Calls.quiet_of_same (hless _ _ _)))
            go_wp2_with fail
            go_roundg (b1 + 1 - (i2 + 1))
            case measure => omega
            case rel => exact ⟨i2 + 1, rfl, rfl, by omega, by omega, HK2, ⟨HO.out.drew _⟩, ⟨pw_below_drewN HB.out _⟩⟩
          · have hdec : decide (a1 < a0) = false := by simpa using hp
            have HK2 : Aside0 (i2 = scanUp (fun x => ltInt x d1[a]!) d1 b1 (a + 1)) := ⟨by rw [← HK.out]; exact (up_end (Or.inr (by rw [← HA1.out, ← HA0.out]; simp only [ltInt, Bool.not_eq_false', decide_eq_true_eq, decide_eq_false_iff_not]; exact hp))).symm⟩
            clear HK
            go_wp2_with fail
            go_quiet ((go_at_call 72; exact Calls.quiet_of_same (hless _ _ _)))
            go_wp2_with fail
            go_meet
            exact ⟨i2, rfl, HK2, ⟨HO.out.drew _⟩, ⟨pw_below_drewN HB.out _⟩⟩
        · have HK2 : Aside0 (i2 = scanUp (fun x => ltInt x d1[a]!) d1 b1 (a + 1)) := ⟨by rw [← HK.out]; exact (up_end (Or.inl (by omega))).symm⟩
          have hni : ¬ (i2 : Int) ≤ (b1 : Int) := by omega
          clear HK
          go_wp2_with fail
          go_quiet (fail)
          go_wp2_with fail
          go_meet
          exact ⟨i2, rfl, HK2, ⟨HO.out.drew _⟩, ⟨pw_below_drewN HB.out _⟩⟩
    case rest =>
      clear HO HB
      obtain ⟨i3, rfl, HI, HO, HB⟩ := hcut
      have hspec := Go.Sort.scanUp_spec (fun x => ltInt x d1[a]!) d1 b1 _ (a + 1) rfl
      have hs1 := hspec.1
      have hs2 := hspec.2.1 haj
      have HSP := Aside0.mk hspec.2.2.2
      rw [← HI.out] at hs1 hs2 HSP
      clear hspec
      go_upto_block 2 with fail
      go_cut [11] (fun v wx => ∃ j2 : Nat, v = .int .i64 (j2 : Int) ∧ Aside0 (j2 = scanDown (fun x => !ltInt x d1[a]!) d1 i3 b1) ∧ Aside0 (RowA wx base g n cap d1) ∧ Aside0 (Below base w wx))
      case first =>
        go_wp2_with fail
        go_loopg [11] (b1 + 1 - i3) (fun k v wx => ∃ j2 : Nat, v = .int .i64 (j2 : Int) ∧ k = j2 + 1 - i3 ∧ j2 ≤ b1 ∧ i3 ≤ j2 + 1 ∧ Aside0 (scanDown (fun x => !ltInt x d1[a]!) d1 i3 j2 = scanDown (fun x => !ltInt x d1[a]!) d1 i3 b1) ∧ Aside0 (RowA wx base g n cap d1) ∧ Aside0 (Below base w wx))
        case atStart => exact ⟨b1, rfl, rfl, Nat.le_refl _, by omega, ⟨rfl⟩, HO, HB⟩
        case round =>
          clear HO HB
          obtain ⟨j2, rfl, rfl, hv0, hv1, HK, HO, HB⟩ := hrel
          by_cases hin : i3 ≤ j2
          · have hini : (i3 : Int) ≤ (j2 : Int) := by omega
            have hvn : j2 < n := by omega
            have hvi : (j2 : Int) < (n : Int) := by omega
            have hvz : (0 : Int) ≤ (j2 : Int) := by omega
            have c1 := HO.out.get j2 hvn
            have ca := HO.out.get a han
            obtain ⟨a1, h1⟩ : ∃ x, x = d1[j2]! := ⟨_, rfl⟩
            obtain ⟨a0, h0⟩ : ∃ x, x = d1[a]! := ⟨_, rfl⟩
            rw [← h1] at c1
            rw [← h0] at ca
            have HA1 := Aside0.mk h1
            have HA0 := Aside0.mk h0
            clear h1 h0
            by_cases hp : a1 < a0
            · have HK2 : Aside0 (j2 = scanDown (fun x => !ltInt x d1[a]!) d1 i3 b1) := ⟨by rw [← HK.out]; exact (dn_end (Or.inr (by rw [← HA1.out, ← HA0.out]; simp only [ltInt, Bool.not_eq_false', decide_eq_true_eq, decide_eq_false_iff_not]; exact hp))).symm⟩
              clear HK
              go_wp2_with fail
              go_quiet ((go_at_call 72; exact Calls.quiet_of_same (hless _ _ _)))
              go_wp2_with fail
              go_meet
              exact ⟨j2, rfl, HK2, ⟨HO.out.drew _⟩, ⟨pw_below_drewN HB.out _⟩⟩
            · have hdec : decide (a1 < a0) = false := by simpa using hp
              have HK2 : Aside0 (scanDown (fun x => !ltInt x d1[a]!) d1 i3 (j2 - 1) = scanDown (fun x => !ltInt x d1[a]!) d1 i3 b1) := ⟨by rw [← HK.out]; exact (dn_go (by omega) (by rw [← HA1.out, ← HA0.out]; simp only [ltInt, Bool.not_eq_true', decide_eq_true_eq, decide_eq_false_iff_not]; exact hp) (by omega)).symm⟩
              have hw1 : IntKind.i64.wrap ((j2 : Int) - 1) = ((j2 - 1 : Nat) : Int) := by rw [show (j2 : Int) - 1 = ((j2 - 1 : Nat) : Int) from by omega]; exact wrap64_id (by omega) (by omega)
              clear HK
              go_wp2_with fail
              go_quiet ((go_at_call 72; exact Calls.quiet_of_same (hless _ _ _)))
              go_wp2_with fail
              go_roundg (j2 - 1 + 1 - i3)
              case measure => omega
              case rel => exact ⟨j2 - 1, rfl, rfl, by omega, by omega, HK2, ⟨HO.out.drew _⟩, ⟨pw_below_drewN HB.out _⟩⟩
          · have HK2 : Aside0 (j2 = scanDown (fun x => !ltInt x d1[a]!) d1 i3 b1) := ⟨by rw [← HK.out]; exact (dn_end (Or.inl (by omega))).symm⟩
            have hni : ¬ (i3 : Int) ≤ (j2 : Int) := by omega
            clear HK
            go_wp2_with fail
            go_quiet (fail)
            go_wp2_with fail
            go_meet
            exact ⟨j2, rfl, HK2, ⟨HO.out.drew _⟩, ⟨pw_below_drewN HB.out _⟩⟩
      case rest =>
        clear HO HB
        obtain ⟨j3, rfl, HJ, HO, HB⟩ := hcut
        have hspec := Go.Sort.scanDown_spec (fun x => !ltInt x d1[a]!) d1 i3 b1
        have hs3 := hspec.1
        have hs4 := hspec.2.1 hs2
        have HSQ := Aside0.mk hspec.2.2.2
        rw [← HJ.out] at hs3 hs4 HSQ
        clear hspec
        have hstep := HR.out
        rw [← HI.out, ← HJ.out] at hstep
        by_cases hgt : i3 > j3
        · have HE : Aside0 (RES = (j3, true, swp d1 j3 a)) := ⟨by rw [hstep, if_pos hgt]⟩
          have hgti : (j3 : Int) < (i3 : Int) := by omega
          clear hstep HI HJ HSP HSQ hgt HR
          have hjn : j3 < n := by omega
          have cj := HO.out.get j3 hjn
          have ca := HO.out.get a han
          have fj := HO.out.frozen j3
          have fa := HO.out.frozen a
          have hgq : g < wc.heap.size := HO.out.base_le.2
          have hzj : (j3 : Int) < (n : Int) := by omega
          have HSW := Aside0.mk (HO.out.swp j3 a)
          obtain ⟨sl, hsl⟩ : ∃ x, x = swp d1 j3 a := ⟨_, rfl⟩
          rw [← hsl] at HSW HE
          clear hsl
          by_cases dif : j3 = a
          · subst dif
            clear cj fj hzj hjn
            generalize d1[j3]! = a1 at *
            go_wp2_with fail
            go_region
            all_goals
              go_wp2_with fail
              go_ret2
              exact ⟨by rw [HE.out]; rfl, by rw [HE.out]; exact HSW.out.drew1, (HB.out.setCell (p := ⟨g, _, none⟩) HG.out _).setCell (p := ⟨g, _, none⟩) HG.out _ |>.drew⟩
          · have dif2 : ¬ a = j3 := fun e => dif e.symm
            generalize d1[j3]! = a1 at *
            generalize d1[a]! = a0 at *
            go_wp2_with fail
            go_region
            all_goals
              go_wp2_with fail
              go_ret2
              exact ⟨by rw [HE.out]; rfl, by rw [HE.out]; exact HSW.out.drew1, (HB.out.setCell (p := ⟨g, _, none⟩) HG.out _).setCell (p := ⟨g, _, none⟩) HG.out _ |>.drew⟩
        · have hne : i3 ≠ j3 := fun e => by
            have h1 := HSP.out (by omega)
            have h2 := HSQ.out (by omega) (by omega)
            rw [← e] at h2
            have h1' : ltInt d1[i3]! d1[a]! = false := h1
            have h2' : (!ltInt d1[i3]! d1[a]!) = false := h2
            rw [h1'] at h2'; cases h2'
          have HST : Aside0 (RES = ((partLoop ltInt a (i3 + 1) (j3 - 1) (swp d1 i3 j3)).1, false, swp (partLoop ltInt a (i3 + 1) (j3 - 1) (swp d1 i3 j3)).2 (partLoop ltInt a (i3 + 1) (j3 - 1) (swp d1 i3 j3)).1 a)) := ⟨by rw [hstep, if_neg hgt]⟩
          have hgti : ¬ (j3 : Int) < (i3 : Int) := by omega
          have hgtj : (i3 : Int) ≤ (j3 : Int) := by omega
          clear hstep HI HJ HSP HSQ hgt HR
          have hi3n : i3 < n := by omega
          have hj3n : j3 < n := by omega
          have ci := HO.out.get i3 hi3n
          have cj := HO.out.get j3 hj3n
          have fi := HO.out.frozen i3
          have fj := HO.out.frozen j3
          have hgq : g < wc.heap.size := HO.out.base_le.2
          have hzi : (i3 : Int) < (n : Int) := by omega
          have hzj : (j3 : Int) < (n : Int) := by omega
          have hw1 : IntKind.i64.wrap ((i3 : Int) + 1) = ((i3 + 1 : Nat) : Int) := by rw [show (i3 : Int) + 1 = ((i3 + 1 : Nat) : Int) from by omega]; exact wrap64_id (by omega) (by omega)
          have hw2 : IntKind.i64.wrap ((j3 : Int) - 1) = ((j3 - 1 : Nat) : Int) := by rw [show (j3 : Int) - 1 = ((j3 - 1 : Nat) : Int) from by omega]; exact wrap64_id (by omega) (by omega)
          have hna : ¬ i3 = j3 := hne
          have hnb : ¬ j3 = i3 := fun e => hne e.symm
          have HSW := Aside0.mk (HO.out.swp i3 j3)
          obtain ⟨sl, hsl⟩ : ∃ x, x = swp d1 i3 j3 := ⟨_, rfl⟩
          rw [← hsl] at HSW HST
          clear hsl hne
          generalize d1[i3]! = a1 at *
          generalize d1[j3]! = a0 at *
          go_wp2_with fail
          go_region
          all_goals
            go_wp2_with fail
            clear hw1 hw2 hwb hwa
            go_loopg [10, 11] (j3 - 1 + 1 - (i3 + 1)) (fun k vi vj wr => ∃ (i j : Nat) (di : Array Int), vi = .int .i64 (i : Int) ∧ vj = .int .i64 (j : Int) ∧ k = j + 1 - i ∧ a < i ∧ i ≤ j + 1 ∧ j ≤ b1 ∧ Aside0 (RowA wr base g n cap di) ∧ Aside0 (Below base w wr) ∧ Aside0 (RES = ((partLoop ltInt a i j di).1, false, swp (partLoop ltInt a i j di).2 (partLoop ltInt a i j di).1 a)))
            case atStart => exact ⟨i3 + 1, j3 - 1, sl, rfl, rfl, rfl, by omega, by omega, by omega, ⟨HSW.out.drew1⟩, ⟨(HB.out.setCell (p := ⟨g, _, none⟩) HG.out _).setCell (p := ⟨g, _, none⟩) HG.out _ |>.drew⟩, HST⟩
            case round =>
              clear HO HB HST HSW ci cj fi fj hgq
              obtain ⟨i, j, di, rfl, rfl, rfl, hai1, hij, hjb, HO, HB, HK0⟩ := hrel
              go_upto_block 6 with fail
              go_cut [10] (fun v wx => ∃ i2 : Nat, v = .int .i64 (i2 : Int) ∧ Aside0 (i2 = scanUp (fun x => ltInt x di[a]!) di j i) ∧ Aside0 (RowA wx base g n cap di) ∧ Aside0 (Below base w wx))
              case first =>
                go_wp2_with fail
                go_loopg [10] (j + 1 - i) (fun k v wx => ∃ i2 : Nat, v = .int .i64 (i2 : Int) ∧ k = j + 1 - i2 ∧ i ≤ i2 ∧ i2 ≤ j + 1 ∧ Aside0 (scanUp (fun x => ltInt x di[a]!) di j i2 = scanUp (fun x => ltInt x di[a]!) di j i) ∧ Aside0 (RowA wx base g n cap di) ∧ Aside0 (Below base w wx))
                case atStart => exact ⟨i, rfl, rfl, Nat.le_refl _, by omega, ⟨rfl⟩, HO, HB⟩
                case round =>
                  clear HO HB
                  obtain ⟨i2, rfl, rfl, hv0, hv1, HK, HO, HB⟩ := hrel
                  by_cases hin : i2 ≤ j
                  · have hini : (i2 : Int) ≤ (j : Int) := by omega
                    have hvn : i2 < n := by omega
                    have hvi : (i2 : Int) < (n : Int) := by omega
                    have hvz : (0 : Int) ≤ (i2 : Int) := by omega
                    have c1 := HO.out.get i2 hvn
                    have ca := HO.out.get a han
                    obtain ⟨a1, h1⟩ : ∃ x, x = di[i2]! := ⟨_, rfl⟩
                    obtain ⟨a0, h0⟩ : ∃ x, x = di[a]! := ⟨_, rfl⟩
                    rw [← h1] at c1
                    rw [← h0] at ca
                    have HA1 := Aside0.mk h1
                    have HA0 := Aside0.mk h0
                    clear h1 h0
                    by_cases hp : a1 < a0
                    · have HK2 : Aside0 (scanUp (fun x => ltInt x di[a]!) di j (i2 + 1) = scanUp (fun x => ltInt x di[a]!) di j i) := ⟨by rw [← HK.out]; exact (up_go (by omega) (by rw [← HA1.out, ← HA0.out]; simp only [ltInt, Bool.not_eq_true', decide_eq_true_eq, decide_eq_false_iff_not]; exact hp)).symm⟩
                      have hw1 : IntKind.i64.wrap ((i2 : Int) + 1) = ((i2 + 1 : Nat) : Int) := by rw [show (i2 : Int) + 1 = ((i2 + 1 : Nat) : Int) from by omega]; exact wrap64_id (by omega) (by omega)
                      clear HK
                      go_wp2_with fail
                      go_quiet ((go_at_call 72; exact Calls.quiet_of_same (hless _ _ _)))
                      go_wp2_with fail
                      go_roundg (j + 1 - (i2 + 1))
                      case measure => omega
                      case rel => exact ⟨i2 + 1, rfl, rfl, by omega, by omega, HK2, ⟨HO.out.drew _⟩, ⟨pw_below_drewN HB.out _⟩⟩
                    · have hdec : decide (a1 < a0) = false := by simpa using hp
                      have HK2 : Aside0 (i2 = scanUp (fun x => ltInt x di[a]!) di j i) := ⟨by rw [← HK.out]; exact (up_end (Or.inr (by rw [← HA1.out, ← HA0.out]; simp only [ltInt, Bool.not_eq_false', decide_eq_true_eq, decide_eq_false_iff_not]; exact hp))).symm⟩
                      clear HK
                      go_wp2_with fail
                      go_quiet ((go_at_call 72; exact Calls.quiet_of_same (hless _ _ _)))
                      go_wp2_with fail
                      go_meet
                      exact ⟨i2, rfl, HK2, ⟨HO.out.drew _⟩, ⟨pw_below_drewN HB.out _⟩⟩
                  · have HK2 : Aside0 (i2 = scanUp (fun x => ltInt x di[a]!) di j i) := ⟨by rw [← HK.out]; exact (up_end (Or.inl (by omega))).symm⟩
                    have hni : ¬ (i2 : Int) ≤ (j : Int) := by omega
                    clear HK
                    go_wp2_with fail
                    go_quiet (fail)
                    go_wp2_with fail
                    go_meet
                    exact ⟨i2, rfl, HK2, ⟨HO.out.drew _⟩, ⟨pw_below_drewN HB.out _⟩⟩
              case rest =>
                clear HO HB
                obtain ⟨i5, rfl, HI, HO, HB⟩ := hcut
                have hspec := Go.Sort.scanUp_spec (fun x => ltInt x di[a]!) di j _ i rfl
                have hs1 := hspec.1
                have hs2 := hspec.2.1 hij
                have HSP := Aside0.mk hspec.2.2.2
                rw [← HI.out] at hs1 hs2 HSP
                clear hspec
                go_upto_block 8 with fail
                go_cut [11] (fun v wx => ∃ j2 : Nat, v = .int .i64 (j2 : Int) ∧ Aside0 (j2 = scanDown (fun x => !ltInt x di[a]!) di i5 j) ∧ Aside0 (RowA wx base g n cap di) ∧ Aside0 (Below base w wx))
                case first =>
                  go_wp2_with fail
                  go_loopg [11] (j + 1 - i5) (fun k v wx => ∃ j2 : Nat, v = .int .i64 (j2 : Int) ∧ k = j2 + 1 - i5 ∧ j2 ≤ j ∧ i5 ≤ j2 + 1 ∧ Aside0 (scanDown (fun x => !ltInt x di[a]!) di i5 j2 = scanDown (fun x => !ltInt x di[a]!) di i5 j) ∧ Aside0 (RowA wx base g n cap di) ∧ Aside0 (Below base w wx))
                  case atStart => exact ⟨j, rfl, rfl, Nat.le_refl _, by omega, ⟨rfl⟩, HO, HB⟩
                  case round =>
                    clear HO HB
                    obtain ⟨j2, rfl, rfl, hv0, hv1, HK, HO, HB⟩ := hrel
                    by_cases hin : i5 ≤ j2
                    · have hini : (i5 : Int) ≤ (j2 : Int) := by omega
                      have hvn : j2 < n := by omega
                      have hvi : (j2 : Int) < (n : Int) := by omega
                      have hvz : (0 : Int) ≤ (j2 : Int) := by omega
                      have c1 := HO.out.get j2 hvn
                      have ca := HO.out.get a han
                      obtain ⟨a1, h1⟩ : ∃ x, x = di[j2]! := ⟨_, rfl⟩
                      obtain ⟨a0, h0⟩ : ∃ x, x = di[a]! := ⟨_, rfl⟩
                      rw [← h1] at c1
                      rw [← h0] at ca
                      have HA1 := Aside0.mk h1
                      have HA0 := Aside0.mk h0
                      clear h1 h0
                      by_cases hp : a1 < a0
                      · have HK2 : Aside0 (j2 = scanDown (fun x => !ltInt x di[a]!) di i5 j) := ⟨by rw [← HK.out]; exact (dn_end (Or.inr (by rw [← HA1.out, ← HA0.out]; simp only [ltInt, Bool.not_eq_false', decide_eq_true_eq, decide_eq_false_iff_not]; exact hp))).symm⟩
                        clear HK
                        go_wp2_with fail
                        go_quiet ((go_at_call 72; exact Calls.quiet_of_same (hless _ _ _)))
                        go_wp2_with fail
                        go_meet
                        exact ⟨j2, rfl, HK2, ⟨HO.out.drew _⟩, ⟨pw_below_drewN HB.out _⟩⟩
                      · have hdec : decide (a1 < a0) = false := by simpa using hp
                        have HK2 : Aside0 (scanDown (fun x => !ltInt x di[a]!) di i5 (j2 - 1) = scanDown (fun x => !ltInt x di[a]!) di i5 j) := ⟨by rw [← HK.out]; exact (dn_go (by omega) (by rw [← HA1.out, ← HA0.out]; simp only [ltInt, Bool.not_eq_true', decide_eq_true_eq, decide_eq_false_iff_not]; exact hp) (by omega)).symm⟩
                        have hw1 : IntKind.i64.wrap ((j2 : Int) - 1) = ((j2 - 1 : Nat) : Int) := by rw [show (j2 : Int) - 1 = ((j2 - 1 : Nat) : Int) from by omega]; exact wrap64_id (by omega) (by omega)
                        clear HK
                        go_wp2_with fail
                        go_quiet ((go_at_call 72; exact Calls.quiet_of_same (hless _ _ _)))
                        go_wp2_with fail
                        go_roundg (j2 - 1 + 1 - i5)
                        case measure => omega
                        case rel => exact ⟨j2 - 1, rfl, rfl, by omega, by omega, HK2, ⟨HO.out.drew _⟩, ⟨pw_below_drewN HB.out _⟩⟩
                    · have HK2 : Aside0 (j2 = scanDown (fun x => !ltInt x di[a]!) di i5 j) := ⟨by rw [← HK.out]; exact (dn_end (Or.inl (by omega))).symm⟩
                      have hni : ¬ (i5 : Int) ≤ (j2 : Int) := by omega
                      clear HK
                      go_wp2_with fail
                      go_quiet (fail)
                      go_wp2_with fail
                      go_meet
                      exact ⟨j2, rfl, HK2, ⟨HO.out.drew _⟩, ⟨pw_below_drewN HB.out _⟩⟩
                case rest =>
                  clear HO HB
                  obtain ⟨j5, rfl, HJ, HO, HB⟩ := hcut
                  have hspec := Go.Sort.scanDown_spec (fun x => !ltInt x di[a]!) di i5 j
                  have hs3 := hspec.1
                  have hs4 := hspec.2.1 hs2
                  have HSQ := Aside0.mk hspec.2.2.2
                  rw [← HJ.out] at hs3 hs4 HSQ
                  clear hspec
                  have hstep := Go.Sort.partLoop_eq ltInt a i j di
                  rw [← HI.out, ← HJ.out] at hstep
                  by_cases hgt : i5 > j5
                  · have HE : Aside0 (RES = (j5, false, swp di j5 a)) := ⟨by rw [HK0.out, hstep, if_pos hgt]⟩
                    have hgti : (j5 : Int) < (i5 : Int) := by omega
                    clear hstep HK0 HI HJ HSP HSQ hgt
                    have hjn : j5 < n := by omega
                    have cj := HO.out.get j5 hjn
                    have ca := HO.out.get a han
                    have fj := HO.out.frozen j5
                    have fa := HO.out.frozen a
                    have hgq : g < wc.heap.size := HO.out.base_le.2
                    have hzj : (j5 : Int) < (n : Int) := by omega
                    have HSW := Aside0.mk (HO.out.swp j5 a)
                    obtain ⟨sl, hsl⟩ : ∃ x, x = swp di j5 a := ⟨_, rfl⟩
                    rw [← hsl] at HSW HE
                    clear hsl
                    by_cases dif : j5 = a
                    · subst dif
                      clear cj fj hzj hjn
                      generalize di[j5]! = a1 at *
                      go_wp2_with fail
                      go_region
                      all_goals
                        go_wp2_with fail
                        go_ret2
                        exact ⟨by rw [HE.out]; rfl, by rw [HE.out]; exact HSW.out.drew1, (HB.out.setCell (p := ⟨g, _, none⟩) HG.out _).setCell (p := ⟨g, _, none⟩) HG.out _ |>.drew⟩
                    · have dif2 : ¬ a = j5 := fun e => dif e.symm
                      generalize di[j5]! = a1 at *
                      generalize di[a]! = a0 at *
                      go_wp2_with fail
                      go_region
                      all_goals
                        go_wp2_with fail
                        go_ret2
                        exact ⟨by rw [HE.out]; rfl, by rw [HE.out]; exact HSW.out.drew1, (HB.out.setCell (p := ⟨g, _, none⟩) HG.out _).setCell (p := ⟨g, _, none⟩) HG.out _ |>.drew⟩
                  · have hne : i5 ≠ j5 := fun e => by
                      have h1 := HSP.out (by omega)
                      have h2 := HSQ.out (by omega) (by omega)
                      rw [← e] at h2
                      have h1' : ltInt di[i5]! di[a]! = false := h1
                      have h2' : (!ltInt di[i5]! di[a]!) = false := h2
                      rw [h1'] at h2'; cases h2'
                    have HST : Aside0 (RES = ((partLoop ltInt a (i5 + 1) (j5 - 1) (swp di i5 j5)).1, false, swp (partLoop ltInt a (i5 + 1) (j5 - 1) (swp di i5 j5)).2 (partLoop ltInt a (i5 + 1) (j5 - 1) (swp di i5 j5)).1 a)) := ⟨by rw [HK0.out, hstep, if_neg hgt]⟩
                    have hgti : ¬ (j5 : Int) < (i5 : Int) := by omega
                    have hgtj : (i5 : Int) ≤ (j5 : Int) := by omega
                    clear hstep HK0 HI HJ HSP HSQ hgt
                    have hi3n : i5 < n := by omega
                    have hj3n : j5 < n := by omega
                    have ci := HO.out.get i5 hi3n
                    have cj := HO.out.get j5 hj3n
                    have fi := HO.out.frozen i5
                    have fj := HO.out.frozen j5
                    have hgq : g < wc.heap.size := HO.out.base_le.2
                    have hzi : (i5 : Int) < (n : Int) := by omega
                    have hzj : (j5 : Int) < (n : Int) := by omega
                    have hw1 : IntKind.i64.wrap ((i5 : Int) + 1) = ((i5 + 1 : Nat) : Int) := by rw [show (i5 : Int) + 1 = ((i5 + 1 : Nat) : Int) from by omega]; exact wrap64_id (by omega) (by omega)
                    have hw2 : IntKind.i64.wrap ((j5 : Int) - 1) = ((j5 - 1 : Nat) : Int) := by rw [show (j5 : Int) - 1 = ((j5 - 1 : Nat) : Int) from by omega]; exact wrap64_id (by omega) (by omega)
                    have hna : ¬ i5 = j5 := hne
                    have hnb : ¬ j5 = i5 := fun e => hne e.symm
                    have HSW := Aside0.mk (HO.out.swp i5 j5)
                    obtain ⟨sl, hsl⟩ : ∃ x, x = swp di i5 j5 := ⟨_, rfl⟩
                    rw [← hsl] at HSW HST
                    clear hsl hne
                    generalize di[i5]! = a1 at *
                    generalize di[j5]! = a0 at *
                    go_wp2_with fail
                    go_region
                    all_goals
                      go_wp2_with fail
                      go_roundg (j5 - 1 + 1 - (i5 + 1))
                      case measure => omega
                      case rel => exact ⟨i5 + 1, j5 - 1, sl, rfl, rfl, rfl, by omega, by omega, by omega, ⟨HSW.out.drew1⟩, ⟨(HB.out.setCell (p := ⟨g, _, none⟩) HG.out _).setCell (p := ⟨g, _, none⟩) HG.out _ |>.drew⟩, HST⟩
end Go.Proofs.Ytgabkifojnkbkaa.Ip

set_option linter.unusedVariables false
set_option linter.unusedSimpArgs false
namespace Go.Proofs.Ytgabkifojnkbkaa.Ip
open Go.RowKit Go.Maps Go.WideMaps Go.MapKept Go.Proofs.YtgabkifojnkbkaaW.PrintWords Go.Proofs.Ytgabkifojnkbkaa.PIpf
open Go.Sort (swp scanSorted shiftDown shiftUp partialIns partialInsertionSort ltInt)

theorem ss_go {d : Array Int} {b i : Nat} (h : i < b) (hp : ¬ d[i]! < d[i - 1]!) : scanSorted ltInt d b i = scanSorted ltInt d b (i + 1) := by
  conv => lhs; rw [scanSorted]
  rw [if_pos (by simp [h, ltInt]; omega)]
theorem ss_end {d : Array Int} {b i : Nat} (h : b ≤ i ∨ d[i]! < d[i - 1]!) : scanSorted ltInt d b i = i := by
  rw [scanSorted, if_neg]
  rcases h with h | h
  · simp; omega
  · simp [ltInt, h]
theorem sd_step {m : Nat} {d : Array Int} : shiftDown ltInt (m + 1) d = if d[m + 1]! < d[m]! then shiftDown ltInt m (swp d (m + 1) m) else d := by
  rw [shiftDown]
  by_cases h : d[m + 1]! < d[m]!
  · rw [if_neg (by simp [ltInt, h]), if_pos h]
  · rw [if_pos (by simp [ltInt]; omega), if_neg h]
theorem su_step {m b : Nat} {d : Array Int} (h : m + 1 < b) : shiftUp ltInt b (m + 1) d = if d[m + 1]! < d[m]! then shiftUp ltInt b (m + 1 + 1) (swp d (m + 1) m) else d := by
  conv => lhs; rw [shiftUp]
  rw [if_pos h, Nat.add_sub_cancel]
  by_cases h : d[m + 1]! < d[m]!
  · rw [if_neg (by simp [ltInt, h]), if_pos h]
  · rw [if_pos (by simp [ltInt]; omega), if_neg h]
theorem su_end {b j : Nat} {d : Array Int} (h : b ≤ j) : shiftUp ltInt b j d = d := by
  rw [shiftUp, if_neg (by omega)]
set_option maxHeartbeats 8000000 in
set_option maxRecDepth 100000 in
theorem partial71 (w : World) (base g n cap a b : Nat) (d : Array Int) (hab : a < b) (hb : b ≤ n) (hm : n ≤ 4294967296) (hrow : RowA w base g n cap d) :
    Calls Try.prog 71 #[.slice (some ⟨g, 0, none⟩) n cap, .int .i64 a, .int .i64 b] w fun e w' => e = .returned (.bool (partialInsertionSort ltInt d a b).2) ∧ RowA w' base g n cap (partialInsertionSort ltInt d a b).1 ∧ Below base w w' := by
  have HO := Aside0.mk hrow
  have HB : Aside0 (Below base w w) := ⟨Below.refl _ _⟩
  have HG := Aside0.mk hrow.base_le.1
  have hless := less72
  clear hrow
  obtain ⟨RES, hR⟩ : ∃ r, r = partialInsertionSort ltInt d a b := ⟨_, rfl⟩
  have HR : Aside0 (partialIns ltInt a b 5 (a + 1) d = RES) := ⟨by rw [hR]; rfl⟩
  rw [← hR]
  clear hR
  have hwa : IntKind.i64.wrap ((a : Int) + 1) = ((a + 1 : Nat) : Int) := by rw [show (a : Int) + 1 = ((a + 1 : Nat) : Int) from by omega]; exact wrap64_id (by omega) (by omega)
  go_enter Try.func71, Try.ntmps71
  go_wp2_with fail
  clear hwa
  go_loopg [7, 8] 5 (fun k vi vj wr => ∃ (i j : Nat) (di : Array Int), vi = .int .i64 (i : Int) ∧ vj = .int .i64 (j : Int) ∧ j + k = 5 ∧ a < i ∧ i ≤ b ∧ Aside0 (RowA wr base g n cap di) ∧ Aside0 (Below base w wr) ∧ Aside0 (partialIns ltInt a b k i di = RES))
  case atStart => exact ⟨a + 1, 0, d, by first | rfl | go_num, rfl, by omega, by omega, by omega, HO, HB, HR⟩
  case round =>
    clear HO HB HR
    obtain ⟨i, j, di, rfl, rfl, hjk, hai, hib, HO, HB, HK0⟩ := hrel
    cases gk with
    | zero =>
      have HE : Aside0 (RES = (di, false)) := ⟨HK0.out.symm⟩
      obtain rfl : j = 5 := by omega
      clear HK0
      go_wp2_with fail
      go_ret
      exact ⟨by rw [HE.out]; rfl, by rw [HE.out]; exact HO.out, HB.out⟩
    | succ s =>
      have hj5 : (j : Int) < 5 := by omega
      go_upto_block 2 with fail
      go_cut [7] (fun v wx => ∃ i2 : Nat, v = .int .i64 (i2 : Int) ∧ i ≤ i2 ∧ i2 ≤ b ∧ Aside0 (i2 = scanSorted ltInt di b i) ∧ Aside0 (RowA wx base g n cap di) ∧ Aside0 (Below base w wx))
      case first =>
        clear HK0
        go_wp2_with fail
        go_loopg [7] (b - i) (fun k v wx => ∃ i2 : Nat, v = .int .i64 (i2 : Int) ∧ k = b - i2 ∧ i ≤ i2 ∧ i2 ≤ b ∧ Aside0 (scanSorted ltInt di b i2 = scanSorted ltInt di b i) ∧ Aside0 (RowA wx base g n cap di) ∧ Aside0 (Below base w wx))
        case atStart => exact ⟨i, rfl, rfl, Nat.le_refl _, hib, ⟨rfl⟩, HO, HB⟩
        case round =>
          clear HO HB
          obtain ⟨i2, rfl, rfl, hi0, hi1, HK, HO, HB⟩ := hrel
          by_cases hin : i2 < b
          · obtain ⟨m, rfl⟩ : ∃ m, i2 = m + 1 := ⟨i2 - 1, by omega⟩
            rw [show ((m + 1 : Nat) : Int) = (m : Int) + 1 from by omega]
            have hini : (m : Int) + 1 < (b : Int) := by omega
            have hmi : (m : Int) + 1 < (n : Int) := by omega
            have hmi2 : (m : Int) < (n : Int) := by omega
            have hw1 : IntKind.i64.wrap ((m : Int) + 1 - 1) = (m : Int) := by rw [show (m : Int) + 1 - 1 = (m : Int) from by omega]; exact wrap64_id (by omega) (by omega)
            have hw2 : IntKind.i64.wrap ((m : Int) + 1 + 1) = ((m + 1 + 1 : Nat) : Int) := by rw [show (m : Int) + 1 + 1 = ((m + 1 + 1 : Nat) : Int) from by omega]; exact wrap64_id (by omega) (by omega)
            have c1 := HO.out.get (m + 1) (by omega)
            have c0 := HO.out.get m (by omega)
            by_cases hp : di[m + 1]! < di[m]!
            · have HK2 : Aside0 (m + 1 = scanSorted ltInt di b i) := ⟨by rw [← HK.out]; exact (ss_end (Or.inr hp)).symm⟩
              clear HK
              obtain ⟨a1, h1⟩ : ∃ x, x = di[m + 1]! := ⟨_, rfl⟩
              obtain ⟨a0, h0⟩ : ∃ x, x = di[m]! := ⟨_, rfl⟩
              rw [← h1] at c1 hp
              rw [← h0] at c0 hp
              clear h1 h0
              go_wp2_with fail
              go_quiet ((go_at_call 72; exact Calls.quiet_of_same (hless _ _ _)))
              go_wp2_with fail
              go_meet
              exact ⟨m + 1, by go_num, by omega, by omega, HK2, ⟨HO.out.drew _⟩, ⟨pw_below_drewN HB.out _⟩⟩
            · have HK2 : Aside0 (scanSorted ltInt di b (m + 1 + 1) = scanSorted ltInt di b i) := ⟨by rw [← HK.out]; exact (ss_go hin hp).symm⟩
              clear HK
              obtain ⟨a1, h1⟩ : ∃ x, x = di[m + 1]! := ⟨_, rfl⟩
              obtain ⟨a0, h0⟩ : ∃ x, x = di[m]! := ⟨_, rfl⟩
              rw [← h1] at c1 hp
              rw [← h0] at c0 hp
              clear h1 h0
              have hdec : decide (a1 < a0) = false := by simpa using hp
              go_wp2_with fail
              go_quiet ((go_at_call 72; exact Calls.quiet_of_same (hless _ _ _)))
              go_wp2_with fail
              go_roundg (b - (m + 1 + 1))
              case measure => omega
              case rel => exact ⟨m + 1 + 1, by first | rfl | go_num, rfl, by omega, by omega, HK2, ⟨HO.out.drew _⟩, ⟨pw_below_drewN HB.out _⟩⟩
          · have HK2 : Aside0 (i2 = scanSorted ltInt di b i) := ⟨by rw [← HK.out]; exact (ss_end (Or.inl (by omega))).symm⟩
            have hni : ¬ (i2 : Int) < (b : Int) := by omega
            clear HK
            go_wp2_with fail
            go_quiet (fail)
            go_wp2_with fail
            go_meet
            exact ⟨i2, rfl, hi0, hi1, HK2, ⟨HO.out.drew _⟩, ⟨pw_below_drewN HB.out _⟩⟩
      case rest =>
        clear HO HB
        obtain ⟨i3, rfl, hi3, hi3b, HI, HO, HB⟩ := hcut
        have hst := HK0.out
        rw [partialIns] at hst
        simp only [] at hst
        rw [← HI.out] at hst
        clear HK0 HI
        by_cases heq : i3 = b
        · rw [if_pos heq] at hst
          have HE := Aside0.mk hst
          clear hst
          subst heq
          go_wp2_with fail
          go_ret
          exact ⟨by rw [← HE.out]; rfl, by rw [← HE.out]; exact HO.out, HB.out⟩
        · rw [if_neg heq] at hst
          have hbeq : (((i3 : Nat) : Int) == ((b : Nat) : Int)) = false := by simp; omega
          have hwl : IntKind.i64.wrap ((b : Int) - (a : Int)) = ((b - a : Nat) : Int) := by rw [show (b : Int) - (a : Int) = ((b - a : Nat) : Int) from by omega]; exact wrap64_id (by omega) (by omega)
          by_cases h50 : b - a < 50
          · rw [if_pos h50] at hst
            have HE := Aside0.mk hst
            clear hst
            have h50i : ((b - a : Nat) : Int) < 50 := by omega
            obtain ⟨q, hq⟩ : ∃ q, q = b - a := ⟨_, rfl⟩
            rw [← hq] at hwl h50i
            clear hq
            go_wp2_with fail
            go_ret
            exact ⟨by rw [← HE.out]; rfl, by rw [← HE.out]; exact HO.out, HB.out⟩
          · rw [if_neg h50] at hst
            have h50i : ¬ ((b - a : Nat) : Int) < 50 := by omega
            obtain ⟨q, hq⟩ : ∃ q, q = b - a := ⟨_, rfl⟩
            rw [← hq] at hwl h50i
            clear hq
            obtain ⟨d2, hd2⟩ : ∃ x, x = swp di i3 (i3 - 1) := ⟨_, rfl⟩
            obtain ⟨d3, hd3⟩ : ∃ x, x = (if i3 - a ≥ 2 then shiftDown ltInt (i3 - 1) d2 else d2) := ⟨_, rfl⟩
            obtain ⟨d4, hd4⟩ : ∃ x, x = (if b - i3 ≥ 2 then shiftUp ltInt b (i3 + 1) d3 else d3) := ⟨_, rfl⟩
            rw [← hd2, ← hd3, ← hd4] at hst
            have HST := Aside0.mk hst
            have HD2 := Aside0.mk hd2
            have HD3 := Aside0.mk hd3
            have HD4 := Aside0.mk hd4
            clear hst hd2 hd3 hd4
            obtain ⟨m3, rfl⟩ : ∃ m, i3 = m + 1 := ⟨i3 - 1, by omega⟩
            rw [show ((m3 + 1 : Nat) : Int) = (m3 : Int) + 1 from by omega] at *
            rw [Nat.add_sub_cancel] at HD2 HD3
            have hmi : (m3 : Int) + 1 < (n : Int) := by omega
            have hmi2 : (m3 : Int) < (n : Int) := by omega
            have hw1 : IntKind.i64.wrap ((m3 : Int) + 1 - 1) = (m3 : Int) := by rw [show (m3 : Int) + 1 - 1 = (m3 : Int) from by omega]; exact wrap64_id (by omega) (by omega)
            have c1 := HO.out.get (m3 + 1) (by omega)
            have c0 := HO.out.get m3 (by omega)
            have f1 := HO.out.frozen (m3 + 1)
            have f0 := HO.out.frozen m3
            have hgq : g < wc.heap.size := HO.out.base_le.2
            have HSW := Aside0.mk (HO.out.swp (m3 + 1) m3)
            rw [← HD2.out] at HSW
            go_upto_region 11 with fail
            go_cut [] (fun wx => Aside0 (RowA wx base g n cap d2) ∧ Aside0 (Below base w wx))
            case first =>
              clear HST HD2 HD3 HD4
              generalize di[m3 + 1]! = a1 at *
              generalize di[m3]! = a0 at *
              go_region
              all_goals
                go_wp2_with fail
                go_meet
                exact ⟨⟨HSW.out.drew1⟩, ⟨(HB.out.setCell (p := ⟨g, _, none⟩) HG.out _).setCell (p := ⟨g, _, none⟩) HG.out _ |>.drew⟩⟩
            case rest =>
              clear HO HB HSW c1 c0 f1 f0 hgq
              obtain ⟨HO, HB⟩ := hcut
              have hwd : IntKind.i64.wrap ((m3 : Int) + 1 - (a : Int)) = ((m3 + 1 - a : Nat) : Int) := by rw [show (m3 : Int) + 1 - (a : Int) = ((m3 + 1 - a : Nat) : Int) from by omega]; exact wrap64_id (by omega) (by omega)
              have H2 : Aside0 (m3 + 1 - a ≥ 2 ↔ (2 : Int) ≤ ((m3 + 1 - a : Nat) : Int)) := ⟨by omega⟩
              obtain ⟨q2, hq2⟩ : ∃ q, q = m3 + 1 - a := ⟨_, rfl⟩
              rw [← hq2] at hwd H2 HD3
              go_upto_if 61 with fail
              go_cut [] (fun wx => Aside0 (RowA wx base g n cap d3) ∧ Aside0 (Below base w wx))
              case first =>
                clear HST HD4 HD2
                by_cases h2 : q2 ≥ 2
                · have h2i := H2.out.1 h2
                  have HE : Aside0 (shiftDown ltInt m3 d2 = d3) := ⟨by rw [HD3.out, if_pos h2]⟩
                  clear H2 HD3
                  go_wp2_with fail
                  go_loopg [9] m3 (fun k v wx => ∃ (j : Nat) (dj : Array Int), v = .int .i64 (j : Int) ∧ j ≤ m3 ∧ k = j ∧ Aside0 (RowA wx base g n cap dj) ∧ Aside0 (Below base w wx) ∧ Aside0 (shiftDown ltInt j dj = d3))
                  case atStart => exact ⟨m3, d2, rfl, Nat.le_refl _, rfl, HO, HB, HE⟩
                  case round =>
                    clear HO HB HE
                    obtain ⟨j4, dj, rfl, hj4, hk4, HO, HB, HK⟩ := hrel
                    cases j4 with
                    | zero =>
                      have HE : Aside0 (dj = d3) := ⟨HK.out⟩
                      clear HK
                      go_wp2_with fail
                      go_meet
                      exact ⟨⟨by rw [← HE.out]; exact HO.out⟩, HB⟩
                    | succ m =>
                      rw [show ((m + 1 : Nat) : Int) = (m : Int) + 1 from by omega]
                      have hm1 : (1 : Int) ≤ (m : Int) + 1 := by omega
                      have hm0 : (0 : Int) ≤ (m : Int) := by omega
                      have hmi : (m : Int) + 1 < (n : Int) := by omega
                      have hmi2 : (m : Int) < (n : Int) := by omega
                      have hw1 : IntKind.i64.wrap ((m : Int) + 1 - 1) = (m : Int) := by rw [show (m : Int) + 1 - 1 = (m : Int) from by omega]; exact wrap64_id (by omega) (by omega)
                      have hstep := sd_step (m := m) (d := dj)
                      rw [HK.out] at hstep
                      clear HK
                      have c1 := HO.out.get (m + 1) (by omega)
                      have c0 := HO.out.get m (by omega)
                      by_cases hlt2 : dj[m + 1]! < dj[m]!
                      · rw [if_pos hlt2] at hstep
                        have HSTx := Aside0.mk hstep
                        have hsw := Aside0.mk (fun (wq : World) (ho : RowA wq base g n cap dj) => (show _ ∧ _ ∧ _ from ⟨ho.get (m + 1) (by omega), ho.get m (by omega), ho.swp (m + 1) m⟩))
                        clear hstep
                        generalize swp dj (m + 1) m = sl at *
                        generalize dj[m + 1]! = a1 at *
                        generalize dj[m]! = a0 at *
                        go_wp2_with fail
                        go_quiet ((go_at_call 72; exact Calls.quiet_of_same (hless _ _ _)))
                        obtain ⟨wq, hq⟩ : ∃ wq, wq = wr.drewN nq := ⟨_, rfl⟩
                        rw [← hq]
                        have HOq : Aside0 (RowA wq base g n cap dj) := ⟨by rw [hq]; exact HO.out.drew _⟩
                        have HBq : Aside0 (Below base w wq) := ⟨by rw [hq]; exact pw_below_drewN HB.out _⟩
                        clear hq c1 c0 HO HB
                        obtain ⟨c1, c0, hs⟩ := hsw.out wq HOq.out
                        have f1 := HOq.out.frozen (m + 1)
                        have f3 := HOq.out.frozen m
                        have hgq : g < wq.heap.size := HOq.out.base_le.2
                        have HSW := Aside0.mk hs
                        clear hs hsw
                        go_wp2_with fail
                        go_region
                        all_goals
                          go_wp2_with fail
                          go_roundg m
                          case measure => omega
                          case rel => exact ⟨m, sl, by first | rfl | go_num, by omega, rfl, ⟨HSW.out.drew1⟩, ⟨(HBq.out.setCell (p := ⟨g, _, none⟩) HG.out _).setCell (p := ⟨g, _, none⟩) HG.out _ |>.drew⟩, ⟨HSTx.out.symm⟩⟩
                      · rw [if_neg hlt2] at hstep
                        have HKK : Aside0 (dj = d3) := ⟨hstep.symm⟩
                        have hdec : decide (dj[m + 1]! < dj[m]!) = false := by simpa using hlt2
                        clear hstep
                        generalize dj[m + 1]! = a1 at *
                        generalize dj[m]! = a0 at *
                        go_wp2_with fail
                        go_quiet ((go_at_call 72; exact Calls.quiet_of_same (hless _ _ _)))
                        go_wp2_with fail
                        go_meet
                        exact ⟨⟨by rw [← HKK.out]; exact HO.out.drew _⟩, ⟨pw_below_drewN HB.out _⟩⟩
                · have h2i : ¬ (2 : Int) ≤ (q2 : Int) := fun e => h2 (H2.out.2 e)
                  have HE : Aside0 (d2 = d3) := ⟨by rw [HD3.out, if_neg h2]⟩
                  clear H2 HD3
                  go_wp2_with fail
                  go_meet
                  exact ⟨⟨by rw [← HE.out]; exact HO.out⟩, HB⟩
              case rest =>
                clear HO HB
                obtain ⟨HO, HB⟩ := hcut
                have hwd2 : IntKind.i64.wrap ((b : Int) - ((m3 : Int) + 1)) = ((b - (m3 + 1) : Nat) : Int) := by rw [show (b : Int) - ((m3 : Int) + 1) = ((b - (m3 + 1) : Nat) : Int) from by omega]; exact wrap64_id (by omega) (by omega)
                have H3 : Aside0 (b - (m3 + 1) ≥ 2 ↔ (2 : Int) ≤ ((b - (m3 + 1) : Nat) : Int)) := ⟨by omega⟩
                have H3b : Aside0 (b - (m3 + 1) ≥ 2 → m3 + 1 + 1 < b) := ⟨by omega⟩
                obtain ⟨q3, hq3⟩ : ∃ q, q = b - (m3 + 1) := ⟨_, rfl⟩
                rw [← hq3] at hwd2 H3 H3b HD4
                clear hwd hq2 hq3 H2 HD3 HD2
                have hw4 : IntKind.i64.wrap ((j : Int) + 1) = ((j + 1 : Nat) : Int) := by rw [show (j : Int) + 1 = ((j + 1 : Nat) : Int) from by omega]; exact wrap64_id (by omega) (by omega)
                by_cases h2 : q3 ≥ 2
                · have h2i := H3.out.1 h2
                  have HE : Aside0 (shiftUp ltInt b (m3 + 1 + 1) d3 = d4) := ⟨by rw [HD4.out, if_pos h2]⟩
                  have hmb := H3b.out h2
                  have hw2 : IntKind.i64.wrap ((m3 : Int) + 1 + 1) = ((m3 + 1 + 1 : Nat) : Int) := by rw [show (m3 : Int) + 1 + 1 = ((m3 + 1 + 1 : Nat) : Int) from by omega]; exact wrap64_id (by omega) (by omega)
                  clear H3 H3b HD4
                  go_wp2_with fail
                  go_loopg [10] (b - (m3 + 1 + 1)) (fun k v wx => ∃ (j : Nat) (dj : Array Int), v = .int .i64 (j : Int) ∧ m3 + 1 < j ∧ j ≤ b ∧ k = b - j ∧ Aside0 (RowA wx base g n cap dj) ∧ Aside0 (Below base w wx) ∧ Aside0 (shiftUp ltInt b j dj = d4))
                  case atStart => exact ⟨m3 + 1 + 1, d3, by first | rfl | go_num, by omega, by omega, rfl, HO, HB, HE⟩
                  case round =>
                    clear HO HB HE
                    obtain ⟨j4, dj, rfl, hj40, hj4, hk4, HO, HB, HK⟩ := hrel
                    by_cases hjb : j4 < b
                    · obtain ⟨m, rfl⟩ : ∃ m, j4 = m + 1 := ⟨j4 - 1, by omega⟩
                      rw [show ((m + 1 : Nat) : Int) = (m : Int) + 1 from by omega]
                      have hm1 : (m : Int) + 1 < (b : Int) := by omega
                      have hm0 : (0 : Int) ≤ (m : Int) := by omega
                      have hw3 : IntKind.i64.wrap ((m : Int) + 1 + 1) = ((m + 1 + 1 : Nat) : Int) := by rw [show (m : Int) + 1 + 1 = ((m + 1 + 1 : Nat) : Int) from by omega]; exact wrap64_id (by omega) (by omega)
                      have hmi : (m : Int) + 1 < (n : Int) := by omega
                      have hmi2 : (m : Int) < (n : Int) := by omega
                      have hw1 : IntKind.i64.wrap ((m : Int) + 1 - 1) = (m : Int) := by rw [show (m : Int) + 1 - 1 = (m : Int) from by omega]; exact wrap64_id (by omega) (by omega)
                      have hstep := su_step (b := b) (m := m) (d := dj) (by omega)
                      rw [HK.out] at hstep
                      clear HK
                      have c1 := HO.out.get (m + 1) (by omega)
                      have c0 := HO.out.get m (by omega)
                      by_cases hlt2 : dj[m + 1]! < dj[m]!
                      · rw [if_pos hlt2] at hstep
                        have HSTx := Aside0.mk hstep
                        have hsw := Aside0.mk (fun (wq : World) (ho : RowA wq base g n cap dj) => (show _ ∧ _ ∧ _ from ⟨ho.get (m + 1) (by omega), ho.get m (by omega), ho.swp (m + 1) m⟩))
                        clear hstep
                        generalize swp dj (m + 1) m = sl at *
                        generalize dj[m + 1]! = a1 at *
                        generalize dj[m]! = a0 at *
                        go_wp2_with fail
                        go_quiet ((go_at_call 72; exact Calls.quiet_of_same (hless _ _ _)))
                        obtain ⟨wq, hq⟩ : ∃ wq, wq = wr.drewN nq := ⟨_, rfl⟩
                        rw [← hq]
                        have HOq : Aside0 (RowA wq base g n cap dj) := ⟨by rw [hq]; exact HO.out.drew _⟩
                        have HBq : Aside0 (Below base w wq) := ⟨by rw [hq]; exact pw_below_drewN HB.out _⟩
                        clear hq c1 c0 HO HB
                        obtain ⟨c1, c0, hs⟩ := hsw.out wq HOq.out
                        have f1 := HOq.out.frozen (m + 1)
                        have f3 := HOq.out.frozen m
                        have hgq : g < wq.heap.size := HOq.out.base_le.2
                        have HSW := Aside0.mk hs
                        clear hs hsw
                        go_wp2_with fail
                        go_region
                        all_goals
                          go_wp2_with fail
                          go_roundg (b - (m + 1 + 1))
                          case measure => omega
                          case rel => exact ⟨m + 1 + 1, sl, by first | rfl | go_num, by omega, by omega, rfl, ⟨HSW.out.drew1⟩, ⟨(HBq.out.setCell (p := ⟨g, _, none⟩) HG.out _).setCell (p := ⟨g, _, none⟩) HG.out _ |>.drew⟩, ⟨HSTx.out.symm⟩⟩
                      · rw [if_neg hlt2] at hstep
                        have HKK : Aside0 (dj = d4) := ⟨hstep.symm⟩
                        have hdec : decide (dj[m + 1]! < dj[m]!) = false := by simpa using hlt2
                        clear hstep
                        generalize dj[m + 1]! = a1 at *
                        generalize dj[m]! = a0 at *
                        go_wp2_with fail
                        go_quiet ((go_at_call 72; exact Calls.quiet_of_same (hless _ _ _)))
                        go_wp2_with fail
                        go_roundg s
                        case measure => omega
                        case rel => exact ⟨m3 + 1, j + 1, d4, by first | rfl | go_num, rfl, by omega, by omega, by omega, ⟨by rw [← HKK.out]; exact HO.out.drew _⟩, ⟨pw_below_drewN HB.out _⟩, HST⟩
                    · have HE : Aside0 (dj = d4) := ⟨by rw [← HK.out, su_end (by omega)]⟩
                      have hnb : ¬ (j4 : Int) < (b : Int) := by omega
                      clear HK
                      go_wp2_with fail
                      go_roundg s
                      case measure => omega
                      case rel => exact ⟨m3 + 1, j + 1, d4, by first | rfl | go_num, rfl, by omega, by omega, by omega, ⟨by rw [← HE.out]; exact HO.out⟩, HB, HST⟩
                · have h2i : ¬ (2 : Int) ≤ (q3 : Int) := fun e => h2 (H3.out.2 e)
                  have HE : Aside0 (d3 = d4) := ⟨by rw [HD4.out, if_neg h2]⟩
                  clear H3 H3b HD4
                  go_wp2_with fail
                  go_roundg s
                  case measure => omega
                  case rel => exact ⟨m3 + 1, j + 1, d4, by first | rfl | go_num, rfl, by omega, by omega, by omega, ⟨by rw [← HE.out]; exact HO.out⟩, HB, HST⟩
end Go.Proofs.Ytgabkifojnkbkaa.Ip

set_option linter.unusedVariables false
set_option linter.unusedSimpArgs false
namespace Go.Proofs.Ytgabkifojnkbkaa.Ip
open Go.RowKit Go.Maps Go.WideMaps Go.MapKept Go.Proofs.YtgabkifojnkbkaaW.PrintWords Go.Proofs.Ytgabkifojnkbkaa.PIpf
open Go.Sort (swp ltInt)
/-- the row, and beside it a number's own block at p -/
def Sw (k : IntKind) (w : World) (base g n cap p : Nat) (d : Array Int) : Prop := RowA w base g n cap d ∧ (∃ s : Int, w.cell? ⟨p, 0, none⟩ = some (.int k s)) ∧ w.frozen? ⟨p, 0, none⟩ = false ∧ p < w.heap.size ∧ base ≤ p ∧ p ≠ g
theorem Sw.drew {k : IntKind} {w : World} {base g n cap p : Nat} {d : Array Int} (h : Sw k w base g n cap p d) (m : Nat) : Sw k (w.drewN m) base g n cap p d := h
theorem RowA.other {w : World} {base g n cap p : Nat} {d : Array Int} (h : RowA w base g n cap d) (hp : p ≠ g) (v : Value) : RowA (w.setCell ⟨p, 0, none⟩ v) base g n cap d :=
  ⟨h.1, row_step h.2 (fun k e => by cases e; exact Below.heap_setCell _ _ _ _ (fun e => hp e.symm))⟩
set_option maxHeartbeats 4000000 in
set_option maxRecDepth 100000 in
theorem order83 (w : World) (base g n cap p a b : Nat) (d : Array Int) (ha : a < n) (hb : b < n) (hm : n ≤ 4294967296) (hS : Sw .i64 w base g n cap p d) :
    Calls Try.prog 83 #[.slice (some ⟨g, 0, none⟩) n cap, .int .i64 a, .int .i64 b, .pointer (some ⟨p, 0, none⟩)] w fun e w' => ∃ x y : Nat, e = .returned (.tuple #[.int .i64 x, .int .i64 y]) ∧ ((x = a ∧ y = b) ∨ (x = b ∧ y = a)) ∧ Sw .i64 w' base g n cap p d ∧ Below base w w' := by
  obtain ⟨hr, ⟨s, hs⟩, hf, hp, hbp, hpg⟩ := hS
  have HO := Aside0.mk hr
  have HP := Aside0.mk hbp
  have HPG := Aside0.mk hpg
  have hless := less72
  have c1 := HO.out.get a ha
  have c0 := HO.out.get b hb
  have hai : (a : Int) < (n : Int) := by omega
  have hbi : (b : Int) < (n : Int) := by omega
  clear hr hbp hpg
  obtain ⟨a1, h1⟩ : ∃ x, x = d[a]! := ⟨_, rfl⟩
  obtain ⟨a0, h0⟩ : ∃ x, x = d[b]! := ⟨_, rfl⟩
  rw [← h1] at c1
  rw [← h0] at c0
  clear h1 h0
  by_cases hlt : a0 < a1
  · go_enter Try.func83, Try.ntmps83
    go_wp2
    go_quiet ((go_at_call 72; exact Calls.quiet_of_same (hless _ _ _)))
    go_wp2
    go_ret2
    refine ⟨b, a, rfl, Or.inr ⟨rfl, rfl⟩, ⟨(HO.out.drew _).other HPG.out _, ⟨_, World.cell?_setCell_same _ _ _ hs⟩, by rw [World.frozen?_setCell]; exact hf, by simpa [World.setCell] using hp, HP.out, HPG.out⟩, (pw_below_drewN (Below.refl _ _) _).setCell (p := ⟨p, 0, none⟩) HP.out _⟩
  · have hdec : decide (a0 < a1) = false := by simpa using hlt
    go_enter Try.func83, Try.ntmps83
    go_wp2
    go_quiet ((go_at_call 72; exact Calls.quiet_of_same (hless _ _ _)))
    go_wp2
    go_ret2
    refine ⟨a, b, rfl, Or.inl ⟨rfl, rfl⟩, ⟨HO.out.drew _, ⟨s, hs⟩, hf, hp, HP.out, HPG.out⟩, pw_below_drewN (Below.refl _ _) _⟩
set_option maxHeartbeats 4000000 in
set_option maxRecDepth 100000 in
theorem median81 (w : World) (base g n cap p a b c : Nat) (d : Array Int) (ha : a < n) (hb : b < n) (hc : c < n) (hm : n ≤ 4294967296) (hS : Sw .i64 w base g n cap p d) :
    Calls Try.prog 81 #[.slice (some ⟨g, 0, none⟩) n cap, .int .i64 a, .int .i64 b, .int .i64 c, .pointer (some ⟨p, 0, none⟩)] w fun e w' => ∃ z : Nat, e = .returned (.int .i64 z) ∧ (z = a ∨ z = b ∨ z = c) ∧ Sw .i64 w' base g n cap p d ∧ Below base w w' := by
  have h1 := Aside0.mk (order83 w base g n cap p a b d ha hb hm hS)
  have H := Aside0.mk (fun (w' : World) (x y : Nat) (hx : x < n) (hy : y < n) (hS : Sw .i64 w' base g n cap p d) => order83 w' base g n cap p x y d hx hy hm hS)
  have HA := Aside0.mk ha
  have HB := Aside0.mk hb
  have HC := Aside0.mk hc
  clear ha hb hc hS hm
  go_enter Try.func81, Try.ntmps81
  go_wp2_with fail
  refine h1.out.mono ?_
  rintro e_ w1 ⟨x1, y1, rfl, hxy1, S1, B1⟩
  have HX1 := Aside0.mk hxy1
  have HS1 := Aside0.mk S1
  have HB1 := Aside0.mk B1
  have h2 := Aside0.mk (H.out w1 y1 c (by rcases hxy1 with ⟨rfl, rfl⟩ | ⟨rfl, rfl⟩ <;> first | exact HA.out | exact HB.out) HC.out S1)
  clear hxy1 S1 B1
  go_wp2_with fail
  refine h2.out.mono ?_
  rintro e_ w2 ⟨x2, y2, rfl, hxy2, S2, B2⟩
  have HX2 := Aside0.mk hxy2
  have HB2 := Aside0.mk (HB1.out.trans B2)
  have h3 := Aside0.mk (H.out w2 x1 x2 (by rcases HX1.out with ⟨rfl, rfl⟩ | ⟨rfl, rfl⟩ <;> first | exact HA.out | exact HB.out) (by rcases HX1.out with ⟨rfl, rfl⟩ | ⟨rfl, rfl⟩ <;> rcases HX2.out with ⟨rfl, rfl⟩ | ⟨rfl, rfl⟩ <;> first | exact HA.out | exact HB.out | exact HC.out) S2)
  clear hxy2 S2 B2
  go_wp2_with fail
  refine h3.out.mono ?_
  rintro e_ w3 ⟨x3, y3, rfl, hxy3, S3, B3⟩
  have HX3 := Aside0.mk hxy3
  have HS3 := Aside0.mk S3
  have HB3 := Aside0.mk (HB2.out.trans B3)
  clear hxy3 S3 B3
  go_wp2_with fail
  go_ret
  exact ⟨y3, rfl, by rcases HX1.out with ⟨rfl, rfl⟩ | ⟨rfl, rfl⟩ <;> rcases HX2.out with ⟨rfl, rfl⟩ | ⟨rfl, rfl⟩ <;> rcases HX3.out with ⟨rfl, rfl⟩ | ⟨rfl, rfl⟩ <;> simp, HS3.out, HB3.out⟩
set_option maxHeartbeats 4000000 in
set_option maxRecDepth 100000 in
theorem adjacent80 (w : World) (base g n cap p a : Nat) (d : Array Int) (ha : a + 1 + 1 < n) (hm : n ≤ 4294967296) (hS : Sw .i64 w base g n cap p d) :
    Calls Try.prog 80 #[.slice (some ⟨g, 0, none⟩) n cap, .int .i64 ((a + 1 : Nat) : Int), .pointer (some ⟨p, 0, none⟩)] w fun e w' => ∃ z : Nat, e = .returned (.int .i64 z) ∧ a ≤ z ∧ z ≤ a + 1 + 1 ∧ Sw .i64 w' base g n cap p d ∧ Below base w w' := by
  have h1 := Aside0.mk (median81 w base g n cap p a (a + 1) (a + 1 + 1) d (by omega) (by omega) ha hm hS)
  obtain ⟨q, hq⟩ : ∃ q, q = a + 1 := ⟨_, rfl⟩
  have HQ := Aside0.mk hq
  rw [← hq] at h1 ha
  rw [← hq]
  have hw1 : IntKind.i64.wrap ((q : Int) - 1) = (a : Int) := by rw [show (q : Int) - 1 = (a : Int) from by omega]; exact wrap64_id (by omega) (by omega)
  have hw2 : IntKind.i64.wrap ((q : Int) + 1) = ((q + 1 : Nat) : Int) := by rw [show (q : Int) + 1 = ((q + 1 : Nat) : Int) from by omega]; exact wrap64_id (by omega) (by omega)
  clear hS hq
  obtain ⟨q2, hq2⟩ : ∃ q2, q2 = q + 1 := ⟨_, rfl⟩
  rw [← hq2] at hw2 h1
  have HQ2 := Aside0.mk hq2
  clear hq2
  go_enter Try.func80, Try.ntmps80
  go_wp2_with fail
  refine h1.out.mono ?_
  rintro e_ w1 ⟨z, rfl, hz, S1, B1⟩
  have HZ := Aside0.mk hz
  have HS1 := Aside0.mk S1
  have HB1 := Aside0.mk B1
  clear hz S1 B1
  go_wp2_with fail
  go_ret
  exact ⟨z, rfl, by have h := HZ.out; have h2 := HQ.out; have h3 := HQ2.out; omega, by have h := HZ.out; have h2 := HQ.out; have h3 := HQ2.out; omega, HS1.out, HB1.out⟩

set_option maxHeartbeats 4000000 in
set_option maxRecDepth 100000 in
theorem pivot69 (w : World) (base g n cap a b : Nat) (d : Array Int) (hab : a + 12 < b) (hb : b ≤ n) (hm : n ≤ 4294967296) (hrow : RowA w base g n cap d) (hbase : base ≤ w.heap.size) :
    Calls Try.prog 69 #[.slice (some ⟨g, 0, none⟩) n cap, .int .i64 a, .int .i64 b] w fun e w' => ∃ (pv : Nat) (h : Int), e = .returned (.tuple #[.int .i64 pv, .int .i64 h]) ∧ a ≤ pv ∧ pv < b ∧ RowA w' base g n cap d ∧ Below base w w' := by
  have HGS := Aside0.mk hrow.base_le.2
  have S0 : Sw .i64 (w.alloc (.cells #[.int .i64 0] 3)) base g n cap w.heap.size d := ⟨⟨hrow.1, hrow.2.alloc _⟩, ⟨0, blk_cell (heap_alloc_new w _) 0⟩, blk_frozen (heap_alloc_new w _) 0, by rw [World.size_alloc]; omega, hbase, fun e => by have := HGS.out; omega⟩
  have B0 : Below base w (w.alloc (.cells #[.int .i64 0] 3)) := (Below.refl _ _).alloc hbase _
  have HMED := Aside0.mk (fun (w' : World) (x y z : Nat) (hx : x < n) (hy : y < n) (hz : z < n) (hS : Sw .i64 w' base g n cap w.heap.size d) => median81 w' base g n cap w.heap.size x y z d hx hy hz hm hS)
  have HADJ := Aside0.mk (fun (w' : World) (x : Nat) (hx : x + 1 + 1 < n) (hS : Sw .i64 w' base g n cap w.heap.size d) => adjacent80 w' base g n cap w.heap.size x d hx hm hS)
  have HS0 := Aside0.mk S0
  have HB0 := Aside0.mk B0
  clear S0 B0 hrow hbase HGS
  obtain ⟨L, hL⟩ : ∃ L, L = b - a := ⟨_, rfl⟩
  obtain ⟨q, hq⟩ : ∃ q, q = L / 4 := ⟨_, rfl⟩
  have hw0 : IntKind.i64.wrap ((b : Int) - (a : Int)) = (L : Int) := by rw [show (b : Int) - (a : Int) = (L : Int) from by omega]; exact wrap64_id (by omega) (by omega)
  have hq4 : Int.tdiv (L : Int) 4 = (q : Int) := by rw [Int.tdiv_eq_ediv_of_nonneg (by omega)]; omega
  have hL8 : (8 : Int) ≤ (L : Int) := by omega
  obtain ⟨i1, hi1⟩ : ∃ i, i = a + q := ⟨_, rfl⟩
  obtain ⟨i2, hi2⟩ : ∃ i, i = a + q * 2 := ⟨_, rfl⟩
  obtain ⟨i3, hi3⟩ : ∃ i, i = a + q * 3 := ⟨_, rfl⟩
  have hm1 : IntKind.i64.wrap ((q : Int) * 1) = (q : Int) := by rw [Int.mul_one]; exact wrap64_id (by omega) (by omega)
  have hm2 : IntKind.i64.wrap ((q : Int) * 2) = (q : Int) * 2 := wrap64_id (by omega) (by omega)
  have hm3 : IntKind.i64.wrap ((q : Int) * 3) = (q : Int) * 3 := wrap64_id (by omega) (by omega)
  have hs1 : IntKind.i64.wrap ((a : Int) + (q : Int)) = (i1 : Int) := by rw [show (a : Int) + (q : Int) = (i1 : Int) from by omega]; exact wrap64_id (by omega) (by omega)
  have hs2 : IntKind.i64.wrap ((a : Int) + (q : Int) * 2) = (i2 : Int) := by rw [show (a : Int) + (q : Int) * 2 = (i2 : Int) from by omega]; exact wrap64_id (by omega) (by omega)
  have hs3 : IntKind.i64.wrap ((a : Int) + (q : Int) * 3) = (i3 : Int) := by rw [show (a : Int) + (q : Int) * 3 = (i3 : Int) from by omega]; exact wrap64_id (by omega) (by omega)
  have hI : Aside0 (a ≤ i1 ∧ i1 < b ∧ a ≤ i2 ∧ i2 < b ∧ a ≤ i3 ∧ i3 < b) := ⟨by omega, by omega, by omega, by omega, by omega, by omega⟩
  have hI2 : Aside0 (50 ≤ L → a < i1 ∧ i1 + 1 < b ∧ a < i2 ∧ i2 + 1 < b ∧ a < i3 ∧ i3 + 1 < b) := ⟨by omega⟩
  have hqb : q < 4294967296 := by omega
  clear hL hq hi1 hi2 hi3
  by_cases h50 : 50 ≤ L
  · have h50i : (50 : Int) ≤ (L : Int) := by omega
    have hI3 := Aside0.mk (hI2.out h50)
    clear hI2
    go_enter Try.func69, Try.ntmps69
    obtain ⟨x1, rfl⟩ : ∃ x, i1 = x + 1 := ⟨i1 - 1, by have := hI3.out; omega⟩
    obtain ⟨x2, rfl⟩ : ∃ x, i2 = x + 1 := ⟨i2 - 1, by have := hI3.out; omega⟩
    obtain ⟨x3, rfl⟩ : ∃ x, i3 = x + 1 := ⟨i3 - 1, by have := hI3.out; omega⟩
    have k1 := Aside0.mk (HADJ.out _ x1 (by have := hI3.out; omega) HS0.out)
    go_wp2_with fail
    refine k1.out.mono ?_
    rintro e_ w1 ⟨z1, rfl, g1, g2, S1, B1⟩
    have k2 := Aside0.mk (HADJ.out _ x2 (by have := hI3.out; omega) S1)
    have HB1 := Aside0.mk (HB0.out.trans B1)
    clear S1 B1
    go_wp2_with fail
    refine k2.out.mono ?_
    rintro e_ w2 ⟨z2, rfl, g3, g4, S1, B1⟩
    have k3 := Aside0.mk (HADJ.out _ x3 (by have := hI3.out; omega) S1)
    have HB2 := Aside0.mk (HB1.out.trans B1)
    clear S1 B1
    go_wp2_with fail
    refine k3.out.mono ?_
    rintro e_ w3 ⟨z3, rfl, g5, g6, S1, B1⟩
    have k4 := Aside0.mk (HMED.out _ z1 z2 z3 (by have := hI3.out; omega) (by have := hI3.out; omega) (by have := hI3.out; omega) S1)
    have HB3 := Aside0.mk (HB2.out.trans B1)
    clear S1 B1
    go_wp2_with fail
    refine k4.out.mono ?_
    rintro e_ w4 ⟨z, rfl, hz, ⟨O1, ⟨sv, cs⟩, _⟩, B1⟩
    have HO := Aside0.mk O1
    have HB4 := Aside0.mk (HB3.out.trans B1)
    have HZ : Aside0 (a ≤ z ∧ z < b) := ⟨by have := hI3.out; omega⟩
    clear O1 B1 hz g1 g2 g3 g4 g5 g6
    go_wp2_with fail
    all_goals
      go_ret2
      exact ⟨z, _, rfl, HZ.out.1, HZ.out.2, HO.out, HB4.out⟩
  · have h50i : ¬ (50 : Int) ≤ (L : Int) := by omega
    clear hI2
    go_enter Try.func69, Try.ntmps69
    have k4 := Aside0.mk (HMED.out _ i1 i2 i3 (by have := hI.out; omega) (by have := hI.out; omega) (by have := hI.out; omega) HS0.out)
    go_wp2_with fail
    refine k4.out.mono ?_
    rintro e_ w4 ⟨z, rfl, hz, ⟨O1, ⟨sv, cs⟩, _⟩, B1⟩
    have HO := Aside0.mk O1
    have HB4 := Aside0.mk (HB0.out.trans B1)
    have HZ : Aside0 (a ≤ z ∧ z < b) := ⟨by have := hI.out; omega⟩
    clear O1 B1 hz
    go_wp2_with fail
    all_goals
      go_ret2
      exact ⟨z, _, rfl, HZ.out.1, HZ.out.2, HO.out, HB4.out⟩
end Go.Proofs.Ytgabkifojnkbkaa.Ip

set_option linter.unusedVariables false
set_option linter.unusedSimpArgs false
namespace Go.Proofs.Ytgabkifojnkbkaa.Ip
open Go.RowKit Go.Maps Go.WideMaps Go.MapKept Go.Proofs.YtgabkifojnkbkaaW.PrintWords Go.Proofs.Ytgabkifojnkbkaa.PIpf
set_option maxRecDepth 100000 in
theorem tab_size : Lib.len8tab.size = 256 := by decide
theorem Sw.put {k : IntKind} {w : World} {base g n cap p : Nat} {d : Array Int} (h : Sw k w base g n cap p d) (x : Int) : Sw k (w.setCell ⟨p, 0, none⟩ (.int k x)).drew base g n cap p d := by
  obtain ⟨hr, ⟨s, hs⟩, hf, hp, hbp, hpg⟩ := h
  exact ⟨(hr.other hpg _).drew1, ⟨x, World.cell?_setCell_same _ _ _ hs⟩, (World.frozen?_setCell _ _ _ _).trans hf, by simpa [World.setCell, World.drew] using hp, hbp, hpg⟩
theorem tab_get (y : Nat) (h : y < Lib.len8tab.size) : ((Lib.len8tab[y]'h).toNat : Int) = (Lib.bitLen y : Int) := by
  have hy : y < 256 := by rw [← tab_size]; exact h
  have e := Lib.len8_eq ⟨y, hy⟩
  rw [← e]
  unfold Lib.len8
  have e2 : ((y : Nat) : Int).toNat = y := by omega
  simp only [e2]
  rw [getElem?_pos Lib.len8tab y h]
  rfl
theorem bit_small (y : Nat) (h : y < 256) : Lib.bitLen y ≤ 8 := Lib.bitLen_le8 ⟨y, h⟩
set_option maxHeartbeats 4000000 in
set_option maxRecDepth 1000000 in
theorem len76i (w : World) (x : Int) (h0 : 0 ≤ x) (h1 : x < 65536) : Calls Try.prog 76 #[.int .u64 x] w fun e w' => e = .returned (.int .i64 (Lib.bitLen x.toNat)) ∧ w' = w := by
  have h2 : ¬ (x ≥ 4294967296) := by omega
  have h3 : ¬ (x ≥ 65536) := by omega
  by_cases hs : x < 256
  · have hsi : ¬ (256 : Int) ≤ x := by omega
    go_enter Try.func76, Try.ntmps76
    go_wp2
    all_goals first
      | (go_ret
         refine ⟨congrArg Ending.returned (congrArg (Value.int IntKind.i64) ?_), rfl⟩
         clear hsi h2 h3
         rw [tab_get x.toNat (by rw [tab_size]; omega)]
         have := bit_small x.toNat (by omega)
         unfold wrap64
         omega)
      | (exfalso
         rename_i hx
         exact hx (by rw [tab_size]; omega))
  · have hsi : (256 : Int) ≤ x := by omega
    have HBL : Aside0 (Lib.bitLen x.toNat = 8 + Lib.bitLen (x / 256).toNat) := ⟨by rw [show (x / 256).toNat = x.toNat / 256 from by omega]; exact Lib.bitLen_shift8 x.toNat (by omega) (by omega)⟩
    go_enter Try.func76, Try.ntmps76
    go_wp2
    all_goals first
      | (go_ret
         refine ⟨congrArg Ending.returned (congrArg (Value.int IntKind.i64) ?_), rfl⟩
         clear hsi h2
         rw [tab_get (x / 256).toNat (by rw [tab_size]; omega), HBL.out]
         have := bit_small (x / 256).toNat (by omega)
         unfold wrap64
         omega)
      | (exfalso
         rename_i hx
         exact hx (by rw [tab_size]; omega))
set_option maxHeartbeats 4000000 in
set_option maxRecDepth 100000 in
theorem len65i (w : World) (x : Int) (h0 : 0 ≤ x) (h1 : x < 65536) : Calls Try.prog 65 #[.int .u64 x] w fun e w' => e = .returned (.int .i64 (Lib.bitLen x.toNat)) ∧ w' = w := by
  have hc := len76i w x h0 h1
  obtain ⟨v, hv⟩ : ∃ v : Nat, v = Lib.bitLen x.toNat := ⟨_, rfl⟩
  rw [← hv] at hc ⊢
  clear hv
  go_enter Try.func65, Try.ntmps65
  go_wp2_with (first | (go_at_call 76; refine hc.mono ?_; rintro e_ w1 ⟨rfl, rfl⟩) | go_in)
  go_ret
  exact ⟨rfl, rfl⟩
theorem pow_bit : ∀ (k x : Nat), x ≤ k → 0 < x → x < 2 ^ 64 → 2 ^ Lib.bitLen x ≤ 2 * x
  | 0, x, h, h0, _ => by omega
  | k + 1, x, h, h0, hx => by
    rw [Lib.bitLen_half x (by omega) hx]
    by_cases h1 : x = 1
    · subst h1; decide
    · have := pow_bit k (x / 2) (by omega) (by omega) (by omega)
      rw [Nat.pow_add]
      omega
theorem bit_le16 (x : Nat) (h : x < 65536) : Lib.bitLen x ≤ 16 := by
  by_cases h0 : x = 0
  · subst h0; decide
  · have h1 := pow_bit x x (Nat.le_refl _) (by omega) (by omega)
    rcases Nat.lt_or_ge 16 (Lib.bitLen x) with h2 | h2
    · have := Nat.pow_le_pow_right (n := 2) (by omega) (show 17 ≤ Lib.bitLen x from h2)
      omega
    · exact h2
theorem wrap_pow (v : Nat) (h : v ≤ 16) : IntKind.u64.wrap (2 ^ min v 64) = ((2 ^ v : Nat) : Int) := by
  rw [Nat.min_eq_left (by omega)]
  have h1 := Nat.pow_le_pow_right (n := 2) (by omega) h
  have h2 : ((2 : Int) ^ v) = ((2 ^ v : Nat) : Int) := by simp
  rw [h2]
  have h3 : IntKind.u64.wrap ((2 ^ v : Nat) : Int) = ((2 ^ v : Nat) : Int) % 18446744073709551616 := by simp [IntKind.wrap, IntKind.signed, IntKind.bits]
  rw [h3]
  generalize (2 ^ v : Nat) = z at *
  omega
set_option maxHeartbeats 4000000 in
set_option maxRecDepth 100000 in
theorem pow78 (w : World) (x : Int) (h0 : 0 ≤ x) (h1 : x < 65536) : Calls Try.prog 78 #[.int .i64 x] w fun e w' => e = .returned (.int .u64 ((2 ^ Lib.bitLen x.toNat : Nat) : Int)) ∧ w' = w := by
  have hc := len65i w x h0 h1
  have hle := bit_le16 x.toNat (by omega)
  obtain ⟨v, hv⟩ : ∃ v : Nat, v = Lib.bitLen x.toNat := ⟨_, rfl⟩
  rw [← hv] at hc hle ⊢
  clear hv
  have HW := Aside0.mk (wrap_pow v hle)
  clear hle
  go_enter Try.func78, Try.ntmps78
  go_wp2_with (first | (go_at_call 65; refine hc.mono ?_; rintro e_ w1 ⟨rfl, rfl⟩) | go_in)
  go_ret
  exact ⟨by rw [← HW.out]; rfl, rfl⟩
set_option maxHeartbeats 4000000 in
set_option maxRecDepth 100000 in
theorem next79 (w : World) (base g n cap p : Nat) (d : Array Int) (hS : Sw .u64 w base g n cap p d) :
    Calls Try.prog 79 #[.pointer (some ⟨p, 0, none⟩)] w fun e w' => ∃ r : Int, e = .returned (.int .u64 r) ∧ Sw .u64 w' base g n cap p d ∧ Below base w w' := by
  have HS := Aside0.mk hS
  have HB : Aside0 (Below base w w) := ⟨Below.refl _ _⟩
  obtain ⟨hr, ⟨s, hs⟩, hf, hp, hbp, hpg⟩ := hS
  clear hr hpg
  go_enter Try.func79, Try.ntmps79
  go_upto_region 1 with fail
  go_cut [] (fun wx => Aside0 (Sw .u64 wx base g n cap p d) ∧ Aside0 (Below base w wx))
  case first =>
    go_region
    all_goals
      go_wp2_with fail
      go_meet
      exact ⟨⟨HS.out.put _⟩, ⟨HB.out.setCell (p := ⟨p, 0, none⟩) HS.out.2.2.2.2.1 _ |>.drew⟩⟩
  case rest =>
    clear HS HB hs hf hp hbp
    obtain ⟨HS, HB⟩ := hcut
    obtain ⟨_, ⟨s, hs⟩, hf, hp, hbp, _⟩ := HS.out
    go_upto_region 2 with fail
    go_cut [] (fun wx => Aside0 (Sw .u64 wx base g n cap p d) ∧ Aside0 (Below base w wx))
    case first =>
      go_region
      all_goals
        go_wp2_with fail
        go_meet
        exact ⟨⟨HS.out.put _⟩, ⟨HB.out.setCell (p := ⟨p, 0, none⟩) HS.out.2.2.2.2.1 _ |>.drew⟩⟩
    case rest =>
      clear HS HB hs hf hp hbp
      obtain ⟨HS, HB⟩ := hcut
      obtain ⟨_, ⟨s, hs⟩, hf, hp, hbp, _⟩ := HS.out
      go_upto_region 3 with fail
      go_cut [] (fun wx => Aside0 (Sw .u64 wx base g n cap p d) ∧ Aside0 (Below base w wx))
      case first =>
        go_region
        all_goals
          go_wp2_with fail
          go_meet
          exact ⟨⟨HS.out.put _⟩, ⟨HB.out.setCell (p := ⟨p, 0, none⟩) HS.out.2.2.2.2.1 _ |>.drew⟩⟩
      case rest =>
        clear HS HB hs hf hp hbp
        obtain ⟨HS, HB⟩ := hcut
        obtain ⟨_, ⟨s, hs⟩, hf, hp, hbp, _⟩ := HS.out
        go_wp2_with fail
        go_ret
        exact ⟨s, rfl, HS.out, HB.out⟩
end Go.Proofs.Ytgabkifojnkbkaa.Ip

set_option linter.unusedVariables false
set_option linter.unusedSimpArgs false
namespace Go.Proofs.Ytgabkifojnkbkaa.Ip
open Go.RowKit Go.Maps Go.WideMaps Go.MapKept Go.Proofs.YtgabkifojnkbkaaW.PrintWords Go.Proofs.Ytgabkifojnkbkaa.PIpf
open Go.Sort (swp ltInt PermIn swp_permIn permIn_refl permIn_trans)
theorem Sw.swp {k : IntKind} {w : World} {base g n cap p : Nat} {d : Array Int} (h : Sw k w base g n cap p d) (i j : Nat) : Sw k ((w.setCell ⟨g, i, none⟩ (.int .u32 d[j]!)).setCell ⟨g, j, none⟩ (.int .u32 d[i]!)).drew base g n cap p (swp d i j) := by
  obtain ⟨hr, ⟨s, hs⟩, hf, hp, hbp, hpg⟩ := h
  have e1 : ∀ (w : World) (i : Nat) (v : Value), (w.setCell ⟨g, i, none⟩ v).cell? ⟨p, 0, none⟩ = w.cell? ⟨p, 0, none⟩ := fun w i v => World.cell?_setCell_other _ _ _ _ (fun e => hpg (by injection e with e1; exact e1.symm))
  exact ⟨(hr.swp i j).drew1, ⟨s, (e1 _ _ _).trans ((e1 _ _ _).trans hs)⟩, (World.frozen?_setCell _ _ _ _).trans ((World.frozen?_setCell _ _ _ _).trans hf), by simpa [World.setCell, World.drew] using hp, hbp, hpg⟩
theorem and_bound (x : Int) (m : Nat) (hm : m < 4294967296) : ∃ o : Nat, bits .and .u64 x (m : Int) = (o : Int) ∧ o ≤ m := by
  have h1 : (BitVec.ofInt 64 (m : Int)).toNat = m := by
    rw [BitVec.toNat_ofInt]; simp; omega
  have h2 : ((BitVec.ofInt 64 x) &&& (BitVec.ofInt 64 (m : Int))).toNat ≤ m := by
    rw [BitVec.toNat_and, h1]; exact Nat.and_le_right
  refine ⟨((BitVec.ofInt 64 x) &&& (BitVec.ofInt 64 (m : Int))).toNat, ?_, h2⟩
  have h3 : bits .and .u64 x (m : Int) = IntKind.u64.wrap (((BitVec.ofInt 64 x) &&& (BitVec.ofInt 64 (m : Int))).toNat : Int) := rfl
  rw [h3]
  generalize ((BitVec.ofInt 64 x) &&& (BitVec.ofInt 64 (m : Int))).toNat = z at *
  have h4 : IntKind.u64.wrap (z : Int) = (z : Int) % 18446744073709551616 := by simp [IntKind.wrap, IntKind.signed, IntKind.bits]
  rw [h4]; omega
set_option maxHeartbeats 8000000 in
set_option maxRecDepth 100000 in
theorem break68 (w : World) (base g n cap a b : Nat) (d : Array Int) (hab : a + 12 < b) (hb : b ≤ n) (hm : n ≤ 65535) (hrow : RowA w base g n cap d) (hbase : base ≤ w.heap.size) :
    Calls Try.prog 68 #[.slice (some ⟨g, 0, none⟩) n cap, .int .i64 a, .int .i64 b] w fun e w' => e = .returned (.tuple #[]) ∧ (∃ d', PermIn a b d d' ∧ RowA w' base g n cap d') ∧ Below base w w' := by
  have HGS := Aside0.mk hrow.base_le.2
  have HG := Aside0.mk hrow.base_le.1
  obtain ⟨L, hL⟩ : ∃ L, L = b - a := ⟨_, rfl⟩
  obtain ⟨q, hq⟩ : ∃ q, q = L / 4 := ⟨_, rfl⟩
  have S0 : Sw .u64 (w.alloc (.cells #[.int .u64 L] 116)) base g n cap w.heap.size d := ⟨⟨hrow.1, hrow.2.alloc _⟩, ⟨L, blk_cell (heap_alloc_new w _) 0⟩, blk_frozen (heap_alloc_new w _) 0, by rw [World.size_alloc]; omega, hbase, fun e => by have := HGS.out; omega⟩
  have HB0 := Aside0.mk ((Below.refl base w).alloc hbase (.cells #[.int .u64 L] 116))
  have HS0 := Aside0.mk S0
  obtain ⟨M, hM⟩ : ∃ M : Nat, M = 2 ^ Lib.bitLen L := ⟨_, rfl⟩
  have hM2 : M ≤ 2 * L := by rw [hM]; exact pow_bit L L (Nat.le_refl _) (by omega) (by omega)
  have hM1 : 0 < M := by rw [hM]; exact Nat.two_pow_pos _
  have hpow : ∀ w', Calls Try.prog 78 #[.int .i64 L] w' fun e w'' => e = .returned (.int .u64 (M : Int)) ∧ w'' = w' := fun w' => by
    have := pow78 w' (L : Int) (by omega) (by omega)
    rw [Int.toNat_natCast, ← hM] at this
    exact this
  obtain ⟨m, hm1⟩ : ∃ m, M = m + 1 := ⟨M - 1, by omega⟩
  clear S0 hrow hbase hM
  have hw0 : IntKind.i64.wrap ((b : Int) - (a : Int)) = (L : Int) := by rw [show (b : Int) - (a : Int) = (L : Int) from by omega]; exact wrap64_id (by omega) (by omega)
  have hq4 : Int.tdiv (L : Int) 4 = (q : Int) := by rw [Int.tdiv_eq_ediv_of_nonneg (by omega)]; omega
  have hL8 : (8 : Int) ≤ (L : Int) := by omega
  have hLz : (0 : Int) ≤ (L : Int) := by omega
  have hLb : (L : Int) < 65536 := by omega
  have hmm : IntKind.u64.wrap ((M : Int) - 1) = (m : Int) := by
    have h4 : IntKind.u64.wrap ((M : Int) - 1) = ((M : Int) - 1) % 18446744073709551616 := by simp [IntKind.wrap, IntKind.signed, IntKind.bits]
    rw [h4]; omega
  obtain ⟨i1, hi1⟩ : ∃ i, i + 1 = a + q * 2 := ⟨a + q * 2 - 1, by omega⟩
  obtain ⟨i2, hi2⟩ : ∃ i, i = i1 + 2 := ⟨_, rfl⟩
  have hm2 : IntKind.i64.wrap ((q : Int) * 2) = (q : Int) * 2 := wrap64_id (by omega) (by omega)
  have hs1 : IntKind.i64.wrap ((a : Int) + (q : Int) * 2) = (i1 : Int) + 1 := by rw [show (a : Int) + (q : Int) * 2 = (i1 : Int) + 1 from by omega]; exact wrap64_id (by omega) (by omega)
  have hs2 : IntKind.i64.wrap ((i1 : Int) + 1 - 1) = (i1 : Int) := by rw [show (i1 : Int) + 1 - 1 = (i1 : Int) from by omega]; exact wrap64_id (by omega) (by omega)
  have hs3 : IntKind.i64.wrap ((i1 : Int) + 1 + 1) = (i2 : Int) := by rw [show (i1 : Int) + 1 + 1 = (i2 : Int) from by omega]; exact wrap64_id (by omega) (by omega)
  have HI : Aside0 (a ≤ i1 ∧ i2 < b ∧ i2 = i1 + 2 ∧ L = b - a ∧ m < 2 * L ∧ L < 65536) := ⟨by omega, by omega, by omega, by omega, by omega, by omega⟩
  have HSZ := Aside0.mk hm
  have HBN := Aside0.mk hb
  have HAND := and_bound
  have hqb : (q : Int) < 65536 := by omega
  have hi1b : (i1 : Int) < 131072 := by omega
  clear hL hq hi1 hi2 hm1 hM1 hM2 hab hb hm
  go_enter Try.func68, Try.ntmps68
  go_wp2_with fail
  refine (hpow _).mono ?_
  rintro e_ w1 ⟨rfl, rfl⟩
  go_wp2_with fail
  clear hm2 hs2
  have hm2 : IntKind.i64.wrap ((q : Int) * 2) = (q : Int) * 2 := wrap64_id (by omega) (by omega)
  go_loopg [9, 10] 3 (fun k v9 v10 wr => ∃ (x : Nat) (di : Array Int), v9 = .int .i64 (x : Int) ∧ x + k = i2 + 1 ∧ i1 ≤ x ∧ Aside0 (PermIn a b d di) ∧ Aside0 (Sw .u64 wr base g n cap w.heap.size di) ∧ Aside0 (Below base w wr))
  case atStart => exact ⟨i1, d, rfl, by have := HI.out; omega, Nat.le_refl _, ⟨permIn_refl d a b⟩, HS0, HB0⟩
  case round =>
    clear HS0 HB0
    obtain ⟨x, di, rfl, hx1, hx2, HP, HS, HB⟩ := hrel
    cases gk with
    | zero =>
      have hni : ¬ (x : Int) ≤ (i2 : Int) := by omega
      go_wp2_with fail
      go_end0
      exact ⟨rfl, ⟨di, HP.out, HS.out.1⟩, HB.out⟩
    | succ k =>
      have hni : (x : Int) ≤ (i2 : Int) := by omega
      have hn := Aside0.mk (next79 _ base g n cap w.heap.size di HS.out)
      clear HS
      go_wp2_with fail
      refine hn.out.mono ?_
      rintro e_ w2 ⟨r, rfl, S2, B2⟩
      have HS := Aside0.mk S2
      have HB2 := Aside0.mk (HB.out.trans B2)
      clear S2 B2 HB hn
      obtain ⟨o, ho, hom⟩ := HAND r m (by have := HI.out; omega)
      have hob : (o : Int) < 131072 := by have := HI.out; omega
      have hoz : (0 : Int) ≤ (o : Int) := by omega
      have HOM := Aside0.mk hom
      clear HAND hom
      go_upto_if 43 with fail
      go_cut [10] (fun v wx => ∃ o2 : Nat, v = .int .i64 (o2 : Int) ∧ o2 < L ∧ Aside0 (Sw .u64 wx base g n cap w.heap.size di) ∧ Aside0 (Below base w wx))
      case first =>
        by_cases hoL : L ≤ o
        · have hoLi : (L : Int) ≤ (o : Int) := by omega
          have HWO := Aside0.mk hob
          clear hob ho
          have hwo : IntKind.i64.wrap ((o : Int) - (L : Int)) = ((o - L : Nat) : Int) := by rw [show (o : Int) - (L : Int) = ((o - L : Nat) : Int) from by omega]; exact wrap64_id (by omega) (by have := HWO.out; omega)
          clear hLb hqb hi1b
          go_wp2_with fail
          go_meet
          exact ⟨o - L, rfl, by have := HI.out; have := HOM.out; omega, HS, HB2⟩
        · have hoLi : ¬ (L : Int) ≤ (o : Int) := by omega
          clear hob ho hLb hqb hi1b
          go_wp2_with fail
          go_meet
          exact ⟨o, rfl, by omega, HS, HB2⟩
      case rest =>
        clear HS HB2 ho hob hoz
        obtain ⟨o2, rfl, ho2, HS, HB⟩ := hcut
        obtain ⟨y, hy⟩ : ∃ y, y = a + o2 := ⟨_, rfl⟩
        have hwy : IntKind.i64.wrap ((a : Int) + (o2 : Int)) = (y : Int) := by rw [show (a : Int) + (o2 : Int) = (y : Int) from by omega]; exact wrap64_id (by omega) (by have := HI.out; have := HBN.out; have := HSZ.out; omega)
        have hyn : y < n := by have := HI.out; have := HBN.out; omega
        have hxn : x < n := by have := HI.out; have := HBN.out; omega
        have hyi : (y : Int) < (n : Int) := by omega
        have hxi : (x : Int) < (n : Int) := by omega
        have hxz : (0 : Int) ≤ (x : Int) := by omega
        have hyz : (0 : Int) ≤ (y : Int) := by omega
        have hwx : IntKind.i64.wrap ((x : Int) + 1) = ((x + 1 : Nat) : Int) := by rw [show (x : Int) + 1 = ((x + 1 : Nat) : Int) from by omega]; exact wrap64_id (by omega) (by have := HI.out; have := HBN.out; have := HSZ.out; omega)
        have HPM : Aside0 (PermIn a b d (swp di x y)) := ⟨permIn_trans d di _ a b HP.out (swp_permIn di a b x y (by have := HI.out; omega) (by have := HI.out; omega) (by omega) (by have := HI.out; omega) (by rw [HS.out.1.1]; exact HBN.out))⟩
        have cx := HS.out.1.get x hxn
        have cy := HS.out.1.get y hyn
        have fx := HS.out.1.frozen x
        have fy := HS.out.1.frozen y
        have hgq : g < wc.heap.size := HS.out.1.base_le.2
        have HSW := Aside0.mk (HS.out.swp x y)
        obtain ⟨sl, hsl⟩ : ∃ s, s = swp di x y := ⟨_, rfl⟩
        rw [← hsl] at HSW HPM
        clear hsl hy HP
        by_cases dif : x = y
        · subst dif
          clear cy fy hyi hyn hyz
          generalize di[x]! = a1 at *
          go_wp2_with fail
          go_region
          all_goals
            go_wp2_with fail
            go_roundg k
            case measure => omega
            case rel => exact ⟨x + 1, sl, by first | rfl | go_num, by omega, by omega, HPM, HSW, ⟨(HB.out.setCell (p := ⟨g, _, none⟩) HG.out _).setCell (p := ⟨g, _, none⟩) HG.out _ |>.drew⟩⟩
        · have dif2 : ¬ y = x := fun e => dif e.symm
          generalize di[x]! = a1 at *
          generalize di[y]! = a0 at *
          go_wp2_with fail
          go_region
          all_goals
            go_wp2_with fail
            go_roundg k
            case measure => omega
            case rel => exact ⟨x + 1, sl, by first | rfl | go_num, by omega, by omega, HPM, HSW, ⟨(HB.out.setCell (p := ⟨g, _, none⟩) HG.out _).setCell (p := ⟨g, _, none⟩) HG.out _ |>.drew⟩⟩
end Go.Proofs.Ytgabkifojnkbkaa.Ip

set_option linter.unusedVariables false
set_option linter.unusedSimpArgs false
namespace Go.Proofs.Ytgabkifojnkbkaa.Ip
open Go.RowKit Go.Maps Go.WideMaps Go.MapKept Go.Proofs.YtgabkifojnkbkaaW.PrintWords Go.Proofs.Ytgabkifojnkbkaa.PIpf
open Go.Sort (swp ltInt PermIn SortedIn swp_permIn permIn_refl permIn_trans insertionSort_holds heapSort_holds partialInsertionSort_holds partition_holds partitionEqual_holds reverseRange_holds swo_ltInt partition partitionEqual partialInsertionSort heapSort insertionSort reverseRange round_eq round_part)
section
variable {w : World} {base g n cap a b : Nat} {d : Array Int}
theorem ins_ok (hab : a ≤ b) (hb : b ≤ n) (hm : n ≤ 65535) (hrow : RowA w base g n cap d) (hbase : base ≤ w.heap.size) :
    Calls Try.prog 66 #[.slice (some ⟨g, 0, none⟩) n cap, .int .i64 a, .int .i64 b] w fun e w' => ∃ d', e = .returned (.tuple #[]) ∧ PermIn a b d d' ∧ SortedIn ltInt a b d' ∧ RowA w' base g n cap d' ∧ Below base w w' := by
  refine (insert66 w base g n cap a b d hab hb (by omega) hrow hbase).mono ?_
  rintro e w' ⟨rfl, hO, hB⟩
  have h := insertionSort_holds (lt := ltInt) swo_ltInt d a b hab (by rw [hrow.1]; exact hb)
  exact ⟨_, rfl, h.1, h.2, hO, hB⟩
theorem heap_ok (hab : a < b) (hb : b ≤ n) (hm : n ≤ 65535) (hrow : RowA w base g n cap d) :
    Calls Try.prog 67 #[.slice (some ⟨g, 0, none⟩) n cap, .int .i64 a, .int .i64 b] w fun e w' => ∃ d', e = .returned (.tuple #[]) ∧ PermIn a b d d' ∧ SortedIn ltInt a b d' ∧ RowA w' base g n cap d' ∧ Below base w w' := by
  obtain ⟨h1, rfl⟩ : ∃ h1, b = a + (h1 + 1) := ⟨b - a - 1, by omega⟩
  refine (heap67 w base g n cap a h1 d hb (by omega) hrow).mono ?_
  rintro e w' ⟨rfl, hO, hB⟩
  have h := heapSort_holds (lt := ltInt) swo_ltInt d a (a + (h1 + 1)) (by omega) (by rw [hrow.1]; exact hb)
  exact ⟨_, rfl, h.1, h.2, hO, hB⟩
theorem rev_ok (hab : a < b) (hb : b ≤ n) (hm : n ≤ 65535) (hrow : RowA w base g n cap d) :
    Calls Try.prog 70 #[.slice (some ⟨g, 0, none⟩) n cap, .int .i64 a, .int .i64 b] w fun e w' => ∃ d', e = .returned (.tuple #[]) ∧ PermIn a b d d' ∧ RowA w' base g n cap d' ∧ Below base w w' := by
  refine (reverse70 w base g n cap a b d hab hb (by omega) hrow).mono ?_
  rintro e w' ⟨rfl, hO, hB⟩
  exact ⟨_, rfl, reverseRange_holds d a b (by omega) (by rw [hrow.1]; exact hb), hO, hB⟩
theorem partial_ok (hab : a < b) (hb : b ≤ n) (hm : n ≤ 65535) (hrow : RowA w base g n cap d) (hbl : Go.Sort.Below ltInt a b d) :
    Calls Try.prog 71 #[.slice (some ⟨g, 0, none⟩) n cap, .int .i64 a, .int .i64 b] w fun e w' => ∃ d' r, e = .returned (.bool r) ∧ PermIn a b d d' ∧ (r = true → SortedIn ltInt a b d') ∧ RowA w' base g n cap d' ∧ Below base w w' := by
  refine (partial71 w base g n cap a b d hab hb (by omega) hrow).mono ?_
  rintro e w' ⟨rfl, hO, hB⟩
  have h := partialInsertionSort_holds (lt := ltInt) swo_ltInt d a b hab (by rw [hrow.1]; exact hb) hbl
  exact ⟨_, _, rfl, h.1, h.2, hO, hB⟩
theorem parteq_ok (pv : Nat) (h1 : a ≤ pv) (h2 : pv < b) (hb : b ≤ n) (hm : n ≤ 65535) (hrow : RowA w base g n cap d) :
    Calls Try.prog 73 #[.slice (some ⟨g, 0, none⟩) n cap, .int .i64 a, .int .i64 b, .int .i64 pv] w fun e w' => ∃ (mid : Nat) (d' : Array Int), e = .returned (.int .i64 mid) ∧ partitionEqual ltInt d a b pv = (mid, d') ∧ RowA w' base g n cap d' ∧ Below base w w' := by
  obtain ⟨b1, rfl⟩ : ∃ b1, b = b1 + 1 := ⟨b - 1, by omega⟩
  refine (parteq73 w base g n cap a b1 pv d h1 (by omega) (by omega) (by omega) hrow).mono ?_
  rintro e w' ⟨rfl, hO, hB⟩
  exact ⟨_, _, rfl, rfl, hO, hB⟩
theorem part_ok (pv : Nat) (h1 : a ≤ pv) (h2 : pv < b) (hb : b ≤ n) (hm : n ≤ 65535) (hrow : RowA w base g n cap d) :
    Calls Try.prog 74 #[.slice (some ⟨g, 0, none⟩) n cap, .int .i64 a, .int .i64 b, .int .i64 pv] w fun e w' => ∃ (mid : Nat) (ap : Bool) (d' : Array Int), e = .returned (.tuple #[.int .i64 mid, .bool ap]) ∧ partition ltInt d a b pv = (mid, ap, d') ∧ RowA w' base g n cap d' ∧ Below base w w' := by
  obtain ⟨b1, rfl⟩ : ∃ b1, b = b1 + 1 := ⟨b - 1, by omega⟩
  refine (part74 w base g n cap a b1 pv d h1 (by omega) (by omega) (by omega) hrow).mono ?_
  rintro e w' ⟨rfl, hO, hB⟩
  exact ⟨_, _, _, rfl, rfl, hO, hB⟩
end
/-- what pdqsort does, of parts of N at most -/
def PdqOk (N : Nat) : Prop := ∀ (w : World) (base g n cap a b lim : Nat) (d : Array Int), b - a ≤ N → a ≤ b → b ≤ n → n ≤ 65535 → lim ≤ 64 → RowA w base g n cap d → base ≤ w.heap.size → Go.Sort.Below ltInt a b d →
  Calls Try.prog 64 #[.slice (some ⟨g, 0, none⟩) n cap, .int .i64 a, .int .i64 b, .int .i64 lim] w fun e w' => ∃ d', e = .returned (.tuple #[]) ∧ PermIn a b d d' ∧ SortedIn ltInt a b d' ∧ RowA w' base g n cap d' ∧ Below base w w'
theorem perm_tr {a b : Nat} {d d1 d2 : Array Int} (h : PermIn a b d d1) (h2 : PermIn a b d1 d2) : PermIn a b d d2 := permIn_trans d d1 d2 a b h h2
/-- what is left to do: the part [a', b') of d' -/
def Left (a b : Nat) (d : Array Int) (a' b' : Nat) (d' : Array Int) : Prop := a ≤ a' ∧ a' ≤ b' ∧ b' ≤ b ∧ b' ≤ d'.size ∧ Go.Sort.Below ltInt a' b' d' ∧ ∀ R, PermIn a' b' d' R → SortedIn ltInt a' b' R → PermIn a b d R ∧ SortedIn ltInt a b R
theorem Left.perm {a b : Nat} {d : Array Int} {a' b' : Nat} {d' d1 : Array Int} (h : Left a b d a' b' d') (hp : PermIn a' b' d' d1) : Left a b d a' b' d1 := by
  obtain ⟨h1, h2, h3, h4, h5, h6⟩ := h
  exact ⟨h1, h2, h3, by rw [hp.1]; exact h4, h5.perm h4 hp, fun R hR hs => h6 R (perm_tr hp hR) hs⟩
theorem Left.eq {a b : Nat} {d : Array Int} {a' b' pv mid : Nat} {d3 d4 : Array Int} (h : Left a b d a' b' d3) (h0 : 0 < a') (hp1 : a' ≤ pv) (hp2 : pv < b') (hnl : ltInt d3[a' - 1]! d3[pv]! = false) (hx : partitionEqual ltInt d3 a' b' pv = (mid, d4)) : a' < mid ∧ mid ≤ b' ∧ Left a b d mid b' d4 := by
  obtain ⟨h1, h2, h3, h4, h5, h6⟩ := h
  obtain ⟨k1, k2, k3, k4, k5⟩ := round_eq swo_ltInt (partitionEqual_holds _) h0 hp1 hp2 h4 h5 hnl hx
  exact ⟨k1, k2, by omega, k2, h3, by rw [k3]; exact h4, k4, fun R hR hs => h6 R (k5 R hR hs).1 (k5 R hR hs).2⟩
theorem Left.part {a b : Nat} {d : Array Int} {a' b' pv mid : Nat} {ap : Bool} {d3 d4 : Array Int} (h : Left a b d a' b' d3) (hp1 : a' ≤ pv) (hp2 : pv < b') (hx : partition ltInt d3 a' b' pv = (mid, ap, d4)) :
    a' ≤ mid ∧ mid < b' ∧ Go.Sort.Below ltInt a' mid d4 ∧ Go.Sort.Below ltInt (mid + 1) b' d4 ∧
    (∀ L, PermIn a' mid d4 L → SortedIn ltInt a' mid L → Left a b d (mid + 1) b' L) ∧ (∀ L, PermIn (mid + 1) b' d4 L → SortedIn ltInt (mid + 1) b' L → Left a b d a' mid L) := by
  obtain ⟨h1, h2, h3, h4, h5, h6⟩ := h
  obtain ⟨k1, k2, k3, k4, k5, k6, k7⟩ := round_part swo_ltInt (partition_holds _) hp1 hp2 h4 h5 hx
  refine ⟨k1, k2, k4, k5, fun L hL hs => ?_, fun L hL hs => ?_⟩
  · obtain ⟨j1, j2⟩ := k6 L hL hs
    exact ⟨by omega, by omega, h3, by rw [hL.1, k3]; exact h4, j1, fun R hR hsR => h6 R (j2 R hR hsR).1 (j2 R hR hsR).2⟩
  · obtain ⟨j1, j2⟩ := k7 L hL hs
    exact ⟨h1, k1, by omega, by rw [hL.1, k3]; omega, j1, fun R hR hsR => h6 R (j2 R hR hsR).1 (j2 R hR hsR).2⟩
set_option maxHeartbeats 16000000 in
set_option maxRecDepth 100000 in
theorem pdq_all (N : Nat) : PdqOk N := by
  induction N using Nat.strongRecOn with
  | _ N ih =>
  intro w base g n cap a b lim d hN hab hb hm hlim hrow hbase hbl
  have IH : Aside0 (∀ m, m < N → PdqOk m) := ⟨ih⟩
  have HO := Aside0.mk hrow
  have HB : Aside0 (Below base w w) := ⟨Below.refl _ _⟩
  have HBA := Aside0.mk hbase
  have HM := Aside0.mk hm
  have HN := Aside0.mk hN
  have HBN := Aside0.mk hb
  have HL : Aside0 (Left a b d a b d) := ⟨⟨Nat.le_refl _, hab, Nat.le_refl _, by rw [hrow.1]; exact hb, hbl, fun R hR hs => ⟨hR, hs⟩⟩⟩
  have HLM := Aside0.mk hlim
  have hless := less72
  clear ih hrow hbase hbl hN hlim hb hm
  go_enter Try.func64, Try.ntmps64
  go_wp2_with fail
  go_loopg [1, 2, 3, 8, 9] (b - a) (fun k v1 v2 v3 v8 v9 wr => ∃ (a' b' lim : Nat) (d' : Array Int) (wb wp : Bool), v1 = .int .i64 (a' : Int) ∧ v2 = .int .i64 (b' : Int) ∧ v3 = .int .i64 (lim : Int) ∧ v8 = .bool wb ∧ v9 = .bool wp ∧ k = b' - a' ∧ Aside0 (lim ≤ 64) ∧ Aside0 (Left a b d a' b' d') ∧ Aside0 (RowA wr base g n cap d') ∧ Aside0 (Below base w wr))
  case atStart => exact ⟨a, b, lim, d, true, true, rfl, rfl, rfl, rfl, rfl, rfl, HLM, HL, HO, HB⟩
  case round =>
    clear HO HB HL HLM
    obtain ⟨a', b', lim, d', wb, wp, rfl, rfl, rfl, rfl, rfl, hk, HLM, HL, HO, HB⟩ := hrel
    have HBW : Aside0 (base ≤ wr.heap.size) := ⟨Nat.le_trans HBA.out HB.out.size⟩
    have hab' : a' ≤ b' := HL.out.2.1
    have hbn' : b' ≤ n := Nat.le_trans HL.out.2.2.1 HBN.out
    have HBI : Aside0 (b' < 65536) := ⟨by have := HM.out; omega⟩
    obtain ⟨L, hL⟩ : ∃ L, L = b' - a' := ⟨_, rfl⟩
    have hw0 : IntKind.i64.wrap ((b' : Int) - (a' : Int)) = (L : Int) := by rw [show (b' : Int) - (a' : Int) = (L : Int) from by omega]; exact wrap64_id (by omega) (by have := HBI.out; omega)
    by_cases h12 : L ≤ 12
    · have h12i : (L : Int) ≤ 12 := by omega
      have hc := Aside0.mk (ins_ok (w := wr) hab' hbn' HM.out HO.out HBW.out)
      clear hL HO
      go_wp2_with fail
      refine hc.out.mono ?_
      rintro e_ w5 ⟨d5, rfl, hp, hs, hO5, hB5⟩
      have HP := Aside0.mk hp
      have HS := Aside0.mk hs
      have HO5 := Aside0.mk hO5
      have HB5 := Aside0.mk (HB.out.trans hB5)
      clear hp hs hO5 hB5
      go_wp2_with fail
      ((try simp only [Exit.inBlock, Exit.then]); refine bodyPost_ret (results_none rfl _ _ _) rfl ?_)
      exact ⟨d5, rfl, (HL.out.2.2.2.2.2 d5 HP.out HS.out).1, (HL.out.2.2.2.2.2 d5 HP.out HS.out).2, HO5.out, HB5.out⟩
    · have h12i : ¬ (L : Int) ≤ 12 := by omega
      have hab2 : a' + 12 < b' := by omega
      by_cases hl0 : lim = 0
      · have hc := Aside0.mk (heap_ok (w := wr) (a := a') (b := b') (by omega) hbn' HM.out HO.out)
        have hl0B : (((lim : Nat) : Int) == 0) = true := by simp; omega
        clear hL HO hl0
        go_wp2_with fail
        refine hc.out.mono ?_
        rintro e_ w5 ⟨d5, rfl, hp, hs, hO5, hB5⟩
        have HP := Aside0.mk hp
        have HS := Aside0.mk hs
        have HO5 := Aside0.mk hO5
        have HB5 := Aside0.mk (HB.out.trans hB5)
        clear hp hs hO5 hB5
        go_wp2_with fail
        ((try simp only [Exit.inBlock, Exit.then]); refine bodyPost_ret (results_none rfl _ _ _) rfl ?_)
        exact ⟨d5, rfl, (HL.out.2.2.2.2.2 d5 HP.out HS.out).1, (HL.out.2.2.2.2.2 d5 HP.out HS.out).2, HO5.out, HB5.out⟩
      · have hlB : (((lim : Nat) : Int) == 0) = false := by simp; omega
        have hl1 : (1 : Int) ≤ (lim : Int) := by omega
        have hw1 : IntKind.i64.wrap ((lim : Int) - 1) = ((lim - 1 : Nat) : Int) := by rw [show (lim : Int) - 1 = ((lim - 1 : Nat) : Int) from by omega]; exact wrap64_id (by omega) (by have := HLM.out; omega)
        go_upto_if 35 with fail
        go_cut [3] (fun v3 wx => ∃ (lim1 : Nat), v3 = .int .i64 (lim1 : Int) ∧ Aside0 (lim1 ≤ 64) ∧ ∃ d1, Aside0 (Left a b d a' b' d1) ∧ Aside0 (RowA wx base g n cap d1) ∧ Aside0 (Below base w wx))
        case first =>
          cases wb with
          | true =>
            go_wp2_with fail
            go_meet
            exact ⟨lim, rfl, HLM, d', HL, HO, HB⟩
          | false =>
            have hc := Aside0.mk (break68 wr base g n cap a' b' d' hab2 hbn' HM.out HO.out HBW.out)
            clear HO
            go_wp2_with fail
            refine hc.out.mono ?_
            rintro e_ w5 ⟨rfl, ⟨d5, hp, hO5⟩, hB5⟩
            have HL5 := Aside0.mk (HL.out.perm hp)
            have HO5 := Aside0.mk hO5
            have HB5 := Aside0.mk (HB.out.trans hB5)
            clear hp hO5 hB5 hc
            go_wp2_with fail
            go_meet
            exact ⟨lim - 1, rfl, ⟨by have := HLM.out; omega⟩, d5, HL5, HO5, HB5⟩
        case rest =>
          clear HO HB HL HLM HBW hw1 hl1 hlB hl0
          obtain ⟨lim1, rfl, HLM, d1, HL, HO, HB⟩ := hcut
          have hc := Aside0.mk (pivot69 wc base g n cap a' b' d1 hab2 hbn' (by have := HM.out; omega) HO.out (Nat.le_trans HBA.out HB.out.size))
          clear HO
          go_wp2_with fail
          refine hc.out.mono ?_
          rintro e_ w6 ⟨pv, hn, rfl, hp1, hp2, hO6, hB6⟩
          have HO6 := Aside0.mk hO6
          have HB6 := Aside0.mk (HB.out.trans hB6)
          clear hO6 hB6 hc HB
          have hw2 : IntKind.i64.wrap ((b' : Int) - 1) = ((b' - 1 : Nat) : Int) := by rw [show (b' : Int) - 1 = ((b' - 1 : Nat) : Int) from by omega]; exact wrap64_id (by omega) (by have := HBI.out; omega)
          have hw3 : IntKind.i64.wrap ((pv : Int) - (a' : Int)) = ((pv - a' : Nat) : Int) := by rw [show (pv : Int) - (a' : Int) = ((pv - a' : Nat) : Int) from by omega]; exact wrap64_id (by omega) (by have := HBI.out; omega)
          obtain ⟨q1, hq1⟩ : ∃ q, q = b' - 1 := ⟨_, rfl⟩
          obtain ⟨q2, hq2⟩ : ∃ q, q = pv - a' := ⟨_, rfl⟩
          rw [← hq1] at hw2
          rw [← hq2] at hw3
          have hw4 : IntKind.i64.wrap ((q1 : Int) - (q2 : Int)) = ((q1 - q2 : Nat) : Int) := by rw [show (q1 : Int) - (q2 : Int) = ((q1 - q2 : Nat) : Int) from by omega]; exact wrap64_id (by omega) (by have := HBI.out; omega)
          have HQ : Aside0 (a' ≤ q1 - q2 ∧ q1 - q2 < b') := ⟨by omega, by omega⟩
          obtain ⟨q3, hq3⟩ : ∃ q, q = q1 - q2 := ⟨_, rfl⟩
          rw [← hq3] at hw4 HQ
          clear hq1 hq2 hq3
          go_upto_if 50 with fail
          go_cut [11, 12] (fun v11 v12 wx => ∃ (pv : Nat) (hn : Int), v11 = .int .i64 (pv : Int) ∧ v12 = .int .i64 hn ∧ a' ≤ pv ∧ pv < b' ∧ ∃ d2, Aside0 (Left a b d a' b' d2) ∧ Aside0 (RowA wx base g n cap d2) ∧ Aside0 (Below base w wx))
          case first =>
            by_cases h2 : hn = 2
            · have h2B : (hn == 2) = true := by simp [h2]
              have hc := Aside0.mk (rev_ok (w := w6) (a := a') (b := b') (by omega) hbn' HM.out HO6.out)
              clear h2 HO6
              go_wp2_with fail
              refine hc.out.mono ?_
              rintro e_ w7 ⟨d7, rfl, hp, hO7, hB7⟩
              have HL7 := Aside0.mk (HL.out.perm hp)
              have HO7 := Aside0.mk hO7
              have HB7 := Aside0.mk (HB6.out.trans hB7)
              clear hp hO7 hB7 hc HB6
              go_wp2_with fail
              go_meet
              exact ⟨q3, 1, rfl, rfl, HQ.out.1, HQ.out.2, d7, HL7, HO7, HB7⟩
            · have h2B : (hn == 2) = false := by simp [h2]
              clear h2
              go_wp2_with fail
              go_meet
              exact ⟨pv, hn, rfl, rfl, hp1, hp2, d1, HL, HO6, HB6⟩
          case rest =>
            clear HO6 HB6 HL HQ hw2 hw3 hw4 hp1 hp2
            obtain ⟨pv, hn, rfl, rfl, hp1, hp2, d2, HL, HO, HB⟩ := hcut
            go_upto_region 15 with fail
            go_cut [68] (fun v68 wx => ∃ c : Bool, v68 = .bool c ∧ Aside0 (RowA wx base g n cap d2) ∧ Aside0 (Below base w wx))
            case first =>
              by_cases h1 : hn = 1
              · have h1B : (hn == 1) = true := by simp [h1]
                clear h1
                cases wb <;> cases wp <;> (go_wp2_with fail; go_meet; exact ⟨_, rfl, HO, HB⟩)
              · have h1B : (hn == 1) = false := by simp [h1]
                clear h1
                cases wb <;> cases wp <;> (go_wp2_with fail; go_meet; exact ⟨_, rfl, HO, HB⟩)
            case rest =>
              clear HO HB
              obtain ⟨c, rfl, HO, HB⟩ := hcut
              go_upto_if 68 with fail
              go_cut [] (fun wx => ∃ d3, Aside0 (Left a b d a' b' d3) ∧ Aside0 (RowA wx base g n cap d3) ∧ Aside0 (Below base w wx))
              case first =>
                cases c with
                | false =>
                  go_wp2_with fail
                  go_meet
                  exact ⟨d2, HL, HO, HB⟩
                | true =>
                  have hc := Aside0.mk (partial_ok (a := a') (b := b') (by omega) hbn' HM.out HO.out HL.out.2.2.2.2.1)
                  clear HO
                  go_wp2_with fail
                  refine hc.out.mono ?_
                  rintro e_ w7 ⟨d7, r, rfl, hp, hs, hO7, hB7⟩
                  have HP := Aside0.mk hp
                  have HO7 := Aside0.mk hO7
                  have HB7 := Aside0.mk (HB.out.trans hB7)
                  have HS := Aside0.mk hs
                  clear hp hO7 hB7 hc HB hs
                  cases r with
                  | false =>
                    go_wp2_with fail
                    go_meet
                    exact ⟨d7, ⟨HL.out.perm HP.out⟩, HO7, HB7⟩
                  | true =>
                    go_wp2_with fail
                    ((try simp only [Exit.inBlock, Exit.then]); refine bodyPost_ret (results_none rfl _ _ _) rfl ?_)
                    exact ⟨d7, rfl, (HL.out.2.2.2.2.2 d7 HP.out (HS.out trivial)).1, (HL.out.2.2.2.2.2 d7 HP.out (HS.out trivial)).2, HO7.out, HB7.out⟩
              case rest =>
                clear HO HB HL
                obtain ⟨d3, HL, HO, HB⟩ := hcut
                go_upto_region 17 with fail
                go_cut [87] (fun v87 wx => ∃ c : Bool, v87 = .bool c ∧ Aside0 (c = true → 0 < a' ∧ ltInt d3[a' - 1]! d3[pv]! = false) ∧ Aside0 (RowA wx base g n cap d3) ∧ Aside0 (Below base w wx))
                case first =>
                  by_cases ha0 : a' = 0
                  · have ha0i : ¬ (0 : Int) < (a' : Int) := by omega
                    have ha0n : ¬ 0 < a' := by omega
                    have ha0d : decide (0 < a') = false := by simpa using ha0n
                    clear ha0
                    go_wp2_with fail
                    go_quiet (fail)
                    go_wp2_with fail
                    go_meet
                    exact ⟨false, rfl, ⟨fun e => by cases e⟩, ⟨HO.out.drew _⟩, ⟨pw_below_drewN HB.out _⟩⟩
                  · have ha0i : (0 : Int) < (a' : Int) := by omega
                    obtain ⟨a1, ha1⟩ : ∃ x, x = a' - 1 := ⟨_, rfl⟩
                    have hw5 : IntKind.i64.wrap ((a' : Int) - 1) = (a1 : Int) := by rw [show (a' : Int) - 1 = (a1 : Int) from by omega]; exact wrap64_id (by omega) (by have := HBI.out; omega)
                    have hpvn : (pv : Int) < (n : Int) := by omega
                    have ha1n : (a1 : Int) < (n : Int) := by omega
                    have c1 := HO.out.get a1 (by omega)
                    have c0 := HO.out.get pv (by omega)
                    have HA0 : Aside0 (0 < a' ∧ a1 = a' - 1) := ⟨by omega, ha1⟩
                    obtain ⟨x1, h1⟩ : ∃ x, x = d3[a1]! := ⟨_, rfl⟩
                    obtain ⟨x0, h0⟩ : ∃ x, x = d3[pv]! := ⟨_, rfl⟩
                    rw [← h1] at c1
                    rw [← h0] at c0
                    have HX : Aside0 (x1 = d3[a' - 1]! ∧ x0 = d3[pv]!) := ⟨by rw [h1, ha1], h0⟩
                    clear h1 h0 ha1 ha0
                    have ha0n : 0 < a' := HA0.out.1
                    by_cases hlt : x1 < x0
                    · go_wp2_with fail
                      go_quiet ((go_at_call 72; exact Calls.quiet_of_same (hless _ _ _)))
                      go_wp2_with fail
                      go_meet
                      exact ⟨false, rfl, ⟨fun e => by cases e⟩, ⟨HO.out.drew _⟩, ⟨pw_below_drewN HB.out _⟩⟩
                    · have hdec : decide (x1 < x0) = false := by simpa using hlt
                      go_wp2_with fail
                      go_quiet ((go_at_call 72; exact Calls.quiet_of_same (hless _ _ _)))
                      go_wp2_with fail
                      go_meet
                      exact ⟨true, rfl, ⟨fun _ => ⟨HA0.out.1, by rw [← HX.out.1, ← HX.out.2]; exact hdec⟩⟩, ⟨HO.out.drew _⟩, ⟨pw_below_drewN HB.out _⟩⟩
                case rest =>
                  clear HO HB
                  obtain ⟨c, rfl, HC, HO, HB⟩ := hcut
                  cases c with
                  | true =>
                    have hc := Aside0.mk (parteq_ok (w := wc) pv hp1 hp2 hbn' HM.out HO.out)
                    have hC2 := HC.out rfl
                    have HC2 := Aside0.mk hC2
                    clear HO HC hC2
                    go_wp2_with fail
                    refine hc.out.mono ?_
                    rintro e_ w7 ⟨mid, d7, rfl, hx, hO7, hB7⟩
                    have HX := Aside0.mk (HL.out.eq HC2.out.1 hp1 hp2 HC2.out.2 hx)
                    have HO7 := Aside0.mk hO7
                    have HB7 := Aside0.mk (HB.out.trans hB7)
                    clear hx hO7 hB7 hc HB
                    go_wp2_with fail
                    go_roundg (b' - mid)
                    case measure => have := HX.out.1; omega
                    case rel => exact ⟨mid, b', lim1, d7, wb, wp, rfl, rfl, rfl, rfl, rfl, rfl, HLM, ⟨HX.out.2.2⟩, HO7, HB7⟩
                  | false =>
                    have hc := Aside0.mk (part_ok (w := wc) pv hp1 hp2 hbn' HM.out HO.out)
                    clear HO HC
                    go_wp2_with fail
                    refine hc.out.mono ?_
                    rintro e_ w7 ⟨mid, ap, d7, rfl, hx, hO7, hB7⟩
                    have HX := Aside0.mk (HL.out.part hp1 hp2 hx)
                    have HO7 := Aside0.mk hO7
                    have HB7 := Aside0.mk (HB.out.trans hB7)
                    have hm1 := HX.out.1
                    have hm2 := HX.out.2.1
                    clear hx hO7 hB7 hc HB hp1 hp2
                    have hw5 : IntKind.i64.wrap ((mid : Int) - (a' : Int)) = ((mid - a' : Nat) : Int) := by rw [show (mid : Int) - (a' : Int) = ((mid - a' : Nat) : Int) from by omega]; exact wrap64_id (by omega) (by have := HBI.out; omega)
                    have hw6 : IntKind.i64.wrap ((b' : Int) - (mid : Int)) = ((b' - mid : Nat) : Int) := by rw [show (b' : Int) - (mid : Int) = ((b' - mid : Nat) : Int) from by omega]; exact wrap64_id (by omega) (by have := HBI.out; omega)
                    have hw7 : IntKind.i64.wrap ((mid : Int) + 1) = ((mid + 1 : Nat) : Int) := by rw [show (mid : Int) + 1 = ((mid + 1 : Nat) : Int) from by omega]; exact wrap64_id (by omega) (by have := HBI.out; omega)
                    have hq8 : Int.tdiv (L : Int) 8 = ((L / 8 : Nat) : Int) := by rw [Int.tdiv_eq_ediv_of_nonneg (by omega)]; omega
                    obtain ⟨l1, hl1⟩ : ∃ l, l = mid - a' := ⟨_, rfl⟩
                    obtain ⟨l2, hl2⟩ : ∃ l, l = b' - mid := ⟨_, rfl⟩
                    obtain ⟨l8, hl8⟩ : ∃ l, l = L / 8 := ⟨_, rfl⟩
                    rw [← hl1] at hw5
                    rw [← hl2] at hw6
                    rw [← hl8] at hq8
                    have hlow : a ≤ a' := HL.out.1
                    have hup : b' ≤ b := HL.out.2.2.1
                    have hNN : b - a ≤ N := HN.out
                    have HI1 := Aside0.mk (IH.out (mid - a') (by omega) w7 base g n cap a' mid lim1 d7 (Nat.le_refl _) hm1 (by omega) HM.out HLM.out HO7.out (Nat.le_trans HBA.out HB7.out.size) HX.out.2.2.1)
                    have HI2 := Aside0.mk (IH.out (b' - (mid + 1)) (by omega) w7 base g n cap (mid + 1) b' lim1 d7 (Nat.le_refl _) (by omega) hbn' HM.out HLM.out HO7.out (Nat.le_trans HBA.out HB7.out.size) HX.out.2.2.2.1)
                    clear hl1 hl2 hl8 hNN hlow hup HO7 hL
                    by_cases hlr : l1 < l2
                    · have hlri : (l1 : Int) < (l2 : Int) := by omega
                      clear HI2
                      go_wp2_with fail
                      refine HI1.out.mono ?_
                      rintro e_ w8 ⟨d8, rfl, hp, hs, hO8, hB8⟩
                      have HL8 := Aside0.mk (HX.out.2.2.2.2.1 d8 hp hs)
                      have HO8 := Aside0.mk hO8
                      have HB8 := Aside0.mk (HB7.out.trans hB8)
                      clear hp hs hO8 hB8 HI1 HX
                      go_wp2_with fail
                      go_roundg (b' - (mid + 1))
                      case measure => omega
                      case rel => exact ⟨mid + 1, b', lim1, d8, _, ap, by first | rfl | go_num, rfl, rfl, rfl, rfl, rfl, HLM, HL8, HO8, HB8⟩
                    · have hlri : ¬ (l1 : Int) < (l2 : Int) := by omega
                      clear HI1
                      go_wp2_with fail
                      refine HI2.out.mono ?_
                      rintro e_ w8 ⟨d8, rfl, hp, hs, hO8, hB8⟩
                      have HL8 := Aside0.mk (HX.out.2.2.2.2.2 d8 hp hs)
                      have HO8 := Aside0.mk hO8
                      have HB8 := Aside0.mk (HB7.out.trans hB8)
                      clear hp hs hO8 hB8 HI2 HX
                      go_wp2_with fail
                      go_roundg (mid - a')
                      case measure => omega
                      case rel => exact ⟨a', mid, lim1, d8, _, ap, rfl, rfl, rfl, rfl, rfl, rfl, HLM, HL8, HO8, HB8⟩
end Go.Proofs.Ytgabkifojnkbkaa.Ip

set_option linter.unusedVariables false
set_option linter.unusedSimpArgs false
namespace Go.Proofs.Ytgabkifojnkbkaa.Ip
open Go.RowKit Go.Maps Go.Shelf Go.WideMaps Go.MapKept Go.Proofs.YtgabkifojnkbkaaW.PrintWords Go.Proofs.Ytgabkifojnkbkaa.PIpf
open Go.Sort (ltInt PermIn SortedIn)
/-- l2 is l in order -/
def InOrder (l l2 : List Int) : Prop := l2.Perm l ∧ l2.Pairwise (· ≤ ·)
theorem inOrder_of {l : List Int} {d : Array Int} (hp : PermIn 0 l.length l.toArray d) (hs : SortedIn ltInt 0 l.length d) : InOrder l d.toList := by
  have hz : d.size = l.length := by rw [hp.1]; simp
  refine ⟨?_, ?_⟩
  · have h := hp.2.2
    rw [Array.extract_eq_self_of_le (by omega), Array.extract_eq_self_of_le (by simp)] at h
    simpa using h
  · rw [List.pairwise_iff_getElem]
    intro i j hi hj hij
    have h := hs i j (by omega) hij (by rw [← hz]; simpa using hj)
    have e : ∀ k (hk : k < d.toList.length), d[k]! = d.toList[k] := fun k hk => by
      rw [getElem!_pos d k (by simpa using hk)]; simp
    rw [e i hi, e j hj] at h
    simp [ltInt] at h
    exact h
theorem keys_of_order {f : Int → Option Int} {l l2 : List Int} (h : KeysOn f l) (ho : InOrder l l2) : KeysIn f l2 := by
  refine ⟨?_, fun x => by rw [ho.1.mem_iff]; exact h.2 x⟩
  have hnd : l2.Nodup := ho.1.nodup_iff.2 h.1
  refine (ho.2.and hnd).imp ?_
  rintro a b ⟨h1, h2⟩
  omega
set_option maxHeartbeats 4000000 in
set_option maxRecDepth 100000 in
theorem sort59a (w : World) (base g n cap : Nat) (l : List Int) (hn : l.length = n) (hm : n ≤ 1024) (hrow : w.ownsRow base 23 1 (.slice (some ⟨g, 0, none⟩) n cap) n (l.map encA)) (hbase : base ≤ w.heap.size) :
    Calls Try.prog 59 #[.slice (some ⟨g, 0, none⟩) n cap] w fun e w' => ∃ l2, e = .returned (.tuple #[]) ∧ InOrder l l2 ∧ w'.ownsRow base 23 1 (.slice (some ⟨g, 0, none⟩) n cap) n (l2.map encA) ∧ Below base w w' := by
  have hR : RowA w base g n cap l.toArray := ⟨by simpa using hn, by simpa using hrow⟩
  have hl := Aside0.mk (len65i w (n : Int) (by omega) (by omega))
  obtain ⟨v, hv⟩ : ∃ v : Nat, v = Lib.bitLen (n : Int).toNat := ⟨_, rfl⟩
  have hle : v ≤ 16 := by rw [hv]; exact bit_le16 _ (by simp; omega)
  rw [← hv] at hl
  clear hv
  have hc0 := pdq_all n w base g n cap 0 n v l.toArray (by omega) (by omega) (Nat.le_refl _) (by omega) (by omega) hR hbase (Or.inl rfl)
  have hc1 : Calls Try.prog 64 #[.slice (some ⟨g, 0, none⟩) n cap, .int .i64 0, .int .i64 n, .int .i64 v] w (fun e w' => ∃ l2, e = .returned (.tuple #[]) ∧ InOrder l l2 ∧ w'.ownsRow base 23 1 (.slice (some ⟨g, 0, none⟩) n cap) n (l2.map encA) ∧ Below base w w') := by
    refine (show Calls Try.prog 64 #[.slice (some ⟨g, 0, none⟩) n cap, .int .i64 0, .int .i64 n, .int .i64 v] w _ from hc0).mono ?_
    rintro e w' ⟨d', rfl, hp, hs, hO, hB⟩
    subst hn
    exact ⟨d'.toList, rfl, inOrder_of hp hs, hO.2, hB⟩
  have hc := Aside0.mk hc1
  have hnn : (0 : Int) ≤ (n : Int) := by omega
  clear hrow hbase hR hc0 hc1 hle
  go_enter Try.func59, Try.ntmps59
  go_wp2_with fail
  refine hl.out.mono ?_
  rintro e_ w1 ⟨rfl, rfl⟩
  go_wp2_with fail
  refine hc.out.mono ?_
  rintro e_ w1 ⟨l2, rfl, hI, HO, HB⟩
  have H1 := Aside0.mk hI
  have H2 := Aside0.mk HO
  have H3 := Aside0.mk HB
  clear hI HO HB
  go_wp2_with fail
  go_end0
  exact ⟨l2, rfl, H1.out, H2.out, H3.out⟩
set_option maxHeartbeats 4000000 in
set_option maxRecDepth 100000 in
theorem sorted50a (w : World) (b Bm cnt : Nat) (f : Int → Option Int) (hA : AM w b f cnt) (hBm : Bm < w.heap.size) (hc : w.cell? ⟨Bm, 0, none⟩ = some (.map (some b))) (hcnt : cnt ≤ 1024) :
    Calls Try.prog 50 #[.func (.func 60) #[] #[.pointer (some ⟨Bm, 0, none⟩)]] w fun e w' => ∃ v l, e = .returned v ∧ KeysIn f l ∧ l.length ≤ cnt ∧ w'.ownsRow w.heap.size 23 1 v l.length (l.map encA) ∧ Below w.heap.size w w' := by
  have hcol := Aside0.mk (collect58 w b Bm cnt f hA hBm hc (by omega))
  have hsort := Aside0.mk (fun (w1 : World) (v : Value) (l : List Int) (hlen : l.length ≤ cnt) (hrow : w1.ownsRow w.heap.size 23 1 v l.length (l.map encA)) (hb : Below w.heap.size w w1) =>
    (show Calls Try.prog 59 #[v] w1 fun e w' => ∃ l2, e = .returned (.tuple #[]) ∧ InOrder l l2 ∧ w'.ownsRow w.heap.size 23 1 v l2.length (l2.map encA) ∧ Below w.heap.size w1 w' from by
      rcases hrow.2 with ⟨rfl, hz⟩ | ⟨g, cap, cur, rfl, hbase, hgb, r1, r2, r3, r4⟩
      · have hss : l = [] := List.eq_nil_of_length_eq_zero hz
        subst hss
        refine (sort59_nil w1).mono ?_
        rintro e w' ⟨rfl, rfl⟩
        exact ⟨[], rfl, ⟨List.Perm.refl _, List.Pairwise.nil⟩, hrow, Below.refl _ _⟩
      · refine (sort59a w1 w.heap.size g l.length cap l rfl (by omega) hrow hb.size).mono ?_
        rintro e w' ⟨l2, rfl, h1, h2, h3⟩
        exact ⟨l2, rfl, h1, by rw [h1.1.length_eq]; exact h2, h3⟩))
  go_enter Try.func50, Try.ntmps50
  go_wp2_with fail
  refine hcol.out.mono ?_
  rintro e_ w1 ⟨v, l, rfl, hK, hlen, hrow, hb⟩
  have HS := Aside0.mk (hsort.out _ _ _ hlen hrow hb)
  have HK := Aside0.mk hK
  have HL := Aside0.mk hlen
  have HB := Aside0.mk hb
  clear hK hlen hrow hb hsort hcol
  go_wp2_with fail
  refine HS.out.mono ?_
  rintro e_ w2 ⟨l2, rfl, hI, hO, hB2⟩
  have H1 := Aside0.mk hI
  have H2 := Aside0.mk hO
  have H3 := Aside0.mk (HB.out.trans hB2)
  clear hI hO hB2
  go_wp2_with fail
  go_ret
  exact ⟨_, l2, rfl, keys_of_order HK.out H1.out, by rw [H1.out.1.length_eq]; exact HL.out, H2.out, H3.out⟩
set_option maxHeartbeats 16000000 in
set_option maxRecDepth 100000 in
theorem list30a (w : World) (B b1 b2 : Nat) (vn vs : Value) (M : IpM) (hok : M.Ok) (hcnt : M.cnt ≤ 1024) (HS : IpS w B b1 b2 vn vs M) :
    Calls Try.prog 30 #[.pointer (some ⟨B, 0, none⟩)] w fun e w' => ∃ v l, e = .returned v ∧ KeysIn M.byA l ∧ l.length ≤ M.cnt ∧ w'.ownsRow w.heap.size 84 2 v l.length (podCells (listF M l)) ∧ Below w.heap.size w w' := by
  have k6 : w.cell? ⟨B, 6, none⟩ = some (.map (some b2)) := HS.cell 6
  have hk := keys51 w b2
  have hA1 : AM (w.alloc (.cells #[.map (some b2)] 74)) b2 M.byA M.cnt := (HS.below (below_alloc (Below.refl _ _) _)).m2
  have hs := Aside0.mk (sorted50a (w.alloc (.cells #[.map (some b2)] 74)) b2 w.heap.size M.cnt M.byA hA1 (by rw [World.size_alloc]; omega) (blk_cell (heap_alloc_new w _) 0) hcnt)
  have HSS := Aside0.mk HS
  have HOK := Aside0.mk hok
  clear HS hok hA1
  go_enter Try.func30, Try.ntmps30
  go_wp2_with (first | (go_at_call 51; refine hk.mono ?_; rintro e_ w1 ⟨rfl, rfl⟩) | (go_at_call 50; refine hs.out.mono ?_; rintro e_ w2 ⟨vk, l, rfl, hK, hlen, hrow, hb2⟩; obtain ⟨Ak, ck, rfl⟩ := own_slice hrow; have HB2 := Aside0.mk ((below_alloc (Below.refl _ w) _).trans (hb2.mono (by rw [World.size_alloc]; omega))); have HROW := Aside0.mk hrow; have HK := Aside0.mk hK; have HLEN := Aside0.mk hlen; clear hrow hb2 hK hlen) | go_in)
  have hlbig : l.length ≤ 1024 := Nat.le_trans HLEN.out hcnt
  clear hs hk k6
  generalize (w.alloc (Obj.cells #[Value.map (some b2)] 74)).heap.size = bs at HROW
  go_loopw [3, 13] (fun vl vi wr => ∃ (i : Nat), vi = .int .i64 i ∧ i ≤ l.length ∧ Aside0 (wr.ownsRow w.heap.size 84 2 vl i (podCells (listF M (l.take i)))) ∧ Aside0 (wr.ownsRow bs 23 1 (.slice Ak l.length ck) l.length (l.map encA)) ∧ Aside0 (Below w.heap.size w wr)) (fun _ vi _ => l.length - (intOf vi).toNat)
  case atStart => exact ⟨0, rfl, by omega, ⟨own_nil _ _ _ _⟩, HROW, HB2⟩
  case round =>
    clear HROW HB2
    obtain ⟨i, rfl, hi, HO, HR, HB⟩ := hrel
    by_cases hlt : i < l.length
    · have hli : (i : Int) < (l.length : Int) := by omega
      obtain ⟨gk, cap, e, _, _⟩ := HR.out.form (by omega)
      injection e with e1 e2 e3
      subst e1 e3
      clear e2
      have hc := row_atA HR.out i hlt
      have hts := listF_snoc M l i hlt
      have hmem : atA l i ∈ l := by simp only [atA, List.getD_eq_getElem?_getD, List.getElem?_eq_getElem hlt, Option.getD_some]; exact List.getElem_mem hlt
      obtain ⟨ha0, ha1, han⟩ := (HK.out.2 _).1 hmem
      have HTS := Aside0.mk hts
      clear hts hmem
      generalize listF M (l.take i) = li at *
      generalize atA l i = a at *
      obtain ⟨t, hbt⟩ := Option.ne_none_iff_exists'.1 han
      obtain ⟨ht0, ht1⟩ := HOK.out.at_ a t hbt
      have HS1 := Aside0.mk (HSS.out.below HB.out)
      obtain ⟨gn, cn, rfl, _, _⟩ := HS1.out.nm.form (by omega)
      have klk := (HS1.out.m2.step (w1 := wr.drew) rfl).look ha0 ha1 hbt
      have k6 : wr.cell? ⟨B, 6, none⟩ = some (.map (some b2)) := HS1.out.cell 6
      have k7 : wr.cell? ⟨B, 7, none⟩ = some (.slice (some ⟨gn, 0, none⟩) M.names.length cn) := HS1.out.cell 7
      have kt := name_at HS1.out.nm ht0 ht1
      have hpod : podF M a = (M.names.getD t.toNat ⟨#[]⟩, a) := by simp [podF, hbt]
      rw [hpod] at HTS
      generalize M.names.getD t.toNat ⟨#[]⟩ = nv at *
      obtain ⟨A3, c3, rfl⟩ := own_slice HO.out
      obtain ⟨v5, w5, r5, ho5, hg5⟩ := pods_app HO.out HB.out.size nv a (by omega)
      have R5 := Aside0.mk r5
      have HO5 := Aside0.mk ho5
      have HG5 := Aside0.mk hg5
      clear r5 ho5 hg5 hpod hbt
      go_wp2
      go_region_law (refine step_append_run rfl (.tmp 17) (.tmp 32) 45 rfl (by rfl) (by rfl) R5.out ?_)
      all_goals
        go_wp2
        have hne : some gk ≠ (Value.slice A3 i c3).ownBlock := fun e => by
          obtain ⟨x1, h1⟩ := own_typed HO.out _ e.symm
          obtain ⟨x2, h2⟩ := own_typed HR.out gk rfl
          rw [h1] at h2; cases h2
        exact ⟨⟨i + 1, by simp, by omega, ⟨by rw [HTS.out]; exact HO5.out⟩, ⟨row_step HR.out (fun k hk => by cases hk; exact HG5.out.block gk (HR.out.lt gk rfl).2 hne)⟩, ⟨HB.out.grown HG5.out HB.out.size (fun k e => (HO.out.lt k e).1)⟩⟩, by simp [intOf]; omega⟩
    · obtain rfl : i = l.length := by omega
      rw [List.take_length] at HO
      go_wp2
      go_ret
      exact ⟨_, l, rfl, HK.out, HLEN.out, HO.out, HB.out⟩
end Go.Proofs.Ytgabkifojnkbkaa.Ip
