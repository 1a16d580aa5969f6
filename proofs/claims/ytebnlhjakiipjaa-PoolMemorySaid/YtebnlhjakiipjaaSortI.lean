/- sort.Slice as package pool's New calls it, at every length under 2^62: the row of numbers holds the one rising permutation of what it held. -/
import Derived.Test.YtebnlhjakiipjaaShelf
import Derived.Test.YtebnlhjakiipjaaWWords
import Derived.Deep.QuietTactic
import Derived.Lib.SortBridge
import Derived.Sort.LotA
import Derived.Sort.OwnSortedInts
import Derived.Shelf.GgSortFunc.Whole
import Derived.WalkKit
set_option linter.unusedSimpArgs false
set_option linter.unusedVariables false
set_option linter.unusedSectionVars false
namespace Go.Proofs.Ytebnlhjakiipjaa.SortI
open Go.Shelf Go.RowKit Go.Lib Go.Sort Go.Proofs
def ltI (x y : Int) : Bool := decide (x < y)
theorem swo_ltI : SWO ltI := by
  refine ⟨?_, ?_, ?_⟩ <;> intros <;> simp only [ltI, decide_eq_false_iff_not, decide_eq_true_eq] at * <;> omega
noncomputable def spT : TypeInfo := (Try.prog.info? 63).get (by kernel_rfl)
noncomputable def spE : TypeInfo := (Try.prog.info? 2).get (by kernel_rfl)
theorem spK (n : Nat) (h2 : 2 ≤ n) : Lib.swapperK n spE 6 = 5 := by
  have a : spE.hasPointers = false := by kernel_rfl
  have b : spE.bytes = 8 := by kernel_rfl
  have c : (n == 0) = false := by simp; omega
  have d : (n == 1) = false := by simp; omega
  simp [Lib.swapperK, a, b, c, d]
set_option maxHeartbeats 2000000 in
/-- New's own closure. -/
theorem less (blk off c Ps b size : Nat) (W : World) (G : Nat → Int) (hp : W.cell? ⟨Ps, 0, none⟩ = some (.pointer (some ⟨b, 0, none⟩))) (hs : W.cell? ⟨b, 5, none⟩ = some (.slice (some ⟨blk, off, none⟩) size c))
    (hc : ∀ t, t < size → W.cell? ⟨blk, off + t, none⟩ = some (.int .i64 (G t))) (i j : Nat) (hi : i < size) (hj : j < size) (_hsz : size < 4611686018427387904) :
    Calls Try.prog 32 #[.int .i64 i, .int .i64 j, .pointer (some ⟨Ps, 0, none⟩)] W fun e w' => e = .returned (.bool (ltI (G i) (G j))) ∧ ∃ q, w' = W.drewN q := by
  have ci := hc i hi
  have cj := hc j hj
  have hii : (i : Int) < (size : Int) := by omega
  have hjj : (j : Int) < (size : Int) := by omega
  unfold ltI
  generalize G i = x at *
  generalize G j = y at *
  clear hc
  go_enter Try.func32, Try.ntmps32
  go_wp2
  go_quiet (fail)
  go_wp2
  go_ret
  exact ⟨rfl, nq, rfl⟩
theorem sort_call (blk off c Ps b : Nat) (d : Array Int) (h2 : 2 ≤ d.size) (hsz : d.size < 4611686018427387904) (w : World) (hH : Holds (Value.int .i64) w blk off d) (hblk : blk < w.heap.size)
    (hp : w.cell? ⟨Ps, 0, none⟩ = some (.pointer (some ⟨b, 0, none⟩))) (hs : w.cell? ⟨b, 5, none⟩ = some (.slice (some ⟨blk, off, none⟩) d.size c)) (hP1 : Ps < w.heap.size) (hP2 : Ps ≠ blk) (hb1 : b < w.heap.size) (hb2 : b ≠ blk) :
    Calls Try.prog 31 #[.iface 63 (.slice (some ⟨blk, off, none⟩) d.size c), .func (.func 32) #[] #[.pointer (some ⟨Ps, 0, none⟩)]] w fun e w' =>
      e = .returned (.tuple #[]) ∧ ∃ d' n os, PermIn 0 d.size d d' ∧ SortedIn ltI 0 d.size d' ∧ w' = grow (putRow (Value.int .i64) (Sort.ahead w n) blk off d') os := by
  have hless : LessReads Try.prog 32 #[.pointer (some ⟨Ps, 0, none⟩)] (Value.int .i64) ltI blk off d.size w := by
    intro m os dk hsk i j hi hj
    have e : sortWorld (Value.int .i64) w blk off m dk os = putRow (Value.int .i64) (grow (Sort.ahead w m) os) blk off dk := by
      unfold sortWorld; rw [putRow_grow _ (Sort.ahead w m) _ blk off _ hblk]
    have hHg : Holds (Value.int .i64) (grow (Sort.ahead w m) os) blk off d := holds_grow _ _ _ blk off d hblk (holds_ahead _ _ _ _ _ _ hH)
    refine less blk off c Ps b d.size _ (fun t => dk[t]!) ?_ ?_ (fun t ht => ?_) i j hi hj (by omega)
    · rw [e, cell?_putRow_other _ _ blk off dk _ (.inl hP2), cell?_grow _ _ _ (by exact hP1)]; exact hp
    · rw [e, cell?_putRow_other _ _ blk off dk _ (.inl hb2), cell?_grow _ _ _ (by exact hb1)]; exact hs
    · rw [e]; exact cell?_putRow _ _ blk off d dk hHg hsk t (by omega)
  exact Any.sort_Slice_sorted Try.laysGg6 63 2 spT spE (by kernel_rfl) (by kernel_rfl) (by kernel_rfl) (by kernel_rfl) 6 (fun _ => by kernel_rfl) (by kernel_rfl) (fun _ => by kernel_rfl) (Value.int .i64) (fun _ => rfl)
    ltI swo_ltI 32 _
    (enters_of Try.func32 (by kernel_rfl) rfl) blk off c d h2 hsz 63 (by rw [spK _ h2]; kernel_rfl) true
    (fun args W => run_callFunc_extern Try.func63 (by kernel_rfl) (by kernel_rfl) (by kernel_rfl) (e := Extern.ReflectliteSwapper.swap true) (by kernel_rfl) args W) w hless hH hblk
/-- none or one: nothing that lay turns -/
theorem sort_tiny (p : Option Addr) (n c Ps : Nat) (h1 : n ≤ 1) (w : World) :
    Calls Try.prog 31 #[.iface 63 (.slice p n c), .func (.func 32) #[] #[.pointer (some ⟨Ps, 0, none⟩)]] w fun e w' => e = .returned (.tuple #[]) ∧ ∃ os, w' = grow w os := by
  have hK : Lib.swapperK n spE 6 = n + 1 := by
    rcases Nat.eq_zero_or_pos n with h | h
    · subst h; simp [Lib.swapperK]
    · obtain rfl : n = 1 := by omega
      simp [Lib.swapperK]
  exact Any.sort_Slice_tiny Try.laysGg6 63 2 spT spE (by kernel_rfl) (by kernel_rfl) (by kernel_rfl) (by kernel_rfl) 6 (fun _ => by kernel_rfl) p n c h1 (59 + n) (by
    rw [hK]
    rcases Nat.eq_zero_or_pos n with h | h
    · subst h; kernel_rfl
    · obtain rfl : n = 1 := by omega
      kernel_rfl) (.func 32) #[] #[.pointer (some ⟨Ps, 0, none⟩)] w
def srt (xs : List Int) : List Int := xs.mergeSort fun x y => !ltI y x
theorem srt_len (xs : List Int) : (srt xs).length = xs.length := by simp [srt]
theorem srt_small {xs : List Int} (h : xs.length ≤ 1) : srt xs = xs := by
  match xs, h with
  | [], _ => simp [srt]
  | [x], _ => simp [srt]
theorem srt_of {d d' : Array Int} (hp : PermIn 0 d.size d d') (hs : SortedIn ltI 0 d.size d') : d'.toList = srt d.toList :=
  sorted_unique_holds (lt := ltI) swo_ltI (fun x y h1 h2 => by
    simp only [ltI, decide_eq_false_iff_not] at h1 h2
    omega) d d' hp hs
theorem srt_mem (xs : List Int) (x : Int) : x ∈ srt xs ↔ x ∈ xs := by unfold srt; exact (List.mergeSort_perm xs _).mem_iff
theorem srt_rise {xs : List Int} (h : xs.Nodup) : (srt xs).Pairwise (· < ·) := by
  have h1 : (srt xs).Pairwise (fun a b => (!ltI b a) = true) := List.pairwise_mergeSort (fun a b c h1 h2 => by simp only [ltI, Bool.not_eq_true', decide_eq_false_iff_not] at *; omega) (fun a b => by simp only [ltI, Bool.or_eq_true, Bool.not_eq_true', decide_eq_false_iff_not]; omega) xs
  have h2 : (srt xs).Nodup := (List.mergeSort_perm xs _).nodup_iff.2 h
  exact (h1.and h2).imp (fun {a b} h => by
    have h3 := h.1
    have h4 := h.2
    simp only [ltI, Bool.not_eq_true', decide_eq_false_iff_not] at h3
    omega)
/-- The call, over a row of the caller's own. -/
theorem sort_own {w : World} {base n cap g Ps b : Nat} {xs : List Int} (h : w.ownsRow base 2 1 (.slice (some ⟨g, 0, none⟩) n cap) n (xs.map (Value.int .i64))) (hn : n < 4611686018427387904)
    (hp : w.cell? ⟨Ps, 0, none⟩ = some (.pointer (some ⟨b, 0, none⟩))) (hs : w.cell? ⟨b, 5, none⟩ = some (.slice (some ⟨g, 0, none⟩) n cap)) (hP1 : Ps < w.heap.size) (hP2 : Ps ≠ g) (hb1 : b < w.heap.size) (hb2 : b ≠ g) :
    Calls Try.prog 31 #[.iface 63 (.slice (some ⟨g, 0, none⟩) n cap), .func (.func 32) #[] #[.pointer (some ⟨Ps, 0, none⟩)]] w fun e w' =>
      e = .returned (.tuple #[]) ∧ w'.ownsRow base 2 1 (.slice (some ⟨g, 0, none⟩) n cap) n ((srt xs).map (Value.int .i64)) ∧ w.grownBy w' (some g) := by
  rcases h.2 with ⟨e0, _⟩ | ⟨g', cap', cur, e0, hb, hg, hc, hm, hz, ht⟩
  · cases e0
  injection e0 with e1 _ e3
  injection e1 with e1
  injection e1 with e1
  subst e1; subst e3
  have hln : xs.length = n := by have := h.1; rw [List.length_map] at this; omega
  subst hln
  have hlt : g < w.heap.size := (Array.getElem?_eq_some_iff.mp hg).1
  by_cases h2 : 2 ≤ xs.length
  · have hH : Holds (Value.int .i64) w g 0 xs.toArray := holds_of_blockI hg (by rw [← ht, Nat.mul_one])
    have hcall := sort_call g 0 cap Ps b xs.toArray (by simpa using h2) (by simpa using hn) w hH hlt hp (by simpa using hs) hP1 hP2 hb1 hb2
    rw [show xs.toArray.size = xs.length from by simp] at hcall
    refine hcall.mono ?_
    rintro e w' ⟨rfl, d', q, os, hp, hso, rfl⟩
    have hd : d' = (srt xs).toArray := by
      have := srt_of (d := xs.toArray) (d' := d') (by simpa using hp) (by simpa using hso)
      rw [← this]
    subst hd
    exact ⟨rfl, ownsRow_sortedI (srt_len xs) hb hg hc hm hz, grownBy_sortedI _⟩
  · have hcall := sort_tiny (some ⟨g, 0, none⟩) xs.length cap Ps (by omega) w
    refine hcall.mono ?_
    rintro e w' ⟨rfl, os, rfl⟩
    have hblk : ∀ b, b < w.heap.size → (grow w os).heap[b]? = w.heap[b]? := by
      intro b hbl
      show (w.heap ++ os)[b]? = _
      rw [Array.getElem?_append_left hbl]
    rw [srt_small (by omega)]
    refine ⟨rfl, ⟨h.1, .inr ⟨g, cap, cur, rfl, hb, by rw [hblk g hlt]; exact hg, hc, hm, hz, ht⟩⟩, ⟨rfl, rfl, rfl, ?_, fun b hbb _ => hblk b hbb⟩⟩
    show w.heap.size ≤ (w.heap ++ os).size
    rw [Array.size_append]; omega
end Go.Proofs.Ytebnlhjakiipjaa.SortI
