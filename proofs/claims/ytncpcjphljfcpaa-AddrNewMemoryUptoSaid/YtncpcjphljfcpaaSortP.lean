/- sort.Slice as addr.Merge calls it, at every length under 2^62: the row holds the one rising permutation of what it held (by address, then by length). -/
import Derived.Test.YtncpcjphljfcpaaShelf
import Derived.Test.YtncpcjphljfcpaaWWords
import Derived.Deep.QuietTactic
import Derived.Lib.SortBridge
import Derived.Sort.LotA
import Derived.WalkKit
set_option linter.unusedSimpArgs false
set_option linter.unusedVariables false
set_option linter.unusedSectionVars false
namespace Go.Proofs.Ytncpcjphljfcpaa.SortP
open Go.Shelf Go.RowKit Go.Lib Go.Sort Go.Proofs

def encP (x : Int × Int) : List Value := [.int .u32 x.1, .int .i64 x.2]
def ltP (x y : Int × Int) : Bool := decide (x.1 < y.1 ∨ x.1 = y.1 ∧ x.2 < y.2)
theorem swo_ltP : SWO ltP := by
  refine ⟨?_, ?_, ?_⟩ <;> intros <;> simp only [ltP, decide_eq_false_iff_not, decide_eq_true_eq] at * <;> omega
noncomputable def spT : TypeInfo := (Try.prog.info? 25).get (by kernel_rfl)
noncomputable def spE : TypeInfo := (Try.prog.info? 32).get (by kernel_rfl)
theorem spK (n : Nat) (h2 : 2 ≤ n) : Lib.swapperK n spE 25 = 9 := by
  have a : spE.hasPointers = false := by kernel_rfl
  have b : spE.bytes = 16 := by kernel_rfl
  have c : (n == 0) = false := by simp; omega
  have d : (n == 1) = false := by simp; omega
  simp [Lib.swapperK, a, b, c, d]
set_option maxHeartbeats 2000000 in
/-- Merge's own closure. -/
theorem less (blk off c Bs size : Nat) (W : World) (G H : Nat → Int) (hs : W.cell? ⟨Bs, 0, none⟩ = some (.slice (some ⟨blk, off, none⟩) size c))
    (hc : ∀ t, t < size → W.cell? ⟨blk, off + t * 2, none⟩ = some (.int .u32 (G t))) (hd : ∀ t, t < size → W.cell? ⟨blk, off + t * 2 + 1, none⟩ = some (.int .i64 (H t))) (i j : Nat) (hi : i < size) (hj : j < size) (_hsz : size < 4611686018427387904) :
    Calls Try.prog 38 #[.int .i64 i, .int .i64 j, .pointer (some ⟨Bs, 0, none⟩)] W fun e w' => e = .returned (.bool (ltP (G i, H i) (G j, H j))) ∧ ∃ q, w' = W.drewN q := by
  have ci := hc i hi
  have cj := hc j hj
  have di := hd i hi
  have dj := hd j hj
  go_enter Try.func38, Try.ntmps38
  go_wp2
  by_cases h1 : G i < G j
  · have b1 : decide (G i < G j) = true := decide_eq_true h1
    go_quiet (fail)
    go_wp2
    go_ret
    exact ⟨by simp [ltP, h1], nq, rfl⟩
  · have b1 : decide (G i < G j) = false := decide_eq_false h1
    by_cases h2 : G i = G j
    · have b2 : (G i == G j) = true := by simp [h2]
      go_quiet (fail)
      go_wp2
      go_ret
      exact ⟨by simp [ltP, h2], nq, rfl⟩
    · have b2 : (G i == G j) = false := by simp [h2]
      go_quiet (fail)
      go_wp2
      go_ret
      exact ⟨by simp [ltP, h1, h2], nq, rfl⟩
theorem sort_call (blk off c Bs : Nat) (d : Array (Int × Int)) (h2 : 2 ≤ d.size) (hsz : d.size < 4611686018427387904) (w : World) (hH : HoldsK encP 2 w blk off d) (hblk : blk < w.heap.size)
    (hBs : w.cell? ⟨Bs, 0, none⟩ = some (.slice (some ⟨blk, off, none⟩) d.size c)) (hB1 : Bs < w.heap.size) (hB2 : Bs ≠ blk) :
    Calls Try.prog 37 #[.iface 25 (.slice (some ⟨blk, off, none⟩) d.size c), .func (.func 38) #[] #[.pointer (some ⟨Bs, 0, none⟩)]] w fun e w' =>
      e = .returned (.tuple #[]) ∧ ∃ d' n os, PermIn 0 d.size d d' ∧ SortedIn ltP 0 d.size d' ∧ w' = grow (putRowK encP 2 (Sort.ahead w n) blk off d') os := by
  have hless : LessReadsK Try.prog 38 #[.pointer (some ⟨Bs, 0, none⟩)] encP 2 ltP blk off d.size w := by
    intro m os dk hs i j hi hj
    have e : sortWorldK encP 2 w blk off m dk os = putRowK encP 2 (grow (Sort.ahead w m) os) blk off dk := by
      unfold sortWorldK; rw [putRowK_grow _ _ (Sort.ahead w m) _ blk off _ hblk]
    have hHg : HoldsK encP 2 (grow (Sort.ahead w m) os) blk off d := holdsK_grow _ _ _ _ blk off d hblk (holdsK_ahead _ _ _ _ _ _ _ hH)
    refine less blk off c Bs d.size _ (fun t => dk[t]!.1) (fun t => dk[t]!.2) ?_ (fun t ht => ?_) (fun t ht => ?_) i j hi hj (by omega)
    · rw [e, cell?_putRowK_other _ _ _ blk off dk _ (by exact hB2), cell?_grow _ _ _ (by exact hB1)]; exact hBs
    · rw [e]; exact ((holdsK_putRowK _ _ _ blk off d dk hHg hs).cell (i := t) (c := 0) (by omega) (by omega)).1
    · rw [e]; exact ((holdsK_putRowK _ _ _ blk off d dk hHg hs).cell (i := t) (c := 1) (by omega) (by omega)).1
  exact Any.sort_Slice_cells_sorted Try.laysGg6 25 32 spT spE (by kernel_rfl) (by kernel_rfl) (by kernel_rfl) (by kernel_rfl) 25 (fun _ => by kernel_rfl) encP 2 (fun _ => rfl) (by kernel_rfl) (fun _ => by kernel_rfl)
    (fun x v hv => by simp [encP] at hv; rcases hv with rfl | rfl <;> rfl) ltP swo_ltP 38 _
    (enters_of Try.func38 (by kernel_rfl) rfl) blk off c d h2 hsz 58 (by rw [spK _ h2]; kernel_rfl) false
    (fun args W => run_callFunc_extern Try.func58 (by kernel_rfl) (by kernel_rfl) (by kernel_rfl) (e := Extern.ReflectliteSwapper.swap false) (by kernel_rfl) args W) w hless hH hblk
/-- none or one: nothing that lay turns -/
theorem sort_tiny (p : Option Addr) (n c Bs : Nat) (h1 : n ≤ 1) (w : World) :
    Calls Try.prog 37 #[.iface 25 (.slice p n c), .func (.func 38) #[] #[.pointer (some ⟨Bs, 0, none⟩)]] w fun e w' => e = .returned (.tuple #[]) ∧ ∃ os, w' = grow w os := by
  have hK : Lib.swapperK n spE 25 = n + 1 := by
    rcases Nat.eq_zero_or_pos n with h | h
    · subst h; simp [Lib.swapperK]
    · obtain rfl : n = 1 := by omega
      simp [Lib.swapperK]
  exact Any.sort_Slice_tiny Try.laysGg6 25 32 spT spE (by kernel_rfl) (by kernel_rfl) (by kernel_rfl) (by kernel_rfl) 25 (fun _ => by kernel_rfl) p n c h1 (50 + n) (by
    rw [hK]
    rcases Nat.eq_zero_or_pos n with h | h
    · subst h; kernel_rfl
    · obtain rfl : n = 1 := by omega
      kernel_rfl) (.func 38) #[] #[.pointer (some ⟨Bs, 0, none⟩)] w
theorem flat_get : ∀ (xs : List (Int × Int)) (j : Nat), j < xs.length * 2 → (xs.flatMap encP)[j]? = some ((encP (xs.toArray[j / 2]!))[j % 2]!)
  | [], j, h => by simp at h
  | x :: r, j, h => by
    simp only [List.length_cons] at h
    rw [List.flatMap_cons]
    by_cases h0 : j < 2
    · rw [List.getElem?_append_left (by simp [encP]; omega)]
      have : j = 0 ∨ j = 1 := by omega
      rcases this with rfl | rfl <;> simp [encP]
    · obtain ⟨i, rfl⟩ : ∃ i, j = i + 2 := ⟨j - 2, by omega⟩
      rw [List.getElem?_append_right (by simp [encP])]
      have := flat_get r i (by omega)
      rw [show i + 2 - (encP x).length = i from by simp [encP], this, show (i + 2) / 2 = i / 2 + 1 from by omega, show (i + 2) % 2 = i % 2 from by omega]
      congr 2
      simp [getElem!_def]
theorem flat_len (xs : List (Int × Int)) : (xs.flatMap encP).length = xs.length * 2 := by
  induction xs with
  | nil => rfl
  | cons x r ih => rw [List.flatMap_cons, List.length_append, ih]; simp [encP]; omega
def srt (xs : List (Int × Int)) : List (Int × Int) := xs.mergeSort fun x y => !ltP y x
theorem srt_len (xs : List (Int × Int)) : (srt xs).length = xs.length := by simp [srt]
theorem srt_small {xs : List (Int × Int)} (h : xs.length ≤ 1) : srt xs = xs := by
  match xs, h with
  | [], _ => simp [srt]
  | [x], _ => simp [srt]
theorem srt_of {d d' : Array (Int × Int)} (hp : PermIn 0 d.size d d') (hs : SortedIn ltP 0 d.size d') : d'.toList = srt d.toList :=
  sorted_unique_holds (lt := ltP) swo_ltP (fun x y h1 h2 => by
    simp only [ltP, decide_eq_false_iff_not] at h1 h2
    exact Prod.ext (by omega) (by omega)) d d' hp hs
theorem own_at {w : World} {base e n cap g : Nat} {xs : List (Int × Int)} (h : w.ownsRow base e 2 (.slice (some ⟨g, 0, none⟩) n cap) n (xs.flatMap encP)) :
    ∃ cur : Array Value, xs.length = n ∧ base ≤ g ∧ w.heap[g]? = some (.cells cur e (0, 0)) ∧ n ≤ cap ∧ cap ≤ maxLen ∧ cur.size = cap * 2 ∧ cur.toList.take (n * 2) = xs.flatMap encP := by
  obtain ⟨hl, h⟩ := h
  rw [flat_len] at hl
  rcases h with ⟨e0, _⟩ | ⟨g', cap', cur, e0, hb, hg, hn, hm, hs, ht⟩
  · cases e0
  · injection e0 with e1 _ e3
    injection e1 with e1
    injection e1 with e1
    subst e1; subst e3
    exact ⟨cur, by omega, hb, hg, hn, hm, hs, ht⟩
theorem holds_of_own {w : World} {base e n cap g : Nat} {xs : List (Int × Int)} (h : w.ownsRow base e 2 (.slice (some ⟨g, 0, none⟩) n cap) n (xs.flatMap encP)) : HoldsK encP 2 w g 0 xs.toArray := by
  obtain ⟨cur, hn, _, hg, hc, _, hs, ht⟩ := own_at h
  intro j hj
  have hj' : j < xs.length * 2 := by simpa using hj
  have hc1 : cur[j]? = some ((encP (xs.toArray[j / 2]!))[j % 2]!) := by
    have h1 := flat_get xs j hj'
    rw [← ht, List.getElem?_take, if_pos (by omega)] at h1
    simpa using h1
  rw [Nat.zero_add]
  refine ⟨?_, ?_⟩
  · unfold World.cell?
    rw [hg]
    simp only [id]
    rw [get_flatK _ _ _ _ (by simpa using hj')]
    exact hc1
  · unfold World.frozen?
    rw [hg]
    simp
theorem own_put {w : World} {base e n cap g q : Nat} {xs ys : List (Int × Int)} (h : w.ownsRow base e 2 (.slice (some ⟨g, 0, none⟩) n cap) n (xs.flatMap encP)) (hy : ys.length = n) (os : Array Obj) :
    (grow (putRowK encP 2 (Sort.ahead w q) g 0 ys.toArray) os).ownsRow base e 2 (.slice (some ⟨g, 0, none⟩) n cap) n (ys.flatMap encP) := by
  obtain ⟨cur, hn, hb, hg, hc, hm, hs, ht⟩ := own_at h
  have hlt : g < w.heap.size := (Array.getElem?_eq_some_iff.mp hg).1
  refine ⟨by rw [flat_len, hy], .inr ⟨g, cap, putCells id 0 (flatK encP 2 ys.toArray) cur, rfl, hb, ?_, hc, hm, by simpa [putCells] using hs, ?_⟩⟩
  · have : (putRowK encP 2 (Sort.ahead w q) g 0 ys.toArray).heap[g]? = some (.cells (putCells id 0 (flatK encP 2 ys.toArray) cur) e (0, 0)) := by
      simp [putRowK, putRow, mapBlock, Sort.ahead, Array.getElem?_modify, hg, onCells]
    have hsz : g < (putRowK encP 2 (Sort.ahead w q) g 0 ys.toArray).heap.size := (Array.getElem?_eq_some_iff.mp this).1
    show ((putRowK encP 2 (Sort.ahead w q) g 0 ys.toArray).heap ++ os)[g]? = _
    rw [Array.getElem?_append_left hsz]
    exact this
  · apply List.ext_getElem?
    intro j
    rw [List.getElem?_take, Array.getElem?_toList]
    by_cases hj : j < n * 2
    · have hjc : j < cur.size := by rw [hs]; have := Nat.mul_le_mul_right 2 hc; omega
      rw [if_pos hj, flat_get ys j (by omega)]
      simp only [putCells, Array.getElem?_mapIdx, Array.getElem?_eq_getElem hjc, Option.map_some]
      rw [if_pos ⟨Nat.zero_le _, by simp; omega⟩, Nat.sub_zero, get_flatK _ _ _ _ (by simp; omega)]
      rfl
    · rw [if_neg hj, List.getElem?_eq_none (by rw [flat_len]; omega)]
/-- The call, over a row of the caller's own. -/
theorem sort_own {w : World} {base n cap g Bs : Nat} {xs : List (Int × Int)} (h : w.ownsRow base 32 2 (.slice (some ⟨g, 0, none⟩) n cap) n (xs.flatMap encP)) (hn : n < 4611686018427387904)
    (hBs : w.cell? ⟨Bs, 0, none⟩ = some (.slice (some ⟨g, 0, none⟩) n cap)) (hB1 : Bs < w.heap.size) (hB2 : Bs ≠ g) :
    Calls Try.prog 37 #[.iface 25 (.slice (some ⟨g, 0, none⟩) n cap), .func (.func 38) #[] #[.pointer (some ⟨Bs, 0, none⟩)]] w fun e w' =>
      e = .returned (.tuple #[]) ∧ w'.ownsRow base 32 2 (.slice (some ⟨g, 0, none⟩) n cap) n ((srt xs).flatMap encP) ∧ (∀ b, b < w.heap.size → b ≠ g → w'.heap[b]? = w.heap[b]?) ∧ Below base w w' := by
  obtain ⟨cur, hln, hb, hg, hc, hm, hs, ht⟩ := own_at h
  have hlt : g < w.heap.size := (Array.getElem?_eq_some_iff.mp hg).1
  by_cases h2 : 2 ≤ n
  · have hcall := sort_call g 0 cap Bs xs.toArray (by simpa [hln] using h2) (by simpa [hln] using hn) w (holds_of_own h) hlt (by simpa [hln] using hBs) hB1 hB2
    rw [show xs.toArray.size = n from by simpa using hln] at hcall
    refine hcall.mono ?_
    rintro e w' ⟨rfl, d', q, os, hp, hso, rfl⟩
    have hd : d' = (srt xs).toArray := by
      have := srt_of (d := xs.toArray) (d' := d') (by simpa [hln] using hp) (by simpa [hln] using hso)
      rw [← this]
    subst hd
    have hsz0 : (putRowK encP 2 (Sort.ahead w q) g 0 (srt xs).toArray).heap.size = w.heap.size := by rw [size_putRowK]; rfl
    have hblk : ∀ b, b < w.heap.size → b ≠ g → (grow (putRowK encP 2 (Sort.ahead w q) g 0 (srt xs).toArray) os).heap[b]? = w.heap[b]? := by
      intro b hbl hbg
      show ((putRowK encP 2 (Sort.ahead w q) g 0 (srt xs).toArray).heap ++ os)[b]? = _
      rw [Array.getElem?_append_left (by rw [hsz0]; exact hbl)]
      simp [putRowK, putRow, mapBlock, Sort.ahead, Array.getElem?_modify, Ne.symm hbg]
    refine ⟨rfl, own_put h (by rw [srt_len, hln]) os, hblk, ⟨rfl, rfl, rfl, ?_, fun b hbb => hblk b (by omega) (by omega)⟩⟩
    show w.heap.size ≤ ((putRowK encP 2 (Sort.ahead w q) g 0 (srt xs).toArray).heap ++ os).size
    rw [Array.size_append, hsz0]; omega
  · have hcall := sort_tiny (some ⟨g, 0, none⟩) n cap Bs (by omega) w
    refine hcall.mono ?_
    rintro e w' ⟨rfl, os, rfl⟩
    have hblk : ∀ b, b < w.heap.size → (grow w os).heap[b]? = w.heap[b]? := by
      intro b hbl
      show (w.heap ++ os)[b]? = _
      rw [Array.getElem?_append_left hbl]
    rw [srt_small (by omega)]
    refine ⟨rfl, ⟨h.1, .inr ⟨g, cap, cur, rfl, hb, by rw [hblk g hlt]; exact hg, hc, hm, hs, ht⟩⟩, fun b hbl _ => hblk b hbl, ⟨rfl, rfl, rfl, ?_, fun b hbb => hblk b (by omega)⟩⟩
    show w.heap.size ≤ (w.heap ++ os).size
    rw [Array.size_append]; omega
end Go.Proofs.Ytncpcjphljfcpaa.SortP
