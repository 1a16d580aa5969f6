/- What the program's two tables hold (the powers of ten of internal/strconv, the classes of addr), as a fact on a world; it outlives whatever is done in new memory. -/
import Derived.Test.YtncpcjphljfcpaaDoorShelf
import Derived.Test.YtncpcjphljfcpaaDoorWWords
import Derived.Lib.AppendIntMem
namespace Go.Proofs.YtncpcjphljfcpaaDoor
open Go.RowKit Go.Proofs.YtncpcjphljfcpaaDoorW.PrintWords

def clsCells : List Value := [.int .u32 0, .int .i64 8, .int .i64 1, .int .u32 2130706432, .int .i64 8, .int .i64 2, .int .u32 3758096384, .int .i64 4, .int .i64 3, .int .u32 4026531840, .int .i64 4, .int .i64 4]
/-- the table of classes: global 0 -/
def Cls (w : World) : Prop := ∃ (A : Addr) (c : Nat), w.cell? ⟨0, 0, none⟩ = some (.slice (some A) 4 c) ∧ ∀ i v, clsCells[i]? = some v → w.cell? (A.add i) = some v
def Pow (w : World) : Prop := Lib.TabIs Tryd.prog w "internal/strconv.uint64pow10" .u64 Lib.pow10Tab
theorem cell_lt {w : World} {a : Addr} {v : Value} (h : w.cell? a = some v) : a.block < w.heap.size := by
  unfold World.cell? at h
  rcases hh : w.heap[a.block]? with _ | o
  · rw [hh] at h; cases h
  · exact (Array.getElem?_eq_some_iff.mp hh).1
theorem Pow.on {w w' : World} (h : Pow w) (hb : Below w.heap.size w w') : Pow w' := (Lib.tabBelow_of_tabIs h) w' hb
theorem Cls.on {w w' : World} (h : Cls w) (hb : Below w.heap.size w w') : Cls w' := by
  obtain ⟨A, c, h2, h3⟩ := h
  refine ⟨A, c, ?_, fun i v hi => ?_⟩
  · rw [hb.cell (cell_lt h2)]; exact h2
  · have := h3 i v hi
    rw [hb.cell (cell_lt this)]; exact this
theorem Pow.drewN {w : World} (h : Pow w) (n : Nat) : Pow (w.drewN n) := h.on (pw_below_drewN (Below.refl _ _) n)
theorem Cls.drewN {w : World} (h : Cls w) (n : Nat) : Cls (w.drewN n) := h.on (pw_below_drewN (Below.refl _ _) n)
end Go.Proofs.YtncpcjphljfcpaaDoor
