/- The state of package ipam in memory: a struct, two maps, two rows; what stays when something else is written. Words and small lemmas; no condition. -/
import Derived.Test.YtgabkifojnkbkaaPIpfx
import Derived.Maps.OwnSet
import Derived.Maps.RangeWalk
import Derived.Maps.Ext
import Derived.StringKeys
set_option linter.unusedVariables false
set_option linter.unusedSimpArgs false
namespace Go.Proofs.Ytgabkifojnkbkaa.Ip
open Go.RowKit Go.Maps Go.Proofs.YtgabkifojnkbkaaW.PrintWords
open Go.WideElems (Fit rd rg pl rd_val elemAt)

/-- nothing that was there has turned but blocks of F -/
structure Turn (w w' : World) (F : List Nat) : Prop where
  os : w'.os = w.os
  tape : w'.tape = w.tape
  output : w'.output = w.output
  size : w.heap.size ≤ w'.heap.size
  block : ∀ k, k < w.heap.size → k ∉ F → w'.heap[k]? = w.heap[k]?
section
variable {w w1 w2 : World} {F : List Nat}
theorem Turn.refl (w : World) (F : List Nat) : Turn w w F := ⟨rfl, rfl, rfl, Nat.le_refl _, fun _ _ _ => rfl⟩
theorem Turn.trans {G : List Nat} (h : Turn w w1 F) (k : Turn w1 w2 G) (hG : ∀ b, b ∈ G → b ∈ F ∨ w.heap.size ≤ b) : Turn w w2 F :=
  ⟨k.os.trans h.os, k.tape.trans h.tape, k.output.trans h.output, Nat.le_trans h.size k.size, fun i hi hF => (k.block i (Nat.lt_of_lt_of_le hi h.size) (fun hg => by
    rcases hG i hg with h1 | h1
    · exact hF h1
    · omega)).trans (h.block i hi hF)⟩
theorem Turn.mono {G : List Nat} (h : Turn w w1 F) (hG : ∀ b, b ∈ F → b ∈ G) : Turn w w1 G := ⟨h.os, h.tape, h.output, h.size, fun i hi hF => h.block i hi (fun hf => hF (hG i hf))⟩
theorem Turn.of_below (h : Below w.heap.size w w1) (F : List Nat) : Turn w w1 F := ⟨h.os, h.tape, h.output, h.size, fun i hi _ => h.block i hi⟩
theorem Turn.below {B : Nat} (h : Turn w w1 F) (hB : B ≤ w.heap.size) (hF : ∀ b, b ∈ F → B ≤ b) : Below B w w1 := ⟨h.os, h.tape, h.output, h.size, fun i hi => h.block i (by omega) (fun hf => by have := hF i hf; omega)⟩
theorem Turn.of_grown {row : Option Nat} (h : w.grownBy w1 row) (hF : ∀ b, row = some b → b ∈ F) : Turn w w1 F := ⟨h.os, h.tape, h.output, h.size, fun i hi hf => h.block i hi (fun e => hf (hF i e.symm))⟩
theorem Turn.drewN (h : Turn w w1 F) (n : Nat) : Turn w (w1.drewN n) F := ⟨h.os, h.tape, h.output, h.size, h.block⟩
theorem Turn.drew (h : Turn w w1 F) : Turn w w1.drew F := ⟨h.os, h.tape, h.output, h.size, h.block⟩
theorem Turn.alloc (h : Turn w w1 F) (o : Obj) : Turn w (w1.alloc o) F := h.trans (Turn.of_below (below_alloc (Below.refl _ _) o) []) (fun b hb => by cases hb)
theorem Turn.grown {row : Option Nat} (h : Turn w w1 F) (k : w1.grownBy w2 row) (hF : ∀ b, row = some b → b ∈ F ∨ w.heap.size ≤ b) : Turn w w2 F :=
  h.trans (G := row.toList) (Turn.of_grown k (fun b e => by simp [e])) (fun b hb => hF b (by simpa using hb))
theorem Turn.set (h : Turn w w1 F) {p : Addr} (hp : p.block ∈ F ∨ w.heap.size ≤ p.block) (u : Value) : Turn w (w1.setCell p u) F := by
  refine ⟨h.os, h.tape, h.output, by have := h.size; simpa [World.setCell] using this, fun i hi hf => (Below.heap_setCell w1 p u i (fun e => ?_)).trans (h.block i hi hf)⟩
  subst e
  rcases hp with hp | hp
  · exact hf hp
  · omega
end

theorem lawS : Keyed Try.prog 9 := string_keyed Try.underlying9
theorem lawA : Keyed Try.prog 23 := int_keyed Try.underlying23
theorem zero23 (w : World) : (zeroValue 23).run Try.prog w = .ok (.int .u32 0) w := by kernel_rfl
theorem zero3 (w : World) : (zeroValue 3).run Try.prog w = .ok (.int .i64 0) w := by kernel_rfl

/-- a map by names reads as f, of n entries -/
def NM (w : World) (b : Nat) (f : ByteArray → Option Int) (n : Nat) : Prop :=
  ∃ D : DataW Unit, w.ownsMap Try.prog 9 (plainElem Try.prog 23) b n D ∧ Maps.size D = n ∧ ∀ s : ByteArray, s.size ≤ maxLen → (f s = none → Maps.has D (.string s.data.toList) = false) ∧ (∀ a, f s = some a → Maps.has D (.string s.data.toList) = true ∧ ∀ z, D.atKey (.string s.data.toList) z = .lit (.int .u32 a))
/-- a map by addresses reads as f, of n entries -/
def AM (w : World) (b : Nat) (f : Int → Option Int) (n : Nat) : Prop :=
  ∃ D : DataW Unit, w.ownsMap Try.prog 23 (plainElem Try.prog 3) b n D ∧ Maps.size D = n ∧ ∀ a : Int, (Lit.int .u32 a).wf = true → (f a = none → Maps.has D (.int .u32 a) = false) ∧ (∀ t, f a = some t → Maps.has D (.int .u32 a) = true ∧ ∀ z, D.atKey (.int .u32 a) z = .lit (.int .i64 t))

/-- the bound may be told as the size -/
theorem ownsMap_tight {P : Program} {k : TypeId} {R : Value → Option (DataW Unit × List MemPlace)} {w : World} {b n : Nat} {D : DataW Unit} (h : w.ownsMap P k R b n D) : w.ownsMap P k R b (Maps.size D) D := by
  obtain ⟨es, clock, hb, F, hs, rfl⟩ := h
  exact ⟨es, clock, hb, F, by rw [Maps.size_eq, length_read]; exact Nat.le_refl _, rfl⟩

structure IpM where
  base : Int
  len : Int
  first : Int
  last : Int
  given : Int
  byN : ByteArray → Option Int
  byA : Int → Option Int
  cnt : Nat
  names : List ByteArray
  spare : List Int

structure IpM.Ok (M : IpM) : Prop where
  sp : ∀ x, x ∈ M.spare → 0 ≤ x ∧ x < M.names.length
  na : ∀ s a, M.byN s = some a → 0 ≤ a ∧ a < 4294967296 ∧ ∃ t, M.byA a = some t
  at_ : ∀ a t, M.byA a = some t → 0 ≤ t ∧ t < M.names.length
  sum : M.cnt + M.spare.length = M.names.length
  lim : M.names.length ≤ 1024

/-- the struct's cells -/
def IpCells (M : IpM) (b1 b2 : Nat) (vn vs : Value) : Array Value := #[.int .u32 M.base, .int .i64 M.len, .int .u32 M.first, .int .u32 M.last, .int .u32 M.given, .map (some b1), .map (some b2), vn, vs]

structure IpS (w : World) (B b1 b2 : Nat) (vn vs : Value) (M : IpM) : Prop where
  blk : w.heap[B]? = some (.cells (IpCells M b1 b2 vn vs) 77 (0, 0))
  m1 : NM w b1 M.byN M.cnt
  m2 : AM w b2 M.byA M.cnt
  ne : b1 ≠ b2
  nm : w.ownsRow 0 9 1 vn M.names.length (M.names.map Value.string)
  sp : w.ownsRow 0 3 1 vs M.spare.length (M.spare.map (Value.int .i64))

def IpF (B b1 b2 : Nat) (vn vs : Value) : List Nat := B :: b1 :: b2 :: (vn.ownBlock.toList ++ vs.ownBlock.toList)

theorem NM.step {w w1 : World} {b n : Nat} {f : ByteArray → Option Int} (h : NM w b f n) (hb : w1.heap[b]? = w.heap[b]?) : NM w1 b f n := by
  obtain ⟨D, ⟨es, clock, hh, r⟩, h2, h3⟩ := h
  exact ⟨D, ⟨es, clock, hb.trans hh, r⟩, h2, h3⟩
theorem AM.step {w w1 : World} {b n : Nat} {f : Int → Option Int} (h : AM w b f n) (hb : w1.heap[b]? = w.heap[b]?) : AM w1 b f n := by
  obtain ⟨D, ⟨es, clock, hh, r⟩, h2, h3⟩ := h
  exact ⟨D, ⟨es, clock, hb.trans hh, r⟩, h2, h3⟩
theorem NM.map {w : World} {b n : Nat} {f : ByteArray → Option Int} (h : NM w b f n) : ∃ es clock, w.heap[b]? = some (.map es clock) := by
  obtain ⟨D, ⟨es, clock, hh, r⟩, h2, h3⟩ := h
  exact ⟨es, clock, hh⟩
theorem AM.map {w : World} {b n : Nat} {f : Int → Option Int} (h : AM w b f n) : ∃ es clock, w.heap[b]? = some (.map es clock) := by
  obtain ⟨D, ⟨es, clock, hh, r⟩, h2, h3⟩ := h
  exact ⟨es, clock, hh⟩
theorem row_step {w w1 : World} {base e size n : Nat} {v : Value} {xs : List Value} (h : w.ownsRow base e size v n xs) (hb : ∀ k, v.ownBlock = some k → w1.heap[k]? = w.heap[k]?) : w1.ownsRow base e size v n xs := own_move h hb

section
variable {w w1 : World} {B b1 b2 : Nat} {vn vs : Value} {M : IpM} {F : List Nat}
theorem IpS.lt (h : IpS w B b1 b2 vn vs M) : ∀ b, b ∈ IpF B b1 b2 vn vs → b < w.heap.size := by
  intro b hb
  simp only [IpF, List.mem_cons, List.mem_append, Option.mem_toList, Option.mem_def] at hb
  rcases hb with rfl | rfl | rfl | hb | hb
  · exact blk_lt h.blk
  · obtain ⟨_, _, hh⟩ := h.m1.map; exact blk_lt hh
  · obtain ⟨_, _, hh⟩ := h.m2.map; exact blk_lt hh
  · exact (h.nm.lt b hb).2
  · exact (h.sp.lt b hb).2
theorem IpS.step (h : IpS w B b1 b2 vn vs M) (hb : ∀ b, b ∈ IpF B b1 b2 vn vs → w1.heap[b]? = w.heap[b]?) : IpS w1 B b1 b2 vn vs M :=
  ⟨(hb B (by simp [IpF])).trans h.blk, h.m1.step (hb b1 (by simp [IpF])), h.m2.step (hb b2 (by simp [IpF])), h.ne, row_step h.nm (fun k hk => hb k (by simp [IpF, hk])), row_step h.sp (fun k hk => hb k (by simp [IpF, hk]))⟩
theorem IpS.turn (h : IpS w B b1 b2 vn vs M) (ht : Turn w w1 F) (hF : ∀ b, b ∈ IpF B b1 b2 vn vs → b ∉ F) : IpS w1 B b1 b2 vn vs M :=
  h.step fun b hb => ht.block b (h.lt b hb) (hF b hb)
theorem IpS.drewN (h : IpS w B b1 b2 vn vs M) (n : Nat) : IpS (w.drewN n) B b1 b2 vn vs M := h.step fun _ _ => rfl
theorem IpS.below (h : IpS w B b1 b2 vn vs M) (hb : Below w.heap.size w w1) : IpS w1 B b1 b2 vn vs M := h.step fun b hb' => hb.block b (h.lt b hb')
theorem IpS.cell (h : IpS w B b1 b2 vn vs M) (i : Nat) : w.cell? ⟨B, i, none⟩ = (IpCells M b1 b2 vn vs)[i]? := blk_cell h.blk i
/-- all blocks of the state are different ones -/
theorem IpS.ne_nm (h : IpS w B b1 b2 vn vs M) : some B ≠ vn.ownBlock ∧ some b1 ≠ vn.ownBlock ∧ some b2 ≠ vn.ownBlock := by
  obtain ⟨_, _, h1⟩ := h.m1.map
  obtain ⟨_, _, h2⟩ := h.m2.map
  refine ⟨fun e => ?_, fun e => ?_, fun e => ?_⟩
  all_goals obtain ⟨cells, hc⟩ := own_typed h.nm _ e.symm
  · rw [h.blk] at hc; cases hc
  · rw [h1] at hc; cases hc
  · rw [h2] at hc; cases hc
theorem IpS.ne_sp (h : IpS w B b1 b2 vn vs M) : some B ≠ vs.ownBlock ∧ some b1 ≠ vs.ownBlock ∧ some b2 ≠ vs.ownBlock := by
  obtain ⟨_, _, h1⟩ := h.m1.map
  obtain ⟨_, _, h2⟩ := h.m2.map
  refine ⟨fun e => ?_, fun e => ?_, fun e => ?_⟩
  all_goals obtain ⟨cells, hc⟩ := own_typed h.sp _ e.symm
  · rw [h.blk] at hc; cases hc
  · rw [h1] at hc; cases hc
  · rw [h2] at hc; cases hc
theorem IpS.ne_rows (h : IpS w B b1 b2 vn vs M) : ∀ k, vn.ownBlock = some k → vs.ownBlock ≠ some k := by
  intro k hk hk'
  obtain ⟨c1, h1⟩ := own_typed h.nm _ hk
  obtain ⟨c2, h2⟩ := own_typed h.sp _ hk'
  rw [h1] at h2; cases h2
theorem IpS.ne_B (h : IpS w B b1 b2 vn vs M) : B ≠ b1 ∧ B ≠ b2 := by
  obtain ⟨_, _, h1⟩ := h.m1.map
  obtain ⟨_, _, h2⟩ := h.m2.map
  have h0 := h.blk
  refine ⟨fun e => ?_, fun e => ?_⟩
  · rw [e, h1] at h0; cases h0
  · rw [e, h2] at h0; cases h0
end
end Go.Proofs.Ytgabkifojnkbkaa.Ip
