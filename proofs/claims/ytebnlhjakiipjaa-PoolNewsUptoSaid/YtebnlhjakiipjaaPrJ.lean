/- Pools that New gave or refused, the reference's beside them; three of these apart from one another. Conditions: the numbers are of their kinds. -/
import Derived.Test.YtebnlhjakiipjaaPrH
import Derived.Test.YtebnlhjakiipjaaPrI
set_option linter.unusedVariables false
set_option linter.unusedSimpArgs false
namespace Go.Proofs.Ytebnlhjakiipjaa.Pl
open Go.RowKit Go.Maps Go.Proofs.YtebnlhjakiipjaaW.PrintWords Go.Proofs.YtebnlhjakiipjaaW.PrintMore Go.Proofs.Ytebnlhjakiipjaa.PPlf
/-- what the program's New gave -/
def PoN (B C : Nat) (vp : Value) (E : Int) (M : Pm) (w : World) : Prop := (E ≠ 0 ∧ vp = .pointer none) ∨ (E = 0 ∧ MOk M ∧ ∃ b F, vp = .pointer (some ⟨b, 0, none⟩) ∧ Po w b M [] F ∧ (∀ k, k ∈ F → B ≤ k ∧ k < C))
/-- what the reference's New gave -/
def RoN (B : Nat) (vr : Value) (E : Int) (M : Pm) (w : World) : Prop := (E ≠ 0 ∧ vr = .pointer none) ∨ (E = 0 ∧ ∃ b vk K, vr = .pointer (some ⟨b, 0, none⟩) ∧ RS w b vk (.slice none 0 0) M K [] ∧ RO M K [] [] ∧ (∀ k, k ∈ RF b vk (.slice none 0 0) → B ≤ k))
/-- two pools or none -/
def DuoO (w : World) (vp vr : Value) (G : List Nat) : Prop := (vp = .pointer none ∧ vr = .pointer none ∧ G = []) ∨ ∃ p r M L, vp = .pointer (some ⟨p, 0, none⟩) ∧ vr = .pointer (some ⟨r, 0, none⟩) ∧ Duo w p r M L G
section
variable {w w' : World} {B B' C : Nat} {vp vr : Value} {E : Int} {M : Pm} {G H : List Nat}
theorem PoN.below (h : PoN B C vp E M w) (hb : Below w.heap.size w w') : PoN B C vp E M w' := by
  rcases h with h | ⟨h1, h2, b, F, h3, h4, h5⟩
  · exact .inl h
  · exact .inr ⟨h1, h2, b, F, h3, h4.below hb, h5⟩
theorem RoN.below (h : RoN B vr E M w) (hb : Below w.heap.size w w') : RoN B vr E M w' := by
  rcases h with h | ⟨h1, b, vk, K, h3, h4, h5, h6⟩
  · exact .inl h
  · exact .inr ⟨h1, b, vk, K, h3, h4.below hb, h5, h6⟩
theorem duoN (hp : PoN B C vp E M w) (hr : RoN B' vr E M w) (hC : C ≤ B') (hB : B ≤ B') : ∃ G, DuoO w vp vr G ∧ ∀ k, k ∈ G → B ≤ k := by
  rcases hp with ⟨h1, h2⟩ | ⟨h1, h2, b, F, h3, h4, h5⟩
  · rcases hr with ⟨h6, h7⟩ | ⟨h6, _⟩
    · exact ⟨[], .inl ⟨h2, h7, rfl⟩, fun k hk => by cases hk⟩
    · exact absurd h6 h1
  · rcases hr with ⟨h6, _⟩ | ⟨h6, r, vk, K, h7, h8, h9, h10⟩
    · exact absurd h1 h6
    · refine ⟨F ++ RF r vk (.slice none 0 0), .inr ⟨b, r, M, [], h3, h7, F, vk, _, K, [], h4, h2, fun x hx => by simp at hx, h8, h9, fun k hk hk2 => ?_, rfl⟩, fun k hk => ?_⟩
      · have := h5 k hk; have := h10 k hk2; omega
      · rcases List.mem_append.1 hk with hk | hk
        · exact (h5 k hk).1
        · have := h10 k hk; omega
theorem DuoO.turn (h : DuoO w vp vr G) (ht : Turn w w' H) (hd : ∀ k, k ∈ G → k ∉ H) : DuoO w' vp vr G := by
  rcases h with h | ⟨p, r, M, L, h1, h2, h3⟩
  · exact .inl h
  · exact .inr ⟨p, r, M, L, h1, h2, h3.turn ht hd⟩
theorem DuoO.below (h : DuoO w vp vr G) (hb : Below w.heap.size w w') : DuoO w' vp vr G := h.turn (Turn.of_below hb []) (fun _ _ hk => by cases hk)
theorem DuoO.lt (h : DuoO w vp vr G) : ∀ k, k ∈ G → k < w.heap.size := by
  rcases h with ⟨_, _, rfl⟩ | ⟨p, r, M, L, h1, h2, h3⟩
  · intro k hk; cases hk
  · exact h3.lt
end
/-- three of them, apart from one another and from what was there before -/
structure Tri (w0 : World) (B : Nat) (X : Nat → Prop) (vp vr vq vs vx vy : Value) (w : World) : Prop where
  all : ∃ G1 G2 G3, DuoO w vp vr G1 ∧ DuoO w vq vs G2 ∧ DuoO w vx vy G3 ∧ (∀ k, k ∈ G1 → k ∉ G2) ∧ (∀ k, k ∈ G2 → k ∉ G3) ∧ (∀ k, k ∈ G3 → k ∉ G1) ∧ (∀ k, k ∈ G1 → B ≤ k) ∧ (∀ k, k ∈ G2 → B ≤ k) ∧ (∀ k, k ∈ G3 → B ≤ k) ∧ (∀ k, X k → k ∉ G1 ∧ k ∉ G2 ∧ k ∉ G3)
  hX : ∀ k, X k → k < w.heap.size
  hB : w0.heap.size ≤ B
  hw : B ≤ w.heap.size
  bel : Below w0.heap.size w0 w
/-- New, whatever it answers -/
theorem newQ (w : World) (na nl s lo hi : Int) (A : Option Addr) (kept : List S27) (c : Nat) (hm : kept.length ≤ maxLen) (hb0 : 0 ≤ na) (hb1 : na < 4294967296) (hl0 : 0 ≤ lo) (hl1 : lo < 4294967296) (hh0 : 0 ≤ hi) (hh1 : hi < 4294967296)
    (hC : Kd.C k27 w A kept.length kept) (hW : ∀ k, k ∈ kept → 0 ≤ k.f0 ∧ k.f0 < 4294967296) :
    Calls Try.prog 10 #[.agg #[.int .u32 na, .int .i64 nl], .int .i64 s, .int .u32 lo, .int .u32 hi, .slice A kept.length c] w fun e w' => ∃ vp, e = .returned (.tuple #[vp, .int .i64 (newE na nl s lo hi kept)]) ∧ PoN w.heap.size w'.heap.size vp (newE na nl s lo hi kept) (newM na nl s lo hi kept) w' ∧ Below w.heap.size w w' := by
  refine (newP w na nl s lo hi A kept c hm hb0 hb1 hl0 hl1 hh0 hh1 hC hW).mono ?_
  rintro e w' ⟨⟨h1, rfl⟩ | ⟨h1, h2, b, F, rfl, h3, h4⟩, hb⟩
  · exact ⟨_, rfl, .inl ⟨h1, rfl⟩, hb⟩
  · exact ⟨_, by rw [h1], .inr ⟨h1, h2, b, F, rfl, h3, fun k hk => ⟨h4 k hk, h3.lt k hk⟩⟩, hb⟩
theorem madeQ (w : World) (na nl s lo hi : Int) (A : Option Addr) (kept : List S27) (c : Nat) (hm : kept.length ≤ maxLen) (hb0 : 0 ≤ na) (hb1 : na < 4294967296) (hl0 : 0 ≤ lo) (hl1 : lo < 4294967296) (hh0 : 0 ≤ hi) (hh1 : hi < 4294967296)
    (hC : Kd.C k27 w A kept.length kept) (hW : ∀ k, k ∈ kept → 0 ≤ k.f0 ∧ k.f0 < 4294967296) :
    Calls Try.prog 13 #[.agg #[.int .u32 na, .int .i64 nl, .int .i64 s, .int .u32 lo, .int .u32 hi, .slice A kept.length c]] w fun e w' => ∃ vp, e = .returned (.tuple #[vp, .int .i64 (newE na nl s lo hi kept)]) ∧ PoN w.heap.size w'.heap.size vp (newE na nl s lo hi kept) (newM na nl s lo hi kept) w' ∧ Below w.heap.size w w' := by
  refine (made13 w na nl s lo hi A kept c hm hb0 hb1 hl0 hl1 hh0 hh1 hC hW).mono ?_
  rintro e w' ⟨⟨h1, rfl⟩ | ⟨h1, h2, b, F, rfl, h3, h4⟩, hb⟩
  · exact ⟨_, rfl, .inl ⟨h1, rfl⟩, hb⟩
  · exact ⟨_, by rw [h1], .inr ⟨h1, h2, b, F, rfl, h3, fun k hk => ⟨h4 k hk, h3.lt k hk⟩⟩, hb⟩
theorem rnewQ (w : World) (na nl s lo hi : Int) (A : Option Addr) (kept : List S27) (c : Nat) (hm : kept.length ≤ maxLen) (hb0 : 0 ≤ na) (hb1 : na < 4294967296) (hl0 : 0 ≤ lo) (hl1 : lo < 4294967296) (hh0 : 0 ≤ hi) (hh1 : hi < 4294967296)
    (hC : Kd.C k27 w A kept.length kept) (hW : ∀ k, k ∈ kept → 0 ≤ k.f0 ∧ k.f0 < 4294967296) :
    Calls Try.prog 11 #[.agg #[.int .u32 na, .int .i64 nl], .int .i64 s, .int .u32 lo, .int .u32 hi, .slice A kept.length c] w fun e w' => ∃ vr, e = .returned (.tuple #[vr, .int .i64 (newE na nl s lo hi kept)]) ∧ RoN w.heap.size vr (newE na nl s lo hi kept) (newM na nl s lo hi kept) w' ∧ Below w.heap.size w w' := by
  refine (rnew11 w na nl s lo hi A kept c hm hb0 hb1 hl0 hl1 hh0 hh1 hC hW).mono ?_
  rintro e w' ⟨⟨h1, rfl⟩ | ⟨h1, b, vk, rfl, h3, h4, h5⟩, hb⟩
  · exact ⟨_, rfl, .inl ⟨h1, rfl⟩, hb⟩
  · exact ⟨_, by rw [h1], .inr ⟨h1, b, vk, _, rfl, h3, h4, h5⟩, hb⟩
section
variable {w0 w w' : World} {B : Nat} {X : Nat → Prop} {vp vr vq vs vx vy : Value}
theorem Tri.rot (h : Tri w0 B X vp vr vq vs vx vy w) : Tri w0 B X vq vs vx vy vp vr w := by
  obtain ⟨⟨G1, G2, G3, h1, h2, h3, a1, a2, a3, b1, b2, b3, x1⟩, hX, hB, hw, hb⟩ := h
  exact ⟨⟨G2, G3, G1, h2, h3, h1, a2, a3, a1, b2, b3, b1, fun k hk => ⟨(x1 k hk).2.1, (x1 k hk).2.2, (x1 k hk).1⟩⟩, hX, hB, hw, hb⟩
theorem Tri.below (h : Tri w0 B X vp vr vq vs vx vy w) (hb : Below w.heap.size w w') : Tri w0 B X vp vr vq vs vx vy w' := by
  obtain ⟨⟨G1, G2, G3, h1, h2, h3, a⟩, hX, hB, hw, hb0⟩ := h
  exact ⟨⟨G1, G2, G3, h1.below hb, h2.below hb, h3.below hb, a⟩, fun k hk => Nat.lt_of_lt_of_le (hX k hk) hb.size, hB, Nat.le_trans hw hb.size, below_step hb0 hb⟩
/-- a step on the first two -/
theorem Tri.plays (h : Tri w0 B X vp vr vq vs vx vy w) (hn : vr ≠ .pointer none) (k o a l : Int) (ha0 : 0 ≤ a) (ha1 : a < 4294967296) :
    ∃ p r, vp = .pointer (some ⟨p, 0, none⟩) ∧ vr = .pointer (some ⟨r, 0, none⟩) ∧ Calls Try.prog 19 #[vp, vr, .agg #[.int .i64 k, .int .i64 o, .int .u32 a, .int .i64 l]] w fun e w' => e = .returned (.bool true) ∧ Tri w0 B X vp vr vq vs vx vy w' ∧ Below B w w' ∧ (∀ k, X k → w'.heap[k]? = w.heap[k]?) := by
  obtain ⟨⟨G1, G2, G3, h1, h2, h3, a1, a2, a3, b1, b2, b3, x1⟩, hX, hB, hw, hb0⟩ := h
  rcases h1 with ⟨_, h, _⟩ | ⟨p, r, M, L, rfl, rfl, hd⟩
  · exact absurd h hn
  · refine ⟨p, r, rfl, rfl, (plays19 w p r M L G1 k o a l ha0 ha1 hd).mono ?_⟩
    rintro e w' ⟨rfl, L', G', hd', ht, hs⟩
    have l2 := h2.lt
    have l3 := h3.lt
    have hsz := hb0.size
    have hbw := ht.below hw b1
    refine ⟨rfl, ⟨⟨G', G2, G3, .inr ⟨p, r, M, L', rfl, rfl, hd'⟩, h2.turn ht (fun k hk h => a1 k h hk), h3.turn ht (fun k hk h => a3 k hk h), fun k hk h => ?_, a2, fun k hk h => ?_, fun k hk => ?_, b2, b3, fun k hk => ⟨fun h => ?_, (x1 k hk).2⟩⟩, fun k hk => Nat.lt_of_lt_of_le (hX k hk) hbw.size, hB, Nat.le_trans hw hbw.size, ?_⟩, hbw, fun k hk => ht.block k (hX k hk) (x1 k hk).1⟩
    · rcases hs k hk with h4 | h4
      · exact a1 k h4 h
      · have := l2 k h; omega
    · rcases hs k h with h4 | h4
      · exact a3 k hk h4
      · have := l3 k hk; omega
    · rcases hs k hk with h4 | h4
      · exact b1 k h4
      · omega
    · rcases hs k h with h4 | h4
      · exact (x1 k hk).1 h4
      · have := hX k hk; omega
    · exact hb0.trans (ht.below hsz (fun k hk => Nat.le_trans hB (b1 k hk)))
/-- others in the third place -/
theorem Tri.third {G : List Nat} {vx' vy' : Value} (h : Tri w0 B X vp vr vq vs vx vy w) (hb : Below w.heap.size w w') (hd : DuoO w' vx' vy' G) (hf : ∀ k, k ∈ G → w.heap.size ≤ k) : Tri w0 B X vp vr vq vs vx' vy' w' := by
  obtain ⟨⟨G1, G2, G3, h1, h2, h3, a1, a2, a3, b1, b2, b3, x1⟩, hX, hB, hw, hb0⟩ := h
  have l1 := h1.lt
  have l2 := h2.lt
  exact ⟨⟨G1, G2, G, h1.below hb, h2.below hb, hd, a1, fun k hk h => by have := l2 k hk; have := hf k h; omega, fun k hk h => by have := l1 k h; have := hf k hk; omega, b1, b2, fun k hk => by have := hf k hk; omega, fun k hk => ⟨(x1 k hk).1, (x1 k hk).2.1, fun h => by have := hf k h; have := hX k hk; omega⟩⟩, fun k hk => Nat.lt_of_lt_of_le (hX k hk) hb.size, hB, Nat.le_trans hw hb.size, below_step hb0 hb⟩
/-- a row beside them is written -/
theorem Tri.put {w9 : World} {H : List Nat} (h : Tri w0 B X vp vr vq vs vx vy w) (ht : Turn w w9 H) (hH : ∀ k, k ∈ H → k < B) (h0 : Below w0.heap.size w0 w9) : Tri w0 B X vp vr vq vs vx vy w9 := by
  obtain ⟨⟨G1, G2, G3, h1, h2, h3, a1, a2, a3, b1, b2, b3, x1⟩, hX, hB, hw, _⟩ := h
  exact ⟨⟨G1, G2, G3, h1.turn ht (fun k hk h => by have := hH k h; have := b1 k hk; omega), h2.turn ht (fun k hk h => by have := hH k h; have := b2 k hk; omega), h3.turn ht (fun k hk h => by have := hH k h; have := b3 k hk; omega), a1, a2, a3, b1, b2, b3, x1⟩, fun k hk => Nat.lt_of_lt_of_le (hX k hk) ht.size, hB, Nat.le_trans hw ht.size, h0⟩
/-- a block laid anew is apart; it may be forgotten -/
theorem Tri.new (h : Tri w0 B X vp vr vq vs vx vy w) (hb : Below w.heap.size w w') (hs : w.heap.size < w'.heap.size) : Tri w0 B (fun k => k = w.heap.size) vp vr vq vs vx vy w' := by
  obtain ⟨⟨G1, G2, G3, h1, h2, h3, a1, a2, a3, b1, b2, b3, _⟩, _, hB, hw, hb0⟩ := h
  have l1 := h1.lt
  have l2 := h2.lt
  have l3 := h3.lt
  exact ⟨⟨G1, G2, G3, h1.below hb, h2.below hb, h3.below hb, a1, a2, a3, b1, b2, b3, fun k hk => ⟨fun h => by have := l1 k h; omega, fun h => by have := l2 k h; omega, fun h => by have := l3 k h; omega⟩⟩, fun k hk => by omega, hB, Nat.le_trans hw hb.size, below_step hb0 hb⟩
theorem Tri.forget (h : Tri w0 B X vp vr vq vs vx vy w) : Tri w0 B (fun _ => False) vp vr vq vs vx vy w := by
  obtain ⟨⟨G1, G2, G3, h1, h2, h3, a1, a2, a3, b1, b2, b3, _⟩, _, hB, hw, hb0⟩ := h
  exact ⟨⟨G1, G2, G3, h1, h2, h3, a1, a2, a3, b1, b2, b3, fun k hk => hk.elim⟩, fun k hk => hk.elim, hB, hw, hb0⟩
theorem Tri.two {w6 : World} {G1 G2 : List Nat} (h1 : DuoO w6 vp vr G1) (hb : Below w6.heap.size w6 w) (h2 : DuoO w vq vs G2) (b1 : ∀ k, k ∈ G1 → B ≤ k) (b2 : ∀ k, k ∈ G2 → w6.heap.size ≤ k) (hs : B ≤ w6.heap.size) (hB : w0.heap.size ≤ B) (h0 : Below w0.heap.size w0 w) : Tri w0 B (fun _ => False) vp vr vq vs (.pointer none) (.pointer none) w :=
  ⟨by
    have i1 : ∀ k, k ∈ G1 → k ∉ G2 := fun k hk h => by have := h1.lt k hk; have := b2 k h; omega
    have i2 : ∀ k, k ∈ G2 → k ∉ ([] : List Nat) := fun k _ h => List.not_mem_nil h
    have i3 : ∀ k, k ∈ ([] : List Nat) → k ∉ G1 := fun k h => absurd h List.not_mem_nil
    have i4 : ∀ k, k ∈ G2 → B ≤ k := fun k hk => by have := b2 k hk; omega
    have i5 : ∀ k, k ∈ ([] : List Nat) → B ≤ k := fun k h => absurd h List.not_mem_nil
    exact ⟨G1, G2, [], h1.below hb, h2, Or.inl ⟨rfl, rfl, rfl⟩, i1, i2, i3, b1, i4, i5, fun k hk => hk.elim⟩, fun k hk => hk.elim, hB, Nat.le_trans hs hb.size, h0⟩
end
end Go.Proofs.Ytebnlhjakiipjaa.Pl
