/- AddrNewMemory: the lists that it marks and grows, each with blocks of its own colour. Plain words; no condition. -/
import Derived.Test.YtncpcjphljfcpaaNmD
set_option linter.unusedVariables false
set_option linter.unusedSimpArgs false
namespace Go.Proofs.Ytncpcjphljfcpaa.Nm
open Go.RowKit Go.Proofs.YtncpcjphljfcpaaW.PrintWords Go.Proofs.Ytncpcjphljfcpaa.PNmm Go.Proofs.Ytncpcjphljfcpaa.Pure
/-- blocks of one colour alone have turned -/
structure TurnC (w w' : World) (col : Nat → Nat) (i : Nat) : Prop where
  os : w'.os = w.os
  tape : w'.tape = w.tape
  output : w'.output = w.output
  size : w.heap.size ≤ w'.heap.size
  block : ∀ k, k < w.heap.size → col k ≠ i → w'.heap[k]? = w.heap[k]?
/-- a row that holds xs, in a block of colour i, newer than w0 -/
structure One (w0 w : World) (col : Nat → Nat) (i : Nat) (v : Value) (xs : List S32) : Prop where
  row : Row w 0 v xs
  own : ∀ k, v.ownBlock = some k → col k = i ∧ w0.heap.size ≤ k
def recol (w : World) (col : Nat → Nat) (i : Nat) : Nat → Nat := fun k => if k < w.heap.size then col k else i
def All (w0 w : World) (col : Nat → Nat) (L : List (Nat × Value × List S32)) : Prop := ∀ p, p ∈ L → One w0 w col p.1 p.2.1 p.2.2
section
variable {w0 w w1 w2 w' : World} {col : Nat → Nat} {i j : Nat} {v : Value} {xs : List S32} {L M : List (Nat × Value × List S32)}
theorem TurnC.refl (w : World) (col : Nat → Nat) (i : Nat) : TurnC w w col i := ⟨rfl, rfl, rfl, Nat.le_refl _, fun _ _ _ => rfl⟩
theorem TurnC.trans (h : TurnC w w1 col i) (k : TurnC w1 w2 col i) : TurnC w w2 col i :=
  ⟨k.os.trans h.os, k.tape.trans h.tape, k.output.trans h.output, Nat.le_trans h.size k.size, fun b hb hc => (k.block b (Nat.lt_of_lt_of_le hb h.size) hc).trans (h.block b hb hc)⟩
theorem TurnC.of_below (h : Below w.heap.size w w') (col : Nat → Nat) (i : Nat) : TurnC w w' col i := ⟨h.os, h.tape, h.output, h.size, fun b hb _ => h.block b hb⟩
theorem TurnC.of_turn {F : List Nat} (h : Turn w w' F) (hF : ∀ b, b ∈ F → col b = i) : TurnC w w' col i := ⟨h.os, h.tape, h.output, h.size, fun b hb hc => h.block b hb (fun hm => hc (hF b hm))⟩
/-- what is older than w0 has not turned, if the colour's blocks are all newer -/
theorem TurnC.below (h : TurnC w w' col i) (hw : w0.heap.size ≤ w.heap.size) (hc : ∀ k, col k = i → w0.heap.size ≤ k) : Below w0.heap.size w w' := ⟨h.os, h.tape, h.output, h.size, fun b hb => h.block b (by omega) (fun e => by have := hc b e; omega)⟩
theorem recol_lt {k : Nat} (hk : k < w.heap.size) : recol w col i k = col k := if_pos hk
theorem recol_ge {k : Nat} (hk : w.heap.size ≤ k) : recol w col i k = i := if_neg (by omega)
theorem One.turn (h : One w0 w col i v xs) (ht : TurnC w w' col j) (hij : i ≠ j) : One w0 w' col i v xs :=
  ⟨h.row.step (fun k hk => ht.block k (h.row.lt k hk).2 (by rw [(h.own k hk).1]; exact hij)), h.own⟩
theorem One.below (h : One w0 w col i v xs) (hb : Below w.heap.size w w') : One w0 w' col i v xs := ⟨h.row.below hb, h.own⟩
theorem One.recol (h : One w0 w col i v xs) (hw : w1.heap.size = w.heap.size) : One w0 w (recol w1 col j) i v xs := ⟨h.row, fun k hk => by rw [recol_lt (by have := (h.row.lt k hk).2; omega)]; exact h.own k hk⟩
theorem All.turn (h : All w0 w col L) (ht : TurnC w w' col j) (hM : ∀ p, p ∈ M → p ∈ L ∧ p.1 ≠ j) : All w0 w' col M := fun p hp => (h p (hM p hp).1).turn ht (hM p hp).2
theorem All.below (h : All w0 w col L) (hb : Below w.heap.size w w') : All w0 w' col L := fun p hp => (h p hp).below hb
theorem All.recol (h : All w0 w col L) (j : Nat) : All w0 w (recol w col j) L := fun p hp => (h p hp).recol rfl
theorem All.cons (h : All w0 w col L) {i : Nat} {v : Value} {xs : List S32} (h1 : One w0 w col i v xs) : All w0 w col ((i, v, xs) :: L) := fun p hp => by
  rcases List.mem_cons.1 hp with rfl | hp
  · exact h1
  · exact h p hp
theorem All.one (h : All w0 w col L) {i : Nat} {v : Value} {xs : List S32} (hm : (i, v, xs) ∈ L) : One w0 w col i v xs := h _ hm
/-- a mark is written into the q-th place -/
theorem One.put {g n c q : Nat} (h : One w0 w col i (.slice (some ⟨g, 0, none⟩) n c) xs) (hq : q < xs.length) (m : S32) :
    (∃ x y, w.cell? ⟨g, q * 2, none⟩ = some x ∧ w.cell? ⟨g, q * 2 + 1, none⟩ = some y ∧ w.frozen? ⟨g, q * 2, none⟩ = false ∧ w.frozen? ⟨g, q * 2 + 1, none⟩ = false) ∧
    One w0 ((w.setCell ⟨g, q * 2, none⟩ (.int .u32 m.f0)).setCell ⟨g, q * 2 + 1, none⟩ (.int .i64 m.f1)) col i (.slice (some ⟨g, 0, none⟩) n c) (xs.set q m) ∧
    TurnC w ((w.setCell ⟨g, q * 2, none⟩ (.int .u32 m.f0)).setCell ⟨g, q * 2 + 1, none⟩ (.int .i64 m.f1)) col i := by
  obtain ⟨h1, h2, h3⟩ := h.row.put hq m
  exact ⟨h1, ⟨h2, h.own⟩, TurnC.of_turn h3 (fun b hb => by rw [List.mem_singleton] at hb; subst hb; exact (h.own b rfl).1)⟩
set_option maxRecDepth 100000 in
/-- marks are put behind a row: in its place, or all of it anew -/
theorem One.app {A : Option Addr} {c : Nat} {news : List S32} (h : One w0 w col i (.slice A xs.length c) xs) (hb : Below w.heap.size w w2) (hw0 : w0.heap.size ≤ w.heap.size) (k : Nat) (hk : news.length = k) (hk0 : 0 < k) (hn : xs.length + k ≤ 8796093022207) (a : Addr) (cc : Nat) (hnews : ∀ j u, (pfC news)[j]? = some u → w2.cell? (a.add j) = some u) :
    ∃ w' A1 c1, (Builtin.append_ #[25, 25] 25 #[.slice A xs.length c, .slice (some a) k cc]).run Try.prog w2 = .ok (.slice A1 (xs.length + k) c1) w' ∧ One w0 w' (Nm.recol w col i) i (.slice A xs.length c) xs ∧ One w0 w' (Nm.recol w col i) i (.slice A1 (xs.length + k) c1) (xs ++ news) ∧
      TurnC w w' (Nm.recol w col i) i ∧ ((A1 = A ∧ c1 = c ∧ xs.length + k ≤ c) ∨ c < xs.length + k) := by
  have hr2 := h.row.below hb
  obtain ⟨w', g', c', hr, hrow, hcase⟩ := hr2.app k hk hk0 hn a cc hnews
  have hlen : (xs ++ news).length = xs.length + k := by rw [List.length_append, hk]
  have hrow' : Row w' 0 (.slice (some ⟨g', 0, none⟩) (xs.length + k) c') (xs ++ news) := by rw [← hlen]; exact hrow
  rcases hcase with ⟨h1, h2, h3, h4⟩ | ⟨h1, h2, h3, h4⟩
  · subst h2 h3
    have ho := h.own g' rfl
    have hlt := (h.row.lt g' rfl).2
    have hcol : Nm.recol w col i g' = i := by rw [recol_lt hlt]; exact ho.1
    have hown : ∀ n k, (Value.slice (some ⟨g', 0, none⟩) n c').ownBlock = some k → Nm.recol w col i k = i ∧ w0.heap.size ≤ k := fun n k hk => by
      injection hk with hk
      subst hk
      exact ⟨hcol, ho.2⟩
    refine ⟨w', _, c', hr, ⟨Row.prefix_ hrow rfl, hown _⟩, ⟨hrow', hown _⟩, ⟨h4.os.trans hb.os, h4.tape.trans hb.tape, h4.output.trans hb.output, Nat.le_trans hb.size h4.size, fun b hbl hc => (h4.block b (Nat.lt_of_lt_of_le hbl hb.size) (fun e => ?_)).trans (hb.block b hbl)⟩, .inl ⟨rfl, rfl, h1⟩⟩
    injection e with e
    subst e
    exact hc hcol
  · refine ⟨w', _, c', hr, ⟨hr2.below h4, fun k hk => ?_⟩, ⟨hrow', fun k hk => ?_⟩, TurnC.of_below (below_step hb h4) _ _, .inr h1⟩
    · have ho := h.own k hk
      rw [recol_lt (h.row.lt k hk).2]
      exact ho
    · obtain rfl : k = g' := by injection hk with hk; exact hk.symm
      have := hb.size
      rw [recol_ge (by omega)]
      exact ⟨rfl, by omega⟩
theorem rep_snoc (k : Nat) (m : S32) : List.replicate k m ++ [m] = List.replicate (k + 1) m := by
  rw [show [m] = List.replicate 1 m from rfl, List.replicate_append_replicate]
/-- one mark more, in its place -/
theorem One.more {A A1 : Option Addr} {n m c c1 k : Nat} {b : S32} (h0 : One w0 w col i (.slice A n c) xs) (h : One w0 w col i (.slice A1 m c1) (xs ++ List.replicate k b)) (hn : n = xs.length) (hm : m = n + k) (hrel : (A1 = A ∧ c1 = c) ∨ c < m) (hlt : m < c) (hM : m ≤ 8796093022200)
    (hb : Below w.heap.size w w2) (a : Addr) (cc : Nat) (hnews : ∀ j u, (pfC [b])[j]? = some u → w2.cell? (a.add j) = some u) :
    ∃ w', (Builtin.append_ #[25, 25] 25 #[.slice A1 m c1, .slice (some a) 1 cc]).run Try.prog w2 = .ok (.slice A1 (m + 1) c1) w' ∧ One w0 w' col i (.slice A n c) xs ∧ One w0 w' col i (.slice A1 (m + 1) c1) (xs ++ List.replicate (k + 1) b) ∧ TurnC w w' col i := by
  obtain ⟨rfl, rfl⟩ := hrel.resolve_right (by omega)
  have hl : (xs ++ List.replicate k b).length = m := by rw [List.length_append, List.length_replicate]; omega
  have hr2 := h.row.below hb
  rw [← hl] at hr2
  obtain ⟨w', g', c', hr, hrow, hcase⟩ := hr2.app (news := [b]) 1 rfl (by omega) (by omega) a cc hnews
  rw [hl] at hr hcase
  obtain ⟨h1, rfl, rfl, h4⟩ := hcase.resolve_right (by omega)
  have ho := h.own g' rfl
  rw [List.append_assoc, rep_snoc] at hrow
  have hl2 : (xs ++ List.replicate (k + 1) b).length = m + 1 := by rw [List.length_append, List.length_replicate]; omega
  have hown : ∀ n k, (Value.slice (some ⟨g', 0, none⟩) n c').ownBlock = some k → col k = i ∧ w0.heap.size ≤ k := fun n k hk => by
    injection hk with hk
    subst hk
    exact ho
  refine ⟨w', hr, ⟨Row.prefix_ hrow hn, hown _⟩, ⟨by rw [← hl2]; exact hrow, hown _⟩, ⟨h4.os.trans hb.os, h4.tape.trans hb.tape, h4.output.trans hb.output, Nat.le_trans hb.size h4.size, fun b hbl hc => (h4.block b (Nat.lt_of_lt_of_le hbl hb.size) (fun e => ?_)).trans (hb.block b hbl)⟩⟩
  injection e with e
  subst e
  exact hc ho.1
end
/-- blocks that are older than w0 have no colour -/
def Cl (w0 : World) (col : Nat → Nat) : Prop := ∀ k, col k ≠ 0 → w0.heap.size ≤ k
theorem Cl.recol {w0 w : World} {col : Nat → Nat} (h : Cl w0 col) (hw : w0.heap.size ≤ w.heap.size) (i : Nat) : Cl w0 (recol w col i) := fun k hk => by
  by_cases c : k < w.heap.size
  · rw [recol_lt c] at hk; exact h k hk
  · omega
/-- all that is kept -/
structure Bag (w0 w : World) (col : Nat → Nat) (L : List (Nat × Value × List S32)) : Prop where
  all : All w0 w col L
  cl : Cl w0 col
  bel : Below w0.heap.size w0 w
section
variable {w0 w w1 w2 w' : World} {col : Nat → Nat} {i j : Nat} {v : Value} {xs : List S32} {L M : List (Nat × Value × List S32)}
theorem Bag.below (h : Bag w0 w col L) (hb : Below w.heap.size w w') : Bag w0 w' col L := ⟨h.all.below hb, h.cl, below_step h.bel hb⟩
theorem Bag.sub (h : Bag w0 w col L) (hM : ∀ p, p ∈ M → p ∈ L) : Bag w0 w col M := ⟨fun p hp => h.all p (hM p hp), h.cl, h.bel⟩
theorem Bag.turn (h : Bag w0 w col L) (hi : i ≠ 0) (ht : TurnC w w' col i) (hM : ∀ p, p ∈ M → p ∈ L ∧ p.1 ≠ i) : Bag w0 w' col M :=
  ⟨h.all.turn ht hM, h.cl, h.bel.trans (ht.below h.bel.size (fun k hk => h.cl k (by rw [hk]; exact hi)))⟩
theorem Bag.put {g n c q : Nat} (h : Bag w0 w col ((i, .slice (some ⟨g, 0, none⟩) n c, xs) :: M)) (hi : i ≠ 0) (hM : ∀ p, p ∈ M → p.1 ≠ i) (hq : q < xs.length) (m : S32) :
    (∃ x y, w.cell? ⟨g, q * 2, none⟩ = some x ∧ w.cell? ⟨g, q * 2 + 1, none⟩ = some y ∧ w.frozen? ⟨g, q * 2, none⟩ = false ∧ w.frozen? ⟨g, q * 2 + 1, none⟩ = false) ∧
    Bag w0 ((w.setCell ⟨g, q * 2, none⟩ (.int .u32 m.f0)).setCell ⟨g, q * 2 + 1, none⟩ (.int .i64 m.f1)) col ((i, .slice (some ⟨g, 0, none⟩) n c, xs.set q m) :: M) := by
  obtain ⟨h1, h2, h3⟩ := (h.all _ List.mem_cons_self).put hq m
  have hb := h.turn (M := M) hi h3 (fun p hp => ⟨List.mem_cons_of_mem _ hp, hM p hp⟩)
  exact ⟨h1, hb.all.cons h2, hb.cl, hb.bel⟩
theorem Bag.app {A : Option Addr} {n c : Nat} (h : Bag w0 w col ((i, .slice A n c, xs) :: M)) (hi : i ≠ 0) (hM : ∀ p, p ∈ M → p.1 ≠ i) (hn : n = xs.length) (b : S32) (k : Nat) (hk0 : 0 < k) (hlen : n + k ≤ 8796093022207)
    (hb : Below w.heap.size w w2) (a : Addr) (cc : Nat) (hnews : ∀ j u, (pfC (List.replicate k b))[j]? = some u → w2.cell? (a.add j) = some u) :
    ∃ w' A1 c1 col', (Builtin.append_ #[25, 25] 25 #[.slice A n c, .slice (some a) k cc]).run Try.prog w2 = .ok (.slice A1 (n + k) c1) w' ∧ Bag w0 w' col' ((i, .slice A n c, xs) :: (i, .slice A1 (n + k) c1, xs ++ List.replicate k b) :: M) ∧ ((A1 = A ∧ c1 = c) ∨ c < n + k) := by
  subst hn
  obtain ⟨w', A1, c1, h1, h2, h3, h4, h5⟩ := (h.all _ List.mem_cons_self).app hb h.bel.size k (List.length_replicate) hk0 hlen a cc hnews
  have hb0 : Bag w0 w (recol w col i) ((i, .slice A xs.length c, xs) :: M) := ⟨h.all.recol i, h.cl.recol h.bel.size i, h.bel⟩
  have hb := hb0.turn (M := M) hi h4 (fun p hp => ⟨List.mem_cons_of_mem _ hp, hM p hp⟩)
  exact ⟨w', A1, c1, _, h1, ⟨(hb.all.cons h3).cons h2, hb.cl, hb.bel⟩, h5.imp (fun h => ⟨h.1, h.2.1⟩) id⟩
theorem Bag.more {A A1 : Option Addr} {n m c c1 k : Nat} {b : S32} (h : Bag w0 w col ((i, .slice A n c, xs) :: (i, .slice A1 m c1, xs ++ List.replicate k b) :: M)) (hi : i ≠ 0) (hM : ∀ p, p ∈ M → p.1 ≠ i) (hn : n = xs.length) (hm : m = n + k) (hrel : (A1 = A ∧ c1 = c) ∨ c < m) (hlt : m < c) (hM2 : m ≤ 8796093022200)
    (hb : Below w.heap.size w w2) (a : Addr) (cc : Nat) (hnews : ∀ j u, (pfC [b])[j]? = some u → w2.cell? (a.add j) = some u) :
    ∃ w', (Builtin.append_ #[25, 25] 25 #[.slice A1 m c1, .slice (some a) 1 cc]).run Try.prog w2 = .ok (.slice A1 (m + 1) c1) w' ∧ Bag w0 w' col ((i, .slice A n c, xs) :: (i, .slice A1 (m + 1) c1, xs ++ List.replicate (k + 1) b) :: M) := by
  obtain ⟨w', h1, h2, h3, h4⟩ := (h.all _ List.mem_cons_self).more (h.all _ (List.mem_cons_of_mem _ List.mem_cons_self)) hn hm hrel hlt hM2 hb a cc hnews
  have hb := h.turn (M := M) hi h4 (fun p hp => ⟨List.mem_cons_of_mem _ (List.mem_cons_of_mem _ hp), hM p hp⟩)
  exact ⟨w', h1, (hb.all.cons h3).cons h2, hb.cl, hb.bel⟩
/-- what is kept, as it is read -/
theorem Bag.C (h : Bag w0 w col L) {A : Option Addr} {n c : Nat} {i : Nat} (hm : (i, .slice A n c, xs) ∈ L) (hn : n = xs.length) : n ≤ c ∧ Kd.C k32 w A n xs := by
  subst hn
  obtain ⟨_, _, e, hle, hC⟩ := (h.all _ hm).row.C
  injection e with e1 _ e3
  subst e1 e3
  exact ⟨hle, hC⟩
/-- its tail, and its head -/
theorem Bag.ends (h : Bag w0 w col L) {A : Option Addr} {n m c k : Nat} {i : Nat} {b : S32} (hm : (i, .slice A m c, xs ++ List.replicate k b) ∈ L) (hn : n = xs.length) (hmn : m = n + k) (hk : 0 < k) :
    ∃ g, A = some ⟨g, 0, none⟩ ∧ m ≤ c ∧ c ≤ maxLen ∧ Kd.C k32 w (some ⟨g, n * 2, none⟩) k (List.replicate k b) ∧ Kd.C k32 w (some ⟨g, 0, none⟩) n xs := by
  subst hn
  have hr := (h.all _ hm).row
  have hl : (xs ++ List.replicate k b).length = m := by rw [List.length_append, List.length_replicate]; exact hmn.symm
  obtain ⟨g, cap, e, _⟩ := World.ownsRow.form hr (by rw [hl]; omega)
  injection e with e1 _ e3
  subst e1 e3
  have hr2 : Row w 0 (.slice (some ⟨g, 0, none⟩) (xs ++ List.replicate k b).length c) (xs ++ List.replicate k b) := by rw [hl]; exact hr
  have ht := Row.tail (n := 0) hr2
  rw [List.length_replicate] at ht
  have hp := Row.prefix_ hr2 rfl
  obtain ⟨_, _, e, hle, hC⟩ := hp.C
  injection e with e1 _ e3
  subst e1 e3
  have hcap : m ≤ c ∧ c ≤ maxLen := by
    rcases hr.2 with ⟨h1, _⟩ | ⟨g', cap, cur, h1, _, _, h4, h5, _⟩
    · cases h1
    · injection h1 with _ _ e3
      subst e3
      rw [hl] at h4
      exact ⟨h4, h5⟩
  exact ⟨g, rfl, hcap.1, hcap.2, ht, hC⟩
end
theorem mark_n (n a b : Int) (ha : (mk n).f0 = a) (hb : (mk n).f1 = b) (w : World) : Calls Try.prog 29 #[.int .i64 n] w fun e w' => e = .returned (.agg #[.int .u32 a, .int .i64 b]) ∧ Below w.heap.size w w' := by
  subst ha hb
  exact mark_c n w
theorem all_n (m a b : Int) (ha : (mk m).f0 = a) (hb : (mk m).f1 = b) (n : Nat) (hn : n ≤ 8796093022208) (w : World) (A : Option Addr) (c : Nat) (hA : Kd.C k32 w A n (List.replicate n ⟨a, b⟩)) (hc : n ≤ c) :
    Calls Try.prog 30 #[.slice A n c, .int .i64 m] w fun e w' => e = .returned (.bool true) ∧ Below w.heap.size w w' := by
  subst ha hb
  exact all_c m n hn w A c hA hc
end Go.Proofs.Ytncpcjphljfcpaa.Nm
