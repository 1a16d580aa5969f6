/- The book of lists that were marked: what is in it stays. Conditions: none. -/
import Derived.Test.YtebnlhjakiipjaaPmE
set_option linter.unusedVariables false
set_option linter.unusedSimpArgs false
namespace Go.Proofs.Ytebnlhjakiipjaa.Pl
open Go.RowKit Go.Maps Go.Proofs.YtebnlhjakiipjaaW.PrintWords Go.Proofs.YtebnlhjakiipjaaW.PrintMore Go.Proofs.YtebnlhjakiipjaaW.PrintLast Go.Proofs.Ytebnlhjakiipjaa.PPlf
abbrev Bq := List (Value × Value × List S27)
theorem flatB_length : ∀ P : Bq, (flatB P).length = P.length * 2
  | [] => rfl
  | p :: r => by simp only [flatB, List.length_cons, flatB_length r]; omega
theorem flatB_append : ∀ P Q : Bq, flatB (P ++ Q) = flatB P ++ flatB Q
  | [], Q => rfl
  | p :: r, Q => by simp only [flatB, List.cons_append, flatB_append r Q]
theorem flatB_get : ∀ (P : Bq) (i : Nat) (q : Value × Value × List S27), P[i]? = some q → (flatB P)[i * 2]? = some q.1 ∧ (flatB P)[i * 2 + 1]? = some q.2.1
  | [], i, q, h => by simp at h
  | p :: r, 0, q, h => by simp at h; subst h; simp [flatB]
  | p :: r, i + 1, q, h => by
    have := flatB_get r i q (by simpa using h)
    rw [show (i + 1) * 2 = i * 2 + 1 + 1 from by omega]
    simpa [flatB] using this
def bkL (P : Bq) : List S87 := P.map (fun q => (⟨q.2.2, q.2.2⟩ : S87))
theorem bk_reps {w : World} {P : Bq} (h : ∀ q, q ∈ P → Row w 0 q.1 q.2.2 ∧ Row w 0 q.2.1 q.2.2) : Reps (k87.K w) 2 (bkL P) (flatB P) := ⟨by rw [flatB_length]; simp [bkL], fun j x hj => by
  unfold bkL at hj
  rw [List.getElem?_map] at hj
  obtain ⟨q, hq, rfl⟩ := Option.map_eq_some_iff.1 hj
  obtain ⟨a, b⟩ := flatB_get P j q hq
  obtain ⟨ha, hb⟩ := List.getElem?_eq_some_iff.1 a
  obtain ⟨hc, hd⟩ := List.getElem?_eq_some_iff.1 b
  rw [List.drop_eq_getElem_cons ha, List.drop_eq_getElem_cons hc, hb, hd]
  obtain ⟨r1, r2⟩ := h q (List.mem_of_getElem? hq)
  obtain ⟨A0, c0, e0, l0, C0⟩ := r1.C
  obtain ⟨A1, c1, e1, l1, C1⟩ := r2.C
  rw [e0, e1]
  exact k87_mk w ⟨q.2.2, q.2.2⟩ l0 C0 l1 C1⟩
theorem kept_l {B : Nat} (hB : B ≤ 281474976710656) : ∀ (n i : Nat) (P : Bq) (k : Nat), i + n = P.length → P.length ≤ 1048576 → (∀ q, q ∈ P → q.2.2.length ≤ B) → n + B + 1 < k → weftlaw10_kept.l0 k (bkL P) (i : Int) = some true
  | 0, i, P, k, hn, hp, hl, hk => by
    obtain ⟨k, rfl⟩ : ∃ m, k = m + 1 := ⟨k - 1, by omega⟩
    simp only [weftlaw10_kept.l0]
    rw [if_neg (by simp only [bkL, List.length_map]; omega)]
  | n + 1, i, P, k, hn, hp, hl, hk => by
    obtain ⟨k, rfl⟩ : ∃ m, k = m + 1 := ⟨k - 1, by omega⟩
    have ih := kept_l hB n (i + 1) P k (by omega) hp hl (by omega)
    simp only [weftlaw10_kept.l0]
    have hi : i < P.length := by omega
    have hrd : rd_T87 (bkL P) (i : Int) = ⟨P[i].2.2, P[i].2.2⟩ := by
      unfold rd_T87 bkL
      rw [List.getD_eq_getElem?_getD, Int.toNat_natCast, List.getElem?_map, List.getElem?_eq_getElem hi]; rfl
    have hlen := hl _ (List.getElem_mem hi)
    rw [if_pos (by simp only [bkL, List.length_map]; omega), if_pos (by omega), hrd, same_all (by show P[i].2.2.length ≤ _; omega) (by show P[i].2.2.length < k; omega), decide_eq_true rfl, Option.bind_some, if_pos rfl, w64 (by omega) (by omega), show (i : Int) + 1 = ((i + 1 : Nat) : Int) from by omega]
    exact ih
theorem neT49 {w : World} {p : Nat} {M : Pm} {L : List Int} {F : List Nat} (h : Po w p M L F) {k : Nat} {cs : Array Value} (hk : w.heap[k]? = some (.cells cs 49 (0, 0))) : k ∉ F := fun hf => by
  obtain ⟨vk, bm, vr, R, h1, _, rfl⟩ := h
  simp only [PlF, List.mem_cons, List.mem_append, Option.mem_toList, Option.mem_def] at hf
  rcases hf with rfl | rfl | hf | hf
  · rw [h1.blk] at hk; exact absurd (Obj.cells.inj (Option.some.inj hk)).2.1 (by decide)
  · obtain ⟨es, clock, hm⟩ := h1.mp.map
    rw [hm] at hk; cases hk
  · obtain ⟨c, hc⟩ := own_typed h1.rk k hf
    rw [hc] at hk; exact absurd (Obj.cells.inj (Option.some.inj hk)).2.1 (by decide)
  · obtain ⟨c, hc⟩ := own_typed h1.rr k hf
    rw [hc] at hk; exact absurd (Obj.cells.inj (Option.some.inj hk)).2.1 (by decide)
/-- the pool and the book -/
structure Bm (w0 w : World) (p : Nat) (M : Pm) (L : List Int) (F : List Nat) (vb : Value) (P : Bq) : Prop where
  sg : Sg w0 p M L F w
  rb : w.ownsRow w0.heap.size 87 2 vb P.length (flatB P)
  rows : ∀ q, q ∈ P → Row w 0 q.1 q.2.2 ∧ Row w 0 q.2.1 q.2.2
  sm : ∀ q, q ∈ P → q.2.2.length ≤ 4295037299
section
variable {w0 w w' w1 w2 w3 : World} {p : Nat} {M : Pm} {L L' : List Int} {F F' : List Nat} {vb vb' : Value} {P Q : Bq}
theorem Bm.bel (h : Bm w0 w p M L F vb P) : Below w0.heap.size w0 w := h.sg.bel
theorem Bm.below (h : Bm w0 w p M L F vb P) (hb : Below w.heap.size w w') : Bm w0 w' p M L F vb P := by
  obtain ⟨hs, h2, h3, h4⟩ := h
  exact ⟨hs.below hb, own_move h2 (fun k hk => hb.block k (own_lt h2 k hk)), fun q hq => ⟨(h3 q hq).1.below hb, (h3 q hq).2.below hb⟩, h4⟩
theorem Bm.pool (h : Bm w0 w p M L F vb P) (hs' : Sg w0 p M L' F' w') (ht : Turn w w' F) : Bm w0 w' p M L' F' vb P := by
  obtain ⟨hs, h2, h3, h4⟩ := h
  have hr : ∀ {v : Value} {xs : List S27}, Row w 0 v xs → Row w' 0 v xs := fun h => h.step (fun k hk => ht.block k (Row.lt h k hk).2 (by obtain ⟨c, hc⟩ := own_typed h k hk; exact hs.p1.ne27 hc))
  exact ⟨hs', own_move h2 (fun k hk => ht.block k (own_lt h2 k hk) (by obtain ⟨c, hc⟩ := own_typed h2 k hk; exact hs.p1.neT (.inr (.inr rfl)) hc)), fun q hq => ⟨hr (h3 q hq).1, hr (h3 q hq).2⟩, h4⟩
/-- a list that is newer is written -/
theorem Bm.turn (h : Bm w0 w p M L F vb P) (hb : Below w.heap.size w w1) {l : Value} (hl : ∀ k, l.ownBlock = some k → w.heap.size ≤ k) (ht : Turn w1 w2 l.ownBlock.toList) : Bm w0 w2 p M L F vb P :=
  h.below (hb.trans (ht.below hb.size (fun k hk => hl k (by simpa using hk))))
/-- the book has grown -/
theorem Bm.grow (h : Bm w0 w p M L F vb P) (o : w'.ownsRow w0.heap.size 87 2 vb' (P.length + Q.length) (flatB P ++ flatB Q)) (g : w.grownBy w' vb.ownBlock) (hQ : ∀ q, q ∈ Q → Row w 0 q.1 q.2.2 ∧ Row w 0 q.2.1 q.2.2) (hsm : ∀ q, q ∈ Q → q.2.2.length ≤ 4295037299) : Bm w0 w' p M L F vb' (P ++ Q) := by
  obtain ⟨hs, h2, h3, h4⟩ := h
  have ht : Turn w w' vb.ownBlock.toList := Turn.of_grown g (fun b hb => by simp [hb])
  have hr : ∀ {v : Value} {xs : List S27}, Row w 0 v xs → Row w' 0 v xs := fun h => h.step (fun k hk => ht.block k (Row.lt h k hk).2 (fun hm => by
    have hm : vb.ownBlock = some k := by simpa using hm
    obtain ⟨c1, hc1⟩ := own_typed h k hk
    obtain ⟨c2, hc2⟩ := own_typed h2 k hm
    rw [hc1] at hc2
    exact absurd (Obj.cells.inj (Option.some.inj hc2)).2.1 (by decide)))
  refine ⟨⟨hs.p1.turn ht (fun k hk hm => ?_), hs.l1, hs.n1, hs.bel.trans (ht.below hs.bel.size (fun k hk => own_base h2 k (by simpa using hk)))⟩, by rw [List.length_append, flatB_append]; exact o, fun q hq => ?_, fun q hq => ?_⟩
  · have hm : vb.ownBlock = some k := by simpa using hm
    obtain ⟨c, hc⟩ := own_typed h2 k hm
    exact hs.p1.neT (.inr (.inr rfl)) hc hk
  · rcases List.mem_append.1 hq with hq | hq
    · exact ⟨hr (h3 q hq).1, hr (h3 q hq).2⟩
    · exact ⟨hr (hQ q hq).1, hr (hQ q hq).2⟩
  · rcases List.mem_append.1 hq with hq | hq
    · exact h4 q hq
    · exact hsm q hq
theorem Bm.keptC (h : Bm w0 w p M L F vb P) (hp : P.length ≤ 1048576) : Calls Try.prog 26 #[vb] w fun e w' => e = .returned (.bool true) ∧ Below w.heap.size w w' := by
  have hl0 : (bkL P).length = P.length := by simp [bkL]
  obtain ⟨A, c, e, hC⟩ := own_reads_row (show w.ownsRow w0.heap.size 87 2 vb (bkL P).length (flatB P) from by rw [hl0]; exact h.rb) (bk_reps h.rows) rfl
  subst e
  have hcap : (bkL P).length ≤ c := by rw [hl0]; exact own_cap (by have := h.rb; rw [hl0] at this; exact this)
  have := weftlaw10_kept.calls (P.length + 4295037299 + 2) A c (bkL P) true w hC hcap (kept_l (B := 4295037299) (by omega) P.length 0 P _ (by omega) hp h.sm (by omega))
  exact this.mono (fun e w' h => ⟨h.1, h.2.below⟩)
theorem info87 : (Try.prog.info? 87).map (fun i => (i.zero, i.size, i.bytes)) = some (some (.agg #[.slice none 0 0, .slice none 0 0]), 2, 48) := by kernel_rfl
set_option maxRecDepth 100000 in
/-- what marked left is put into the book -/
theorem Bm.book (h : Bm w0 w p M L F vb P) {b : Nat} (hQ : Q.length = 4) (hc : ∀ j u, (flatB Q)[j]? = some u → w.cell? ((⟨b, 0, none⟩ : Addr).add j) = some u) (hr : ∀ q, q ∈ Q → Row w 0 q.1 q.2.2 ∧ Row w 0 q.2.1 q.2.2) (hsm : ∀ q, q ∈ Q → q.2.2.length ≤ 4295037299) (hp : P.length ≤ 1048576) :
    ∃ vb' w', (Builtin.append_ #[58, 58] 58 #[vb, .slice (some ⟨b, 0, none⟩) 4 4]).run Try.prog w = .ok vb' w' ∧ Bm w0 w' p M L F vb' (P ++ Q) ∧ w.grownBy w' vb.ownBlock := by
  obtain ⟨i, hi, hzz⟩ := Option.map_eq_some_iff.1 info87
  simp only [Prod.mk.injEq] at hzz
  obtain ⟨hz, hs, hbb⟩ := hzz
  obtain ⟨v', w', h1, h2, h3, h4⟩ := app_any w (t := 58) (e := 87) (news := flatB Q) Try.underlying58 hi hz hs hbb rfl (by omega) h.rb h.bel.size (some ⟨b, 0, none⟩) 4 4 (by rw [flatB_length, hQ]) (.inr ⟨_, rfl, hc⟩) (fun u hu => by
    obtain ⟨j, hj, rfl⟩ := List.getElem_of_mem hu
    rw [flatB_length] at hj
    have hq := flatB_get Q (j / 2) Q[j / 2] (List.getElem?_eq_getElem (by omega))
    obtain ⟨r1, r2⟩ := hr _ (List.getElem_mem (show j / 2 < Q.length by omega))
    obtain ⟨A0, c0, e0, _⟩ := r1.C
    obtain ⟨A1, c1, e1, _⟩ := r2.C
    rcases Nat.mod_two_eq_zero_or_one j with h5 | h5
    · have e : j / 2 * 2 = j := by omega
      have h6 := hq.1
      rw [e, List.getElem?_eq_getElem (by rw [flatB_length]; exact hj), e0] at h6
      injection h6 with h6
      rw [h6]; rfl
    · have e : j / 2 * 2 + 1 = j := by omega
      have h6 := hq.2
      rw [e, List.getElem?_eq_getElem (by rw [flatB_length]; exact hj), e1] at h6
      injection h6 with h6
      rw [h6]; rfl) (by unfold maxLen; omega) (by omega)
  rw [← hQ] at h2
  exact ⟨v', w', h1, h.grow h2 h3 hr hsm, h3⟩
end
end Go.Proofs.Ytebnlhjakiipjaa.Pl
