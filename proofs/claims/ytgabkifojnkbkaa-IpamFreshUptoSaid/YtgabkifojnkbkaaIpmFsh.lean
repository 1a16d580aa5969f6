/- Rows full of one mark: what appends to them leave. Plain words over the kit's laws; no condition. IpamFresh: rows of pods full of one mark. IpamFresh: the book of lists that were kept. Plain words; no condition. IpamFresh: keep walked. IpamFresh: every list that was kept holds its mark (whole). No condition. IpamFresh: what stands in memory between two steps of its scripts: the two subnets, the book, the lists that are not in it yet. No condition. IpamFresh walked: every List is new memory. Its condition: at most 262144 steps (the Upto form). -/
import Derived.Test.YtgabkifojnkbkaaIpmHh
import Derived.Test.YtgabkifojnkbkaaIpmRx

import Derived.Deep.RegionHeld3
import Derived.StillTailTactics
import Derived.Deep.AppendLies
import Derived.Deep.DeepCutAuto
import Derived.Deep.CutBlock
import Derived.Deep.LoopGhost
import Derived.Test.YtgabkifojnkbkaaWLast
import Derived.Test.YtgabkifojnkbkaaIpmTw
set_option linter.unusedVariables false
set_option linter.unusedSimpArgs false
namespace Go.Proofs.Ytgabkifojnkbkaa.Mk
open Go.RowKit Go.Maps Go.Proofs.YtgabkifojnkbkaaW.PrintWords
/-- n times the mark's cells -/
def repC (mc : List Value) : Nat → List Value
  | 0 => []
  | n + 1 => mc ++ repC mc n
theorem repC_length {mc : List Value} {sz : Nat} (h : mc.length = sz) : ∀ n, (repC mc n).length = n * sz
  | 0 => by simp [repC]
  | n + 1 => by rw [repC, List.length_append, repC_length h n, h, Nat.add_mul]; omega
theorem repC_add (mc : List Value) : ∀ a b, repC mc (a + b) = repC mc a ++ repC mc b
  | 0, b => by simp [repC]
  | a + 1, b => by rw [show a + 1 + b = (a + b) + 1 from by omega, repC, repC, repC_add mc a b, List.append_assoc]
/-- block g, of cap elements, begins with K marks -/
def Mk (w : World) (e : TypeId) (sz : Nat) (mc : List Value) (g K cap : Nat) : Prop :=
  ∃ cur, w.heap[g]? = some (.cells cur e (0, 0)) ∧ cur.size = cap * sz ∧ cap ≤ maxLen ∧ K ≤ cap ∧ cur.toList.take (K * sz) = repC mc K
section
variable {w w' : World} {e : TypeId} {sz : Nat} {mc : List Value} {g K cap n : Nat}
theorem Mk.step (h : Mk w e sz mc g K cap) (hb : w'.heap[g]? = w.heap[g]?) : Mk w' e sz mc g K cap := by
  obtain ⟨cur, h1, h2⟩ := h
  exact ⟨cur, hb.trans h1, h2⟩
theorem Mk.lt (h : Mk w e sz mc g K cap) : g < w.heap.size := by
  obtain ⟨cur, h1, h2⟩ := h
  exact (Array.getElem?_eq_some_iff.1 h1).1
theorem Mk.own (h : Mk w e sz mc g K cap) (hm : mc.length = sz) (hn : n ≤ K) : w.ownsRow 0 e sz (.slice (some ⟨g, 0, none⟩) n cap) n (repC mc n) := by
  obtain ⟨cur, h1, h2, h3, h4, h5⟩ := h
  refine ⟨repC_length hm n, .inr ⟨g, cap, cur, rfl, Nat.zero_le _, h1, by omega, h3, h2, ?_⟩⟩
  have h6 : (cur.toList.take (K * sz)).take (n * sz) = cur.toList.take (n * sz) := by
    rw [List.take_take, Nat.min_eq_left (Nat.mul_le_mul_right sz hn)]
  rw [← h6, h5]
  obtain ⟨d, rfl⟩ : ∃ d, K = n + d := ⟨K - n, by omega⟩
  rw [repC_add, ← repC_length hm n, List.take_left]
theorem Mk.of_own {base : Nat} (h : w.ownsRow base e sz (.slice (some ⟨g, 0, none⟩) n cap) n (repC mc n)) : Mk w e sz mc g n cap := by
  rcases h.2 with ⟨h1, _⟩ | ⟨g', cap', cur, h1, h2, h3, h4, h5, h6, h7⟩
  · cases h1
  · injection h1 with e1 e2 e3
    injection e1 with e1
    injection e1 with e4
    subst e4 e3
    exact ⟨cur, h3, h6, h5, h4, h7⟩
/-- append in place -/
theorem Mk.app {P : Program} (h : Mk w e sz mc g K cap) (hm : mc.length = sz) (t ty : TypeId) (i : TypeInfo) (ht : P.underlying t = some (.slice e)) (hi : P.info? e = some i) (hsz : i.size = sz)
    (a : Addr) (m c : Nat) (hnews : ∀ j u, (repC mc m)[j]? = some u → w.cell? (a.add j) = some u) (h1 : ∀ u ∈ repC mc m, u.oneCell' = true) (hn : n ≤ K) (hroom : n + m ≤ cap) :
    ∃ w', (Builtin.append_ #[t, t] ty #[.slice (some ⟨g, 0, none⟩) n cap, .slice (some a) m c]).run P w = .ok (.slice (some ⟨g, 0, none⟩) (n + m) cap) w' ∧ Mk w' e sz mc g (max K (n + m)) cap ∧ w.grownBy w' (some g) := by
  obtain ⟨cur, h2, h3, h4, h5, h6⟩ := h
  subst hsz
  have hl : (repC mc m).length = m * i.size := repC_length hm m
  have hfit : n * i.size + (repC mc m).length ≤ cur.size := by rw [hl, h3, ← Nat.add_mul]; exact Nat.mul_le_mul_right _ hroom
  have hr := run_append_room (P := P) w t ty e i ht hi g n cap cur h2 a m c (repC mc m) hl hnews h1 hroom hfit
  have htn : cur.toList.take (n * i.size) = repC mc n := by
    have h7 : (cur.toList.take (K * i.size)).take (n * i.size) = cur.toList.take (n * i.size) := by
      rw [List.take_take, Nat.min_eq_left (Nat.mul_le_mul_right i.size hn)]
    rw [← h7, h6]
    obtain ⟨d, rfl⟩ : ∃ d, K = n + d := ⟨K - n, by omega⟩
    rw [repC_add, ← repC_length hm n, List.take_left]
  refine ⟨_, hr, ⟨_, setRow_heap w g cur _ e (0, 0) h2, ?_, h4, by omega, ?_⟩, ⟨rfl, rfl, rfl, by simp, fun k _ hk => setRow_other w g k _ (fun e => hk (by rw [e]))⟩⟩
  · simp only [List.size_toArray, List.length_append, List.length_take, List.length_drop, Array.length_toList]
    omega
  · show List.take (max K (n + m) * i.size) (cur.toList.take (n * i.size) ++ repC mc m ++ cur.toList.drop (n * i.size + (repC mc m).length)) = _
    rw [htn, ← repC_add, hl, ← Nat.add_mul]
    rcases Nat.le_total K (n + m) with c | c
    · rw [Nat.max_eq_right c, ← repC_length hm (n + m), List.take_left]
    · rw [Nat.max_eq_left c]
      obtain ⟨d, rfl⟩ : ∃ d, K = n + m + d := ⟨K - (n + m), by omega⟩
      have h8 : cur.toList = repC mc (n + m + d) ++ cur.toList.drop ((n + m + d) * i.size) := by rw [← h6, List.take_append_drop]
      have h9 : List.drop ((n + m) * i.size) cur.toList = repC mc d ++ cur.toList.drop ((n + m + d) * i.size) := by
        rw [h8, repC_add, List.append_assoc, ← repC_length hm (n + m), List.drop_left]
        rw [← List.append_assoc, ← repC_add, ← h8]
      rw [h9, ← List.append_assoc, ← repC_add, ← repC_length hm (n + m + d), List.take_left]
/-- append that must make a new block -/
theorem Mk.grow {P : Program} (h : Mk w e sz mc g K cap) (hm : mc.length = sz) (t ty : TypeId) (i : TypeInfo) (z : Value) (bytes : Nat) (ht : P.underlying t = some (.slice e)) (hi : P.info? e = some i) (hz : i.zero = some z) (hsz : i.size = sz) (hby : i.bytes = bytes) (hzs : z.cells.size = sz) (h0 : 0 < sz)
    (a : Addr) (m c : Nat) (hnews : ∀ j u, (repC mc m)[j]? = some u → w.cell? (a.add j) = some u) (h1 : ∀ u ∈ repC mc m, u.oneCell' = true) (hn : n ≤ K) (hfull : cap < n + m) (h63 : n + m ≤ maxLen) (hbytes : (n + m) * bytes ≤ 140737488355328) :
    ∃ w' c', (Builtin.append_ #[t, t] ty #[.slice (some ⟨g, 0, none⟩) n cap, .slice (some a) m c]).run P w = .ok (.slice (some ⟨w.heap.size, 0, none⟩) (n + m) c') w' ∧ Mk w' e sz mc w.heap.size (n + m) c' ∧ Below w.heap.size w w' := by
  have hown := h.own hm hn
  have hsmall : n + m ≤ 9223372036854775807 := by simp only [maxLen] at h63; omega
  subst hsz hby
  have holds : ∀ j u, (repC mc n)[j]? = some u → w.cell? ((⟨g, 0, none⟩ : Addr).add j) = some u := hown.cells (g := g) rfl
  have hl : (repC mc m).length = m * i.size := repC_length hm m
  have hr := run_append_grow (P := P) w t ty e i z ht hi hz ⟨g, 0, none⟩ n cap (repC mc n) (repC_length hm n) holds a m c (repC mc m) hl hnews (by omega) (by omega) (growslice_fits (by omega) hbytes)
  have hge := grownCap_ge w (n + m) cap e
  have hcm : grownCap w (n + m) cap e ≤ maxLen := grownCap_le_maxLen w (n + m) cap e h63
  refine ⟨_, _, hr, ⟨_, heap_alloc_new w.drew _, ?_, hcm, hge, ?_⟩, (Below.refl _ _).drew.alloc (Nat.le_refl _) _⟩
  · simp only [Array.size_append, List.size_toArray, size_zeroCells, hzs, repC_length hm, ← Nat.add_mul]
    congr 1
    omega
  · simp only [Array.toList_append, List.append_assoc]
    rw [← List.append_assoc, ← repC_add, ← repC_length hm (n + m)]
    exact List.take_left
end
end Go.Proofs.Ytgabkifojnkbkaa.Mk

set_option linter.unusedVariables false
set_option linter.unusedSimpArgs false
namespace Go.Proofs.Ytgabkifojnkbkaa.Ip
open Go.RowKit Go.Maps Go.WideMaps Go.MapKept Go.Proofs.YtgabkifojnkbkaaW.PrintWords Go.Proofs.Ytgabkifojnkbkaa.PIpf Go.Proofs.Ytgabkifojnkbkaa.Mk
theorem str_one (z : Int) : (strOfNums [z]).size = 1 := rfl
theorem name_l0 : ∀ (j k : Nat) (x0 : Int) (x3 : ByteArray), j < k → j ≤ 6 → x3.size + j ≤ 100 → ∃ s, weftlaw15_name.l0 k x0 x3 (6 - (j : Int)) = some s
  | 0, k + 1, x0, x3, _, _, _ => by rw [weftlaw15_name.l0, if_neg (by omega)]; exact ⟨_, rfl⟩
  | j + 1, k + 1, x0, x3, h, h6, hs => by
    rw [weftlaw15_name.l0, if_pos (by omega), Option.bind_some, str_one, if_pos (by omega)]
    have e : wrap64 (6 - ((j + 1 : Nat) : Int) + 1) = 6 - (j : Int) := by unfold wrap64; omega
    rw [e]
    exact name_l0 j k _ _ (by omega) (by omega) (by rw [ByteArray.size_append, str_one]; omega)
theorem name_all (n : Int) : ∃ s, weftlaw15_name.f 8 n = some s := name_l0 6 8 n ⟨#[112]⟩ (by omega) (by omega) (by decide)
abbrev podM (m : Pod) : List Value := [.string m.1, .int .u32 m.2]
theorem podM_len (m : Pod) : (podM m).length = 2 := rfl
theorem podCells_rep (m : Pod) : ∀ n, podCells (List.replicate n m) = repC (podM m) n
  | 0 => rfl
  | n + 1 => by
    rw [List.replicate_succ, repC, ← podCells_rep m n]; rfl
/-- a slice that is full of the mark -/
def Src (w : World) (m : Pod) (vl : Value) (n c : Nat) : Prop := (vl = .slice none 0 0 ∧ n = 0 ∧ c = 0) ∨ ∃ g K, vl = .slice (some ⟨g, 0, none⟩) n c ∧ n ≤ K ∧ Mk w 84 2 (podM m) g K c
/-- whatever was full of the mark is so still -/
def Pres (m : Pod) (w w' : World) : Prop := ∀ g K c, Mk w 84 2 (podM m) g K c → Mk w' 84 2 (podM m) g K c
theorem Pres.trans {m : Pod} {w w1 w2 : World} (h : Pres m w w1) (k : Pres m w1 w2) : Pres m w w2 := fun g K c hh => k g K c (h g K c hh)
theorem Pres.below {m : Pod} {w w1 : World} (h : Below w.heap.size w w1) : Pres m w w1 := fun g K c hh => hh.step (h.block g hh.lt)
theorem Src.pres {m : Pod} {w w1 : World} {vl : Value} {n c : Nat} (h : Src w m vl n c) (hp : Pres m w w1) : Src w1 m vl n c := by
  rcases h with h | ⟨g, K, h1, h2, h3⟩
  · exact .inl h
  · exact .inr ⟨g, K, h1, h2, hp g K c h3⟩
theorem _root_.Go.Proofs.Ytgabkifojnkbkaa.Mk.Mk.low {w : World} {m : Pod} {g K K0 c : Nat} (h : Mk w 84 2 (podM m) g K c) (hk : K0 ≤ K) : Mk w 84 2 (podM m) g K0 c := Mk.of_own (h.own (podM_len m) hk)
theorem rep_cells (m : Pod) (k : Nat) : ∀ u ∈ repC (podM m) k, u.oneCell' = true := by
  induction k with
  | zero => intro u hu; cases hu
  | succ n ih =>
    intro u hu
    rw [repC] at hu
    rcases List.mem_append.1 hu with h | h
    · simp at h; rcases h with rfl | rfl <;> rfl
    · exact ih u h
theorem Src.app {m : Pod} {w : World} {vl : Value} {n c : Nat} (h : Src w m vl n c) (k : Nat) (hk : 1 ≤ k) (hk2 : k ≤ 2) (hn : n ≤ 4294967296) (a : Addr) (cc : Nat) (hnews : ∀ j u, (repC (podM m) k)[j]? = some u → w.cell? (a.add j) = some u) :
    ∃ w' g' K' c', (Builtin.append_ #[45, 45] 45 #[vl, .slice (some a) k cc]).run Try.prog w = .ok (.slice (some ⟨g', 0, none⟩) (n + k) c') w' ∧ n + k ≤ K' ∧ Mk w' 84 2 (podM m) g' K' c' ∧ Pres m w w' ∧ w.grownBy w' vl.ownBlock ∧ (vl.ownBlock = some g' ∨ w.heap.size ≤ g') := by
  obtain ⟨i0, hi, hzz⟩ := Option.map_eq_some_iff.1 info84
  simp only [Prod.mk.injEq] at hzz
  obtain ⟨hz0, hz1, hz2⟩ := hzz
  rcases h with ⟨rfl, rfl, rfl⟩ | ⟨g, K, rfl, h2, h3⟩
  · have hl : (repC (podM m) k).length = k * i0.size := by rw [hz1]; exact repC_length (podM_len m) k
    obtain ⟨v', w', hr, hown, hg, _, hloc⟩ := run_append_own_at (P := Try.prog) w 0 45 45 84 i0 _ 2 24 Try.underlying45 hi hz0 hz1 hz2 rfl (by omega) (.slice none 0 0) 0 [] (own_nil _ _ _ _) a k cc (repC (podM m) k) (repC_length (podM_len m) k) hnews (rep_cells m k) (by unfold maxLen; omega) (by omega) (Nat.zero_le _)
    rw [List.nil_append, Nat.zero_add] at hown
    rw [Nat.zero_add]
    obtain ⟨g', cap, rfl, _, _⟩ := hown.form (by omega)
    have hblk : ∀ b, w.grownBy w' (Value.slice none 0 0).ownBlock → b < w.heap.size → w'.heap[b]? = w.heap[b]? := fun b hg hb => hg.block b hb (by simp [Value.ownBlock])
    refine ⟨w', g', k, cap, hr, Nat.le_refl _, Mk.of_own hown, fun g K c hh => hh.step (hblk g hg hh.lt), hg, .inr ?_⟩
    rcases hloc with h | h
    · cases h
    · have h2 : some g' = some w.heap.size := h
      injection h2 with h2; omega
  · by_cases hroom : n + k ≤ c
    · obtain ⟨w', hr, hmk, hg⟩ := h3.app (P := Try.prog) (podM_len m) 45 45 i0 Try.underlying45 hi hz1 a k cc hnews (rep_cells m k) h2 hroom
      refine ⟨w', g, _, c, hr, by omega, hmk, fun g' K' c' hh => ?_, hg, .inl rfl⟩
      by_cases e : g' = g
      · subst e
        have hcc : c' = c := by
          obtain ⟨cur, q1, q2, _⟩ := id hh
          obtain ⟨cur2, r1, r2, _⟩ := id h3
          have e3 : cur = cur2 := (Obj.cells.inj (Option.some.inj (q1.symm.trans r1))).1
          subst e3
          omega
        subst hcc
        by_cases c1 : K' ≤ max K (n + k)
        · exact hmk.low c1
        · obtain ⟨w2, hr2, hmk2, _⟩ := hh.app (P := Try.prog) (n := n) (podM_len m) 45 45 i0 Try.underlying45 hi hz1 a k cc hnews (rep_cells m k) (by omega) hroom
          rw [hr] at hr2
          have hw : w' = w2 := by injection hr2
          subst hw
          exact hmk2.low (by omega)
      · exact hh.step (hg.block g' hh.lt (by intro e2; injection e2 with e2; exact e e2))
    · obtain ⟨w', c', hr, hmk, hb⟩ := h3.grow (P := Try.prog) (podM_len m) 45 45 i0 _ 24 Try.underlying45 hi hz0 hz1 hz2 rfl (by omega) a k cc hnews (rep_cells m k) h2 (by omega) (by unfold maxLen; omega) (by omega)
      exact ⟨w', w.heap.size, n + k, c', hr, Nat.le_refl _, hmk, Pres.below hb, ⟨hb.os, hb.tape, hb.output, hb.size, fun b hb2 _ => hb.block b hb2⟩, .inr (Nat.le_refl _)⟩
end Go.Proofs.Ytgabkifojnkbkaa.Ip

set_option linter.unusedVariables false
set_option linter.unusedSimpArgs false
namespace Go.Proofs.Ytgabkifojnkbkaa.Ip
open Go.RowKit Go.Maps Go.WideMaps Go.MapKept Go.Proofs.YtgabkifojnkbkaaW.PrintWords Go.Proofs.Ytgabkifojnkbkaa.PIpf Go.Proofs.Ytgabkifojnkbkaa.Mk
/-- one list that was kept: all of it is its mark -/
def Kp (w : World) (p : Value × Pod) (KB : List Nat) : Prop := ∃ n c, (p.1 = .slice none 0 0 ∧ n = 0) ∨ ∃ g K, p.1 = .slice (some ⟨g, 0, none⟩) n c ∧ n ≤ K ∧ Mk w 84 2 (podM p.2) g K c ∧ g ∈ KB
structure Bk (w : World) (b : Nat) (vL vM : Value) (L : List (Value × Pod)) (KB : List Nat) : Prop where
  blk : w.heap[b]? = some (.cells #[vL, vM] 62 (0, 0))
  rowL : w.ownsRow 0 45 1 vL L.length (L.map (·.1))
  rowM : w.ownsRow 0 84 2 vM L.length (podCells (L.map (·.2)))
  kp : ∀ p, p ∈ L → Kp w p KB
  ty : ∀ k, k ∈ KB → ∃ cur, w.heap[k]? = some (.cells cur 84 (0, 0))
  neM : ∀ k, vM.ownBlock = some k → k ∉ KB
def BkF (b : Nat) (vL vM : Value) (KB : List Nat) : List Nat := b :: (vL.ownBlock.toList ++ vM.ownBlock.toList ++ KB)
section
variable {w w1 : World} {b : Nat} {vL vM : Value} {L : List (Value × Pod)} {KB F : List Nat}
theorem Bk.lt (h : Bk w b vL vM L KB) : ∀ k, k ∈ BkF b vL vM KB → k < w.heap.size := by
  intro k hk
  simp only [BkF, List.mem_cons, List.mem_append, Option.mem_toList, Option.mem_def] at hk
  rcases hk with rfl | (hk | hk) | hk
  · exact blk_lt h.blk
  · exact (h.rowL.lt k hk).2
  · exact (h.rowM.lt k hk).2
  · obtain ⟨cur, hc⟩ := h.ty k hk; exact blk_lt hc
theorem Kp.step {p : Value × Pod} (h : Kp w p KB) (hb : ∀ k, k ∈ KB → w1.heap[k]? = w.heap[k]?) : Kp w1 p KB := by
  obtain ⟨n, c, h | ⟨g, K, h1, h2, h3, h4⟩⟩ := h
  · exact ⟨n, c, .inl h⟩
  · exact ⟨n, c, .inr ⟨g, K, h1, h2, h3.step (hb g h4), h4⟩⟩
theorem Kp.more {p : Value × Pod} {KB2 : List Nat} (h : Kp w p KB) (hs : ∀ k, k ∈ KB → k ∈ KB2) : Kp w p KB2 := by
  obtain ⟨n, c, h | ⟨g, K, h1, h2, h3, h4⟩⟩ := h
  · exact ⟨n, c, .inl h⟩
  · exact ⟨n, c, .inr ⟨g, K, h1, h2, h3, hs g h4⟩⟩
theorem Bk.step (h : Bk w b vL vM L KB) (hb : ∀ k, k ∈ BkF b vL vM KB → w1.heap[k]? = w.heap[k]?) : Bk w1 b vL vM L KB :=
  ⟨(hb b (by simp [BkF])).trans h.blk, row_step h.rowL (fun k hk => hb k (by simp [BkF, hk])), row_step h.rowM (fun k hk => hb k (by simp [BkF, hk])), fun p hp => (h.kp p hp).step (fun k hk => hb k (by simp [BkF, hk])),
    fun k hk => by obtain ⟨cur, hc⟩ := h.ty k hk; exact ⟨cur, (hb k (by simp [BkF, hk])).trans hc⟩, h.neM⟩
theorem Bk.turn (h : Bk w b vL vM L KB) (ht : Turn w w1 F) (hF : ∀ k, k ∈ BkF b vL vM KB → k ∉ F) : Bk w1 b vL vM L KB := h.step fun k hk => ht.block k (h.lt k hk) (hF k hk)
theorem Bk.below (h : Bk w b vL vM L KB) (hb : Below w.heap.size w w1) : Bk w1 b vL vM L KB := h.step fun k hk => hb.block k (h.lt k hk)
theorem Bk.cellL (h : Bk w b vL vM L KB) : w.cell? ⟨b, 0, none⟩ = some vL := blk_cell h.blk 0
theorem Bk.cellM (h : Bk w b vL vM L KB) : w.cell? ⟨b, 1, none⟩ = some vM := blk_cell h.blk 1
end
theorem set_two {L1 r : List Value} {x y a b : Value} {k : Nat} (hk : L1.length = k) : ((L1 ++ (x :: y :: r)).set k a).set (k + 1) b = L1 ++ (a :: b :: r) := by
  subst hk
  simp [List.set_append]
theorem fill_step {m : Pod} {xs : List Value} {i n : Nat} (hx : xs.length = n * 2) (hi : i < n) : ((repC (podM m) i ++ xs.drop (i * 2)).set (i * 2) (.string m.1)).set (i * 2 + 1) (.int .u32 m.2) = repC (podM m) (i + 1) ++ xs.drop ((i + 1) * 2) := by
  have h1 : i * 2 < xs.length := by omega
  have h2 : i * 2 + 1 < xs.length := by omega
  rw [List.drop_eq_getElem_cons h1, List.drop_eq_getElem_cons h2, set_two (repC_length (podM_len m) i), repC_add, List.append_assoc, show (i + 1) * 2 = i * 2 + 1 + 1 from by omega]
  rfl
abbrev KS (w0 : World) (b : Nat) (vL : Value) (w : World) : Prop := w.cell? ⟨b, 0, none⟩ = some vL ∧ b < w.heap.size ∧ Below w0.heap.size w0 w
section
variable {w0 w w' : World} {b : Nat} {vL : Value}
theorem KS.keep (hb : Below w.heap.size w w') (h : KS w0 b vL w) : KS w0 b vL w' := ⟨(hb.cell (p := ⟨b, 0, none⟩) h.2.1).trans h.1, Nat.lt_of_lt_of_le h.2.1 hb.size, below_step h.2.2 hb⟩
theorem KS.drew (h : KS w0 b vL w) : KS w0 b vL w.drew := h.keep ((Below.refl _ _).drew)
theorem KS.bel (h : KS w0 b vL w) : Below w0.heap.size w0 w := h.2.2
end
theorem info45 : (Try.prog.info? 45).map (fun i => (i.zero, i.size, i.bytes)) = some (some (.slice none 0 0), 1, 24) := by kernel_rfl
/-- append as a step, its run told -/
theorem wpList_append_run {P : Program} {w w1 : World} {ops : Array Oper} {rest : List Oper} {o : Oper} {a : Act} {Q : Exit → Act → World → Prop} (hgd : o.guard = none) (s x : Operand) (t : TypeId)
    (ho : o.op = .call { callee := .builtin .append, args := #[s, x], argTypes := #[t, t] }) {v1 v2 r : Value} (hs : a.eval s = v1) (hx : a.eval x = v2) (hrun : (Builtin.append_ #[t, t] o.type #[v1, v2]).run P w = .ok r w1)
    (h : wpList P ops Q rest (a.put o.dst r) w1) : wpList P ops Q (o :: rest) a w := by
  refine wpList_plain hgd fun K hK => ?_
  unfold Oper.wp execOp
  simp only [ho, resolve, invoke, builtin, Sem.run_bind, Sem.run_pure, Result.andThen_ok, List.map_toArray, List.map_cons, List.map_nil, hs, hx, hrun]
  exact hK _ _ h
theorem Mk_app1 {m : Pod} {w : World} {g n K c : Nat} (h : Mk w 84 2 (podM m) g K c) (hn : n ≤ K) (hroom : n + 1 ≤ c) (a : Addr) (cc : Nat) (hnews : ∀ j u, (repC (podM m) 1)[j]? = some u → w.cell? (a.add j) = some u) :
    ∃ w', (Builtin.append_ #[45, 45] 45 #[.slice (some ⟨g, 0, none⟩) n c, .slice (some a) 1 cc]).run Try.prog w = .ok (.slice (some ⟨g, 0, none⟩) (n + 1) c) w' ∧ Mk w' 84 2 (podM m) g (n + 1) c ∧ Pres m w w' ∧ w.grownBy w' (some g) := by
  obtain ⟨i0, hi, hzz⟩ := Option.map_eq_some_iff.1 info84
  simp only [Prod.mk.injEq] at hzz
  obtain ⟨hz0, hz1, hz2⟩ := hzz
  obtain ⟨w', hr, hmk, hg⟩ := h.app (P := Try.prog) (podM_len m) 45 45 i0 Try.underlying45 hi hz1 a 1 cc hnews (rep_cells m 1) hn hroom
  refine ⟨w', hr, hmk.low (by omega), fun g' K' c' hh => ?_, hg⟩
  by_cases e : g' = g
  · subst e
    have hcc : c' = c := by
      obtain ⟨cur, q1, q2, _⟩ := id hh
      obtain ⟨cur2, r1, r2, _⟩ := id h
      have e3 : cur = cur2 := (Obj.cells.inj (Option.some.inj (q1.symm.trans r1))).1
      subst e3
      omega
    subst hcc
    by_cases c1 : K' ≤ max K (n + 1)
    · exact hmk.low c1
    · obtain ⟨w2, hr2, hmk2, _⟩ := hh.app (P := Try.prog) (n := n) (podM_len m) 45 45 i0 Try.underlying45 hi hz1 a 1 cc hnews (rep_cells m 1) (by omega) hroom
      rw [hr] at hr2
      have hw : w' = w2 := by injection hr2
      subst hw
      exact hmk2.low (by omega)
  · exact hh.step (hg.block g' hh.lt (by intro e2; injection e2 with e2; exact e e2))
/-- a list that is kept, beside the others -/
def Kq (w : World) (m : Pod) (v : Value) (k g : Nat) : Prop := ∃ c, v = .slice (some ⟨g, 0, none⟩) k c ∧ Mk w 84 2 (podM m) g k c
theorem Kq.pres {w w1 : World} {m : Pod} {v : Value} {k g : Nat} (h : Kq w m v k g) (hp : Pres m w w1) : Kq w1 m v k g := by
  obtain ⟨c, h1, h2⟩ := h
  exact ⟨c, h1, hp g k c h2⟩
/-- append of one or two marks -/
theorem Src.put {m : Pod} {w : World} {vl : Value} {n c k : Nat} (h : Src w m vl n c) (hk : 1 ≤ k) (hk2 : k ≤ 2) (hn : n ≤ 1024) (cs : Array Value) (hcs : cs.toList = repC (podM m) k) :
    ∃ g' c' w', (Builtin.append_ #[45, 45] 45 #[vl, .slice (some ⟨w.heap.size, 0, none⟩) k k]).run Try.prog (w.alloc (.cells cs 84)) = .ok (.slice (some ⟨g', 0, none⟩) (n + k) c') w' ∧ Kq w' m (.slice (some ⟨g', 0, none⟩) (n + k) c') (n + k) g' ∧ Pres m w w' ∧ w.grownBy w' vl.ownBlock ∧ (vl.ownBlock = some g' ∨ w.heap.size ≤ g') := by
  have hb : Below w.heap.size w (w.alloc (.cells cs 84)) := below_alloc (Below.refl _ _) _
  obtain ⟨w', g', K', c', hr, h1, h2, h3, h4, h5⟩ := (h.pres (Pres.below hb)).app k hk hk2 (by omega) ⟨w.heap.size, 0, none⟩ k (by rw [← hcs]; exact World.news_of_block (heap_alloc_new w _))
  refine ⟨g', c', w', hr, ⟨c', rfl, h2.low h1⟩, (Pres.below hb).trans h3, World.grownBy.trans (World.grownBy_alloc w (.cells cs 84) _) h4, ?_⟩
  rcases h5 with h5 | h5
  · exact .inl h5
  · rw [World.size_alloc] at h5; exact .inr (by omega)
theorem own_ne {w : World} {v1 v2 : Value} {e1 e2 s1 s2 n1 n2 : Nat} {x1 x2 : List Value} (h1 : w.ownsRow 0 e1 s1 v1 n1 x1) (h2 : w.ownsRow 0 e2 s2 v2 n2 x2) (he : e1 ≠ e2) : ∀ k, v1.ownBlock = some k → v2.ownBlock ≠ some k := fun k hk1 hk2 => by
  obtain ⟨c1, hc1⟩ := own_typed h1 k hk1
  obtain ⟨c2, hc2⟩ := own_typed h2 k hk2
  rw [hc1] at hc2
  exact he (Obj.cells.inj (Option.some.inj hc2)).2.1
section
variable {w w8 w10 : World} {b : Nat} {vL vM vL' vM' : Value} {L : List (Value × Pod)} {KB : List Nat} {N : Nat} {X : List Value}
theorem bk_lists (h : Bk w b vL vM L KB) (hO : w8.ownsRow 0 45 1 vL' N X) (hG : w.grownBy w8 vL.ownBlock) (hl : vL'.ownBlock = vL.ownBlock ∨ ∃ k, vL'.ownBlock = some k ∧ w.heap.size ≤ k) :
    (w8.setCell ⟨b, 0, none⟩ vL').heap[b]? = some (.cells #[vL', vM] 62 (0, 0)) ∧ (w8.setCell ⟨b, 0, none⟩ vL').ownsRow 0 45 1 vL' N X ∧ (w8.setCell ⟨b, 0, none⟩ vL').ownsRow 0 84 2 vM L.length (podCells (L.map (·.2))) ∧ Turn w (w8.setCell ⟨b, 0, none⟩ vL') (b :: vL.ownBlock.toList) := by
  have hneb : some b ≠ vL.ownBlock := fun e => by
    obtain ⟨cells, hc⟩ := own_typed h.rowL _ e.symm
    rw [h.blk] at hc; cases hc
  have hnM : some b ≠ vM.ownBlock := fun e => by
    obtain ⟨cells, hc⟩ := own_typed h.rowM _ e.symm
    rw [h.blk] at hc; cases hc
  have hb8 : w8.heap[b]? = some (.cells #[vL, vM] 62 (0, 0)) := (hG.block b (blk_lt h.blk) hneb).trans h.blk
  refine ⟨blk_put hb8 0 _ rfl, row_step hO (fun k hk => Below.heap_setCell w8 ⟨b, 0, none⟩ _ k (fun e => ?_)), row_step h.rowM (fun k hk => (Below.heap_setCell w8 ⟨b, 0, none⟩ _ k (fun e => hnM (by rw [hk]; exact congrArg some e.symm))).trans (hG.block k (h.rowM.lt k hk).2 (fun e => own_ne h.rowM h.rowL (by decide) k hk e.symm))),
    ((Turn.refl w _).grown hG (fun k hk => Or.inl (by simp [hk]))).set (Or.inl (by simp)) _⟩
  have e2 : k = b := e
  subst e2
  rcases hl with h1 | ⟨k2, h1, h2⟩
  · rw [hk] at h1; exact hneb h1
  · rw [hk] at h1; injection h1 with h1; subst h1; have := blk_lt h.blk; omega
theorem bk_marks {Y : List Value} {M0 : Nat} (hb : w.heap[b]? = some (.cells #[vL', vM] 62 (0, 0))) (hL : w.ownsRow 0 45 1 vL' N X) (hM : w.ownsRow 0 84 2 vM M0 Y) {Z : List Value} (hO : w10.ownsRow 0 84 2 vM' N Z) (hG : w.grownBy w10 vM.ownBlock) (hl : vM'.ownBlock = vM.ownBlock ∨ ∃ k, vM'.ownBlock = some k ∧ w.heap.size ≤ k) :
    (w10.setCell ⟨b, 1, none⟩ vM').heap[b]? = some (.cells #[vL', vM'] 62 (0, 0)) ∧ (w10.setCell ⟨b, 1, none⟩ vM').ownsRow 0 45 1 vL' N X ∧ (w10.setCell ⟨b, 1, none⟩ vM').ownsRow 0 84 2 vM' N Z ∧ Turn w (w10.setCell ⟨b, 1, none⟩ vM') (b :: vM.ownBlock.toList) := by
  have hneb : some b ≠ vM.ownBlock := fun e => by
    obtain ⟨cells, hc⟩ := own_typed hM _ e.symm
    rw [hb] at hc; cases hc
  have hnL : some b ≠ vL'.ownBlock := fun e => by
    obtain ⟨cells, hc⟩ := own_typed hL _ e.symm
    rw [hb] at hc; cases hc
  have hb8 : w10.heap[b]? = some (.cells #[vL', vM] 62 (0, 0)) := (hG.block b (blk_lt hb) hneb).trans hb
  refine ⟨blk_put hb8 1 _ rfl, row_step hL (fun k hk => (Below.heap_setCell w10 ⟨b, 1, none⟩ _ k (fun e => hnL (by rw [hk]; exact congrArg some e.symm))).trans (hG.block k (hL.lt k hk).2 (fun e => own_ne hL hM (by decide) k hk e.symm))), row_step hO (fun k hk => Below.heap_setCell w10 ⟨b, 1, none⟩ _ k (fun e => ?_)),
    ((Turn.refl w _).grown hG (fun k hk => Or.inl (by simp [hk]))).set (Or.inl (by simp)) _⟩
  have e2 : k = b := e
  subst e2
  rcases hl with h1 | ⟨k2, h1, h2⟩
  · rw [hk] at h1; exact hneb h1
  · rw [hk] at h1; injection h1 with h1; subst h1; have := blk_lt hb; omega
end
theorem two_put {w4 : World} {p : Nat} {a u v0 v1 : Value} (h0 : w4.cell? ⟨p, 0, none⟩ = some v0) (h1 : w4.cell? ⟨p, 1, none⟩ = some v1) :
    ((w4.setCell ⟨p, 0, none⟩ a).setCell ⟨p, 1, none⟩ u).cell? ⟨p, 0, none⟩ = some a ∧ ((w4.setCell ⟨p, 0, none⟩ a).setCell ⟨p, 1, none⟩ u).cell? ⟨p, 1, none⟩ = some u :=
  ⟨(World.cell?_setCell_other _ _ _ _ (by intro e; injection e with _ e2; cases e2)).trans (World.cell?_setCell_same _ _ _ h0), World.cell?_setCell_same _ _ _ ((World.cell?_setCell_other _ _ _ _ (by intro e; injection e with _ e2; cases e2)).trans h1)⟩
/-- what keep leaves: the lists of before, and the four new ones -/
theorem keep_fin {w wd wr w9 wE : World} {b : Nat} {vL vM vL' vM' : Value} {L : List (Value × Pod)} {KB : List Nat} {A : Option Addr} {n c i g1 g2 c1 c2 : Nat} {xs : List Value} {m : Pod}
    (hB : Bk w b vL vM L KB) (hl : w.ownsRow 0 84 2 (.slice A n c) n xs) (hd : ∀ k, (Value.slice A n c).ownBlock = some k → k ∉ BkF b vL vM KB)
    (hb1 : Below w.heap.size w wd) (hTr : Turn wd wr (Value.slice A n c).ownBlock.toList)
    (h3 : Src wr m (.slice A (n + i) c) (n + i) c) (h6 : Src wr m (.slice A n c) n c)
    (q1 : Kq wr m (.slice (some ⟨g1, 0, none⟩) (n + 1) c1) (n + 1) g1) (q2 : Kq wr m (.slice (some ⟨g2, 0, none⟩) (n + 2) c2) (n + 2) g2)
    (hg1 : (Value.slice A n c).ownBlock = some g1 ∨ w.heap.size ≤ g1) (hg2 : (Value.slice A n c).ownBlock = some g2 ∨ w.heap.size ≤ g2)
    (hT9 : Turn wr w9 (b :: vL.ownBlock.toList)) (hlL : vL'.ownBlock = vL.ownBlock ∨ ∃ k, vL'.ownBlock = some k ∧ wr.heap.size ≤ k)
    (hTE : Turn w9 wE (b :: vM.ownBlock.toList)) (hlM : vM'.ownBlock = vM.ownBlock ∨ ∃ k, vM'.ownBlock = some k ∧ w9.heap.size ≤ k)
    (t1 : wE.heap[b]? = some (.cells #[vL', vM'] 62 (0, 0)))
    (t2 : wE.ownsRow 0 45 1 vL' (L.length + 4) (L.map (·.1) ++ [Value.slice A n c, .slice (some ⟨g1, 0, none⟩) (n + 1) c1, .slice (some ⟨g2, 0, none⟩) (n + 2) c2, .slice A (n + i) c]))
    (t3 : wE.ownsRow 0 84 2 vM' (L.length + 4) (podCells (L.map (·.2)) ++ (podM m ++ podM m ++ podM m ++ podM m))) :
    ∃ vL' vM' L' KB', Bk wE b vL' vM' L' KB' ∧ L'.length = L.length + 4 ∧ Turn w wE (BkF b vL vM KB ++ (Value.slice A n c).ownBlock.toList) ∧ ∀ k, k ∈ BkF b vL' vM' KB' → k ∈ BkF b vL vM KB ∨ (Value.slice A n c).ownBlock = some k ∨ w.heap.size ≤ k := by
  have hsz1 : w.heap.size ≤ wr.heap.size := Nat.le_trans hb1.size hTr.size
  have hsz2 : w.heap.size ≤ w9.heap.size := Nat.le_trans hsz1 hT9.size
  have hBr : Bk wr b vL vM L KB := (hB.below hb1).turn hTr (fun k hk hm => hd k (by simpa using hm) hk)
  have hbF : b ∈ BkF b vL vM KB := by simp [BkF]
  have hLF : ∀ k, vL.ownBlock = some k → k ∈ BkF b vL vM KB := fun k hk => by simp [BkF, hk]
  have hMF : ∀ k, vM.ownBlock = some k → k ∈ BkF b vL vM KB := fun k hk => by simp [BkF, hk]
  have hKF : ∀ k, k ∈ KB → k ∈ BkF b vL vM KB := fun k hk => by simp [BkF, hk]
  -- a block that is none of the book's own three is as it was in wr
  have hkeep : ∀ k, k < wr.heap.size → k ≠ b → vL.ownBlock ≠ some k → vM.ownBlock ≠ some k → wE.heap[k]? = wr.heap[k]? := fun k hk h1 h2 h3 =>
    (hTE.block k (Nat.lt_of_lt_of_le hk hT9.size) (by simp [h1, h3])).trans (hT9.block k hk (by simp [h1, h2]))
  have hKB : ∀ k, k ∈ KB → wE.heap[k]? = wr.heap[k]? := fun k hk => by
    obtain ⟨cur, hc⟩ := hBr.ty k hk
    refine hkeep k (blk_lt hc) (fun e => ?_) (fun e => ?_) (fun e => hBr.neM k e hk)
    · rw [e, hBr.blk] at hc; cases hc
    · obtain ⟨c9, hc9⟩ := own_typed hBr.rowL k e
      rw [hc] at hc9; cases hc9
  have hown : ∀ k, (Value.slice A n c).ownBlock = some k → wE.heap[k]? = wr.heap[k]? := fun k hk =>
    hkeep k (Nat.lt_of_lt_of_le (hl.lt k hk).2 hsz1) (fun e => hd k hk (e ▸ hbF)) (fun e => hd k hk (hLF k e)) (fun e => hd k hk (hMF k e))
  have hnew : ∀ g, g < wr.heap.size → ((Value.slice A n c).ownBlock = some g ∨ w.heap.size ≤ g) → wE.heap[g]? = wr.heap[g]? := fun g hg h => by
    rcases h with h | h
    · exact hown g h
    · exact hkeep g hg (fun e => by have := hB.lt b hbF; omega) (fun e => by have := hB.lt g (hLF g e); omega) (fun e => by have := hB.lt g (hMF g e); omega)
  have hnotK : ∀ g, ((Value.slice A n c).ownBlock = some g ∨ w.heap.size ≤ g) → vM.ownBlock ≠ some g := fun g h e => by
    rcases h with h | h
    · exact hd g h (hMF g e)
    · have := hB.lt g (hMF g e); omega
  have src_kp : ∀ j, Src wr m (.slice A j c) j c → j ≤ n + i → Kp wE (Value.slice A j c, m) (KB ++ ((Value.slice A n c).ownBlock.toList ++ [g1, g2])) := fun j h hj => by
    rcases h with ⟨e, z2, z3⟩ | ⟨g, K, e, z2, z3⟩
    · exact ⟨0, 0, .inl ⟨e, rfl⟩⟩
    · injection e with e1 e2 e3
      subst e1
      exact ⟨j, c, .inr ⟨g, K, rfl, z2, z3.step (hown g rfl), by simp [Value.ownBlock]⟩⟩
  obtain ⟨d1, e1, m1⟩ := q1
  obtain ⟨d2, e2, m2⟩ := q2
  injection e1 with _ _ e1
  injection e2 with _ _ e2
  subst e1 e2
  refine ⟨vL', vM', L ++ [(Value.slice A n c, m), (.slice (some ⟨g1, 0, none⟩) (n + 1) c1, m), (.slice (some ⟨g2, 0, none⟩) (n + 2) c2, m), (.slice A (n + i) c, m)], KB ++ ((Value.slice A n c).ownBlock.toList ++ [g1, g2]), ⟨t1, ?_, ?_, ?_, ?_, ?_⟩, by simp, ?_, ?_⟩
  · simpa using t2
  · simpa [podCells, podM, List.flatMap] using t3
  · intro p hp
    rcases List.mem_append.1 hp with hp | hp
    · exact ((hBr.kp p hp).step hKB).more (fun k hk => by simp [hk])
    · simp only [List.mem_cons, List.not_mem_nil, or_false] at hp
      rcases hp with rfl | rfl | rfl | rfl
      · exact src_kp n h6 (by omega)
      · exact ⟨n + 1, c1, .inr ⟨g1, n + 1, rfl, Nat.le_refl _, m1.step (hnew g1 m1.lt hg1), by simp⟩⟩
      · exact ⟨n + 2, c2, .inr ⟨g2, n + 2, rfl, Nat.le_refl _, m2.step (hnew g2 m2.lt hg2), by simp⟩⟩
      · exact src_kp (n + i) h3 (Nat.le_refl _)
  · intro k hk
    simp only [List.mem_append, List.mem_cons, List.not_mem_nil, or_false, Option.mem_toList, Option.mem_def] at hk
    rcases hk with hk | hk | rfl | rfl
    · obtain ⟨cur, hc⟩ := hBr.ty k hk
      exact ⟨cur, (hKB k hk).trans hc⟩
    · rcases h6 with ⟨e, _, _⟩ | ⟨g, K, e, _, cur, hc, _⟩
      · rw [e] at hk; cases hk
      · have e9 := hown k hk
        injection e with e1 e2 e3
        subst e1
        injection hk with hk
        subst hk
        exact ⟨cur, e9.trans hc⟩
    · obtain ⟨cur, hc, _⟩ := id m1
      exact ⟨cur, (hnew k m1.lt hg1).trans hc⟩
    · obtain ⟨cur, hc, _⟩ := id m2
      exact ⟨cur, (hnew k m2.lt hg2).trans hc⟩
  · intro k hk hm
    simp only [List.mem_append, List.mem_cons, List.not_mem_nil, or_false, Option.mem_toList, Option.mem_def] at hm
    rcases hlM with h | ⟨k2, h, hk2⟩
    · rw [h] at hk
      rcases hm with hm | hm | rfl | rfl
      · exact hB.neM k hk hm
      · exact hd k hm (hMF k hk)
      · exact hnotK k hg1 hk
      · exact hnotK k hg2 hk
    · rw [h] at hk
      injection hk with hk
      subst hk
      have s9 := hT9.size
      rcases hm with hm | hm | rfl | rfl
      · have := hB.lt k2 (hKF k2 hm); omega
      · have := (hl.lt k2 hm).2; omega
      · have := m1.lt; omega
      · have := m2.lt; omega
  · refine (((Turn.of_below hb1 _).trans hTr (fun k hk => Or.inl (by simp only [List.mem_append]; exact .inr hk))).trans hT9 (fun k hk => Or.inl ?_)).trans hTE (fun k hk => Or.inl ?_)
    · rcases List.mem_cons.1 hk with rfl | hk
      · exact List.mem_append.2 (.inl hbF)
      · exact List.mem_append.2 (.inl (hLF k (by simpa using hk)))
    · rcases List.mem_cons.1 hk with rfl | hk
      · exact List.mem_append.2 (.inl hbF)
      · exact List.mem_append.2 (.inl (hMF k (by simpa using hk)))
  · intro k hk
    simp only [BkF, List.mem_cons, List.mem_append, Option.mem_toList, Option.mem_def, List.not_mem_nil, or_false] at hk
    rcases hk with rfl | (hk | hk) | hk | hk | rfl | rfl
    · exact .inl hbF
    · rcases hlL with h | ⟨k2, h, hk2⟩
      · exact .inl (hLF k (h ▸ hk))
      · rw [h] at hk; injection hk with hk; subst hk; exact .inr (.inr (by omega))
    · rcases hlM with h | ⟨k2, h, hk2⟩
      · exact .inl (hMF k (h ▸ hk))
      · rw [h] at hk; injection hk with hk; subst hk; exact .inr (.inr (by omega))
    · exact .inl (hKF k hk)
    · exact .inr (.inl hk)
    · exact .inr hg1
    · exact .inr hg2
end Go.Proofs.Ytgabkifojnkbkaa.Ip

set_option linter.unusedVariables false
set_option linter.unusedSimpArgs false
namespace Go.Proofs.Ytgabkifojnkbkaa.Ip
open Go.Proofs.YtgabkifojnkbkaaW.PrintLast Go.RowKit Go.Maps Go.WideMaps Go.MapKept Go.Proofs.YtgabkifojnkbkaaW.PrintWords Go.Proofs.Ytgabkifojnkbkaa.PIpf Go.Proofs.Ytgabkifojnkbkaa.Mk
set_option maxHeartbeats 16000000 in
set_option maxRecDepth 100000 in
theorem keep32 (w : World) (b : Nat) (vL vM : Value) (L : List (Value × Pod)) (KB : List Nat) (vl : Value) (n : Nat) (xs : List Value) (hB : Bk w b vL vM L KB) (hl : w.ownsRow 0 84 2 vl n xs) (hn : n ≤ 1024) (hL : L.length ≤ 8388608) (hd : ∀ k, vl.ownBlock = some k → k ∉ BkF b vL vM KB) :
    Calls Try.prog 32 #[.pointer (some ⟨b, 0, none⟩), vl] w fun e w' => e = .returned (.tuple #[]) ∧ ∃ vL' vM' L' KB', Bk w' b vL' vM' L' KB' ∧ L'.length = L.length + 4 ∧ Turn w w' (BkF b vL vM KB ++ vl.ownBlock.toList) ∧ ∀ k, k ∈ BkF b vL' vM' KB' → k ∈ BkF b vL vM KB ∨ vl.ownBlock = some k ∨ w.heap.size ≤ k := by
  obtain ⟨A, c, rfl⟩ := own_slice hl
  obtain ⟨AL, cL, rfl⟩ := own_slice hB.rowL
  obtain ⟨AM', cM, rfl⟩ := own_slice hB.rowM
  obtain ⟨nm, hnm⟩ := name_all (L.length : Int)
  have hname := Aside0.mk (fun w => weftlaw15_name.calls 8 (L.length : Int) nm w hnm)
  have HB := Aside0.mk hB
  have HL := Aside0.mk hl
  have HD := Aside0.mk hd
  have HN := Aside0.mk hn
  have HLL := Aside0.mk hL
  have kL := hB.cellL
  have hbs : b < w.heap.size := blk_lt hB.blk
  have hbel : Below w.heap.size w w := Below.refl _ _
  obtain ⟨u, hu⟩ : ∃ u, u = (L.length : Int) % 4294967296 := ⟨_, rfl⟩
  have hwu : IntKind.u32.wrap (L.length : Int) = u := by rw [hu]; simp [IntKind.wrap, IntKind.bits, IntKind.signed]
  have HU : Aside0 (0 ≤ u ∧ u < 4294967296) := ⟨by omega⟩
  clear hB hl hd hn hL hu hnm
  go_enter Try.func32, Try.ntmps32
  go_upto_region 0 with fail
  go_cut [4] (fun v wx => ∃ p, v = .pointer (some ⟨p, 0, none⟩) ∧ wx.cell? ⟨p, 0, none⟩ = some (.string nm) ∧ wx.cell? ⟨p, 1, none⟩ = some (.int .u32 u) ∧ w.heap.size ≤ p ∧ p < wx.heap.size ∧ Below w.heap.size w wx)
  case first =>
    go_region_with (go_at_call 29; refine (hname.out _).mono ?_; rintro e_ w4 ⟨rfl, hb4⟩; first
      | (have hbA : Below w.heap.size w w4 := below_step ((Below.refl _ w).drew) hb4; have kL4 : w4.cell? ⟨b, 0, none⟩ = some (.slice AL L.length cL) := (hbA.cell (p := ⟨b, 0, none⟩) hbs).trans kL; have hb4s : b < w4.heap.size := Nat.lt_of_lt_of_le hbs hbA.size; clear hb4)
      | (have hbA : Below w.heap.size w w4 := below_step ((below_alloc (Below.refl _ w) _).drew) hb4; have kL4 : w4.cell? ⟨b, 0, none⟩ = some (.slice AL L.length cL) := (hbA.cell (p := ⟨b, 0, none⟩) hbs).trans kL; have hb4s : b < w4.heap.size := Nat.lt_of_lt_of_le hbs hbA.size; have hq := blk_below (heap_alloc_new w (.cells #[.string ⟨#[]⟩, .int .u32 0] 84)) ((Below.refl _ _).drew.trans hb4); have kp0 := blk_cell hq 0; have kp1 := blk_cell hq 1; have kpf := blk_frozen hq 0; have kpg := blk_frozen hq 1; have hq4 := blk_lt hq; clear hb4 hq))
    all_goals
      go_wp2_with fail
      go_meet
      first
        | exact ⟨w4.heap.size, rfl, blk_cell (heap_alloc_new w4 _) 0, blk_cell (heap_alloc_new w4 _) 1, hbA.size, by rw [World.size_alloc]; omega, hbA.alloc hbA.size _⟩
        | exact ⟨w.heap.size, rfl, (two_put kp0 kp1).1, (two_put kp0 kp1).2, Nat.le_refl _, by simpa [World.setCell] using hq4, (hbA.setCell (p := ⟨w.heap.size, 0, none⟩) (Nat.le_refl _) _).setCell (p := ⟨w.heap.size, 1, none⟩) (Nat.le_refl _) _⟩
  case rest =>
    obtain ⟨p, rfl, kp0, kp1, hpl, hpg, hb1⟩ := hcut
    rename World => wd
    have HB1 := Aside0.mk hb1
    have HP := Aside0.mk (show w.heap.size ≤ p ∧ p < wd.heap.size from ⟨hpl, hpg⟩)
    have HLc := Aside0.mk (row_step HL.out (fun k hk => hb1.block k (HL.out.lt k hk).2))
    have HKP := Aside0.mk (show wd.cell? ⟨p, 0, none⟩ = some (.string nm) ∧ wd.cell? ⟨p, 1, none⟩ = some (.int .u32 u) from ⟨kp0, kp1⟩)
    clear kL hwu hbel hb1 hpl hpg kp0 kp1
    go_upto_block 0 with fail
    go_cut [5] (fun v wx => Aside0 (Src wx (nm, u) (.slice A n c) n c) ∧ Aside0 (Turn wd wx (Value.slice A n c).ownBlock.toList))
    case first =>
      go_wp2_with fail
      go_loopg [5] n (fun k v wr => ∃ i : Nat, v = .int .i64 (i : Int) ∧ i + k = n ∧ Aside0 (wr.ownsRow 0 84 2 (.slice A n c) n (repC (podM (nm, u)) i ++ xs.drop (i * 2))) ∧ Aside0 (Turn wd wr (Value.slice A n c).ownBlock.toList))
      case atStart => exact ⟨0, rfl, by omega, HLc, ⟨Turn.refl _ _⟩⟩
      case round =>
        obtain ⟨i, rfl, hi, HR, HT⟩ := hrel
        cases gk with
        | zero =>
          obtain rfl : i = n := by omega
          have hxl : xs.length = i * 2 := HL.out.1
          have hnil : xs.drop (i * 2) = [] := List.drop_eq_nil_of_le (by omega)
          go_wp2_with fail
          go_meet
          refine ⟨⟨?_⟩, HT⟩
          have hr := HR.out
          rw [hnil, List.append_nil] at hr
          rcases hr.2 with ⟨h1, h2⟩ | ⟨g, cap, cur, h1, _⟩
          · injection h1 with e1 e2 e3
            exact .inl ⟨by rw [e1, e2, e3], h2, e3⟩
          · injection h1 with e1 e2 e3
            subst e1
            exact .inr ⟨g, i, rfl, Nat.le_refl _, Mk.of_own hr⟩
        | succ k =>
          have hin : i < n := by omega
          have hii : (i : Int) < (n : Int) := by omega
          obtain ⟨g, cap, e, _, hgr⟩ := HR.out.form (by omega)
          injection e with e1 e2 e3
          subst e1 e3
          clear e2
          have hpg : p ≠ g := fun e => by
            have := (HL.out.lt g rfl).2
            have := HP.out.1
            omega
          have hk1 := HT.out.block p HP.out.2 (by simpa [Value.ownBlock] using hpg)
          have kp0 : wr.cell? ⟨p, 0, none⟩ = some (.string nm) := (World.cell?_of_block (a := ⟨p, 0, none⟩) hk1).trans HKP.out.1
          have kp1 : wr.cell? ⟨p, 1, none⟩ = some (.int .u32 u) := (World.cell?_of_block (a := ⟨p, 1, none⟩) hk1).trans HKP.out.2
          have hw1 : IntKind.i64.wrap ((i : Int) + 1) = ((i + 1 : Nat) : Int) := by rw [show (i : Int) + 1 = ((i + 1 : Nat) : Int) from by omega]; exact wrap64_id (by omega) (by have := HN.out; omega)
          have hf0 := HR.out.frozenAt (g := g) (i * 2)
          have hf1 := HR.out.frozenAt (g := g) (i * 2 + 1)
          have hs := ((HR.out.stored (i * 2) (.string nm)).1.stored (i * 2 + 1) (.int .u32 u)).1
          have hll : (repC (podM (nm, u)) i ++ xs.drop (i * 2)).length = n * 2 := HR.out.1
          obtain ⟨v0, hv0⟩ : ∃ v0, (repC (podM (nm, u)) i ++ xs.drop (i * 2))[i * 2]? = some v0 := ⟨_, List.getElem?_eq_getElem (by omega)⟩
          obtain ⟨v1, hv1⟩ : ∃ v1, (repC (podM (nm, u)) i ++ xs.drop (i * 2))[i * 2 + 1]? = some v1 := ⟨_, List.getElem?_eq_getElem (by omega)⟩
          have kc0 := HR.out.cells (g := g) rfl (i * 2) v0 hv0
          have kc1 := HR.out.cells (g := g) rfl (i * 2 + 1) v1 hv1
          rw [add_plain] at kc0 kc1
          rw [fill_step HL.out.1 hin] at hs
          have HS := Aside0.mk hs
          clear hk1 hv0 hv1 hll hs
          go_wp2_with fail
          go_roundg k
          case measure => omega
          case rel => exact ⟨i + 1, by first | rfl | go_num, by omega, HS, ⟨(HT.out.set (p := ⟨g, i * 2, none⟩) (Or.inl (by simp [Value.ownBlock])) _).set (p := ⟨g, i * 2 + 1, none⟩) (Or.inl (by simp [Value.ownBlock])) _⟩⟩
    case rest =>
      clear HLc
      obtain ⟨HS, HT⟩ := hcut
      rename World => we
      have HOWN : Aside0 (∀ k, (Value.slice A n c).ownBlock = some k → k < w.heap.size) := ⟨fun k hk => (HL.out.lt k hk).2⟩
      have HPK : Aside0 (∀ w', Turn wd w' (Value.slice A n c).ownBlock.toList → w'.cell? ⟨p, 0, none⟩ = some (.string nm) ∧ w'.cell? ⟨p, 1, none⟩ = some (.int .u32 u)) := ⟨fun w' hT => by
        have hpn : p ∉ (Value.slice A n c).ownBlock.toList := fun hm => by
          have := HOWN.out p (by simpa using hm)
          have := HP.out.1
          omega
        have hk1 := hT.block p HP.out.2 hpn
        exact ⟨(World.cell?_of_block (a := ⟨p, 0, none⟩) hk1).trans HKP.out.1, (World.cell?_of_block (a := ⟨p, 1, none⟩) hk1).trans HKP.out.2⟩⟩
      obtain ⟨kp0, kp1⟩ := HPK.out we HT.out
      obtain ⟨g1, c1, w5, hr5, hq5, hp5, hg5, hl5⟩ := HS.out.put (k := 1) (by omega) (by omega) HN.out #[.string nm, .int .u32 u] rfl
      have hT5 : Turn wd w5 (Value.slice A n c).ownBlock.toList := HT.out.grown hg5 (fun b hb => Or.inl (by simp [hb]))
      have hS5 := HS.out.pres hp5
      obtain ⟨g2, c2, w6, hr6, hq6, hp6, hg6, hl6⟩ := hS5.put (k := 2) (by omega) (by omega) HN.out #[.string nm, .int .u32 u, .string nm, .int .u32 u] rfl
      have hT6 : Turn wd w6 (Value.slice A n c).ownBlock.toList := hT5.grown hg6 (fun b hb => Or.inl (by simp [hb]))
      have R5 := Aside0.mk hr5
      have R6 := Aside0.mk hr6
      have K5 := Aside0.mk (HPK.out w5 hT5)
      have K6 := Aside0.mk (HPK.out w6 hT6)
      have HS6 := Aside0.mk (hS5.pres hp6)
      have HQ1 := Aside0.mk (hq5.pres hp6)
      have HQ2 := Aside0.mk hq6
      have HT6 := Aside0.mk hT6
      have HG1 : Aside0 ((Value.slice A n c).ownBlock = some g1 ∨ w.heap.size ≤ g1) := ⟨hl5.imp id (fun h => Nat.le_trans (Nat.le_trans HB1.out.size HT.out.size) h)⟩
      have HG2 : Aside0 ((Value.slice A n c).ownBlock = some g2 ∨ w.heap.size ≤ g2) := ⟨hl6.imp id (fun h => Nat.le_trans (Nat.le_trans HB1.out.size hT5.size) h)⟩
      clear hr5 hq5 hp5 hg5 hl5 hT5 hS5 hr6 hq6 hp6 hg6 hl6 hT6
      go_upto_region 8 with (first
        | ((with_reducible refine gate_builtin (b := .append) (xs := #[.tmp 33, .tmp 35]) rfl ?_); at_builtin; refine wpList_append_run rfl (.tmp 33) (.tmp 35) 45 rfl rfl rfl R5.out ?_; have kq0 := K5.out.1; have kq1 := K5.out.2)
        | ((with_reducible refine gate_builtin (b := .append) (xs := #[.tmp 37, .tmp 40]) rfl ?_); at_builtin; refine wpList_append_run rfl (.tmp 37) (.tmp 40) 45 rfl rfl rfl R6.out ?_; have kr0 := K6.out.1; have kr1 := K6.out.2))
      clear kp0 kp1 kq0 kq1 kr0 kr1 R5 R6 K5 K6 HS HT
      have hnc : n ≤ c ∧ c ≤ maxLen := by
        rcases HS6.out with ⟨_, h1, h2⟩ | ⟨g, K, _, h2, cur, _, _, h3, h4, _⟩
        · exact ⟨by omega, by rw [h2]; exact Nat.zero_le _⟩
        · exact ⟨by omega, h3⟩
      obtain ⟨d, hd⟩ : ∃ d, d = c - n := ⟨_, rfl⟩
      have hwd : IntKind.i64.wrap ((c : Int) - (n : Int)) = (d : Int) := by
        have h9 := hnc.2
        unfold maxLen at h9
        rw [show (c : Int) - (n : Int) = (d : Int) from by omega]; exact wrap64_id (by omega) (by omega)
      obtain ⟨r, hr⟩ : ∃ r, r = min d 70000 := ⟨_, rfl⟩
      have HR : Aside0 (n + r ≤ c ∧ r ≤ 70000) := ⟨by omega, by omega⟩
      have hmin : (min (d : Int) 70000) = (r : Int) := by omega
      clear hnc hd hr
      go_wp2_with fail
      go_loopg [8, 9] r (fun k v8 v9 wr => ∃ i : Nat, v9 = .int .i64 (i : Int) ∧ v8 = .slice A (n + i) c ∧ i + k = r ∧ Aside0 (Src wr (nm, u) (.slice A (n + i) c) (n + i) c) ∧ Aside0 (Src wr (nm, u) (.slice A n c) n c) ∧ Aside0 (Kq wr (nm, u) (.slice (some ⟨g1, 0, none⟩) (n + 1) c1) (n + 1) g1) ∧ Aside0 (Kq wr (nm, u) (.slice (some ⟨g2, 0, none⟩) (n + 2) c2) (n + 2) g2) ∧ Aside0 (Turn wd wr (Value.slice A n c).ownBlock.toList))
      case atStart => exact ⟨0, rfl, rfl, by omega, HS6, HS6, HQ1, HQ2, HT6⟩
      case round =>
        clear HS6 HQ1 HQ2 HT6
        obtain ⟨i, rfl, rfl, hi, HS3, HS6, HQ1, HQ2, HT6⟩ := hrel
        cases gk with
        | succ k =>
          have hir : (i : Int) < (r : Int) := by omega
          have hw1 : IntKind.i64.wrap ((i : Int) + 1) = ((i + 1 : Nat) : Int) := by rw [show (i : Int) + 1 = ((i + 1 : Nat) : Int) from by omega]; exact wrap64_id (by omega) (by have := HR.out; omega)
          obtain ⟨kp0, kp1⟩ := HPK.out wr HT6.out
          have hex : ∃ g K, A = some ⟨g, 0, none⟩ ∧ n + i ≤ K ∧ Mk wr 84 2 (podM (nm, u)) g K c := by
            rcases HS3.out with ⟨h1, h2, h3⟩ | ⟨g, K, h1, h2, h3⟩
            · exfalso; have := HR.out; omega
            · injection h1 with e1 _ _
              exact ⟨g, K, e1, h2, h3⟩
          obtain ⟨g, K, rfl, hK, hmk⟩ := hex
          have hb9 : Below wr.heap.size wr (wr.alloc (.cells #[.string nm, .int .u32 u] 84)) := below_alloc (Below.refl _ _) _
          obtain ⟨w7, hr7, hm7, hp7, hg7⟩ := Mk_app1 (hmk.step (hb9.block g hmk.lt)) hK (by have := HR.out; omega) ⟨wr.heap.size, 0, none⟩ 1 (World.news_of_block (cs := #[.string nm, .int .u32 u]) (heap_alloc_new wr _))
          have hp8 : Pres (nm, u) wr w7 := (Pres.below hb9).trans hp7
          have R7 := Aside0.mk hr7
          have HS3' : Aside0 (Src w7 (nm, u) (.slice (some ⟨g, 0, none⟩) (n + (i + 1)) c) (n + (i + 1)) c) := ⟨.inr ⟨g, n + i + 1, rfl, by omega, hm7⟩⟩
          have HS6' := Aside0.mk (HS6.out.pres hp8)
          have HQ1' := Aside0.mk (HQ1.out.pres hp8)
          have HQ2' := Aside0.mk (HQ2.out.pres hp8)
          have HT7 := Aside0.mk (HT6.out.grown (World.grownBy.trans (World.grownBy_alloc wr (.cells #[.string nm, .int .u32 u] 84) _) hg7) (fun b hb => Or.inl (by cases hb; simp [Value.ownBlock])))
          clear hr7 hm7 hp7 hg7 hp8 hb9 hmk hK HS3 HS6 HQ1 HQ2 HT6
          go_wp2_with ((with_reducible refine gate_builtin (b := .append) (xs := #[.tmp 53, .tmp 55]) rfl ?_); at_builtin; refine wpList_append_run rfl (.tmp 53) (.tmp 55) 45 rfl rfl rfl R7.out ?_)
          go_roundg k
          case measure => omega
          case rel => exact ⟨i + 1, by first | rfl | go_num, by first | rfl | (congr 1), by omega, HS3', HS6', HQ1', HQ2', HT7⟩
        | zero =>
          obtain rfl : i = r := by omega
          go_upto_region 12 with fail
          have hbn : ∀ k, k ∈ BkF b (.slice AL L.length cL) (.slice AM' L.length cM) KB → k ∉ (Value.slice A n c).ownBlock.toList := fun k hk hm => HD.out k (by simpa using hm) hk
          have HBr := Aside0.mk (((HB.out.below HB1.out)).turn HT6.out hbn)
          have kL := HBr.out.cellL
          have hbf := blk_frozen HBr.out.blk 0
          have hbg := blk_lt HBr.out.blk
          obtain ⟨j0, hj0, hjj⟩ := Option.map_eq_some_iff.1 info45
          simp only [Prod.mk.injEq] at hjj
          obtain ⟨j1, j2, j3⟩ := hjj
          have HJ := Aside0.mk (show Try.prog.info? 45 = some j0 ∧ _ ∧ _ ∧ _ from ⟨hj0, j1, j2, j3⟩)
          clear hj0 j1 j2 j3 hbn hmin hwd
          have hr8 := run_append_own_at (P := Try.prog) (wr.alloc (.cells #[.slice A n c, .slice (some ⟨g1, 0, none⟩) (n + 1) c1, .slice (some ⟨g2, 0, none⟩) (n + 2) c2, .slice A (n + i) c] 45)) 0 60 60 45 j0 _ 1 24 Try.underlying60 HJ.out.1 HJ.out.2.1 HJ.out.2.2.1 HJ.out.2.2.2 rfl (by decide) (.slice AL L.length cL) L.length (L.map (·.1)) (HBr.out.rowL.alloc _) ⟨wr.heap.size, 0, none⟩ 4 4 [.slice A n c, .slice (some ⟨g1, 0, none⟩) (n + 1) c1, .slice (some ⟨g2, 0, none⟩) (n + 2) c2, .slice A (n + i) c] rfl (World.news_of_block (cs := #[.slice A n c, .slice (some ⟨g1, 0, none⟩) (n + 1) c1, .slice (some ⟨g2, 0, none⟩) (n + 2) c2, .slice A (n + i) c]) (t := 45) (fr := (0, 0)) (heap_alloc_new wr _)) (by intro u hu; simp at hu; rcases hu with rfl | rfl | rfl | rfl <;> rfl) (by unfold maxLen; have := HLL.out; omega) (by have := HLL.out; omega) (Nat.zero_le _)
          obtain ⟨vL', w8, hr8, hown8, hg8, _, hloc8⟩ := hr8
          obtain ⟨AL', cL', rfl⟩ := own_slice hown8
          have R8 := Aside0.mk hr8
          have HO8 := Aside0.mk hown8
          have HG8 := Aside0.mk (World.grownBy.trans (World.grownBy_alloc wr (.cells #[.slice A n c, .slice (some ⟨g1, 0, none⟩) (n + 1) c1, .slice (some ⟨g2, 0, none⟩) (n + 2) c2, .slice A (n + i) c] 45) _) ⟨hg8.os, hg8.tape, hg8.output, hg8.size, hg8.block⟩)
          have HLO8 := Aside0.mk hloc8
          have hneb : some b ≠ (Value.slice AL L.length cL).ownBlock := fun e => by
            obtain ⟨cells, hc⟩ := own_typed HBr.out.rowL _ e.symm
            rw [HBr.out.blk] at hc; cases hc
          have hb8 : w8.heap[b]? = some (.cells #[.slice AL L.length cL, .slice AM' L.length cM] 62 (0, 0)) := (HG8.out.block b (blk_lt HBr.out.blk) hneb).trans HBr.out.blk
          have kb0 : w8.cell? ⟨b, 0, none⟩ = some (.slice AL L.length cL) := blk_cell hb8 0
          have kb1 : w8.cell? ⟨b, 1, none⟩ = some (.slice AM' L.length cM) := blk_cell hb8 1
          have kbf := blk_frozen hb8 0
          have HB8 := Aside0.mk hb8
          clear hr8 hown8 hg8 hloc8 hneb hb8
          go_upto_region 13 with ((with_reducible refine gate_builtin (b := .append) (xs := #[.tmp 61, .tmp 66]) rfl ?_); at_builtin; refine wpList_append_run rfl (.tmp 61) (.tmp 66) 60 rfl rfl rfl R8.out ?_)
          obtain ⟨q1, q2, q3, q4⟩ := bk_lists HBr.out HO8.out HG8.out (HLO8.out.imp id (fun h => ⟨_, h, by rw [World.size_alloc]; omega⟩))
          have e4 : (L.map (·.1) ++ [Value.slice A n c, .slice (some ⟨g1, 0, none⟩) (n + 1) c1, .slice (some ⟨g2, 0, none⟩) (n + 2) c2, .slice A (n + i) c]).length = L.length + 4 := by simp
          have HLO9 : Aside0 ((Value.slice AL' (L.length + 4) cL').ownBlock = (Value.slice AL L.length cL).ownBlock ∨ ∃ k, (Value.slice AL' (L.length + 4) cL').ownBlock = some k ∧ wr.heap.size ≤ k) := ⟨HLO8.out.imp id (fun h => ⟨_, h, by rw [World.size_alloc]; omega⟩)⟩
          generalize w8.setCell ⟨b, 0, none⟩ (.slice AL' (L.length + 4) cL') = w9 at *
          have Q1 := Aside0.mk q1
          have Q2 := Aside0.mk q2
          have Q3 := Aside0.mk q3
          have Q4 := Aside0.mk q4
          have hpn : p ∉ b :: (Value.slice AL L.length cL).ownBlock.toList := fun hm => by
            have h1 := HP.out.1
            rcases List.mem_cons.1 hm with h2 | h2
            · subst h2; have := blk_lt HB.out.blk; omega
            · have := (HB.out.rowL.lt p (by simpa using h2)).2; omega
          have hp9 := q4.block p (Nat.lt_of_lt_of_le HP.out.2 HT6.out.size) hpn
          have hpr := HPK.out wr HT6.out
          have kp0 : w9.cell? ⟨p, 0, none⟩ = some (.string nm) := (World.cell?_of_block (a := ⟨p, 0, none⟩) hp9).trans hpr.1
          have kp1 : w9.cell? ⟨p, 1, none⟩ = some (.int .u32 u) := (World.cell?_of_block (a := ⟨p, 1, none⟩) hp9).trans hpr.2
          have kM : w9.cell? ⟨b, 1, none⟩ = some (.slice AM' L.length cM) := blk_cell q1 1
          have hb9 : b < w9.heap.size := blk_lt q1
          have hp9s : p < w9.heap.size := Nat.lt_of_lt_of_le (Nat.lt_of_lt_of_le HP.out.2 HT6.out.size) q4.size
          obtain ⟨i0, hi0, hzz⟩ := Option.map_eq_some_iff.1 info84
          simp only [Prod.mk.injEq] at hzz
          obtain ⟨hz0, hz1, hz2⟩ := hzz
          obtain ⟨vM', w10, hr10, hown10, hg10, _, hloc10⟩ := run_append_own_at (P := Try.prog) (w9.alloc (.cells #[.string nm, .int .u32 u, .string nm, .int .u32 u, .string nm, .int .u32 u, .string nm, .int .u32 u] 84)).drew 0 45 45 84 i0 _ 2 24 Try.underlying45 hi0 hz0 hz1 hz2 rfl (by decide) (.slice AM' L.length cM) L.length (podCells (L.map (·.2))) ((q3.alloc _).drew) ⟨w9.heap.size, 0, none⟩ 4 4 [.string nm, .int .u32 u, .string nm, .int .u32 u, .string nm, .int .u32 u, .string nm, .int .u32 u] rfl (World.news_of_block (cs := #[.string nm, .int .u32 u, .string nm, .int .u32 u, .string nm, .int .u32 u, .string nm, .int .u32 u]) (t := 84) (fr := (0, 0)) (heap_alloc_new w9 _)) (by intro x hx; simp at hx; rcases hx with rfl | rfl | rfl | rfl | rfl | rfl | rfl | rfl <;> rfl) (by unfold maxLen; have := HLL.out; omega) (by have := HLL.out; omega) (Nat.zero_le _)
          obtain ⟨AM2, cM2, rfl⟩ := own_slice hown10
          have hG10 : w9.grownBy w10 (Value.slice AM' L.length cM).ownBlock := World.grownBy.trans (World.grownBy_alloc w9 (.cells #[.string nm, .int .u32 u, .string nm, .int .u32 u, .string nm, .int .u32 u, .string nm, .int .u32 u] 84) _) ⟨hg10.os, hg10.tape, hg10.output, hg10.size, hg10.block⟩
          have hl10 : (Value.slice AM2 (L.length + 4) cM2).ownBlock = (Value.slice AM' L.length cM).ownBlock ∨ ∃ k, (Value.slice AM2 (L.length + 4) cM2).ownBlock = some k ∧ w9.heap.size ≤ k := hloc10.imp id (fun h => ⟨_, h, by show w9.heap.size ≤ (w9.alloc _).heap.size; rw [World.size_alloc]; omega⟩)
          obtain ⟨t1, t2, t3, t4⟩ := bk_marks q1 q2 q3 hown10 hG10 hl10
          have hneM : some b ≠ (Value.slice AM' L.length cM).ownBlock := fun e => by
            obtain ⟨cells, hc⟩ := own_typed q3 _ e.symm
            rw [q1] at hc; cases hc
          have hb10 := (hG10.block b hb9 hneM).trans q1
          have kN : w10.cell? ⟨b, 1, none⟩ = some (.slice AM' L.length cM) := blk_cell hb10 1
          have kNf := blk_frozen hb10 1
          have hneMp : some p ≠ (Value.slice AM' L.length cM).ownBlock := fun e => by
            have h1 := HP.out.1
            have h2 := (HB.out.rowM.lt p e.symm).2
            omega
          have hp10 := (hG10.block p hp9s hneMp).trans hp9
          have kq0 : w10.cell? ⟨p, 0, none⟩ = some (.string nm) := (World.cell?_of_block (a := ⟨p, 0, none⟩) hp10).trans hpr.1
          have kq1 : w10.cell? ⟨p, 1, none⟩ = some (.int .u32 u) := (World.cell?_of_block (a := ⟨p, 1, none⟩) hp10).trans hpr.2
          have hbp : ¬ b = p := fun h2 => by have h1 := HP.out.1; have := blk_lt HB.out.blk; omega
          clear hneMp hp10
          have R10 := Aside0.mk hr10
          have T1 := Aside0.mk t1
          have T2 := Aside0.mk t2
          have T3 := Aside0.mk t3
          have T4 := Aside0.mk t4
          have HLO10 := Aside0.mk hl10
          clear hr10 hown10 hg10 hloc10 hG10 hl10 t1 t2 t3 t4 hneM hb10 hi0 hz0 hz1 hz2 q1 q2 q3 q4 hp9 hpr hpn kb0 kb1 kbf kL hbf hbg HO8 HG8 HLO8 HB8 R8
          have FIN := Aside0.mk (keep_fin HB.out HL.out HD.out HB1.out HT6.out HS3.out HS6.out HQ1.out HQ2.out HG1.out HG2.out Q4.out HLO9.out T4.out HLO10.out T1.out T2.out T3.out)
          clear HS3 HS6 HQ1 HQ2 HOWN HPK HKP HG1 HG2 HB HL HD HN HLL hname HJ HR HU HB1 HLO9 HLO10 Q1 Q2 Q3 Q4 T1 T2 T3 T4 e4 HBr HP
          refine start_ (n := 14) (S := fun w' => w'.cell? ⟨p, 0, none⟩ = some (.string nm) ∧ w'.cell? ⟨p, 1, none⟩ = some (.int .u32 u) ∧ w'.cell? ⟨b, 1, none⟩ = some (.slice AM' L.length cM)) (ds := [13]) #[false, false, false, false, false, false, false, false, false, false, false, false, false, false] (by kernel_rfl) rfl rfl ⟨kp0, kp1, kM⟩ (fun hHeld => ?_)
          refine pure_ (i := 0) (N := some 70) (v := ?_) (a' := ?_) #[true, false, false, false, false, false, false, false, false, false, false, false, false, false] rfl rfl (by kernel_rfl) (fun _ _ _ h => h) (Or.inl ⟨by rfl, ?_⟩) ?_ ?_
          rotate_left
          · intro w'
            go_simp
            with_reducible rfl
          rotate_left
          · simp only [Act.put, List.setIfInBounds_toArray, List.set_cons_zero, List.set_cons_succ, i64_w, i32_w]
            rfl
          refine pure_ (i := 1) (N := some 71) (v := ?_) (a' := ?_) #[true, true, false, false, false, false, false, false, false, false, false, false, false, false] rfl rfl (by kernel_rfl) (fun _ _ _ h => h) (Or.inl ⟨by rfl, ?_⟩) ?_ ?_
          rotate_left
          · intro w'
            go_simp
            with_reducible rfl
          rotate_left
          · simp only [Act.put, List.setIfInBounds_toArray, List.set_cons_zero, List.set_cons_succ, i64_w, i32_w]
            rfl
          refine pure_ (i := 2) (N := some 72) (v := ?_) (a' := ?_) #[true, true, true, false, false, false, false, false, false, false, false, false, false, false] rfl rfl (by kernel_rfl) (fun _ _ _ h => h) (Or.inl ⟨by rfl, ?_⟩) ?_ ?_
          rotate_left
          · intro w'
            go_simp
            with_reducible rfl
          rotate_left
          · simp only [Act.put, List.setIfInBounds_toArray, List.set_cons_zero, List.set_cons_succ, i64_w, i32_w]
            rfl
          refine pure_ (i := 3) (N := some 73) (v := ?_) (a' := ?_) #[true, true, true, true, false, false, false, false, false, false, false, false, false, false] rfl rfl (by kernel_rfl) (fun _ _ _ h => h) (Or.inl ⟨by rfl, ?_⟩) ?_ ?_
          rotate_left
          · intro w'
            go_simp
            with_reducible rfl
          rotate_left
          · simp only [Act.put, List.setIfInBounds_toArray, List.set_cons_zero, List.set_cons_succ, i64_w, i32_w]
            rfl
          refine take_ (i := 4) (N := some 74) (v := ?_) (a' := ?_) #[true, true, true, true, true, false, false, false, false, false, false, false, false, false] rfl rfl (by kernel_rfl) (fun _ _ _ h => h) (Or.inl ⟨by rfl, ?_⟩) hHeld ?_ ?_
          rotate_left
          · rintro w' ⟨s0, s1, s2⟩
            go_simp
            with_reducible rfl
          rotate_left
          · simp only [Act.put, List.setIfInBounds_toArray, List.set_cons_zero, List.set_cons_succ, i64_w, i32_w]
            rfl
          refine take_ (i := 5) (N := some 75) (v := ?_) (a' := ?_) #[true, true, true, true, true, true, false, false, false, false, false, false, false, false] rfl rfl (by kernel_rfl) (fun _ _ _ h => h) (Or.inl ⟨by rfl, ?_⟩) hHeld ?_ ?_
          rotate_left
          · rintro w' ⟨s0, s1, s2⟩
            go_simp
            with_reducible rfl
          rotate_left
          · simp only [Act.put, List.setIfInBounds_toArray, List.set_cons_zero, List.set_cons_succ, i64_w, i32_w]
            rfl
          refine take_ (i := 6) (N := some 76) (v := ?_) (a' := ?_) #[true, true, true, true, true, true, true, false, false, false, false, false, false, false] rfl rfl (by kernel_rfl) (fun _ _ _ h => h) (Or.inl ⟨by rfl, ?_⟩) hHeld ?_ ?_
          rotate_left
          · rintro w' ⟨s0, s1, s2⟩
            go_simp
            with_reducible rfl
          rotate_left
          · simp only [Act.put, List.setIfInBounds_toArray, List.set_cons_zero, List.set_cons_succ, i64_w, i32_w]
            rfl
          refine take_ (i := 7) (N := some 77) (v := ?_) (a' := ?_) #[true, true, true, true, true, true, true, true, false, false, false, false, false, false] rfl rfl (by kernel_rfl) (fun _ _ _ h => h) (Or.inl ⟨by rfl, ?_⟩) hHeld ?_ ?_
          rotate_left
          · rintro w' ⟨s0, s1, s2⟩
            go_simp
            with_reducible rfl
          rotate_left
          · simp only [Act.put, List.setIfInBounds_toArray, List.set_cons_zero, List.set_cons_succ, i64_w, i32_w]
            rfl
          refine take_ (i := 8) (N := some 78) (v := ?_) (a' := ?_) #[true, true, true, true, true, true, true, true, true, false, false, false, false, false] rfl rfl (by kernel_rfl) (fun _ _ _ h => h) (Or.inl ⟨by rfl, ?_⟩) hHeld ?_ ?_
          rotate_left
          · rintro w' ⟨s0, s1, s2⟩
            go_simp
            with_reducible rfl
          rotate_left
          · simp only [Act.put, List.setIfInBounds_toArray, List.set_cons_zero, List.set_cons_succ, i64_w, i32_w]
            rfl
          refine one_ (i := 9) (N := some 79) #[true, true, true, true, true, true, true, true, true, true, false, false, false, false] rfl rfl (by kernel_rfl) (by decide) (fun K hK => ?_)
          refine value_ (w1 := ?_) (v := ?_) (by rfl) rfl ?_ ?_
          rotate_left 2
          · go_simp
            constructor
            · rfl
            · rfl
          refine hK.out _ _ ⟨(((below_alloc (Below.refl w9.drew.heap.size w9.drew) _).cell (p := ⟨p, 0, none⟩) (show _ < w9.heap.size from hp9s)).trans kp0), (((below_alloc (Below.refl w9.drew.heap.size w9.drew) _).cell (p := ⟨p, 1, none⟩) (show _ < w9.heap.size from hp9s)).trans kp1), (((below_alloc (Below.refl w9.drew.heap.size w9.drew) _).cell (p := ⟨b, 1, none⟩) (show _ < w9.heap.size from hb9)).trans kM)⟩ (fun hHeld => ?_)
          clear hK K
          refine norm_ (a' := ?_) ?_ ?_
          rotate_left
          · show Act.put _ (some 79) _ = _
            simp only [Act.put, List.setIfInBounds_toArray, List.set_cons_zero, List.set_cons_succ, i64_w, i32_w]
            rfl
          refine one_ (i := 10) (N := some 80) #[true, true, true, true, true, true, true, true, true, true, true, false, false, false] rfl rfl (by kernel_rfl) (by decide) (fun K hK => ?_)
          refine step_append_run rfl (.tmp 74) (.tmp 79) 45 rfl (by rfl) (by rfl) R10.out ?_
          refine hK.out _ _ ⟨kq0, kq1, kN⟩ (fun hHeld => ?_)
          clear hK K
          refine norm_ (a' := ?_) ?_ ?_
          rotate_left
          · show Act.put _ (some 80) _ = _
            simp only [Act.put, List.setIfInBounds_toArray, List.set_cons_zero, List.set_cons_succ, i64_w, i32_w]
            rfl
          refine pure_ (i := 11) (N := some 81) (v := ?_) (a' := ?_) #[true, true, true, true, true, true, true, true, true, true, true, true, false, false] rfl rfl (by kernel_rfl) (fun _ _ _ h => h) (Or.inl ⟨by rfl, ?_⟩) ?_ ?_
          rotate_left
          · intro w'
            go_simp
            with_reducible rfl
          rotate_left
          · simp only [Act.put, List.setIfInBounds_toArray, List.set_cons_zero, List.set_cons_succ, i64_w, i32_w]
            rfl
          refine pure_ (i := 12) (N := some 82) (v := ?_) (a' := ?_) #[true, true, true, true, true, true, true, true, true, true, true, true, true, false] rfl rfl (by kernel_rfl) (fun _ _ _ h => h) (Or.inl ⟨by rfl, ?_⟩) ?_ ?_
          rotate_left
          · intro w'
            go_simp
            with_reducible rfl
          rotate_left
          · simp only [Act.put, List.setIfInBounds_toArray, List.set_cons_zero, List.set_cons_succ, i64_w, i32_w]
            rfl
          refine last_ (i := 13) (N := none) #[true, true, true, true, true, true, true, true, true, true, true, true, true, true] rfl rfl (by kernel_rfl) (by decide) (fun K hK => ?_)
          refine skip_ (w1 := ?_) (by rfl) rfl ?_ ?_
          rotate_left
          · go_simp
            rfl
          refine hK.out _ _ ?_
          clear hK K
          refine done_ (by kernel_rfl) ?_
          go_wp2_with fail
          refine bodyPost_end (results_none rfl _ _ _) rfl ?_
          exact ⟨rfl, FIN.out⟩
end Go.Proofs.Ytgabkifojnkbkaa.Ip

set_option linter.unusedVariables false
set_option linter.unusedSimpArgs false
namespace Go.Proofs.Ytgabkifojnkbkaa.Ip
open Go.RowKit Go.Maps Go.WideMaps Go.MapKept Go.Proofs.YtgabkifojnkbkaaW.PrintWords Go.Proofs.Ytgabkifojnkbkaa.PIpf Go.Proofs.Ytgabkifojnkbkaa.Mk
def AtM (w : World) (A : Option Addr) (n : Nat) (m : Pod) : Prop := ∀ j, j < n → ∃ g, A = some ⟨g, 0, none⟩ ∧ w.cell? ⟨g, j * 2, none⟩ = some (.string m.1) ∧ w.cell? ⟨g, j * 2 + 1, none⟩ = some (.int .u32 m.2)
theorem Kp.at {w : World} {p : Value × Pod} {KB : List Nat} (h : Kp w p KB) : ∃ A n c, p.1 = .slice A n c ∧ n ≤ maxLen ∧ AtM w A n p.2 := by
  obtain ⟨n, c, ⟨h1, h2⟩ | ⟨g, K, h1, h2, h3, h4⟩⟩ := h
  · exact ⟨_, _, _, h1, Nat.zero_le _, fun j hj => by omega⟩
  · obtain ⟨cur, x1, x2, x3, x4, x5⟩ := id h3
    have hown := (h3.low h2).own (podM_len p.2) (Nat.le_refl n)
    have e : repC (podM p.2) n = podCells (List.replicate n p.2) := (podCells_rep p.2 n).symm
    rw [e] at hown
    refine ⟨_, _, _, h1, by omega, fun j hj => ⟨g, rfl, ?_, ?_⟩⟩
    · have := (pod_atN hown j (by simpa using hj)).1
      simpa [podAt, List.getD_eq_getElem?_getD, hj] using this
    · have := (pod_atN hown j (by simpa using hj)).2
      simpa [podAt, List.getD_eq_getElem?_getD, hj] using this
theorem AtM.below {w w1 : World} {A : Option Addr} {n : Nat} {m : Pod} (h : AtM w A n m) (hlt : ∀ g, A = some ⟨g, 0, none⟩ → 0 < n → g < w.heap.size) (hb : Below w.heap.size w w1) : AtM w1 A n m := fun j hj => by
  obtain ⟨g, e, h1, h2⟩ := h j hj
  have hg := hlt g e (by omega)
  exact ⟨g, e, (hb.cell (p := ⟨g, j * 2, none⟩) hg).trans h1, (hb.cell (p := ⟨g, j * 2 + 1, none⟩) hg).trans h2⟩
theorem Bk.forms {w : World} {b : Nat} {vL vM : Value} {L : List (Value × Pod)} {KB : List Nat} (h : Bk w b vL vM L KB) {i : Nat} (hi : i < L.length) :
    ∃ gL cL gM cM A n c nm ad, vL = .slice (some ⟨gL, 0, none⟩) L.length cL ∧ vM = .slice (some ⟨gM, 0, none⟩) L.length cM ∧ n ≤ maxLen ∧
      ∀ w', Below w.heap.size w w' → w'.cell? ⟨gL, i, none⟩ = some (.slice A n c) ∧ w'.cell? ⟨gM, i * 2, none⟩ = some (.string nm) ∧ w'.cell? ⟨gM, i * 2 + 1, none⟩ = some (.int .u32 ad) ∧ AtM w' A n (nm, ad) := by
  obtain ⟨gL, cL, rfl, _, _⟩ := h.rowL.form (by omega)
  obtain ⟨gM, cM, rfl, _, _⟩ := h.rowM.form (by omega)
  obtain ⟨A, n, c, e1, e2, e3⟩ := (h.kp L[i] (List.getElem_mem hi)).at
  refine ⟨gL, cL, gM, cM, A, n, c, L[i].2.1, L[i].2.2, rfl, rfl, e2, fun w' hb => ?_⟩
  have h' := h.below hb
  obtain ⟨A', n', c', f1, f2, f3⟩ := (h'.kp L[i] (List.getElem_mem hi)).at
  rw [e1] at f1
  injection f1 with k1 k2 k3
  subst k1 k2 k3
  have c1 := h'.rowL.cells (g := gL) rfl i (.slice A n c) (by rw [List.getElem?_map, List.getElem?_eq_getElem hi]; exact congrArg some e1)
  rw [add_plain] at c1
  have hM : w'.ownsRow 0 84 2 (.slice (some ⟨gM, 0, none⟩) (L.map (·.2)).length cM) (L.map (·.2)).length (podCells (L.map (·.2))) := by rw [List.length_map]; exact h'.rowM
  obtain ⟨m1, m2⟩ := pod_atN hM i (by simpa using hi)
  have e : podAt (L.map (·.2)) i = L[i].2 := by simp [podAt, List.getD_eq_getElem?_getD, List.getElem?_map, List.getElem?_eq_getElem hi]
  rw [e] at m1 m2
  exact ⟨c1, m1, m2, f3⟩
set_option maxHeartbeats 8000000 in
set_option maxRecDepth 100000 in
theorem whole33 (w : World) (b : Nat) (vL vM : Value) (L : List (Value × Pod)) (KB : List Nat) (hB : Bk w b vL vM L KB) (hL : L.length ≤ 16777216) :
    Calls Try.prog 33 #[.pointer (some ⟨b, 0, none⟩)] w fun e w' => e = .returned (.bool true) ∧ Below w.heap.size w w' := by
  obtain ⟨AL, cL, rfl⟩ := own_slice hB.rowL
  have HB := Aside0.mk hB
  have HLL := Aside0.mk hL
  have HC : Aside0 (∀ w', Below w.heap.size w w' → w'.cell? ⟨b, 0, none⟩ = some (.slice AL L.length cL) ∧ w'.cell? ⟨b, 1, none⟩ = some vM) := ⟨fun w' hb => ⟨(HB.out.below hb).cellL, (HB.out.below hb).cellM⟩⟩
  clear hB hL
  go_enter Try.func33, Try.ntmps33
  go_wp2_with fail
  go_loopw [3] (fun vi wr => ∃ i : Nat, vi = .int .i64 (i : Int) ∧ i ≤ L.length ∧ Aside0 (Below w.heap.size w wr)) (fun vi _ => L.length - (intOf vi).toNat)
  case atStart => exact ⟨0, rfl, Nat.zero_le _, ⟨Below.refl _ _⟩⟩
  case round =>
    obtain ⟨i, rfl, hi, HBE⟩ := hrel
    obtain ⟨kL, kM⟩ := HC.out wr HBE.out
    by_cases hlt : i < L.length
    · have hli : (i : Int) < (L.length : Int) := by omega
      have hw1 : IntKind.i64.wrap ((i : Int) + 1) = ((i + 1 : Nat) : Int) := by rw [show (i : Int) + 1 = ((i + 1 : Nat) : Int) from by omega]; exact wrap64_id (by omega) (by have := HLL.out; omega)
      obtain ⟨gL, cL', gM, cM, A, n, c, nm, ad, e1, rfl, hn, hfor⟩ := HB.out.forms hlt
      injection e1 with e1 e2 e3
      subst e1 e3
      clear e2
      have HF := Aside0.mk hfor
      have HN := Aside0.mk hn
      obtain ⟨k1, k2, k3, _⟩ := HF.out wr HBE.out
      clear hfor hn
      go_wp2_with fail
      clear k1 k2 k3 kL kM
      go_loopw [5] (fun vj w2 => ∃ j : Nat, vj = .int .i64 (j : Int) ∧ j ≤ n ∧ Aside0 (Below w.heap.size w w2)) (fun vj _ => n - (intOf vj).toNat)
      case atStart => exact ⟨0, rfl, Nat.zero_le _, HBE⟩
      case round =>
        clear HBE
        obtain ⟨j, rfl, hj, HBE⟩ := hrel
        by_cases hjn : j < n
        · have hjj : (j : Int) < (n : Int) := by omega
          have hw2 : IntKind.i64.wrap ((j : Int) + 1) = ((j + 1 : Nat) : Int) := by rw [show (j : Int) + 1 = ((j + 1 : Nat) : Int) from by omega]; exact wrap64_id (by omega) (by have := HN.out; unfold maxLen at this; omega)
          obtain ⟨kL, kM⟩ := HC.out wr HBE.out
          obtain ⟨k1, k2, k3, k4⟩ := HF.out wr HBE.out
          obtain ⟨g, rfl, k5, k6⟩ := k4 j hjn
          simp only at k5 k6
          clear k4 k1
          go_wp2_with fail
          go_quiet (fail)
          go_wp2_with fail
          go_roundw
          case rel => exact ⟨j + 1, by first | rfl | go_num, by omega, ⟨pw_below_drewN HBE.out _⟩⟩
          case measure => simp [intOf]; omega
        · have hjj : ¬ (j : Int) < (n : Int) := by omega
          go_wp2_with fail
          go_roundw
          case rel => exact ⟨i + 1, by first | rfl | go_num, by omega, HBE⟩
          case measure => simp [intOf]; omega
    · have hli : ¬ (i : Int) < (L.length : Int) := by omega
      go_wp2_with fail
      go_ret
      exact ⟨rfl, HBE.out⟩
end Go.Proofs.Ytgabkifojnkbkaa.Ip

set_option linter.unusedVariables false
set_option linter.unusedSimpArgs false
namespace Go.Proofs.Ytgabkifojnkbkaa.Ip
open Go.RowKit Go.Maps Go.WideMaps Go.MapKept Go.Proofs.YtgabkifojnkbkaaW.PrintWords Go.Proofs.Ytgabkifojnkbkaa.PIpf Go.Proofs.Ytgabkifojnkbkaa.Mk
/-- one list of the program's, new -/
theorem list_any {w : World} {B B' n : Nat} {F : List Nat} (h : St w B B' n F) :
    Calls Try.prog 30 #[ptr B] w fun e w' => ∃ A m c xs, e = .returned (.slice A m c) ∧ m ≤ 1024 ∧ w'.ownsRow w.heap.size 84 2 (.slice A m c) m xs ∧ Below w.heap.size w w' := by
  obtain ⟨b1, b2, vn, vs, M, vp, R, HS, HR, hrel, hn, hd, rfl⟩ := h
  have hcnt := hrel.cnt
  have hlim := hrel.lim
  refine (lists_ok w B b1 b2 vn vs M hrel.ok (by omega) HS).mono ?_
  rintro e w' ⟨v, l, rfl, _, hl, hown, hb⟩
  obtain ⟨A, c, rfl⟩ := own_slice hown
  exact ⟨A, l.length, c, _, rfl, by omega, hown, hb⟩
theorem own_low {w : World} {base e size n : Nat} {v : Value} {xs : List Value} (h : w.ownsRow base e size v n xs) : w.ownsRow 0 e size v n xs := by
  refine ⟨h.1, h.2.imp id ?_⟩
  rintro ⟨g, cap, cur, h1, h2, h3⟩
  exact ⟨g, cap, cur, h1, Nat.zero_le _, h3⟩
/-- the two subnets and the book, all of it newer than w0 -/
def Fr (w0 w : World) (B B' b N : Nat) : Prop := ∃ F vL vM L KB, St w B B' 1024 F ∧ Bk w b vL vM L KB ∧ L.length ≤ N ∧ (∀ k, k ∈ F → k ∉ BkF b vL vM KB) ∧ (∀ k, k ∈ F → w0.heap.size ≤ k) ∧ (∀ k, k ∈ BkF b vL vM KB → w0.heap.size ≤ k) ∧ Below w0.heap.size w0 w
/-- and one list of n pods beside them -/
def FrL (w0 w : World) (B B' b N : Nat) (vl : Value) (n : Nat) : Prop := ∃ F vL vM L KB xs, St w B B' 1024 F ∧ Bk w b vL vM L KB ∧ L.length ≤ N ∧ (∀ k, k ∈ F → k ∉ BkF b vL vM KB) ∧ (∀ k, k ∈ F → w0.heap.size ≤ k) ∧ (∀ k, k ∈ BkF b vL vM KB → w0.heap.size ≤ k) ∧ Below w0.heap.size w0 w ∧
  w.ownsRow 0 84 2 vl n xs ∧ ∀ k, vl.ownBlock = some k → k ∉ F ∧ k ∉ BkF b vL vM KB ∧ w0.heap.size ≤ k
section
variable {w0 w w' : World} {B B' b N : Nat}
theorem Fr.bel (h : Fr w0 w B B' b N) : Below w0.heap.size w0 w := by obtain ⟨F, vL, vM, L, KB, h1, h2, h3, h4, h5, h6, h7⟩ := h; exact h7
theorem Fr.below (h : Fr w0 w B B' b N) (hb : Below w.heap.size w w') : Fr w0 w' B B' b N := by
  obtain ⟨F, vL, vM, L, KB, h1, h2, h3, h4, h5, h6, h7⟩ := h
  exact ⟨F, vL, vM, L, KB, h1.below hb, h2.below hb, h3, h4, h5, h6, below_step h7 hb⟩
theorem Fr.more (h : Fr w0 w B B' b N) {M : Nat} (hm : N ≤ M) : Fr w0 w B B' b M := by
  obtain ⟨F, vL, vM, L, KB, h1, h2, h3, h4, h5, h6, h7⟩ := h
  exact ⟨F, vL, vM, L, KB, h1, h2, Nat.le_trans h3 hm, h4, h5, h6, h7⟩
/-- the empty book -/
theorem Bk.new (w : World) : Bk (w.alloc (.cells #[.slice none 0 0, .slice none 0 0] 62)) w.heap.size (.slice none 0 0) (.slice none 0 0) [] [] :=
  ⟨heap_alloc_new w _, own_nil _ _ _ _, own_nil _ _ _ _, (fun p hp => by cases hp), (fun k hk => by cases hk), (fun k hk => by cases hk)⟩
theorem Fr.new (h : One w0 w B B') : Fr w0 (w.alloc (.cells #[.slice none 0 0, .slice none 0 0] 62)) B B' w.heap.size 0 := by
  obtain ⟨F, h1, h2, h3⟩ := h
  refine ⟨F, _, _, [], [], h1.below (below_alloc (Below.refl _ _) _), Bk.new w, Nat.le_refl _, fun k hk hm => ?_, h2, fun k hk => ?_, below_alloc h3 _⟩
  · have := h1.lt k hk
    simp [BkF, Value.ownBlock] at hm
    omega
  · simp [BkF, Value.ownBlock] at hk
    have := h3.size
    omega
theorem Fr.play (h : Fr w0 w B B' b N) (k : Int) (s : ByteArray) (a : Int) (hs : s.size ≤ maxLen) (ha0 : 0 ≤ a) (ha1 : a < 4294967296) :
    Calls Try.prog 19 #[ptr B, ptr B', opV k s a] w fun e w' => e = .returned (.bool true) ∧ Fr w0 w' B B' b N := by
  obtain ⟨F, vL, vM, L, KB, h1, h2, h3, h4, h5, h6, h7⟩ := h
  refine (plays_any lists_ok h1 k s a hs ha0 ha1).mono ?_
  rintro e w' ⟨rfl, F', hF, hT, hd⟩
  refine ⟨rfl, F', vL, vM, L, KB, hF, h2.turn hT (fun k hk hf => h4 k hf hk), h3, fun k hk hm => ?_, fun k hk => (hd k hk).elim (h5 k) (fun hl => Nat.le_trans h7.size hl), h6, h7.trans (hT.below h7.size h5)⟩
  rcases hd k hk with hf | hl
  · exact h4 k hf hm
  · have := h2.lt k hm; omega
theorem Fr.list (h : Fr w0 w B B' b N) : Calls Try.prog 30 #[ptr B] w fun e w' => ∃ A n c, e = .returned (.slice A n c) ∧ n ≤ 1024 ∧ FrL w0 w' B B' b N (.slice A n c) n := by
  obtain ⟨F, vL, vM, L, KB, h1, h2, h3, h4, h5, h6, h7⟩ := h
  refine (list_any h1).mono ?_
  rintro e w' ⟨A, m, c, xs, rfl, hm, hown, hb⟩
  refine ⟨A, m, c, rfl, hm, F, vL, vM, L, KB, xs, h1.below hb, h2.below hb, h3, h4, h5, h6, below_step h7 hb, own_low hown, fun k hk => ?_⟩
  have hk2 := (hown.lt k hk).1
  exact ⟨fun hf => by have := h1.lt k hf; omega, fun hf => by have := h2.lt k hf; omega, Nat.le_trans h7.size hk2⟩
theorem FrL.bel {vl : Value} {n : Nat} (h : FrL w0 w B B' b N vl n) : Below w0.heap.size w0 w := by obtain ⟨F, vL, vM, L, KB, xs, h1, h2, h3, h4, h5, h6, h7, _⟩ := h; exact h7
theorem FrL.keep {vl : Value} {n : Nat} (h : FrL w0 w B B' b N vl n) (hn : n ≤ 1024) (hN : N ≤ 8388608) : Calls Try.prog 32 #[ptr b, vl] w fun e w' => e = .returned (.tuple #[]) ∧ Fr w0 w' B B' b (N + 4) := by
  obtain ⟨F, vL, vM, L, KB, xs, h1, h2, h3, h4, h5, h6, h7, h8, h9⟩ := h
  refine (keep32 w b vL vM L KB vl n xs h2 h8 hn (by omega) (fun k hk => (h9 k hk).2.1)).mono ?_
  rintro e w' ⟨rfl, vL', vM', L', KB', hB, hL, hT, hd⟩
  have hG : ∀ k, k ∈ BkF b vL vM KB ++ vl.ownBlock.toList → w0.heap.size ≤ k := fun k hk => by
    rcases List.mem_append.1 hk with hk | hk
    · exact h6 k hk
    · exact (h9 k (by simpa using hk)).2.2
  refine ⟨rfl, F, vL', vM', L', KB', h1.turn hT (fun k hk hm => ?_), hB, by omega, fun k hk hm => ?_, h5, fun k hk => ?_, h7.trans (hT.below h7.size hG)⟩
  · rcases List.mem_append.1 hm with hm | hm
    · exact h4 k hk hm
    · exact (h9 k (by simpa using hm)).1 hk
  · rcases hd k hm with h | h | h
    · exact h4 k hk h
    · exact (h9 k h).1 hk
    · have := h1.lt k hk; omega
  · rcases hd k hk with h | h | h
    · exact h6 k h
    · exact (h9 k h).2.2
    · exact Nat.le_trans h7.size h
theorem Fr.whole (h : Fr w0 w B B' b N) (hN : N ≤ 16777216) : Calls Try.prog 33 #[ptr b] w fun e w' => e = .returned (.bool true) ∧ Fr w0 w' B B' b N := by
  have h0 := h
  obtain ⟨F, vL, vM, L, KB, h1, h2, h3, h4, h5, h6, h7⟩ := h
  refine (whole33 w b vL vM L KB h2 (by omega)).mono ?_
  rintro e w' ⟨rfl, hb⟩
  exact ⟨rfl, h0.below hb⟩
end
/-- lists that stand beside one another, and beside the blocks X -/
structure Lts (w : World) (X : List Nat) (T : List Value) : Prop where
  row : ∀ v, v ∈ T → ∃ A n c xs, v = .slice A n c ∧ n ≤ 1024 ∧ w.ownsRow 0 84 2 v n xs
  out : ∀ v, v ∈ T → ∀ k, v.ownBlock = some k → k ∉ X
  apart : T.Pairwise (fun v u => ∀ k, v.ownBlock = some k → u.ownBlock ≠ some k)
section
variable {w0 w w' : World} {X Y : List Nat} {T : List Value} {va : Value}
theorem Lts.lt (h : Lts w X T) : ∀ v, v ∈ T → ∀ k, v.ownBlock = some k → k < w.heap.size := fun v hv k hk => by
  obtain ⟨A, n, c, xs, rfl, hn, ho⟩ := h.row v hv
  exact (ho.lt k hk).2
theorem Lts.step (h : Lts w X T) (hb : ∀ v, v ∈ T → ∀ k, v.ownBlock = some k → w'.heap[k]? = w.heap[k]?) (hX : ∀ k, k ∈ Y → k ∈ X ∨ w.heap.size ≤ k) : Lts w' Y T :=
  ⟨fun v hv => by
    obtain ⟨A, n, c, xs, e, hn, ho⟩ := h.row v hv
    exact ⟨A, n, c, xs, e, hn, row_step ho (hb v hv)⟩, fun v hv k hk hm => by
    rcases hX k hm with h1 | h1
    · exact h.out v hv k hk h1
    · have := h.lt v hv k hk; omega, h.apart⟩
theorem Lts.below (h : Lts w X T) (hb : Below w.heap.size w w') : Lts w' X T := h.step (fun v hv k hk => hb.block k (h.lt v hv k hk)) (fun k hk => .inl hk)
theorem Lts.snoc (h : Lts w X T) {v : Value} {A : Option Addr} {n c : Nat} {xs : List Value} (hv : v = .slice A n c) (hn : n ≤ 1024) (ho : w.ownsRow 0 84 2 v n xs) (hX : ∀ k, v.ownBlock = some k → k ∉ X) (hT : ∀ u, u ∈ T → ∀ k, u.ownBlock = some k → v.ownBlock ≠ some k) : Lts w X (T ++ [v]) :=
  ⟨fun u hu => by
    rcases List.mem_append.1 hu with hu | hu
    · exact h.row u hu
    · rw [List.mem_singleton] at hu
      subst hu
      exact ⟨A, n, c, xs, hv, hn, ho⟩, fun u hu => by
    rcases List.mem_append.1 hu with hu | hu
    · exact h.out u hu
    · rw [List.mem_singleton] at hu
      subst hu
      exact hX, by
    rw [List.pairwise_append]
    exact ⟨h.apart, List.pairwise_singleton _ _, fun a ha b hb => by rw [List.mem_singleton] at hb; subst hb; exact hT a ha⟩⟩
/-- the two subnets, and the row of the lists so far -/
def Un (w0 w : World) (B B' : Nat) (va : Value) (T : List Value) : Prop := ∃ F, St w B B' 1024 F ∧ w.ownsRow 0 45 1 va T.length T ∧ Lts w (F ++ va.ownBlock.toList) T ∧ (∀ k, va.ownBlock = some k → k ∉ F) ∧ (∀ k, k ∈ F ++ va.ownBlock.toList → w0.heap.size ≤ k) ∧ Below w0.heap.size w0 w ∧ ∀ v, v ∈ T → ∀ k, v.ownBlock = some k → w0.heap.size ≤ k
theorem Un.bel {B B' : Nat} (h : Un w0 w B B' va T) : Below w0.heap.size w0 w := by obtain ⟨F, h1, h2, h3, h4, h5, h6, h7⟩ := h; exact h6
theorem Un.new {B B' : Nat} (h : One w0 w B B') : Un w0 w B B' (.slice none 0 0) [] := by
  obtain ⟨F, h1, h2, h3⟩ := h
  exact ⟨F, h1, own_nil _ _ _ _, ⟨(fun v hv => by cases hv), (fun v hv => by cases hv), List.Pairwise.nil⟩, (fun k hk => by cases hk), fun k hk => h2 k (by simpa [Value.ownBlock] using hk), h3, (fun v hv => by cases hv)⟩
theorem Un.below {B B' : Nat} (h : Un w0 w B B' va T) (hb : Below w.heap.size w w') : Un w0 w' B B' va T := by
  obtain ⟨F, h1, h2, h3, h4, h5, h6, h7⟩ := h
  exact ⟨F, h1.below hb, row_step h2 (fun k hk => hb.block k (h2.lt k hk).2), h3.below hb, h4, h5, below_step h6 hb, h7⟩
theorem Un.play {B B' : Nat} (h : Un w0 w B B' va T) (k : Int) (s : ByteArray) (a : Int) (hs : s.size ≤ maxLen) (ha0 : 0 ≤ a) (ha1 : a < 4294967296) :
    Calls Try.prog 19 #[ptr B, ptr B', opV k s a] w fun e w' => e = .returned (.bool true) ∧ Un w0 w' B B' va T := by
  obtain ⟨F, h1, h2, h3, h4, h5, h6, h7⟩ := h
  refine (plays_any lists_ok h1 k s a hs ha0 ha1).mono ?_
  rintro e w' ⟨rfl, F', hF, hT, hd⟩
  have h5F : ∀ k, k ∈ F → w0.heap.size ≤ k := fun k hk => h5 k (List.mem_append_left _ hk)
  refine ⟨rfl, F', hF, row_step h2 (fun k hk => hT.block k (h2.lt k hk).2 (h4 k hk)), h3.step (fun v hv k hk => hT.block k (h3.lt v hv k hk) (fun hf => h3.out v hv k hk (List.mem_append_left _ hf))) (fun k hk => ?_), fun k hk hf => ?_, fun k hk => ?_, h6.trans (hT.below h6.size h5F), h7⟩
  · rcases List.mem_append.1 hk with hk | hk
    · exact (hd k hk).imp (fun h => List.mem_append_left _ h) id
    · exact .inl (List.mem_append_right _ hk)
  · rcases hd k hf with h | h
    · exact h4 k hk h
    · have := (h2.lt k hk).2; omega
  · rcases List.mem_append.1 hk with hk | hk
    · exact (hd k hk).elim (h5F k) (fun hl => Nat.le_trans h6.size hl)
    · exact h5 k (List.mem_append_right _ hk)
/-- one list more, not in the row yet -/
theorem Un.list {B B' : Nat} (h : Un w0 w B B' va T) : Calls Try.prog 30 #[ptr B] w fun e w' => ∃ A n c, e = .returned (.slice A n c) ∧ n ≤ 1024 ∧ (∃ xs, w'.ownsRow w.heap.size 84 2 (.slice A n c) n xs) ∧ Below w.heap.size w w' := by
  obtain ⟨F, h1, h2, h3, h4, h5, h6, h7⟩ := h
  refine (list_any h1).mono ?_
  rintro e w' ⟨A, m, c, xs, rfl, hm, hown, hb⟩
  exact ⟨A, m, c, rfl, hm, ⟨xs, hown⟩, hb⟩
/-- two lists more, and the row made longer by them -/
theorem Un.put {B B' : Nat} {w1 w2 w3 w4 : World} {v1 v2 va' : Value} {A1 A2 : Option Addr} {n1 n2 c1 c2 : Nat} {xs1 xs2 : List Value} (h : Un w0 w B B' va T)
    (e1 : v1 = .slice A1 n1 c1) (e2 : v2 = .slice A2 n2 c2) (hn1 : n1 ≤ 1024) (hn2 : n2 ≤ 1024) (ho1 : w1.ownsRow w.heap.size 84 2 v1 n1 xs1) (hb1 : Below w.heap.size w w1) (ho2 : w2.ownsRow w1.heap.size 84 2 v2 n2 xs2) (hb2 : Below w1.heap.size w1 w2)
    (hb3 : Below w2.heap.size w2 w3) (ho : w4.ownsRow 0 45 1 va' (T.length + 2) (T ++ [v1, v2])) (hg : w3.grownBy w4 va.ownBlock) (hl : va'.ownBlock = va.ownBlock ∨ va'.ownBlock = some w3.heap.size) : Un w0 w4 B B' va' (T ++ [v1, v2]) := by
  have hb12 := below_step hb1 hb2
  have hb13 := below_step hb12 hb3
  obtain ⟨F0, k1, k2, k3, k4, k5, k6, k7⟩ := h
  have L3 : ∀ k, v1.ownBlock = some k → w.heap.size ≤ k ∧ k < w1.heap.size := fun k hk => ho1.lt k hk
  have L4 : ∀ k, v2.ownBlock = some k → w1.heap.size ≤ k ∧ k < w2.heap.size := fun k hk => ho2.lt k hk
  have r1 : w3.ownsRow 0 84 2 v1 n1 xs1 := row_step (own_low ho1) (fun k hk => (below_step hb2 hb3).block k (L3 k hk).2)
  have r2 : w3.ownsRow 0 84 2 v2 n2 xs2 := row_step (own_low ho2) (fun k hk => hb3.block k (L4 k hk).2)
  have z1 := hb1.size
  have z2 := hb2.size
  have z3 := hb3.size
  have hTlt : ∀ u, u ∈ T → ∀ k, u.ownBlock = some k → k < w.heap.size := fun u hu k hk => k3.lt u hu k hk
  have hva : ∀ k, va.ownBlock = some k → k < w.heap.size := fun k hk => (k2.lt k hk).2
  have hFl : ∀ k, k ∈ F0 → k < w.heap.size := fun k hk => k1.lt k hk
  have g : ∀ k, k < w3.heap.size → va.ownBlock ≠ some k → w4.heap[k]? = w3.heap[k]? := fun k hk hn => hg.block k hk (fun e => hn e.symm)
  have k3' : Lts w3 (F0 ++ va.ownBlock.toList) T := k3.below hb13
  have x1 : Lts w3 (F0 ++ va.ownBlock.toList) (T ++ [v1]) := k3'.snoc e1 hn1 r1 (fun k hk hm => by
    have := (L3 k hk).1
    rcases List.mem_append.1 hm with hm | hm
    · have := hFl k hm; omega
    · have := hva k (by simpa using hm); omega) (fun u hu k hk e => by have := hTlt u hu k hk; have := (L3 k e).1; omega)
  have x2 : Lts w3 (F0 ++ va.ownBlock.toList) ((T ++ [v1]) ++ [v2]) := x1.snoc e2 hn2 r2 (fun k hk hm => by
    have := (L4 k hk).1
    rcases List.mem_append.1 hm with hm | hm
    · have := hFl k hm; omega
    · have := hva k (by simpa using hm); omega) (fun u hu k hk e => by
      have := (L4 k e).1
      rcases List.mem_append.1 hu with hu | hu
      · have := hTlt u hu k hk; omega
      · rw [List.mem_singleton] at hu; subst hu; have := (L3 k hk).2; omega)
  rw [List.append_assoc] at x2
  have x3 : Lts w3 (F0 ++ va.ownBlock.toList) (T ++ [v1, v2]) := x2
  refine ⟨F0, (k1.below hb13).turn (Turn.of_grown (F := va.ownBlock.toList) hg (fun k hk => by simp [hk])) (fun k hk hm => k4 k (by simpa using hm) hk), by simpa using ho, x3.step (fun v hv k hk => g k (x3.lt v hv k hk) (fun e => x3.out v hv k hk (by simp [e]))) (fun k hk => ?_), fun k hk hf => ?_, fun k hk => ?_, ?_, fun v hv k hk => ?_⟩
  · rcases List.mem_append.1 hk with hk | hk
    · exact .inl (List.mem_append_left _ hk)
    · have hk2 : va'.ownBlock = some k := by simpa using hk
      rcases hl with h | h
      · exact .inl (List.mem_append_right _ (by rw [← h]; exact hk))
      · rw [h] at hk2; injection hk2 with hk2; exact .inr (by omega)
  · rcases hl with h | h
    · exact k4 k (h ▸ hk) hf
    · rw [h] at hk; injection hk with hk; have := hFl k hf; omega
  · rcases List.mem_append.1 hk with hk | hk
    · exact k5 k (List.mem_append_left _ hk)
    · have hk2 : va'.ownBlock = some k := by simpa using hk
      rcases hl with h | h
      · exact k5 k (List.mem_append_right _ (by rw [← h]; exact hk))
      · rw [h] at hk2; injection hk2 with hk2; have := k6.size; omega
  · exact (below_step k6 hb13).trans ((Turn.of_grown (F := va.ownBlock.toList) hg (fun k hk => by simp [hk])).below (Nat.le_trans k6.size hb13.size) (fun k hk => k5 k (List.mem_append_right _ hk)))
  · have z6 := k6.size
    rcases List.mem_append.1 hv with hv | hv
    · exact k7 v hv k hk
    · simp only [List.mem_cons, List.not_mem_nil, or_false] at hv
      rcases hv with rfl | rfl
      · have := (L3 k hk).1; omega
      · have := (L4 k hk).1; omega
/-- the lists go into the book, one by one -/
def Ub (w0 w : World) (B B' b : Nat) (va : Value) (T : List Value) (j : Nat) : Prop := ∃ F vL vM L KB, St w B B' 1024 F ∧ w.ownsRow 0 45 1 va T.length T ∧ Bk w b vL vM L KB ∧ L.length ≤ 4 * j ∧ Lts w (F ++ va.ownBlock.toList ++ BkF b vL vM KB) (T.drop j) ∧ (∀ k, va.ownBlock = some k → k ∉ F) ∧ (∀ k, k ∈ F ++ va.ownBlock.toList → k ∉ BkF b vL vM KB) ∧
  (∀ k, k ∈ F ++ va.ownBlock.toList ++ BkF b vL vM KB → w0.heap.size ≤ k) ∧ (∀ v, v ∈ T.drop j → ∀ k, v.ownBlock = some k → w0.heap.size ≤ k) ∧ Below w0.heap.size w0 w
theorem Ub.bel {B B' b j : Nat} (h : Ub w0 w B B' b va T j) : Below w0.heap.size w0 w := by obtain ⟨F, vL, vM, L, KB, h1, h2, h3, h4, h5, h6, h7, h8, h9, h10⟩ := h; exact h10
theorem Ub.new {B B' : Nat} (h : Un w0 w B B' va T) : Ub w0 (w.alloc (.cells #[.slice none 0 0, .slice none 0 0] 62)) B B' w.heap.size va T 0 := by
  obtain ⟨F, h1, h2, h3, h4, h5, h6, h7⟩ := h
  have hb : Below w.heap.size w (w.alloc (.cells #[.slice none 0 0, .slice none 0 0] 62)) := below_alloc (Below.refl _ _) _
  have hx : ∀ k, k ∈ F ++ va.ownBlock.toList → k < w.heap.size := fun k hk => by
    rcases List.mem_append.1 hk with hk | hk
    · exact h1.lt k hk
    · exact (h2.lt k (by simpa using hk)).2
  have hB : BkF w.heap.size (.slice none 0 0) (.slice none 0 0) [] = [w.heap.size] := rfl
  refine ⟨F, _, _, [], [], h1.below hb, row_step h2 (fun k hk => hb.block k (h2.lt k hk).2), Bk.new w, Nat.zero_le _, h3.step (fun v hv k hk => hb.block k (h3.lt v hv k hk)) (fun k hk => ?_), h4, fun k hk hm => ?_, fun k hk => ?_, h7, below_step h6 hb⟩
  · rcases List.mem_append.1 hk with hk | hk
    · exact .inl hk
    · rw [hB, List.mem_singleton] at hk
      exact .inr (by omega)
  · have := hx k hk
    rw [hB, List.mem_singleton] at hm
    omega
  · rcases List.mem_append.1 hk with hk | hk
    · exact h5 k hk
    · rw [hB, List.mem_singleton] at hk
      have := h6.size; omega
theorem Ub.at {B B' b j : Nat} (h : Ub w0 w B B' b va T j) (hj : j < T.length) : ∃ A n c, T[j] = .slice A n c ∧ n ≤ 1024 := by
  obtain ⟨F, vL, vM, L, KB, h1, h2, h3, h4, h5, h6, h7, h8, h9, h10⟩ := h
  obtain ⟨A, n, c, xs, e, hn, ho⟩ := h5.row T[j] (by rw [List.drop_eq_getElem_cons hj]; exact List.mem_cons_self)
  exact ⟨A, n, c, e, hn⟩
theorem Ub.rowT {B B' b j : Nat} (h : Ub w0 w B B' b va T j) : w.ownsRow 0 45 1 va T.length T := by obtain ⟨F, vL, vM, L, KB, h1, h2, h3, h4, h5, h6, h7, h8, h9, h10⟩ := h; exact h2
theorem Ub.keep {B B' b j : Nat} (h : Ub w0 w B B' b va T j) (hj : j < T.length) (hT : T.length ≤ 2097152) {A : Option Addr} {n c : Nat} (he : T[j] = .slice A n c) :
    Calls Try.prog 32 #[ptr b, .slice A n c] w fun e w' => e = .returned (.tuple #[]) ∧ Ub w0 w' B B' b va T (j + 1) := by
  obtain ⟨F, vL, vM, L, KB, h1, h2, h3, h4, h5, h6, h7, h8, h9, h10⟩ := h
  have hd : T.drop j = T[j] :: T.drop (j + 1) := List.drop_eq_getElem_cons hj
  rw [hd] at h5 h9
  have hm1 : T[j] ∈ T[j] :: T.drop (j + 1) := List.mem_cons_self
  obtain ⟨A', n', c', xs, e, hn, ho⟩ := h5.row T[j] hm1
  rw [he] at e
  injection e with e1 e2 e3
  subst e1 e2 e3
  rw [he] at ho
  have hout : ∀ k, (Value.slice A n c).ownBlock = some k → k ∉ F ++ va.ownBlock.toList ++ BkF b vL vM KB := fun k hk => h5.out T[j] hm1 k (by rw [he]; exact hk)
  have hnew : ∀ k, (Value.slice A n c).ownBlock = some k → w0.heap.size ≤ k := fun k hk => h9 T[j] hm1 k (by rw [he]; exact hk)
  have hap := h5.apart
  rw [List.pairwise_cons] at hap
  refine (keep32 w b vL vM L KB (.slice A n c) n xs h3 ho hn (by omega) (fun k hk hm => hout k hk (List.mem_append_right _ hm))).mono ?_
  rintro e w' ⟨rfl, vL', vM', L', KB', hB, hL, hTu, hdd⟩
  have hrest : ∀ v, v ∈ T.drop (j + 1) → ∀ k, v.ownBlock = some k → k ∉ BkF b vL vM KB ++ (Value.slice A n c).ownBlock.toList := fun v hv k hk hm => by
    rcases List.mem_append.1 hm with hm | hm
    · exact h5.out v (List.mem_cons_of_mem _ hv) k hk (List.mem_append_right _ hm)
    · exact hap.1 v hv k (by rw [he]; simpa using hm) hk
  have hXl : ∀ k, k ∈ F ++ va.ownBlock.toList → k < w.heap.size := fun k hk => by
    rcases List.mem_append.1 hk with hk | hk
    · exact h1.lt k hk
    · exact (h2.lt k (by simpa using hk)).2
  have hX : ∀ k, k ∈ F ++ va.ownBlock.toList → k ∉ BkF b vL vM KB ++ (Value.slice A n c).ownBlock.toList := fun k hk hm => by
    rcases List.mem_append.1 hm with hm | hm
    · exact h7 k hk hm
    · exact hout k (by simpa using hm) (List.mem_append_left _ hk)
  have h5' : Lts w (F ++ va.ownBlock.toList ++ (BkF b vL vM KB ++ (Value.slice A n c).ownBlock.toList)) (T.drop (j + 1)) :=
    ⟨fun v hv => h5.row v (List.mem_cons_of_mem _ hv), fun v hv k hk hm => by
      rcases List.mem_append.1 hm with hm | hm
      · exact h5.out v (List.mem_cons_of_mem _ hv) k hk (List.mem_append_left _ hm)
      · exact hrest v hv k hk hm, hap.2⟩
  refine ⟨rfl, F, vL', vM', L', KB', h1.turn hTu (fun k hk => hX k (List.mem_append_left _ hk)), row_step h2 (fun k hk => hTu.block k (h2.lt k hk).2 (hX k (List.mem_append_right _ (by simp [hk])))), hB, by omega,
    h5'.step (fun v hv k hk => hTu.block k (h5'.lt v hv k hk) (hrest v hv k hk)) (fun k hk => ?_), h6, fun k hk hm => ?_, fun k hk => ?_, fun v hv => h9 v (List.mem_cons_of_mem _ hv), h10.trans (hTu.below h10.size (fun k hk => ?_))⟩
  · rcases List.mem_append.1 hk with hk | hk
    · exact .inl (List.mem_append_left _ hk)
    · rcases hdd k hk with h | h | h
      · exact .inl (List.mem_append_right _ (List.mem_append_left _ h))
      · exact .inl (List.mem_append_right _ (List.mem_append_right _ (by simp [h])))
      · exact .inr h
  · rcases hdd k hm with h | h | h
    · exact h7 k hk h
    · exact hout k h (List.mem_append_left _ hk)
    · have := hXl k hk; omega
  · rcases List.mem_append.1 hk with hk | hk
    · exact h8 k (List.mem_append_left _ hk)
    · rcases hdd k hk with h | h | h
      · exact h8 k (List.mem_append_right _ h)
      · exact hnew k h
      · exact Nat.le_trans h10.size h
  · rcases List.mem_append.1 hk with hk | hk
    · exact h8 k (List.mem_append_right _ hk)
    · exact hnew k (by simpa using hk)
/-- all of them are in the book -/
theorem Ub.all {B B' b : Nat} (h : Ub w0 w B B' b va T T.length) : Fr w0 w B B' b (4 * T.length) := by
  obtain ⟨F, vL, vM, L, KB, h1, h2, h3, h4, h5, h6, h7, h8, h9, h10⟩ := h
  exact ⟨F, vL, vM, L, KB, h1, h3, h4, fun k hk => h7 k (List.mem_append_left _ hk), fun k hk => h8 k (List.mem_append_left _ (List.mem_append_left _ hk)), fun k hk => h8 k (List.mem_append_right _ hk), h10⟩
end
end Go.Proofs.Ytgabkifojnkbkaa.Ip

set_option linter.unusedVariables false
set_option linter.unusedSimpArgs false
namespace Go.Proofs.Ytgabkifojnkbkaa.Ip
open Go.RowKit Go.Maps Go.WideMaps Go.MapKept Go.Proofs.YtgabkifojnkbkaaW.PrintWords Go.Proofs.Ytgabkifojnkbkaa.PIpf Go.Proofs.YtgabkifojnkbkaaW.XOpen
set_option maxHeartbeats 16000000 in
set_option maxRecDepth 100000 in
theorem untouched34 (w : World) (a l : Int) (A : Option Addr) (c : Nat) (xs : List S39) (h0 : 0 ≤ a) (h1 : a < 4294967296)
    (hC : Kd.C k39 w A xs.length xs) (hc : xs.length ≤ c) (hlen : xs.length ≤ 262144) (hW : ∀ x, x ∈ xs → W39 x) :
    Calls Try.prog 34 #[.agg #[.int .u32 a, .int .i64 l], .slice A xs.length c] w fun e w' => e = .returned (.bool true) ∧ Below w.heap.size w w' := by
  have HC := Aside0.mk hC
  have HLEN := Aside0.mk hlen
  have HW := Aside0.mk hW
  obtain ⟨W0, hW0⟩ : ∃ x, x = w.alloc (.cells #[.int .u32 a, .int .i64 l] 25) := ⟨_, rfl⟩
  have HB00 : Aside0 (Below w.heap.size w W0) := ⟨by rw [hW0]; exact below_alloc (Below.refl _ _) _⟩
  have HWA := Aside0.mk hW0
  clear hC hlen hW hW0
  have HBG := Aside0.mk (fun hg w => both_good w a l h0 h1 hg)
  have HBB := Aside0.mk (fun hg w => both_bad w a l h0 h1 hg)
  clear h0 h1 hc
  by_cases hg : Good a l
  · have HG := Aside0.mk hg
    clear hg
    go_enter Try.func34, Try.ntmps34
    go_wp2_with fail
    rw [← HWA.out]
    refine (HBG.out HG.out _).mono ?_
    rintro e_ w1 ⟨B, B', F, rfl, hS, hbel, hF⟩
    have H1 := Aside0.mk (Un.new (One.new hS hbel hF))
    clear hS hbel hF HBG HBB HG HWA
    go_upto_block 0 with fail
    go_cut [8] (fun v wx => ∃ T, Aside0 (Un W0 wx B B' v T) ∧ Aside0 (T.length ≤ 2 * xs.length))
    case first =>
      go_wp2_with fail
      go_loopg [8, 9] xs.length (fun k va v wr => ∃ (i : Nat) (T : List Value), v = .int .i64 (i : Int) ∧ k = xs.length - i ∧ i ≤ xs.length ∧ Aside0 (Un W0 wr B B' va T) ∧ Aside0 (T.length ≤ 2 * i))
      case atStart => exact ⟨0, [], rfl, rfl, Nat.zero_le _, H1, ⟨Nat.le_refl _⟩⟩
      case round =>
        clear H1
        obtain ⟨i, T, rfl, hk, hi, H1, HT⟩ := hrel
        by_cases hlt : i < xs.length
        · have hli : (i : Int) < (xs.length : Int) := by omega
          have HOP := Aside0.mk (W39_op HW.out hlt)
          have HOP2 := Aside0.mk (fun (w' : World) (hb : Below W0.heap.size W0 w') => at39 (Kd.C_below HC.out (below_step HB00.out hb)) i hlt)
          obtain ⟨ad, rfl, c0, c1, c2⟩ := at39 (Kd.C_below HC.out (below_step HB00.out H1.out.bel)) i hlt
          generalize rd39 xs i = x at *
          obtain ⟨k, s, u⟩ := x
          simp only at c0 c1 c2 HOP HOP2
          have hw1 : IntKind.i64.wrap ((i : Int) + 1) = ((i + 1 : Nat) : Int) := by rw [show (i : Int) + 1 = ((i + 1 : Nat) : Int) from by omega]; exact wrap64_id (by omega) (by have := HLEN.out; omega)
          go_wp2_with fail
          refine (H1.out.play k s u HOP.out.1 HOP.out.2.1 HOP.out.2.2).mono ?_
          rintro e_ w6 ⟨rfl, h6⟩
          have H6 := Aside0.mk h6
          clear h6 H1 c0 c1 c2
          obtain ⟨ad2, he2, c0, c1, c2⟩ := HOP2.out w6 H6.out.bel
          cases he2
          clear c1 c2
          by_cases hk5 : k = 5
          · subst hk5
            go_wp2_with fail
            refine (H6.out.list).mono ?_
            rintro e_ w7 ⟨A1, n1, c1, rfl, hn1, ⟨xs1, ho1⟩, hb7⟩
            have HN1 := Aside0.mk hn1
            have HO1 := Aside0.mk ho1
            have HB7 := Aside0.mk hb7
            have H7 := Aside0.mk (H6.out.below hb7)
            clear hn1 ho1 hb7
            go_wp2_with fail
            refine (H7.out.list).mono ?_
            rintro e_ w8 ⟨A2, n2, c2, rfl, hn2, ⟨xs2, ho2⟩, hb8⟩
            have HN2 := Aside0.mk hn2
            have HO2 := Aside0.mk ho2
            have HB8 := Aside0.mk hb8
            have H8 := Aside0.mk (H7.out.below hb8)
            clear hn2 ho2 hb8
            obtain ⟨F8, k1, k2, _⟩ := H8.out
            obtain ⟨AV, cV, rfl⟩ := own_slice k2
            obtain ⟨j0, hj0, hjj⟩ := Option.map_eq_some_iff.1 info45
            simp only [Prod.mk.injEq] at hjj
            obtain ⟨j1, j2, j3⟩ := hjj
            obtain ⟨vL', w9, hr9, hown9, hg9, _, hloc9⟩ := run_append_own_at (P := Try.prog) (w8.alloc (.cells #[.slice A1 n1 c1, .slice A2 n2 c2] 45)) 0 60 60 45 j0 _ 1 24 Try.underlying60 hj0 j1 j2 j3 rfl (by decide) (.slice AV T.length cV) T.length T (k2.alloc _) ⟨w8.heap.size, 0, none⟩ 2 2 [.slice A1 n1 c1, .slice A2 n2 c2] rfl (World.news_of_block (cs := #[.slice A1 n1 c1, .slice A2 n2 c2]) (t := 45) (fr := (0, 0)) (heap_alloc_new w8 _)) (by intro u hu; simp at hu; rcases hu with rfl | rfl <;> rfl) (by unfold maxLen; have := HLEN.out; have := HT.out; omega) (by have := HLEN.out; have := HT.out; omega) (Nat.zero_le _)
            obtain ⟨AL', cL', rfl⟩ := own_slice hown9
            have R9 := Aside0.mk hr9
            have H9 := Aside0.mk (H6.out.put rfl rfl HN1.out HN2.out HO1.out HB7.out HO2.out HB8.out (below_alloc (Below.refl _ _) _) hown9 hg9 hloc9)
            clear hr9 hown9 hg9 hloc9 j1 j2 j3 hj0 k1 k2 H8 H7 H6
            go_wp2_with ((with_reducible refine gate_builtin (b := .append) (xs := #[.tmp 49, .tmp 54]) rfl ?_); at_builtin; refine wpList_append_run rfl (.tmp 49) (.tmp 54) 60 rfl rfl rfl R9.out ?_)
            go_roundg (xs.length - (i + 1))
            case measure => omega
            case rel => exact ⟨i + 1, T ++ [.slice A1 n1 c1, .slice A2 n2 c2], by first | rfl | go_num, rfl, by omega, H9, ⟨by have := HT.out; simp; omega⟩⟩
          · go_wp2_with fail
            go_roundg (xs.length - (i + 1))
            case measure => omega
            case rel => exact ⟨i + 1, T, by first | rfl | go_num, rfl, by omega, H6, ⟨by have := HT.out; omega⟩⟩
        · have hli : ¬ (i : Int) < (xs.length : Int) := by omega
          go_wp2_with fail
          go_meet
          exact ⟨T, H1, ⟨by have := HT.out; omega⟩⟩
    case rest =>
      clear H1
      obtain ⟨T, H1, HT⟩ := hcut
      rename World => wc
      obtain ⟨_, _, k2, _⟩ := id H1.out
      obtain ⟨AV, cV, rfl⟩ := own_slice k2
      clear k2
      go_wp2_with fail
      have HU := Aside0.mk (Ub.new H1.out)
      have HBS : Aside0 (Below wc.heap.size wc (wc.alloc (.cells #[.slice none 0 0, .slice none 0 0] 62))) := ⟨below_alloc (Below.refl _ _) _⟩
      clear H1
      generalize wc.heap.size = b at *
      go_loopg [11] T.length (fun k v wr => ∃ j : Nat, v = .int .i64 (j : Int) ∧ k = T.length - j ∧ j ≤ T.length ∧ Aside0 (Ub W0 wr B B' b (.slice AV T.length cV) T j))
      case atStart => exact ⟨0, rfl, rfl, Nat.zero_le _, HU⟩
      case round =>
        clear HU
        obtain ⟨j, rfl, hk, hj, HU⟩ := hrel
        by_cases hlt : j < T.length
        · have hli : (j : Int) < (T.length : Int) := by omega
          have hw1 : IntKind.i64.wrap ((j : Int) + 1) = ((j + 1 : Nat) : Int) := by rw [show (j : Int) + 1 = ((j + 1 : Nat) : Int) from by omega]; exact wrap64_id (by omega) (by have := HLEN.out; have := HT.out; omega)
          obtain ⟨A1, n1, c1, he, hn1⟩ := HU.out.at hlt
          obtain ⟨g, cap, e, _, _⟩ := HU.out.rowT.form (by omega)
          injection e with e1 e2 e3
          subst e1 e3
          clear e2
          have kc := HU.out.rowT.cells (g := g) rfl j (.slice A1 n1 c1) (by rw [List.getElem?_eq_getElem hlt, he])
          rw [add_plain] at kc
          have HE := Aside0.mk he
          clear he hn1
          go_wp2_with fail
          refine (HU.out.keep hlt (by have := HLEN.out; have := HT.out; omega) HE.out).mono ?_
          rintro e_ w6 ⟨rfl, h6⟩
          have H6 := Aside0.mk h6
          clear h6 HU kc
          go_wp2_with fail
          go_roundg (T.length - (j + 1))
          case measure => omega
          case rel => exact ⟨j + 1, by first | rfl | go_num, rfl, by omega, H6⟩
        · have hli : ¬ (j : Int) < (T.length : Int) := by omega
          obtain rfl : j = T.length := by omega
          have HF := Aside0.mk HU.out.all
          clear HU
          go_wp2_with fail
          refine (HF.out.whole (by have := HLEN.out; have := HT.out; omega)).mono ?_
          rintro e_ w7 ⟨rfl, h7⟩
          have H7 := Aside0.mk h7
          clear h7 HF
          go_wp2_with fail
          refine (H7.out.play 5 _ 0 (by decide) (by omega) (by omega)).mono ?_
          rintro e_ w8 ⟨rfl, h8⟩
          have H8 := Aside0.mk h8
          clear h8
          go_wp2_with fail
          go_ret
          exact ⟨rfl, below_step HB00.out H8.out.bel⟩
  · have HG := Aside0.mk hg
    clear hg
    go_enter Try.func34, Try.ntmps34
    go_wp2_with fail
    rw [← HWA.out]
    refine (HBB.out HG.out _).mono ?_
    rintro e_ w1 ⟨rfl, hbel⟩
    have H1 := Aside0.mk (below_step HB00.out hbel)
    clear hbel
    go_wp2_with fail
    go_ret
    exact ⟨rfl, H1.out⟩
set_option maxHeartbeats 16000000 in
set_option maxRecDepth 100000 in
theorem fresh_law (w : World) (a l : Int) (A : Option Addr) (c : Nat) (xs : List S39) (h0 : 0 ≤ a) (h1 : a < 4294967296)
    (hC : Kd.C k39 w A xs.length xs) (hc : xs.length ≤ c) (hlen : xs.length ≤ 262144) (hW : ∀ x, x ∈ xs → W39 x) :
    Calls Try.prog 14 #[.agg #[.int .u32 a, .int .i64 l], .slice A xs.length c] w fun e w' => e = .returned (.bool true) ∧ Below w.heap.size w w' := by
  have hFst := Aside0.mk first16
  have HC := Aside0.mk hC
  have HLEN := Aside0.mk hlen
  have HW := Aside0.mk hW
  obtain ⟨W0, hW0⟩ : ∃ x, x = w.alloc (.cells #[.int .u32 a, .int .i64 l] 25) := ⟨_, rfl⟩
  have HB00 : Aside0 (Below w.heap.size w W0) := ⟨by rw [hW0]; exact below_alloc (Below.refl _ _) _⟩
  have HK0 : Aside0 (W0.heap[w.heap.size]? = some (.cells #[.int .u32 a, .int .i64 l] 25 (0, 0))) := ⟨by rw [hW0]; exact heap_alloc_new w _⟩
  have HUN := Aside0.mk (fun (w' : World) (hb : Below w.heap.size w w') => untouched34 w' a l A c xs h0 h1 (Kd.C_below hC hb) hc hlen hW)
  have HWA := Aside0.mk hW0
  have HSZ : Aside0 (w.heap.size < W0.heap.size) := ⟨by rw [hW0, World.size_alloc]; omega⟩
  clear hC hlen hW hW0
  have hcell : Aside0 (∀ w', Below W0.heap.size W0 w' → w'.cell? ⟨w.heap.size, 0, none⟩ = some (.int .u32 a) ∧ w'.cell? ⟨w.heap.size, 1, none⟩ = some (.int .i64 l)) :=
    ⟨fun w' hb => by
      have e1 := hb.block w.heap.size HSZ.out
      rw [HK0.out] at e1
      exact ⟨blk_cell e1 0, blk_cell e1 1⟩⟩
  have HBG := Aside0.mk (fun hg w => both_good w a l h0 h1 hg)
  have HBB := Aside0.mk (fun hg w => both_bad w a l h0 h1 hg)
  clear h0 h1 hc
  by_cases hg : Good a l
  · have HG := Aside0.mk hg
    clear hg
    go_enter Try.func14, Try.ntmps14
    go_wp2_with fail
    rw [← HWA.out]
    refine (HBG.out HG.out _).mono ?_
    rintro e_ w1 ⟨B, B', F, rfl, hS, hbel, hF⟩
    have H1 := Aside0.mk (One.new hS hbel hF)
    clear hS hbel hF HBG HBB HG HWA
    go_wp2_with fail
    refine (hFst.out _).mono ?_
    rintro e_ w2 ⟨rfl, hb⟩
    have H1 := Aside0.mk (Fr.new (H1.out.below hb))
    clear hb hFst
    go_wp2_with fail
    generalize w2.heap.size = b at *
    go_loopg [9] xs.length (fun k v wr => ∃ i : Nat, v = .int .i64 (i : Int) ∧ k = xs.length - i ∧ i ≤ xs.length ∧ Aside0 (Fr W0 wr B B' b (4 * i)))
    case atStart => exact ⟨0, rfl, rfl, Nat.zero_le _, H1⟩
    case round =>
      clear H1
      obtain ⟨i, rfl, hk, hi, H1⟩ := hrel
      by_cases hlt : i < xs.length
      · have hli : (i : Int) < (xs.length : Int) := by omega
        have HOP := Aside0.mk (W39_op HW.out hlt)
        have HOP2 := Aside0.mk (fun (w' : World) (hb : Below W0.heap.size W0 w') => at39 (Kd.C_below HC.out (below_step HB00.out hb)) i hlt)
        obtain ⟨ad, rfl, c0, c1, c2⟩ := at39 (Kd.C_below HC.out (below_step HB00.out H1.out.bel)) i hlt
        generalize rd39 xs i = x at *
        obtain ⟨k, s, u⟩ := x
        simp only at c0 c1 c2 HOP HOP2
        have hw1 : IntKind.i64.wrap ((i : Int) + 1) = ((i + 1 : Nat) : Int) := by rw [show (i : Int) + 1 = ((i + 1 : Nat) : Int) from by omega]; exact wrap64_id (by omega) (by have := HLEN.out; omega)
        go_wp2_with fail
        refine (H1.out.play k s u HOP.out.1 HOP.out.2.1 HOP.out.2.2).mono ?_
        rintro e_ w6 ⟨rfl, h6⟩
        have H6 := Aside0.mk h6
        clear h6 H1 c0 c1 c2
        obtain ⟨ad2, he2, c0, c1, c2⟩ := HOP2.out w6 H6.out.bel
        cases he2
        clear c1 c2
        by_cases hm : (i : Int) % 64 = 63
        · by_cases hk5 : k = 5
          · subst hk5
            go_wp2_with fail
            refine (H6.out.list).mono ?_
            rintro e_ w7 ⟨A1, n1, c1, rfl, hn1, h7⟩
            have HN := Aside0.mk hn1
            have H7 := Aside0.mk h7
            clear hn1 h7 H6 c0
            go_wp2_with fail
            refine (H7.out.keep HN.out (by have := HLEN.out; omega)).mono ?_
            rintro e_ w8 ⟨rfl, h8⟩
            have H8 := Aside0.mk (h8.more (show 4 * i + 4 ≤ 4 * (i + 1) by omega))
            clear h8 H7
            go_wp2_with fail
            refine (H8.out.whole (by have := HLEN.out; omega)).mono ?_
            rintro e_ w9 ⟨rfl, h9⟩
            have H9 := Aside0.mk h9
            clear h9 H8
            go_wp2_with fail
            go_roundg (xs.length - (i + 1))
            case measure => omega
            case rel => exact ⟨i + 1, by first | rfl | go_num, rfl, by omega, H9⟩
          · go_wp2_with fail
            refine (H6.out.whole (by have := HLEN.out; omega)).mono ?_
            rintro e_ w9 ⟨rfl, h9⟩
            have H9 := Aside0.mk (h9.more (show 4 * i ≤ 4 * (i + 1) by omega))
            clear h9 H6 c0
            go_wp2_with fail
            go_roundg (xs.length - (i + 1))
            case measure => omega
            case rel => exact ⟨i + 1, by first | rfl | go_num, rfl, by omega, H9⟩
        · by_cases hk5 : k = 5
          · subst hk5
            go_wp2_with fail
            refine (H6.out.list).mono ?_
            rintro e_ w7 ⟨A1, n1, c1, rfl, hn1, h7⟩
            have HN := Aside0.mk hn1
            have H7 := Aside0.mk h7
            clear hn1 h7 H6 c0
            go_wp2_with fail
            refine (H7.out.keep HN.out (by have := HLEN.out; omega)).mono ?_
            rintro e_ w8 ⟨rfl, h8⟩
            have H8 := Aside0.mk (h8.more (show 4 * i + 4 ≤ 4 * (i + 1) by omega))
            clear h8 H7
            go_wp2_with fail
            go_roundg (xs.length - (i + 1))
            case measure => omega
            case rel => exact ⟨i + 1, by first | rfl | go_num, rfl, by omega, H8⟩
          · have H8 := Aside0.mk (H6.out.more (show 4 * i ≤ 4 * (i + 1) by omega))
            clear H6
            go_wp2_with fail
            go_roundg (xs.length - (i + 1))
            case measure => omega
            case rel => exact ⟨i + 1, by first | rfl | go_num, rfl, by omega, H8⟩
      · have hli : ¬ (i : Int) < (xs.length : Int) := by omega
        go_wp2_with fail
        refine (H1.out.whole (by have := HLEN.out; omega)).mono ?_
        rintro e_ w7 ⟨rfl, h7⟩
        have H7 := Aside0.mk h7
        clear h7 H1
        go_wp2_with fail
        refine (H7.out.play 5 _ 0 (by decide) (by omega) (by omega)).mono ?_
        rintro e_ w8 ⟨rfl, h8⟩
        have H8 := Aside0.mk h8
        clear h8 H7
        obtain ⟨k20, k21⟩ := hcell.out w8 H8.out.bel
        go_wp2_with fail
        refine (HUN.out _ (below_step HB00.out H8.out.bel)).mono ?_
        rintro e_ w9 ⟨rfl, h9⟩
        have H9 := Aside0.mk (below_step (below_step HB00.out H8.out.bel) h9)
        clear h9 k20 k21
        go_wp2_with fail
        go_ret
        exact ⟨rfl, H9.out⟩
  · have HG := Aside0.mk hg
    clear hg
    go_enter Try.func14, Try.ntmps14
    go_wp2_with fail
    rw [← HWA.out]
    refine (HBB.out HG.out _).mono ?_
    rintro e_ w1 ⟨rfl, hbel⟩
    have H1 := Aside0.mk (below_step HB00.out hbel)
    clear hbel
    go_wp2_with fail
    refine (hFst.out _).mono ?_
    rintro e_ w2 ⟨rfl, hb⟩
    have H1 := Aside0.mk (below_step H1.out hb)
    clear hb
    go_wp2_with fail
    go_ret
    exact ⟨rfl, H1.out⟩
end Go.Proofs.Ytgabkifojnkbkaa.Ip
