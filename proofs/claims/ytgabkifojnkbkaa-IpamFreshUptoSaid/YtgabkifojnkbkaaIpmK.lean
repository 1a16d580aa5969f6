/- package ipam walked: keep, where no place is spare. No condition beyond the state's own. -/
import Derived.Test.YtgabkifojnkbkaaIpmE
set_option linter.unusedVariables false
set_option linter.unusedSimpArgs false
namespace Go.Proofs.Ytgabkifojnkbkaa.Ip
open Go.RowKit Go.Maps Go.WideMaps Go.MapKept Go.Proofs.YtgabkifojnkbkaaW.PrintWords Go.Proofs.Ytgabkifojnkbkaa.PIpf
open Go.ChangeMaps (setBlock)
theorem info9 : (Try.prog.info? 9).map (fun i => (i.zero, i.size, i.bytes)) = some (some (.string ⟨#[]⟩), 1, 16) := by kernel_rfl
theorem info3 : (Try.prog.info? 3).map (fun i => (i.zero, i.size, i.bytes)) = some (some (.int .i64 0), 1, 8) := by kernel_rfl

def keptN (M : IpM) (s : ByteArray) (a : Int) : IpM := { M with names := M.names ++ [s], byN := putN M.byN s a, byA := putA M.byA a M.names.length, cnt := M.cnt + 1 }
/-- what the two maps' stores leave -/
theorem IpS.stored {w2 w4 : World} {B b1 b2 : Nat} {vn vs : Value} {M : IpM} {s : ByteArray} {a t : Int} (h : IpS w2 B b1 b2 vn vs M) (hn : NM w4 b1 (putN M.byN s a) (M.cnt + 1)) (ha : AM w4 b2 (putA M.byA a t) (M.cnt + 1))
    (hb : ∀ b, b ≠ b1 → b ≠ b2 → w4.heap[b]? = w2.heap[b]?) : IpS w4 B b1 b2 vn vs { M with byN := putN M.byN s a, byA := putA M.byA a t, cnt := M.cnt + 1 } :=
  ⟨(hb B h.ne_B.1 h.ne_B.2).trans h.blk, hn, ha, h.ne, row_step h.nm (fun k hk => hb k (fun e => h.ne_nm.2.1 (by rw [hk, e])) (fun e => h.ne_nm.2.2 (by rw [hk, e]))), row_step h.sp (fun k hk => hb k (fun e => h.ne_sp.2.1 (by rw [hk, e])) (fun e => h.ne_sp.2.2 (by rw [hk, e])))⟩

/-- the two stores of keep, step by step, behind one draw -/
theorem IpS.two {w2 : World} {B b1 b2 : Nat} {vn vs : Value} {M : IpM} {s : ByteArray} {a t : Int} (HS2 : IpS w2 B b1 b2 vn vs M) (hs : s.size ≤ maxLen) (h0 : 0 ≤ a) (h1 : a < 4294967296) (hc : M.cnt < 1024) (ht0 : 0 ≤ t) (ht1 : t < 1024) (hN : M.byN s = none) (hA : M.byA a = none) :
    ∃ (st1 st3 : Nat) (w3 w4 w5 w6 : World), (Instr.mapEntry 73 (.map (some b1)) (.string s)).run Try.prog w2.drew = .ok (.tuple #[.int .u32 0, .int .i64 (st1 : Int)]) w3 ∧ (Instr.entryStore 73 (.map (some b1)) (.int .i64 (st1 : Int)) (.int .u32 a)).run Try.prog w3 = .ok () w4 ∧
      (Instr.mapEntry 74 (.map (some b2)) (.int .u32 a)).run Try.prog w4 = .ok (.tuple #[.int .i64 0, .int .i64 (st3 : Int)]) w5 ∧ (Instr.entryStore 74 (.map (some b2)) (.int .i64 (st3 : Int)) (.int .i64 t)).run Try.prog w5 = .ok () w6 ∧
      IpS w6 B b1 b2 vn vs { M with byN := putN M.byN s a, byA := putA M.byA a t, cnt := M.cnt + 1 } ∧ Turn w2 w6 [b1, b2] := by
  obtain ⟨es1, d1, st1, r1, r2⟩ := NM.entry (w := w2.drew) (HS2.m1.step rfl) (by show M.cnt < maxLen; unfold maxLen; omega) hs hN
  obtain ⟨w3, hw3⟩ : ∃ x, x = setBlock w2.drew b1 (.map es1 d1) := ⟨_, rfl⟩
  obtain ⟨_, _, hm1⟩ := HS2.m1.map
  obtain ⟨_, _, hm2⟩ := HS2.m2.map
  obtain ⟨es2, d2, r3, r4⟩ := r2 w3 a h0 h1 (by rw [hw3]; exact set_at (w := w2.drew) hm1)
  obtain ⟨w4, hw4⟩ : ∃ x, x = setBlock w3 b1 (.map es2 d2) := ⟨_, rfl⟩
  have o4 : ∀ b, b ≠ b1 → w4.heap[b]? = w2.heap[b]? := fun b hb => by rw [hw4, set_other _ hb, hw3, set_other _ hb]; rfl
  obtain ⟨es3, d3, st3, r5, r6⟩ := AM.entry (w := w4) (HS2.m2.step (o4 b2 (Ne.symm HS2.ne))) (by show M.cnt < maxLen; unfold maxLen; omega) h0 h1 hA
  obtain ⟨w5, hw5⟩ : ∃ x, x = setBlock w4 b2 (.map es3 d3) := ⟨_, rfl⟩
  obtain ⟨es4, d4, r7, r8⟩ := r6 w5 t (by simp [Lit.wf, IntKind.min, IntKind.max, IntKind.bits, IntKind.signed]; omega) (by rw [hw5]; exact set_at ((o4 b2 (Ne.symm HS2.ne)).trans hm2))
  obtain ⟨w6, hw6⟩ : ∃ x, x = setBlock w5 b2 (.map es4 d4) := ⟨_, rfl⟩
  have h5 : w5.heap[b2]? = some (.map es3 d3) := by rw [hw5]; exact set_at ((o4 b2 (Ne.symm HS2.ne)).trans hm2)
  have h3 : w3.heap[b1]? = some (.map es1 d1) := by rw [hw3]; exact set_at (w := w2.drew) hm1
  have HN6 : NM w6 b1 (putN M.byN s a) (M.cnt + 1) := r4 w6 (by rw [hw6, set_other _ HS2.ne, hw5, set_other _ HS2.ne, hw4, set_at h3])
  have HA6 : AM w6 b2 (putA M.byA a t) (M.cnt + 1) := r8 w6 (by rw [hw6, set_at h5])
  have HT6 : Turn w2 w6 [b1, b2] := ⟨by rw [hw6, hw5, hw4, hw3]; rfl, by rw [hw6, hw5, hw4, hw3]; rfl, by rw [hw6, hw5, hw4, hw3]; rfl, by rw [hw6, hw5, hw4, hw3]; simp [setBlock], fun b _ hb => by
    simp only [List.mem_cons, List.not_mem_nil, or_false, not_or] at hb
    rw [hw6, set_other _ hb.2, hw5, set_other _ hb.2]; exact o4 b hb.1⟩
  have HE := HS2.stored HN6 HA6 (fun b hb1 hb2 => by rw [hw6, set_other _ hb2, hw5, set_other _ hb2]; exact o4 b hb1)
  rw [← hw3] at r1
  rw [← hw4] at r3
  rw [← hw5] at r5
  rw [← hw6] at r7
  exact ⟨st1, st3, w3, w4, w5, w6, r1, r3, r5, r7, HE, HT6⟩
theorem in_two {B b1 b2 : Nat} {vn vs : Value} {b : Nat} (h : b ∈ [b1, b2]) : b ∈ IpF B b1 b2 vn vs := by
  simp only [List.mem_cons, List.not_mem_nil, or_false] at h; rcases h with rfl | rfl <;> simp [IpF]

set_option maxHeartbeats 8000000 in
set_option maxRecDepth 100000 in
theorem keep_new (w : World) (B b1 b2 : Nat) (vn vs : Value) (M : IpM) (s : ByteArray) (a : Int) (hs : s.size ≤ maxLen) (h0 : 0 ≤ a) (h1 : a < 4294967296) (HS : IpS w B b1 b2 vn vs M) (hsp : M.spare = []) (hl : M.names.length < 1024) (hc : M.cnt < 1024) (hN : M.byN s = none) (hA : M.byA a = none) :
    Calls Try.prog 47 #[.pointer (some ⟨B, 0, none⟩), .string s, .int .u32 a] w fun e w' => e = .returned (.tuple #[]) ∧ ∃ vn', IpS w' B b1 b2 vn' vs (keptN M s a) ∧ Turn w w' (IpF B b1 b2 vn vs) ∧ (vn'.ownBlock = vn.ownBlock ∨ ∃ b, vn'.ownBlock = some b ∧ w.heap.size ≤ b) := by
  obtain ⟨An, cn, rfl⟩ := own_slice HS.nm
  obtain ⟨As, cs, rfl⟩ := own_slice HS.sp
  have k7 : w.cell? ⟨B, 7, none⟩ = some (.slice An M.names.length cn) := HS.cell 7
  have k8 : w.cell? ⟨B, 8, none⟩ = some (.slice As 0 cs) := by have := HS.cell 8; rw [hsp] at this; exact this
  have HSS := Aside0.mk HS
  have HL := Aside0.mk hl
  have HSP := Aside0.mk hsp
  clear HS hsp
  go_enter Try.func47, Try.ntmps47
  go_wp2_with ((with_reducible refine gate_builtin (b := .append) (xs := #[.tmp 49, .tmp 51]) rfl ?_); at_builtin
               refine print_append (w0 := w) 0 rfl (.tmp 49) (.tmp 51) 66 9 (.string ⟨#[]⟩) 16 rfl Try.underlying66 info9 rfl (by decide) (.slice An M.names.length cn) (M.names.map Value.string) (.string s) rfl rfl rfl (by simpa using HSS.out.nm) (Below.refl _ _) (Nat.zero_le _) (by have := HL.out; simp; omega) ?_
               intro v1 w1 ho0 hb hg hat
               have ho : w1.ownsRow 0 9 1 v1 (M.names ++ [s]).length ((M.names ++ [s]).map Value.string) := by simpa using ho0
               clear ho0
               obtain ⟨A1, c1, rfl⟩ := own_slice ho
               have hb1 : w1.heap[B]? = some (.cells (IpCells M b1 b2 (.slice An M.names.length cn) (.slice As M.spare.length cs)) 77 (0, 0)) := (hg.block B (blk_lt HSS.out.blk) HSS.out.ne_nm.1).trans HSS.out.blk
               have ks : w1.cell? ⟨B, 7, none⟩ = some (.slice An M.names.length cn) := blk_cell hb1 7
               have fs := blk_frozen hb1 7
               have HB1 := Aside0.mk hb1
               have HO := Aside0.mk ho
               have HG := Aside0.mk hg
               have HAT := Aside0.mk hat
               clear hb1 ho hg hat hb)
  have HS2 : IpS (w1.setCell ⟨B, 7, none⟩ (.slice A1 (M.names ++ [s]).length c1)) B b1 b2 (.slice A1 (M.names ++ [s]).length c1) (.slice As M.spare.length cs) { M with names := M.names ++ [s] } := by
    have old : ∀ b, b < w.heap.size → some b ≠ (Value.slice An M.names.length cn).ownBlock → b ≠ B → (w1.setCell ⟨B, 7, none⟩ (.slice A1 (M.names ++ [s]).length c1)).heap[b]? = w.heap[b]? := fun b hb h1 h2 =>
      (Below.heap_setCell w1 ⟨B, 7, none⟩ _ b h2).trans (HG.out.block b hb h1)
    have hneB : ∀ k, (Value.slice A1 (M.names ++ [s]).length c1).ownBlock = some k → k ≠ B := fun k hk e => by
      subst e
      rcases HAT.out with h | ⟨b, h, hle⟩
      · rw [hk] at h; exact HSS.out.ne_nm.1 h
      · rw [hk] at h; injection h with h; subst h; have := blk_lt HSS.out.blk; omega
    refine ⟨blk_put HB1.out 7 _ rfl, HSS.out.m1.step (old b1 (HSS.out.lt b1 (by simp [IpF])) HSS.out.ne_nm.2.1 (Ne.symm HSS.out.ne_B.1)), HSS.out.m2.step (old b2 (HSS.out.lt b2 (by simp [IpF])) HSS.out.ne_nm.2.2 (Ne.symm HSS.out.ne_B.2)), HSS.out.ne,
      row_step HO.out (fun k hk => Below.heap_setCell w1 ⟨B, 7, none⟩ _ k (hneB k hk)), row_step HSS.out.sp (fun k hk => old k (HSS.out.sp.lt k hk).2 (fun e => HSS.out.ne_rows k e.symm hk) (fun e => HSS.out.ne_sp.1 (by rw [hk, e])))⟩
  have HT2 : Turn w (w1.setCell ⟨B, 7, none⟩ (.slice A1 (M.names ++ [s]).length c1)) (IpF B b1 b2 (.slice An M.names.length cn) (.slice As M.spare.length cs)) :=
    ((Turn.refl w _).grown HG.out (fun b hb => Or.inl (by simp [IpF, hb]))).set (Or.inl (by simp [IpF])) _
  generalize hw2 : w1.setCell ⟨B, 7, none⟩ (.slice A1 (M.names ++ [s]).length c1) = w2 at HS2 HT2
  have e2 : (w1.setCell ⟨B, 7, none⟩ (.slice A1 (M.names.length + 1) c1)) = w2 := by rw [← hw2]; simp
  try rw [e2]
  clear e2 hw2
  have k5 : w2.cell? ⟨B, 5, none⟩ = some (.map (some b1)) := HS2.cell 5
  have k6 : w2.cell? ⟨B, 6, none⟩ = some (.map (some b2)) := HS2.cell 6
  obtain ⟨st1, st3, w3, w4, w5, w6, r1, r3, r5, r7, he, ht⟩ := HS2.two (t := M.names.length) hs h0 h1 hc (by omega) (by omega) hN hA
  have HE := Aside0.mk (show IpS w6 B b1 b2 (.slice A1 (M.names ++ [s]).length c1) (.slice As M.spare.length cs) (keptN M s a) from he)
  have HT := Aside0.mk (HT2.trans ht (fun b hb => Or.inl (in_two hb)))
  clear he ht HS2 HT2 HSP HL HB1 HO HG HSS ks fs k7 k8 hl hc hN hA h0 h1 hs
  go_region
  go_end0
  exact ⟨rfl, _, HE.out, HT.out, HAT.out⟩

theorem ownsRow_cut {w : World} {base e n cap : Nat} {A : Option Addr} {l : List Value} (h : w.ownsRow base e 1 (.slice A n cap) n l) {m : Nat} (hm : m ≤ n) (hn : 0 < n) : w.ownsRow base e 1 (.slice A m cap) m (l.take m) := by
  obtain ⟨h1, h2⟩ := h
  refine ⟨by rw [List.length_take]; omega, ?_⟩
  rcases h2 with ⟨hv, h0⟩ | ⟨g, cap', cur, hv, hb, hh, hc, hl, hs, ht⟩
  · omega
  · injection hv with e1 e2 e3
    subst e1 e3
    refine .inr ⟨g, cap, cur, rfl, hb, hh, by omega, hl, hs, ?_⟩
    rw [← ht, List.take_take]; congr 1; omega
def keptO (M : IpM) (s : ByteArray) (a : Int) : IpM := { M with names := M.names.set (M.spare.getD (M.spare.length - 1) 0).toNat s, spare := M.spare.take (M.spare.length - 1), byN := putN M.byN s a, byA := putA M.byA a (M.spare.getD (M.spare.length - 1) 0), cnt := M.cnt + 1 }
set_option maxHeartbeats 8000000 in
set_option maxRecDepth 100000 in
theorem keep_old (w : World) (B b1 b2 : Nat) (vn vs : Value) (M : IpM) (s : ByteArray) (a : Int) (hs : s.size ≤ maxLen) (h0 : 0 ≤ a) (h1 : a < 4294967296) (HS : IpS w B b1 b2 vn vs M) (hsp : 0 < M.spare.length) (hl : M.names.length ≤ 1024) (hc : M.cnt < 1024) (hN : M.byN s = none) (hA : M.byA a = none)
    (ht0 : 0 ≤ M.spare.getD (M.spare.length - 1) 0) (ht1 : M.spare.getD (M.spare.length - 1) 0 < M.names.length) (hls : M.spare.length ≤ 1024) :
    Calls Try.prog 47 #[.pointer (some ⟨B, 0, none⟩), .string s, .int .u32 a] w fun e w' => e = .returned (.tuple #[]) ∧ ∃ vs', IpS w' B b1 b2 vn vs' (keptO M s a) ∧ Turn w w' (IpF B b1 b2 vn vs) ∧ vs'.ownBlock = vs.ownBlock := by
  obtain ⟨gn, cn, rfl, _, _⟩ := HS.nm.form (by omega)
  obtain ⟨gs, cs, rfl, _, _⟩ := HS.sp.form hsp
  have k7 : w.cell? ⟨B, 7, none⟩ = some (.slice (some ⟨gn, 0, none⟩) M.names.length cn) := HS.cell 7
  have k8 : w.cell? ⟨B, 8, none⟩ = some (.slice (some ⟨gs, 0, none⟩) M.spare.length cs) := HS.cell 8
  have f8 := blk_frozen HS.blk 8
  have kl := num_at HS.sp (t := (M.spare.length : Int) - 1) (by omega) (by omega)
  rw [show ((M.spare.length : Int) - 1).toNat = M.spare.length - 1 by omega] at kl
  have fn := HS.nm.frozenAt (M.spare.getD (M.spare.length - 1) 0).toNat
  have kn := name_at HS.nm ht0 ht1
  have hneB : gn ≠ B := fun e => HS.ne_nm.1 (by rw [e]; rfl)
  have hcs : M.spare.length ≤ cs := own_cap HS.sp
  have kn2 : (w.setCell ⟨B, 8, none⟩ (.slice (some ⟨gs, 0, none⟩) (M.spare.length - 1) cs)).cell? ⟨gn, (M.spare.getD (M.spare.length - 1) 0).toNat, none⟩ = some (.string (M.names.getD (M.spare.getD (M.spare.length - 1) 0).toNat ⟨#[]⟩)) := (cell_far hneB _).trans kn
  have HS2 : IpS ((w.setCell ⟨B, 8, none⟩ (.slice (some ⟨gs, 0, none⟩) (M.spare.length - 1) cs)).setCell ⟨gn, (M.spare.getD (M.spare.length - 1) 0).toNat, none⟩ (.string s)) B b1 b2 (.slice (some ⟨gn, 0, none⟩) M.names.length cn) (.slice (some ⟨gs, 0, none⟩) (M.spare.length - 1) cs)
      { M with names := M.names.set (M.spare.getD (M.spare.length - 1) 0).toNat s, spare := M.spare.take (M.spare.length - 1) } := by
    have nb1 : b1 ≠ gn := fun e => HS.ne_nm.2.1 (by rw [e]; rfl)
    have nb2 : b2 ≠ gn := fun e => HS.ne_nm.2.2 (by rw [e]; rfl)
    have ns : gs ≠ gn := fun e => HS.ne_rows gn rfl (by rw [← e]; rfl)
    have nsB : gs ≠ B := fun e => HS.ne_sp.1 (by rw [e]; rfl)
    have old : ∀ b, b ≠ B → b ≠ gn → ((w.setCell ⟨B, 8, none⟩ (.slice (some ⟨gs, 0, none⟩) (M.spare.length - 1) cs)).setCell ⟨gn, (M.spare.getD (M.spare.length - 1) 0).toNat, none⟩ (.string s)).heap[b]? = w.heap[b]? := fun b h1 h2 =>
      (Below.heap_setCell _ _ _ b h2).trans (Below.heap_setCell _ _ _ b h1)
    refine ⟨(Below.heap_setCell _ _ _ B (Ne.symm hneB)).trans (blk_put HS.blk 8 _ rfl), HS.m1.step (old b1 (Ne.symm HS.ne_B.1) nb1), HS.m2.step (old b2 (Ne.symm HS.ne_B.2) nb2), HS.ne, ?_, ?_⟩
    · have h1 : (w.setCell ⟨B, 8, none⟩ (.slice (some ⟨gs, 0, none⟩) (M.spare.length - 1) cs)).ownsRow 0 9 1 (.slice (some ⟨gn, 0, none⟩) M.names.length cn) M.names.length (M.names.map Value.string) :=
        row_step HS.nm (fun k hk => Below.heap_setCell _ _ _ k (by injection hk with hk; rw [← hk]; exact hneB))
      have h2 := (h1.stored (M.spare.getD (M.spare.length - 1) 0).toNat (.string s)).1
      simpa [List.map_set] using h2
    · have h1 := ownsRow_cut HS.sp (m := M.spare.length - 1) (by omega) hsp
      have h2 := row_step (w1 := (w.setCell ⟨B, 8, none⟩ (.slice (some ⟨gs, 0, none⟩) (M.spare.length - 1) cs)).setCell ⟨gn, (M.spare.getD (M.spare.length - 1) 0).toNat, none⟩ (.string s)) h1 (fun k hk => old k (by injection hk with hk; rw [← hk]; exact nsB) (by injection hk with hk; rw [← hk]; exact ns))
      simpa [List.map_take, Nat.min_eq_left (show M.spare.length - 1 ≤ M.spare.length by omega)] using h2
  have HT2 : Turn w ((w.setCell ⟨B, 8, none⟩ (.slice (some ⟨gs, 0, none⟩) (M.spare.length - 1) cs)).setCell ⟨gn, (M.spare.getD (M.spare.length - 1) 0).toNat, none⟩ (.string s)) (IpF B b1 b2 (.slice (some ⟨gn, 0, none⟩) M.names.length cn) (.slice (some ⟨gs, 0, none⟩) M.spare.length cs)) :=
    ((Turn.refl w _).set (Or.inl (by simp [IpF])) _).set (Or.inl (by simp [IpF, Value.ownBlock])) _
  obtain ⟨st1, st3, w3, w4, w5, w6, r1, r3, r5, r7, he, ht⟩ := HS2.two (t := M.spare.getD (M.spare.length - 1) 0) hs h0 h1 hc ht0 (by omega) hN hA
  have k5 := HS2.cell 5
  have k6 := HS2.cell 6
  have HE := Aside0.mk (show IpS w6 B b1 b2 (.slice (some ⟨gn, 0, none⟩) M.names.length cn) (.slice (some ⟨gs, 0, none⟩) (M.spare.length - 1) cs) (keptO M s a) from he)
  have HT := Aside0.mk (HT2.trans ht (fun b hb => Or.inl (in_two hb)))
  replace k5 : _ = some (Value.map (some b1)) := k5
  replace k6 : _ = some (Value.map (some b2)) := k6
  clear he ht HS2 HT2 HS
  generalize M.names.getD (M.spare.getD (M.spare.length - 1) 0).toNat ⟨#[]⟩ = onm at *
  generalize M.spare.getD (M.spare.length - 1) 0 = t at *
  generalize M.spare.length = n at *
  have hn1 : (n : Int) - 1 ≤ cs := by omega
  have hn0 : (1 : Int) ≤ n := by omega
  generalize hw2 : (w.setCell ⟨B, 8, none⟩ (.slice (some ⟨gs, 0, none⟩) (n - 1) cs)).setCell ⟨gn, t.toNat, none⟩ (.string s) = w2 at k5 k6 r1
  have HW2 := Aside0.mk hw2
  clear hw2
  go_enter Try.func47, Try.ntmps47
  go_wp2
  rw [HW2.out]
  clear HW2 kn kn2 kl fn f8 k7 k8 hN hA hc hls hl hsp ht0 ht1 hs h0 h1 hcs hn1 hn0
  go_region
  go_end0
  exact ⟨rfl, _, HE.out, HT.out, rfl⟩
end Go.Proofs.Ytgabkifojnkbkaa.Ip
