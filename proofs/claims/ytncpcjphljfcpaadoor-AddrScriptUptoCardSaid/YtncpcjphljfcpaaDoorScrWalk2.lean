/- A step of the script of weftlaw1.AddrScript, each kind walked. Conditions: the tables of strconv and addr.classes, as hypotheses. -/
import Derived.Test.YtncpcjphljfcpaaDoorScrWalk1
import Derived.Test.YtncpcjphljfcpaaDoorPScrx0
import Derived.Test.YtncpcjphljfcpaaDoorPScrx10
import Derived.Test.YtncpcjphljfcpaaDoorPScrx11
import Derived.Test.YtncpcjphljfcpaaDoorPScrx6
import Derived.Test.YtncpcjphljfcpaaDoorPScrx7
import Derived.Test.YtncpcjphljfcpaaDoorPScrx9
import Derived.Test.YtncpcjphljfcpaaDoorPScrx3
namespace Go.Proofs.YtncpcjphljfcpaaDoor.PScr
open Go.RowKit Go.Proofs.YtncpcjphljfcpaaDoorW.PrintWords Go.Proofs.YtncpcjphljfcpaaDoorW.PrintLast Go.Proofs.YtncpcjphljfcpaaDoorW.PrintMore
attribute [local go_sem] max2_int min2_int max_two min_two max_three min_three max_four min_four
set_option linter.unusedVariables false
set_option linter.unusedSimpArgs false
def opCells (o : S45) (Ap : Option Addr) (cp : Nat) : Array Value := #[.int .i64 o.f0, .string o.f1, .int .u32 o.f2.f0, .int .u32 o.f2.f1.f0, .int .i64 o.f2.f1.f1, .int .u8 o.f2.f2.f0, .int .u8 o.f2.f2.f1, .int .u8 o.f2.f2.f2, .int .u8 o.f2.f2.f3, .int .u8 o.f2.f2.f4, .int .u8 o.f2.f2.f5, .int .u32 o.f3, .int .u32 o.f4, .slice Ap o.f5.length cp, .int .i64 o.f6]
abbrev StL := List S31 × List (List S31) × List (List S31)
/-- a step that answers a list -/
def addF (L : List S31) (xs ys : List (List S31)) (p : List S31 × List S31) : Option StL := if xs.length < 1000000 ∧ ys.length < 1000000 then some (L, xs ++ [p.1], ys ++ [p.2]) else none
def wroteF (o : S45) (L : List S31) : List S31 := if L.length > 0 then L.set (Int.tmod o.f6 L.length).natAbs ⟨o.f2.f1.f0, o.f2.f1.f1⟩ else L
/-- a step, where all goes well; anything else: nothing -/
def playsF (k : Nat) (o : S45) (L : List S31) (xs ys : List (List S31)) : Option StL :=
  if o.f0 = 1 then (weftlaw1_parses.f k o.f1).bind fun t => if t = true then some (L, xs, ys) else none
  else if o.f0 = 2 then (weftlaw1_formats.f k o.f2.f0 o.f2.f1.f0 o.f2.f1.f1 o.f2.f2.f0 o.f2.f2.f1 o.f2.f2.f2 o.f2.f2.f3 o.f2.f2.f4 o.f2.f2.f5).bind fun t => (weftlaw1_holds.f k o.f2.f0 o.f2.f1.f0 o.f2.f1.f1 o.f2.f2.f0 o.f2.f2.f1 o.f2.f2.f2 o.f2.f2.f3 o.f2.f2.f4 o.f2.f2.f5).bind fun t2 => if t = true ∧ t2 = true then some (L, xs, ys) else none
  else if o.f0 = 3 then (addr_Cover.f k o.f3 o.f4).bind fun l => (weftref1_Cover.f k o.f3 o.f4).bind fun m => (weftlaw1_copied.f k l).bind fun c => (weftlaw1_same.f k l m).bind fun s => if s = true then addF L xs ys (l, c) else none
  else if o.f0 = 4 then (weftlaw1_copied.f k o.f5).bind fun L2 => (mergesF k L2).bind (addF L2 xs ys)
  else if o.f0 = 5 then (mergesF k (wroteF o L)).bind (addF (wroteF o L) xs ys)
  else if o.f0 = 6 then (mergesF k L).bind (addF L xs ys)
  else some (L, xs, ys)
section
variable {k : Nat} {w0 w : World} {Bs : Nat} {vA vL vW : Value} {L : List S31} {xs ys : List (List S31)} {o : S45} {Ap : Option Addr} {cp : Nat} {r : StL}
set_option maxHeartbeats 4000000 in
set_option maxRecDepth 100000 in
theorem plays1 (HS : StS w0 Bs vA vL vW L xs ys w) (hP : Pow w) (hk : o.f0 = 1) (h : playsF k o L xs ys = some r) :
    Calls Tryd.prog 10 #[.pointer (some ⟨Bs, 0, none⟩), .agg (opCells o Ap cp)] w fun e w' => e = .returned (.bool true) ∧ ∃ vA' vL' vW', StS w0 Bs vA' vL' vW' r.1 r.2.1 r.2.2 w' := by
  unfold playsF at h
  rw [if_pos hk] at h
  obtain ⟨t, h1, h2⟩ := Option.bind_eq_some_iff.1 h
  obtain ⟨rfl, h2⟩ := if_someS h2
  obtain rfl := Option.some.inj h2
  have H1 := Aside0.mk h1
  have HSS := Aside0.mk HS
  have HP := Aside0.mk hP
  obtain ⟨kd, tx, ⟨aa, ⟨pa, pl⟩, ⟨m0, m1, m2, m3, m4, m5⟩⟩, lo, hi, ps, at_⟩ := o
  simp only at hk
  subst hk
  clear HS hP h h1 h2
  unfold opCells
  go_enter Tryd.func10, Tryd.ntmps10
  go_wp2_with (go_at_call 7; (with_reducible refine (weftlaw1_parses.calls k _ true _ (HP.out.on (below_alloc (Below.refl _ _) _)) H1.out).mono ?_); rintro e_ w1 ⟨rfl, hb1⟩
               have HS1 := Aside0.mk (StS.below (StS.alloc HSS.out _) hb1)
               clear hb1)
  go_ret
  exact ⟨rfl, _, _, _, HS1.out⟩
set_option maxHeartbeats 4000000 in
set_option maxRecDepth 100000 in
theorem plays2 (HS : StS w0 Bs vA vL vW L xs ys w) (hP : Pow w) (hT : Cls w) (hk : o.f0 = 2) (h : playsF k o L xs ys = some r) :
    Calls Tryd.prog 10 #[.pointer (some ⟨Bs, 0, none⟩), .agg (opCells o Ap cp)] w fun e w' => e = .returned (.bool true) ∧ ∃ vA' vL' vW', StS w0 Bs vA' vL' vW' r.1 r.2.1 r.2.2 w' := by
  unfold playsF at h
  rw [if_neg (show ¬ o.f0 = 1 by omega), if_pos hk] at h
  obtain ⟨t, h1, h⟩ := Option.bind_eq_some_iff.1 h
  obtain ⟨t2, h2, h⟩ := Option.bind_eq_some_iff.1 h
  obtain ⟨⟨rfl, rfl⟩, h⟩ := if_someS h
  obtain rfl := Option.some.inj h
  have H1 := Aside0.mk h1
  have H2 := Aside0.mk h2
  have HSS := Aside0.mk HS
  have HP := Aside0.mk hP
  have HT := Aside0.mk hT
  obtain ⟨kd, tx, ⟨aa, ⟨pa, pl⟩, ⟨m0, m1, m2, m3, m4, m5⟩⟩, lo, hi, ps, at_⟩ := o
  simp only at hk
  subst hk
  have CB := Aside0.mk (blk_new w (.cells (opCells ⟨2, tx, ⟨aa, ⟨pa, pl⟩, ⟨m0, m1, m2, m3, m4, m5⟩⟩, lo, hi, ps, at_⟩ Ap cp) 45 (0, 0)))
  clear HS hP hT h h1 h2
  unfold opCells
  go_enter Tryd.func10, Tryd.ntmps10
  go_wp2_with (first
    | (go_at_call 8; (with_reducible refine (weftlaw1_formats.calls k _ _ _ _ _ _ _ _ _ true _ (HP.out.on (below_alloc (Below.refl _ _) _)) H1.out).mono ?_); rintro e_ w1 ⟨rfl, hb1⟩
       have HS1 := Aside0.mk (StS.below (StS.alloc HSS.out _) hb1)
       have HT1 := Aside0.mk ((HT.out.on (below_alloc (Below.refl _ _) _)).on hb1)
       have CB1 := Aside0.mk (blk_below CB.out hb1)
       have x2 : w1.cell? ⟨w.heap.size, 2, none⟩ = some (.int .u32 aa) := (blk_cell CB1.out 2).trans rfl
       have x3 : w1.cell? ⟨w.heap.size, 3, none⟩ = some (.int .u32 pa) := (blk_cell CB1.out 3).trans rfl
       have x4 : w1.cell? ⟨w.heap.size, 4, none⟩ = some (.int .i64 pl) := (blk_cell CB1.out 4).trans rfl
       have x5 : w1.cell? ⟨w.heap.size, 5, none⟩ = some (.int .u8 m0) := (blk_cell CB1.out 5).trans rfl
       have x6 : w1.cell? ⟨w.heap.size, 6, none⟩ = some (.int .u8 m1) := (blk_cell CB1.out 6).trans rfl
       have x7 : w1.cell? ⟨w.heap.size, 7, none⟩ = some (.int .u8 m2) := (blk_cell CB1.out 7).trans rfl
       have x8 : w1.cell? ⟨w.heap.size, 8, none⟩ = some (.int .u8 m3) := (blk_cell CB1.out 8).trans rfl
       have x9 : w1.cell? ⟨w.heap.size, 9, none⟩ = some (.int .u8 m4) := (blk_cell CB1.out 9).trans rfl
       have x10 : w1.cell? ⟨w.heap.size, 10, none⟩ = some (.int .u8 m5) := (blk_cell CB1.out 10).trans rfl
       clear hb1)
    | (go_at_call 9; (with_reducible refine (weftlaw1_holds.calls k _ _ _ _ _ _ _ _ _ true _ HT1.out H2.out).mono ?_); rintro e_ w2 ⟨rfl, hb2⟩
       have HS2 := Aside0.mk (StS.below HS1.out hb2)
       clear hb2))
  go_ret
  exact ⟨rfl, _, _, _, HS2.out⟩
set_option maxHeartbeats 4000000 in
set_option maxRecDepth 100000 in
theorem plays6 (HS : StS w0 Bs vA vL vW L xs ys w) (hk : o.f0 = 6) (h : playsF k o L xs ys = some r) :
    Calls Tryd.prog 10 #[.pointer (some ⟨Bs, 0, none⟩), .agg (opCells o Ap cp)] w fun e w' => e = .returned (.bool true) ∧ ∃ vA' vL' vW', StS w0 Bs vA' vL' vW' r.1 r.2.1 r.2.2 w' := by
  unfold playsF at h
  rw [if_neg (show ¬ o.f0 = 1 by omega), if_neg (show ¬ o.f0 = 2 by omega), if_neg (show ¬ o.f0 = 3 by omega), if_neg (show ¬ o.f0 = 4 by omega), if_neg (show ¬ o.f0 = 5 by omega), if_pos hk] at h
  obtain ⟨⟨l, l2⟩, h1, h⟩ := Option.bind_eq_some_iff.1 h
  obtain ⟨⟨hx, hy⟩, h⟩ := if_someS h
  obtain rfl := Option.some.inj h
  have hm := mergesT k w0 _ Bs vA vL vW L xs ys l l2 (StS.alloc HS (.cells (opCells o Ap cp) 45 (0, 0))) hx hy h1
  obtain ⟨kd, tx, ⟨aa, ⟨pa, pl⟩, ⟨m0, m1, m2, m3, m4, m5⟩⟩, lo, hi, ps, at_⟩ := o
  simp only at hk
  subst hk
  dsimp only [opCells] at hm
  have HM := Aside0.mk hm
  clear HS h h1 hx hy hm
  unfold opCells
  go_enter Tryd.func10, Tryd.ntmps10
  go_wp2_with (go_at_call 36; (with_reducible refine HM.out.mono ?_); rintro e_ w1 ⟨rfl, vL1, vW1, hs1⟩
               have HS1 := Aside0.mk hs1
               clear hs1)
  go_ret
  exact ⟨rfl, _, _, _, HS1.out⟩
set_option maxHeartbeats 4000000 in
set_option maxRecDepth 100000 in
theorem plays0 (HS : StS w0 Bs vA vL vW L xs ys w) (hk : o.f0 < 1 ∨ 6 < o.f0) (h : playsF k o L xs ys = some r) :
    Calls Tryd.prog 10 #[.pointer (some ⟨Bs, 0, none⟩), .agg (opCells o Ap cp)] w fun e w' => e = .returned (.bool true) ∧ ∃ vA' vL' vW', StS w0 Bs vA' vL' vW' r.1 r.2.1 r.2.2 w' := by
  unfold playsF at h
  rw [if_neg (show ¬ o.f0 = 1 by omega), if_neg (show ¬ o.f0 = 2 by omega), if_neg (show ¬ o.f0 = 3 by omega), if_neg (show ¬ o.f0 = 4 by omega), if_neg (show ¬ o.f0 = 5 by omega), if_neg (show ¬ o.f0 = 6 by omega)] at h
  obtain rfl := Option.some.inj h
  have HSS := Aside0.mk HS
  obtain ⟨kd, tx, ⟨aa, ⟨pa, pl⟩, ⟨m0, m1, m2, m3, m4, m5⟩⟩, lo, hi, ps, at_⟩ := o
  simp only at hk
  have b1 : (kd == 1) = false := by simp; omega
  have b2 : (kd == 2) = false := by simp; omega
  have b3 : (kd == 3) = false := by simp; omega
  have b4 : (kd == 4) = false := by simp; omega
  have b5 : (kd == 5) = false := by simp; omega
  have b6 : (kd == 6) = false := by simp; omega
  clear HS h hk
  unfold opCells
  go_enter Tryd.func10, Tryd.ntmps10
  go_wp2
  go_ret
  exact ⟨rfl, _, _, _, StS.alloc HSS.out _⟩
set_option maxHeartbeats 4000000 in
set_option maxRecDepth 100000 in
theorem plays3 (HS : StS w0 Bs vA vL vW L xs ys w) (hk : o.f0 = 3) (h : playsF k o L xs ys = some r) :
    Calls Tryd.prog 10 #[.pointer (some ⟨Bs, 0, none⟩), .agg (opCells o Ap cp)] w fun e w' => e = .returned (.bool true) ∧ ∃ vA' vL' vW', StS w0 Bs vA' vL' vW' r.1 r.2.1 r.2.2 w' := by
  unfold playsF at h
  rw [if_neg (show ¬ o.f0 = 1 by omega), if_neg (show ¬ o.f0 = 2 by omega), if_pos hk] at h
  obtain ⟨l, h1, h⟩ := Option.bind_eq_some_iff.1 h
  obtain ⟨m, h2, h⟩ := Option.bind_eq_some_iff.1 h
  obtain ⟨c, h3, h⟩ := Option.bind_eq_some_iff.1 h
  obtain ⟨s, h4, h⟩ := Option.bind_eq_some_iff.1 h
  obtain ⟨hs1, hq⟩ := if_someS h
  subst hs1
  unfold addF at hq
  obtain ⟨⟨hx, hy⟩, hz⟩ := if_someS hq
  obtain rfl := Option.some.inj hz
  clear hz hq
  have H1 := Aside0.mk h1
  have H2 := Aside0.mk h2
  have H3 := Aside0.mk h3
  have H4 := Aside0.mk h4
  have HX := Aside0.mk hx
  have HY := Aside0.mk hy
  have HSS := Aside0.mk HS
  obtain ⟨kd, tx, ⟨aa, ⟨pa, pl⟩, ⟨m0, m1, m2, m3, m4, m5⟩⟩, lo, hi, ps, at_⟩ := o
  simp only at hk
  subst hk
  have CB := Aside0.mk (blk_new w (.cells (opCells ⟨3, tx, ⟨aa, ⟨pa, pl⟩, ⟨m0, m1, m2, m3, m4, m5⟩⟩, lo, hi, ps, at_⟩ Ap cp) 45 (0, 0)))
  have HS0 := Aside0.mk (StS.alloc HSS.out (.cells (opCells ⟨3, tx, ⟨aa, ⟨pa, pl⟩, ⟨m0, m1, m2, m3, m4, m5⟩⟩, lo, hi, ps, at_⟩ Ap cp) 45 (0, 0)))
  clear HS h h1 h2 h3 h4 hx hy
  unfold opCells
  go_enter Tryd.func10, Tryd.ntmps10
  go_wp2_with (first
    | (go_at_call 32; (with_reducible refine (addr_Cover.calls k _ _ l _ H1.out).mono ?_); rintro e_ w1 ⟨v1, rfl, hr1, hb1⟩
       obtain ⟨in1, ho1⟩ := Kd.R_own hr1
       obtain ⟨A1, c1, hv1⟩ := own_slice ho1
       subst hv1
       have HS1 := Aside0.mk (StS.below HS0.out hb1)
       have CB1 := Aside0.mk (blk_below CB.out hb1)
       have HR1 := Aside0.mk hr1
       have HB1 := Aside0.mk hb1.size
       have x11 : w1.cell? ⟨w.heap.size, 11, none⟩ = some (.int .u32 lo) := (blk_cell CB1.out 11).trans rfl
       have x12 : w1.cell? ⟨w.heap.size, 12, none⟩ = some (.int .u32 hi) := (blk_cell CB1.out 12).trans rfl
       clear hb1 hr1 ho1)
    | (go_at_call 33; (with_reducible refine (weftref1_Cover.calls k _ _ m _ H2.out).mono ?_); rintro e_ w2 ⟨v2, rfl, hr2, hb2⟩
       obtain ⟨in2, ho2⟩ := Kd.R_own hr2
       obtain ⟨A2, c2, hv2⟩ := own_slice ho2
       subst hv2
       have HS2 := Aside0.mk (StS.below HS1.out hb2)
       have HR2 := Aside0.mk (Kd.R_below HR1.out hb2)
       have HM2 := Aside0.mk hr2
       have hfr : ∀ k_, (w.alloc (.cells (opCells ⟨3, tx, ⟨aa, ⟨pa, pl⟩, ⟨m0, m1, m2, m3, m4, m5⟩⟩, lo, hi, ps, at_⟩ Ap cp) 45 (0, 0))).heap.size ≤ k_ → k_ ≠ Bs ∧ some k_ ≠ vA.ownBlock ∧ some k_ ≠ vL.ownBlock ∧ some k_ ≠ vW.ownBlock := fun k_ hk => ⟨fun e => by have := blk_lt HS0.out.blk; omega, fun e => by have := Kd.R_lt HS0.out.la k_ e.symm; omega, fun e => by have := Kd.R_lt HS0.out.ls k_ e.symm; omega, fun e => by have := Kd.R_lt HS0.out.ws k_ e.symm; omega⟩
       have ha := answersT k w0 _ Bs _ vL vW L xs ys A1 l c c1 HS2.out (Kd.R_mono (Kd.R_lowerOk HR2.out HS0.out.bel.size) hfr) HX.out HY.out H3.out
       have HA := Aside0.mk ha
       clear hb2 hr2 ho2 hfr ha)
    | (go_at_call 34; (with_reducible refine HA.out.mono ?_); rintro e_ w3 ⟨rfl, ⟨vL3, vW3, hs3⟩, _, hfr3⟩
       have HS3 := Aside0.mk hs3
       have hmv : ∀ k_, (w.heap.size < k_ ∧ k_ < w2.heap.size) → w3.heap[k_]? = w2.heap[k_]? := fun k_ hk => hfr3 k_ hk.2 (fun e => by have := blk_lt HSS.out.blk; omega) (fun e => by have := Kd.R_lt HSS.out.ls k_ e.symm; omega) (fun e => by have := Kd.R_lt HSS.out.ws k_ e.symm; omega)
       have hl3 := Kd.R_move (Kd.R_mono (Kd.R_bound HR2.out) (fun k_ hk => (show w.heap.size < k_ ∧ k_ < w2.heap.size from ⟨by have := hk.2.1; simp at this; omega, hk.2.2.1⟩))) hmv
       have hm3 := Kd.R_move (Kd.R_mono (Kd.R_bound HM2.out) (fun k_ hk => (show w.heap.size < k_ ∧ k_ < w2.heap.size from ⟨by have := hk.2.1; have := HB1.out; simp at this; omega, hk.2.2.1⟩))) hmv
       have HL3 := Aside0.mk (Kd.R_reads' hl3).2.2
       have HLL := Aside0.mk (Kd.R_reads' hl3).2.1
       have HM3 := Aside0.mk (Kd.R_reads' hm3).2.2
       have HML := Aside0.mk (Kd.R_reads' hm3).2.1
       clear hs3 hfr3 hmv hl3 hm3)
    | (go_at_call 11; (with_reducible refine (weftlaw1_same.calls k _ _ l _ _ m true _ HL3.out HLL.out HM3.out HML.out H4.out).mono ?_); rintro e_ w4 ⟨rfl, ⟨nd4, rfl⟩⟩
       have HS4 := Aside0.mk (StS.drewN HS3.out nd4)))
  go_ret
  exact ⟨rfl, _, _, _, HS4.out⟩
set_option maxHeartbeats 4000000 in
set_option maxRecDepth 100000 in
theorem plays4 (HS : StS w0 Bs vA vL vW L xs ys w) (hC : Kd.C k31 w Ap o.f5.length o.f5) (hle : o.f5.length ≤ cp) (hk : o.f0 = 4) (h : playsF k o L xs ys = some r) :
    Calls Tryd.prog 10 #[.pointer (some ⟨Bs, 0, none⟩), .agg (opCells o Ap cp)] w fun e w' => e = .returned (.bool true) ∧ ∃ vA' vL' vW', StS w0 Bs vA' vL' vW' r.1 r.2.1 r.2.2 w' := by
  unfold playsF at h
  rw [if_neg (show ¬ o.f0 = 1 by omega), if_neg (show ¬ o.f0 = 2 by omega), if_neg (show ¬ o.f0 = 3 by omega), if_pos hk] at h
  obtain ⟨L2, h1, h⟩ := Option.bind_eq_some_iff.1 h
  obtain ⟨⟨l, l2⟩, h2, h⟩ := Option.bind_eq_some_iff.1 h
  unfold addF at h
  obtain ⟨⟨hx, hy⟩, hz⟩ := if_someS h
  obtain rfl := Option.some.inj hz
  have H1 := Aside0.mk h1
  have H2 := Aside0.mk h2
  have HX := Aside0.mk hx
  have HY := Aside0.mk hy
  have HSS := Aside0.mk HS
  have HC := Aside0.mk hC
  have HLE := Aside0.mk hle
  obtain ⟨kd, tx, ⟨aa, ⟨pa, pl⟩, ⟨m0, m1, m2, m3, m4, m5⟩⟩, lo, hi, ps, at_⟩ := o
  simp only at hk
  subst hk
  have HS0 := Aside0.mk (StS.alloc HSS.out (.cells (opCells ⟨4, tx, ⟨aa, ⟨pa, pl⟩, ⟨m0, m1, m2, m3, m4, m5⟩⟩, lo, hi, ps, at_⟩ Ap cp) 45 (0, 0)))
  clear HS h h1 h2 hx hy hz hC hle
  unfold opCells
  go_enter Tryd.func10, Tryd.ntmps10
  go_wp2_with (first
    | (go_at_call 35; (with_reducible refine (weftlaw1_copied.calls k _ _ ps L2 _ (Kd.C_alloc HC.out _) HLE.out H1.out).mono ?_); rintro e_ w1 ⟨v1, rfl, hr1, hb1⟩
       obtain ⟨in1, ho1⟩ := Kd.R_own hr1
       obtain ⟨A1, c1, hv1⟩ := own_slice ho1
       subst hv1
       have HS1 := Aside0.mk (StS.putA HS0.out hb1 hr1)
       have KB1 := Aside0.mk (blk_below HS0.out.blk hb1)
       have kb1 : w1.cell? ⟨Bs, 0, none⟩ = some vA := (blk_cell KB1.out 0).trans rfl
       have fb1 := blk_frozen KB1.out 0
       have HM := Aside0.mk (mergesT k w0 _ Bs _ vL vW L2 xs ys l l2 HS1.out HX.out HY.out H2.out)
       clear hb1 hr1 ho1)
    | (go_at_call 36; (with_reducible refine HM.out.mono ?_); rintro e_ w2 ⟨rfl, vL2, vW2, hs2⟩
       have HS2 := Aside0.mk hs2
       clear hs2))
  go_ret
  exact ⟨rfl, _, _, _, HS2.out⟩
theorem StS.wrote {g n cap i : Nat} {pa pl : Int} (h : StS w0 Bs (.slice (some ⟨g, 0, none⟩) n cap) vL vW L xs ys w) (hi : i < L.length) :
    StS w0 Bs (.slice (some ⟨g, 0, none⟩) n cap) vL vW (L.set i ⟨pa, pl⟩) xs ys ((w.setCell ⟨g, i * 2, none⟩ (.int .u32 pa)).setCell ⟨g, i * 2 + 1, none⟩ (.int .i64 pl)) := by
  obtain ⟨hn, _, hC⟩ := Kd.R_reads' h.la
  obtain ⟨ad, e0, hx0, hx1⟩ := at_T31 hC (i : Int) (by omega) (by omega)
  obtain rfl := Option.some.inj e0
  simp only [Int.toNat_natCast, add_plain] at hx0 hx1
  have hs := (Kd.R_seg (d := k31) h.la (i : Int) (x' := ⟨pa, pl⟩) (j := 0) (seg := [.int .u32 pa, .int .i64 pl]) (c := [.int .u32 (rd_T31 L i).f0, .int .i64 (rd_T31 L i).f1]) (okp := fun _ => False) (by omega) (by omega) rfl
    (fun j u hj => by
      match j, hj with
      | 0, hj => injection hj with hj; subst hj; exact hx0
      | 1, hj => injection hj with hj; subst hj; exact hx1
      | j + 2, hj => simp at hj) (Nat.le_refl 2) (k31_mkM _ _ _ ⟨pa, pl⟩) (fun _ hk => hk.elim)).1
  have hl : ∀ k, (k ≠ Bs ∧ some k ≠ (Value.slice (some ⟨g, 0, none⟩) n cap).ownBlock ∧ some k ≠ vW.ownBlock) → k ≠ g := fun k hk e => hk.2.1 (by rw [e]; rfl)
  have hw : ∀ k, (k ≠ Bs ∧ some k ≠ (Value.slice (some ⟨g, 0, none⟩) n cap).ownBlock ∧ some k ≠ vL.ownBlock) → k ≠ g := fun k hk e => hk.2.1 (by rw [e]; rfl)
  have hB : Bs ≠ g := fun e => (h.la.1 g rfl).1 e.symm
  have hbg := Kd.R_base h.la g rfl
  exact ⟨blk_far (blk_far h.blk hB _) hB _, h.bs, hs, Kd.R_far (Kd.R_far h.ls hl _) hl _, Kd.R_far (Kd.R_far h.ws hw _) hw _, below_set (below_set h.bel hbg) hbg⟩
theorem StS.at_ {g n cap i : Nat} (h : StS w0 Bs (.slice (some ⟨g, 0, none⟩) n cap) vL vW L xs ys w) (hi : i < L.length) :
    w.cell? ⟨g, i * 2, none⟩ = some (.int .u32 (rd_T31 L i).f0) ∧ w.cell? ⟨g, i * 2 + 1, none⟩ = some (.int .i64 (rd_T31 L i).f1) := by
  obtain ⟨hn, _, hC⟩ := Kd.R_reads' h.la
  obtain ⟨ad, e0, hx0, hx1⟩ := at_T31 hC (i : Int) (by omega) (by omega)
  obtain rfl := Option.some.inj e0
  simp only [Int.toNat_natCast, add_plain] at hx0 hx1
  exact ⟨hx0, hx1⟩
set_option maxHeartbeats 4000000 in
set_option maxRecDepth 100000 in
theorem plays5 (HS : StS w0 Bs vA vL vW L xs ys w) (hLn : L.length ≤ 1000000000) (hk : o.f0 = 5) (h : playsF k o L xs ys = some r) :
    Calls Tryd.prog 10 #[.pointer (some ⟨Bs, 0, none⟩), .agg (opCells o Ap cp)] w fun e w' => e = .returned (.bool true) ∧ ∃ vA' vL' vW', StS w0 Bs vA' vL' vW' r.1 r.2.1 r.2.2 w' := by
  unfold playsF at h
  rw [if_neg (show ¬ o.f0 = 1 by omega), if_neg (show ¬ o.f0 = 2 by omega), if_neg (show ¬ o.f0 = 3 by omega), if_neg (show ¬ o.f0 = 4 by omega), if_pos hk] at h
  obtain ⟨⟨l, l2⟩, h2, h⟩ := Option.bind_eq_some_iff.1 h
  unfold addF at h
  obtain ⟨⟨hx, hy⟩, hz⟩ := if_someS h
  obtain rfl := Option.some.inj hz
  have H2 := Aside0.mk h2
  have HX := Aside0.mk hx
  have HY := Aside0.mk hy
  clear hz h h2 hx hy
  by_cases hL : L.length > 0
  · obtain ⟨g, cap, hv, hg0, hg1, cells, hcells⟩ := Kd.R_form HS.la hL
    subst hv
    have HSS := Aside0.mk HS
    obtain ⟨kd, tx, ⟨aa, ⟨pa, pl⟩, ⟨m0, m1, m2, m3, m4, m5⟩⟩, lo, hi, ps, at_⟩ := o
    simp only at hk
    subst hk
    have HWR : wroteF ⟨5, tx, ⟨aa, ⟨pa, pl⟩, ⟨m0, m1, m2, m3, m4, m5⟩⟩, lo, hi, ps, at_⟩ L = L.set (Int.tmod at_ L.length).natAbs ⟨pa, pl⟩ := by
      unfold wroteF; rw [if_pos hL]
    rw [HWR] at H2 ⊢
    have hs0 := StS.alloc HSS.out (.cells (opCells ⟨5, tx, ⟨aa, ⟨pa, pl⟩, ⟨m0, m1, m2, m3, m4, m5⟩⟩, lo, hi, ps, at_⟩ Ap cp) 45 (0, 0))
    dsimp only [opCells] at hs0
    have CB := blk_new w (.cells (opCells ⟨5, tx, ⟨aa, ⟨pa, pl⟩, ⟨m0, m1, m2, m3, m4, m5⟩⟩, lo, hi, ps, at_⟩ Ap cp) 45 (0, 0))
    dsimp only [opCells] at CB
    unfold opCells
    dsimp only
    generalize hwb : w.alloc (.cells #[.int .i64 5, .string tx, .int .u32 aa, .int .u32 pa, .int .i64 pl, .int .u8 m0, .int .u8 m1, .int .u8 m2, .int .u8 m3, .int .u8 m4, .int .u8 m5, .int .u32 lo, .int .u32 hi, .slice Ap ps.length cp, .int .i64 at_] 45 (0, 0)) = wb at hs0 CB
    have kA := hs0.cellA
    have kX : wb.cell? ⟨w.heap.size, 14, none⟩ = some (.int .i64 at_) := (blk_cell CB 14).trans rfl
    have k3 : wb.cell? ⟨w.heap.size, 3, none⟩ = some (.int .u32 pa) := (blk_cell CB 3).trans rfl
    have k4 : wb.cell? ⟨w.heap.size, 4, none⟩ = some (.int .i64 pl) := (blk_cell CB 4).trans rfl
    have k0 : wb.cell? ⟨w.heap.size, 0, none⟩ = some (.int .i64 5) := (blk_cell CB 0).trans rfl
    have d0 : decide ((L.length : Int) > 0) = true := decide_eq_true (by omega)
    have d1 : ((L.length : Int) == 0) = false := beq_eq_false_iff_ne.mpr (by omega)
    go_enter Tryd.func10, Tryd.ntmps10
    have hq0 := Int.tmod_lt_of_pos at_ (show (0 : Int) < (L.length : Int) by omega)
    have hq1 : -(L.length : Int) < Int.tmod at_ L.length := by
      have h1 := Int.tmod_lt_of_pos (-at_) (show (0 : Int) < (L.length : Int) by omega)
      rw [Int.neg_tmod] at h1
      omega
    have hil : (Int.tmod at_ L.length).natAbs < L.length := by omega
    have GB := Aside0.mk (blk_below hcells (show Below w.heap.size w wb from hwb ▸ below_alloc (Below.refl _ _) _))
    have fr0 := blk_frozen GB.out ((Int.tmod at_ L.length).natAbs * 2)
    have fr1 := blk_frozen GB.out ((Int.tmod at_ L.length).natAbs * 2 + 1)
    obtain ⟨cx0, cx1⟩ := StS.at_ hs0 hil
    have HS0 := Aside0.mk hs0
    have HHL := Aside0.mk hL
    go_wp2
    go_quiet (fail)
    go_wp2
    · rename_i hneg
      have e : -(Int.tmod at_ L.length) = (((Int.tmod at_ L.length).natAbs : Nat) : Int) := by omega
      rw [e]
      generalize hii : (Int.tmod at_ L.length).natAbs = i at *
      have p0 : (0 : Int) ≤ (i : Int) := by omega
      have p1 : (i : Int) < (L.length : Int) := by omega
      have HII := Aside0.mk hii
      clear hneg e hii hq0 hq1 kX k0 hcells hg0 hg1 HS
      go_region
      have hw := StS.wrote (pa := pa) (pl := pl) (StS.drewN HS0.out (nq + 1)) (show i < L.length by omega)
      have HM := Aside0.mk (mergesT k w0 _ Bs _ vL vW (L.set i ⟨pa, pl⟩) xs ys l l2 hw HX.out HY.out H2.out)
      clear hw
      go_wp2_with (go_at_call 36; (with_reducible refine HM.out.mono ?_); rintro e_ w2 ⟨rfl, vL2, vW2, hs2⟩
                   have HS2 := Aside0.mk hs2
                   clear hs2)
      go_ret
      have hz2 := HS2.out
      rw [← HII.out] at hz2
      exact ⟨rfl, _, _, _, hz2⟩
    · rename_i hneg
      have e : Int.tmod at_ L.length = (((Int.tmod at_ L.length).natAbs : Nat) : Int) := by omega
      rw [e]
      generalize hii : (Int.tmod at_ L.length).natAbs = i at *
      have p0 : (0 : Int) ≤ (i : Int) := by omega
      have p1 : (i : Int) < (L.length : Int) := by omega
      have HII := Aside0.mk hii
      clear hneg e hii hq0 hq1 kX k0 hcells hg0 hg1 HS
      go_region
      have hw := StS.wrote (pa := pa) (pl := pl) (StS.drewN HS0.out (nq + 1)) (show i < L.length by omega)
      have HM := Aside0.mk (mergesT k w0 _ Bs _ vL vW (L.set i ⟨pa, pl⟩) xs ys l l2 hw HX.out HY.out H2.out)
      clear hw
      go_wp2_with (go_at_call 36; (with_reducible refine HM.out.mono ?_); rintro e_ w2 ⟨rfl, vL2, vW2, hs2⟩
                   have HS2 := Aside0.mk hs2
                   clear hs2)
      go_ret
      have hz2 := HS2.out
      rw [← HII.out] at hz2
      exact ⟨rfl, _, _, _, hz2⟩
  · obtain ⟨inA, howA⟩ := Kd.R_own HS.la
    obtain ⟨Aa, ca, hva⟩ := own_slice howA
    subst hva
    have hw : wroteF o L = L := by unfold wroteF; rw [if_neg hL]
    rw [hw] at H2 ⊢
    have hm := mergesT k w0 _ Bs _ vL vW L xs ys l l2 (StS.alloc HS (.cells (opCells o Ap cp) 45 (0, 0))) HX.out HY.out H2.out
    have kA := (StS.alloc HS (.cells (opCells o Ap cp) 45 (0, 0))).cellA
    have d0 : decide ((L.length : Int) > 0) = false := decide_eq_false (by omega)
    obtain ⟨kd, tx, ⟨aa, ⟨pa, pl⟩, ⟨m0, m1, m2, m3, m4, m5⟩⟩, lo, hi, ps, at_⟩ := o
    simp only at hk
    subst hk
    dsimp only [opCells] at hm kA
    have HM := Aside0.mk hm
    clear hm HS howA
    unfold opCells
    go_enter Tryd.func10, Tryd.ntmps10
    go_wp2_with (go_at_call 36; (with_reducible refine HM.out.mono ?_); rintro e_ w2 ⟨rfl, vL2, vW2, hs2⟩
                 have HS2 := Aside0.mk hs2
                 clear hs2)
    go_ret
    exact ⟨rfl, _, _, _, HS2.out⟩
end

end Go.Proofs.YtncpcjphljfcpaaDoor.PScr
