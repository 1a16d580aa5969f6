/- PoolMemory walked. Conditions: what comes in is of its kinds. -/
import Derived.Test.YtebnlhjakiipjaaPmF
set_option linter.unusedVariables false
set_option linter.unusedSimpArgs false
namespace Go.Proofs.Ytebnlhjakiipjaa.Pl
open Go.RowKit Go.Maps Go.Proofs.YtebnlhjakiipjaaW.PrintWords Go.Proofs.YtebnlhjakiipjaaW.PrintMore Go.Proofs.YtebnlhjakiipjaaW.PrintLast Go.Proofs.Ytebnlhjakiipjaa.PPlf
theorem OpI.below {w w' : World} {A : Option Addr} {l : List S49} {c : Nat} (h : OpI w A l c) (hb : Below w.heap.size w w') : OpI w' A l c := ⟨h.len, h.cap, Kd.C_below h.C hb, h.W⟩
set_option maxHeartbeats 16000000 in
set_option maxRecDepth 100000 in
theorem mem_bad (w : World) (na nl s lo hi : Int) (A : Option Addr) (kept : List S27) (c : Nat) (A1 : Option Addr) (sc : List S49) (c1 : Nat) (hS : SpIn w na nl s lo hi A kept c) (h1 : OpI w A1 sc c1) (hE : newE na nl s lo hi kept ≠ 0) :
    Calls Try.prog 8 #[.agg #[.int .u32 na, .int .i64 nl, .int .i64 s, .int .u32 lo, .int .u32 hi, .slice A kept.length c], .slice A1 sc.length c1] w fun e w' => e = .returned (.bool true) ∧ Below w.heap.size w w' := by
  have hb0 := below_alloc (Below.refl w.heap.size w) (.cells #[.int .u32 na, .int .i64 nl, .int .i64 s, .int .u32 lo, .int .u32 hi, .slice A kept.length c] 30)
  have kb := heap_alloc_new w (.cells #[.int .u32 na, .int .i64 nl, .int .i64 s, .int .u32 lo, .int .u32 hi, .slice A kept.length c] 30)
  have HK := Aside0.mk kb
  have HS := Aside0.mk (hS.below hb0)
  have HB0 := Aside0.mk hb0
  have HG := Aside0.mk begun9
  have HE := Aside0.mk hE
  have hEb : (newE na nl s lo hi kept != 0) = true := by simpa using hE
  have HBAD := Aside0.mk (fun (W : World) (h : SpIn W na nl s lo hi A kept c) => h.bad hE)
  have HSND := Aside0.mk (fun (W : World) (h : SpIn W na nl s lo hi A kept c) => h.snd)
  rw [decide_eq_false hE] at HSND
  generalize newE na nl s lo hi kept = E at *
  clear hE kb hb0 hS h1
  go_enter Try.func8, Try.ntmps8
  go_wp2_with fail
  refine (HG.out _).mono ?_
  rintro e_ w1 ⟨rfl, hb1⟩
  have HK1 := Aside0.mk (blk_below HK.out hb1)
  have HS1 := Aside0.mk (HS.out.below hb1)
  have HB1 := Aside0.mk (below_step HB0.out hb1)
  clear hb1 HK HS HB0
  have kc0 := blk_cell HK1.out 0
  have kc1 := blk_cell HK1.out 1
  have kc2 := blk_cell HK1.out 2
  have kc3 := blk_cell HK1.out 3
  have kc4 := blk_cell HK1.out 4
  have kc5 := blk_cell HK1.out 5
  go_wp2_with fail
  refine (HBAD.out _ HS1.out).mono ?_
  rintro e_ w2 ⟨rfl, hb1⟩
  have HK2 := Aside0.mk (blk_below HK1.out hb1)
  have HS2 := Aside0.mk (HS1.out.below hb1)
  have HB2 := Aside0.mk (below_step HB1.out hb1)
  clear hb1 HK1 HS1 HB1
  have kc0 := blk_cell HK2.out 0
  have kc1 := blk_cell HK2.out 1
  have kc2 := blk_cell HK2.out 2
  have kc3 := blk_cell HK2.out 3
  have kc4 := blk_cell HK2.out 4
  have kc5 := blk_cell HK2.out 5
  go_wp2_with fail
  refine (HSND.out _ HS2.out).mono ?_
  rintro e_ w4 ⟨rfl, hb1⟩
  have HB4 := Aside0.mk (below_step HB2.out hb1)
  clear hb1
  go_wp2_with fail
  go_ret
  exact ⟨rfl, HB4.out⟩
set_option maxHeartbeats 64000000 in
set_option maxRecDepth 100000 in
theorem mem_good (w : World) (na nl s lo hi : Int) (A : Option Addr) (kept : List S27) (c : Nat) (A1 : Option Addr) (sc : List S49) (c1 : Nat) (hS : SpIn w na nl s lo hi A kept c) (h1 : OpI w A1 sc c1) (hE : newE na nl s lo hi kept = 0) :
    Calls Try.prog 8 #[.agg #[.int .u32 na, .int .i64 nl, .int .i64 s, .int .u32 lo, .int .u32 hi, .slice A kept.length c], .slice A1 sc.length c1] w fun e w' => e = .returned (.bool true) ∧ Below w.heap.size w w' := by
  have hb0 := below_alloc (Below.refl w.heap.size w) (.cells #[.int .u32 na, .int .i64 nl, .int .i64 s, .int .u32 lo, .int .u32 hi, .slice A kept.length c] 30)
  have kb := heap_alloc_new w (.cells #[.int .u32 na, .int .i64 nl, .int .i64 s, .int .u32 lo, .int .u32 hi, .slice A kept.length c] 30)
  have HK := Aside0.mk kb
  have HS := Aside0.mk (hS.below hb0)
  have HB0 := Aside0.mk hb0
  have HG := Aside0.mk begun9
  have HM := Aside0.mk (hS.good hE).1
  have HGOOD := Aside0.mk (fun (W : World) (h : SpIn W na nl s lo hi A kept c) => (h.good hE).2)
  have HSND := Aside0.mk (fun (W : World) (h : SpIn W na nl s lo hi A kept c) => h.snd)
  rw [decide_eq_true hE] at HSND
  have HE0 := Aside0.mk hE
  have HSM : Aside0 ((newM na nl s lo hi kept).s = s) := ⟨rfl⟩
  have hgp := (newE_ok.1 hE).2.1
  have HNUM : Aside0 ((0 ≤ lo ∧ lo ≤ hi ∧ hi < 4294967296) ∧ (0 ≤ s ∧ s ≤ 32)) := ⟨⟨hS.lo0, hgp.lohi, hS.hi1⟩, by have := hgp.nls; have := hgp.nl0; omega, hgp.s32⟩
  have H1 := Aside0.mk h1
  have HUN := Aside0.mk (fun (W : World) (hs : SpIn W na nl s lo hi A kept c) (ho : OpI W A1 sc c1) => untouched24 W na nl s lo hi A kept c A1 sc c1 hs ho hE)
  generalize newM na nl s lo hi kept = M at *
  clear hE hS h1 hgp
  have hlt0 : w.heap.size < (w.alloc (.cells #[.int .u32 na, .int .i64 nl, .int .i64 s, .int .u32 lo, .int .u32 hi, .slice A kept.length c] 30)).heap.size := by rw [World.size_alloc]; omega
  have HLT0 := Aside0.mk hlt0
  have HLW := Aside0.mk hb0
  clear hlt0 kb hb0
  go_enter Try.func8, Try.ntmps8
  go_wp2_with fail
  generalize w.alloc (.cells #[.int .u32 na, .int .i64 nl, .int .i64 s, .int .u32 lo, .int .u32 hi, .slice A kept.length c] 30) = wB at *
  refine (HG.out _).mono ?_
  rintro e_ w1 ⟨rfl, hb1⟩
  have HK1 := Aside0.mk (blk_below HK.out hb1)
  have HS1 := Aside0.mk (HS.out.below hb1)
  have HB1 : Aside0 (Below wB.heap.size wB w1) := ⟨hb1⟩
  clear hb1
  have kc0 := blk_cell HK1.out 0
  have kc1 := blk_cell HK1.out 1
  have kc2 := blk_cell HK1.out 2
  have kc3 := blk_cell HK1.out 3
  have kc4 := blk_cell HK1.out 4
  have kc5 := blk_cell HK1.out 5
  go_wp2_with fail
  refine (HGOOD.out _ HS1.out).mono ?_
  rintro e_ w2 ⟨p, F1, rfl, hP1, hF1, hb1⟩
  have HT2 : Aside0 (Sg wB p M [] F1 w2) := ⟨⟨hP1, (fun x hx => by cases hx), fun k hk => by have := hF1 k hk; have := HB1.out.size; omega, below_step HB1.out hb1⟩⟩
  have HK2 := Aside0.mk (blk_below HK1.out hb1)
  have HS2 := Aside0.mk (HS1.out.below hb1)
  clear hb1 HK1 HS1 HB1 hP1 hF1
  have kc0 := blk_cell HK2.out 0
  have kc1 := blk_cell HK2.out 1
  have kc2 := blk_cell HK2.out 2
  have kc3 := blk_cell HK2.out 3
  have kc4 := blk_cell HK2.out 4
  have kc5 := blk_cell HK2.out 5
  go_wp2_with fail
  refine (HSND.out _ HS2.out).mono ?_
  rintro e_ w4 ⟨rfl, hb1⟩
  have HT4 := Aside0.mk (HT2.out.below hb1)
  have HK4 := Aside0.mk (blk_below HK2.out hb1)
  have HS4 := Aside0.mk (HS2.out.below hb1)
  clear hb1 HT2 HK2 HS2 HSND HGOOD HG
  have kc0 := blk_cell HK4.out 0
  have kc1 := blk_cell HK4.out 1
  have kc2 := blk_cell HK4.out 2
  have kc3 := blk_cell HK4.out 3
  have kc4 := blk_cell HK4.out 4
  have kc5 := blk_cell HK4.out 5
  have hlw : Below w.heap.size w w4 := HLW.out.trans (Below.mono HT4.out.bel HLW.out.size)
  have HO4 := Aside0.mk (H1.out.below hlw)
  have HM0 := Aside0.mk HT4.out
  clear hlw
  go_wp2_with fail
  refine (HUN.out _ HS4.out HO4.out).mono ?_
  rintro e_ w5 ⟨rfl, b5⟩
  have HT5 := Aside0.mk (HT4.out.below b5)
  have HK5 := Aside0.mk (blk_below HK4.out b5)
  clear b5 HT4 HK4 HS4 HO4 HM0 HUN kc0 kc1 kc2 kc3 kc4 kc5
  go_wp2_with fail
  have HV5 : Aside0 (Bm wB w5 p M [] F1 (.slice none 0 0) []) := ⟨⟨HT5.out, own_nil _ _ _ _, fun q hq => absurd hq List.not_mem_nil, fun q hq => absurd hq List.not_mem_nil⟩⟩
  clear HT5
  go_loopg [9, 10, 11] sc.length (fun gg v9 v10 v11 wr => ∃ (i : Nat) (tot : Int) (P : Bq) (L : List Int) (F : List Nat), v10 = .int .i64 tot ∧ v11 = .int .i64 (i : Int) ∧ i + gg = sc.length ∧ 50 * (P.length : Int) ≤ tot ∧ P.length ≤ 10490 ∧ tot ≤ 68719476736 ∧ Aside0 (Bm wB wr p M L F v9 P) ∧ Aside0 (wr.heap[w.heap.size]? = some (.cells #[.int .u32 na, .int .i64 nl, .int .i64 s, .int .u32 lo, .int .u32 hi, .slice A kept.length c] 30 (0, 0))))
  case atStart => exact ⟨0, 0, [], [], F1, rfl, rfl, by omega, by simp, by simp, by omega, HV5, HK5⟩
  case round =>
    clear HV5 HK5
    obtain ⟨i, tot, P, L, F, rfl, rfl, hiN, hp1, hp2, ht1, HV, HKB⟩ := hrel
    have HPL : Aside0 (P.length ≤ 1048576) := ⟨by omega⟩
    by_cases hbody : i < sc.length ∧ tot < 524288
    · obtain ⟨hlt, hto⟩ := hbody
      have hii : (i : Int) < (sc.length : Int) := by omega
      have htb : decide (tot < 524288) = true := decide_eq_true hto
      have HTO := Aside0.mk (And.intro hto (And.intro hp1 (And.intro hp2 hiN)))
      have HT0 : Aside0 (0 ≤ tot) := ⟨by omega⟩
      have hbel : Below w.heap.size w wr := HLW.out.trans (Below.mono HV.out.bel HLW.out.size)
      obtain ⟨ad, rfl, c0, c1, c2, c3⟩ := at49 (Kd.C_below H1.out.C hbel) i hlt
      have hmem : rd49 sc i ∈ sc := by
        unfold rd49
        rw [List.getD_eq_getElem?_getD, List.getElem?_eq_getElem hlt]; exact List.getElem_mem hlt
      have HU := Aside0.mk (H1.out.W _ hmem)
      have HLT := Aside0.mk hlt
      have hw1 : IntKind.i64.wrap ((i : Int) + 1) = ((i + 1 : Nat) : Int) := by rw [show (i : Int) + 1 = ((i + 1 : Nat) : Int) from by omega]; exact wrap64_id (by omega) (by have := H1.out.len; omega)
      have HI2 : Aside0 (i ≤ 140737488355328) := ⟨by have := H1.out.len; omega⟩
      clear hmem hbel hlt hiN hto hp1 hp2 ht1
      generalize rd49 sc i = x at *
      obtain ⟨k, o, a, l⟩ := x
      simp only at c0 c1 c2 c3 HU
      have kb := heap_alloc_new wr (.cells #[.int .i64 k, .int .i64 o, .int .u32 a, .int .i64 l] 49)
      have hb10 := below_alloc (Below.refl wr.heap.size wr) (.cells #[.int .i64 k, .int .i64 o, .int .u32 a, .int .i64 l] 49)
      have HKO := Aside0.mk kb
      have HV := Aside0.mk (HV.out.below hb10)
      have HKB := Aside0.mk (blk_below HKB.out hb10)
      have k10 := blk_cell kb 0
      have k11 := blk_cell kb 1
      have k12 := blk_cell kb 2
      have k13 := blk_cell kb 3
      clear kb hb10
      go_upto_block 2 with (fail)
      generalize wr.alloc (.cells #[.int .i64 k, .int .i64 o, .int .u32 a, .int .i64 l] 49) = w10 at *
      generalize wr.heap.size = bo at *
      go_cut [] (fun wx => ∃ (L : List Int) (F : List Nat), Aside0 (Bm wB wx p M L F u9 P) ∧ Aside0 (wx.heap[w.heap.size]? = some (.cells #[.int .u32 na, .int .i64 nl, .int .i64 s, .int .u32 lo, .int .u32 hi, .slice A kept.length c] 30 (0, 0))) ∧ Aside0 (wx.heap[bo]? = some (.cells #[.int .i64 k, .int .i64 o, .int .u32 a, .int .i64 l] 49 (0, 0))))
      case first =>
        by_cases h1 : k = 1
        · subst h1
          have HCALL := Aside0.mk (HV.out.sg.takeC HM.out)
          go_wp2_with fail
          refine HCALL.out.mono ?_
          rintro e_ w4 ⟨rfl, L', F', hs', _, ht⟩
          have HV4 : Aside0 (Bm wB w4 p M L' F' u9 P) := ⟨HV.out.pool hs' ht⟩
          have KB4 : Aside0 (w4.heap[w.heap.size]? = _) := ⟨(ht.block _ (blk_lt HKB.out) (fun hf => by have := HV.out.sg.n1 _ hf; have := HLT0.out; omega)).trans HKB.out⟩
          have KO4 : Aside0 (w4.heap[bo]? = _) := ⟨(ht.block _ (blk_lt HKO.out) (neT49 HV.out.sg.p1 HKO.out)).trans HKO.out⟩
          clear hs' ht HCALL
          go_wp2_with fail
          go_meet
          exact ⟨L', F', HV4, KB4, KO4⟩
        by_cases h2 : k = 2
        · subst h2
          have HCALL := Aside0.mk (HV.out.sg.claimC HM.out a l HU.out.1 HU.out.2)
          go_wp2_with fail
          refine HCALL.out.mono ?_
          rintro e_ w4 ⟨rfl, L', F', hs', _, ht⟩
          have HV4 : Aside0 (Bm wB w4 p M L' F' u9 P) := ⟨HV.out.pool hs' ht⟩
          have KB4 : Aside0 (w4.heap[w.heap.size]? = _) := ⟨(ht.block _ (blk_lt HKB.out) (fun hf => by have := HV.out.sg.n1 _ hf; have := HLT0.out; omega)).trans HKB.out⟩
          have KO4 : Aside0 (w4.heap[bo]? = _) := ⟨(ht.block _ (blk_lt HKO.out) (neT49 HV.out.sg.p1 HKO.out)).trans HKO.out⟩
          clear hs' ht HCALL
          go_wp2_with fail
          go_meet
          exact ⟨L', F', HV4, KB4, KO4⟩
        by_cases h3 : k = 3
        · subst h3
          have HCALL := Aside0.mk (HV.out.sg.freeC HM.out a l HU.out.1 HU.out.2)
          go_wp2_with fail
          refine HCALL.out.mono ?_
          rintro e_ w4 ⟨rfl, L', F', hs', _, ht⟩
          have HV4 : Aside0 (Bm wB w4 p M L' F' u9 P) := ⟨HV.out.pool hs' ht⟩
          have KB4 : Aside0 (w4.heap[w.heap.size]? = _) := ⟨(ht.block _ (blk_lt HKB.out) (fun hf => by have := HV.out.sg.n1 _ hf; have := HLT0.out; omega)).trans HKB.out⟩
          have KO4 : Aside0 (w4.heap[bo]? = _) := ⟨(ht.block _ (blk_lt HKO.out) (neT49 HV.out.sg.p1 HKO.out)).trans HKO.out⟩
          clear hs' ht HCALL
          go_wp2_with fail
          go_meet
          exact ⟨L', F', HV4, KB4, KO4⟩
        have d1 : (k == 1) = false := by simpa using h1
        have d2 : (k == 2) = false := by simpa using h2
        have d3 : (k == 3) = false := by simpa using h3
        clear h1 h2 h3
        go_wp2_with fail
        go_meet
        exact ⟨L, F, HV, HKB, HKO⟩
      case rest =>
        clear HV HKB HKO k10 k11 k12 k13 c0 c1 c2 c3
        obtain ⟨L, F, HV, HKB, HKO⟩ := hcut
        rename World => wa
        have HLL : Aside0 ((pxs M.s L).length ≤ 4294967296) := ⟨by unfold pxs; rw [List.length_map]; exact sizeF_le_S HM.out HV.out.sg.l1 HV.out.sg.p1.rise⟩
        go_wp2_with fail
        refine (takenP HM.out HV.out.sg.l1 HV.out.sg.p1).mono ?_
        rintro e_ w5 ⟨va, rfl, ra, b5⟩
        obtain ⟨A5, c5, e5, _⟩ := ra.C
        subst e5
        have RA := Aside0.mk ra
        have B5 := Aside0.mk b5
        have HKB5 := Aside0.mk (blk_below HKB.out b5)
        have HKO5 := Aside0.mk (blk_below HKO.out b5)
        have HV5 := Aside0.mk (HV.out.below b5)
        clear ra b5
        obtain ⟨xs, hxs⟩ : ∃ xs, xs = pxs M.s L := ⟨_, rfl⟩
        have HXS := Aside0.mk hxs
        rw [← hxs] at HLL RA ⊢
        obtain ⟨n, hn⟩ : ∃ n, n = xs.length := ⟨_, rfl⟩
        have HNX := Aside0.mk hn
        rw [← hn]
        clear hxs hn
        have k10 := blk_cell HKO5.out 0
        go_upto_region 26 with fail
        go_cut [80] (fun v wx => v = .bool (k == 4) ∧ w5 = wx)
        case first =>
          go_wp2_with fail
          go_meet
          exact ⟨rfl, rfl⟩
        case rest =>
        obtain ⟨rfl, rfl⟩ := hcut
        go_upto_if 80 with (fail)
        go_cut [9, 10] (fun v9 v10 wx => ∃ (tot' : Int) (P' : Bq), v10 = .int .i64 tot' ∧ 50 * (P'.length : Int) ≤ tot' ∧ P'.length ≤ 10490 ∧ tot' ≤ 68719476736 ∧ Aside0 (Bm wB wx p M L F v9 P') ∧ Aside0 (wx.heap[w.heap.size]? = some (.cells #[.int .u32 na, .int .i64 nl, .int .i64 s, .int .u32 lo, .int .u32 hi, .slice A kept.length c] 30 (0, 0))) ∧ Aside0 (wx.heap[bo]? = some (.cells #[.int .i64 k, .int .i64 o, .int .u32 a, .int .i64 l] 49 (0, 0))) ∧ Aside0 (k = 4 ∨ Row wx 0 (.slice A5 n c5) xs))
        case first =>
          by_cases hk4 : k = 4
          · have hkb : (k == 4) = true := by simpa using hk4
            have HK4 := Aside0.mk hk4
            clear hk4
            have HTT := Aside0.mk (And.intro HTO.out HT0.out)
            have hnb : (n : Int) ≤ 4294967296 := by have := HLL.out; have := HNX.out; omega
            have htt := HTT.out
            have hm1 : IntKind.i64.wrap (8 * (n : Int)) = 8 * (n : Int) := wrap64_id (by omega) (by omega)
            have hm2 : IntKind.i64.wrap (tot + 8 * (n : Int)) = tot + 8 * (n : Int) := wrap64_id (by omega) (by omega)
            have hm3 : IntKind.i64.wrap (tot + 8 * (n : Int) + 200) = tot + 8 * (n : Int) + 200 := wrap64_id (by omega) (by omega)
            have hfin : 50 * ((P.length : Int) + 4) ≤ tot + 8 * (n : Int) + 200 ∧ P.length + 4 ≤ 10490 ∧ tot + 8 * (n : Int) + 200 ≤ 68719476736 := by omega
            have HFIN := Aside0.mk hfin
            clear hfin htt hnb
            go_wp2_with fail
            have hrow : Row w5 0 (.slice A5 xs.length c5) xs := RA.out.low
            have hmkd := marked25 w5 A5 xs c5 i hrow HLL.out (by omega) (by have := HI2.out; omega)
            rw [← HNX.out] at hmkd
            refine hmkd.mono ?_
            rintro e_ w6 ⟨b, Q, rfl, hQ4, hcl, hrw, ht⟩
            have hlnew : ∀ kk, (Value.slice A5 n c5).ownBlock = some kk → wa.heap.size ≤ kk := fun kk hkk => by
              have := RA.out
              rw [← HNX.out] at this
              exact (Row.lt this kk hkk).1
            have hV6 := HV.out.turn B5.out hlnew ht
            have hb6 : Below wa.heap.size wa w6 := B5.out.trans (ht.below B5.out.size (fun kk hkk => hlnew kk (by simpa using hkk)))
            obtain ⟨vb', w7, r7, hV7, g7⟩ := hV6.book hQ4 hcl (fun q hq => ⟨(hrw q hq).1, (hrw q hq).2.1⟩) (fun q hq => by have := (hrw q hq).2.2.1; have := HLL.out; have := HNX.out; omega) HPL.out
            have R7 := Aside0.mk r7
            have HV7 := Aside0.mk hV7
            have kb6 := blk_below HKB.out hb6
            have ko6 := blk_below HKO.out hb6
            have HKB7 : Aside0 (w7.heap[w.heap.size]? = _) := ⟨(g7.block _ (blk_lt kb6) (fun e => by have := own_base hV6.rb _ e.symm; have := HLT0.out; omega)).trans kb6⟩
            have HKO7 : Aside0 (w7.heap[bo]? = _) := ⟨(g7.block _ (blk_lt ko6) (fun e => by
              obtain ⟨cc, hcc⟩ := own_typed hV6.rb _ e.symm
              rw [ko6] at hcc
              exact absurd (Obj.cells.inj (Option.some.inj hcc)).2.1 (by decide))).trans ko6⟩
            have HQ4 := Aside0.mk hQ4
            clear hQ4 hcl hrw ht hlnew hV6 hb6 r7 hV7 g7 kb6 ko6 hrow hmkd
            go_wp2_with ((with_reducible refine gate_builtin (b := .append) (xs := #[.tmp 87, .tmp 90]) rfl ?_); at_builtin; refine wpList_append_run rfl (.tmp 87) (.tmp 90) 58 rfl rfl rfl R7.out ?_)
            go_meet
            exact ⟨_, P ++ Q, rfl, by rw [List.length_append, HQ4.out]; exact HFIN.out.1, by rw [List.length_append, HQ4.out]; exact HFIN.out.2.1, HFIN.out.2.2, HV7, HKB7, HKO7, ⟨.inl HK4.out⟩⟩
          · have hkb : (k == 4) = false := by simpa using hk4
            have hrow : Row w5 0 (.slice A5 n c5) xs := by rw [HNX.out]; exact RA.out.low
            have HRW := Aside0.mk hrow
            clear hk4 hrow
            go_wp2_with fail
            go_meet
            exact ⟨tot, P, rfl, HTO.out.2.1, HTO.out.2.2.1, by have := HTO.out.1; omega, HV5, HKB5, HKO5, ⟨.inr HRW.out⟩⟩
        case rest =>
          obtain ⟨tot2, P2, rfl, hp1, hp2, hp3, HV2, HKB2, HKO2, HRW⟩ := hcut
          rename World => wb
          have HP2 := Aside0.mk (And.intro hp1 (And.intro hp2 hp3))
          clear hp1 hp2 hp3 HV HKB HKO RA B5 HKB5 HKO5 HV5 k10
          go_wp2_with fail
          refine (takenP HM.out HV2.out.sg.l1 HV2.out.sg.p1).mono ?_
          rintro e_ w8 ⟨vm, rfl, rm, b8⟩
          obtain ⟨A8, c8, e8, _⟩ := rm.C
          subst e8
          rw [← HXS.out] at rm ⊢
          rw [← HNX.out]
          have RM := Aside0.mk rm
          have HV8 := Aside0.mk (HV2.out.below b8)
          have HKB8 := Aside0.mk (blk_below HKB2.out b8)
          have HKO8 := Aside0.mk (blk_below HKO2.out b8)
          have HRW8 : Aside0 (k = 4 ∨ Row w8 0 (.slice A5 n c5) xs) := ⟨HRW.out.imp id (fun h => h.below b8)⟩
          have HPL2 : Aside0 (P2.length ≤ 1048576) := ⟨by have := HP2.out.2.1; omega⟩
          have HKC : Aside0 (∀ W, Below w8.heap.size w8 W → Calls Try.prog 26 #[u9] W fun e w' => e = .returned (.bool true) ∧ Below W.heap.size W w') := ⟨fun W hW => (HV8.out.below hW).keptC HPL2.out⟩
          clear rm b8 HV2 HKB2 HKO2 HRW
          have k10 := blk_cell HKO8.out 0
          go_upto_region 30 with fail
          go_cut [123] (fun v wx => v = .bool false ∧ Aside0 (Below w8.heap.size w8 wx))
          case first =>
            by_cases hk4 : k = 4
            · have hkb : (k == 4) = true := by simpa using hk4
              have hkn : (k != 4) = false := by simpa using hk4
              clear hk4
              by_cases h4h : i < 400
              · have h4i : (i : Int) < 400 := by omega
                have h4b : decide ((i : Int) < 400) = true := decide_eq_true h4i
                clear h4h
                go_wp2_with fail
                refine (HKC.out _ (Below.refl _ _)).mono ?_
                rintro e_ wz ⟨rfl, hbk⟩
                have HBK := Aside0.mk (below_step (Below.refl _ _) hbk)
                clear hbk
                go_wp2_with fail
                go_meet
                exact ⟨by first | rfl | simp, HBK⟩
              · have h4i : ¬ (i : Int) < 400 := by omega
                have h4b : decide ((i : Int) < 400) = false := decide_eq_false h4i
                clear h4h
                by_cases hmd : (i : Int) % 64 = 0
                · have hmb : ((i : Int) % 64 == 0) = true := by simpa using hmd
                  have hmw : wrap64 ((i : Int) % 64) = (i : Int) % 64 := w64 (by omega) (by omega)
                  clear hmd
                  go_wp2_with fail
                  refine (HKC.out _ (Below.refl _ _)).mono ?_
                  rintro e_ wz ⟨rfl, hbk⟩
                  have HBK := Aside0.mk (below_step (Below.refl _ _) hbk)
                  clear hbk
                  go_wp2_with fail
                  go_meet
                  exact ⟨by first | rfl | simp, HBK⟩
                · have hmb : ((i : Int) % 64 == 0) = false := by simpa using hmd
                  have hmw : wrap64 ((i : Int) % 64) = (i : Int) % 64 := w64 (by omega) (by omega)
                  clear hmd
                  go_wp2_with fail
                  go_meet
                  exact ⟨by first | rfl | simp, ⟨(Below.refl _ _)⟩⟩
            · have hkb : (k == 4) = false := by simpa using hk4
              have hkn : (k != 4) = true := by simpa using hk4
              have hr8 := HRW8.out.resolve_left hk4
              rw [HNX.out] at hr8
              obtain ⟨_, _, e1, hc1, hC1⟩ := hr8.C
              injection e1 with e1 eN e3
              subst e1 e3
              obtain ⟨_, _, e1, hc2, hC2⟩ := RM.out.C
              injection e1 with e1 eM e3
              subst e1 e3
              have HSQ := Aside0.mk (sameQ hC1 hc1 hC2 hc2 (by have := HLL.out; omega) 0)
              rw [← HNX.out] at HSQ
              clear hk4 hr8 hc1 hC1 hc2 hC2 eN eM
              go_wp2_with fail
              refine HSQ.out.mono ?_
              rintro e_ w9 ⟨rfl, m9, e9⟩
              have HB9 : Aside0 (Below w8.heap.size w8 w9) := ⟨by rw [e9]; exact pw_below_drewN (Below.refl _ _) _⟩
              clear e9 HSQ
              by_cases h4h : i < 400
              · have h4i : (i : Int) < 400 := by omega
                have h4b : decide ((i : Int) < 400) = true := decide_eq_true h4i
                clear h4h
                go_wp2_with fail
                refine (HKC.out _ HB9.out).mono ?_
                rintro e_ wz ⟨rfl, hbk⟩
                have HBK := Aside0.mk (below_step HB9.out hbk)
                clear hbk
                go_wp2_with fail
                go_meet
                exact ⟨by first | rfl | simp, HBK⟩
              · have h4i : ¬ (i : Int) < 400 := by omega
                have h4b : decide ((i : Int) < 400) = false := decide_eq_false h4i
                clear h4h
                by_cases hmd : (i : Int) % 64 = 0
                · have hmb : ((i : Int) % 64 == 0) = true := by simpa using hmd
                  have hmw : wrap64 ((i : Int) % 64) = (i : Int) % 64 := w64 (by omega) (by omega)
                  clear hmd
                  go_wp2_with fail
                  refine (HKC.out _ HB9.out).mono ?_
                  rintro e_ wz ⟨rfl, hbk⟩
                  have HBK := Aside0.mk (below_step HB9.out hbk)
                  clear hbk
                  go_wp2_with fail
                  go_meet
                  exact ⟨by first | rfl | simp, HBK⟩
                · have hmb : ((i : Int) % 64 == 0) = false := by simpa using hmd
                  have hmw : wrap64 ((i : Int) % 64) = (i : Int) % 64 := w64 (by omega) (by omega)
                  clear hmd
                  go_wp2_with fail
                  go_meet
                  exact ⟨by first | rfl | simp, ⟨HB9.out⟩⟩
          case rest =>
            obtain ⟨rfl, HB9⟩ := hcut
            rename World => w9
            clear HKC
            have HV9 := Aside0.mk (HV8.out.below HB9.out)
            have HKB9 := Aside0.mk (blk_below HKB8.out HB9.out)
            have RM9 : Aside0 (Row w9 0 (.slice A8 n c8) xs) := ⟨by rw [HNX.out]; exact (RM.out.below HB9.out).low⟩
            have HFX : Aside0 (∀ (q : Nat) (h : q < xs.length), xs[q].f1 = s) := ⟨fun q h => by
              have hm : xs[q] ∈ pxs M.s L := by rw [← HXS.out]; exact List.getElem_mem h
              obtain ⟨y, _, e⟩ := List.mem_map.1 hm
              rw [← e]
              exact HSM.out⟩
            clear HV8 HKB8 HKO8 HRW8 RM k10
            go_wp2_with fail
            go_loopg [15] n (fun gg v15 wx => ∃ q : Nat, v15 = .int .i64 (q : Int) ∧ q + gg = n ∧ Aside0 (Below w9.heap.size w9 wx))
            case atStart => exact ⟨0, rfl, by omega, ⟨Below.refl _ _⟩⟩
            case round =>
              obtain ⟨q, rfl, hq, HBQ⟩ := hrel
              cases gk with
              | zero =>
                have hqq : ¬ (q : Int) < (n : Int) := by omega
                have HVF := Aside0.mk (HV9.out.below HBQ.out)
                have HKF := Aside0.mk (blk_below HKB9.out HBQ.out)
                go_wp2_with fail
                go_roundg (sc.length - (i + 1))
                case measure => have := HTO.out; have := HLT.out; omega
                case rel => exact ⟨i + 1, tot2, P2, L, F, rfl, rfl, by have := HTO.out; have := HLT.out; omega, HP2.out.1, HP2.out.2.1, HP2.out.2.2, HVF, HKF⟩
              | succ gk2 =>
                have hqq : (q : Int) < (n : Int) := by omega
                have hqx : q < xs.length := by have := HNX.out; omega
                have hr := RM9.out.below HBQ.out
                obtain ⟨g, c2, e, q0, q1⟩ := hr.at_ hqx
                injection e with e1 e2 e3
                subst e1 e3
                clear e2 q0
                rw [HFX.out q hqx] at q1
                have hw2 : IntKind.i64.wrap ((q : Int) + 1) = ((q + 1 : Nat) : Int) := by rw [show (q : Int) + 1 = ((q + 1 : Nat) : Int) from by omega]; exact wrap64_id (by omega) (by have := HLL.out; omega)
                have kb2 := blk_cell (blk_below HKB9.out HBQ.out) 2
                clear hr hqx
                go_wp2_with fail
                go_quiet (fail)
                have HBN : Aside0 (Below w9.heap.size w9 (wr.drewN nq)) := ⟨pw_below_drewN HBQ.out _⟩
                go_wp2_with fail
                go_roundg gk2
                case measure => omega
                case rel => exact ⟨q + 1, rfl, by omega, HBN⟩
    · have HKC := Aside0.mk (HV.out.keptC HPL.out)
      have HBL := Aside0.mk (HLW.out.trans (Below.mono HV.out.bel HLW.out.size))
      clear hp1 hp2 ht1 HPL
      by_cases hlt : i < sc.length
      · have hii : (i : Int) < (sc.length : Int) := by omega
        have htb : decide (tot < 524288) = false := decide_eq_false (fun h => hbody ⟨hlt, h⟩)
        clear hbody hlt hiN
        go_wp2_with fail
        refine HKC.out.mono ?_
        rintro e_ w6 ⟨rfl, b6⟩
        have HB6 := Aside0.mk (below_step HBL.out b6)
        clear b6
        go_wp2_with fail
        go_ret
        exact ⟨rfl, HB6.out⟩
      · have hii : ¬ (i : Int) < (sc.length : Int) := by omega
        have hib : decide ((i : Int) < (sc.length : Int)) = false := decide_eq_false hii
        clear hbody hlt hiN
        go_wp2_with fail
        refine HKC.out.mono ?_
        rintro e_ w6 ⟨rfl, b6⟩
        have HB6 := Aside0.mk (below_step HBL.out b6)
        clear b6
        go_wp2_with fail
        go_ret
        exact ⟨rfl, HB6.out⟩
theorem mem_law {w : World} {na nl s lo hi : Int} {A : Option Addr} {kept : List S27} {c : Nat} {A1 : Option Addr} {sc : List S49} {c1 : Nat} (hS : SpIn w na nl s lo hi A kept c) (h1 : OpI w A1 sc c1) :
    Calls Try.prog 8 #[.agg #[.int .u32 na, .int .i64 nl, .int .i64 s, .int .u32 lo, .int .u32 hi, .slice A kept.length c], .slice A1 sc.length c1] w fun e w' => e = .returned (.bool true) ∧ Below w.heap.size w w' := by
  by_cases hE : newE na nl s lo hi kept = 0
  · exact mem_good w na nl s lo hi A kept c A1 sc c1 hS h1 hE
  · exact mem_bad w na nl s lo hi A kept c A1 sc c1 hS h1 hE
end Go.Proofs.Ytebnlhjakiipjaa.Pl
