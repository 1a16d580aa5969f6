/- PoolLowest walked. Conditions: what comes in is of its kind. -/
import Derived.Test.YtebnlhjakiipjaaPoP
set_option linter.unusedVariables false
set_option linter.unusedSimpArgs false
namespace Go.Proofs.Ytebnlhjakiipjaa.Pl
open Go.RowKit Go.Maps Go.Proofs.YtebnlhjakiipjaaW.PrintWords Go.Proofs.YtebnlhjakiipjaaW.PrintMore Go.Proofs.YtebnlhjakiipjaaW.PrintLast Go.Proofs.Ytebnlhjakiipjaa.PPlf Go.Proofs.YtebnlhjakiipjaaW.XOpen
/-- a script as it comes in -/
structure OpIn (w : World) (A : Option Addr) (l : List S49) (c : Nat) : Prop where
  len : l.length ≤ 4398046511104
  cap : l.length ≤ c
  C : Kd.C k49 w A l.length l
  W : ∀ k, k ∈ l → 0 ≤ k.f2.f0 ∧ k.f2.f0 < 4294967296
theorem OpIn.of {w : World} {l : List S49} {A : Option Addr} {c : Nat} (h : RowOf W49 32 l) (hl : l.length ≤ c) (hC : k49.C w A l.length l) : OpIn w A l c :=
  ⟨by have := h.2.1; omega, hl, hC, fun k hk => wf32_inv (h.2.2 k hk).2.2.1⟩
theorem OpIn.at_ {w wr : World} {A : Option Addr} {l : List S49} {c i : Nat} (h : OpIn w A l c) (hb : Below w.heap.size w wr) (hi : i < l.length) : ∃ ad kd on a b, A = some ad ∧ wr.cell? (ad.add (i * 4)) = some (.int .i64 kd) ∧ wr.cell? ⟨(ad.add (i * 4)).block, (ad.add (i * 4)).off + 1, none⟩ = some (.int .i64 on) ∧ wr.cell? ⟨(ad.add (i * 4)).block, (ad.add (i * 4)).off + 2, none⟩ = some (.int .u32 a) ∧ wr.cell? ⟨(ad.add (i * 4)).block, (ad.add (i * 4)).off + 3, none⟩ = some (.int .i64 b) ∧ 0 ≤ a ∧ a < 4294967296 := by
  obtain ⟨ad, e, c0, c1, c2, c3⟩ := at49 (Kd.C_below h.C hb) i hi
  have hm : rd49 l i ∈ l := by
    unfold rd49
    rw [List.getD_eq_getElem?_getD, List.getElem?_eq_getElem hi]; exact List.getElem_mem hi
  have := h.W _ hm
  exact ⟨ad, _, _, _, _, e, c0, c1, c2, c3, this.1, this.2⟩
theorem OutOk.u32 {M : Pm} {L : List Int} {out : List S27} (h : OutOk M L out) (hL : Lok M L) (hM : MOk M) : ∀ k, k ∈ out → 0 ≤ k.f0 ∧ k.f0 < 4294967296 := fun k hk => by
  obtain ⟨x, hx, rfl⟩ := (h.mem k).1 hk
  have := hL x hx
  exact ⟨Int.mul_nonneg this.1 (by have := sizeF_rng hM.ok.s0 hM.ok.s1; omega), this.2⟩
theorem OutOk.small {M : Pm} {L : List Int} {out : List S27} (h : OutOk M L out) (hL : Lok M L) (hM : MOk M) (hr : L.Pairwise (· < ·)) : out.length ≤ 4294967296 := by
  rw [← h.len hM hr]; unfold pxs; rw [List.length_map]; exact sizeF_le_S hM hL hr
theorem Row.C' {w : World} {base : Nat} {A : Option Addr} {c : Nat} {xs : List S27} (h : Row w base (.slice A xs.length c) xs) : xs.length ≤ c ∧ Kd.C k27 w A xs.length xs := by
  obtain ⟨A', c', e, h1, h2⟩ := Row.C h
  injection e with e1 e2 e3
  subst e1 e3
  exact ⟨h1, h2⟩
theorem Row.sl {w : World} {base : Nat} {v : Value} {xs : List S27} (h : Row w base v xs) : ∃ A c, v = .slice A xs.length c := by
  obtain ⟨A', c', e, _⟩ := Row.C h
  exact ⟨A', c', e⟩
instance (s lo hi : Int) (kept out : List S27) (a l : Int) : Decidable (mayC s lo hi kept out a l) := by unfold mayC; infer_instance
theorem OutOk.pmem {M : Pm} {L : List Int} {out : List S27} (h : OutOk M L out) : ∀ k, k ∈ pxs M.s L → k ∈ out := fun k hk => by
  obtain ⟨x, hx, rfl⟩ := List.mem_map.1 hk
  exact (h.mem _).2 ⟨x, hx, rfl⟩
def Ord (xs : List S27) : Prop := ∀ (j : Nat) (h : j + 1 < xs.length), (xs[j]'(by omega)).f0 < (xs[j + 1]'h).f0
theorem pxs_ord {M : Pm} {L : List Int} (hM : MOk M) (hr : L.Pairwise (· < ·)) : Ord (pxs M.s L) := fun j h => by
  have hl : (pxs M.s L).length = L.length := by unfold pxs; rw [List.length_map]
  have := List.pairwise_iff_getElem.1 hr j (j + 1) (by omega) (by omega) (by omega)
  simp only [pxs, List.getElem_map]
  exact Int.mul_lt_mul_of_pos_right this (by have := sizeF_rng hM.ok.s0 hM.ok.s1; omega)
set_option maxHeartbeats 16000000 in
set_option maxRecDepth 100000 in
theorem low_bad (w : World) (na nl s lo hi : Int) (A : Option Addr) (kept : List S27) (c : Nat) (A1 : Option Addr) (sc : List S49) (c1 : Nat) (hS : SpIn w na nl s lo hi A kept c) (h1 : OpIn w A1 sc c1) (hE : newE na nl s lo hi kept ≠ 0) :
    Calls Try.prog 6 #[.agg #[.int .u32 na, .int .i64 nl, .int .i64 s, .int .u32 lo, .int .u32 hi, .slice A kept.length c], .slice A1 sc.length c1] w fun e w' => e = .returned (.bool true) ∧ Below w.heap.size w w' := by
  have hb0 := below_alloc (Below.refl w.heap.size w) (.cells #[.int .u32 na, .int .i64 nl, .int .i64 s, .int .u32 lo, .int .u32 hi, .slice A kept.length c] 30)
  have kb := heap_alloc_new w (.cells #[.int .u32 na, .int .i64 nl, .int .i64 s, .int .u32 lo, .int .u32 hi, .slice A kept.length c] 30)
  have HK := Aside0.mk kb
  have HS := Aside0.mk (hS.below hb0)
  have HB0 := Aside0.mk hb0
  have HG := Aside0.mk begun9
  have HE := Aside0.mk hE
  have hEb : (newE na nl s lo hi kept != 0) = true := by simpa using hE
  have HBAD := Aside0.mk (fun (W : World) (h : SpIn W na nl s lo hi A kept c) => h.bad hE)
  have HSND := Aside0.mk (fun (W : World) (h : SpIn W na nl s lo hi A kept c) => h.snd)
  rw [decide_eq_false hE] at HSND
  generalize newE na nl s lo hi kept = E at *
  clear hE kb hb0 hS h1
  go_enter Try.func6, Try.ntmps6
  go_wp2_with fail
  refine (HG.out _).mono ?_
  rintro e_ w1 ⟨rfl, hb1⟩
  have HK1 := Aside0.mk (blk_below HK.out hb1)
  have HS1 := Aside0.mk (HS.out.below hb1)
  have HB1 := Aside0.mk (below_step HB0.out hb1)
  clear hb1 HK HS HB0
  have kc0 := blk_cell HK1.out 0
  have kc1 := blk_cell HK1.out 1
  have kc2 := blk_cell HK1.out 2
  have kc3 := blk_cell HK1.out 3
  have kc4 := blk_cell HK1.out 4
  have kc5 := blk_cell HK1.out 5
  go_wp2_with fail
  refine (HBAD.out _ HS1.out).mono ?_
  rintro e_ w2 ⟨rfl, hb1⟩
  have HK2 := Aside0.mk (blk_below HK1.out hb1)
  have HS2 := Aside0.mk (HS1.out.below hb1)
  have HB2 := Aside0.mk (below_step HB1.out hb1)
  clear hb1 HK1 HS1 HB1
  have kc0 := blk_cell HK2.out 0
  have kc1 := blk_cell HK2.out 1
  have kc2 := blk_cell HK2.out 2
  have kc3 := blk_cell HK2.out 3
  have kc4 := blk_cell HK2.out 4
  have kc5 := blk_cell HK2.out 5
  go_wp2_with fail
  refine (HSND.out _ HS2.out).mono ?_
  rintro e_ w4 ⟨rfl, hb1⟩
  have HB4 := Aside0.mk (below_step HB2.out hb1)
  clear hb1
  go_wp2_with fail
  go_ret
  exact ⟨rfl, HB4.out⟩
set_option maxHeartbeats 64000000 in
set_option maxRecDepth 100000 in
theorem low_good (w : World) (na nl s lo hi : Int) (A : Option Addr) (kept : List S27) (c : Nat) (A1 : Option Addr) (sc : List S49) (c1 : Nat) (hS : SpIn w na nl s lo hi A kept c) (h1 : OpIn w A1 sc c1) (hE : newE na nl s lo hi kept = 0) :
    Calls Try.prog 6 #[.agg #[.int .u32 na, .int .i64 nl, .int .i64 s, .int .u32 lo, .int .u32 hi, .slice A kept.length c], .slice A1 sc.length c1] w fun e w' => e = .returned (.bool true) ∧ Below w.heap.size w w' := by
  have hb0 := below_alloc (Below.refl w.heap.size w) (.cells #[.int .u32 na, .int .i64 nl, .int .i64 s, .int .u32 lo, .int .u32 hi, .slice A kept.length c] 30)
  have kb := heap_alloc_new w (.cells #[.int .u32 na, .int .i64 nl, .int .i64 s, .int .u32 lo, .int .u32 hi, .slice A kept.length c] 30)
  have HK := Aside0.mk kb
  have HS := Aside0.mk (hS.below hb0)
  have HB0 := Aside0.mk hb0
  have HG := Aside0.mk begun9
  have HM := Aside0.mk (hS.good hE).1
  have HGOOD := Aside0.mk (fun (W : World) (h : SpIn W na nl s lo hi A kept c) => (h.good hE).2)
  have HSND := Aside0.mk (fun (W : World) (h : SpIn W na nl s lo hi A kept c) => h.snd)
  rw [decide_eq_true hE] at HSND
  have HF := Aside0.mk (SpF.of hE)
  have hgp := (newE_ok.1 hE).2.1
  have HNUM : Aside0 ((0 ≤ lo ∧ lo ≤ hi ∧ hi < 4294967296) ∧ (0 ≤ s ∧ s ≤ 32)) := ⟨⟨hS.lo0, hgp.lohi, hS.hi1⟩, by have := hgp.nls; have := hgp.nl0; omega, hgp.s32⟩
  have H1 := Aside0.mk h1
  generalize newM na nl s lo hi kept = M at *
  clear hE hS h1 hgp
  have hlt0 : w.heap.size < (w.alloc (.cells #[.int .u32 na, .int .i64 nl, .int .i64 s, .int .u32 lo, .int .u32 hi, .slice A kept.length c] 30)).heap.size := by rw [World.size_alloc]; omega
  have HLT0 := Aside0.mk hlt0
  clear hlt0 kb hb0
  go_enter Try.func6, Try.ntmps6
  go_wp2_with fail
  generalize w.alloc (.cells #[.int .u32 na, .int .i64 nl, .int .i64 s, .int .u32 lo, .int .u32 hi, .slice A kept.length c] 30) = wB at *
  refine (HG.out _).mono ?_
  rintro e_ w1 ⟨rfl, hb1⟩
  have HK1 := Aside0.mk (blk_below HK.out hb1)
  have HS1 := Aside0.mk (HS.out.below hb1)
  have HB1 : Aside0 (Below wB.heap.size wB w1) := ⟨hb1⟩
  clear hb1
  have kc0 := blk_cell HK1.out 0
  have kc1 := blk_cell HK1.out 1
  have kc2 := blk_cell HK1.out 2
  have kc3 := blk_cell HK1.out 3
  have kc4 := blk_cell HK1.out 4
  have kc5 := blk_cell HK1.out 5
  go_wp2_with fail
  refine (HGOOD.out _ HS1.out).mono ?_
  rintro e_ w2 ⟨p, F1, rfl, hP1, hF1, hb1⟩
  have HT2 : Aside0 (Sg wB p M [] F1 w2) := ⟨⟨hP1, (fun x hx => by cases hx), fun k hk => by have := hF1 k hk; have := HB1.out.size; omega, below_step HB1.out hb1⟩⟩
  have HK2 := Aside0.mk (blk_below HK1.out hb1)
  have HS2 := Aside0.mk (HS1.out.below hb1)
  clear hb1 HK1 HS1 HB1 hP1 hF1
  have kc0 := blk_cell HK2.out 0
  have kc1 := blk_cell HK2.out 1
  have kc2 := blk_cell HK2.out 2
  have kc3 := blk_cell HK2.out 3
  have kc4 := blk_cell HK2.out 4
  have kc5 := blk_cell HK2.out 5
  go_wp2_with fail
  refine (HSND.out _ HS2.out).mono ?_
  rintro e_ w4 ⟨rfl, hb1⟩
  have HT4 := Aside0.mk (HT2.out.below hb1)
  have HK4 := Aside0.mk (blk_below HK2.out hb1)
  clear hb1 HT2 HK2 HS2 HSND HGOOD HG
  have kc0 := blk_cell HK4.out 0
  have kc1 := blk_cell HK4.out 1
  have kc2 := blk_cell HK4.out 2
  have kc3 := blk_cell HK4.out 3
  have kc4 := blk_cell HK4.out 4
  have kc5 := blk_cell HK4.out 5
  have hsz := sizeF_rng HNUM.out.2.1 HNUM.out.2.2
  have hs0 := HNUM.out.2.1
  have hs1 := HNUM.out.2.2
  have hl0 := HNUM.out.1.1
  have hlh := HNUM.out.1.2.1
  have hh1 := HNUM.out.1.2.2
  have hwsh : IntKind.i64.wrap (2 ^ (32 - s).toNat) = sizeF s := wrap64_id (by unfold sizeF at hsz; omega) (by unfold sizeF at hsz; omega)
  have hwsg : wrap64 (2 ^ (32 - s).toNat) = sizeF s := by rw [← i64_w]; exact hwsh
  have hzne : (sizeF s == 0) = false := by simp; omega
  obtain ⟨q, hq⟩ : ∃ q, q = M.mx - M.mn := ⟨_, rfl⟩
  have hdv : (hi - lo) / sizeF s = q := by
    rw [← HF.out.lo, ← HF.out.hi, ← Int.sub_mul, mul_div hs0 hs1, hq]
  have hq0 : 0 ≤ q := by have := HM.out.mm; omega
  have hq1 : q < 4294967296 := by
    have := fits_sub HM.out.ok.s0 HM.out.ok.s1 (show 0 ≤ M.mx by have := HM.out.row.mn0; have := HM.out.mm; omega) HM.out.row.mx1
    have := HM.out.row.mn0
    omega
  have hwq : wrap64 (q + 1) = q + 1 := w64 (by omega) (by omega)
  have HQ := Aside0.mk hq
  clear hq
  go_upto_region 12 with fail
  have HSZ := Aside0.mk hsz
  have HNN := Aside0.mk (And.intro hs0 (And.intro hs1 (And.intro hl0 (And.intro hlh (And.intro hh1 (And.intro hq0 hq1))))))
  clear hdv hwq hq0 hq1 hs0 hs1 hl0 hlh hh1 hsz hwsh hwsg hzne kc0 kc1 kc2 kc3 kc4 kc5 HK4
  go_wp2_with fail
  go_loopg [10, 11] sc.length (fun gg v vi wr => ∃ (i : Nat) (L : List Int) (F : List Nat) (out : List S27), vi = .int .i64 (i : Int) ∧ gg = sc.length - i ∧ i ≤ sc.length ∧ Aside0 (Sg wB p M L F wr) ∧ Aside0 (OutOk M L out) ∧ Aside0 (Row wr wB.heap.size v out))
  case atStart => exact ⟨0, [], F1, [], rfl, rfl, Nat.zero_le _, HT4, ⟨OutOk.nil M⟩, ⟨Row.nil _ _⟩⟩
  case round =>
    clear HT4
    obtain ⟨i, L, F, out, rfl, hg, hi2, HT, HO, HRW⟩ := hrel
    have HGG := Aside0.mk hg
    clear hg
    obtain ⟨sO, cO, hvO⟩ := HRW.out.sl
    subst hvO
    have HOL := Aside0.mk (HO.out.small HT.out.l1 HM.out HT.out.p1.rise)
    by_cases hlt : i < sc.length
    · have hii : (i : Int) < (sc.length : Int) := by omega
      obtain ⟨ad, kd, on, a, b, rfl, k0, k1, k2, k3, ha0, ha1⟩ := H1.out.at_ (below_step HB0.out HT.out.bel) hlt
      have hwi : IntKind.i64.wrap ((i : Int) + 1) = ((i + 1 : Nat) : Int) := by have := H1.out.len; rw [wrap64_id (by omega) (by omega)]; omega
      have HWI := Aside0.mk hwi
      have HLT := Aside0.mk hlt
      have HA := Aside0.mk (And.intro ha0 ha1)
      clear hlt hwi hi2 ha0 ha1
      go_upto_region 17 with fail
      have kb5 := heap_alloc_new wr (.cells #[.int .i64 kd, .int .i64 on, .int .u32 a, .int .i64 b] 49)
      have hb5 := below_alloc (Below.refl wr.heap.size wr) (.cells #[.int .i64 kd, .int .i64 on, .int .u32 a, .int .i64 b] 49)
      have HT5 := Aside0.mk (HT.out.below hb5)
      have HRW5 := Aside0.mk (HRW.out.below hb5)
      have HNF : Aside0 (wr.heap.size ∉ F) := ⟨fun hf => by have := HT.out.p1.lt _ hf; omega⟩
      have HKB := Aside0.mk kb5
      generalize wr.alloc (.cells #[.int .i64 kd, .int .i64 on, .int .u32 a, .int .i64 b] 49) = w5 at *
      generalize wr.heap.size = b12 at *
      clear kb5 hb5 HT HRW k0 k1 k2 k3
      have ks2 := blk_cell (blk_below HK.out HT5.out.bel) 2
      have kop2 := blk_cell HKB.out 2
      have kop3 := blk_cell HKB.out 3
      by_cases h1 : kd = 1
      · subst h1
        as_aux_lemma =>
        have HC := Aside0.mk (HT5.out.takeC HM.out)
        have hh1 := HNN.out.2.2.2.2.1
        have hl0 := HNN.out.2.2.1
        have hlh := HNN.out.2.2.2.1
        have hms := HF.out.hs
        cases htf : takeF M L with
        | none =>
          rw [htf] at HC
          have HTN := Aside0.mk (takeF_none htf)
          clear htf
          go_wp2_with fail
          refine HC.out.mono ?_
          rintro e_ w6 ⟨rfl, L', F', hT, hm, ht⟩
          obtain rfl : L' = L := rise_ext hT.p1.rise HT5.out.p1.rise (fun x => by rw [hm x]; exact ⟨fun h => h.elim id (fun h => by cases h), .inl⟩)
          have HRW6 := Aside0.mk (HT5.out.row HRW5.out ht)
          have HT6 := Aside0.mk hT
          have hcov := below_cover (N := M.mx + 1) (B := hi + 1) HM.out HF.out HO.out (by have := HM.out.mm; omega) (fun x h0 h1 => HTN.out x h0 (by omega)) (fun x => by
            have h1 := HF.out.hi
            have h2 := sizeF_rng HNN.out.1 HNN.out.2.1
            constructor
            · intro h
              have h3 : x * sizeF s ≤ M.mx * sizeF s := by omega
              have := (Int.mul_le_mul_right (show 0 < sizeF s by omega)).1 h3
              omega
            · intro h
              have := Int.mul_le_mul_of_nonneg_right (show x ≤ M.mx by omega) (show 0 ≤ sizeF s by omega)
              omega)
          have HBL := Aside0.mk (fun (W : World) (hb : Below w6.heap.size w6 W) => weftlaw10_below.calls (kept.length + kept.length + out.length + 3) A c kept sO cO out lo (hi + 1) _ W (Kd.C_below HS.out.C (below_step HT6.out.bel hb)) HS.out.cap (Kd.C_below (Row.C' HRW6.out).2 hb) (Row.C' HRW6.out).1 (below_all lo (hi + 1) HS.out.len (by have := HOL.out; omega) HS.out.W (HO.out.u32 HT6.out.l1 HM.out) (by omega)))
          have hqq : M.mx + 1 - M.mn = q + 1 := by have := HQ.out; omega
          rw [hcov, hqq] at HBL
          clear hT hm ht HC HT5 HRW5 HKB hcov hqq ks2 kop2 kop3
          unfold takeV
          have hbx := below_alloc (Below.refl w6.heap.size w6) (.cells #[.int .u32 0, .int .i64 0] 27)
          have kbx := heap_alloc_new w6 (.cells #[.int .u32 0, .int .i64 0] 27)
          have kx0 := blk_cell kbx 0
          have kx1 := blk_cell kbx 1
          have hK := blk_below HK.out (below_step HT6.out.bel hbx)
          have kc3 := blk_cell hK 3
          have kc4 := blk_cell hK 4
          have kc5 := blk_cell hK 5
          have HBX := Aside0.mk hbx
          have hwh : IntKind.i64.wrap (hi + 1) = hi + 1 := by rw [wrap64_id (by omega) (by omega)]
          have hnn : ((q + 1) != (q + 1)) = false := by simp
          clear hbx kbx hK hms
          go_wp2_with fail
          refine (HBL.out _ HBX.out).mono ?_
          rintro e_ w7 ⟨rfl, hb7⟩
          have HT7 := Aside0.mk ((HT6.out.below HBX.out).below hb7)
          have HRW7 := Aside0.mk ((HRW6.out.below HBX.out).below hb7)
          have hwi := HWI.out
          clear hb7
          go_wp2_with fail
          go_roundg (sc.length - (i + 1))
          case measure => have := HGG.out; have := HLT.out; omega
          case rel => exact ⟨i + 1, L', F', out, rfl, rfl, by have := HLT.out; omega, HT7, HO, HRW7⟩
        | some n =>
          rw [htf] at HC
          have hts := takeF_some htf
          have hlow := takeF_low htf
          have hrn := HM.out.rng hts.1 hts.2.1
          go_wp2_with fail
          refine HC.out.mono ?_
          rintro e_ w6 ⟨rfl, L', F', hT, hm, ht⟩
          have HRW6 := Aside0.mk (HT5.out.row HRW5.out ht)
          have HT6 := Aside0.mk hT
          have HO6 := Aside0.mk (HO.out.snoc HM.out hts.2.2.2 (L' := L') (fun x => by rw [hm x]; exact or_congr_right ⟨fun h => by injection h with h; exact h.symm, fun h => by rw [h]⟩))
          have hrow := (row_iff HM.out HF.out n).2 ⟨hts.1, hts.2.1⟩
          have hno : ¬ (⟨n * sizeF s, s⟩ : S27) ∈ out := fun h => hts.2.2.2 ((HO.out.px_mem HM.out n).1 (by rw [hms]; exact h))
          have hnk : ¬ (⟨n * sizeF s, s⟩ : S27) ∈ kept := fun h => hts.2.2.1 ((HF.out.px_mem HM.out n).1 h)
          have hcov := below_cover (N := n) (B := n * sizeF s) HM.out HF.out HO.out hts.1 hlow (fun x => Int.mul_lt_mul_right (by have := HSZ.out; omega))
          have hdv : (n * sizeF s - lo) / sizeF s = n - M.mn := by
            rw [← HF.out.lo, ← Int.sub_mul, mul_div HNN.out.1 HNN.out.2.1]
          have hmd : n * sizeF s % sizeF s = 0 := mul_mod _ _
          rw [hms] at hrn HO6
          have hnm : 0 ≤ n - M.mn := by have := hts.1; omega
          obtain ⟨X, hX⟩ : ∃ X, X = n * sizeF s := ⟨_, rfl⟩
          unfold px at HO6
          have htv : takeV M (some n) = .tuple #[.agg #[.int .u32 X, .int .i64 s], .int .i64 0] := by rw [hX, ← hms]; rfl
          rw [← hX] at hrn HO6 hrow hno hnk hcov hdv hmd
          rw [htv]
          clear htv
          have HH := Aside0.mk (fun (W : World) (hb : Below w6.heap.size w6 W) => weftlaw10_has.calls (out.length + 1) sO cO out X s _ W (Kd.C_below (Row.C' HRW6.out).2 hb) (Row.C' HRW6.out).1 (has_all X s (by have := HOL.out; omega) (by omega)))
          have HHK := Aside0.mk (fun (W : World) (hb : Below w6.heap.size w6 W) => weftlaw10_has.calls (kept.length + 1) A c kept X s _ W (Kd.C_below HS.out.C (below_step HT6.out.bel hb)) HS.out.cap (has_all X s (by have := HS.out.len; omega) (by omega)))
          rw [decide_eq_false hno] at HH
          rw [decide_eq_false hnk] at HHK
          have HBL := Aside0.mk (fun (W : World) (hb : Below w6.heap.size w6 W) => weftlaw10_below.calls (kept.length + kept.length + out.length + 3) A c kept sO cO out lo X _ W (Kd.C_below HS.out.C (below_step HT6.out.bel hb)) HS.out.cap (Kd.C_below (Row.C' HRW6.out).2 hb) (Row.C' HRW6.out).1 (below_all lo X HS.out.len (by have := HOL.out; omega) HS.out.W (HO.out.u32 HT5.out.l1 HM.out) (by omega)))
          obtain ⟨d, hd⟩ : ∃ d, d = n - M.mn := ⟨_, rfl⟩
          rw [← hd] at hcov hdv hnm
          rw [hcov] at HBL
          have HDV := Aside0.mk (And.intro hdv hnm)
          clear hT hm ht HC HT5 HRW5 HKB hcov ks2 kop2 kop3 hms hlow hts hno hnk hX hd hdv hnm htf
          have hbx := below_alloc (Below.refl w6.heap.size w6) (.cells #[.int .u32 X, .int .i64 s] 27)
          have kbx := heap_alloc_new w6 (.cells #[.int .u32 X, .int .i64 s] 27)
          have kx0 := blk_cell kbx 0
          have kx1 := blk_cell kbx 1
          have hK := blk_below HK.out (below_step HT6.out.bel hbx)
          have kc2 := blk_cell hK 2
          have kc3 := blk_cell hK 3
          have kc4 := blk_cell hK 4
          have HBX := Aside0.mk hbx
          have KBX := Aside0.mk kbx
          have hsz := HSZ.out
          have hzne : (sizeF s == 0) = false := by simp; omega
          have hss : (s != s) = false := by simp
          have hmb : (X % sizeF s != 0) = false := by simp [hmd]
          have hx1 : decide (X < lo) = false := decide_eq_false (by have := hrow.1; omega)
          have hx2 : decide (hi < X) = false := decide_eq_false (by have := hrow.2; omega)
          have hX0 := hrn.1
          have hX1 := hrn.2
          have HROW := Aside0.mk hrow
          clear hbx kbx hK hmd hrow hrn
          go_wp2_with fail
          refine (HH.out _ HBX.out).mono ?_
          rintro e_ w7 ⟨rfl, hb7⟩
          have HB7 := Aside0.mk (below_step HBX.out hb7)
          have KB7 := Aside0.mk (blk_below KBX.out hb7)
          have kx0 := blk_cell KB7.out 0
          have kx1 := blk_cell KB7.out 1
          have hK := blk_below HK.out (below_step HT6.out.bel HB7.out)
          have kc5 := blk_cell hK 5
          clear hb7 hK
          go_wp2_with fail
          refine (HHK.out _ HB7.out).mono ?_
          rintro e_ w8 ⟨rfl, hb8⟩
          have HB8 := Aside0.mk (below_step HB7.out hb8)
          have KB8 := Aside0.mk (blk_below KB7.out hb8)
          clear hb8 kx0 kx1 kc5 hss hmb hx1 hx2
          go_upto_region 25 with fail
          obtain ⟨w9, rfl⟩ : ∃ w9, w9 = w8 := ⟨_, rfl⟩
          have HB9 : Aside0 (Below w6.heap.size w6 w9.drew) := ⟨HB8.out.drew⟩
          have hK := blk_below HK.out (below_step HT6.out.bel HB9.out)
          have i5 : w9.drew.cell? ⟨w.heap.size, 5, none⟩ = some (.slice A kept.length c) := blk_cell hK 5
          have i3 : w9.drew.cell? ⟨w.heap.size, 3, none⟩ = some (.int .u32 lo) := blk_cell hK 3
          clear hK
          have hXl : lo ≤ X := HROW.out.1
          obtain ⟨hdv, hnm⟩ := HDV.out
          have hsne : ¬ sizeF s = 0 := by omega
          have hdl : d < 4294967296 := by
            have := Int.ediv_le_self (a := X - lo) (sizeF s) (by omega)
            omega
          have hwl : wrap64 lo = lo := w64 (by omega) (by omega)
          have HBL2 : Aside0 (∀ (W : World), Below w6.heap.size w6 W → Calls Try.prog 20 #[.slice A kept.length c, .slice sO out.length cO, .int .i64 (wrap64 lo), .int .i64 X] W fun e w' => e = .returned (.int .i64 d) ∧ Below W.heap.size W w') := ⟨by rw [hwl]; exact HBL.out⟩
          have hwx : wrap64 (X - lo) = X - lo := w64 (by omega) (by omega)
          have htd : (X - lo).tdiv (sizeF s) = d := by rw [Int.tdiv_eq_ediv_of_nonneg (by omega)]; exact hdv
          have hwd : IntKind.i64.wrap d = d := wrap64_id hnm (by omega)
          have hwd2 : wrap64 d = d := w64 hnm (by omega)
          have HBS := Aside0.mk (And.intro hX0 hX1)
          clear hX0 hX1 hXl hdl hl0 hlh hh1 hdv hnm hsz
          refine start_ (n := 16) (S := fun w' => w'.cell? ⟨w.heap.size, 5, none⟩ = some (.slice A kept.length c) ∧ w'.cell? ⟨w.heap.size, 3, none⟩ = some (.int .u32 lo)) (ds := []) #[false, false, false, false, false, false, false, false, false, false, false, false, false, false, false, false] (by kernel_rfl) rfl rfl ⟨i5, i3⟩ (fun hHeld => ?_)
          refine pure_ (i := 0) (N := some 132) (v := ?_) (a' := ?_) #[true, false, false, false, false, false, false, false, false, false, false, false, false, false, false, false] rfl rfl (by kernel_rfl) (fun _ _ _ h => h) (Or.inl ⟨by rfl, ?_⟩) ?_ ?_
          rotate_left
          · intro w'
            go_simp
            with_reducible rfl
          rotate_left
          · simp only [Act.put, List.setIfInBounds_toArray, List.set_cons_zero, List.set_cons_succ, i64_w, i32_w]
            rfl
          refine pure_ (i := 2) (N := some 134) (v := ?_) (a' := ?_) #[true, false, true, false, false, false, false, false, false, false, false, false, false, false, false, false] rfl rfl (by kernel_rfl) (fun _ _ _ h => h) (Or.inl ⟨by rfl, ?_⟩) ?_ ?_
          rotate_left
          · intro w'
            go_simp
            with_reducible rfl
          rotate_left
          · simp only [Act.put, List.setIfInBounds_toArray, List.set_cons_zero, List.set_cons_succ, i64_w, i32_w]
            rfl
          refine pure_ (i := 3) (N := some 135) (v := ?_) (a' := ?_) #[true, false, true, true, false, false, false, false, false, false, false, false, false, false, false, false] rfl rfl (by kernel_rfl) (fun _ _ _ h => h) (Or.inl ⟨by rfl, ?_⟩) ?_ ?_
          rotate_left
          · intro w'
            go_simp
            with_reducible rfl
          rotate_left
          · simp only [Act.put, List.setIfInBounds_toArray, List.set_cons_zero, List.set_cons_succ, i64_w, i32_w]
            rfl
          refine pure_ (i := 6) (N := some 138) (v := ?_) (a' := ?_) #[true, false, true, true, false, false, true, false, false, false, false, false, false, false, false, false] rfl rfl (by kernel_rfl) (fun _ _ _ h => h) (Or.inl ⟨by rfl, ?_⟩) ?_ ?_
          rotate_left
          · intro w'
            go_simp
            with_reducible rfl
          rotate_left
          · simp only [Act.put, List.setIfInBounds_toArray, List.set_cons_zero, List.set_cons_succ, i64_w, i32_w]
            rfl
          refine pure_ (i := 8) (N := some 140) (v := ?_) (a' := ?_) #[true, false, true, true, false, false, true, false, true, false, false, false, false, false, false, false] rfl rfl (by kernel_rfl) (fun _ _ _ h => h) (Or.inl ⟨by rfl, ?_⟩) ?_ ?_
          rotate_left
          · intro w'
            go_simp
            with_reducible rfl
          rotate_left
          · simp only [Act.put, List.setIfInBounds_toArray, List.set_cons_zero, List.set_cons_succ, i64_w, i32_w]
            rfl
          refine pure_ (i := 9) (N := some 141) (v := ?_) (a' := ?_) #[true, false, true, true, false, false, true, false, true, true, false, false, false, false, false, false] rfl rfl (by kernel_rfl) (fun _ _ _ h => h) (Or.inl ⟨by rfl, ?_⟩) ?_ ?_
          rotate_left
          · intro w'
            go_simp
            with_reducible rfl
          rotate_left
          · simp only [Act.put, List.setIfInBounds_toArray, List.set_cons_zero, List.set_cons_succ, i64_w, i32_w]
            rfl
          refine pure_ (i := 13) (N := some 145) (v := ?_) (a' := ?_) #[true, false, true, true, false, false, true, false, true, true, false, false, false, true, false, false] rfl rfl (by kernel_rfl) (fun _ _ _ h => h) (Or.inl ⟨by rfl, ?_⟩) ?_ ?_
          rotate_left
          · intro w'
            go_simp
            with_reducible rfl
          rotate_left
          · simp only [Act.put, List.setIfInBounds_toArray, List.set_cons_zero, List.set_cons_succ, i64_w, i32_w]
            rfl
          refine take_ (i := 1) (N := some 133) (v := ?_) (a' := ?_) #[true, true, true, true, false, false, true, false, true, true, false, false, false, true, false, false] rfl rfl (by kernel_rfl) (fun _ _ _ h => h) (Or.inl ⟨by rfl, ?_⟩) hHeld ?_ ?_
          rotate_left
          · rintro w' ⟨s0, s1⟩
            go_simp
            with_reducible rfl
          rotate_left
          · simp only [Act.put, List.setIfInBounds_toArray, List.set_cons_zero, List.set_cons_succ, i64_w, i32_w]
            rfl
          refine take_ (i := 4) (N := some 136) (v := ?_) (a' := ?_) #[true, true, true, true, true, false, true, false, true, true, false, false, false, true, false, false] rfl rfl (by kernel_rfl) (fun _ _ _ h => h) (Or.inl ⟨by rfl, ?_⟩) hHeld ?_ ?_
          rotate_left
          · rintro w' ⟨s0, s1⟩
            go_simp
            with_reducible rfl
          rotate_left
          · simp only [Act.put, List.setIfInBounds_toArray, List.set_cons_zero, List.set_cons_succ, i64_w, i32_w]
            rfl
          refine pure_ (i := 5) (N := some 137) (v := ?_) (a' := ?_) #[true, true, true, true, true, true, true, false, true, true, false, false, false, true, false, false] rfl rfl (by kernel_rfl) (fun _ _ _ h => h) (Or.inl ⟨by rfl, ?_⟩) ?_ ?_
          rotate_left
          · intro w'
            go_simp
            with_reducible rfl
          rotate_left
          · simp only [Act.put, List.setIfInBounds_toArray, List.set_cons_zero, List.set_cons_succ, i64_w, i32_w]
            rfl
          refine take_ (i := 10) (N := some 142) (v := ?_) (a' := ?_) #[true, true, true, true, true, true, true, false, true, true, true, false, false, true, false, false] rfl rfl (by kernel_rfl) (fun _ _ _ h => h) (Or.inl ⟨by rfl, ?_⟩) hHeld ?_ ?_
          rotate_left
          · rintro w' ⟨s0, s1⟩
            go_simp
            with_reducible rfl
          rotate_left
          · simp only [Act.put, List.setIfInBounds_toArray, List.set_cons_zero, List.set_cons_succ, i64_w, i32_w]
            rfl
          refine pure_ (i := 11) (N := some 143) (v := ?_) (a' := ?_) #[true, true, true, true, true, true, true, false, true, true, true, true, false, true, false, false] rfl rfl (by kernel_rfl) (fun _ _ _ h => h) (Or.inl ⟨by rfl, ?_⟩) ?_ ?_
          rotate_left
          · intro w'
            go_simp
            with_reducible rfl
          rotate_left
          · simp only [Act.put, List.setIfInBounds_toArray, List.set_cons_zero, List.set_cons_succ, i64_w, i32_w]
            rfl
          refine pure_ (i := 12) (N := some 144) (v := ?_) (a' := ?_) #[true, true, true, true, true, true, true, false, true, true, true, true, true, true, false, false] rfl rfl (by kernel_rfl) (fun _ _ _ h => h) (Or.inl ⟨by rfl, ?_⟩) ?_ ?_
          rotate_left
          · intro w'
            go_simp
            with_reducible rfl
          rotate_left
          · simp only [Act.put, List.setIfInBounds_toArray, List.set_cons_zero, List.set_cons_succ, i64_w, i32_w]
            rfl
          refine pure_ (i := 14) (N := some 146) (v := ?_) (a' := ?_) #[true, true, true, true, true, true, true, false, true, true, true, true, true, true, true, false] rfl rfl (by kernel_rfl) (fun _ _ _ h => h) (Or.inl ⟨by rfl, ?_⟩) ?_ ?_
          rotate_left
          · intro w'
            go_simp
            with_reducible rfl
          rotate_left
          · simp only [Act.put, List.setIfInBounds_toArray, List.set_cons_zero, List.set_cons_succ, i64_w, i32_w]
            rfl
          refine one_ (i := 7) (N := some 139) #[true, true, true, true, true, true, true, true, true, true, true, true, true, true, true, false] rfl rfl (by kernel_rfl) (by decide) (fun K hK => ?_)
          refine goes_ Try.func20 (by kernel_rfl) rfl #[.slice A kept.length c, .slice sO out.length cO, .int .i64 (wrap64 lo), .int .i64 X] (by rfl) rfl rfl (by simp only [List.map_toArray, List.map_cons, List.map_nil]; rfl) ?_
          with_reducible refine (HBL2.out w9.drew HB9.out).mono ?_
          rintro e_ w10 ⟨rfl, hb10⟩
          refine ⟨_, rfl, ?_⟩
          have hK10 := blk_below HK.out (below_step (below_step HT6.out.bel HB9.out) hb10)
          have j5 := blk_cell hK10 5
          have j3 := blk_cell hK10 3
          have HB10 := Aside0.mk (below_step HB9.out hb10)
          refine hK.out _ _ ⟨j5, j3⟩ (fun hHeld => ?_)
          clear hK K
          refine norm_ (a' := ?_) ?_ ?_
          rotate_left
          · show Act.put _ (some 139) _ = _
            simp only [Act.put, List.setIfInBounds_toArray, List.set_cons_zero, List.set_cons_succ, i64_w, i32_w]
            rfl
          refine pure_ (i := 15) (N := some 147) (v := ?_) (a' := ?_) #[true, true, true, true, true, true, true, true, true, true, true, true, true, true, true, true] rfl rfl (by kernel_rfl) (fun _ _ _ h => h) (Or.inl ⟨by rfl, ?_⟩) ?_ ?_
          rotate_left
          · intro w'
            go_simp
            with_reducible rfl
          rotate_left
          · simp only [Act.put, List.setIfInBounds_toArray, List.set_cons_zero, List.set_cons_succ, i64_w, i32_w]
            rfl
          refine done_ (by kernel_rfl) ?_

          have HT10 := Aside0.mk (HT6.out.below HB10.out)
          have HRW10 := Aside0.mk (HRW6.out.below HB10.out)
          have KB10 := Aside0.mk (blk_below (show w9.drew.heap[w6.heap.size]? = _ from KB8.out) hb10)
          have kx0 := blk_cell KB10.out 0
          have kx1 := blk_cell KB10.out 1
          obtain ⟨v1, w11, r1, o1, b1, g1⟩ := HRW10.out.app1 HT10.out.bel.size ⟨X, s⟩ (by have := HOL.out; omega)
          have R1 := Aside0.mk r1
          have O1 := Aside0.mk o1
          have HT11 := Aside0.mk (HT10.out.grow HRW10.out (Nat.le_refl _) g1)
          have hwi := HWI.out
          have hdd : (d != d) = false := by simp
          clear r1 o1 b1 g1 hb10 i5 i3 j5 j3 hwl hwx htd hwd hwd2
          try clear hHeld
          go_wp2_with ((with_reducible refine gate_builtin (b := .append) (xs := #[.tmp 148, .tmp 150]) rfl ?_); at_builtin; refine wpList_append_run rfl (.tmp 148) (.tmp 150) 28 rfl rfl rfl R1.out ?_)
          go_roundg (sc.length - (i + 1))
          case measure => have := HGG.out; have := HLT.out; omega
          case rel => exact ⟨i + 1, L', F', _, rfl, rfl, by have := HLT.out; omega, HT11, HO6, O1⟩
      · by_cases h2 : kd = 2
        · subst h2
          clear h1
          as_aux_lemma =>
          have HC := Aside0.mk (HT5.out.claimC HM.out a b HA.out.1 HA.out.2)
          go_wp2_with fail
          refine HC.out.mono ?_
          rintro e_ w6 ⟨rfl, L', F', hT, hm, ht⟩
          have HT6 := Aside0.mk hT
          have HRW6 := Aside0.mk (HT5.out.row HRW5.out ht)
          have HKB6 : Aside0 (w6.heap[b12]? = some (.cells #[.int .i64 2, .int .i64 on, .int .u32 a, .int .i64 b] 49 (0, 0))) := ⟨(ht.block b12 (blk_lt HKB.out) HNF.out).trans HKB.out⟩
          have hci := claim_iff (a := a) (l := b) HM.out HF.out HO.out
          obtain ⟨rb, hrb⟩ : ∃ r : Bool, r = decide (b = s ∧ a % sizeF s = 0 ∧ lo ≤ a ∧ a ≤ hi) := ⟨_, rfl⟩
          obtain ⟨kb, hkb⟩ : ∃ r : Bool, r = decide ((⟨a, b⟩ : S27) ∈ kept) := ⟨_, rfl⟩
          obtain ⟨ob, hob⟩ : ∃ r : Bool, r = decide ((⟨a, b⟩ : S27) ∈ out) := ⟨_, rfl⟩
          have hce : (claimE M L a b == 0) = ((rb || kb) && !ob) := by
            rw [Bool.eq_iff_iff, beq_iff_eq, hci]
            unfold mayC
            rw [hrb, hkb, hob]
            simp
          have HH := Aside0.mk (fun (W : World) (hb : Below w6.heap.size w6 W) => weftlaw10_has.calls (out.length + 1) sO cO out a b _ W (Kd.C_below (Row.C' HRW6.out).2 hb) (Row.C' HRW6.out).1 (has_all a b (by have := HOL.out; omega) (by omega)))
          have HHK := Aside0.mk (fun (W : World) (hb : Below w6.heap.size w6 W) => weftlaw10_has.calls (kept.length + 1) A c kept a b _ W (Kd.C_below HS.out.C (below_step HT6.out.bel hb)) HS.out.cap (has_all a b (by have := HS.out.len; omega) (by omega)))
          rw [← hob] at HH
          rw [← hkb] at HHK
          have HRB := Aside0.mk hrb
          have HCE := Aside0.mk hce
          have HM6 : Aside0 (claimE M L a b = 0 → OutOk M L' (out ++ [⟨a, b⟩])) := ⟨fun h => HO.out.claim HM.out h hm⟩
          have HM7 : Aside0 (¬ claimE M L a b = 0 → OutOk M L' out) := ⟨fun h => HO.out.same (fun x => by rw [hm x]; exact ⟨fun h2 => h2.elim id (fun h2 => absurd h2.1 h), .inl⟩)⟩
          have hK6 := blk_below HK.out HT6.out.bel
          have HK6 := Aside0.mk hK6
          clear hT hm ht HC HT5 HRW5 HKB hci hrb hkb hob hce ks2 kop2 kop3 hK6
          go_upto_region 30 with fail
          go_cut [17] (fun v wx => v = .bool rb ∧ w6 = wx)
          case first =>
            have kc2 := blk_cell HK6.out 2
            have kc3 := blk_cell HK6.out 3
            have kc4 := blk_cell HK6.out 4
            have kop2 := blk_cell HKB6.out 2
            have kop3 := blk_cell HKB6.out 3
            have hsz := HSZ.out
            have ha0 := HA.out.1
            have ha1 := HA.out.2
            have hzne : (sizeF s == 0) = false := by simp; omega
            by_cases d1 : b = s
            · have d1b : (b == s) = true := by simpa using d1
              by_cases d2 : a % sizeF s = 0
              · have d2b : (a % sizeF s == 0) = true := by simpa using d2
                by_cases d3 : lo ≤ a
                · have d3b : decide (lo ≤ a) = true := decide_eq_true d3
                  have HDB : Aside0 (rb = decide (a ≤ hi)) := ⟨by rw [HRB.out]; simp [d1, d2, d3]⟩
                  clear d1 d2 d3
                  go_wp2_with fail
                  go_meet
                  exact ⟨by rw [HDB.out], rfl⟩
                · have d3b : decide (lo ≤ a) = false := decide_eq_false d3
                  have HDB : Aside0 (rb = false) := ⟨by rw [HRB.out]; simp [d3]⟩
                  clear d1 d2 d3
                  go_wp2_with fail
                  go_meet
                  exact ⟨by rw [HDB.out], rfl⟩
              · have d2b : (a % sizeF s == 0) = false := by simpa using d2
                have HDB : Aside0 (rb = false) := ⟨by rw [HRB.out]; simp [d2]⟩
                clear d1 d2
                go_wp2_with fail
                go_meet
                exact ⟨by rw [HDB.out], rfl⟩
            · have d1b : (b == s) = false := by simpa using d1
              have HDB : Aside0 (rb = false) := ⟨by rw [HRB.out]; simp [d1]⟩
              clear d1
              go_wp2_with fail
              go_meet
              exact ⟨by rw [HDB.out], rfl⟩
          case rest =>
            obtain ⟨rfl, rfl⟩ := hcut
            go_upto_region 31 with fail
            go_cut [18] (fun v wx => v = .bool ((rb || kb) && !ob) ∧ Aside0 (Below w6.heap.size w6 wx))
            case first =>
              have kc5 := blk_cell HK6.out 5
              have kop2 := blk_cell HKB6.out 2
              have kop3 := blk_cell HKB6.out 3
              clear HRB HCE
              cases rb with
              | true =>
                go_wp2_with fail
                refine (HH.out _ (Below.refl _ _)).mono ?_
                rintro e_ w7 ⟨rfl, hb7⟩
                have HB7 := Aside0.mk hb7
                clear hb7
                go_wp2_with fail
                go_meet
                exact ⟨by simp, HB7⟩
              | false =>
                go_wp2_with fail
                refine (HHK.out _ (Below.refl _ _)).mono ?_
                rintro e_ w7 ⟨rfl, hb7⟩
                have HB7 := Aside0.mk hb7
                have kop2 := blk_cell (blk_below HKB6.out hb7) 2
                have kop3 := blk_cell (blk_below HKB6.out hb7) 3
                clear hb7
                cases kb with
                | true =>
                  go_wp2_with fail
                  refine (HH.out _ HB7.out).mono ?_
                  rintro e_ w8 ⟨rfl, hb8⟩
                  have HB8 := Aside0.mk (below_step HB7.out hb8)
                  clear hb8
                  go_wp2_with fail
                  go_meet
                  exact ⟨by simp, HB8⟩
                | false =>
                  go_wp2_with fail
                  go_meet
                  exact ⟨by simp, HB7⟩
            case rest =>
              obtain ⟨rfl, HBW⟩ := hcut
              have HT7 := Aside0.mk (HT6.out.below HBW.out)
              have HRW7 := Aside0.mk (HRW6.out.below HBW.out)
              have kb7 := blk_below HKB6.out HBW.out
              have kop2 := blk_cell kb7 2
              have kop3 := blk_cell kb7 3
              obtain ⟨mb, hmb⟩ : ∃ m : Bool, m = ((rb || kb) && !ob) := ⟨_, rfl⟩
              rw [← hmb]
              have hce := HCE.out
              rw [← hmb] at hce
              have HMB := Aside0.mk hmb
              obtain ⟨v1, w9, r1, o1, b1, g1⟩ := HRW7.out.app1 HT7.out.bel.size ⟨a, b⟩ (by have := HOL.out; omega)
              have R1 := Aside0.mk r1
              have O1 := Aside0.mk o1
              have HT9 := Aside0.mk (HT7.out.grow HRW7.out (Nat.le_refl _) g1)
              have hwi := HWI.out
              have hne : (mb != mb) = false := by simp
              clear hmb kb7 r1 o1 b1 g1 HH HHK
              cases mb with
              | true =>
                have HO7 := Aside0.mk (HM6.out (by simpa using hce))
                generalize claimE M L a b = ce at *
                clear HM6 HM7 HCE
                go_wp2_with ((with_reducible refine gate_builtin (b := .append) (xs := #[.tmp 209, .tmp 212]) rfl ?_); at_builtin; refine wpList_append_run rfl (.tmp 209) (.tmp 212) 28 rfl rfl rfl R1.out ?_)
                go_roundg (sc.length - (i + 1))
                case measure => have := HGG.out; have := HLT.out; omega
                case rel => exact ⟨i + 1, L', F', _, rfl, rfl, by have := HLT.out; omega, HT9, HO7, O1⟩
              | false =>
                have HO7 := Aside0.mk (HM7.out (by simpa using hce))
                generalize claimE M L a b = ce at *
                clear HM6 HM7 HCE
                go_wp2_with fail
                go_roundg (sc.length - (i + 1))
                case measure => have := HGG.out; have := HLT.out; omega
                case rel => exact ⟨i + 1, L', F', _, rfl, rfl, by have := HLT.out; omega, HT7, HO7, HRW7⟩
        · by_cases h3 : kd = 3
          · subst h3
            clear h1 h2
            as_aux_lemma =>
            have HC := Aside0.mk (HT5.out.freeC HM.out a b HA.out.1 HA.out.2)
            go_wp2_with fail
            refine HC.out.mono ?_
            rintro e_ w6 ⟨rfl, L', F', hT, hm, ht⟩
            have HT6 := Aside0.mk hT
            have HO6 := Aside0.mk (HO.out.free HM.out hm)
            have HRW6 := Aside0.mk (HT5.out.row HRW5.out ht)
            have HKB6 : Aside0 (w6.heap[b12]? = some (.cells #[.int .i64 3, .int .i64 on, .int .u32 a, .int .i64 b] 49 (0, 0))) := ⟨(ht.block b12 (blk_lt HKB.out) HNF.out).trans HKB.out⟩
            have hfi := free_iff (a := a) (l := b) HM.out HO.out
            have HH := Aside0.mk (fun (W : World) (hb : Below w6.heap.size w6 W) => weftlaw10_has.calls (out.length + 1) sO cO out a b _ W (Kd.C_below (Row.C' HRW6.out).2 hb) (Row.C' HRW6.out).1 (has_all a b (by have := HOL.out; omega) (by omega)))
            have HWO := Aside0.mk (fun (W : World) (hb : Below w6.heap.size w6 W) => weftlaw10_without.calls (out.length + 1) sO cO out a b _ W (Kd.C_below (Row.C' HRW6.out).2 hb) (Row.C' HRW6.out).1 (without_all a b (by have := HOL.out; omega) (by omega)))
            obtain ⟨hb, hhb⟩ : ∃ hb : Bool, hb = decide ((⟨a, b⟩ : S27) ∈ out) := ⟨_, rfl⟩
            rw [← hhb] at HH
            have hfe : (freeE M L a b == 0) = hb := by
              rw [hhb]
              by_cases hc : (⟨a, b⟩ : S27) ∈ out
              · rw [decide_eq_true hc, hfi.2 hc]; rfl
              · rw [decide_eq_false hc, beq_eq_false_iff_ne]; exact fun e => hc (hfi.1 e)
            have hne : (hb != hb) = false := by simp
            have kop2 := blk_cell HKB6.out 2
            have kop3 := blk_cell HKB6.out 3
            generalize freeE M L a b = fe at *
            clear hT hm ht HC HT5 HRW5 HKB hfi HO hhb ks2
            go_wp2_with fail
            refine (HH.out _ (Below.refl _ _)).mono ?_
            rintro e_ w7 ⟨rfl, hb7⟩
            have HB7 := Aside0.mk hb7
            have kb7 := blk_below HKB6.out hb7
            have kop2 := blk_cell kb7 2
            have kop3 := blk_cell kb7 3
            clear hb7 kb7
            go_wp2_with fail
            refine (HWO.out _ HB7.out).mono ?_
            rintro e_ w8 ⟨v0, rfl, hR, hb8⟩
            have hR8 : Row w8 wB.heap.size v0 (out.filter (fun x => decide (x ≠ ⟨a, b⟩))) := own_less (Row.of_R hR) (by have := HT6.out.bel.size; have := HB7.out.size; omega)
            have HR8 := Aside0.mk hR8
            have HT8 := Aside0.mk ((HT6.out.below HB7.out).below hb8)
            have hwi := HWI.out
            clear hR hR8 hb8 hne hfe
            go_wp2_with fail
            go_roundg (sc.length - (i + 1))
            case measure => have := HGG.out; have := HLT.out; omega
            case rel => exact ⟨i + 1, L', F', _, rfl, rfl, by have := HLT.out; omega, HT8, HO6, HR8⟩
          · have h1b : (kd == 1) = false := by simpa using h1
            have h2b : (kd == 2) = false := by simpa using h2
            have h3b : (kd == 3) = false := by simpa using h3
            have hwi := HWI.out
            clear h1 h2 h3
            go_wp2_with fail
            go_roundg (sc.length - (i + 1))
            case measure => have := HGG.out; have := HLT.out; omega
            case rel => exact ⟨i + 1, L, F, out, rfl, rfl, by have := HLT.out; omega, HT5, HO, HRW5⟩
    · have hii : ¬ (i : Int) < (sc.length : Int) := by omega
      as_aux_lemma =>
      have HTK := Aside0.mk (takenP HM.out HT.out.l1 HT.out.p1)
      have HLEN := Aside0.mk (HO.out.len HM.out HT.out.p1.rise)
      have HMEM := Aside0.mk (HO.out.pmem)
      have HORD := Aside0.mk (pxs_ord HM.out HT.out.p1.rise)
      clear HSZ HF HQ
      generalize pxs M.s L = xs at *
      go_wp2_with fail
      refine HTK.out.mono ?_
      rintro e_ w6 ⟨vt, rfl, ht, hb6⟩
      have HTR := Aside0.mk ht
      obtain ⟨At, ct, hvt⟩ := ht.sl
      subst hvt
      have HRW6 := Aside0.mk (HRW.out.below hb6)
      have HT6 := Aside0.mk (HT.out.below hb6)
      have HX : Aside0 (Below w6.heap.size w6 w6) := ⟨Below.refl _ _⟩
      have HHC := Aside0.mk (fun (u v : Int) (hm : (⟨u, v⟩ : S27) ∈ out) (W : World) (hb : Below w6.heap.size w6 W) => weftlaw10_has.calls (out.length + 1) sO cO out u v _ W (Kd.C_below (Row.C' HRW6.out).2 hb) (Row.C' HRW6.out).1 (has_all u v (by have := HOL.out; omega) (by omega)))
      have hll : ((xs.length : Int) != (out.length : Int)) = false := by rw [HLEN.out]; simp
      clear ht hb6 HT HRW HTK hii
      go_wp2_with fail
      go_loopg [21] xs.length (fun gg vi wr => ∃ i : Nat, vi = .int .i64 (i : Int) ∧ gg = xs.length - i ∧ i ≤ xs.length ∧ Aside0 (Below w6.heap.size w6 wr))
      case atStart => exact ⟨0, rfl, rfl, Nat.zero_le _, HX⟩
      case round =>
        obtain ⟨i, rfl, hg, hi2, HB⟩ := hrel
        have HGG := Aside0.mk hg
        clear hg hi2 hll
        by_cases hlt : i < xs.length
        · have hii : (i : Int) < (xs.length : Int) := by omega
          obtain ⟨g, c', e, i0, i1⟩ := HTR.out.at_ hlt
          injection e with e1 e2 e3
          subst e1
          clear e2 e3
          obtain ⟨u, hu⟩ : ∃ u, u = xs[i].f0 := ⟨_, rfl⟩
          obtain ⟨v, hv⟩ : ∃ v, v = xs[i].f1 := ⟨_, rfl⟩
          have hm : (⟨u, v⟩ : S27) ∈ out := by rw [hu, hv]; exact HMEM.out _ (List.getElem_mem hlt)
          have HHU := Aside0.mk (HHC.out u v hm)
          rw [decide_eq_true hm] at HHU
          rw [← hu] at i0
          rw [← hv] at i1
          have hwi : IntKind.i64.wrap ((i : Int) + 1) = ((i + 1 : Nat) : Int) := by have := HOL.out; have := HLEN.out; rw [wrap64_id (by omega) (by omega)]; omega
          have HWI := Aside0.mk hwi
          have HLT := Aside0.mk hlt
          clear hv hm hwi
          by_cases hi0 : i = 0
          · have hgt : decide (0 < (i : Int)) = false := decide_eq_false (by omega)
            have hgn : decide (0 < i) = false := decide_eq_false (by omega)
            have hgm : ¬ 0 < i := by omega
            clear hu hi0
            have i0 := pw_cell_below HB.out i0
            have i1 := pw_cell_below HB.out i1
            go_upto_region 47 with fail
            obtain ⟨w9, rfl⟩ : ∃ w9, w9 = wr := ⟨_, rfl⟩
            have HB9 : Aside0 (Below w6.heap.size w6 w9.drew) := ⟨HB.out.drew⟩
            have i0 : w9.drew.cell? ⟨g, i * 2, none⟩ = some (.int .u32 u) := i0
            have i1 : w9.drew.cell? ⟨g, i * 2 + 1, none⟩ = some (.int .i64 v) := i1
            refine start_ (n := 25) (S := fun w' => w'.cell? ⟨g, i * 2, none⟩ = some (.int .u32 u) ∧ w'.cell? ⟨g, i * 2 + 1, none⟩ = some (.int .i64 v)) (ds := []) #[false, false, false, false, false, false, false, false, false, false, false, false, false, false, false, false, false, false, false, false, false, false, false, false, false] (by kernel_rfl) rfl rfl ⟨i0, i1⟩ (fun hHeld => ?_)
            refine pure_ (i := 0) (N := some 244) (v := ?_) (a' := ?_) #[true, false, false, false, false, false, false, false, false, false, false, false, false, false, false, false, false, false, false, false, false, false, false, false, false] rfl rfl (by kernel_rfl) (fun _ _ _ h => h) (Or.inl ⟨by rfl, ?_⟩) ?_ ?_
            rotate_left
            · intro w'
              go_simp
              with_reducible rfl
            rotate_left
            · simp only [Act.put, List.setIfInBounds_toArray, List.set_cons_zero, List.set_cons_succ, i64_w, i32_w]
              rfl
            refine pure_ (i := 1) (N := some 245) (v := ?_) (a' := ?_) #[true, true, false, false, false, false, false, false, false, false, false, false, false, false, false, false, false, false, false, false, false, false, false, false, false] rfl rfl (by kernel_rfl) (fun _ _ _ h => h) (Or.inl ⟨by rfl, ?_⟩) ?_ ?_
            rotate_left
            · intro w'
              go_simp
              with_reducible rfl
            rotate_left
            · simp only [Act.put, List.setIfInBounds_toArray, List.set_cons_zero, List.set_cons_succ, i64_w, i32_w]
              rfl
            refine pure_ (i := 2) (N := some 246) (v := ?_) (a' := ?_) #[true, true, true, false, false, false, false, false, false, false, false, false, false, false, false, false, false, false, false, false, false, false, false, false, false] rfl rfl (by kernel_rfl) (fun _ _ _ h => h) (Or.inl ⟨by rfl, ?_⟩) ?_ ?_
            rotate_left
            · intro w'
              go_simp
              with_reducible rfl
            rotate_left
            · simp only [Act.put, List.setIfInBounds_toArray, List.set_cons_zero, List.set_cons_succ, i64_w, i32_w]
              rfl
            refine pure_ (i := 3) (N := some 247) (v := ?_) (a' := ?_) #[true, true, true, true, false, false, false, false, false, false, false, false, false, false, false, false, false, false, false, false, false, false, false, false, false] rfl rfl (by kernel_rfl) (fun _ _ _ h => h) (Or.inl ⟨by rfl, ?_⟩) ?_ ?_
            rotate_left
            · intro w'
              go_simp
              with_reducible rfl
            rotate_left
            · simp only [Act.put, List.setIfInBounds_toArray, List.set_cons_zero, List.set_cons_succ, i64_w, i32_w]
              rfl
            refine take_ (i := 4) (N := some 248) (v := ?_) (a' := ?_) #[true, true, true, true, true, false, false, false, false, false, false, false, false, false, false, false, false, false, false, false, false, false, false, false, false] rfl rfl (by kernel_rfl) (fun _ _ _ h => h) (Or.inl ⟨by rfl, ?_⟩) hHeld ?_ ?_
            rotate_left
            · rintro w' ⟨s0, s1⟩
              go_simp
              with_reducible rfl
            rotate_left
            · simp only [Act.put, List.setIfInBounds_toArray, List.set_cons_zero, List.set_cons_succ, i64_w, i32_w]
              rfl
            refine one_ (i := 5) (N := some 249) #[true, true, true, true, true, true, false, false, false, false, false, false, false, false, false, false, false, false, false, false, false, false, false, false, false] rfl rfl (by kernel_rfl) (by decide) (fun K hK => ?_)
            refine goes_ Try.func21 (by kernel_rfl) rfl #[.slice sO out.length cO, .agg #[.int .u32 u, .int .i64 v]] (by rfl) rfl rfl (by simp only [List.map_toArray, List.map_cons, List.map_nil]; rfl) ?_
            with_reducible refine (HHU.out w9.drew HB9.out).mono ?_
            rintro e_ w10 ⟨rfl, hb10⟩
            refine ⟨_, rfl, ?_⟩
            have hK10 := hb10
            have j0 := pw_cell_below hb10 i0
            have j1 := pw_cell_below hb10 i1
            have HB10 := Aside0.mk (below_step HB9.out hb10)
            refine hK.out _ _ ⟨j0, j1⟩ (fun hHeld => ?_)
            clear hK K
            refine norm_ (a' := ?_) ?_ ?_
            rotate_left
            · show Act.put _ (some 249) _ = _
              simp only [Act.put, List.setIfInBounds_toArray, List.set_cons_zero, List.set_cons_succ, i64_w, i32_w]
              rfl
            refine pure_ (i := 6) (N := some 250) (v := ?_) (a' := ?_) #[true, true, true, true, true, true, true, false, false, false, false, false, false, false, false, false, false, false, false, false, false, false, false, false, false] rfl rfl (by kernel_rfl) (fun _ _ _ h => h) (Or.inl ⟨by rfl, ?_⟩) ?_ ?_
            rotate_left
            · intro w'
              go_simp
              with_reducible rfl
            rotate_left
            · simp only [Act.put, List.setIfInBounds_toArray, List.set_cons_zero, List.set_cons_succ, i64_w, i32_w]
              rfl
            refine pure_ (i := 7) (N := some 251) (v := ?_) (a' := ?_) #[true, true, true, true, true, true, true, true, false, false, false, false, false, false, false, false, false, false, false, false, false, false, false, false, false] rfl rfl (by kernel_rfl) (fun _ _ _ h => h) (Or.inl ⟨by rfl, ?_⟩) ?_ ?_
            rotate_left
            · intro w'
              go_simp
              with_reducible rfl
            rotate_left
            · simp only [Act.put, List.setIfInBounds_toArray, List.set_cons_zero, List.set_cons_succ, i64_w, i32_w]
              rfl
            refine pure_ (i := 8) (N := some 252) (v := ?_) (a' := ?_) #[true, true, true, true, true, true, true, true, true, false, false, false, false, false, false, false, false, false, false, false, false, false, false, false, false] rfl rfl (by kernel_rfl) (fun _ _ _ h => h) (Or.inl ⟨by rfl, ?_⟩) ?_ ?_
            rotate_left
            · intro w'
              go_simp
              with_reducible rfl
            rotate_left
            · simp only [Act.put, List.setIfInBounds_toArray, List.set_cons_zero, List.set_cons_succ, i64_w, i32_w]
              rfl
            refine pure_ (i := 9) (N := some 253) (v := ?_) (a' := ?_) #[true, true, true, true, true, true, true, true, true, true, false, false, false, false, false, false, false, false, false, false, false, false, false, false, false] rfl rfl (by kernel_rfl) (fun _ _ _ h => h) (Or.inl ⟨by rfl, ?_⟩) ?_ ?_
            rotate_left
            · intro w'
              go_simp
              with_reducible rfl
            rotate_left
            · simp only [Act.put, List.setIfInBounds_toArray, List.set_cons_zero, List.set_cons_succ, i64_w, i32_w]
              rfl
            refine pure_ (i := 10) (N := some 254) (v := ?_) (a' := ?_) #[true, true, true, true, true, true, true, true, true, true, true, false, false, false, false, false, false, false, false, false, false, false, false, false, false] rfl rfl (by kernel_rfl) (fun _ _ _ h => h) (Or.inl ⟨by rfl, ?_⟩) ?_ ?_
            rotate_left
            · intro w'
              go_simp
              with_reducible rfl
            rotate_left
            · simp only [Act.put, List.setIfInBounds_toArray, List.set_cons_zero, List.set_cons_succ, i64_w, i32_w]
              rfl
            refine pure_ (i := 11) (N := some 255) (v := undef) (a' := ?_) #[true, true, true, true, true, true, true, true, true, true, true, true, false, false, false, false, false, false, false, false, false, false, false, false, false] rfl rfl (by kernel_rfl) (fun _ _ _ h => h) (Or.inr ⟨by rfl, rfl⟩) ?_ ?_
            rotate_left
            · simp only [Act.put, List.setIfInBounds_toArray, List.set_cons_zero, List.set_cons_succ, i64_w, i32_w]
              rfl
            refine pure_ (i := 12) (N := some 256) (v := undef) (a' := ?_) #[true, true, true, true, true, true, true, true, true, true, true, true, true, false, false, false, false, false, false, false, false, false, false, false, false] rfl rfl (by kernel_rfl) (fun _ _ _ h => h) (Or.inr ⟨by rfl, rfl⟩) ?_ ?_
            rotate_left
            · simp only [Act.put, List.setIfInBounds_toArray, List.set_cons_zero, List.set_cons_succ, i64_w, i32_w]
              rfl
            refine pure_ (i := 13) (N := some 257) (v := undef) (a' := ?_) #[true, true, true, true, true, true, true, true, true, true, true, true, true, true, false, false, false, false, false, false, false, false, false, false, false] rfl rfl (by kernel_rfl) (fun _ _ _ h => h) (Or.inr ⟨by rfl, rfl⟩) ?_ ?_
            rotate_left
            · simp only [Act.put, List.setIfInBounds_toArray, List.set_cons_zero, List.set_cons_succ, i64_w, i32_w]
              rfl
            refine pure_ (i := 14) (N := some 258) (v := undef) (a' := ?_) #[true, true, true, true, true, true, true, true, true, true, true, true, true, true, true, false, false, false, false, false, false, false, false, false, false] rfl rfl (by kernel_rfl) (fun _ _ _ h => h) (Or.inr ⟨by rfl, rfl⟩) ?_ ?_
            rotate_left
            · simp only [Act.put, List.setIfInBounds_toArray, List.set_cons_zero, List.set_cons_succ, i64_w, i32_w]
              rfl
            refine pure_ (i := 15) (N := some 259) (v := undef) (a' := ?_) #[true, true, true, true, true, true, true, true, true, true, true, true, true, true, true, true, false, false, false, false, false, false, false, false, false] rfl rfl (by kernel_rfl) (fun _ _ _ h => h) (Or.inr ⟨by rfl, rfl⟩) ?_ ?_
            rotate_left
            · simp only [Act.put, List.setIfInBounds_toArray, List.set_cons_zero, List.set_cons_succ, i64_w, i32_w]
              rfl
            refine pure_ (i := 16) (N := some 260) (v := undef) (a' := ?_) #[true, true, true, true, true, true, true, true, true, true, true, true, true, true, true, true, true, false, false, false, false, false, false, false, false] rfl rfl (by kernel_rfl) (fun _ _ _ h => h) (Or.inr ⟨by rfl, rfl⟩) ?_ ?_
            rotate_left
            · simp only [Act.put, List.setIfInBounds_toArray, List.set_cons_zero, List.set_cons_succ, i64_w, i32_w]
              rfl
            refine pure_ (i := 17) (N := some 261) (v := undef) (a' := ?_) #[true, true, true, true, true, true, true, true, true, true, true, true, true, true, true, true, true, true, false, false, false, false, false, false, false] rfl rfl (by kernel_rfl) (fun _ _ _ h => h) (Or.inr ⟨by rfl, rfl⟩) ?_ ?_
            rotate_left
            · simp only [Act.put, List.setIfInBounds_toArray, List.set_cons_zero, List.set_cons_succ, i64_w, i32_w]
              rfl
            refine pure_ (i := 18) (N := some 262) (v := undef) (a' := ?_) #[true, true, true, true, true, true, true, true, true, true, true, true, true, true, true, true, true, true, true, false, false, false, false, false, false] rfl rfl (by kernel_rfl) (fun _ _ _ h => h) (Or.inr ⟨by rfl, rfl⟩) ?_ ?_
            rotate_left
            · simp only [Act.put, List.setIfInBounds_toArray, List.set_cons_zero, List.set_cons_succ, i64_w, i32_w]
              rfl
            refine pure_ (i := 19) (N := some 263) (v := undef) (a' := ?_) #[true, true, true, true, true, true, true, true, true, true, true, true, true, true, true, true, true, true, true, true, false, false, false, false, false] rfl rfl (by kernel_rfl) (fun _ _ _ h => h) (Or.inr ⟨by rfl, rfl⟩) ?_ ?_
            rotate_left
            · simp only [Act.put, List.setIfInBounds_toArray, List.set_cons_zero, List.set_cons_succ, i64_w, i32_w]
              rfl
            refine pure_ (i := 20) (N := some 264) (v := undef) (a' := ?_) #[true, true, true, true, true, true, true, true, true, true, true, true, true, true, true, true, true, true, true, true, true, false, false, false, false] rfl rfl (by kernel_rfl) (fun _ _ _ h => h) (Or.inr ⟨by rfl, rfl⟩) ?_ ?_
            rotate_left
            · simp only [Act.put, List.setIfInBounds_toArray, List.set_cons_zero, List.set_cons_succ, i64_w, i32_w]
              rfl
            refine pure_ (i := 21) (N := some 265) (v := undef) (a' := ?_) #[true, true, true, true, true, true, true, true, true, true, true, true, true, true, true, true, true, true, true, true, true, true, false, false, false] rfl rfl (by kernel_rfl) (fun _ _ _ h => h) (Or.inr ⟨by rfl, rfl⟩) ?_ ?_
            rotate_left
            · simp only [Act.put, List.setIfInBounds_toArray, List.set_cons_zero, List.set_cons_succ, i64_w, i32_w]
              rfl
            refine pure_ (i := 22) (N := some 266) (v := undef) (a' := ?_) #[true, true, true, true, true, true, true, true, true, true, true, true, true, true, true, true, true, true, true, true, true, true, true, false, false] rfl rfl (by kernel_rfl) (fun _ _ _ h => h) (Or.inr ⟨by rfl, rfl⟩) ?_ ?_
            rotate_left
            · simp only [Act.put, List.setIfInBounds_toArray, List.set_cons_zero, List.set_cons_succ, i64_w, i32_w]
              rfl
            refine pure_ (i := 23) (N := some 267) (v := ?_) (a' := ?_) #[true, true, true, true, true, true, true, true, true, true, true, true, true, true, true, true, true, true, true, true, true, true, true, true, false] rfl rfl (by kernel_rfl) (fun _ _ _ h => h) (Or.inl ⟨by rfl, ?_⟩) ?_ ?_
            rotate_left
            · intro w'
              go_simp
              with_reducible rfl
            rotate_left
            · simp only [Act.put, List.setIfInBounds_toArray, List.set_cons_zero, List.set_cons_succ, i64_w, i32_w]
              rfl
            refine pure_ (i := 24) (N := some 268) (v := ?_) (a' := ?_) #[true, true, true, true, true, true, true, true, true, true, true, true, true, true, true, true, true, true, true, true, true, true, true, true, true] rfl rfl (by kernel_rfl) (fun _ _ _ h => h) (Or.inl ⟨by rfl, ?_⟩) ?_ ?_
            rotate_left
            · intro w'
              go_simp
              with_reducible rfl
            rotate_left
            · simp only [Act.put, List.setIfInBounds_toArray, List.set_cons_zero, List.set_cons_succ, i64_w, i32_w]
              rfl
            refine done_ (by kernel_rfl) ?_

            have hwi := HWI.out
            try clear hHeld
            clear i0 i1 j0 j1
            go_wp2_with fail
            go_roundg (xs.length - (i + 1))
            case measure => have := HGG.out; have := HLT.out; omega
            case rel => exact ⟨i + 1, rfl, rfl, by have := HLT.out; omega, HB10⟩
          · have hgt : decide (0 < (i : Int)) = true := decide_eq_true (by omega)
            have hgn : decide (0 < i) = true := decide_eq_true (by omega)
            have hgm : 0 < i := by omega
            obtain ⟨j, hj⟩ : ∃ j, i = j + 1 := ⟨i - 1, by omega⟩
            obtain ⟨g', c'', e, i2, -⟩ := HTR.out.at_ (show j < xs.length by omega)
            injection e with e1 e2 e3
            injection e1 with e1
            injection e1 with e1 e4 e5
            subst e1
            clear e2 e3 e4 e5
            obtain ⟨u0, hu0⟩ : ∃ u0, u0 = (xs[j]'(by omega)).f0 := ⟨_, rfl⟩
            rw [← hu0] at i2
            have hlq : decide (u ≤ u0) = false := decide_eq_false (by
              have : u0 < u := by
                subst hj
                rw [hu, hu0]
                exact HORD.out j hlt
              omega)
            have hwm : wrap64 ((i : Int) - 1) = (j : Int) := by have := HOL.out; have := HLEN.out; rw [w64 (by omega) (by omega)]; omega
            have hjl : (j : Int) < (xs.length : Int) := by omega
            clear hu hi0 hu0 hj
            have i0 := pw_cell_below HB.out i0
            have i1 := pw_cell_below HB.out i1
            have i2 := pw_cell_below HB.out i2
            go_upto_region 47 with fail
            obtain ⟨w9, rfl⟩ : ∃ w9, w9 = wr := ⟨_, rfl⟩
            have HB9 : Aside0 (Below w6.heap.size w6 w9.drew) := ⟨HB.out.drew⟩
            have i0 : w9.drew.cell? ⟨g, i * 2, none⟩ = some (.int .u32 u) := i0
            have i1 : w9.drew.cell? ⟨g, i * 2 + 1, none⟩ = some (.int .i64 v) := i1
            have i2 : w9.drew.cell? ⟨g, j * 2, none⟩ = some (.int .u32 u0) := i2
            refine start_ (n := 25) (S := fun w' => w'.cell? ⟨g, i * 2, none⟩ = some (.int .u32 u) ∧ w'.cell? ⟨g, i * 2 + 1, none⟩ = some (.int .i64 v) ∧ w'.cell? ⟨g, j * 2, none⟩ = some (.int .u32 u0)) (ds := []) #[false, false, false, false, false, false, false, false, false, false, false, false, false, false, false, false, false, false, false, false, false, false, false, false, false] (by kernel_rfl) rfl rfl ⟨i0, i1, i2⟩ (fun hHeld => ?_)
            refine pure_ (i := 0) (N := some 244) (v := ?_) (a' := ?_) #[true, false, false, false, false, false, false, false, false, false, false, false, false, false, false, false, false, false, false, false, false, false, false, false, false] rfl rfl (by kernel_rfl) (fun _ _ _ h => h) (Or.inl ⟨by rfl, ?_⟩) ?_ ?_
            rotate_left
            · intro w'
              go_simp
              with_reducible rfl
            rotate_left
            · simp only [Act.put, List.setIfInBounds_toArray, List.set_cons_zero, List.set_cons_succ, i64_w, i32_w]
              rfl
            refine pure_ (i := 1) (N := some 245) (v := ?_) (a' := ?_) #[true, true, false, false, false, false, false, false, false, false, false, false, false, false, false, false, false, false, false, false, false, false, false, false, false] rfl rfl (by kernel_rfl) (fun _ _ _ h => h) (Or.inl ⟨by rfl, ?_⟩) ?_ ?_
            rotate_left
            · intro w'
              go_simp
              with_reducible rfl
            rotate_left
            · simp only [Act.put, List.setIfInBounds_toArray, List.set_cons_zero, List.set_cons_succ, i64_w, i32_w]
              rfl
            refine pure_ (i := 2) (N := some 246) (v := ?_) (a' := ?_) #[true, true, true, false, false, false, false, false, false, false, false, false, false, false, false, false, false, false, false, false, false, false, false, false, false] rfl rfl (by kernel_rfl) (fun _ _ _ h => h) (Or.inl ⟨by rfl, ?_⟩) ?_ ?_
            rotate_left
            · intro w'
              go_simp
              with_reducible rfl
            rotate_left
            · simp only [Act.put, List.setIfInBounds_toArray, List.set_cons_zero, List.set_cons_succ, i64_w, i32_w]
              rfl
            refine pure_ (i := 3) (N := some 247) (v := ?_) (a' := ?_) #[true, true, true, true, false, false, false, false, false, false, false, false, false, false, false, false, false, false, false, false, false, false, false, false, false] rfl rfl (by kernel_rfl) (fun _ _ _ h => h) (Or.inl ⟨by rfl, ?_⟩) ?_ ?_
            rotate_left
            · intro w'
              go_simp
              with_reducible rfl
            rotate_left
            · simp only [Act.put, List.setIfInBounds_toArray, List.set_cons_zero, List.set_cons_succ, i64_w, i32_w]
              rfl
            refine take_ (i := 4) (N := some 248) (v := ?_) (a' := ?_) #[true, true, true, true, true, false, false, false, false, false, false, false, false, false, false, false, false, false, false, false, false, false, false, false, false] rfl rfl (by kernel_rfl) (fun _ _ _ h => h) (Or.inl ⟨by rfl, ?_⟩) hHeld ?_ ?_
            rotate_left
            · rintro w' ⟨s0, s1, s2⟩
              go_simp
              with_reducible rfl
            rotate_left
            · simp only [Act.put, List.setIfInBounds_toArray, List.set_cons_zero, List.set_cons_succ, i64_w, i32_w]
              rfl
            refine one_ (i := 5) (N := some 249) #[true, true, true, true, true, true, false, false, false, false, false, false, false, false, false, false, false, false, false, false, false, false, false, false, false] rfl rfl (by kernel_rfl) (by decide) (fun K hK => ?_)
            refine goes_ Try.func21 (by kernel_rfl) rfl #[.slice sO out.length cO, .agg #[.int .u32 u, .int .i64 v]] (by rfl) rfl rfl (by simp only [List.map_toArray, List.map_cons, List.map_nil]; rfl) ?_
            with_reducible refine (HHU.out w9.drew HB9.out).mono ?_
            rintro e_ w10 ⟨rfl, hb10⟩
            refine ⟨_, rfl, ?_⟩
            have hK10 := hb10
            have j0 := pw_cell_below hb10 i0
            have j1 := pw_cell_below hb10 i1
            have j2 := pw_cell_below hb10 i2
            have HB10 := Aside0.mk (below_step HB9.out hb10)
            refine hK.out _ _ ⟨j0, j1, j2⟩ (fun hHeld => ?_)
            clear hK K
            refine norm_ (a' := ?_) ?_ ?_
            rotate_left
            · show Act.put _ (some 249) _ = _
              simp only [Act.put, List.setIfInBounds_toArray, List.set_cons_zero, List.set_cons_succ, i64_w, i32_w]
              rfl
            refine pure_ (i := 6) (N := some 250) (v := ?_) (a' := ?_) #[true, true, true, true, true, true, true, false, false, false, false, false, false, false, false, false, false, false, false, false, false, false, false, false, false] rfl rfl (by kernel_rfl) (fun _ _ _ h => h) (Or.inl ⟨by rfl, ?_⟩) ?_ ?_
            rotate_left
            · intro w'
              go_simp
              with_reducible rfl
            rotate_left
            · simp only [Act.put, List.setIfInBounds_toArray, List.set_cons_zero, List.set_cons_succ, i64_w, i32_w]
              rfl
            refine pure_ (i := 7) (N := some 251) (v := ?_) (a' := ?_) #[true, true, true, true, true, true, true, true, false, false, false, false, false, false, false, false, false, false, false, false, false, false, false, false, false] rfl rfl (by kernel_rfl) (fun _ _ _ h => h) (Or.inl ⟨by rfl, ?_⟩) ?_ ?_
            rotate_left
            · intro w'
              go_simp
              with_reducible rfl
            rotate_left
            · simp only [Act.put, List.setIfInBounds_toArray, List.set_cons_zero, List.set_cons_succ, i64_w, i32_w]
              rfl
            refine pure_ (i := 8) (N := some 252) (v := ?_) (a' := ?_) #[true, true, true, true, true, true, true, true, true, false, false, false, false, false, false, false, false, false, false, false, false, false, false, false, false] rfl rfl (by kernel_rfl) (fun _ _ _ h => h) (Or.inl ⟨by rfl, ?_⟩) ?_ ?_
            rotate_left
            · intro w'
              go_simp
              with_reducible rfl
            rotate_left
            · simp only [Act.put, List.setIfInBounds_toArray, List.set_cons_zero, List.set_cons_succ, i64_w, i32_w]
              rfl
            refine pure_ (i := 9) (N := some 253) (v := ?_) (a' := ?_) #[true, true, true, true, true, true, true, true, true, true, false, false, false, false, false, false, false, false, false, false, false, false, false, false, false] rfl rfl (by kernel_rfl) (fun _ _ _ h => h) (Or.inl ⟨by rfl, ?_⟩) ?_ ?_
            rotate_left
            · intro w'
              go_simp
              with_reducible rfl
            rotate_left
            · simp only [Act.put, List.setIfInBounds_toArray, List.set_cons_zero, List.set_cons_succ, i64_w, i32_w]
              rfl
            refine pure_ (i := 10) (N := some 254) (v := ?_) (a' := ?_) #[true, true, true, true, true, true, true, true, true, true, true, false, false, false, false, false, false, false, false, false, false, false, false, false, false] rfl rfl (by kernel_rfl) (fun _ _ _ h => h) (Or.inl ⟨by rfl, ?_⟩) ?_ ?_
            rotate_left
            · intro w'
              go_simp
              with_reducible rfl
            rotate_left
            · simp only [Act.put, List.setIfInBounds_toArray, List.set_cons_zero, List.set_cons_succ, i64_w, i32_w]
              rfl
            refine pure_ (i := 11) (N := some 255) (v := ?_) (a' := ?_) #[true, true, true, true, true, true, true, true, true, true, true, true, false, false, false, false, false, false, false, false, false, false, false, false, false] rfl rfl (by kernel_rfl) (fun _ _ _ h => h) (Or.inl ⟨by rfl, ?_⟩) ?_ ?_
            rotate_left
            · intro w'
              go_simp
              with_reducible rfl
            rotate_left
            · simp only [Act.put, List.setIfInBounds_toArray, List.set_cons_zero, List.set_cons_succ, i64_w, i32_w]
              rfl
            refine pure_ (i := 12) (N := some 256) (v := ?_) (a' := ?_) #[true, true, true, true, true, true, true, true, true, true, true, true, true, false, false, false, false, false, false, false, false, false, false, false, false] rfl rfl (by kernel_rfl) (fun _ _ _ h => h) (Or.inl ⟨by rfl, ?_⟩) ?_ ?_
            rotate_left
            · intro w'
              go_simp
              with_reducible rfl
            rotate_left
            · simp only [Act.put, List.setIfInBounds_toArray, List.set_cons_zero, List.set_cons_succ, i64_w, i32_w]
              rfl
            refine pure_ (i := 13) (N := some 257) (v := ?_) (a' := ?_) #[true, true, true, true, true, true, true, true, true, true, true, true, true, true, false, false, false, false, false, false, false, false, false, false, false] rfl rfl (by kernel_rfl) (fun _ _ _ h => h) (Or.inl ⟨by rfl, ?_⟩) ?_ ?_
            rotate_left
            · intro w'
              go_simp
              with_reducible rfl
            rotate_left
            · simp only [Act.put, List.setIfInBounds_toArray, List.set_cons_zero, List.set_cons_succ, i64_w, i32_w]
              rfl
            refine pure_ (i := 14) (N := some 258) (v := ?_) (a' := ?_) #[true, true, true, true, true, true, true, true, true, true, true, true, true, true, true, false, false, false, false, false, false, false, false, false, false] rfl rfl (by kernel_rfl) (fun _ _ _ h => h) (Or.inl ⟨by rfl, ?_⟩) ?_ ?_
            rotate_left
            · intro w'
              go_simp
              with_reducible rfl
            rotate_left
            · simp only [Act.put, List.setIfInBounds_toArray, List.set_cons_zero, List.set_cons_succ, i64_w, i32_w]
              rfl
            refine pure_ (i := 16) (N := some 260) (v := ?_) (a' := ?_) #[true, true, true, true, true, true, true, true, true, true, true, true, true, true, true, false, true, false, false, false, false, false, false, false, false] rfl rfl (by kernel_rfl) (fun _ _ _ h => h) (Or.inl ⟨by rfl, ?_⟩) ?_ ?_
            rotate_left
            · intro w'
              go_simp
              with_reducible rfl
            rotate_left
            · simp only [Act.put, List.setIfInBounds_toArray, List.set_cons_zero, List.set_cons_succ, i64_w, i32_w]
              rfl
            refine pure_ (i := 17) (N := some 261) (v := ?_) (a' := ?_) #[true, true, true, true, true, true, true, true, true, true, true, true, true, true, true, false, true, true, false, false, false, false, false, false, false] rfl rfl (by kernel_rfl) (fun _ _ _ h => h) (Or.inl ⟨by rfl, ?_⟩) ?_ ?_
            rotate_left
            · intro w'
              go_simp
              with_reducible rfl
            rotate_left
            · simp only [Act.put, List.setIfInBounds_toArray, List.set_cons_zero, List.set_cons_succ, i64_w, i32_w]
              rfl
            refine pure_ (i := 18) (N := some 262) (v := ?_) (a' := ?_) #[true, true, true, true, true, true, true, true, true, true, true, true, true, true, true, false, true, true, true, false, false, false, false, false, false] rfl rfl (by kernel_rfl) (fun _ _ _ h => h) (Or.inl ⟨by rfl, ?_⟩) ?_ ?_
            rotate_left
            · intro w'
              go_simp
              with_reducible rfl
            rotate_left
            · simp only [Act.put, List.setIfInBounds_toArray, List.set_cons_zero, List.set_cons_succ, i64_w, i32_w]
              rfl
            refine pure_ (i := 19) (N := some 263) (v := ?_) (a' := ?_) #[true, true, true, true, true, true, true, true, true, true, true, true, true, true, true, false, true, true, true, true, false, false, false, false, false] rfl rfl (by kernel_rfl) (fun _ _ _ h => h) (Or.inl ⟨by rfl, ?_⟩) ?_ ?_
            rotate_left
            · intro w'
              go_simp
              with_reducible rfl
            rotate_left
            · simp only [Act.put, List.setIfInBounds_toArray, List.set_cons_zero, List.set_cons_succ, i64_w, i32_w]
              rfl
            refine pure_ (i := 20) (N := some 264) (v := ?_) (a' := ?_) #[true, true, true, true, true, true, true, true, true, true, true, true, true, true, true, false, true, true, true, true, true, false, false, false, false] rfl rfl (by kernel_rfl) (fun _ _ _ h => h) (Or.inl ⟨by rfl, ?_⟩) ?_ ?_
            rotate_left
            · intro w'
              go_simp
              with_reducible rfl
            rotate_left
            · simp only [Act.put, List.setIfInBounds_toArray, List.set_cons_zero, List.set_cons_succ, i64_w, i32_w]
              rfl
            refine take_ (i := 15) (N := some 259) (v := ?_) (a' := ?_) #[true, true, true, true, true, true, true, true, true, true, true, true, true, true, true, true, true, true, true, true, true, false, false, false, false] rfl rfl (by kernel_rfl) (fun _ _ _ h => h) (Or.inl ⟨by rfl, ?_⟩) hHeld ?_ ?_
            rotate_left
            · rintro w' ⟨s0, s1, s2⟩
              go_simp
              with_reducible rfl
            rotate_left
            · simp only [Act.put, List.setIfInBounds_toArray, List.set_cons_zero, List.set_cons_succ, i64_w, i32_w]
              rfl
            refine take_ (i := 21) (N := some 265) (v := ?_) (a' := ?_) #[true, true, true, true, true, true, true, true, true, true, true, true, true, true, true, true, true, true, true, true, true, true, false, false, false] rfl rfl (by kernel_rfl) (fun _ _ _ h => h) (Or.inl ⟨by rfl, ?_⟩) hHeld ?_ ?_
            rotate_left
            · rintro w' ⟨s0, s1, s2⟩
              go_simp
              with_reducible rfl
            rotate_left
            · simp only [Act.put, List.setIfInBounds_toArray, List.set_cons_zero, List.set_cons_succ, i64_w, i32_w]
              rfl
            refine pure_ (i := 22) (N := some 266) (v := ?_) (a' := ?_) #[true, true, true, true, true, true, true, true, true, true, true, true, true, true, true, true, true, true, true, true, true, true, true, false, false] rfl rfl (by kernel_rfl) (fun _ _ _ h => h) (Or.inl ⟨by rfl, ?_⟩) ?_ ?_
            rotate_left
            · intro w'
              go_simp
              with_reducible rfl
            rotate_left
            · simp only [Act.put, List.setIfInBounds_toArray, List.set_cons_zero, List.set_cons_succ, i64_w, i32_w]
              rfl
            refine pure_ (i := 23) (N := some 267) (v := ?_) (a' := ?_) #[true, true, true, true, true, true, true, true, true, true, true, true, true, true, true, true, true, true, true, true, true, true, true, true, false] rfl rfl (by kernel_rfl) (fun _ _ _ h => h) (Or.inl ⟨by rfl, ?_⟩) ?_ ?_
            rotate_left
            · intro w'
              go_simp
              with_reducible rfl
            rotate_left
            · simp only [Act.put, List.setIfInBounds_toArray, List.set_cons_zero, List.set_cons_succ, i64_w, i32_w]
              rfl
            refine pure_ (i := 24) (N := some 268) (v := ?_) (a' := ?_) #[true, true, true, true, true, true, true, true, true, true, true, true, true, true, true, true, true, true, true, true, true, true, true, true, true] rfl rfl (by kernel_rfl) (fun _ _ _ h => h) (Or.inl ⟨by rfl, ?_⟩) ?_ ?_
            rotate_left
            · intro w'
              go_simp
              with_reducible rfl
            rotate_left
            · simp only [Act.put, List.setIfInBounds_toArray, List.set_cons_zero, List.set_cons_succ, i64_w, i32_w]
              rfl
            refine done_ (by kernel_rfl) ?_

            have hwi := HWI.out
            try clear hHeld
            clear i0 i1 i2 j0 j1 j2
            go_wp2_with fail
            go_roundg (xs.length - (i + 1))
            case measure => have := HGG.out; have := HLT.out; omega
            case rel => exact ⟨i + 1, rfl, rfl, by have := HLT.out; omega, HB10⟩
        · have hii : ¬ (i : Int) < (xs.length : Int) := by omega
          go_wp2_with fail
          go_ret
          exact ⟨rfl, below_step (below_step HB0.out HT6.out.bel) HB.out⟩
theorem low_law {w : World} {na nl s lo hi : Int} {A : Option Addr} {kept : List S27} {c : Nat} {A1 : Option Addr} {sc : List S49} {c1 : Nat} (hS : SpIn w na nl s lo hi A kept c) (h1 : OpIn w A1 sc c1) :
    Calls Try.prog 6 #[.agg #[.int .u32 na, .int .i64 nl, .int .i64 s, .int .u32 lo, .int .u32 hi, .slice A kept.length c], .slice A1 sc.length c1] w fun e w' => e = .returned (.bool true) ∧ Below w.heap.size w w' := by
  by_cases hE : newE na nl s lo hi kept = 0
  · exact low_good w na nl s lo hi A kept c A1 sc c1 hS h1 hE
  · exact low_bad w na nl s lo hi A kept c A1 sc c1 hS h1 hE
end Go.Proofs.Ytebnlhjakiipjaa.Pl
