/- PoolRooms walked. Conditions: what comes in is of its kind. -/
import Derived.Test.YtebnlhjakiipjaaPoO
import Derived.Test.YtebnlhjakiipjaaPoU
set_option linter.unusedVariables false
set_option linter.unusedSimpArgs false
namespace Go.Proofs.Ytebnlhjakiipjaa.Pl
open Go.RowKit Go.Maps Go.Proofs.YtebnlhjakiipjaaW.PrintWords Go.Proofs.YtebnlhjakiipjaaW.PrintMore Go.Proofs.Ytebnlhjakiipjaa.PPlf
theorem Row.at_ {w : World} {base : Nat} {v : Value} {xs : List S27} (h : Row w base v xs) {i : Nat} (hi : i < xs.length) : ∃ g c, v = .slice (some ⟨g, 0, none⟩) xs.length c ∧ w.cell? ⟨g, i * 2, none⟩ = some (.int .u32 xs[i].f0) ∧ w.cell? ⟨g, i * 2 + 1, none⟩ = some (.int .i64 xs[i].f1) := by
  obtain ⟨g, c, rfl, _, _⟩ := World.ownsRow.form h (by omega)
  obtain ⟨a, b⟩ := pfC_get xs i xs[i] (List.getElem?_eq_getElem hi)
  have c1 := World.ownsRow.cells h (g := g) rfl _ _ a
  have c2 := World.ownsRow.cells h (g := g) rfl _ _ b
  rw [add_plain] at c1 c2
  exact ⟨g, c, rfl, c1, c2⟩
section
variable {w0 w w' : World} {p : Nat} {M : Pm} {L : List Int} {F : List Nat}
theorem Sg.claimC (hM : MOk M) (h : Sg w0 p M L F w) (a l : Int) (ha0 : 0 ≤ a) (ha1 : a < 4294967296) :
    Calls Try.prog 15 #[.pointer (some ⟨p, 0, none⟩), .agg #[.int .u32 a, .int .i64 l]] w fun e w' => e = .returned (.int .i64 (claimE M L a l)) ∧ ∃ L' F', Sg w0 p M L' F' w' ∧ (∀ x, x ∈ L' ↔ x ∈ L ∨ (claimE M L a l = 0 ∧ x = a / sizeF M.s)) ∧ Turn w w' F := by
  refine (claimP hM h.l1 h.p1 a l ha0 ha1).mono ?_
  rintro e w' ⟨rfl, hl⟩
  exact ⟨rfl, h.left hl⟩
theorem Sg.freeC (hM : MOk M) (h : Sg w0 p M L F w) (a l : Int) (ha0 : 0 ≤ a) (ha1 : a < 4294967296) :
    Calls Try.prog 18 #[.pointer (some ⟨p, 0, none⟩), .agg #[.int .u32 a, .int .i64 l]] w fun e w' => e = .returned (.int .i64 (freeE M L a l)) ∧ ∃ L' F', Sg w0 p M L' F' w' ∧ (∀ x, x ∈ L' ↔ x ∈ L ∧ ¬ (freeE M L a l = 0 ∧ x = a / sizeF M.s)) ∧ Turn w w' F := by
  refine (freeP hM h.l1 h.p1 a l ha0 ha1).mono ?_
  rintro e w' ⟨rfl, hl⟩
  exact ⟨rfl, h.left hl⟩
theorem Sg.takeC (hM : MOk M) (h : Sg w0 p M L F w) :
    Calls Try.prog 17 #[.pointer (some ⟨p, 0, none⟩)] w fun e w' => e = .returned (takeV M (takeF M L)) ∧ ∃ L' F', Sg w0 p M L' F' w' ∧ (∀ x, x ∈ L' ↔ x ∈ L ∨ takeF M L = some x) ∧ Turn w w' F := by
  refine (takeP hM h.l1 h.p1).mono ?_
  rintro e w' ⟨rfl, hl⟩
  exact ⟨rfl, h.left hl⟩
theorem Sg.roomC (hM : MOk M) (h : Sg w0 p M L F w) : Calls Try.prog 16 #[.pointer (some ⟨p, 0, none⟩)] w fun e w' => e = .returned (.int .i64 ((freeN M L : Nat) : Int)) ∧ Below w.heap.size w w' := by
  rw [← roomL_eq hM h.p1.rise]
  exact roomP hM h.l1 h.p1
theorem MOk.rng (hM : MOk M) {n : Int} (h0 : M.mn ≤ n) (h1 : n ≤ M.mx) : 0 ≤ n * sizeF M.s ∧ n * sizeF M.s < 4294967296 := by
  have hs := sizeF_rng hM.ok.s0 hM.ok.s1
  have h3 := Int.mul_le_mul_of_nonneg_right h1 (show 0 ≤ sizeF M.s by omega)
  have := hM.row.mx1
  have := hM.row.mn0
  exact ⟨Int.mul_nonneg (by omega) (by omega), by omega⟩
theorem free_zero (hM : MOk M) {n : Int} (hn : n ∈ L) : freeE M L (n * sizeF M.s) M.s = 0 := freeE_zero.2 ⟨⟨rfl, hM.ok.s0, hM.ok.s1, mul_mod _ _⟩, by rw [mul_div hM.ok.s0 hM.ok.s1]; exact hn⟩
theorem freeN_le (hM : MOk M) : freeN M L ≤ 4294967296 := by
  have h1 := List.length_filter_le (isFree M L) (upto M.mn M.mx)
  have h2 := upto_len (a := M.mn) (b := M.mx) (by have := hM.mm; omega)
  have h3 := fits_sub hM.ok.s0 hM.ok.s1 (show 0 ≤ M.mx by have := hM.row.mn0; have := hM.mm; omega) hM.row.mx1
  have := hM.row.mn0
  unfold freeN
  omega
end
/-- what was got: none twice, all of the row, all taken -/
structure GOk (M : Pm) (L G : List Int) : Prop where
  nd : G.Nodup
  all : ∀ g, g ∈ G → M.mn ≤ g ∧ g ≤ M.mx ∧ g ∉ M.kept ∧ g ∈ L
theorem GOk.snoc {M : Pm} {L L' G : List Int} {n : Int} (h : GOk M L G) (ht : takeF M L = some n) (hm : ∀ x, x ∈ L' ↔ x ∈ L ∨ takeF M L = some x) : GOk M L' (G ++ [n]) := by
  have hs := takeF_some ht
  refine ⟨?_, fun g hg => ?_⟩
  · rw [List.nodup_append]
    exact ⟨h.nd, by simp, fun a ha b hb e => by rw [List.mem_singleton] at hb; subst hb; subst e; exact hs.2.2.2 (h.all a ha).2.2.2⟩
  · rcases List.mem_append.1 hg with hg | hg
    · have := h.all g hg; exact ⟨this.1, this.2.1, this.2.2.1, (hm g).2 (.inl this.2.2.2)⟩
    · rw [List.mem_singleton] at hg; subst hg; exact ⟨hs.1, hs.2.1, hs.2.2.1, (hm g).2 (.inr ht)⟩
set_option maxHeartbeats 16000000 in
set_option maxRecDepth 100000 in
theorem rooms_bad (w : World) (na nl s lo hi : Int) (A : Option Addr) (kept : List S27) (c : Nat) (A1 : Option Addr) (cl : List S27) (c1 : Nat) (hS : SpIn w na nl s lo hi A kept c) (h1 : PxIn w A1 cl c1) (hE : newE na nl s lo hi kept ≠ 0) :
    Calls Try.prog 4 #[.agg #[.int .u32 na, .int .i64 nl, .int .i64 s, .int .u32 lo, .int .u32 hi, .slice A kept.length c], .slice A1 cl.length c1] w fun e w' => e = .returned (.bool true) ∧ Below w.heap.size w w' := by
  have hb0 := below_alloc (Below.refl w.heap.size w) (.cells #[.int .u32 na, .int .i64 nl, .int .i64 s, .int .u32 lo, .int .u32 hi, .slice A kept.length c] 30)
  have kb := heap_alloc_new w (.cells #[.int .u32 na, .int .i64 nl, .int .i64 s, .int .u32 lo, .int .u32 hi, .slice A kept.length c] 30)
  have HK := Aside0.mk kb
  have HS := Aside0.mk (hS.below hb0)
  have HB0 := Aside0.mk hb0
  have HG := Aside0.mk begun9
  have HE := Aside0.mk hE
  have hEb : (newE na nl s lo hi kept != 0) = true := by simpa using hE
  have HBAD := Aside0.mk (fun (W : World) (h : SpIn W na nl s lo hi A kept c) => h.bad hE)
  have HSND := Aside0.mk (fun (W : World) (h : SpIn W na nl s lo hi A kept c) => h.snd)
  rw [decide_eq_false hE] at HSND
  generalize newE na nl s lo hi kept = E at *
  clear hE kb hb0 hS h1
  go_enter Try.func4, Try.ntmps4
  go_wp2_with fail
  refine (HG.out _).mono ?_
  rintro e_ w1 ⟨rfl, hb1⟩
  have HK1 := Aside0.mk (blk_below HK.out hb1)
  have HS1 := Aside0.mk (HS.out.below hb1)
  have HB1 := Aside0.mk (below_step HB0.out hb1)
  clear hb1 HK HS HB0
  have kc0 := blk_cell HK1.out 0
  have kc1 := blk_cell HK1.out 1
  have kc2 := blk_cell HK1.out 2
  have kc3 := blk_cell HK1.out 3
  have kc4 := blk_cell HK1.out 4
  have kc5 := blk_cell HK1.out 5
  go_wp2_with fail
  refine (HBAD.out _ HS1.out).mono ?_
  rintro e_ w2 ⟨rfl, hb1⟩
  have HK2 := Aside0.mk (blk_below HK1.out hb1)
  have HS2 := Aside0.mk (HS1.out.below hb1)
  have HB2 := Aside0.mk (below_step HB1.out hb1)
  clear hb1 HK1 HS1 HB1
  have kc0 := blk_cell HK2.out 0
  have kc1 := blk_cell HK2.out 1
  have kc2 := blk_cell HK2.out 2
  have kc3 := blk_cell HK2.out 3
  have kc4 := blk_cell HK2.out 4
  have kc5 := blk_cell HK2.out 5
  go_wp2_with fail
  refine (HSND.out _ HS2.out).mono ?_
  rintro e_ w4 ⟨rfl, hb1⟩
  have HB4 := Aside0.mk (below_step HB2.out hb1)
  clear hb1
  go_wp2_with fail
  go_ret
  exact ⟨rfl, HB4.out⟩
set_option maxHeartbeats 32000000 in
set_option maxRecDepth 100000 in
theorem rooms_good (w : World) (na nl s lo hi : Int) (A : Option Addr) (kept : List S27) (c : Nat) (A1 : Option Addr) (cl : List S27) (c1 : Nat) (hS : SpIn w na nl s lo hi A kept c) (h1 : PxIn w A1 cl c1) (hE : newE na nl s lo hi kept = 0) :
    Calls Try.prog 4 #[.agg #[.int .u32 na, .int .i64 nl, .int .i64 s, .int .u32 lo, .int .u32 hi, .slice A kept.length c], .slice A1 cl.length c1] w fun e w' => e = .returned (.bool true) ∧ Below w.heap.size w w' := by
  have hb0 := below_alloc (Below.refl w.heap.size w) (.cells #[.int .u32 na, .int .i64 nl, .int .i64 s, .int .u32 lo, .int .u32 hi, .slice A kept.length c] 30)
  have kb := heap_alloc_new w (.cells #[.int .u32 na, .int .i64 nl, .int .i64 s, .int .u32 lo, .int .u32 hi, .slice A kept.length c] 30)
  have HK := Aside0.mk kb
  have HS := Aside0.mk (hS.below hb0)
  have HB0 := Aside0.mk hb0
  have HG := Aside0.mk begun9
  have HM := Aside0.mk (hS.good hE).1
  have HGOOD := Aside0.mk (fun (W : World) (h : SpIn W na nl s lo hi A kept c) => (h.good hE).2)
  have HSND := Aside0.mk (fun (W : World) (h : SpIn W na nl s lo hi A kept c) => h.snd)
  rw [decide_eq_true hE] at HSND
  have H1 := Aside0.mk h1
  generalize newM na nl s lo hi kept = M at *
  clear hE kb hb0 hS h1
  go_enter Try.func4, Try.ntmps4
  go_wp2_with fail
  refine (HG.out _).mono ?_
  rintro e_ w1 ⟨rfl, hb1⟩
  have HK1 := Aside0.mk (blk_below HK.out hb1)
  have HS1 := Aside0.mk (HS.out.below hb1)
  have HB1 := Aside0.mk (below_step HB0.out hb1)
  clear hb1 HK HS HB0
  have kc0 := blk_cell HK1.out 0
  have kc1 := blk_cell HK1.out 1
  have kc2 := blk_cell HK1.out 2
  have kc3 := blk_cell HK1.out 3
  have kc4 := blk_cell HK1.out 4
  have kc5 := blk_cell HK1.out 5
  go_wp2_with fail
  refine (HGOOD.out _ HS1.out).mono ?_
  rintro e_ w2 ⟨p, F1, rfl, hP1, hF1, hb1⟩
  have HT2 : Aside0 (Sg w p M [] F1 w2) := ⟨⟨hP1, (fun x hx => by cases hx), fun k hk => by have := hF1 k hk; have := HB1.out.size; omega, below_step HB1.out hb1⟩⟩
  have HK2 := Aside0.mk (blk_below HK1.out hb1)
  have HS2 := Aside0.mk (HS1.out.below hb1)
  clear hb1 HK1 HS1 HB1 hP1 hF1
  have kc0 := blk_cell HK2.out 0
  have kc1 := blk_cell HK2.out 1
  have kc2 := blk_cell HK2.out 2
  have kc3 := blk_cell HK2.out 3
  have kc4 := blk_cell HK2.out 4
  have kc5 := blk_cell HK2.out 5
  go_wp2_with fail
  refine (HSND.out _ HS2.out).mono ?_
  rintro e_ w4 ⟨rfl, hb1⟩
  have HT4 := Aside0.mk (HT2.out.below hb1)
  clear hb1 HT2 HK2 HS2 HSND HGOOD HG
  go_wp2_with fail
  go_loopg [8] cl.length (fun gg vi wr => ∃ (i : Nat) (L : List Int) (F : List Nat), vi = .int .i64 (i : Int) ∧ gg = cl.length - i ∧ i ≤ cl.length ∧ Aside0 (Sg w p M L F wr))
  case atStart => exact ⟨0, [], F1, rfl, rfl, Nat.zero_le _, HT4⟩
  case round =>
    clear HT4
    obtain ⟨i, L, F, rfl, hg, hi2, HT⟩ := hrel
    have HGG := Aside0.mk hg
    clear hg
    by_cases hlt : i < cl.length
    · have hii : (i : Int) < (cl.length : Int) := by omega
      obtain ⟨ad, a, b, rfl, k0, k1, hel, ha0, ha1⟩ := H1.out.at_ HT.out.bel hlt
      have HC := Aside0.mk (HT.out.claimC HM.out a b ha0 ha1)
      have hwi : IntKind.i64.wrap ((i : Int) + 1) = ((i + 1 : Nat) : Int) := by have := H1.out.len; rw [wrap64_id (by omega) (by omega)]; omega
      have HLT := Aside0.mk hlt
      generalize claimE M L a b = ce at *
      clear hel ha0 ha1 hlt
      go_wp2_with fail
      refine HC.out.mono ?_
      rintro e_ w5 ⟨rfl, L', F', hT, hm, ht⟩
      have HT5 := Aside0.mk hT
      clear hT hm ht HT
      go_wp2_with fail
      go_roundg (cl.length - (i + 1))
      case measure => have := HGG.out; have := HLT.out; omega
      case rel => exact ⟨i + 1, L', F', rfl, rfl, by have := HLT.out; omega, HT5⟩
    · have hii : ¬ (i : Int) < (cl.length : Int) := by omega
      clear hi2 hlt
      have HR := Aside0.mk (HT.out.roomC HM.out)
      obtain ⟨r0, hr0⟩ : ∃ r, r = freeN M L := ⟨_, rfl⟩
      rw [← hr0] at HR
      have HR0 := Aside0.mk hr0
      have HRL : Aside0 (r0 ≤ 4294967296) := ⟨by rw [hr0]; exact freeN_le HM.out⟩
      clear hr0
      go_wp2_with fail
      refine HR.out.mono ?_
      rintro e_ w5 ⟨rfl, hb5⟩
      have HT5 := Aside0.mk (HT.out.below hb5)
      have hneg : decide ((r0 : Int) < 0) = false := decide_eq_false (by omega)
      clear hb5 HT HR
      go_wp2_with fail
      clear hneg
      go_loopg [10, 11] (1500 : Nat) (fun gg v vi wr => ∃ (i : Nat) (L : List Int) (F : List Nat) (G : List Int), vi = .int .i64 (i : Int) ∧ gg = 1500 - i ∧ i ≤ 1500 ∧ Aside0 (Sg w p M L F wr) ∧ Aside0 (freeN M L + i = r0) ∧ Aside0 (G.length = i) ∧ Aside0 (GOk M L G) ∧ Aside0 (Row wr w.heap.size v (pxs M.s G)))
      case atStart => exact ⟨0, L, F, [], rfl, rfl, by omega, HT5, ⟨by rw [HR0.out]; omega⟩, ⟨rfl⟩, ⟨⟨by simp, fun g hg => by cases hg⟩⟩, ⟨Row.nil _ _⟩⟩
      case round =>
        clear HT5 HR0
        obtain ⟨i, L, F, G, rfl, hg, hi2, HT, HFR, HGL, HGO, HRW⟩ := hrel
        have HGG := Aside0.mk hg
        have HI2 := Aside0.mk hi2
        clear hg
        by_cases hlt : i < r0 ∧ i < 1500
        · obtain ⟨h1, h2⟩ := hlt
          have hi1 : decide ((i : Int) < (r0 : Int)) = true := decide_eq_true (by omega)
          have hi1' : (i : Int) < (r0 : Int) := by omega
          have hi3 : (i : Int) < 1500 := by omega
          have HI := Aside0.mk (And.intro h1 h2)
          obtain ⟨n, htf⟩ : ∃ n, takeF M L = some n := by
            cases hc : takeF M L with
            | some n => exact ⟨n, rfl⟩
            | none => have := takeF_zero.1 hc; have := HFR.out; omega
          have HTF := Aside0.mk htf
          have HC := Aside0.mk (HT.out.takeC HM.out)
          rw [htf] at HC
          have hts := takeF_some htf
          have hrn := HM.out.rng hts.1 hts.2.1
          have HNR := Aside0.mk (And.intro hts hrn)
          have hwi : IntKind.i64.wrap ((i : Int) + 1) = ((i + 1 : Nat) : Int) := by rw [wrap64_id (by omega) (by omega)]; omega
          have hwa : IntKind.i64.wrap ((r0 : Int) - (i : Int)) = (r0 : Int) - (i : Int) := by have := HRL.out; simp [IntKind.wrap, IntKind.bits, IntKind.signed]; omega
          have hwb : IntKind.i64.wrap ((r0 : Int) - (i : Int) - 1) = (r0 : Int) - (i : Int) - 1 := by have := HRL.out; simp [IntKind.wrap, IntKind.bits, IntKind.signed]; omega
          have HW := Aside0.mk (And.intro hwi (And.intro hwa hwb))
          clear htf h1 h2 hts hrn hi2 hwi hwa hwb
          go_wp2_with fail
          refine HC.out.mono ?_
          rintro e_ w6 ⟨rfl, L', F', hT, hm, ht⟩
          have HM6 := Aside0.mk hm
          have HRW6 := Aside0.mk (HT.out.row HRW.out ht)
          have HT6 := Aside0.mk hT
          have hfs := free_step HNR.out.1.1 HNR.out.1.2.1 HNR.out.1.2.2.1 HNR.out.1.2.2.2 (fun x => by rw [hm x]; exact or_congr_right ⟨fun h => by injection h with h; exact h.symm, fun h => by rw [h]⟩)
          have HFS : Aside0 (freeN M L' + (i + 1) = r0) := ⟨by have := HFR.out; omega⟩
          have HGO6 := Aside0.mk (HGO.out.snoc HTF.out (L' := L') (fun x => by rw [hm x, HTF.out]))
          clear hT hm ht HC HT HRW hfs HFR HGO HM6
          unfold takeV
          go_wp2_with fail
          have kbx := heap_alloc_new w6 (.cells #[.int .u32 (n * sizeF M.s), .int .i64 M.s] 27)
          have hbx := below_alloc (Below.refl w6.heap.size w6) (.cells #[.int .u32 (n * sizeF M.s), .int .i64 M.s] 27)
          have HT7 := Aside0.mk (HT6.out.below hbx)
          have HRW7 := Aside0.mk (HRW6.out.below hbx)
          have KBX := Aside0.mk kbx
          have HR := Aside0.mk (HT7.out.roomC HM.out)
          clear kbx hbx HT6 HRW6
          refine HR.out.mono ?_
          rintro e_ w8 ⟨rfl, hb8⟩
          have HT8 := Aside0.mk (HT7.out.below hb8)
          have HRW8 := Aside0.mk (HRW7.out.below hb8)
          have kb8 := blk_below KBX.out hb8
          have kx0 := blk_cell kb8 0
          have kx1 := blk_cell kb8 1
          obtain ⟨v1, w9, r1, o1, b1, g1⟩ := HRW8.out.app1 HT8.out.bel.size ⟨n * sizeF M.s, M.s⟩ (by unfold pxs; rw [List.length_map, HGL.out]; have := HI.out; omega)
          have R1 := Aside0.mk r1
          have O1 : Aside0 (Row w9 w.heap.size v1 (pxs M.s (G ++ [n]))) := ⟨by unfold pxs at o1 ⊢; rw [List.map_append]; exact o1⟩
          have HT9 := Aside0.mk (HT8.out.grow HRW8.out (Nat.le_refl _) g1)
          obtain ⟨hwi, hwa, hwb⟩ := HW.out
          have hfe : ((freeN M L' : Nat) : Int) = (r0 : Int) - (i : Int) - 1 := by have := HFS.out; omega
          rw [hfe]
          have hbne : (((r0 : Int) - (i : Int) - 1) != ((r0 : Int) - (i : Int) - 1)) = false := by simp
          clear hb8 kb8 HT7 HRW7 KBX HR HT8 HRW8 r1 o1 b1 g1 hfe
          go_wp2_with ((with_reducible refine gate_builtin (b := .append) (xs := #[.tmp 83, .tmp 85]) rfl ?_); at_builtin; refine wpList_append_run rfl (.tmp 83) (.tmp 85) 28 rfl rfl rfl R1.out ?_)
          go_roundg (1500 - (i + 1))
          case measure => have := HGG.out; have := HI.out; omega
          case rel => exact ⟨i + 1, L', F', G ++ [n], rfl, rfl, by have := HI.out; omega, HT9, HFS, ⟨by rw [List.length_append, HGL.out]; rfl⟩, HGO6, O1⟩
        · have HGB : Aside0 (G.length ≤ 1500) := ⟨by rw [HGL.out]; exact hi2⟩
          by_cases hlt2 : i < r0
          · have hi1 : (i : Int) < (r0 : Int) := by omega
            have hi1b : decide ((i : Int) < (r0 : Int)) = true := decide_eq_true hi1
            have hi1n : decide (i < r0) = true := decide_eq_true hlt2
            obtain rfl : i = 1500 := by omega
            have hr1 : decide ((r0 : Int) ≤ 1500) = false := decide_eq_false (by omega)
            have HSUM : Aside0 (freeN M L + G.length = r0) := ⟨by rw [HGL.out]; exact HFR.out⟩
            clear hlt hlt2 hi2
            obtain ⟨sG, cG, hv⟩ := own_slice HRW.out
            rw [show (pxs M.s G).length = G.length from by unfold pxs; rw [List.length_map]] at hv
            subst hv
            have HGLE : Aside0 (G.length ≤ 1500) := ⟨HGB.out⟩
            go_wp2_with fail
            go_loopg [16] G.length (fun gg vi wr => ∃ (k : Nat) (L : List Int) (F : List Nat), vi = .int .i64 (k : Int) ∧ gg = G.length - k ∧ k ≤ G.length ∧ Aside0 (Sg w p M L F wr) ∧ Aside0 (freeN M L + G.length = r0 + k) ∧ Aside0 (∀ g, g ∈ G.drop k → M.mn ≤ g ∧ g ≤ M.mx ∧ g ∉ M.kept ∧ g ∈ L) ∧ Aside0 (Row wr w.heap.size (.slice sG G.length cG) (pxs M.s G)))
            case atStart => exact ⟨0, L, F, rfl, rfl, Nat.zero_le _, HT, ⟨HSUM.out⟩, ⟨HGO.out.all⟩, HRW⟩
            case round =>
              have hnd := HGO.out.nd
              have HND := Aside0.mk hnd
              clear HT HSUM HGO HRW hnd
              obtain ⟨k, L, F, rfl, hg, hk2, HT, HSUM, HAL, HRW⟩ := hrel
              have HG2 := Aside0.mk hg
              clear hg
              by_cases hlt : k < G.length
              · have hkk : (k : Int) < (G.length : Int) := by omega
                have hlen : (pxs M.s G).length = G.length := by unfold pxs; rw [List.length_map]
                have hel : (pxs M.s G)[k]'(by omega) = ⟨G[k] * sizeF M.s, M.s⟩ := by unfold pxs; rw [List.getElem_map]
                have hdr : G.drop k = G[k] :: G.drop (k + 1) := List.drop_eq_getElem_cons hlt
                have hal := HAL.out G[k] (by rw [hdr]; exact List.mem_cons_self)
                have hnd2 : G[k] ∉ G.drop (k + 1) := by
                  have := HND.out.sublist (List.drop_sublist k G)
                  rw [hdr] at this
                  exact (List.nodup_cons.1 this).1
                have HDR : Aside0 (∀ g, g ∈ G.drop (k + 1) → g ∈ G.drop k ∧ g ≠ G[k]) := ⟨fun g hg => ⟨by rw [hdr]; exact List.mem_cons_of_mem _ hg, fun e => hnd2 (e ▸ hg)⟩⟩
                have HLT := Aside0.mk hlt
                have HROWAT := Aside0.mk (fun (W : World) (hr : Row W w.heap.size (.slice sG G.length cG) (pxs M.s G)) => (Row.at_ hr (i := k) (by omega)))
                rw [hel] at HROWAT
                generalize G[k] = n at *
                have HAL2 := Aside0.mk hal
                have hrn := HM.out.rng hal.1 hal.2.1
                have HR := Aside0.mk (HT.out.roomC HM.out)
                have hfz := free_zero HM.out hal.2.2.2
                have hwk : IntKind.i64.wrap ((k : Int) + 1) = ((k + 1 : Nat) : Int) := by have := HGLE.out; rw [wrap64_id (by omega) (by omega)]; omega
                have HWK := Aside0.mk hwk
                have HFZ := Aside0.mk hfz
                have HRN := Aside0.mk hrn
                clear hlen hel hdr hal hnd2 hrn hlt hfz hwk
                go_wp2_with fail
                refine HR.out.mono ?_
                rintro e_ w20 ⟨rfl, hb20⟩
                have HT20 := Aside0.mk (HT.out.below hb20)
                have HRW20 := Aside0.mk (HRW.out.below hb20)
                obtain ⟨g, c9, e9, k0, k1⟩ := HROWAT.out _ HRW20.out
                injection e9 with e3 e5 e4
                subst e3
                clear e5 e4
                have HC := Aside0.mk (HT20.out.freeC HM.out (n * sizeF M.s) M.s HRN.out.1 HRN.out.2)
                rw [HFZ.out] at HC
                clear hb20 HT HRW HR
                go_wp2_with fail
                refine HC.out.mono ?_
                rintro e_ w21 ⟨rfl, L', F', hT, hm, ht⟩
                have hdv : n * sizeF M.s / sizeF M.s = n := mul_div HM.out.ok.s0 HM.out.ok.s1
                have hnl : n ∉ L' := fun h => ((hm n).1 h).2 ⟨by first | trivial | rfl, hdv.symm⟩
                have hfs := free_step (L := L') (L' := L) HAL2.out.1 HAL2.out.2.1 HAL2.out.2.2.1 hnl (fun x => by
                  rw [hm x, hdv]
                  constructor
                  · intro h
                    by_cases c : x = n
                    · exact .inr c
                    · exact .inl ⟨h, fun h => c h.2⟩
                  · rintro (h | rfl)
                    · exact h.1
                    · exact HAL2.out.2.2.2)
                have HFS := Aside0.mk hfs
                have HAL3 : Aside0 (∀ g, g ∈ G.drop (k + 1) → M.mn ≤ g ∧ g ≤ M.mx ∧ g ∉ M.kept ∧ g ∈ L') := ⟨fun g hg => by
                  obtain ⟨h1, h2⟩ := HDR.out g hg
                  have h3 := HAL.out g h1
                  exact ⟨h3.1, h3.2.1, h3.2.2.1, (hm g).2 ⟨h3.2.2.2, fun c => h2 (by rw [c.2, hdv])⟩⟩⟩
                have HRW21 := Aside0.mk (HT20.out.row HRW20.out ht)
                have HT21 := Aside0.mk hT
                have HR := Aside0.mk (HT21.out.roomC HM.out)
                have hlast : ((freeN M L' : Nat) : Int) = ((freeN M L : Nat) : Int) + 1 := by omega
                rw [hlast] at HR
                have hwf : IntKind.i64.wrap (((freeN M L : Nat) : Int) + 1) = ((freeN M L : Nat) : Int) + 1 := by have := freeN_le (L := L) HM.out; rw [wrap64_id (by omega) (by omega)]
                have HWF := Aside0.mk hwf
                clear hT hm ht hdv hnl hfs hlast hwf HC HT20 HRW20 k0 k1 HDR
                go_wp2_with fail
                refine HR.out.mono ?_
                rintro e_ w22 ⟨rfl, hb22⟩
                have HT22 := Aside0.mk (HT21.out.below hb22)
                have HRW22 := Aside0.mk (HRW21.out.below hb22)
                have hwf := HWF.out
                have hwk := HWK.out
                have hbb : ((((freeN M L : Nat) : Int) + 1) != (((freeN M L : Nat) : Int) + 1)) = false := by simp
                clear hb22 HT21 HRW21 HR
                go_wp2_with fail
                go_roundg (G.length - (k + 1))
                case measure => have := HG2.out; have := HLT.out; omega
                case rel => exact ⟨k + 1, L', F', rfl, rfl, by have := HLT.out; omega, HT22, ⟨by have := HSUM.out; have := HFS.out; omega⟩, HAL3, HRW22⟩
              · have hkk : ¬ (k : Int) < (G.length : Int) := by omega
                obtain rfl : k = G.length := by omega
                have HR := Aside0.mk (HT.out.roomC HM.out)
                have hfr : freeN M L = r0 := by have := HSUM.out; omega
                rw [hfr] at HR
                have hbb : ((r0 : Int) == (r0 : Int)) = true := by simp
                clear hfr hlt hk2
                go_wp2_with fail
                refine HR.out.mono ?_
                rintro e_ w20 ⟨rfl, hb20⟩
                have HB20 := Aside0.mk (below_step HT.out.bel hb20)
                clear hb20
                go_wp2_with fail
                go_ret
                exact ⟨by simp, HB20.out⟩
          · have hi1b : decide ((i : Int) < (r0 : Int)) = false := decide_eq_false (by omega)
            have hi1n : decide (i < r0) = false := decide_eq_false hlt2
            obtain rfl : i = r0 := by have := HFR.out; omega
            have hr1 : decide ((i : Int) ≤ 1500) = true := decide_eq_true (by omega)
            have hr2 : (i : Int) ≤ 1500 := by omega
            have htf : takeF M L = none := takeF_zero.2 (by have := HFR.out; omega)
            have HC := Aside0.mk (HT.out.takeC HM.out)
            rw [htf] at HC
            have HTF := Aside0.mk htf
            clear hlt hlt2 hi2 htf
            go_wp2_with fail
            refine HC.out.mono ?_
            rintro e_ w6 ⟨rfl, L', F', hT, hm, ht⟩
            have HRW6 := Aside0.mk (HT.out.row HRW.out ht)
            obtain rfl : L' = L := rise_ext hT.p1.rise HT.out.p1.rise (fun x => by rw [hm x]; exact ⟨fun h => h.elim id (fun h => by cases h), .inl⟩)
            have HT6 := Aside0.mk hT
            clear hT hm ht HC HT HRW
            unfold takeV
            have kbx := heap_alloc_new w6 (.cells #[.int .u32 0, .int .i64 0] 27)
            have hbx := below_alloc (Below.refl w6.heap.size w6) (.cells #[.int .u32 0, .int .i64 0] 27)
            have HT := Aside0.mk (HT6.out.below hbx)
            have HRW := Aside0.mk (HRW6.out.below hbx)
            have kx0 := blk_cell kbx 0
            have kx1 := blk_cell kbx 1
            have heq := eqA27
            have hbn : (!((0 : Int) == 0 && (0 : Int) == 0)) = false := by decide
            have HSUM : Aside0 (freeN M L' + G.length = i) := ⟨by rw [HGL.out]; exact HFR.out⟩
            generalize hr0 : i = r0 at *
            clear hr0 kbx hbx HT6 HRW6
            have F := F'
            obtain ⟨sG, cG, hv⟩ := own_slice HRW.out
            rw [show (pxs M.s G).length = G.length from by unfold pxs; rw [List.length_map]] at hv
            subst hv
            have HGLE : Aside0 (G.length ≤ 1500) := ⟨HGB.out⟩
            go_wp2_with fail
            go_loopg [16] G.length (fun gg vi wr => ∃ (k : Nat) (L : List Int) (F : List Nat), vi = .int .i64 (k : Int) ∧ gg = G.length - k ∧ k ≤ G.length ∧ Aside0 (Sg w p M L F wr) ∧ Aside0 (freeN M L + G.length = r0 + k) ∧ Aside0 (∀ g, g ∈ G.drop k → M.mn ≤ g ∧ g ≤ M.mx ∧ g ∉ M.kept ∧ g ∈ L) ∧ Aside0 (Row wr w.heap.size (.slice sG G.length cG) (pxs M.s G)))
            case atStart => exact ⟨0, _, _, rfl, rfl, Nat.zero_le _, HT, ⟨HSUM.out⟩, ⟨HGO.out.all⟩, HRW⟩
            case round =>
              have hnd := HGO.out.nd
              have HND := Aside0.mk hnd
              clear HT HSUM HGO HRW hnd
              obtain ⟨k, L, F, rfl, hg, hk2, HT, HSUM, HAL, HRW⟩ := hrel
              have HG2 := Aside0.mk hg
              clear hg
              by_cases hlt : k < G.length
              · have hkk : (k : Int) < (G.length : Int) := by omega
                have hlen : (pxs M.s G).length = G.length := by unfold pxs; rw [List.length_map]
                have hel : (pxs M.s G)[k]'(by omega) = ⟨G[k] * sizeF M.s, M.s⟩ := by unfold pxs; rw [List.getElem_map]
                have hdr : G.drop k = G[k] :: G.drop (k + 1) := List.drop_eq_getElem_cons hlt
                have hal := HAL.out G[k] (by rw [hdr]; exact List.mem_cons_self)
                have hnd2 : G[k] ∉ G.drop (k + 1) := by
                  have := HND.out.sublist (List.drop_sublist k G)
                  rw [hdr] at this
                  exact (List.nodup_cons.1 this).1
                have HDR : Aside0 (∀ g, g ∈ G.drop (k + 1) → g ∈ G.drop k ∧ g ≠ G[k]) := ⟨fun g hg => ⟨by rw [hdr]; exact List.mem_cons_of_mem _ hg, fun e => hnd2 (e ▸ hg)⟩⟩
                have HLT := Aside0.mk hlt
                have HROWAT := Aside0.mk (fun (W : World) (hr : Row W w.heap.size (.slice sG G.length cG) (pxs M.s G)) => (Row.at_ hr (i := k) (by omega)))
                rw [hel] at HROWAT
                generalize G[k] = n at *
                have HAL2 := Aside0.mk hal
                have hrn := HM.out.rng hal.1 hal.2.1
                have HR := Aside0.mk (HT.out.roomC HM.out)
                have hfz := free_zero HM.out hal.2.2.2
                have hwk : IntKind.i64.wrap ((k : Int) + 1) = ((k + 1 : Nat) : Int) := by have := HGLE.out; rw [wrap64_id (by omega) (by omega)]; omega
                have HWK := Aside0.mk hwk
                have HFZ := Aside0.mk hfz
                have HRN := Aside0.mk hrn
                clear hlen hel hdr hal hnd2 hrn hlt hfz hwk
                go_wp2_with fail
                refine HR.out.mono ?_
                rintro e_ w20 ⟨rfl, hb20⟩
                have HT20 := Aside0.mk (HT.out.below hb20)
                have HRW20 := Aside0.mk (HRW.out.below hb20)
                obtain ⟨g, c9, e9, k0, k1⟩ := HROWAT.out _ HRW20.out
                injection e9 with e3 e5 e4
                subst e3
                clear e5 e4
                have HC := Aside0.mk (HT20.out.freeC HM.out (n * sizeF M.s) M.s HRN.out.1 HRN.out.2)
                rw [HFZ.out] at HC
                clear hb20 HT HRW HR
                go_wp2_with fail
                refine HC.out.mono ?_
                rintro e_ w21 ⟨rfl, L', F', hT, hm, ht⟩
                have hdv : n * sizeF M.s / sizeF M.s = n := mul_div HM.out.ok.s0 HM.out.ok.s1
                have hnl : n ∉ L' := fun h => ((hm n).1 h).2 ⟨by first | trivial | rfl, hdv.symm⟩
                have hfs := free_step (L := L') (L' := L) HAL2.out.1 HAL2.out.2.1 HAL2.out.2.2.1 hnl (fun x => by
                  rw [hm x, hdv]
                  constructor
                  · intro h
                    by_cases c : x = n
                    · exact .inr c
                    · exact .inl ⟨h, fun h => c h.2⟩
                  · rintro (h | rfl)
                    · exact h.1
                    · exact HAL2.out.2.2.2)
                have HFS := Aside0.mk hfs
                have HAL3 : Aside0 (∀ g, g ∈ G.drop (k + 1) → M.mn ≤ g ∧ g ≤ M.mx ∧ g ∉ M.kept ∧ g ∈ L') := ⟨fun g hg => by
                  obtain ⟨h1, h2⟩ := HDR.out g hg
                  have h3 := HAL.out g h1
                  exact ⟨h3.1, h3.2.1, h3.2.2.1, (hm g).2 ⟨h3.2.2.2, fun c => h2 (by rw [c.2, hdv])⟩⟩⟩
                have HRW21 := Aside0.mk (HT20.out.row HRW20.out ht)
                have HT21 := Aside0.mk hT
                have HR := Aside0.mk (HT21.out.roomC HM.out)
                have hlast : ((freeN M L' : Nat) : Int) = ((freeN M L : Nat) : Int) + 1 := by omega
                rw [hlast] at HR
                have hwf : IntKind.i64.wrap (((freeN M L : Nat) : Int) + 1) = ((freeN M L : Nat) : Int) + 1 := by have := freeN_le (L := L) HM.out; rw [wrap64_id (by omega) (by omega)]
                have HWF := Aside0.mk hwf
                clear hT hm ht hdv hnl hfs hlast hwf HC HT20 HRW20 k0 k1 HDR
                go_wp2_with fail
                refine HR.out.mono ?_
                rintro e_ w22 ⟨rfl, hb22⟩
                have HT22 := Aside0.mk (HT21.out.below hb22)
                have HRW22 := Aside0.mk (HRW21.out.below hb22)
                have hwf := HWF.out
                have hwk := HWK.out
                have hbb : ((((freeN M L : Nat) : Int) + 1) != (((freeN M L : Nat) : Int) + 1)) = false := by simp
                clear hb22 HT21 HRW21 HR
                go_wp2_with fail
                go_roundg (G.length - (k + 1))
                case measure => have := HG2.out; have := HLT.out; omega
                case rel => exact ⟨k + 1, L', F', rfl, rfl, by have := HLT.out; omega, HT22, ⟨by have := HSUM.out; have := HFS.out; omega⟩, HAL3, HRW22⟩
              · have hkk : ¬ (k : Int) < (G.length : Int) := by omega
                obtain rfl : k = G.length := by omega
                have HR := Aside0.mk (HT.out.roomC HM.out)
                have hfr : freeN M L = r0 := by have := HSUM.out; omega
                rw [hfr] at HR
                have hbb : ((r0 : Int) == (r0 : Int)) = true := by simp
                clear hfr hlt hk2
                go_wp2_with fail
                refine HR.out.mono ?_
                rintro e_ w20 ⟨rfl, hb20⟩
                have HB20 := Aside0.mk (below_step HT.out.bel hb20)
                clear hb20
                go_wp2_with fail
                go_ret
                exact ⟨by simp, HB20.out⟩
theorem rooms_law {w : World} {na nl s lo hi : Int} {A : Option Addr} {kept : List S27} {c : Nat} {A1 : Option Addr} {cl : List S27} {c1 : Nat} (hS : SpIn w na nl s lo hi A kept c) (h1 : PxIn w A1 cl c1) :
    Calls Try.prog 4 #[.agg #[.int .u32 na, .int .i64 nl, .int .i64 s, .int .u32 lo, .int .u32 hi, .slice A kept.length c], .slice A1 cl.length c1] w fun e w' => e = .returned (.bool true) ∧ Below w.heap.size w w' := by
  by_cases hE : newE na nl s lo hi kept = 0
  · exact rooms_good w na nl s lo hi A kept c A1 cl c1 hS h1 hE
  · exact rooms_bad w na nl s lo hi A kept c A1 cl c1 hS h1 hE
end Go.Proofs.Ytebnlhjakiipjaa.Pl
