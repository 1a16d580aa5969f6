/- PoolSets walked. Conditions: what comes in is of its kind. -/
import Derived.Test.YtebnlhjakiipjaaPaF
set_option linter.unusedVariables false
set_option linter.unusedSimpArgs false
namespace Go.Proofs.Ytebnlhjakiipjaa.Pl
open Go.RowKit Go.Maps Go.Proofs.YtebnlhjakiipjaaW.PrintWords Go.Proofs.YtebnlhjakiipjaaW.PrintMore Go.Proofs.Ytebnlhjakiipjaa.PPlf
/-- a Spec as it comes in -/
structure SpIn (w : World) (na nl s lo hi : Int) (A : Option Addr) (kept : List S27) (c : Nat) : Prop where
  na0 : 0 ≤ na
  na1 : na < 4294967296
  lo0 : 0 ≤ lo
  lo1 : lo < 4294967296
  hi0 : 0 ≤ hi
  hi1 : hi < 4294967296
  len : kept.length ≤ 140737488355328
  cap : kept.length ≤ c
  C : Kd.C k27 w A kept.length kept
  W : ∀ k, k ∈ kept → 0 ≤ k.f0 ∧ k.f0 < 4294967296
def spV (na nl s lo hi : Int) (A : Option Addr) (n c : Nat) : Value := .agg #[.int .u32 na, .int .i64 nl, .int .i64 s, .int .u32 lo, .int .u32 hi, .slice A n c]
section
variable {w : World} {na nl s lo hi : Int} {A : Option Addr} {kept : List S27} {c : Nat}
theorem SpIn.below {w' : World} (h : SpIn w na nl s lo hi A kept c) (hb : Below w.heap.size w w') : SpIn w' na nl s lo hi A kept c := ⟨h.na0, h.na1, h.lo0, h.lo1, h.hi0, h.hi1, h.len, h.cap, Kd.C_below h.C hb, h.W⟩
theorem SpIn.bad (h : SpIn w na nl s lo hi A kept c) (hE : newE na nl s lo hi kept ≠ 0) : Calls Try.prog 13 #[.agg #[.int .u32 na, .int .i64 nl, .int .i64 s, .int .u32 lo, .int .u32 hi, .slice A kept.length c]] w fun e w' => e = .returned (.tuple #[.pointer none, .int .i64 (newE na nl s lo hi kept)]) ∧ Below w.heap.size w w' := by
  refine (made13 w na nl s lo hi A kept c (by have := h.len; unfold maxLen; omega) h.na0 h.na1 h.lo0 h.lo1 h.hi0 h.hi1 h.C h.W).mono ?_
  rintro e w' ⟨⟨_, rfl⟩ | ⟨he, _⟩, hb⟩
  · exact ⟨rfl, hb⟩
  · exact absurd he hE
theorem SpIn.good (h : SpIn w na nl s lo hi A kept c) (hE : newE na nl s lo hi kept = 0) : MOk (newM na nl s lo hi kept) ∧ Calls Try.prog 13 #[.agg #[.int .u32 na, .int .i64 nl, .int .i64 s, .int .u32 lo, .int .u32 hi, .slice A kept.length c]] w fun e w' => ∃ b F, e = .returned (.tuple #[.pointer (some ⟨b, 0, none⟩), .int .i64 0]) ∧ Po w' b (newM na nl s lo hi kept) [] F ∧ (∀ k, k ∈ F → w.heap.size ≤ k) ∧ Below w.heap.size w w' := by
  refine ⟨newM_ok h.na0 h.na1 h.lo0 h.hi1 hE, (made13 w na nl s lo hi A kept c (by have := h.len; unfold maxLen; omega) h.na0 h.na1 h.lo0 h.lo1 h.hi0 h.hi1 h.C h.W).mono ?_⟩
  rintro e w' ⟨⟨he, _⟩ | ⟨_, _, b, F, rfl, h1, h2⟩, hb⟩
  · exact absurd hE he
  · exact ⟨b, F, rfl, h1, h2, hb⟩
theorem SpIn.snd (h : SpIn w na nl s lo hi A kept c) : Calls Try.prog 14 #[.agg #[.int .u32 na, .int .i64 nl, .int .i64 s, .int .u32 lo, .int .u32 hi, .slice A kept.length c]] w fun e w' => e = .returned (.bool (decide (newE na nl s lo hi kept = 0))) ∧ Below w.heap.size w w' :=
  weftlaw10_sound.calls 4000 na nl s lo hi A c kept _ w h.C h.cap (sound_all h.na0 h.na1 h.lo0 h.lo1 h.hi0 h.hi1 h.W)
end
/-- a list of subnets as it comes in -/
structure PxIn (w : World) (A : Option Addr) (l : List S27) (c : Nat) : Prop where
  len : l.length ≤ 140737488355328
  cap : l.length ≤ c
  C : Kd.C k27 w A l.length l
  W : ∀ k, k ∈ l → 0 ≤ k.f0 ∧ k.f0 < 4294967296
theorem PxIn.at_ {w wr : World} {A : Option Addr} {l : List S27} {c i : Nat} (h : PxIn w A l c) (hb : Below w.heap.size w wr) (hi : i < l.length) : ∃ ad a b, A = some ad ∧ wr.cell? (ad.add (i * 2)) = some (.int .u32 a) ∧ wr.cell? ⟨(ad.add (i * 2)).block, (ad.add (i * 2)).off + 1, none⟩ = some (.int .i64 b) ∧ l[i] = ⟨a, b⟩ ∧ 0 ≤ a ∧ a < 4294967296 := by
  obtain ⟨ad, e, c0, c1⟩ := at_T27 (Kd.C_below h.C hb) (i : Int) (by omega) (by omega)
  rw [Int.toNat_natCast, rd_at hi] at c0 c1
  have := h.W _ (List.getElem_mem hi)
  exact ⟨ad, _, _, e, c0, c1, rfl, this.1, this.2⟩
set_option maxHeartbeats 16000000 in
set_option maxRecDepth 100000 in
theorem sets_bad (w : World) (na nl s lo hi : Int) (A : Option Addr) (kept : List S27) (c : Nat) (A1 : Option Addr) (cl : List S27) (c1 : Nat) (A2 : Option Addr) (ot : List S27) (c2 : Nat) (hS : SpIn w na nl s lo hi A kept c) (h1 : PxIn w A1 cl c1) (h2 : PxIn w A2 ot c2) (hE : newE na nl s lo hi kept ≠ 0) :
    Calls Try.prog 7 #[.agg #[.int .u32 na, .int .i64 nl, .int .i64 s, .int .u32 lo, .int .u32 hi, .slice A kept.length c], .slice A1 cl.length c1, .slice A2 ot.length c2] w fun e w' => e = .returned (.bool true) ∧ Below w.heap.size w w' := by
  have hb0 := below_alloc (Below.refl w.heap.size w) (.cells #[.int .u32 na, .int .i64 nl, .int .i64 s, .int .u32 lo, .int .u32 hi, .slice A kept.length c] 30)
  have kb := heap_alloc_new w (.cells #[.int .u32 na, .int .i64 nl, .int .i64 s, .int .u32 lo, .int .u32 hi, .slice A kept.length c] 30)
  have HK := Aside0.mk kb
  have HS := Aside0.mk (hS.below hb0)
  have HB0 := Aside0.mk hb0
  have HG := Aside0.mk begun9
  have HE := Aside0.mk hE
  have hEb : (newE na nl s lo hi kept != 0) = true := by simpa using hE
  have HBAD := Aside0.mk (fun (W : World) (h : SpIn W na nl s lo hi A kept c) => h.bad hE)
  have HSND := Aside0.mk (fun (W : World) (h : SpIn W na nl s lo hi A kept c) => h.snd)
  rw [decide_eq_false hE] at HSND
  generalize newE na nl s lo hi kept = E at *
  clear hE kb hb0 hS h1 h2
  go_enter Try.func7, Try.ntmps7
  go_wp2_with fail
  refine (HG.out _).mono ?_
  rintro e_ w1 ⟨rfl, hb1⟩
  have HK1 := Aside0.mk (blk_below HK.out hb1)
  have HS1 := Aside0.mk (HS.out.below hb1)
  have HB1 := Aside0.mk (below_step HB0.out hb1)
  clear hb1 HK HS HB0
  have kc0 := blk_cell HK1.out 0
  have kc1 := blk_cell HK1.out 1
  have kc2 := blk_cell HK1.out 2
  have kc3 := blk_cell HK1.out 3
  have kc4 := blk_cell HK1.out 4
  have kc5 := blk_cell HK1.out 5
  go_wp2_with fail
  refine (HBAD.out _ HS1.out).mono ?_
  rintro e_ w2 ⟨rfl, hb1⟩
  have HK2 := Aside0.mk (blk_below HK1.out hb1)
  have HS2 := Aside0.mk (HS1.out.below hb1)
  have HB2 := Aside0.mk (below_step HB1.out hb1)
  clear hb1 HK1 HS1 HB1
  have kc0 := blk_cell HK2.out 0
  have kc1 := blk_cell HK2.out 1
  have kc2 := blk_cell HK2.out 2
  have kc3 := blk_cell HK2.out 3
  have kc4 := blk_cell HK2.out 4
  have kc5 := blk_cell HK2.out 5
  go_wp2_with fail
  refine (HBAD.out _ HS2.out).mono ?_
  rintro e_ w3 ⟨rfl, hb1⟩
  have HK3 := Aside0.mk (blk_below HK2.out hb1)
  have HS3 := Aside0.mk (HS2.out.below hb1)
  have HB3 := Aside0.mk (below_step HB2.out hb1)
  clear hb1 HK2 HS2 HB2
  have kc0 := blk_cell HK3.out 0
  have kc1 := blk_cell HK3.out 1
  have kc2 := blk_cell HK3.out 2
  have kc3 := blk_cell HK3.out 3
  have kc4 := blk_cell HK3.out 4
  have kc5 := blk_cell HK3.out 5
  go_wp2_with fail
  refine (HSND.out _ HS3.out).mono ?_
  rintro e_ w4 ⟨rfl, hb1⟩
  have HB4 := Aside0.mk (below_step HB3.out hb1)
  clear hb1
  go_wp2_with fail
  go_ret
  exact ⟨rfl, HB4.out⟩
theorem Two.take1 {w0 w : World} {p q : Nat} {M : Pm} {L1 L2 : List Int} {F1 F2 : List Nat} (hM : MOk M) (h : Two w0 p q M L1 L2 F1 F2 w) :
    Calls Try.prog 17 #[.pointer (some ⟨p, 0, none⟩)] w fun e w' => e = .returned (takeV M (takeF M L1)) ∧ ∃ L' F', Two w0 p q M L' L2 F' F2 w' ∧ (∀ x, x ∈ L' ↔ x ∈ L1 ∨ takeF M L1 = some x) ∧ Turn w w' F1 := by
  refine (takeP hM h.l1 h.p1).mono ?_
  rintro e w' ⟨rfl, hl⟩
  obtain ⟨L', F', h1, h2, h3⟩ := h.left1 hl
  exact ⟨rfl, L', F', h1, h2, h3⟩
theorem Two.take2 {w0 w : World} {p q : Nat} {M : Pm} {L1 L2 : List Int} {F1 F2 : List Nat} (hM : MOk M) (h : Two w0 p q M L1 L2 F1 F2 w) :
    Calls Try.prog 17 #[.pointer (some ⟨q, 0, none⟩)] w fun e w' => e = .returned (takeV M (takeF M L2)) ∧ ∃ L' F', Two w0 p q M L1 L' F1 F' w' ∧ (∀ x, x ∈ L' ↔ x ∈ L2 ∨ takeF M L2 = some x) ∧ Turn w w' F2 := by
  refine (h.swap.take1 hM).mono ?_
  rintro e w' ⟨rfl, L', F', h1, h2, h3⟩
  exact ⟨rfl, L', F', h1.swap, h2, h3⟩
theorem takeV_shape (M : Pm) (o : Option Int) : ∃ a l er, takeV M o = .tuple #[.agg #[.int .u32 a, .int .i64 l], .int .i64 er] := by
  cases o with
  | none => exact ⟨_, _, _, rfl⟩
  | some n => exact ⟨_, _, _, rfl⟩
set_option maxHeartbeats 32000000 in
set_option maxRecDepth 100000 in
theorem sets_good (w : World) (na nl s lo hi : Int) (A : Option Addr) (kept : List S27) (c : Nat) (A1 : Option Addr) (cl : List S27) (c1 : Nat) (A2 : Option Addr) (ot : List S27) (c2 : Nat) (hS : SpIn w na nl s lo hi A kept c) (h1 : PxIn w A1 cl c1) (h2 : PxIn w A2 ot c2) (hE : newE na nl s lo hi kept = 0) :
    Calls Try.prog 7 #[.agg #[.int .u32 na, .int .i64 nl, .int .i64 s, .int .u32 lo, .int .u32 hi, .slice A kept.length c], .slice A1 cl.length c1, .slice A2 ot.length c2] w fun e w' => e = .returned (.bool true) ∧ Below w.heap.size w w' := by
  have hb0 := below_alloc (Below.refl w.heap.size w) (.cells #[.int .u32 na, .int .i64 nl, .int .i64 s, .int .u32 lo, .int .u32 hi, .slice A kept.length c] 30)
  have kb := heap_alloc_new w (.cells #[.int .u32 na, .int .i64 nl, .int .i64 s, .int .u32 lo, .int .u32 hi, .slice A kept.length c] 30)
  have HK := Aside0.mk kb
  have HS := Aside0.mk (hS.below hb0)
  have HB0 := Aside0.mk hb0
  have HG := Aside0.mk begun9
  have HM := Aside0.mk (hS.good hE).1
  have HGOOD := Aside0.mk (fun (W : World) (h : SpIn W na nl s lo hi A kept c) => (h.good hE).2)
  have HSND := Aside0.mk (fun (W : World) (h : SpIn W na nl s lo hi A kept c) => h.snd)
  rw [decide_eq_true hE] at HSND
  have H1 := Aside0.mk h1
  have H2 := Aside0.mk h2
  generalize newM na nl s lo hi kept = M at *
  clear hE kb hb0 hS h1 h2
  go_enter Try.func7, Try.ntmps7
  go_wp2_with fail
  refine (HG.out _).mono ?_
  rintro e_ w1 ⟨rfl, hb1⟩
  have HK1 := Aside0.mk (blk_below HK.out hb1)
  have HS1 := Aside0.mk (HS.out.below hb1)
  have HB1 := Aside0.mk (below_step HB0.out hb1)
  clear hb1 HK HS HB0
  have kc0 := blk_cell HK1.out 0
  have kc1 := blk_cell HK1.out 1
  have kc2 := blk_cell HK1.out 2
  have kc3 := blk_cell HK1.out 3
  have kc4 := blk_cell HK1.out 4
  have kc5 := blk_cell HK1.out 5
  go_wp2_with fail
  refine (HGOOD.out _ HS1.out).mono ?_
  rintro e_ w2 ⟨p, F1, rfl, hP1, hF1, hb1⟩
  have HP1 := Aside0.mk (And.intro hP1 hF1)
  have HK2 := Aside0.mk (blk_below HK1.out hb1)
  have HS2 := Aside0.mk (HS1.out.below hb1)
  have HB2 := Aside0.mk (below_step HB1.out hb1)
  clear hb1 HK1 HS1 hP1 hF1
  have kc0 := blk_cell HK2.out 0
  have kc1 := blk_cell HK2.out 1
  have kc2 := blk_cell HK2.out 2
  have kc3 := blk_cell HK2.out 3
  have kc4 := blk_cell HK2.out 4
  have kc5 := blk_cell HK2.out 5
  go_wp2_with fail
  refine (HGOOD.out _ HS2.out).mono ?_
  rintro e_ w3 ⟨q, F2, rfl, hP2, hF2, hb1⟩
  have HT3 : Aside0 (Two w p q M [] [] F1 F2 w3) := ⟨⟨HP1.out.1.below hb1, hP2, (fun x hx => by cases hx), (fun x hx => by cases hx), fun k hk hf => by have := HP1.out.1.lt k hk; have := hF2 k hf; omega, fun k hk => by have := HP1.out.2 k hk; have := HB1.out.size; omega, fun k hk => by have := hF2 k hk; have := HB2.out.size; omega, below_step HB2.out hb1⟩⟩
  have HK3 := Aside0.mk (blk_below HK2.out hb1)
  have HS3 := Aside0.mk (HS2.out.below hb1)
  clear hb1 HK2 HS2 HB2 HB1 HP1 hP2 hF2
  have kc0 := blk_cell HK3.out 0
  have kc1 := blk_cell HK3.out 1
  have kc2 := blk_cell HK3.out 2
  have kc3 := blk_cell HK3.out 3
  have kc4 := blk_cell HK3.out 4
  have kc5 := blk_cell HK3.out 5
  go_wp2_with fail
  refine (HSND.out _ HS3.out).mono ?_
  rintro e_ w4 ⟨rfl, hb1⟩
  have HT4 := Aside0.mk (HT3.out.below hb1)
  clear hb1 HT3 HK3 HS3 HSND HGOOD HG
  go_wp2_with fail
  go_loopg [12] ot.length (fun gg vi wr => ∃ (i : Nat) (L2 : List Int) (F2 : List Nat), vi = .int .i64 (i : Int) ∧ gg = ot.length - i ∧ i ≤ ot.length ∧ Aside0 (Two w p q M [] L2 F1 F2 wr) ∧ Aside0 (∀ x, x ∈ L2 ↔ clm M (ot.take i) x))
  case atStart => exact ⟨0, [], F2, rfl, rfl, Nat.zero_le _, HT4, ⟨fun x => ⟨fun h => by (cases h), fun ⟨_, h, _⟩ => by simp at h⟩⟩⟩
  case round =>
    clear HT4
    obtain ⟨i, L2, F2, rfl, hg, hi2, HT, HX⟩ := hrel
    have HGG := Aside0.mk hg
    clear hg
    by_cases hlt : i < ot.length
    · have hii : (i : Int) < (ot.length : Int) := by omega
      obtain ⟨ad, a, b, rfl, k0, k1, hel, ha0, ha1⟩ := H2.out.at_ HT.out.bel hlt
      have HC := Aside0.mk (HT.out.claim2 HM.out a b ha0 ha1)
      have HTK : Aside0 (ot.take (i + 1) = ot.take i ++ [⟨a, b⟩]) := ⟨by rw [List.take_succ_eq_append_getElem hlt, hel]⟩
      have hwi : IntKind.i64.wrap ((i : Int) + 1) = ((i + 1 : Nat) : Int) := by have := H2.out.len; rw [wrap64_id (by omega) (by omega)]; omega
      have HLT := Aside0.mk hlt
      clear hel ha0 ha1 hlt
      go_wp2_with fail
      refine HC.out.mono ?_
      rintro e_ w5 ⟨v, L', F', rfl, hT, hm⟩
      have HT5 := Aside0.mk hT
      have HM5 : Aside0 (∀ x, x ∈ L' ↔ clm M (ot.take (i + 1)) x) := ⟨fun x => by rw [hm x, HX.out x, HTK.out, clm_snoc]⟩
      clear hT hm HT
      go_wp2_with fail
      go_roundg (ot.length - (i + 1))
      case measure => have := HGG.out; have := HLT.out; omega
      case rel => exact ⟨i + 1, L', F', rfl, rfl, by have := HLT.out; omega, HT5, HM5⟩
    · have hii : ¬ (i : Int) < (ot.length : Int) := by omega
      obtain rfl : i = ot.length := by omega
      have hx := HX.out
      rw [List.take_length] at hx
      have HO := Aside0.mk hx
      clear hx HX hi2
      go_wp2_with fail
      go_loopg [13] cl.length (fun gg vi wr => ∃ (i : Nat) (L1 : List Int) (F1 : List Nat), vi = .int .i64 (i : Int) ∧ gg = cl.length - i ∧ i ≤ cl.length ∧ Aside0 (Two w p q M L1 L2 F1 F2 wr) ∧ Aside0 (∀ x, x ∈ L1 ↔ clm M (cl.take i) x))
      case atStart => exact ⟨0, [], F1, rfl, rfl, Nat.zero_le _, HT, ⟨fun x => ⟨fun h => by (cases h), fun ⟨_, h, _⟩ => by simp at h⟩⟩⟩
      case round =>
        clear HT
        obtain ⟨i, L1, F1, rfl, hg, hi2, HT, HX⟩ := hrel
        have HGG := Aside0.mk hg
        clear hg
        by_cases hlt : i < cl.length
        · have hii : (i : Int) < (cl.length : Int) := by omega
          obtain ⟨ad, a, b, rfl, k0, k1, hel, ha0, ha1⟩ := H1.out.at_ HT.out.bel hlt
          have HC := Aside0.mk (HT.out.claim1 HM.out a b ha0 ha1)
          have HTK : Aside0 (cl.take (i + 1) = cl.take i ++ [⟨a, b⟩]) := ⟨by rw [List.take_succ_eq_append_getElem hlt, hel]⟩
          have hwi : IntKind.i64.wrap ((i : Int) + 1) = ((i + 1 : Nat) : Int) := by have := H1.out.len; rw [wrap64_id (by omega) (by omega)]; omega
          have HLT := Aside0.mk hlt
          clear hel ha0 ha1 hlt
          go_wp2_with fail
          refine HC.out.mono ?_
          rintro e_ w5 ⟨v, L', F', rfl, hT, hm⟩
          have HT5 := Aside0.mk hT
          have HM5 : Aside0 (∀ x, x ∈ L' ↔ clm M (cl.take (i + 1)) x) := ⟨fun x => by rw [hm x, HX.out x, HTK.out, clm_snoc]⟩
          clear hT hm HT
          go_wp2_with fail
          go_roundg (cl.length - (i + 1))
          case measure => have := HGG.out; have := HLT.out; omega
          case rel => exact ⟨i + 1, L', F', rfl, rfl, by have := HLT.out; omega, HT5, HM5⟩
        · have hii : ¬ (i : Int) < (cl.length : Int) := by omega
          obtain rfl : i = cl.length := by omega
          have hx := HX.out
          rw [List.take_length] at hx
          have HL := Aside0.mk hx
          clear hx HX hi2
          have hwl : IntKind.i64.wrap ((cl.length : Int) - 1) = (cl.length : Int) - 1 := by have := H1.out.len; simp [IntKind.wrap, IntKind.bits, IntKind.signed]; omega
          go_wp2_with fail
          clear hwl
          go_loopg [14] cl.length (fun gg vi wr => ∃ (j : Nat) (L2 : List Int) (F2 : List Nat), vi = .int .i64 ((j : Int) - 1) ∧ gg = j ∧ j ≤ cl.length ∧ Aside0 (Two w p q M L1 L2 F1 F2 wr) ∧ Aside0 (∀ x, x ∈ L2 ↔ clm M ot x ∨ clm M (cl.drop j) x))
          case atStart => exact ⟨cl.length, L2, F2, rfl, rfl, Nat.le_refl _, HT, ⟨fun x => by rw [HO.out x, List.drop_length]; exact ⟨.inl, fun h => h.elim id (fun ⟨_, h, _⟩ => by cases h)⟩⟩⟩
          case round =>
            clear HT HO
            obtain ⟨j, L2, F2, rfl, hg, hi2, HT, HX⟩ := hrel
            have HGG := Aside0.mk hg
            clear hg
            by_cases hlt : 0 < j
            · obtain ⟨i, rfl⟩ : ∃ i, j = i + 1 := ⟨j - 1, by omega⟩
              have hil : i < cl.length := by omega
              have hii : (i : Int) < (cl.length : Int) := by omega
              rw [show (((i + 1 : Nat) : Int)) - 1 = (i : Int) from by omega]
              obtain ⟨ad, a, b, rfl, k0, k1, hel, ha0, ha1⟩ := H1.out.at_ HT.out.bel hil
              have HC := Aside0.mk (HT.out.claim2 HM.out a b ha0 ha1)
              have HTK : Aside0 (cl.drop i = ⟨a, b⟩ :: cl.drop (i + 1)) := ⟨by rw [List.drop_eq_getElem_cons hil, hel]⟩
              have hwi : IntKind.i64.wrap ((i : Int) - 1) = (i : Int) - 1 := by have := H1.out.len; simp [IntKind.wrap, IntKind.bits, IntKind.signed]; omega
              have HLT := Aside0.mk hil
              have hz : (0 : Int) ≤ (i : Int) := by omega
              clear hel ha0 ha1 hlt
              go_wp2_with fail
              refine HC.out.mono ?_
              rintro e_ w5 ⟨v, L', F', rfl, hT, hm⟩
              have HT5 := Aside0.mk hT
              have HM5 : Aside0 (∀ x, x ∈ L' ↔ clm M ot x ∨ clm M (cl.drop i) x) := ⟨fun x => by rw [hm x, HX.out x, HTK.out, clm_cons, or_assoc]⟩
              clear hT hm HT
              go_wp2_with fail
              go_roundg i
              case measure => have := HGG.out; omega
              case rel => exact ⟨i, L', F', rfl, rfl, by have := HLT.out; omega, HT5, HM5⟩
            · obtain rfl : j = 0 := by omega
              have hx := HX.out
              rw [List.drop_zero] at hx
              have HO := Aside0.mk hx
              clear hx HX hi2 hlt
              go_wp2_with fail
              go_loopg [15] ot.length (fun gg vi wr => ∃ (i : Nat) (L2 : List Int) (F2 : List Nat), vi = .int .i64 (i : Int) ∧ gg = ot.length - i ∧ i ≤ ot.length ∧ Aside0 (Two w p q M L1 L2 F1 F2 wr) ∧ Aside0 (∀ x, x ∈ L2 ↔ (clm M ot x ∨ clm M cl x) ∧ ¬ gone M cl (ot.take i) x))
              case atStart => exact ⟨0, L2, F2, rfl, rfl, Nat.zero_le _, HT, ⟨fun x => by rw [HO.out x]; exact ⟨fun h => ⟨h, fun ⟨_, h, _⟩ => by simp at h⟩, fun h => h.1⟩⟩⟩
              case round =>
                clear HT HO
                obtain ⟨i, L2, F2, rfl, hg, hi2, HT, HX⟩ := hrel
                have HGG := Aside0.mk hg
                clear hg
                by_cases hlt : i < ot.length
                · have hii : (i : Int) < (ot.length : Int) := by omega
                  obtain ⟨ad, a, b, rfl, k0, k1, hel, ha0, ha1⟩ := H2.out.at_ HT.out.bel hlt
                  have HH := Aside0.mk (weftlaw10_has.calls (cl.length + 1) A1 c1 cl a b _ wr (Kd.C_below H1.out.C HT.out.bel) H1.out.cap (has_all a b (by have := H1.out.len; omega) (by omega)))
                  have HC := Aside0.mk (fun (W : World) (h : Two w p q M L1 L2 F1 F2 W) => h.free2 HM.out a b ha0 ha1)
                  have HTK : Aside0 (ot.take (i + 1) = ot.take i ++ [⟨a, b⟩]) := ⟨by rw [List.take_succ_eq_append_getElem hlt, hel]⟩
                  have hwi : IntKind.i64.wrap ((i : Int) + 1) = ((i + 1 : Nat) : Int) := by have := H2.out.len; rw [wrap64_id (by omega) (by omega)]; omega
                  have HLT := Aside0.mk hlt
                  clear hel ha0 ha1 hlt
                  by_cases hin : (⟨a, b⟩ : S27) ∈ cl
                  · rw [decide_eq_true hin] at HH
                    have HIN := Aside0.mk hin
                    clear hin HC
                    go_wp2_with fail
                    refine HH.out.mono ?_
                    rintro e_ w5 ⟨rfl, hb5⟩
                    have HT5 := Aside0.mk (HT.out.below hb5)
                    have HM5 : Aside0 (∀ x, x ∈ L2 ↔ (clm M ot x ∨ clm M cl x) ∧ ¬ gone M cl (ot.take (i + 1)) x) := ⟨fun x => by
                      rw [HX.out x, HTK.out, gone_snoc]
                      exact and_congr_right fun _ => not_congr ⟨.inl, fun h => h.elim id (fun h => absurd HIN.out h.1)⟩⟩
                    clear hb5 HT
                    go_wp2_with fail
                    go_roundg (ot.length - (i + 1))
                    case measure => have := HGG.out; have := HLT.out; omega
                    case rel => exact ⟨i + 1, L2, F2, rfl, rfl, by have := HLT.out; omega, HT5, HM5⟩
                  · rw [decide_eq_false hin] at HH
                    have HIN := Aside0.mk hin
                    clear hin
                    go_wp2_with fail
                    refine HH.out.mono ?_
                    rintro e_ w5 ⟨rfl, hb5⟩
                    have HT5 := Aside0.mk (HT.out.below hb5)
                    obtain ⟨ad', a', b', e', k0, k1, hel, _, _⟩ := H2.out.at_ HT5.out.bel HLT.out
                    injection e' with e'
                    subst e'
                    have hab : (⟨a', b'⟩ : S27) = ⟨a, b⟩ := by
                      have h1 := HTK.out
                      rw [List.take_succ_eq_append_getElem HLT.out, hel] at h1
                      exact List.singleton_inj.1 (List.append_cancel_left h1)
                    injection hab with h1 h2
                    subst h1 h2
                    clear hb5 HT hel
                    go_wp2_with fail
                    refine (HC.out _ HT5.out).mono ?_
                    rintro e_ w6 ⟨v, L', F', rfl, hT, hm⟩
                    have HT6 := Aside0.mk hT
                    have HM6 : Aside0 (∀ x, x ∈ L' ↔ (clm M ot x ∨ clm M cl x) ∧ ¬ gone M cl (ot.take (i + 1)) x) := ⟨fun x => by
                      rw [hm x, HX.out x, HTK.out, gone_snoc, and_assoc]
                      exact and_congr_right fun _ => ⟨fun h c => c.elim h.1 (fun c => h.2 c.2), fun h => ⟨fun c => h (.inl c), fun c => h (.inr ⟨HIN.out, c⟩)⟩⟩⟩
                    clear hT hm HT5 k0 k1
                    go_wp2_with fail
                    go_roundg (ot.length - (i + 1))
                    case measure => have := HGG.out; have := HLT.out; omega
                    case rel => exact ⟨i + 1, L', F', rfl, rfl, by have := HLT.out; omega, HT6, HM6⟩
                · have hii : ¬ (i : Int) < (ot.length : Int) := by omega
                  obtain rfl : i = ot.length := by omega
                  have hx := HX.out
                  rw [List.take_length] at hx
                  obtain rfl : L2 = L1 := rise_ext HT.out.p2.rise HT.out.p1.rise (fun x => by rw [hx x, HL.out x]; exact sets_same)
                  clear hx HX hi2 HL
                  have HTKN := Aside0.mk (fun (W : World) (F1 F2 : List Nat) (h : Two w p q M L2 L2 F1 F2 W) => And.intro (takenP HM.out h.l1 h.p1) (And.intro (takenP HM.out h.l2 h.p2) (And.intro (roomP HM.out h.l1 h.p1) (roomP HM.out h.l2 h.p2))))
                  have hlen := sizeF_le_S HM.out HT.out.l1 HT.out.p1.rise
                  have HLEN := Aside0.mk hlen
                  clear hlen
                  go_wp2_with fail
                  refine (HTKN.out _ _ _ HT.out).1.mono ?_
                  rintro e_ w5 ⟨v1, rfl, hR1, hb5⟩
                  have HR1 := Aside0.mk hR1
                  have HT5 := Aside0.mk (HT.out.below hb5)
                  clear hR1 hb5 HT
                  go_wp2_with fail
                  refine (HTKN.out _ _ _ HT5.out).2.1.mono ?_
                  rintro e_ w6 ⟨v2, rfl, hR2, hb6⟩
                  obtain ⟨B1, d1, rfl, hd1, hC1⟩ := (HR1.out.below hb6).C
                  obtain ⟨B2, d2, rfl, hd2, hC2⟩ := hR2.C
                  have HT6 := Aside0.mk (HT5.out.below hb6)
                  have HSM := Aside0.mk (weftlaw10_same.calls ((pxs M.s L2).length + 1) B1 d1 (pxs M.s L2) B2 d2 (pxs M.s L2) _ w6 hC1 hd1 hC2 hd2 (same_all (by unfold pxs; rw [List.length_map]; have := HLEN.out; omega) (by omega)))
                  rw [decide_eq_true rfl] at HSM
                  clear hb6 hR2 HR1 HT5 hC1 hC2 hd1 hd2
                  go_wp2_with fail
                  refine HSM.out.mono ?_
                  rintro e_ w7 ⟨rfl, hdr⟩
                  have HT7 := Aside0.mk (HT6.out.below hdr.below)
                  clear hdr HT6 HSM
                  go_wp2_with fail
                  refine (HTKN.out _ _ _ HT7.out).2.2.1.mono ?_
                  rintro e_ w8 ⟨rfl, hb8⟩
                  have HT8 := Aside0.mk (HT7.out.below hb8)
                  clear hb8 HT7
                  go_wp2_with fail
                  refine (HTKN.out _ _ _ HT8.out).2.2.2.mono ?_
                  rintro e_ w9 ⟨rfl, hb9⟩
                  have HT9 := Aside0.mk (HT8.out.below hb9)
                  have hrr : (roomL M L2 != roomL M L2) = false := by simp
                  clear hb9 HT8 HTKN
                  go_wp2_with fail
                  clear hrr
                  go_loopg [18] 3 (fun gg vi wr => ∃ (i : Nat) (L : List Int) (F1 F2 : List Nat), vi = .int .i64 (i : Int) ∧ gg = 3 - i ∧ i ≤ 3 ∧ Aside0 (Two w p q M L L F1 F2 wr))
                  case atStart => exact ⟨0, L2, F1, F2, rfl, rfl, by omega, HT9⟩
                  case round =>
                    clear HT9
                    obtain ⟨i, L, F1, F2, rfl, hg, hi2, HT⟩ := hrel
                    have HGG := Aside0.mk hg
                    clear hg
                    by_cases hlt : i < 3
                    · have hii : (i : Int) < 3 := by omega
                      have HC := Aside0.mk (HT.out.take1 HM.out)
                      have HC2 := Aside0.mk (fun (W : World) (L1 : List Int) (F1 F2 : List Nat) (h : Two w p q M L1 L F1 F2 W) => h.take2 HM.out)
                      obtain ⟨a, l, er, htv⟩ := takeV_shape M (takeF M L)
                      rw [htv] at HC HC2
                      have hwi : IntKind.i64.wrap ((i : Int) + 1) = ((i + 1 : Nat) : Int) := by rw [wrap64_id (by omega) (by omega)]; omega
                      have HLT := Aside0.mk hlt
                      clear htv hlt
                      go_wp2_with fail
                      refine HC.out.mono ?_
                      rintro e_ w10 ⟨rfl, L', F', hT, hm, htn⟩
                      have hbx := below_alloc (Below.refl w10.heap.size w10) (.cells #[.int .u32 a, .int .i64 l] 27)
                      have HTx := Aside0.mk (hT.below hbx)
                      have HTo := Aside0.mk hT
                      have HMm := Aside0.mk hm
                      have kbx := heap_alloc_new w10 (.cells #[.int .u32 a, .int .i64 l] 27)
                      have KBX := Aside0.mk kbx
                      clear hT hm htn hbx kbx HT HC
                      go_wp2_with fail
                      refine (HC2.out _ _ _ _ HTx.out).mono ?_
                      rintro e_ w11 ⟨rfl, L'', F'', hT, hm, htn⟩
                      obtain rfl : L'' = L' := rise_ext hT.p2.rise hT.p1.rise (fun x => by rw [hm x, HMm.out x])
                      have kb11 : w11.heap[w10.heap.size]? = some (.cells #[.int .u32 a, .int .i64 l] 27 (0, 0)) := (htn.block w10.heap.size (blk_lt KBX.out) (fun hf => by have := HTo.out.p2.lt _ hf; omega)).trans KBX.out
                      have hbx := below_alloc (Below.refl w11.heap.size w11) (.cells #[.int .u32 a, .int .i64 l] 27)
                      have kc := blk_below kb11 hbx
                      have kd := heap_alloc_new w11 (.cells #[.int .u32 a, .int .i64 l] 27)
                      have kc0 := blk_cell kc 0
                      have kc1 := blk_cell kc 1
                      have kd0 := blk_cell kd 0
                      have kd1 := blk_cell kd 1
                      have HTF := Aside0.mk (hT.below hbx)
                      have heq := eqA27
                      have haa : (!(a == a && l == l)) = false := by simp
                      have hee : (er != er) = false := by simp
                      clear hT hm htn kb11 hbx kc kd HTx HTo HMm KBX HC2
                      go_wp2_with fail
                      go_roundg (3 - (i + 1))
                      case measure => have := HGG.out; have := HLT.out; omega
                      case rel => exact ⟨i + 1, L'', F', F'', rfl, rfl, by have := HLT.out; omega, HTF⟩
                    · have hii : ¬ (i : Int) < 3 := by omega
                      go_wp2_with fail
                      go_ret
                      exact ⟨rfl, HT.out.bel⟩
theorem sets7 (w : World) (na nl s lo hi : Int) (A : Option Addr) (kept : List S27) (c : Nat) (A1 : Option Addr) (cl : List S27) (c1 : Nat) (A2 : Option Addr) (ot : List S27) (c2 : Nat) (hS : SpIn w na nl s lo hi A kept c) (h1 : PxIn w A1 cl c1) (h2 : PxIn w A2 ot c2) :
    Calls Try.prog 7 #[.agg #[.int .u32 na, .int .i64 nl, .int .i64 s, .int .u32 lo, .int .u32 hi, .slice A kept.length c], .slice A1 cl.length c1, .slice A2 ot.length c2] w fun e w' => e = .returned (.bool true) ∧ Below w.heap.size w w' := by
  by_cases hE : newE na nl s lo hi kept = 0
  · exact sets_good w na nl s lo hi A kept c A1 cl c1 A2 ot c2 hS h1 h2 hE
  · exact sets_bad w na nl s lo hi A kept c A1 cl c1 A2 ot c2 hS h1 h2 hE
end Go.Proofs.Ytebnlhjakiipjaa.Pl
