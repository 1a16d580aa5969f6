/- The reference's New walked. Conditions: the numbers are of their kinds. -/
import Derived.Test.YtebnlhjakiipjaaPrG
set_option linter.unusedVariables false
set_option linter.unusedSimpArgs false
namespace Go.Proofs.Ytebnlhjakiipjaa.Pl
open Go.RowKit Go.Maps Go.Proofs.YtebnlhjakiipjaaW.PrintWords Go.Proofs.YtebnlhjakiipjaaW.PrintMore Go.Proofs.YtebnlhjakiipjaaW.PrintLast Go.Proofs.Ytebnlhjakiipjaa.PPlf
/-- what of a pool a subnet hangs on -/
def Zp (na nl s : Int) : Pm := ⟨na, nl, s, 0, 0, [], fun _ => none⟩
theorem alignedZ {na nl s a l : Int} (h0 : 0 ≤ a) (h1 : a < 4294967296) (w : World) : Calls Try.prog 34 #[.agg #[.int .u32 a, .int .i64 l], .int .i64 s] w fun e w' => e = .returned (.bool (decide (sub (Zp na nl s) a l))) ∧ Below w.heap.size w w' := by
  refine weftref10_aligned.calls 34 a l s _ w (by
    rw [aligned_all h0 h1 (Nat.le_refl _)]
    unfold sub Zp
    congr 1
    by_cases c1 : l = s <;> by_cases c2 : vld a l <;> simp [c1, c2, beq_iff_eq])
theorem containsZ {na nl a : Int} (hb0 : 0 ≤ na) (hb1 : na < 4294967296) (h0 : 0 ≤ a) (h1 : a < 4294967296) (w : World) : Calls Try.prog 35 #[.agg #[.int .u32 na, .int .i64 nl], .int .u32 a] w fun e w' => e = .returned (.bool (decide (ins na nl a))) ∧ Below w.heap.size w w' :=
  weftref1_Contains.calls 34 na nl a _ w (rcontains_all hb0 hb1 h0 h1 (Nat.le_refl _))
/-- what the reference's New leaves -/
def RNewPost (w : World) (na nl s lo hi : Int) (kept : List S27) (e : Ending) (w' : World) : Prop :=
  ((newE na nl s lo hi kept ≠ 0 ∧ e = .returned (.tuple #[.pointer none, .int .i64 (newE na nl s lo hi kept)])) ∨
   (newE na nl s lo hi kept = 0 ∧ ∃ b vk, e = .returned (.tuple #[.pointer (some ⟨b, 0, none⟩), .int .i64 0]) ∧ RS w' b vk (.slice none 0 0) (newM na nl s lo hi kept) (kept.map (·.f0)) [] ∧ RO (newM na nl s lo hi kept) (kept.map (·.f0)) [] [] ∧ (∀ k, k ∈ RF b vk (.slice none 0 0) → w.heap.size ≤ k))) ∧ Below w.heap.size w w'
/-- New's state behind the first i kept ones -/
structure RN (w : World) (na nl s lo hi : Int) (kept : List S27) (b : Nat) (i : Nat) (vk : Value) (wr : World) : Prop where
  bb : wr.heap[b]? = some (.cells #[.int .u32 na, .int .i64 nl, .int .i64 s, .int .i64 lo, .int .i64 hi, vk, .slice none 0 0] 74 (0, 0))
  row : IRow wr 0 vk ((kept.take i).map (·.f0))
  bn : wr.heap[w.heap.size]? = some (.cells #[.int .u32 na, .int .i64 nl] 27 (0, 0))
  bel : Below w.heap.size w wr
  fr : w.heap.size < b ∧ ∀ k, vk.ownBlock = some k → w.heap.size < k
  he : keptE na nl s ((kept.take i).map (·.f0)) (kept.drop i) = keptE na nl s [] kept
section
variable {w wr w' : World} {na nl s lo hi : Int} {kept : List S27} {b i : Nat} {vk : Value}
theorem RN.below (h : RN w na nl s lo hi kept b i vk wr) (hb : Below wr.heap.size wr w') : RN w na nl s lo hi kept b i vk w' :=
  ⟨blk_below h.bb hb, h.row.below hb, blk_below h.bn hb, below_step h.bel hb, h.fr, h.he⟩
theorem drop_rd (hi2 : i < kept.length) : kept.drop i = rd_T27 kept i :: kept.drop (i + 1) := by
  rw [List.drop_eq_getElem_cons hi2]
  congr 1
  unfold rd_T27
  rw [List.getD_eq_getElem?_getD, Int.toNat_natCast, List.getElem?_eq_getElem hi2]; rfl
end
set_option maxHeartbeats 16000000 in
set_option maxRecDepth 100000 in
theorem rnew_long (w : World) (na nl s lo hi : Int) (A : Option Addr) (kept : List S27) (c : Nat) (h : 1024 < kept.length) (hm : kept.length ≤ maxLen) :
    Calls Try.prog 11 #[.agg #[.int .u32 na, .int .i64 nl], .int .i64 s, .int .u32 lo, .int .u32 hi, .slice A kept.length c] w (RNewPost w na nl s lo hi kept) := by
  have hE : newE na nl s lo hi kept = 2 := by unfold newE; rw [if_pos h]
  have hcb : decide ((1024 : Int) < (kept.length : Int)) = true := decide_eq_true (by omega)
  have HE := Aside0.mk hE
  clear hE h
  go_enter Try.func11, Try.ntmps11
  go_wp2_with fail
  go_ret2
  refine ⟨.inl ⟨by rw [HE.out]; omega, by rw [HE.out]; rfl⟩, below_alloc (Below.refl _ _) _⟩
set_option maxHeartbeats 16000000 in
set_option maxRecDepth 100000 in
theorem rnew_fault (w : World) (na nl s lo hi : Int) (A : Option Addr) (kept : List S27) (c : Nat) (h : kept.length ≤ 1024) (hb0 : 0 ≤ na) (hb1 : na < 4294967296) (hl0 : 0 ≤ lo) (hl1 : lo < 4294967296) (hh0 : 0 ≤ hi) (hh1 : hi < 4294967296) (hf : faultF na nl s lo hi ≠ 0) :
    Calls Try.prog 11 #[.agg #[.int .u32 na, .int .i64 nl], .int .i64 s, .int .u32 lo, .int .u32 hi, .slice A kept.length c] w (RNewPost w na nl s lo hi kept) := by
  have hE : newE na nl s lo hi kept = faultF na nl s lo hi := by unfold newE; rw [if_neg (by omega), if_pos hf]
  have hcb : decide ((1024 : Int) < (kept.length : Int)) = false := decide_eq_false (by omega)
  have HE := Aside0.mk hE
  have HF := Aside0.mk (fun W => weftref10_looked.calls 40 na nl s lo hi _ W (looked_all hb0 hb1 hl0 hl1 hh0 hh1 (Nat.le_refl _)))
  have hfb : (faultF na nl s lo hi != 0) = true := by simpa using hf
  have HFF := Aside0.mk hf
  have kb := heap_alloc_new w (.cells #[.int .u32 na, .int .i64 nl] 27)
  have k0 := blk_cell kb 0
  have k1 := blk_cell kb 1
  generalize faultF na nl s lo hi = fe at *
  clear hE h hf kb
  go_enter Try.func11, Try.ntmps11
  go_wp2_with fail
  refine (HF.out _).mono ?_
  rintro e_ w1 ⟨rfl, hb⟩
  have HB := Aside0.mk (below_step (below_alloc (Below.refl _ _) _) hb)
  clear hb
  go_wp2_with fail
  go_ret2
  refine ⟨.inl ⟨by rw [HE.out]; exact HFF.out, by rw [HE.out]; rfl⟩, HB.out⟩
set_option maxHeartbeats 16000000 in
set_option maxRecDepth 100000 in
theorem rnew_kept (w : World) (na nl s lo hi : Int) (A : Option Addr) (kept : List S27) (c : Nat) (h : kept.length ≤ 1024) (hb0 : 0 ≤ na) (hb1 : na < 4294967296) (hl0 : 0 ≤ lo) (hl1 : lo < 4294967296) (hh0 : 0 ≤ hi) (hh1 : hi < 4294967296) (hf : faultF na nl s lo hi = 0)
    (hC : Kd.C k27 w A kept.length kept) (hW : ∀ k, k ∈ kept → 0 ≤ k.f0 ∧ k.f0 < 4294967296) :
    Calls Try.prog 11 #[.agg #[.int .u32 na, .int .i64 nl], .int .i64 s, .int .u32 lo, .int .u32 hi, .slice A kept.length c] w (RNewPost w na nl s lo hi kept) := by
  have hE : newE na nl s lo hi kept = keptE na nl s [] kept := by unfold newE; rw [if_neg (by omega), if_neg (fun h => h hf)]
  have hG := faultF_ok.1 hf
  have hcb : decide ((1024 : Int) < (kept.length : Int)) = false := decide_eq_false (by omega)
  have HE := Aside0.mk hE
  have HF := Aside0.mk (fun W => weftref10_looked.calls 40 na nl s lo hi _ W (looked_all hb0 hb1 hl0 hl1 hh0 hh1 (Nat.le_refl _)))
  rw [hf] at HF
  have s0 : 0 ≤ s := by have := hG.nls; have := hG.nl0; omega
  have s1 := hG.s32
  have HS := Aside0.mk (And.intro s0 s1)
  have HG := Aside0.mk hG
  have HNA := Aside0.mk (And.intro hb0 hb1)
  have HLH := Aside0.mk (And.intro (And.intro hl0 hl1) (And.intro hh0 hh1))
  have HC := Aside0.mk (And.intro hC hW)
  have HL := Aside0.mk h
  have kb := heap_alloc_new w (.cells #[.int .u32 na, .int .i64 nl] 27)
  have k0 := blk_cell kb 0
  have k1 := blk_cell kb 1
  have KB := Aside0.mk kb
  have hwl : IntKind.i64.wrap lo = lo := wrap64_id (by omega) (by omega)
  have hwh : IntKind.i64.wrap hi = hi := wrap64_id (by omega) (by omega)
  have hwl2 : wrap64 lo = lo := w64 (by omega) (by omega)
  have hwh2 : wrap64 hi = hi := w64 (by omega) (by omega)
  clear hE h hf hC hW hG s0 s1 hb0 hb1 hl0 hl1 hh0 hh1 kb
  go_enter Try.func11, Try.ntmps11
  go_wp2_with fail
  refine (HF.out _).mono ?_
  rintro e_ w1 ⟨rfl, hb⟩
  have HB := Aside0.mk (below_step (below_alloc (Below.refl _ _) _) hb)
  have KB1 := Aside0.mk (blk_below KB.out hb)
  have k0 := blk_cell KB1.out 0
  have k1 := blk_cell KB1.out 1
  clear hb KB
  go_wp2_with fail
  have HX0 : Aside0 (RN w na nl s lo hi kept w1.heap.size 0 (.slice none 0 0) (w1.alloc (.cells #[.int .u32 na, .int .i64 nl, .int .i64 s, .int .i64 lo, .int .i64 hi, .slice none 0 0, .slice none 0 0] 74))) := ⟨⟨heap_alloc_new w1 _, IRow.nil _ _, blk_alloc KB1.out _, below_alloc HB.out _, ⟨blk_lt KB1.out, fun k hk => by cases hk⟩, rfl⟩⟩
  generalize w1.alloc (.cells #[.int .u32 na, .int .i64 nl, .int .i64 s, .int .i64 lo, .int .i64 hi, .slice none 0 0, .slice none 0 0] 74) = w2 at *
  generalize w1.heap.size = b at *
  clear KB1 HB k0 k1 HF hwl hwh hwl2 hwh2
  go_loopg [14] kept.length (fun gg vi wr => ∃ (i : Nat) (vk : Value), vi = .int .i64 (i : Int) ∧ gg = kept.length - i ∧ i ≤ kept.length ∧ Aside0 (RN w na nl s lo hi kept b i vk wr))
  case atStart => exact ⟨0, _, rfl, rfl, Nat.zero_le _, HX0⟩
  case round =>
    clear HX0
    obtain ⟨i, vk, rfl, hg, hi2, HS8⟩ := hrel
    have HGG := Aside0.mk hg
    clear hg
    by_cases hlt : i < kept.length
    · have hii : (i : Int) < (kept.length : Int) := by omega
      obtain ⟨ad, rfl, c0, c1⟩ := at_T27 (Kd.C_below HC.out.1 HS8.out.bel) (i : Int) (by omega) (by omega)
      rw [Int.toNat_natCast] at c0 c1
      have hat := drop_rd hlt
      have htk := take_at hlt
      have HAT : Aside0 (∀ W, Below w.heap.size w W → W.cell? (ad.add (i * 2)) = some (.int .u32 (rd_T27 kept i).f0) ∧ W.cell? ⟨(ad.add (i * 2)).block, (ad.add (i * 2)).off + 1, none⟩ = some (.int .i64 (rd_T27 kept i).f1)) := ⟨fun W hb => by
        obtain ⟨ad2, e, h1, h2⟩ := at_T27 (Kd.C_below HC.out.1 hb) (i : Int) (by omega) (by omega)
        injection e with e
        subst e
        exact ⟨h1, h2⟩⟩
      have hmem : rd_T27 kept i ∈ kept := by
        unfold rd_T27
        rw [List.getD_eq_getElem?_getD, Int.toNat_natCast, List.getElem?_eq_getElem hlt]; exact List.getElem_mem hlt
      have hu := HC.out.2 _ hmem
      have hE2 : (if ¬ sub (Zp na nl s) (rd_T27 kept i).f0 (rd_T27 kept i).f1 then 100 else if ¬ ins na nl (rd_T27 kept i).f0 then 101 else if (rd_T27 kept i).f0 ∈ (kept.take i).map (·.f0) then 5 else keptE na nl s ((kept.take i).map (·.f0) ++ [(rd_T27 kept i).f0]) (kept.drop (i + 1))) = keptE na nl s [] kept := by
        have := HS8.out.he
        rw [hat] at this
        exact this
      have HLT := Aside0.mk hlt
      have HTK := Aside0.mk htk
      clear hat htk hmem hlt
      generalize rd_T27 kept i = x at *
      obtain ⟨f0, f1⟩ := x
      simp only at c0 c1 hu hE2 HAT
      have HAL := Aside0.mk (fun W => alignedZ (na := na) (nl := nl) (s := s) (l := f1) hu.1 hu.2 W)
      have HCN := Aside0.mk (fun W => containsZ (nl := nl) HNA.out.1 HNA.out.2 hu.1 hu.2 W)
      have hwf : IntKind.i64.wrap f0 = f0 := wrap64_id (by omega) (by omega)
      have hwf2 : wrap64 f0 = f0 := w64 (by omega) (by omega)
      have HU := Aside0.mk hu
      clear hu
      go_wp2_with fail
      refine (HAL.out _).mono ?_
      rintro e_ w3 ⟨rfl, hb3⟩
      have HS3 := Aside0.mk (HS8.out.below hb3)
      clear hb3 HS8 c0 c1 HAL
      by_cases c1' : sub (Zp na nl s) f0 f1
      · rw [if_neg (fun h => h c1')] at hE2
        have hdb : decide (sub (Zp na nl s) f0 f1) = true := decide_eq_true c1'
        rw [hdb]
        clear hdb
        have HE3 := Aside0.mk hE2
        clear hE2 c1'
        go_upto_region 13 with fail
        obtain ⟨w4, rfl⟩ : ∃ w4, w4 = w3 := ⟨_, rfl⟩
        have HS4 : Aside0 (RN w na nl s lo hi kept b i vk w4.drew) := ⟨HS3.out.below (Below.refl _ _).drew⟩
        have q0 : w4.drew.cell? ⟨w.heap.size, 0, none⟩ = some (.int .u32 na) := blk_cell HS4.out.bn 0
        have q1 : w4.drew.cell? ⟨w.heap.size, 1, none⟩ = some (.int .i64 nl) := blk_cell HS4.out.bn 1
        have q2 : w4.drew.cell? (ad.add (i * 2)) = some (.int .u32 f0) := (HAT.out _ HS4.out.bel).1
        refine start_ (n := 8) (S := fun w' => w'.cell? ⟨w.heap.size, 0, none⟩ = some (.int .u32 na) ∧ w'.cell? ⟨w.heap.size, 1, none⟩ = some (.int .i64 nl) ∧ w'.cell? (ad.add (i * 2)) = some (.int .u32 f0)) (ds := []) #[false, false, false, false, false, false, false, false] (by kernel_rfl) rfl rfl ⟨q0, q1, q2⟩ (fun hHeld => ?_)
        refine pure_ (i := 1) (N := some 50) (v := ?_) (a' := ?_) #[false, true, false, false, false, false, false, false] rfl rfl (by kernel_rfl) (fun _ _ _ h => h) (Or.inl ⟨by rfl, ?_⟩) ?_ ?_
        rotate_left
        · intro w'
          go_simp
          with_reducible rfl
        rotate_left
        · simp only [Act.put, List.setIfInBounds_toArray, List.set_cons_zero, List.set_cons_succ, i64_w, i32_w]
          rfl
        refine pure_ (i := 2) (N := some 51) (v := ?_) (a' := ?_) #[false, true, true, false, false, false, false, false] rfl rfl (by kernel_rfl) (fun _ _ _ h => h) (Or.inl ⟨by rfl, ?_⟩) ?_ ?_
        rotate_left
        · intro w'
          go_simp
          with_reducible rfl
        rotate_left
        · simp only [Act.put, List.setIfInBounds_toArray, List.set_cons_zero, List.set_cons_succ, i64_w, i32_w]
          rfl
        refine pure_ (i := 3) (N := some 52) (v := ?_) (a' := ?_) #[false, true, true, true, false, false, false, false] rfl rfl (by kernel_rfl) (fun _ _ _ h => h) (Or.inl ⟨by rfl, ?_⟩) ?_ ?_
        rotate_left
        · intro w'
          go_simp
          with_reducible rfl
        rotate_left
        · simp only [Act.put, List.setIfInBounds_toArray, List.set_cons_zero, List.set_cons_succ, i64_w, i32_w]
          rfl
        refine pure_ (i := 4) (N := some 53) (v := ?_) (a' := ?_) #[false, true, true, true, true, false, false, false] rfl rfl (by kernel_rfl) (fun _ _ _ h => h) (Or.inl ⟨by rfl, ?_⟩) ?_ ?_
        rotate_left
        · intro w'
          go_simp
          with_reducible rfl
        rotate_left
        · simp only [Act.put, List.setIfInBounds_toArray, List.set_cons_zero, List.set_cons_succ, i64_w, i32_w]
          rfl
        refine take_ (i := 0) (N := some 49) (v := ?_) (a' := ?_) #[true, true, true, true, true, false, false, false] rfl rfl (by kernel_rfl) (fun _ _ _ h => h) (Or.inl ⟨by rfl, ?_⟩) hHeld ?_ ?_
        rotate_left
        · rintro w' ⟨s0, s1, s2⟩
          go_simp
          with_reducible rfl
        rotate_left
        · simp only [Act.put, List.setIfInBounds_toArray, List.set_cons_zero, List.set_cons_succ, i64_w, i32_w]
          rfl
        refine take_ (i := 5) (N := some 54) (v := ?_) (a' := ?_) #[true, true, true, true, true, true, false, false] rfl rfl (by kernel_rfl) (fun _ _ _ h => h) (Or.inl ⟨by rfl, ?_⟩) hHeld ?_ ?_
        rotate_left
        · rintro w' ⟨s0, s1, s2⟩
          go_simp
          with_reducible rfl
        rotate_left
        · simp only [Act.put, List.setIfInBounds_toArray, List.set_cons_zero, List.set_cons_succ, i64_w, i32_w]
          rfl
        refine one_ (i := 6) (N := some 55) #[true, true, true, true, true, true, true, false] rfl rfl (by kernel_rfl) (by decide) (fun K hK => ?_)
        refine goes_ Try.func35 (by kernel_rfl) rfl #[.agg #[.int .u32 na, .int .i64 nl], .int .u32 f0] (by rfl) rfl rfl (by simp only [List.map_toArray, List.map_cons, List.map_nil]; rfl) ?_
        with_reducible refine (HCN.out w4.drew).mono ?_
        rintro e_ w5 ⟨rfl, hb5⟩
        refine ⟨_, rfl, ?_⟩
        have HS5 := Aside0.mk (HS4.out.below hb5)
        have z0 := blk_cell HS5.out.bn 0
        have z1 := blk_cell HS5.out.bn 1
        have z2 := (HAT.out _ HS5.out.bel).1
        refine hK.out _ _ ⟨z0, z1, z2⟩ (fun hHeld => ?_)
        clear hK K
        refine norm_ (a' := ?_) ?_ ?_
        rotate_left
        · show Act.put _ (some 55) _ = _
          simp only [Act.put, List.setIfInBounds_toArray, List.set_cons_zero, List.set_cons_succ, i64_w, i32_w]
          rfl
        refine pure_ (i := 7) (N := some 15) (v := ?_) (a' := ?_) #[true, true, true, true, true, true, true, true] rfl rfl (by kernel_rfl) (fun _ _ _ h => h) (Or.inl ⟨by rfl, ?_⟩) ?_ ?_
        rotate_left
        · intro w'
          go_simp
          with_reducible rfl
        rotate_left
        · simp only [Act.put, List.setIfInBounds_toArray, List.set_cons_zero, List.set_cons_succ, i64_w, i32_w]
          rfl
        refine done_ (by kernel_rfl) ?_
        clear q0 q1 q2 z0 z1 z2 hb5 HS3 HS4 HCN
        try clear hHeld
        by_cases c2 : ins na nl f0
        · have hE4 := HE3.out
          rw [if_neg (fun h => h c2)] at hE4
          rw [decide_eq_true c2]
          have hrow := HS5.out.row
          have hll : ((kept.take i).map (·.f0)).length = i := by rw [List.length_map, List.length_take]; omega
          obtain ⟨sK, cK, e⟩ := hrow.sl
          rw [hll] at e
          subst e
          have HIQ : Aside0 (∀ n, Calls Try.prog 36 #[.slice sK i cK, .int .i64 f0] (w5.drewN n) fun e w'' => e = .returned (.bool (decide (f0 ∈ (kept.take i).map (·.f0)))) ∧ ∃ m, w'' = w5.drewN m) := ⟨inQ hrow (by rw [hll]; have := HL.out; omega) f0⟩
          have HLL := Aside0.mk hll
          have HE4 := Aside0.mk hE4
          have kb4 := blk_cell HS5.out.bb 5
          have kf := (HAT.out _ HS5.out.bel).1
          clear hrow hll hE4 HE3 c2
          obtain ⟨bd, hbd⟩ : ∃ bd, bd = decide (f0 ∈ (kept.take i).map (·.f0)) := ⟨_, rfl⟩
          rw [← hbd] at HIQ
          have HBD := Aside0.mk hbd
          clear hbd
          go_wp2_with fail
          go_quiet ((go_at_call 36; exact HIQ.out _))
          have HS6 : Aside0 (RN w na nl s lo hi kept b i (.slice sK i cK) (w5.drewN nq)) := ⟨HS5.out.below (pw_below_drewN (Below.refl _ _) _)⟩
          generalize w5.drewN nq = w6 at *
          clear kb4 kf HS5 HIQ
          cases bd with
          | true =>
            have c3 : f0 ∈ (kept.take i).map (·.f0) := of_decide_eq_true HBD.out.symm
            have hE5 := HE4.out
            rw [if_pos c3] at hE5
            have HE5 := Aside0.mk hE5
            clear hE5 c3
            go_wp2_with fail
            go_ret2
            exact ⟨.inl ⟨by rw [HE.out, ← HE5.out]; omega, by rw [HE.out, ← HE5.out]; rfl⟩, HS6.out.bel⟩
          | false =>
            have c3 : ¬ f0 ∈ (kept.take i).map (·.f0) := of_decide_eq_false HBD.out.symm
            have hE5 := HE4.out
            rw [if_neg c3] at hE5
            have HE5 := Aside0.mk hE5
            clear hE5 c3
            go_wp2_with fail
            go_upto_region 19 with fail
            have hrow6 : IRow w6.drew 0 (.slice sK i cK) ((kept.take i).map (·.f0)) := HS6.out.row.step (fun k _ => rfl)
            obtain ⟨v7, w7, r7, o7, hb7, g7, l7⟩ := hrow6.app1 (Nat.zero_le _) f0 (by rw [HLL.out]; have := HL.out; omega)
            obtain ⟨s7, c7, e7⟩ := o7.sl
            rw [List.length_append, List.length_singleton, HLL.out] at e7
            subst e7
            have R19 : Aside0 ((Builtin.append_ #[72, 72] 72 #[.slice sK i cK, .slice (some ⟨w6.heap.size, 0, none⟩) 1 1]).run Try.prog (w6.alloc (.cells #[.int .i64 f0] 3)).drew = .ok (.slice s7 (i + 1) c7) w7) := ⟨r7⟩
            have hbz := HS6.out.bb
            have hnbb : ∀ k, (Value.slice sK i cK).ownBlock = some k → k ≠ b := fun k hk e => own_ne_block hrow6 (show w6.drew.heap[b]? = _ from hbz) (by decide) (by rw [hk, e])
            have hnbn : ∀ k, (Value.slice sK i cK).ownBlock = some k → k ≠ w.heap.size := fun k hk e => by have := HS6.out.fr.2 k hk; omega
            have hb7x : w7.heap[b]? = _ := (g7.block b (blk_lt hbz) (fun e => hnbb b e.symm rfl)).trans hbz
            have hn7 : w7.heap[w.heap.size]? = _ := (g7.block w.heap.size (blk_lt HS6.out.bn) (fun e => hnbn _ e.symm rfl)).trans HS6.out.bn
            have hbel7 : Below w.heap.size w w7 := (HS6.out.bel.drew).grown g7 HS6.out.bel.drew.size (fun k hk => by have := HS6.out.fr.2 k hk; omega)
            have q0 : w6.drew.cell? ⟨b, 5, none⟩ = some (.slice sK i cK) := blk_cell hbz 5
            have q1 : w6.drew.cell? (ad.add (i * 2)) = some (.int .u32 f0) := (HAT.out _ HS6.out.bel.drew).1
            have hb6 : Below w6.heap.size w6 (w6.alloc (.cells #[.int .i64 f0] 3)).drew := (below_alloc (Below.refl _ _) _).drew
            have z0 : (w6.alloc (.cells #[.int .i64 f0] 3)).drew.cell? ⟨b, 5, none⟩ = some (.slice sK i cK) := blk_cell (blk_below hbz hb6) 5
            have z1 : (w6.alloc (.cells #[.int .i64 f0] 3)).drew.cell? (ad.add (i * 2)) = some (.int .u32 f0) := (HAT.out _ (below_step HS6.out.bel hb6)).1
            have y0 : w7.cell? ⟨b, 5, none⟩ = some (.slice sK i cK) := blk_cell hb7x 5
            have y1 : w7.cell? (ad.add (i * 2)) = some (.int .u32 f0) := (HAT.out _ hbel7).1
            have y3 : w7.frozen? ⟨b, 5, none⟩ = false := blk_frozen hb7x 5
            have HFIN : Aside0 (RN w na nl s lo hi kept b (i + 1) (.slice s7 (i + 1) c7) (w7.setCell ⟨b, 5, none⟩ (.slice s7 (i + 1) c7))) := ⟨by
              have hvf : ∀ k, (Value.slice s7 (i + 1) c7).ownBlock = some k → k ≠ b ∧ w.heap.size < k := fun k hk => by
                have hbl := blk_lt hbz
                have hnl := blk_lt HS6.out.bn
                rcases l7 k hk with h1 | h1
                · exact ⟨hnbb k h1, HS6.out.fr.2 k h1⟩
                · have e : w6.drew.heap.size = w6.heap.size := rfl
                  omega
              have hset : ∀ k, k ≠ b → (w7.setCell ⟨b, 5, none⟩ (.slice s7 (i + 1) c7)).heap[k]? = w7.heap[k]? := fun k hk => Below.heap_setCell w7 ⟨b, 5, none⟩ _ k hk
              have htk := HTK.out
              have hff : (kept.take (i + 1)).map (·.f0) = (kept.take i).map (·.f0) ++ [f0] := by rw [htk, List.map_append]; rfl
              refine ⟨blk_put hb7x 5 (.slice s7 (i + 1) c7) rfl, ?_, (hset _ (by have := HS6.out.fr.1; omega)).trans hn7, below_set hbel7 (by have := HS6.out.fr.1; omega), ⟨HS6.out.fr.1, fun k hk => (hvf k hk).2⟩, ?_⟩
              · rw [hff]
                exact o7.step (fun k hk => hset k (hvf k hk).1)
              · rw [hff, ← HE5.out]⟩
            have hwi : IntKind.i64.wrap ((i : Int) + 1) = ((i + 1 : Nat) : Int) := by have := HL.out; rw [wrap64_id (by omega) (by omega)]; omega
            clear r7 o7 g7 l7 hb7 hb7x hn7 hbel7 hbz hnbb hnbn hb6 hrow6
            refine start_ (n := 16) (S := fun w' => w'.cell? ⟨b, 5, none⟩ = some (.slice sK i cK) ∧ w'.cell? (ad.add (i * 2)) = some (.int .u32 f0)) (ds := [15]) #[false, false, false, false, false, false, false, false, false, false, false, false, false, false, false, false] (by kernel_rfl) rfl rfl ⟨q0, q1⟩ (fun hHeld => ?_)
            refine pure_ (i := 0) (N := some 70) (v := ?_) (a' := ?_) #[true, false, false, false, false, false, false, false, false, false, false, false, false, false, false, false] rfl rfl (by kernel_rfl) (fun _ _ _ h => h) (Or.inl ⟨by rfl, ?_⟩) ?_ ?_
            rotate_left
            · intro w'
              go_simp
              with_reducible rfl
            rotate_left
            · simp only [Act.put, List.setIfInBounds_toArray, List.set_cons_zero, List.set_cons_succ, i64_w, i32_w]
              rfl
            refine pure_ (i := 1) (N := some 71) (v := ?_) (a' := ?_) #[true, true, false, false, false, false, false, false, false, false, false, false, false, false, false, false] rfl rfl (by kernel_rfl) (fun _ _ _ h => h) (Or.inl ⟨by rfl, ?_⟩) ?_ ?_
            rotate_left
            · intro w'
              go_simp
              with_reducible rfl
            rotate_left
            · simp only [Act.put, List.setIfInBounds_toArray, List.set_cons_zero, List.set_cons_succ, i64_w, i32_w]
              rfl
            refine pure_ (i := 2) (N := some 72) (v := ?_) (a' := ?_) #[true, true, true, false, false, false, false, false, false, false, false, false, false, false, false, false] rfl rfl (by kernel_rfl) (fun _ _ _ h => h) (Or.inl ⟨by rfl, ?_⟩) ?_ ?_
            rotate_left
            · intro w'
              go_simp
              with_reducible rfl
            rotate_left
            · simp only [Act.put, List.setIfInBounds_toArray, List.set_cons_zero, List.set_cons_succ, i64_w, i32_w]
              rfl
            refine pure_ (i := 3) (N := some 73) (v := ?_) (a' := ?_) #[true, true, true, true, false, false, false, false, false, false, false, false, false, false, false, false] rfl rfl (by kernel_rfl) (fun _ _ _ h => h) (Or.inl ⟨by rfl, ?_⟩) ?_ ?_
            rotate_left
            · intro w'
              go_simp
              with_reducible rfl
            rotate_left
            · simp only [Act.put, List.setIfInBounds_toArray, List.set_cons_zero, List.set_cons_succ, i64_w, i32_w]
              rfl
            refine pure_ (i := 5) (N := some 75) (v := ?_) (a' := ?_) #[true, true, true, true, false, true, false, false, false, false, false, false, false, false, false, false] rfl rfl (by kernel_rfl) (fun _ _ _ h => h) (Or.inl ⟨by rfl, ?_⟩) ?_ ?_
            rotate_left
            · intro w'
              go_simp
              with_reducible rfl
            rotate_left
            · simp only [Act.put, List.setIfInBounds_toArray, List.set_cons_zero, List.set_cons_succ, i64_w, i32_w]
              rfl
            refine pure_ (i := 6) (N := some 76) (v := ?_) (a' := ?_) #[true, true, true, true, false, true, true, false, false, false, false, false, false, false, false, false] rfl rfl (by kernel_rfl) (fun _ _ _ h => h) (Or.inl ⟨by rfl, ?_⟩) ?_ ?_
            rotate_left
            · intro w'
              go_simp
              with_reducible rfl
            rotate_left
            · simp only [Act.put, List.setIfInBounds_toArray, List.set_cons_zero, List.set_cons_succ, i64_w, i32_w]
              rfl
            refine pure_ (i := 7) (N := some 77) (v := ?_) (a' := ?_) #[true, true, true, true, false, true, true, true, false, false, false, false, false, false, false, false] rfl rfl (by kernel_rfl) (fun _ _ _ h => h) (Or.inl ⟨by rfl, ?_⟩) ?_ ?_
            rotate_left
            · intro w'
              go_simp
              with_reducible rfl
            rotate_left
            · simp only [Act.put, List.setIfInBounds_toArray, List.set_cons_zero, List.set_cons_succ, i64_w, i32_w]
              rfl
            refine pure_ (i := 8) (N := some 78) (v := ?_) (a' := ?_) #[true, true, true, true, false, true, true, true, true, false, false, false, false, false, false, false] rfl rfl (by kernel_rfl) (fun _ _ _ h => h) (Or.inl ⟨by rfl, ?_⟩) ?_ ?_
            rotate_left
            · intro w'
              go_simp
              with_reducible rfl
            rotate_left
            · simp only [Act.put, List.setIfInBounds_toArray, List.set_cons_zero, List.set_cons_succ, i64_w, i32_w]
              rfl
            refine take_ (i := 4) (N := some 74) (v := ?_) (a' := ?_) #[true, true, true, true, true, true, true, true, true, false, false, false, false, false, false, false] rfl rfl (by kernel_rfl) (fun _ _ _ h => h) (Or.inl ⟨by rfl, ?_⟩) hHeld ?_ ?_
            rotate_left
            · rintro w' ⟨s0, s1⟩
              go_simp
              with_reducible rfl
            rotate_left
            · simp only [Act.put, List.setIfInBounds_toArray, List.set_cons_zero, List.set_cons_succ, i64_w, i32_w]
              rfl
            refine take_ (i := 9) (N := some 79) (v := ?_) (a' := ?_) #[true, true, true, true, true, true, true, true, true, true, false, false, false, false, false, false] rfl rfl (by kernel_rfl) (fun _ _ _ h => h) (Or.inl ⟨by rfl, ?_⟩) hHeld ?_ ?_
            rotate_left
            · rintro w' ⟨s0, s1⟩
              go_simp
              with_reducible rfl
            rotate_left
            · simp only [Act.put, List.setIfInBounds_toArray, List.set_cons_zero, List.set_cons_succ, i64_w, i32_w]
              rfl
            refine pure_ (i := 10) (N := some 80) (v := ?_) (a' := ?_) #[true, true, true, true, true, true, true, true, true, true, true, false, false, false, false, false] rfl rfl (by kernel_rfl) (fun _ _ _ h => h) (Or.inl ⟨by rfl, ?_⟩) ?_ ?_
            rotate_left
            · intro w'
              go_simp
              with_reducible rfl
            rotate_left
            · simp only [Act.put, List.setIfInBounds_toArray, List.set_cons_zero, List.set_cons_succ, i64_w, i32_w]
              rfl
            refine one_ (i := 11) (N := some 81) #[true, true, true, true, true, true, true, true, true, true, true, true, false, false, false, false] rfl rfl (by kernel_rfl) (by decide) (fun K hK => ?_)
            refine value_ (w1 := ?_) (v := ?_) (by rfl) rfl ?_ ?_
            rotate_left 2
            · go_simp
              constructor
              · rfl
              · rfl
            refine hK.out _ _ ⟨z0, z1⟩ (fun hHeld => ?_)
            clear hK K
            refine norm_ (a' := ?_) ?_ ?_
            rotate_left
            · show Act.put _ (some 81) _ = _
              simp only [Act.put, List.setIfInBounds_toArray, List.set_cons_zero, List.set_cons_succ, i64_w, i32_w]
              rfl
            refine one_ (i := 12) (N := some 82) #[true, true, true, true, true, true, true, true, true, true, true, true, true, false, false, false] rfl rfl (by kernel_rfl) (by decide) (fun K hK => ?_)
            refine step_append_run rfl (.tmp 74) (.tmp 81) 72 rfl (by rfl) (by rfl) R19.out ?_
            refine hK.out _ _ ⟨y0, y1⟩ (fun hHeld => ?_)
            clear hK K
            refine norm_ (a' := ?_) ?_ ?_
            rotate_left
            · show Act.put _ (some 82) _ = _
              simp only [Act.put, List.setIfInBounds_toArray, List.set_cons_zero, List.set_cons_succ, i64_w, i32_w]
              rfl
            refine pure_ (i := 13) (N := some 83) (v := ?_) (a' := ?_) #[true, true, true, true, true, true, true, true, true, true, true, true, true, true, false, false] rfl rfl (by kernel_rfl) (fun _ _ _ h => h) (Or.inl ⟨by rfl, ?_⟩) ?_ ?_
            rotate_left
            · intro w'
              go_simp
              with_reducible rfl
            rotate_left
            · simp only [Act.put, List.setIfInBounds_toArray, List.set_cons_zero, List.set_cons_succ, i64_w, i32_w]
              rfl
            refine pure_ (i := 14) (N := some 84) (v := ?_) (a' := ?_) #[true, true, true, true, true, true, true, true, true, true, true, true, true, true, true, false] rfl rfl (by kernel_rfl) (fun _ _ _ h => h) (Or.inl ⟨by rfl, ?_⟩) ?_ ?_
            rotate_left
            · intro w'
              go_simp
              with_reducible rfl
            rotate_left
            · simp only [Act.put, List.setIfInBounds_toArray, List.set_cons_zero, List.set_cons_succ, i64_w, i32_w]
              rfl
            refine last_ (i := 15) (N := none) #[true, true, true, true, true, true, true, true, true, true, true, true, true, true, true, true] rfl rfl (by kernel_rfl) (by decide) (fun K hK => ?_)
            refine skip_ (w1 := ?_) (by rfl) rfl ?_ ?_
            rotate_left
            · go_simp
              rfl
            refine hK.out _ _ ?_
            clear hK K
            refine done_ (by kernel_rfl) ?_
            go_wp2_with fail
            go_roundg (kept.length - (i + 1))
            case measure => have := HGG.out; have := HLT.out; omega
            case rel => exact ⟨i + 1, _, rfl, rfl, by have := HLT.out; omega, HFIN⟩
        · have hE4 := HE3.out
          rw [if_pos c2] at hE4
          rw [decide_eq_false c2]
          have HE4 := Aside0.mk hE4
          clear hE4 c2
          go_wp2_with fail
          go_ret2
          exact ⟨.inl ⟨by rw [HE.out, ← HE4.out]; omega, by rw [HE.out, ← HE4.out]; rfl⟩, HS5.out.bel⟩
      · rw [if_pos c1'] at hE2
        have hdb : decide (sub (Zp na nl s) f0 f1) = false := decide_eq_false c1'
        rw [hdb]
        have HE2 := Aside0.mk hE2
        clear hdb hE2 c1'
        go_wp2_with fail
        go_ret2
        refine ⟨.inl ⟨by rw [HE.out, ← HE2.out]; omega, by rw [HE.out, ← HE2.out]; rfl⟩, HS3.out.bel⟩
    · have hii : ¬ (i : Int) < (kept.length : Int) := by omega
      obtain rfl : i = kept.length := by omega
      have hE2 := HS8.out.he
      rw [List.drop_length] at hE2
      have hE3 : newE na nl s lo hi kept = 0 := by rw [HE.out, ← hE2]; unfold keptE; rfl
      have HE3 := Aside0.mk hE3
      clear hE2 hE3
      go_wp2_with fail
      go_ret2
      refine ⟨.inr ⟨HE3.out, b, vk, rfl, ?_, ?_, ?_⟩, HS8.out.bel⟩
      · have hM := newM_ok HNA.out.1 HNA.out.2 HLH.out.1.1 HLH.out.2.2 HE3.out
        obtain ⟨hlen, hgood, hok⟩ := newE_ok.1 HE3.out
        have e1 : lo / sizeF s * sizeF s = lo := div_mul hgood.dlo
        have e2 : hi / sizeF s * sizeF s = hi := div_mul hgood.dhi
        have hrow := HS8.out.row
        rw [List.take_length] at hrow
        refine ⟨?_, hrow, IRow.nil _ _, fun k hk e => by cases e⟩
        have := HS8.out.bb
        show wr.heap[b]? = some (.cells #[.int .u32 na, .int .i64 nl, .int .i64 s, .int .i64 (lo / sizeF s * sizeF s), .int .i64 (hi / sizeF s * sizeF s), vk, .slice none 0 0] 74 (0, 0))
        rw [e1, e2]
        exact this
      · obtain ⟨hlen, hgood, hok⟩ := newE_ok.1 HE3.out
        refine ⟨by rw [List.length_map]; exact hlen, hok.nd, fun k => ?_, List.nodup_nil, fun k => by simp⟩
        show k ∈ kept.map (·.f0) ↔ ∃ x, x ∈ SortI.srt (kept.map (fun k => k.f0 / sizeF s)) ∧ k = x * sizeF s
        simp only [SortI.srt_mem, List.mem_map]
        constructor
        · rintro ⟨a, ha, rfl⟩
          exact ⟨a.f0 / sizeF s, ⟨a, ha, rfl⟩, (div_mul (hok.all a ha).2.1.2.2).symm⟩
        · rintro ⟨x, ⟨a, ha, rfl⟩, rfl⟩
          exact ⟨a, ha, (div_mul (hok.all a ha).2.1.2.2).symm⟩
      · intro k hk
        simp only [RF, Value.ownBlock, Option.toList_none, List.append_nil, List.mem_cons, Option.mem_toList, Option.mem_def] at hk
        rcases hk with rfl | hk
        · have := HS8.out.fr.1; omega
        · have := HS8.out.fr.2 k hk; omega
theorem rnew11 (w : World) (na nl s lo hi : Int) (A : Option Addr) (kept : List S27) (c : Nat) (hm : kept.length ≤ maxLen) (hb0 : 0 ≤ na) (hb1 : na < 4294967296) (hl0 : 0 ≤ lo) (hl1 : lo < 4294967296) (hh0 : 0 ≤ hi) (hh1 : hi < 4294967296)
    (hC : Kd.C k27 w A kept.length kept) (hW : ∀ k, k ∈ kept → 0 ≤ k.f0 ∧ k.f0 < 4294967296) :
    Calls Try.prog 11 #[.agg #[.int .u32 na, .int .i64 nl], .int .i64 s, .int .u32 lo, .int .u32 hi, .slice A kept.length c] w (RNewPost w na nl s lo hi kept) := by
  by_cases h : 1024 < kept.length
  · exact rnew_long w na nl s lo hi A kept c h hm
  · by_cases hf : faultF na nl s lo hi = 0
    · exact rnew_kept w na nl s lo hi A kept c (by omega) hb0 hb1 hl0 hl1 hh0 hh1 hf hC hW
    · exact rnew_fault w na nl s lo hi A kept c (by omega) hb0 hb1 hl0 hl1 hh0 hh1 hf
end Go.Proofs.Ytebnlhjakiipjaa.Pl
