/- The reference's Take walked. Conditions: the pool is as it is made. -/
import Derived.Test.YtebnlhjakiipjaaPrB
set_option linter.unusedVariables false
set_option linter.unusedSimpArgs false
namespace Go.Proofs.Ytebnlhjakiipjaa.Pl
open Go.RowKit Go.Maps Go.Proofs.YtebnlhjakiipjaaW.PrintWords Go.Proofs.YtebnlhjakiipjaaW.PrintMore Go.Proofs.YtebnlhjakiipjaaW.PrintLast Go.Proofs.Ytebnlhjakiipjaa.PPlf
set_option maxHeartbeats 16000000 in
set_option maxRecDepth 100000 in
theorem rtake42 (w : World) (b : Nat) (vk vt : Value) (M : Pm) (K L T : List Int) (hM : MOk M) (hL : Lok M L) (hr : L.Pairwise (· < ·)) (h : RS w b vk vt M K T) (ho : RO M K L T) :
    Calls Try.prog 42 #[.pointer (some ⟨b, 0, none⟩)] w fun e w' => e = .returned (takeV M (takeF M L)) ∧ ∃ vt' T', RS w' b vk vt' M K T' ∧ T' = takeT M.s (takeF M L) T ∧ Turn w w' (b :: vt.ownBlock.toList) ∧ NB vt vt' w := by
  have hb0 := below_alloc (Below.refl w.heap.size w) (.cells #[.int .u32 0, .int .i64 0] 27)
  have kp := heap_alloc_new w (.cells #[.int .u32 0, .int .i64 0] 27)
  have HB0 := Aside0.mk hb0
  have H0 := Aside0.mk h
  have KP := Aside0.mk kp
  have HS := Aside0.mk (h.below hb0)
  have HO := Aside0.mk ho
  have HMM := Aside0.mk hM
  have HTL := Aside0.mk (ho.tlen hM hL hr)
  have hs0 := hM.ok.s0
  have hs1 := hM.ok.s1
  have hsz := sizeF_rng hs0 hs1
  have HSC := Aside0.mk (fun (W : World) => sizeC W hs0 hs1)
  have hmn := hM.row.mn0
  have hmx := hM.row.mx1
  have HN := Aside0.mk (And.intro hsz (And.intro hmn (And.intro hmx hM.mm)))
  have HPB : Aside0 (b < w.heap.size) := ⟨blk_lt h.blk⟩
  obtain ⟨A, c, hvk⟩ := h.rk.sl
  obtain ⟨A', c', hvt⟩ := h.rt.sl
  subst hvk hvt
  obtain ⟨S, hS⟩ : ∃ S, S = sizeF M.s := ⟨_, rfl⟩
  obtain ⟨lo, hlo⟩ : ∃ lo, lo = M.mn * sizeF M.s := ⟨_, rfl⟩
  obtain ⟨hi, hhi⟩ : ∃ hi, hi = M.mx * sizeF M.s := ⟨_, rfl⟩
  have HE := Aside0.mk (And.intro hS (And.intro hlo hhi))
  rw [← hS] at HSC
  have HW : Aside0 (∀ W v, RS W b (.slice A K.length c) v M K T → W.heap[b]? = some (.cells #[.int .u32 M.na, .int .i64 M.nl, .int .i64 M.s, .int .i64 lo, .int .i64 hi, .slice A K.length c, v] 74 (0, 0))) := ⟨fun W v h => by rw [hlo, hhi]; exact h.blk⟩
  clear hS hlo hhi hb0 kp h ho hL hr hs0 hs1 hsz hmn hmx
  have hK := HW.out _ _ HS.out
  have kc2 := blk_cell hK 2
  clear hK
  go_enter Try.func42, Try.ntmps42
  go_wp2_with fail
  generalize w.alloc (.cells #[.int .u32 0, .int .i64 0] 27) = w1 at *
  refine (HSC.out _).mono ?_
  rintro e_ w2 ⟨rfl, hb2⟩
  have HS2 := Aside0.mk (HS.out.below hb2)
  have KP2 := Aside0.mk (blk_below KP.out hb2)
  have HB2 := Aside0.mk (below_step HB0.out hb2)
  have hK := HW.out _ _ HS2.out
  have kc3 := blk_cell hK 3
  clear hb2 kc2 hK HS KP HB0
  go_wp2_with fail
  go_loopg [5] (M.mx + 1 - M.mn).toNat (fun gg v5 wr => ∃ x y : Int, v5 = .int .i64 y ∧ Aside0 (y = x * sizeF M.s ∧ gg = (M.mx + 1 - x).toNat ∧ M.mn ≤ x ∧ x ≤ M.mx + 1) ∧ Aside0 (∀ z, M.mn ≤ z → z < x → z ∈ M.kept ∨ z ∈ L) ∧ Aside0 (RS wr b (.slice A K.length c) (.slice A' T.length c') M K T) ∧ Aside0 (wr.heap[w.heap.size]? = some (.cells #[.int .u32 0, .int .i64 0] 27 (0, 0))) ∧ Aside0 (Below w.heap.size w wr))
  case atStart => exact ⟨M.mn, lo, rfl, ⟨HE.out.2.1, rfl, Int.le_refl _, by have := HN.out.2.2.2; omega⟩, ⟨fun z h0 h1 => by omega⟩, HS2, KP2, HB2⟩
  case round =>
    clear HS2 KP2 HB2 kc3
    obtain ⟨x, y, rfl, HY, HALL, HS, HP, HB⟩ := hrel
    have hK := HW.out _ _ HS.out
    have kc4 := blk_cell hK 4
    have kc5 := blk_cell hK 5
    clear hK
    have HLE : Aside0 (y ≤ hi ↔ x ≤ M.mx) := ⟨by rw [HY.out.1, HE.out.2.2]; exact Int.mul_le_mul_right (by have := HN.out.1; omega)⟩
    by_cases hle : y ≤ hi
    · have hxm := HLE.out.1 hle
      have HXM := Aside0.mk hxm
      clear hxm
      go_wp2_with fail
      refine (inC HS.out.rk (by have := HO.out.kl; omega) y).mono ?_
      rintro e_ w3 ⟨rfl, hb3⟩
      have HS3 := Aside0.mk (HS.out.below hb3)
      have HP3 := Aside0.mk (blk_below HP.out hb3)
      have HB3 := Aside0.mk (below_step HB.out hb3)
      have kc6 := blk_cell (HW.out _ _ HS3.out) 6
      have HIK : Aside0 (y ∈ K ↔ x ∈ M.kept) := ⟨by rw [HY.out.1]; exact HO.out.k_mem HMM.out x⟩
      have HIT : Aside0 (y ∈ T ↔ x ∈ L) := ⟨by rw [HY.out.1]; exact HO.out.t_mem HMM.out x⟩
      obtain ⟨bk, hbk⟩ : ∃ bk, bk = decide (y ∈ K) := ⟨_, rfl⟩
      have HBK := Aside0.mk hbk
      rw [← hbk]
      clear hb3 hbk HS HP HB kc4 kc5
      go_wp2_with fail
      refine (inC HS3.out.rt HTL.out y).mono ?_
      rintro e_ w4 ⟨rfl, hb4⟩
      have HS4 := Aside0.mk (HS3.out.below hb4)
      have HP4 := Aside0.mk (blk_below HP3.out hb4)
      have HB4 := Aside0.mk (below_step HB3.out hb4)
      obtain ⟨bt, hbt⟩ : ∃ bt, bt = decide (y ∈ T) := ⟨_, rfl⟩
      have HBT := Aside0.mk hbt
      rw [← hbt]
      have hK := HW.out _ _ HS4.out
      clear hb4 hbt HS3 HP3 HB3 kc6
      have hws : wrap64 (y + S) = y + S := by
        have h1 := HN.out
        have h2 := HY.out
        have h3 := HE.out
        have h4 := HXM.out
        have : y ≤ hi := hle
        have h5 : 0 ≤ y := by rw [h2.1]; exact Int.mul_nonneg (by omega) (by omega)
        rw [← h3.2.2] at h1
        exact w64 (by omega) (by omega)
      cases bk with
      | true =>
        have HTHIS : Aside0 (x ∈ M.kept ∨ x ∈ L) := ⟨.inl (HIK.out.1 (of_decide_eq_true HBK.out.symm))⟩
        go_wp2_with fail
        go_roundg (M.mx + 1 - (x + 1)).toNat
        case measure => have := HY.out; have := HXM.out; omega
        case rel => exact ⟨x + 1, y + S, by rw [hws], ⟨by rw [HY.out.1, HE.out.1, Int.add_mul, Int.one_mul], rfl, by have := HY.out; omega, by have := HXM.out; omega⟩, ⟨fun z h0 h1 => by
          by_cases hz : z = x
          · rw [hz]; exact HTHIS.out
          · exact HALL.out z h0 (by omega)⟩, HS4, HP4, HB4⟩
      | false =>
        cases bt with
        | true =>
          have HTHIS : Aside0 (x ∈ M.kept ∨ x ∈ L) := ⟨.inr (HIT.out.1 (of_decide_eq_true HBT.out.symm))⟩
          go_wp2_with fail
          go_roundg (M.mx + 1 - (x + 1)).toNat
          case measure => have := HY.out; have := HXM.out; omega
          case rel => exact ⟨x + 1, y + S, by rw [hws], ⟨by rw [HY.out.1, HE.out.1, Int.add_mul, Int.one_mul], rfl, by have := HY.out; omega, by have := HXM.out; omega⟩, ⟨fun z h0 h1 => by
            by_cases hz : z = x
            · rw [hz]; exact HTHIS.out
            · exact HALL.out z h0 (by omega)⟩, HS4, HP4, HB4⟩
        | false =>
          have hnk : x ∉ M.kept := fun h => by have := HIK.out.2 h; have h2 := HBK.out; simp [this] at h2
          have hnt : x ∉ L := fun h => by have := HIT.out.2 h; have h2 := HBT.out; simp [this] at h2
          have HTF : Aside0 (takeF M L = some x) := ⟨find_upto HY.out.2.2.1 HXM.out (by simp [hnk, hnt]) (fun z h0 h1 => by rcases HALL.out z h0 h1 with h | h <;> simp [h])⟩
          have HNT := Aside0.mk hnt
          clear hnk hnt
          go_upto_region 8 with fail
          obtain ⟨v7, w7, r7, o7, hb7, g7, l7⟩ := HS4.out.rt.app1 (Nat.zero_le _) y (by have := HTL.out; omega)
          obtain ⟨s7, c7, e7⟩ := o7.sl
          rw [List.length_append, List.length_singleton] at e7
          subst e7
          have R7 := Aside0.mk r7
          have HPUT := Aside0.mk (HS4.out.put o7 g7 l7)
          have L7 : Aside0 (NB _ _ _) := ⟨l7⟩
          have kc6 := blk_cell (HW.out _ _ HS4.out) 6
          have hK4 := HW.out _ _ HS4.out
          have z1 : (w4.alloc (.cells #[.int .i64 y] 3)).cell? ⟨b, 6, none⟩ = some (.slice A' T.length c') := blk_cell (blk_below hK4 (below_alloc (Below.refl _ _) _)) 6
          have hb7x : w7.heap[b]? = _ := (g7.block b (blk_lt hK4) (fun e => HS4.out.nb.2 e.symm)).trans hK4
          have y3 : w7.frozen? ⟨b, 6, none⟩ = false := blk_frozen hb7x 6
          have y2 : w7.cell? ⟨b, 2, none⟩ = some (.int .i64 M.s) := blk_cell hb7x 2
          have hp7 : w7.heap[w.heap.size]? = _ := (g7.block _ (blk_lt HP4.out) (fun e => by have := (H0.out.rt.lt _ e.symm).2; omega)).trans HP4.out
          have y1 : w7.cell? ⟨b, 6, none⟩ = some (.slice A' T.length c') := blk_cell hb7x 6
          have kx0 := blk_cell hp7 0
          have kx1 := blk_cell hp7 1
          have hpb : ¬ b = w.heap.size := by have := HPB.out; omega
          have hpb2 : ¬ w.heap.size = b := by have := HPB.out; omega
          have fr0 := blk_frozen hp7 0
          have fr1 := blk_frozen hp7 1
          have HP7 := Aside0.mk hp7
          have hwu : IntKind.u32.wrap y = y := by
            have h1 := HN.out
            have h2 := HY.out
            have h3 := HE.out
            have : y ≤ hi := hle
            have h5 : 0 ≤ y := by rw [h2.1]; exact Int.mul_nonneg (by omega) (by omega)
            rw [← h3.2.2] at h1
            exact u32_id h5 (by omega)
          clear r7 o7 hK4 hb7x g7 l7 hp7
          go_wp2_with ((with_reducible refine gate_builtin (b := .append) (xs := #[.tmp 48, .tmp 50]) rfl ?_); at_builtin; refine wpList_append_run rfl (.tmp 48) (.tmp 50) 72 rfl rfl rfl R7.out ?_)
          try rw [Exit.noGoto_ret]
          have hbr := blk_put (blk_put (show (w7.setCell ⟨b, 6, none⟩ (.slice s7 (T.length + 1) c7)).heap[w.heap.size]? = _ from (Below.heap_setCell w7 ⟨b, 6, none⟩ _ _ (fun e => by have e' : w.heap.size = b := e; have := HPB.out; omega)).trans HP7.out) 0 (.int .u32 y) rfl) 1 (.int .i64 M.s) rfl
          have c0 := blk_cell hbr 0
          have c1 := blk_cell hbr 1
          have hpf := H0.out.fresh L7.out (Nat.le_refl w.heap.size) (blk_lt HP4.out)
          refine bodyPost_ret (v := .tuple #[.agg #[.int .u32 y, .int .i64 M.s], .int .i64 0]) ?_ rfl ⟨by rw [HTF.out, HY.out.1]; rfl, _, T ++ [y], (HPUT.out.1.far hpf).far hpf, by rw [HTF.out, HY.out.1]; rfl, ((Turn.of_below HB4.out _).trans HPUT.out.2 (fun k hk => .inl hk) |>.set (.inr (Nat.le_refl _)) _).set (.inr (Nat.le_refl _)) _, L7.out.less HB4.out.size⟩
          simp [results, Try.results42, go_sem, c0, c1]
    · have hxm : ¬ x ≤ M.mx := fun h => hle (HLE.out.2 h)
      have htf : takeF M L = none := List.find?_eq_none.2 (fun z hz => by
        rw [upto_mem] at hz
        rcases HALL.out z hz.1 (by omega) with h | h <;> simp [h])
      have HTF := Aside0.mk htf
      clear htf
      have kx0 := blk_cell HP.out 0
      have kx1 := blk_cell HP.out 1
      have fr0 := blk_frozen HP.out 0
      have fr1 := blk_frozen HP.out 1
      go_wp2_with fail
      try rw [Exit.noGoto_ret]
      have hbr := blk_put (blk_put HP.out 0 (.int .u32 0) rfl) 1 (.int .i64 0) rfl
      have c0 := blk_cell hbr 0
      have c1 := blk_cell hbr 1
      have hbf := below_set (j := 1) (v := .int .i64 0) (below_set (j := 0) (v := .int .u32 0) HB.out (Nat.le_refl _)) (Nat.le_refl _)
      refine bodyPost_ret (v := .tuple #[.agg #[.int .u32 0, .int .i64 0], .int .i64 4]) ?_ rfl ⟨by rw [HTF.out]; rfl, _, T, H0.out.below hbf, by rw [HTF.out]; rfl, Turn.of_below hbf _, NB.self _ _⟩
      simp [results, Try.results42, go_sem, c0, c1]
end Go.Proofs.Ytebnlhjakiipjaa.Pl
