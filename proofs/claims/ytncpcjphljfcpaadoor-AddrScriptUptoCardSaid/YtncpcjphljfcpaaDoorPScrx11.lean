-- written by xp.sh, a program of this seat's session
import Derived.Test.YtncpcjphljfcpaaDoorPScrx0
import Derived.Test.YtncpcjphljfcpaaDoorPScrx8
import Derived.Test.YtncpcjphljfcpaaDoorPScrx10
namespace Go.Proofs.YtncpcjphljfcpaaDoor.PScr
open Go.RowKit Go.Proofs.YtncpcjphljfcpaaDoorW.PrintWords Go.Proofs.YtncpcjphljfcpaaDoorW.PrintLast Go.Proofs.YtncpcjphljfcpaaDoorW.PrintMore
attribute [local go_sem] max2_int min2_int max_two min_two max_three min_three max_four min_four   -- for this text's walks alone
set_option linter.unusedVariables false
set_option linter.unusedSimpArgs false

/-! ### weftref1_Merge: function 51 -/
-- calls=weft/weftref1.Span weft/weftref1.covered
structure SRun where
  f0 : Int
  f1 : Int
def zRun : SRun := ⟨(0 : Int), (0 : Int)⟩
def kRun : Kd SRun := Kd.iso (Kd.pair (Kd.int .i64) (Kd.int .i64)) (fun x : SRun => (x.f0, x.f1))
theorem kRun_open {w : World} {x : SRun} {cs : List Value} (h : kRun.K w x cs) : cs = [.int .i64 x.f0, .int .i64 x.f1] := by
  obtain ⟨_, _, rfl, rfl, rfl⟩ := h
  exact rfl
theorem kRun_openM {w : World} {base : Nat} {ok : Nat → Prop} {x : SRun} {cs : List Value} (h : kRun.M w base ok x cs) : cs = [.int .i64 x.f0, .int .i64 x.f1] := by
  obtain ⟨_, _, rfl, rfl, rfl⟩ := h
  exact rfl
theorem kRun_mk (w : World) (x : SRun)  : kRun.K w x [.int .i64 x.f0, .int .i64 x.f1] := ⟨[.int .i64 x.f0], [.int .i64 x.f1], rfl, rfl, rfl⟩
theorem kRun_mkM (w : World) (base : Nat) (ok : Nat → Prop) (x : SRun)  : kRun.M w base ok x [.int .i64 x.f0, .int .i64 x.f1] := ⟨[.int .i64 x.f0], [.int .i64 x.f1], rfl, rfl, rfl⟩
theorem kRun_mkF (W : World) (ok : Nat → Prop) (x : SRun) : Kd.FK kRun W ok x [.int .i64 x.f0, .int .i64 x.f1] := fun W2 _ => kRun_mk W2 x
def rdRun (xs : List SRun) (i : Int) : SRun := xs.getD i.toNat zRun
theorem atRun {w : World} {A : Option Addr} {n : Nat} {xs : List SRun} (h : Kd.C kRun w A n xs) (i : Int) (h0 : 0 ≤ i) (h1 : i < n) : ∃ ad , A = some ad ∧ w.cell? (ad.add (i.toNat * 2)) = some (.int .i64 (rdRun xs i).f0) ∧ w.cell? ⟨(ad.add (i.toNat * 2)).block, (ad.add (i.toNat * 2)).off + 1, none⟩ = some (.int .i64 (rdRun xs i).f1) := by
  obtain ⟨ad, c, e, _, hK, hc0⟩ := Kd.C_get h zRun i h0 h1
  have hc : ∀ j u, c[j]? = some u → w.cell? (ad.add (i.toNat * 2 + j)) = some u := hc0
  obtain rfl := kRun_open hK
  exact ⟨ad, e, hc 0 _ rfl, by rw [← add_field _ _ 1 (by omega)]; exact hc 1 _ rfl⟩
def leR (x y : SRun) : Bool := decide (x.f0 ≤ y.f0)
/-- weftref1.sorted, by a bound of its depth -/
def srtR : Nat → List SRun → List SRun
  | 0, l => l
  | n + 1, l => if l.length < 2 then l else (srtR n (l.take (l.length / 2))).merge (srtR n (l.drop (l.length / 2))) leR
theorem rdR {l : List SRun} {i : Nat} (h : i < l.length) : rdRun l i = l[i] := by simp [rdRun, List.getD_eq_getElem?_getD, h]
theorem merge_l {a b : List SRun} {i j : Nat} (hi : i < a.length) (h : ∀ _ : j < b.length, (rdRun a i).f0 ≤ (rdRun b j).f0) :
    (a.drop i).merge (b.drop j) leR = ⟨(rdRun a i).f0, (rdRun a i).f1⟩ :: (a.drop (i + 1)).merge (b.drop j) leR := by
  rw [List.drop_eq_getElem_cons hi]
  by_cases hj : j < b.length
  · have h1 := h hj
    rw [rdR hi, rdR hj] at h1
    rw [List.drop_eq_getElem_cons hj, List.cons_merge_cons, if_pos (by unfold leR; exact decide_eq_true h1), rdR hi]
  · rw [show b.drop j = [] from List.drop_eq_nil_of_le (by omega), List.merge_right, List.merge_right, rdR hi]
theorem merge_r {a b : List SRun} {i j : Nat} (hj : j < b.length) (h : ∀ _ : i < a.length, ¬ (rdRun a i).f0 ≤ (rdRun b j).f0) :
    (a.drop i).merge (b.drop j) leR = ⟨(rdRun b j).f0, (rdRun b j).f1⟩ :: (a.drop i).merge (b.drop (j + 1)) leR := by
  rw [List.drop_eq_getElem_cons hj]
  by_cases hi : i < a.length
  · have h1 := h hi
    rw [rdR hi, rdR hj] at h1
    rw [List.drop_eq_getElem_cons hi, List.cons_merge_cons, if_neg (by unfold leR; simpa using h1), rdR hj]
  · rw [show a.drop i = [] from List.drop_eq_nil_of_le (by omega), List.nil_merge, List.nil_merge, rdR hj]
theorem infoR : (Tryd.prog.info? 90).map (fun i => (i.zero, i.size, i.bytes)) = some (some (.agg #[(.int .i64 0), (.int .i64 0)]), 2, 16) := by kernel_rfl
theorem meas_l {n m i j : Nat} (h : i < n) : (n - (intOf (.int .i64 ((i + 1 : Nat) : Int))).toNat) + (m - (intOf (.int .i64 (j : Int))).toNat) < (n - (intOf (.int .i64 (i : Int))).toNat) + (m - (intOf (.int .i64 (j : Int))).toNat) := by
  simp [intOf]; omega
theorem meas_r {n m i j : Nat} (h : j < m) : (n - (intOf (.int .i64 (i : Int))).toNat) + (m - (intOf (.int .i64 ((j + 1 : Nat) : Int))).toNat) < (n - (intOf (.int .i64 (i : Int))).toNat) + (m - (intOf (.int .i64 (j : Int))).toNat) := by
  simp [intOf]; omega
theorem srtR_len : ∀ (n : Nat) (l : List SRun), (srtR n l).length = l.length
  | 0, _ => rfl
  | n + 1, l => by
    unfold srtR
    split
    · rfl
    · rw [List.length_merge, srtR_len n, srtR_len n, List.length_take, List.length_drop]; omega
set_option maxHeartbeats 4000000 in
set_option maxRecDepth 100000 in
theorem sorted_walk : ∀ (n : Nat) (l0 : List SRun) (A0 : Option Addr) (c0 : Nat) (w : World), l0.length ≤ n → l0.length ≤ 1000000 → Kd.C kRun w A0 l0.length l0 → l0.length ≤ c0 →
    Calls Tryd.prog 55 #[.slice A0 l0.length c0] w fun e w' => ∃ (A1 : Option Addr) (c1 : Nat), e = .returned (.slice A1 l0.length c1) ∧ Kd.C kRun w' A1 l0.length (srtR n l0) ∧ l0.length ≤ c1 ∧ Below w.heap.size w w' := by
  intro n
  induction n with
  | zero =>
    intro l0 A0 c0 w hn hM hr hc
    have h0 : decide ((l0.length : Int) < 2) = true := decide_eq_true (by omega)
    have HR := Aside0.mk hr
    clear hr
    go_enter Tryd.func55, Tryd.ntmps55
    go_wp2
    go_ret
    exact ⟨A0, c0, rfl, HR.out, hc, Below.refl _ _⟩
  | succ n ih =>
    intro l0 A0 c0 w hn hM hr hc
    by_cases h2 : l0.length < 2
    · have h0 : decide ((l0.length : Int) < 2) = true := decide_eq_true (by omega)
      have HR := Aside0.mk hr
      clear hr
      go_enter Tryd.func55, Tryd.ntmps55
      go_wp2
      go_ret
      refine ⟨A0, c0, rfl, ?_, hc, Below.refl _ _⟩
      unfold srtR
      rw [if_pos h2]
      exact HR.out
    · have h0 : decide ((l0.length : Int) < 2) = false := decide_eq_false (by omega)
      have HR := Aside0.mk hr
      clear hr
      obtain ⟨i0, hi, hz0, hz1, hz2⟩ := info_parts infoR
      have hh : (wrap64 ((l0.length : Int) / 2)).toNat = l0.length / 2 := by unfold wrap64; omega
      have hw : wrap64 ((l0.length : Int) / 2) = ((l0.length / 2 : Nat) : Int) := by unfold wrap64; omega
      have hl1 : (l0.take (l0.length / 2)).length = l0.length / 2 := by rw [List.length_take]; omega
      have hl2 : (l0.drop (l0.length / 2)).length = l0.length - l0.length / 2 := List.length_drop
      have hne : ¬ c0 = l0.length / 2 := by omega
      go_enter Tryd.func55, Tryd.ntmps55
      have HT := Aside0.mk hl1
      have HD := Aside0.mk hl2
      have HH := Aside0.mk hh
      have HW := Aside0.mk hw
      clear hl1 hl2 hh hw
      have e1 := ih (l0.take (l0.length / 2)) A0 c0 w (by rw [HT.out]; omega) (by rw [HT.out]; omega) (Kd.C_take HR.out (by omega)) (by rw [HT.out]; omega)
      rw [HT.out] at e1
      have e2 : ∀ w1, Below w.heap.size w w1 → Calls Tryd.prog 55 #[.slice (A0.map (fun x => x.add (l0.length / 2 * 2))) (l0.length - l0.length / 2) (c0 - l0.length / 2)] w1 fun e w' => ∃ (A1 : Option Addr) (c1 : Nat), e = .returned (.slice A1 (l0.length - l0.length / 2) c1) ∧ Kd.C kRun w' A1 (l0.length - l0.length / 2) (srtR n (l0.drop (l0.length / 2))) ∧ l0.length - l0.length / 2 ≤ c1 ∧ Below w1.heap.size w1 w' := by
        intro w1 hb
        have e3 := ih (l0.drop (l0.length / 2)) (A0.map (fun x => x.add (l0.length / 2 * 2))) (c0 - l0.length / 2) w1 (by rw [HD.out]; omega) (by rw [HD.out]; omega) (by have hd := Kd.C_drop (Kd.C_below HR.out hb) (m := l0.length / 2) (by omega) hc; rw [if_neg hne] at hd; exact hd) (by rw [HD.out]; omega)
        rw [HD.out] at e3
        exact e3
      have E1 := Aside0.mk e1
      have E2 := Aside0.mk e2
      clear e1 e2 ih
      go_wp2_with (first
        | (go_at_call 55; refine E4.out.mono ?_; rintro e_ w2 ⟨Ab, cb, rfl, hrb, hcb, hb2⟩
           have HRB := Aside0.mk hrb
           have HRA2 := Aside0.mk (Kd.C_below HRA.out hb2)
           have HB2 := Aside0.mk (below_step HB1.out hb2)
           clear hrb hcb hb2 HRA HB1)
        | (go_at_call 55; refine E1.out.mono ?_; rintro e_ w1 ⟨Aa, ca, rfl, hra, hca, hb1⟩
           have HRA := Aside0.mk hra
           have HB1 := Aside0.mk hb1
           have E4 := Aside0.mk (E2.out w1 hb1)
           clear hra hca hb1))
      have hla : (srtR n (l0.take (l0.length / 2))).length = l0.length / 2 := by rw [srtR_len, HT.out]
      have hlb : (srtR n (l0.drop (l0.length / 2))).length = l0.length - l0.length / 2 := by rw [srtR_len, HD.out]
      have hres : srtR (n + 1) l0 = (srtR n (l0.take (l0.length / 2))).merge (srtR n (l0.drop (l0.length / 2))) leR := by
        conv => lhs; unfold srtR
        rw [if_neg h2]
      generalize hsa : srtR n (l0.take (l0.length / 2)) = sa at *
      generalize hsb : srtR n (l0.drop (l0.length / 2)) = sb at *
      have HRES := Aside0.mk hres
      clear hres E1 E2 E4
      generalize hna : l0.length / 2 = na at *
      generalize hnb : l0.length - na = nb at *
      have HNN : Aside0 (na + nb = l0.length) := ⟨by omega⟩
      have HLA := Aside0.mk hla
      have HLB := Aside0.mk hlb
      have HMM := Aside0.mk hM
      clear hla hlb hM hna hnb hn
      go_loopw [5, 6, 7] (fun v5 v6 v7 wr => ∃ (i j : Nat) (acc : List SRun), v6 = .int .i64 i ∧ v7 = .int .i64 j ∧ i ≤ na ∧ j ≤ nb ∧ Aside0 (acc ++ (sa.drop i).merge (sb.drop j) leR = srtR (n + 1) l0) ∧ Aside0 (acc.length = i + j) ∧ Aside0 (Kd.R kRun 90 wr w2.heap.size (fun _ => True) v5 acc) ∧ Aside0 (Below w2.heap.size w2 wr)) (fun _ v6 v7 _ => (na - (intOf v6).toNat) + (nb - (intOf v7).toNat))
      case atStart => exact ⟨0, 0, [], rfl, rfl, Nat.zero_le _, Nat.zero_le _, ⟨HRES.out.symm⟩, ⟨rfl⟩, ⟨Kd.R_nil _ _ _ _ _⟩, ⟨Below.refl _ _⟩⟩
      case round =>
        clear HRES
        obtain ⟨i, j, acc, rfl, rfl, hi1, hj1, HE, HAL, HR5, HB5⟩ := hrel
        have hbi : wrap64 ((i : Int) + 1) = ((i + 1 : Nat) : Int) := by unfold wrap64; have := HNN.out; have := HMM.out; omega
        have hbj : wrap64 ((j : Int) + 1) = ((j + 1 : Nat) : Int) := by unfold wrap64; have := HNN.out; have := HMM.out; omega
        by_cases hend : ¬ i < na ∧ ¬ j < nb
        · obtain ⟨e1, e2⟩ := hend
          have d1 : decide ((i : Int) < (na : Int)) = false := decide_eq_false (by omega)
          have d2 : decide ((j : Int) < (nb : Int)) = false := decide_eq_false (by omega)
          have hE := HE.out
          rw [List.drop_eq_nil_of_le (by have := HLA.out; omega), List.drop_eq_nil_of_le (by have := HLB.out; omega), List.nil_merge, List.append_nil] at hE
          have HEE := Aside0.mk hE
          have HAE : Aside0 (acc.length = l0.length) := ⟨by have := HAL.out; have := HNN.out; omega⟩
          clear hE hbi hbj
          go_wp2
          go_ret
          obtain ⟨inn, hown⟩ := Kd.R_own HR5.out
          obtain ⟨Am, cm, rfl⟩ := own_slice hown
          obtain ⟨_, hcm, hC⟩ := Kd.R_reads' HR5.out
          rw [HAE.out] at hcm hC ⊢
          refine ⟨Am, cm, rfl, ?_, hcm, below_step HB2.out HB5.out⟩
          rw [← HEE.out]
          exact hC
        · by_cases ha : i < na ∧ (∀ _ : j < sb.length, (rdRun sa i).f0 ≤ (rdRun sb j).f0)
          · obtain ⟨hia, hle⟩ := ha
            have hm := merge_l (a := sa) (b := sb) (i := i) (j := j) (by have := HLA.out; omega) hle
            have HM := Aside0.mk hm
            clear hm hend
            have d1 : decide ((i : Int) < (na : Int)) = true := decide_eq_true (by omega)
            obtain ⟨ad, e0, hx0, hx1⟩ := atRun HRA2.out (i : Int) (by omega) (by omega)
            subst e0
            simp only [Int.toNat_natCast] at hx0 hx1
            replace hx0 := (HB5.out.cell (World.block_lt_of_cell? w2 _ hx0)).trans hx0
            replace hx1 := (HB5.out.cell (World.block_lt_of_cell? w2 _ hx1)).trans hx1
            by_cases hjb : j < nb
            · have d3 : ((j : Int) == (nb : Int)) = false := by simp; omega
              have d4 : decide ((rdRun sa i).f0 ≤ (rdRun sb j).f0) = true := decide_eq_true (hle (by have := HLB.out; omega))
              obtain ⟨bd, e0, hy0, hy1⟩ := atRun HRB.out (j : Int) (by omega) (by omega)
              subst e0
              simp only [Int.toNat_natCast] at hy0 hy1
              replace hy0 := (HB5.out.cell (World.block_lt_of_cell? w2 _ hy0)).trans hy0
              replace hy1 := (HB5.out.cell (World.block_lt_of_cell? w2 _ hy1)).trans hy1
              clear hle
              go_wp2
              go_quiet (fail)
              go_wp2_with ((with_reducible refine gate_builtin (b := .append) (xs := #[.tmp 57, .tmp 62]) rfl ?_); at_builtin
                           refine Kd.R_append kRun (w0 := w2) w2.heap.size rfl (.tmp 57) (.tmp 62) 88 90 (.agg #[(.int .i64 0), (.int .i64 0)]) 16 rfl Tryd.underlying88 infoR rfl (by decide) (by omega) _ acc (⟨(rdRun sa i).f0, (rdRun sa i).f1⟩ : SRun) [.int .i64 ((rdRun sa i).f0), .int .i64 ((rdRun sa i).f1)] (fun _ => True) (fun _ => False) rfl rfl (kRun_mkM _ _ _ (⟨(rdRun sa i).f0, (rdRun sa i).f1⟩ : SRun)) (fun _ hk => hk.elim) (fun _ _ => trivial) (Kd.R_drewN HR5.out nq) (pw_below_drewN HB5.out nq) (below_size (pw_below_drewN HB5.out nq)) (by have := HAL.out; have := HNN.out; have := HMM.out; omega) ?_
                           intro v6 w6 ho hb hg hat
                           have HR6 := Aside0.mk ho
                           have HB6 := Aside0.mk hb
                           clear ho hb hg hat)
              go_roundw
              case rel => exact ⟨i + 1, j, _, by first | rw [hbi] | rfl, by first | rw [hbi] | rfl, by omega, by omega, ⟨by have h := HE.out; rw [HM.out] at h; rw [List.append_assoc]; exact h⟩, ⟨by have := HAL.out; rw [List.length_append, List.length_singleton]; omega⟩, HR6, HB6⟩
              case measure => rw [hbi]; exact meas_l (by omega)
            · have d3 : ((j : Int) == (nb : Int)) = true := by simp; omega
              clear hle
              go_wp2
              go_quiet (fail)
              go_wp2_with ((with_reducible refine gate_builtin (b := .append) (xs := #[.tmp 57, .tmp 62]) rfl ?_); at_builtin
                           refine Kd.R_append kRun (w0 := w2) w2.heap.size rfl (.tmp 57) (.tmp 62) 88 90 (.agg #[(.int .i64 0), (.int .i64 0)]) 16 rfl Tryd.underlying88 infoR rfl (by decide) (by omega) _ acc (⟨(rdRun sa i).f0, (rdRun sa i).f1⟩ : SRun) [.int .i64 ((rdRun sa i).f0), .int .i64 ((rdRun sa i).f1)] (fun _ => True) (fun _ => False) rfl rfl (kRun_mkM _ _ _ (⟨(rdRun sa i).f0, (rdRun sa i).f1⟩ : SRun)) (fun _ hk => hk.elim) (fun _ _ => trivial) (Kd.R_drewN HR5.out nq) (pw_below_drewN HB5.out nq) (below_size (pw_below_drewN HB5.out nq)) (by have := HAL.out; have := HNN.out; have := HMM.out; omega) ?_
                           intro v6 w6 ho hb hg hat
                           have HR6 := Aside0.mk ho
                           have HB6 := Aside0.mk hb
                           clear ho hb hg hat)
              go_roundw
              case rel => exact ⟨i + 1, j, _, by first | rw [hbi] | rfl, by first | rw [hbi] | rfl, by omega, by omega, ⟨by have h := HE.out; rw [HM.out] at h; rw [List.append_assoc]; exact h⟩, ⟨by have := HAL.out; rw [List.length_append, List.length_singleton]; omega⟩, HR6, HB6⟩
              case measure => rw [hbi]; exact meas_l (by omega)
          · have hjb : j < nb := by
              apply Decidable.byContradiction
              intro h
              exact ha ⟨Decidable.byContradiction fun h1 => hend ⟨h1, h⟩, fun h1 => absurd h1 (by have := HLB.out; omega)⟩
            have hle : ∀ _ : i < sa.length, ¬ (rdRun sa i).f0 ≤ (rdRun sb j).f0 := fun h1 h2 => ha ⟨by have := HLA.out; omega, fun _ => h2⟩
            have hm := merge_r (a := sa) (b := sb) (i := i) (j := j) (by have := HLB.out; omega) hle
            have HM := Aside0.mk hm
            clear hm hend ha
            have d2 : decide ((j : Int) < (nb : Int)) = true := decide_eq_true (by omega)
            have d3 : ((j : Int) == (nb : Int)) = false := by simp; omega
            obtain ⟨bd, e0, hy0, hy1⟩ := atRun HRB.out (j : Int) (by omega) (by omega)
            subst e0
            simp only [Int.toNat_natCast] at hy0 hy1
            replace hy0 := (HB5.out.cell (World.block_lt_of_cell? w2 _ hy0)).trans hy0
            replace hy1 := (HB5.out.cell (World.block_lt_of_cell? w2 _ hy1)).trans hy1
            by_cases hia : i < na
            · have d1 : decide ((i : Int) < (na : Int)) = true := decide_eq_true (by omega)
              have d4 : decide ((rdRun sa i).f0 ≤ (rdRun sb j).f0) = false := decide_eq_false (hle (by have := HLA.out; omega))
              obtain ⟨ad, e0, hx0, hx1⟩ := atRun HRA2.out (i : Int) (by omega) (by omega)
              subst e0
              simp only [Int.toNat_natCast] at hx0 hx1
              replace hx0 := (HB5.out.cell (World.block_lt_of_cell? w2 _ hx0)).trans hx0
              replace hx1 := (HB5.out.cell (World.block_lt_of_cell? w2 _ hx1)).trans hx1
              clear hle
              go_wp2
              go_quiet (fail)
              go_wp2_with ((with_reducible refine gate_builtin (b := .append) (xs := #[.tmp 66, .tmp 71]) rfl ?_); at_builtin
                           refine Kd.R_append kRun (w0 := w2) w2.heap.size rfl (.tmp 66) (.tmp 71) 88 90 (.agg #[(.int .i64 0), (.int .i64 0)]) 16 rfl Tryd.underlying88 infoR rfl (by decide) (by omega) _ acc (⟨(rdRun sb j).f0, (rdRun sb j).f1⟩ : SRun) [.int .i64 ((rdRun sb j).f0), .int .i64 ((rdRun sb j).f1)] (fun _ => True) (fun _ => False) rfl rfl (kRun_mkM _ _ _ (⟨(rdRun sb j).f0, (rdRun sb j).f1⟩ : SRun)) (fun _ hk => hk.elim) (fun _ _ => trivial) (Kd.R_drewN HR5.out nq) (pw_below_drewN HB5.out nq) (below_size (pw_below_drewN HB5.out nq)) (by have := HAL.out; have := HNN.out; have := HMM.out; omega) ?_
                           intro v6 w6 ho hb hg hat
                           have HR6 := Aside0.mk ho
                           have HB6 := Aside0.mk hb
                           clear ho hb hg hat)
              go_roundw
              case rel => exact ⟨i, j + 1, _, by first | rw [hbj] | rfl, by first | rw [hbj] | rfl, by omega, by omega, ⟨by have h := HE.out; rw [HM.out] at h; rw [List.append_assoc]; exact h⟩, ⟨by have := HAL.out; rw [List.length_append, List.length_singleton]; omega⟩, HR6, HB6⟩
              case measure => rw [hbj]; exact meas_r (by omega)
            · have d1 : decide ((i : Int) < (na : Int)) = false := decide_eq_false (by omega)
              clear hle
              go_wp2
              go_quiet (fail)
              go_wp2_with ((with_reducible refine gate_builtin (b := .append) (xs := #[.tmp 66, .tmp 71]) rfl ?_); at_builtin
                           refine Kd.R_append kRun (w0 := w2) w2.heap.size rfl (.tmp 66) (.tmp 71) 88 90 (.agg #[(.int .i64 0), (.int .i64 0)]) 16 rfl Tryd.underlying88 infoR rfl (by decide) (by omega) _ acc (⟨(rdRun sb j).f0, (rdRun sb j).f1⟩ : SRun) [.int .i64 ((rdRun sb j).f0), .int .i64 ((rdRun sb j).f1)] (fun _ => True) (fun _ => False) rfl rfl (kRun_mkM _ _ _ (⟨(rdRun sb j).f0, (rdRun sb j).f1⟩ : SRun)) (fun _ hk => hk.elim) (fun _ _ => trivial) (Kd.R_drewN HR5.out nq) (pw_below_drewN HB5.out nq) (below_size (pw_below_drewN HB5.out nq)) (by have := HAL.out; have := HNN.out; have := HMM.out; omega) ?_
                           intro v6 w6 ho hb hg hat
                           have HR6 := Aside0.mk ho
                           have HB6 := Aside0.mk hb
                           clear ho hb hg hat)
              go_roundw
              case rel => exact ⟨i, j + 1, _, by first | rw [hbj] | rfl, by first | rw [hbj] | rfl, by omega, by omega, ⟨by have h := HE.out; rw [HM.out] at h; rw [List.append_assoc]; exact h⟩, ⟨by have := HAL.out; rw [List.length_append, List.length_singleton]; omega⟩, HR6, HB6⟩
              case measure => rw [hbj]; exact meas_r (by omega)
/-- the runs of the prefixes, or the error of the first that is none -/
def spansA (k : Nat) : List S31 → List SRun → Option (List SRun × Int)
  | [], acc => some (acc, 0)
  | p :: r, acc => (weftref1_Span.f k p.f0 p.f1).bind fun s => if s.2.2 = 0 then spansA k r (acc ++ [⟨wrap64 s.1, wrap64 s.2.1⟩]) else some ([], s.2.2)
def refGo (k : Nat) : List SRun → Int → Int → List S31 → Option (List S31)
  | [], lo, hh, out => weftref1_covered.f k out 0 0 lo hh
  | p :: r, lo, hh, out => if p.f0 ≤ wrap64 (hh + 1) then refGo k r lo (if p.f1 > hh then p.f1 else hh) out else (weftref1_covered.f k out 0 0 lo hh).bind fun c => refGo k r p.f0 p.f1 c
def refOut (k : Nat) : List SRun → List S31 → Option (List S31)
  | [], out => some out
  | p :: r, out => refGo k r p.f0 p.f1 out
def weftref1_Merge.f (k : Nat) (l0 : List S31) : Option (List S31 × Int) :=
  if l0.length > 4096 then some ([], 2) else (spansA k l0 []).bind fun x => if x.2 = 0 then (refOut k (srtR x.1.length x.1) []).bind fun r => some (r, 0) else some ([], x.2)
theorem spansA_mono (k : Nat) : ∀ l acc, LeO (spansA k l acc) (spansA (k + 1) l acc)
  | [], _ => LeO.refl _
  | p :: r, _ => LeO.bind (weftref1_Span.mono _ _ _) fun _ => LeO.ite (spansA_mono k r _) (LeO.refl _)
theorem refGo_mono (k : Nat) : ∀ l lo hh out, LeO (refGo k l lo hh out) (refGo (k + 1) l lo hh out)
  | [], _, _, _ => weftref1_covered.mono _ _ _ _ _ _
  | p :: r, _, _, _ => LeO.ite (refGo_mono k r _ _ _) (LeO.bind (weftref1_covered.mono _ _ _ _ _ _) fun _ => refGo_mono k r _ _ _)
theorem refOut_mono (k : Nat) : ∀ l out, LeO (refOut k l out) (refOut (k + 1) l out)
  | [], _ => LeO.refl _
  | p :: r, _ => refGo_mono k r _ _ _
theorem weftref1_Merge.mono : ∀ a0 k, LeO (weftref1_Merge.f k a0) (weftref1_Merge.f (k + 1) a0) := fun a0 k =>
  LeO.ite (LeO.refl _) (LeO.bind (spansA_mono k a0 _) fun _ => LeO.ite (LeO.bind (refOut_mono k _ _) fun _ => LeO.refl _) (LeO.refl _))
theorem rdS {l : List S31} {i : Nat} (h : i < l.length) : rd_T31 l i = l[i] := by simp [rd_T31, List.getD_eq_getElem?_getD, h]
theorem spansA_at {k : Nat} {l0 : List S31} {i : Nat} {acc : List SRun} {x : List SRun × Int} (hi : i < l0.length) (h : spansA k (l0.drop i) acc = some x) :
    ∃ s0 s1 e, weftref1_Span.f k (rd_T31 l0 i).f0 (rd_T31 l0 i).f1 = some (s0, s1, e) ∧ (if e = 0 then spansA k (l0.drop (i + 1)) (acc ++ [⟨wrap64 s0, wrap64 s1⟩]) else some ([], e)) = some x := by
  rw [List.drop_eq_getElem_cons hi] at h
  rw [rdS hi]
  obtain ⟨⟨s0, s1, e⟩, h1, h2⟩ := Option.bind_eq_some_iff.1 h
  exact ⟨s0, s1, e, h1, h2⟩
theorem refOut_at {k : Nat} {S : List SRun} {xs out : List S31} {i : Nat} (hi : i < S.length) (h : refOut k (S.drop i) xs = some out) : refGo k (S.drop (i + 1)) (rdRun S i).f0 (rdRun S i).f1 xs = some out := by
  rw [List.drop_eq_getElem_cons hi] at h
  rw [rdR hi]
  exact h
theorem refGo_in {k : Nat} {S : List SRun} {xs out : List S31} {j : Nat} {lo hh : Int} (hj : j < S.length) (hc : (rdRun S j).f0 ≤ wrap64 (hh + 1)) (h : refGo k (S.drop j) lo hh xs = some out) :
    refGo k (S.drop (j + 1)) lo (if (rdRun S j).f1 > hh then (rdRun S j).f1 else hh) xs = some out := by
  rw [List.drop_eq_getElem_cons hj] at h
  rw [rdR hj] at hc ⊢
  unfold refGo at h
  rw [if_pos hc] at h
  exact h
theorem refGo_out {k : Nat} {S : List SRun} {xs out : List S31} {j : Nat} {lo hh : Int} (hc : ∀ _ : j < S.length, ¬ (rdRun S j).f0 ≤ wrap64 (hh + 1)) (h : refGo k (S.drop j) lo hh xs = some out) :
    ∃ c, weftref1_covered.f k xs 0 0 lo hh = some c ∧ refOut k (S.drop j) c = some out := by
  by_cases hj : j < S.length
  · have hc := hc hj
    rw [List.drop_eq_getElem_cons hj] at h ⊢
    rw [rdR hj] at hc
    unfold refGo at h
    rw [if_neg hc] at h
    exact Option.bind_eq_some_iff.1 h
  · rw [List.drop_eq_nil_of_le (by omega)] at h ⊢
    exact ⟨out, h, rfl⟩
theorem at_SRun {w : World} {ad : Addr} {n j : Nat} {xs : List SRun} (h : Kd.C kRun w (some ad) n xs) (hj : j < n) :
    w.cell? (ad.add (j * 2)) = some (.int .i64 (rdRun xs j).f0) ∧ w.cell? ⟨(ad.add (j * 2)).block, (ad.add (j * 2)).off + 1, none⟩ = some (.int .i64 (rdRun xs j).f1) := by
  obtain ⟨ad2, e0, hx0, hx1⟩ := atRun h (j : Int) (by omega) (by omega)
  injection e0 with e0
  subst e0
  simp only [Int.toNat_natCast] at hx0 hx1
  exact ⟨hx0, hx1⟩
/-- what holds in the ref's Merge while a run is joined -/
structure RSt (w2 : World) (Br : Nat) (lo hh : Int) (v9 : Value) (xs : List S31) (wr : World) : Prop where
  blk : wr.heap[Br]? = some (.cells #[.int .i64 lo, .int .i64 hh] 90 (0, 0))
  base : w2.heap.size ≤ Br
  res : Kd.R k31 31 wr w2.heap.size (fun k => k ≠ Br) v9 xs
  bel : Below w2.heap.size w2 wr
theorem RSt.put {w2 wr : World} {Br : Nat} {lo hh h2 : Int} {v9 : Value} {xs : List S31} (n : Nat) (h : RSt w2 Br lo hh v9 xs wr) : RSt w2 Br lo h2 v9 xs ((wr.drewN n).setCell ⟨Br, 1, none⟩ (.int .i64 h2)) :=
  ⟨blk_put (blk_drewN h.blk n) 1 _ rfl, h.base, Kd.R_far (Kd.R_drewN h.res n) (fun _ hk => hk) _, below_set (pw_below_drewN h.bel n) h.base⟩
theorem RSt.drewN {w2 wr : World} {Br : Nat} {lo hh : Int} {v9 : Value} {xs : List S31} (n : Nat) (h : RSt w2 Br lo hh v9 xs wr) : RSt w2 Br lo hh v9 xs (wr.drewN n) :=
  ⟨blk_drewN h.blk n, h.base, Kd.R_drewN h.res n, pw_below_drewN h.bel n⟩
set_option maxHeartbeats 4000000 in
set_option maxRecDepth 100000 in
theorem refMerge_walk (k : Nat) (A0 : Option Addr) (c0 : Nat) (l0 : List S31) (r : List S31 × Int) (w : World) (hr0 : Kd.C k31 w A0 l0.length l0) (hc0 : l0.length ≤ c0) (hlen : l0.length ≤ 4096) (h : weftref1_Merge.f k l0 = some r) :
    Calls Tryd.prog 51 #[.slice A0 l0.length c0] w fun e w' => ∃ v0_ : Value, e = .returned (.tuple #[v0_, .int .i64 r.2]) ∧ Kd.R k31 31 w' w.heap.size (fun _ => True) v0_ r.1 ∧ Below w.heap.size w w' := by
  have HR0 := Aside0.mk hr0
  have HL := Aside0.mk hlen
  have hn0 : decide ((l0.length : Int) > 4096) = false := decide_eq_false (by omega)
  unfold weftref1_Merge.f at h
  rw [if_neg (by omega)] at h
  obtain ⟨⟨R, e⟩, hF, hS⟩ := Option.bind_eq_some_iff.1 h
  have HF := Aside0.mk hF
  have HS := Aside0.mk hS
  clear hF hS hr0 hc0 hlen h
  go_enter Tryd.func51, Tryd.ntmps51
  go_wp2
  go_loopw [4, 5] (fun v4 v5 wr => ∃ (i : Nat) (acc : List SRun), v5 = .int .i64 i ∧ i ≤ l0.length ∧ Aside0 (acc.length = i) ∧ Aside0 (Kd.R kRun 90 wr w.heap.size (fun _ => True) v4 acc) ∧ Aside0 (spansA k (l0.drop i) acc = some (R, e)) ∧ Aside0 (Below w.heap.size w wr)) (fun _ v5 _ => l0.length - (intOf v5).toNat)
  case atStart => exact ⟨0, [], rfl, Nat.zero_le _, ⟨rfl⟩, ⟨Kd.R_nil _ _ _ _ _⟩, HF, ⟨Below.refl _ _⟩⟩
  case round =>
    clear HF
    obtain ⟨i, acc, rfl, hi, HAL, HR, HSP, HB⟩ := hrel
    have hw1 : wrap64 ((i : Int) + 1) = ((i + 1 : Nat) : Int) := by unfold wrap64; have := HL.out; omega
    by_cases hlt : i < l0.length
    · obtain ⟨ad, e0, hx0, hx1⟩ := at_T31 HR0.out (i : Int) (by omega) (by omega)
      subst e0
      simp only [Int.toNat_natCast] at hx0 hx1
      replace hx0 := (HB.out.cell (World.block_lt_of_cell? w _ hx0)).trans hx0
      replace hx1 := (HB.out.cell (World.block_lt_of_cell? w _ hx1)).trans hx1
      obtain ⟨s0, s1, e1, hf1, hf2⟩ := spansA_at hlt HSP.out
      have HF1 := Aside0.mk hf1
      have HF2 := Aside0.mk hf2
      clear hf1 hf2 HSP
      by_cases h0 : e1 = 0
      · subst h0
        go_wp2_with (first
          | (go_at_call 27; refine (weftref1_Span.calls k _ _ _ _ _ _ HF1.out).mono ?_; rintro e_ w2 ⟨rfl, hb⟩
             have HR2 := Aside0.mk (Kd.R_below HR.out hb)
             have HB2 := Aside0.mk (below_step HB.out hb)
             clear hb)
          | ((with_reducible refine gate_builtin (b := .append) (xs := #[.tmp 33, .tmp 39]) rfl ?_); at_builtin
             refine Kd.R_append kRun (w0 := w) w.heap.size rfl (.tmp 33) (.tmp 39) 88 90 (.agg #[(.int .i64 0), (.int .i64 0)]) 16 rfl Tryd.underlying88 infoR rfl (by decide) (by omega) _ acc (⟨wrap64 s0, wrap64 s1⟩ : SRun) [.int .i64 (wrap64 s0), .int .i64 (wrap64 s1)] (fun _ => True) (fun _ => False) rfl rfl (kRun_mkM _ _ _ (⟨wrap64 s0, wrap64 s1⟩ : SRun)) (fun _ hk => hk.elim) (fun _ _ => trivial) HR2.out HB2.out (below_size HB2.out) (by have := HAL.out; have := HL.out; omega) ?_
             intro v6 w6 ho hb hg hat
             have HR6 := Aside0.mk ho
             have HB6 := Aside0.mk hb
             clear ho hb hg hat))
        go_roundw
        case rel => exact ⟨i + 1, _, by rw [hw1], by omega, ⟨by have := HAL.out; rw [List.length_append, List.length_singleton]; omega⟩, HR6, ⟨by simpa using HF2.out⟩, HB6⟩
        case measure => rw [hw1]; exact meas_up hlt
      · have b1 : (e1 != 0) = true := by simp [h0]
        go_wp2_with (go_at_call 27; refine (weftref1_Span.calls k _ _ _ _ _ _ HF1.out).mono ?_; rintro e_ w2 ⟨rfl, hb⟩
                     have HB2 := Aside0.mk (below_step HB.out hb)
                     clear hb)
        refine bodyPost_ret (v := .tuple #[.slice none 0 0, .int .i64 e1]) (by simp [results, Tryd.results51, go_sem]) rfl ?_
        have hS := HS.out
        have h2 := HF2.out
        rw [if_neg h0] at h2
        injection h2 with h2
        injection h2 with h3 h4
        subst h3; subst h4
        simp only [if_neg h0] at hS
        obtain rfl := Option.some.inj hS
        exact ⟨_, rfl, Kd.R_nil _ _ _ _ _, HB2.out⟩
    · obtain rfl : i = l0.length := by omega
      have hS := HS.out
      have h2 := HSP.out
      rw [List.drop_length] at h2
      injection h2 with h2
      injection h2 with h3 h4
      subst h3; subst h4
      simp only [if_true] at hS
      obtain ⟨out, hM, hS⟩ := Option.bind_eq_some_iff.1 hS
      obtain rfl := Option.some.inj hS
      have HM := Aside0.mk hM
      clear hS hM HS HSP hlt
      obtain ⟨inn, hown⟩ := Kd.R_own HR.out
      obtain ⟨Am, cm, hvm⟩ := own_slice hown
      subst hvm
      obtain ⟨_, hcm, hC⟩ := Kd.R_reads' HR.out
      have e1 := sorted_walk acc.length acc Am cm wr (Nat.le_refl _) (by have := HAL.out; have := HL.out; omega) hC hcm
      have HSL : Aside0 ((srtR acc.length acc).length = acc.length) := ⟨srtR_len _ _⟩
      generalize hS0 : srtR acc.length acc = S at *
      have E1 := Aside0.mk e1
      have HN : Aside0 (acc.length ≤ 4096) := ⟨by have := HAL.out; have := HL.out; omega⟩
      generalize hnn : acc.length = n at *
      clear e1 hC hown hS0 hnn
      go_wp2_with (go_at_call 55; refine E1.out.mono ?_; rintro e_ w2 ⟨A1, c1, rfl, hC1, hc1, hb1⟩
                   have HC1 := Aside0.mk hC1
                   have HBW := Aside0.mk (below_step HB.out hb1)
                   clear hC1 hb1)
      go_loopw [9, 10] (fun v9 v10 w3 => ∃ (i : Nat) (xs : List S31), v10 = .int .i64 i ∧ i ≤ n ∧ Aside0 (refOut k (S.drop i) xs = some out) ∧ Aside0 (Kd.R k31 31 w3 w2.heap.size (fun _ => True) v9 xs) ∧ Aside0 (Below w2.heap.size w2 w3)) (fun _ v10 _ => n - (intOf v10).toNat)
      case atStart => exact ⟨0, [], rfl, Nat.zero_le _, HM, ⟨Kd.R_nil _ _ _ _ _⟩, ⟨Below.refl _ _⟩⟩
      case round =>
        clear HM HR E1 HB
        obtain ⟨i, xs, rfl, hi, HM3, HX, HB⟩ := hrel
        by_cases hlt : i < n
        · have hG := refOut_at (by have := HSL.out; omega) HM3.out
          have HG := Aside0.mk hG
          have hw1 : wrap64 ((i : Int) + 1) = ((i + 1 : Nat) : Int) := by unfold wrap64; have := HN.out; omega
          obtain ⟨ad, e0, hx0, hx1⟩ := atRun HC1.out (i : Int) (by omega) (by omega)
          subst e0
          simp only [Int.toNat_natCast] at hx0 hx1
          replace hx0 := (HB.out.cell (World.block_lt_of_cell? w2 _ hx0)).trans hx0
          replace hx1 := (HB.out.cell (World.block_lt_of_cell? w2 _ hx1)).trans hx1
          have HST : Aside0 (RSt w2 wr.heap.size (rdRun S i).f0 (rdRun S i).f1 u9 xs (wr.alloc (.cells #[.int .i64 (rdRun S i).f0, .int .i64 (rdRun S i).f1] 90 (0, 0)))) :=
            ⟨blk_new _ _, HB.out.size, Kd.R_mono (Kd.R_alloc (Kd.R_elderB HX.out wr.heap.size (Nat.le_refl _)) _) (fun _ hk => hk.2), below_alloc HB.out _⟩
          clear hG HM3
          go_wp2
          generalize wr.heap.size = Br at HST ⊢
          clear hx0 hx1 HX
          go_loopw [10] (fun v10 w5 => ∃ (j : Nat) (hh : Int), v10 = .int .i64 j ∧ i < j ∧ j ≤ n ∧ Aside0 (RSt w2 Br (rdRun S i).f0 hh u9 xs w5) ∧ Aside0 (refGo k (S.drop j) (rdRun S i).f0 hh xs = some out)) (fun v10 _ => n - (intOf v10).toNat)
          case atStart => exact ⟨i + 1, _, by rw [hw1], by omega, by omega, HST, HG⟩
          case round =>
            clear HST HG hw1 HB
            obtain ⟨j, hh, rfl, hij, hj, HS5, HG5⟩ := hrel
            have kb0 : wr.cell? ⟨Br, 0, none⟩ = some (.int .i64 (rdRun S i).f0) := (blk_cell HS5.out.blk 0).trans rfl
            have kb1 : wr.cell? ⟨Br, 1, none⟩ = some (.int .i64 hh) := (blk_cell HS5.out.blk 1).trans rfl
            have fb1 := blk_frozen HS5.out.blk 1
            by_cases hgo : ∃ _ : j < S.length, (rdRun S j).f0 ≤ wrap64 (hh + 1)
            · obtain ⟨hjS, hc⟩ := hgo
              have HCC := Aside0.mk hc
              clear hc
              have hjl : j < n := by have := HSL.out; omega
              have hw2 : wrap64 ((j : Int) + 1) = ((j + 1 : Nat) : Int) := by unfold wrap64; have := HN.out; omega
              obtain ⟨hx0, hx1⟩ := at_SRun HC1.out hjl
              replace hx0 := (HS5.out.bel.cell (World.block_lt_of_cell? w2 _ hx0)).trans hx0
              replace hx1 := (HS5.out.bel.cell (World.block_lt_of_cell? w2 _ hx1)).trans hx1
              have d1 : decide ((j : Int) < (n : Int)) = true := decide_eq_true (by omega)
              have d2 : decide ((rdRun S j).f0 ≤ wrap64 (hh + 1)) = true := decide_eq_true HCC.out
              have hG := refGo_in hjS HCC.out HG5.out
              clear HCC HG5
              by_cases hg : (rdRun S j).f1 > hh
              · have d3 : decide ((rdRun S j).f1 > hh) = true := decide_eq_true hg
                rw [if_pos hg] at hG
                have HG6 := Aside0.mk hG
                clear hG hg
                go_wp2
                go_quiet (fail)
                go_wp2
                go_quiet (fail)
                go_wp2
                go_roundw
                case rel => exact ⟨j + 1, _, by rw [hw2], by omega, by omega, ⟨by first | exact RSt.put _ HS5.out | exact RSt.put _ (RSt.drewN _ HS5.out)⟩, HG6⟩
                case measure => rw [hw2]; exact meas_up hjl
              · have d3 : decide ((rdRun S j).f1 > hh) = false := decide_eq_false hg
                rw [if_neg hg] at hG
                have HG6 := Aside0.mk hG
                clear hG hg
                go_wp2
                go_quiet (fail)
                go_wp2
                go_quiet (fail)
                go_wp2
                go_roundw
                case rel => exact ⟨j + 1, _, by rw [hw2], by omega, by omega, ⟨by first | exact RSt.drewN _ HS5.out | exact RSt.drewN _ (RSt.drewN _ HS5.out)⟩, HG6⟩
                case measure => rw [hw2]; exact meas_up hjl
            · have HGO := Aside0.mk hgo
              clear hgo
              obtain ⟨cs, hC, hG⟩ := refGo_out (fun h1 h2 => HGO.out ⟨h1, h2⟩) HG5.out
              have HC := Aside0.mk hC
              have HG6 := Aside0.mk hG
              clear hC hG HG5
              by_cases hjl : j < n
              · have hjS : j < S.length := by have := HSL.out; omega
                obtain ⟨hx0, hx1⟩ := at_SRun HC1.out hjl
                replace hx0 := (HS5.out.bel.cell (World.block_lt_of_cell? w2 _ hx0)).trans hx0
                replace hx1 := (HS5.out.bel.cell (World.block_lt_of_cell? w2 _ hx1)).trans hx1
                have d1 : decide ((j : Int) < (n : Int)) = true := decide_eq_true (by omega)
                have d2 : decide ((rdRun S j).f0 ≤ wrap64 (hh + 1)) = false := decide_eq_false (fun h => HGO.out ⟨hjS, h⟩)
                clear HGO
                go_wp2
                go_quiet (fail)
                have HS6 := Aside0.mk (RSt.drewN nq HS5.out)
                go_wp2_with (go_at_call 49; refine (weftref1_covered.calls k (fun _ => True) _ xs 0 0 _ hh cs w2 _ HS6.out.bel (Kd.R_mono HS6.out.res (fun _ _ => trivial)) HC.out).mono ?_; rintro e_ w7 ⟨v7, rfl, hr7, hb7, _⟩
                             have HX7 := Aside0.mk (Kd.R_mono (ok' := fun _ => True) hr7 (fun _ _ => trivial))
                             have HB7 := Aside0.mk hb7
                             clear hr7 hb7)
                go_roundw
                case rel => exact ⟨j, cs, rfl, by omega, HG6, HX7, HB7⟩
                case measure => simp [intOf]; omega
              · have d1 : decide ((j : Int) < (n : Int)) = false := decide_eq_false (by omega)
                clear HGO
                go_wp2
                go_quiet (fail)
                have HS6 := Aside0.mk (RSt.drewN nq HS5.out)
                go_wp2_with (go_at_call 49; refine (weftref1_covered.calls k (fun _ => True) _ xs 0 0 _ hh cs w2 _ HS6.out.bel (Kd.R_mono HS6.out.res (fun _ _ => trivial)) HC.out).mono ?_; rintro e_ w7 ⟨v7, rfl, hr7, hb7, _⟩
                             have HX7 := Aside0.mk (Kd.R_mono (ok' := fun _ => True) hr7 (fun _ _ => trivial))
                             have HB7 := Aside0.mk hb7
                             clear hr7 hb7)
                go_roundw
                case rel => exact ⟨j, cs, rfl, by omega, HG6, HX7, HB7⟩
                case measure => simp [intOf]; omega
        · obtain rfl : i = n := by omega
          have hM := HM3.out
          rw [List.drop_eq_nil_of_le (by have := HSL.out; omega)] at hM
          obtain rfl := Option.some.inj hM
          clear hM HM3
          go_wp2
          refine bodyPost_ret (v := .tuple #[_, .int .i64 0]) (by simp [results, Tryd.results51, go_sem]; rfl) rfl ?_
          exact ⟨_, rfl, Kd.R_lower HX.out HBW.out.size, below_step HBW.out HB.out⟩
set_option maxHeartbeats 4000000 in
set_option maxRecDepth 100000 in
theorem weftref1_Merge.calls (k : Nat) (A0 : Option Addr) (c0 : Nat) (l0 : List S31) (r1 : List S31) (r2 : Int) (w : World) (hr0 : Kd.C k31 w A0 l0.length l0) (hc0 : l0.length ≤ c0) (h : weftref1_Merge.f k l0 = some (r1, r2)) :
    Calls Tryd.prog 51 #[.slice A0 l0.length c0] w fun e w' => ∃ v0_ : Value, e = .returned (.tuple #[v0_, .int .i64 r2]) ∧ Kd.R k31 31 w' w.heap.size (fun _ => True) v0_ r1 ∧ Below w.heap.size w w' := by
  by_cases hlen : l0.length ≤ 4096
  · exact refMerge_walk k A0 c0 l0 (r1, r2) w hr0 hc0 hlen h
  · unfold weftref1_Merge.f at h
    rw [if_pos (by omega)] at h
    injection h with h
    injection h with h1 h2
    subst h1; subst h2
    have hn0 : decide ((l0.length : Int) > 4096) = true := decide_eq_true (by omega)
    go_enter Tryd.func51, Tryd.ntmps51
    go_wp2
    refine bodyPost_ret (v := .tuple #[.slice none 0 0, .int .i64 2]) (by simp [results, Tryd.results51, go_sem]) rfl ?_
    exact ⟨_, rfl, Kd.R_nil _ _ _ _ _, Below.refl _ _⟩

-- NOT PRINTED: function 36 (weftlaw1_steps_merges)

-- NOT PRINTED: function 10 (weftlaw1_steps_plays)

-- NOT PRINTED: function 5 (weftlaw1_AddrScript)

end Go.Proofs.YtncpcjphljfcpaaDoor.PScr
