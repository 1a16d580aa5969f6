/- The reference's Room walked. Conditions: the pool is as it is made. -/
import Derived.Test.YtebnlhjakiipjaaPrB
set_option linter.unusedVariables false
set_option linter.unusedSimpArgs false
namespace Go.Proofs.Ytebnlhjakiipjaa.Pl
open Go.RowKit Go.Maps Go.Proofs.YtebnlhjakiipjaaW.PrintWords Go.Proofs.YtebnlhjakiipjaaW.PrintMore Go.Proofs.YtebnlhjakiipjaaW.PrintLast Go.Proofs.Ytebnlhjakiipjaa.PPlf
theorem cntR_perm {mn mx : Int} {a b : List Int} (h : a.Perm b) : cntR mn mx a = cntR mn mx b := (h.filter _).length_eq
theorem cntR_split (mn mx : Int) (p : Int → Bool) : ∀ l : List Int, cntR mn mx l = cntR mn mx (l.filter p) + cntR mn mx (l.filter (fun x => !p x))
  | [] => rfl
  | x :: l => by
    have ih := cntR_split mn mx p l
    have e : ∀ (y : Int) (m : List Int), cntR mn mx (y :: m) = cntR mn mx [y] + cntR mn mx m := fun y m => cntR_append mn mx [y] m
    rw [e, ih]
    cases hp : p x
    · rw [List.filter_cons_of_neg (by simp [hp]), List.filter_cons_of_pos (by simp [hp]), e x (List.filter _ l)]; omega
    · rw [List.filter_cons_of_pos hp, List.filter_cons_of_neg (by simp [hp]), e x (List.filter _ l)]; omega
theorem cntR_map {mn mx S : Int} (hS : 0 < S) : ∀ l : List Int, cntR (mn * S) (mx * S) (l.map (· * S)) = cntR mn mx l
  | [] => rfl
  | x :: l => by
    have ih := cntR_map (mn := mn) (mx := mx) hS l
    have e : ∀ (a b y : Int) (m : List Int), cntR a b (y :: m) = cntR a b [y] + cntR a b m := fun a b y m => cntR_append a b [y] m
    rw [List.map_cons, e, ih, e mn mx x l]
    congr 1
    unfold cntR
    have h1 : mn * S ≤ x * S ↔ mn ≤ x := Int.mul_le_mul_right hS
    have h2 : x * S ≤ mx * S ↔ x ≤ mx := Int.mul_le_mul_right hS
    by_cases c1 : mn ≤ x <;> by_cases c2 : x ≤ mx <;> simp [c1, c2, h1, h2]
/-- those in the one list that are not in the other -/
def noin (K l : List Int) : List Int := l.filter (fun t => !decide (t ∈ K))
theorem noin_snoc (K l : List Int) (t : Int) : noin K (l ++ [t]) = noin K l ++ if t ∈ K then [] else [t] := by
  unfold noin
  rw [List.filter_append]
  congr 1
  by_cases c : t ∈ K <;> simp [c]
theorem room_swap {mn mx : Int} {A B : List Int} (ha : A.Nodup) (hb : B.Nodup) : cntR mn mx A + cntR mn mx (noin A B) = cntR mn mx B + cntR mn mx (noin B A) := by
  have h1 := cntR_split mn mx (fun t => decide (t ∈ B)) A
  have h2 := cntR_split mn mx (fun t => decide (t ∈ A)) B
  have h3 : (A.filter (fun t => decide (t ∈ B))).Perm (B.filter (fun t => decide (t ∈ A))) := (List.perm_ext_iff_of_nodup (ha.sublist List.filter_sublist) (hb.sublist List.filter_sublist)).2 (fun t => by
    rw [List.mem_filter, List.mem_filter]
    simp only [decide_eq_true_eq]
    exact ⟨fun h => ⟨h.2, h.1⟩, fun h => ⟨h.2, h.1⟩⟩)
  have h4 := cntR_perm (mn := mn) (mx := mx) h3
  unfold noin
  omega
theorem nodup_of_rise {l : List Int} (h : l.Pairwise (· < ·)) : l.Nodup := h.imp (fun h e => by omega)
/-- the reference's count is the pool's -/
theorem room_ref {M : Pm} {K L T : List Int} (hM : MOk M) (hr : L.Pairwise (· < ·)) (ho : RO M K L T) :
    (M.mx * sizeF M.s - M.mn * sizeF M.s).tdiv (sizeF M.s) + 1 - cntR (M.mn * sizeF M.s) (M.mx * sizeF M.s) K - cntR (M.mn * sizeF M.s) (M.mx * sizeF M.s) (noin K T) = roomL M L := by
  have hsz := sizeF_rng hM.ok.s0 hM.ok.s1
  have hS : 0 < sizeF M.s := by omega
  have hnk : M.kept.Nodup := nodup_of_rise hM.rise.1
  have hnl : L.Nodup := nodup_of_rise hr
  have e0 : (M.mx * sizeF M.s - M.mn * sizeF M.s).tdiv (sizeF M.s) = M.mx - M.mn := by
    rw [← Int.sub_mul]
    exact Int.mul_tdiv_cancel _ (by omega)
  have e1 : cntR (M.mn * sizeF M.s) (M.mx * sizeF M.s) K = cntR M.mn M.mx M.kept := by
    refine (cntR_perm ((List.perm_ext_iff_of_nodup ho.kn ?_).2 (fun k => ?_))).trans (cntR_map hS _)
    · exact List.Pairwise.map (R := (· ≠ ·)) _ (fun a b hab e => hab (size_inj hM e)) hnk
    · rw [ho.km, List.mem_map]
      exact ⟨fun ⟨x, hx, e⟩ => ⟨x, hx, e.symm⟩, fun ⟨x, hx, e⟩ => ⟨x, hx, e.symm⟩⟩
  have e2 : cntR (M.mn * sizeF M.s) (M.mx * sizeF M.s) (noin K T) = cntR M.mn M.mx (noin M.kept L) := by
    refine (cntR_perm ((List.perm_ext_iff_of_nodup (ho.tn.sublist List.filter_sublist) ?_).2 (fun k => ?_))).trans (cntR_map hS _)
    · exact List.Pairwise.map (R := (· ≠ ·)) _ (fun a b hab e => hab (size_inj hM e)) (hnl.sublist List.filter_sublist)
    · unfold noin
      rw [List.mem_filter, List.mem_map, ho.tm]
      simp only [Bool.not_eq_true', decide_eq_false_iff_not]
      constructor
      · rintro ⟨⟨x, hx, rfl⟩, h⟩
        exact ⟨x, List.mem_filter.2 ⟨hx, by simpa using fun h2 => h ((ho.k_mem hM x).2 h2)⟩, rfl⟩
      · rintro ⟨x, hx, rfl⟩
        obtain ⟨h1, h2⟩ := List.mem_filter.1 hx
        simp only [Bool.not_eq_true', decide_eq_false_iff_not] at h2
        exact ⟨⟨x, h1, rfl⟩, fun h => h2 ((ho.k_mem hM x).1 h)⟩
  have e3 := room_swap (mn := M.mn) (mx := M.mx) hnk hnl
  have e4 : roomL M L = M.mx - M.mn + 1 - cntR M.mn M.mx L - cntR M.mn M.mx (noin L M.kept) := rfl
  rw [e0, e1, e2, e4]
  omega
theorem sizeQ {s : Int} (h0 : 0 ≤ s) (h1 : s ≤ 32) (w : World) (n : Nat) : Calls Try.prog 58 #[.int .i64 s] (w.drewN n) fun e w'' => e = .returned (.int .i64 (sizeF s)) ∧ ∃ m, w'' = w.drewN m :=
  (weftref10_size.calls 33 s _ (w.drewN n) (r10size_all h0 h1 (Nat.le_refl _))).mono (fun e w' h => ⟨h.1, by obtain ⟨m, e⟩ := h.2.out; exact ⟨n + m, by rw [e, World.drewN_drewN]⟩⟩)
theorem inQ {w : World} {base : Nat} {v : Value} {xs : List Int} (h : IRow w base v xs) (hl : xs.length ≤ 4294967296) (a : Int) (n : Nat) : Calls Try.prog 36 #[v, .int .i64 a] (w.drewN n) fun e w'' => e = .returned (.bool (decide (a ∈ xs))) ∧ ∃ m, w'' = w.drewN m := by
  have h' : IRow (w.drewN n) base v xs := h.step (fun k hk => rfl)
  obtain ⟨A, c, e, hc, hC⟩ := h'.C
  subst e
  exact (weftref10_in.calls (xs.length + 1) A c xs a _ (w.drewN n) hC hc (in_all a (by omega) (by omega))).mono (fun e w' h => ⟨h.1, by obtain ⟨m, e⟩ := h.2.out; exact ⟨n + m, by rw [e, World.drewN_drewN]⟩⟩)
set_option maxHeartbeats 16000000 in
set_option maxRecDepth 100000 in
theorem rroom46 (w : World) (b : Nat) (vk vt : Value) (M : Pm) (K L T : List Int) (hM : MOk M) (hL : Lok M L) (hr : L.Pairwise (· < ·)) (h : RS w b vk vt M K T) (ho : RO M K L T) :
    Calls Try.prog 46 #[.pointer (some ⟨b, 0, none⟩)] w fun e w' => e = .returned (.int .i64 (roomL M L)) ∧ Below w.heap.size w w' := by
  have H0 := Aside0.mk h
  have HRR := Aside0.mk (room_ref hM hr ho)
  have HTL := Aside0.mk (And.intro (ho.tlen hM hL hr) ho.kl)
  have hsz := sizeF_rng hM.ok.s0 hM.ok.s1
  have HSQ := Aside0.mk (fun (W : World) (n : Nat) => sizeQ hM.ok.s0 hM.ok.s1 W n)
  have hmn := hM.row.mn0
  have hmx := hM.row.mx1
  have hmm := hM.mm
  obtain ⟨A, c, hvk⟩ := h.rk.sl
  obtain ⟨A', c', hvt⟩ := h.rt.sl
  subst hvk hvt
  have hlh : M.mn * sizeF M.s ≤ M.mx * sizeF M.s := Int.mul_le_mul_of_nonneg_right hmm (by omega)
  have hl0 : 0 ≤ M.mn * sizeF M.s := Int.mul_nonneg hmn (by omega)
  have hq : (M.mx * sizeF M.s - M.mn * sizeF M.s).tdiv (sizeF M.s) = M.mx - M.mn := by
    rw [← Int.sub_mul]
    exact Int.mul_tdiv_cancel _ (by omega)
  have hmxS : M.mx ≤ M.mx * sizeF M.s := by
    have := Int.mul_le_mul_of_nonneg_left (a := 1) (b := sizeF M.s) (c := M.mx) (by omega) (by omega)
    rw [Int.mul_one] at this
    exact this
  obtain ⟨S, hS⟩ : ∃ S, S = sizeF M.s := ⟨_, rfl⟩
  obtain ⟨lo, hlo⟩ : ∃ lo, lo = M.mn * sizeF M.s := ⟨_, rfl⟩
  obtain ⟨hi, hhi⟩ : ∃ hi, hi = M.mx * sizeF M.s := ⟨_, rfl⟩
  rw [← hhi, ← hlo, ← hS] at hq
  have HRR2 : Aside0 ((hi - lo).tdiv S + 1 - cntR lo hi K - cntR lo hi (noin K T) = roomL M L) := ⟨by rw [hlo, hhi, hS]; exact HRR.out⟩
  obtain ⟨q, hqq⟩ : ∃ q, q = (hi - lo).tdiv S := ⟨_, rfl⟩
  have HQ : Aside0 (0 ≤ q ∧ q < 4294967296) := ⟨by rw [hqq, hq]; omega⟩
  have hS0 : ¬ S = 0 := by omega
  have hw1 : IntKind.i64.wrap (hi - lo) = hi - lo := by rw [← hlo] at hl0 hlh; rw [← hhi] at hlh hmx; simp [IntKind.wrap, IntKind.bits, IntKind.signed]; omega
  have hw2 : IntKind.i64.wrap ((hi - lo).tdiv S) = (hi - lo).tdiv S := by rw [← hqq]; have := HQ.out; simp [IntKind.wrap, IntKind.bits, IntKind.signed]; omega
  have hw3 : IntKind.i64.wrap ((hi - lo).tdiv S + 1) = q + 1 := by rw [← hqq]; have := HQ.out; simp [IntKind.wrap, IntKind.bits, IntKind.signed]; omega
  rw [← hS] at HSQ
  have HW : Aside0 (∀ W v, RS W b (.slice A K.length c) v M K T → W.heap[b]? = some (.cells #[.int .u32 M.na, .int .i64 M.nl, .int .i64 M.s, .int .i64 lo, .int .i64 hi, .slice A K.length c, v] 74 (0, 0))) := ⟨fun W v h => by rw [hlo, hhi]; exact h.blk⟩
  rw [← hqq] at HRR2
  obtain ⟨ans, hans⟩ : ∃ r, r = roomL M L := ⟨_, rfl⟩
  rw [← hans] at HRR2
  rw [← hans]
  have hK := HW.out _ _ H0.out
  have kc2 := blk_cell hK 2
  have kc3 := blk_cell hK 3
  have kc4 := blk_cell hK 4
  have HQQ := Aside0.mk hqq
  clear hS hlo hhi h ho hL hr hsz hmn hmx hmm hlh hl0 hq hmxS hM HRR hK hans hqq
  go_enter Try.func46, Try.ntmps46
  go_wp2_with fail
  go_quiet ((go_at_call 58; exact HSQ.out _ _))
  go_wp2_with fail
  have HB0 : Aside0 (Below w.heap.size w (w.drewN nq)) := ⟨pw_below_drewN (Below.refl _ _) _⟩
  generalize w.drewN nq = w0 at *
  clear kc2 kc3 kc4 hw1 hw2 hw3 hS0 HSQ
  have HX0 : Aside0 (q + 1 = q + 1 - cntR lo hi (K.take 0)) := ⟨by simp [cntR]⟩
  go_loopg [3, 4] K.length (fun gg v vi wr => ∃ (i : Nat) (x : Int), vi = .int .i64 (i : Int) ∧ v = .int .i64 x ∧ gg = K.length - i ∧ i ≤ K.length ∧ Aside0 (x = q + 1 - cntR lo hi (K.take i)) ∧ Aside0 (Below w.heap.size w wr))
  case atStart => exact ⟨0, q + 1, rfl, rfl, rfl, Nat.zero_le _, HX0, HB0⟩
  case round =>
    clear HX0 HB0
    obtain ⟨i, x, rfl, rfl, hg, hi2, HX, HB⟩ := hrel
    have HGG := Aside0.mk hg
    clear hg
    have HS := Aside0.mk (H0.out.below HB.out)
    have kc4 := blk_cell (HW.out _ _ HS.out) 5
    have kc2 := blk_cell (HW.out _ _ HS.out) 3
    have kc3 := blk_cell (HW.out _ _ HS.out) 4
    have kck := blk_cell (HW.out _ _ HS.out) 5
    by_cases hlt : i < K.length
    · have hii : (i : Int) < (K.length : Int) := by omega
      obtain ⟨g, cc, e, k0⟩ := HS.out.rk.at_ hlt
      injection e with e1 e2 e3
      subst e1
      clear e2 e3
      have hxb : -8589934592 ≤ x ∧ x ≤ 8589934592 := by
        have := HX.out
        have h1 := cntR_le lo hi (K.take i)
        rw [List.length_take] at h1
        have := HTL.out.2
        have := HQ.out
        omega
      have HLT := Aside0.mk hlt
      have hwi : IntKind.i64.wrap ((i : Int) + 1) = ((i + 1 : Nat) : Int) := by have := HTL.out.2; rw [wrap64_id (by omega) (by omega)]; omega
      have HST : Aside0 (∀ y, y = x - (if lo ≤ K[i] ∧ K[i] ≤ hi then 1 else 0) → y = q + 1 - cntR lo hi (K.take (i + 1))) := ⟨fun y hy => by
        have := HX.out
        rw [List.take_add_one, List.getElem?_eq_getElem hlt, Option.toList_some, cntR_snoc]
        rw [hy]
        split <;> push_cast <;> omega⟩
      have hwx : IntKind.i64.wrap (x - 1) = x - 1 := by simp [IntKind.wrap, IntKind.bits, IntKind.signed]; omega
      generalize K[i] = k at *
      clear hlt hxb
      by_cases p1 : lo ≤ k
      · have d1 : decide (lo ≤ k) = true := decide_eq_true p1
        by_cases p2 : k ≤ hi
        · have d2 : decide (k ≤ hi) = true := decide_eq_true p2
          have HN := Aside0.mk (HST.out (x - 1) (by rw [if_pos ⟨p1, p2⟩]))
          clear p1 p2
          skip
          go_wp2_with fail
          go_quiet (fail)
          go_wp2_with fail
          go_roundg (K.length - (i + 1))
          case measure => have := HGG.out; have := HLT.out; omega
          case rel => exact ⟨i + 1, _, rfl, rfl, rfl, by have := HLT.out; omega, HN, ⟨pw_below_drewN HB.out _⟩⟩
        · have d2 : decide (k ≤ hi) = false := decide_eq_false p2
          have HN := Aside0.mk (HST.out x (by rw [if_neg (fun h => p2 h.2)]; omega))
          clear p1 p2
          skip
          go_wp2_with fail
          go_quiet (fail)
          go_wp2_with fail
          go_roundg (K.length - (i + 1))
          case measure => have := HGG.out; have := HLT.out; omega
          case rel => exact ⟨i + 1, _, rfl, rfl, rfl, by have := HLT.out; omega, HN, ⟨pw_below_drewN HB.out _⟩⟩
      · have d1 : decide (lo ≤ k) = false := decide_eq_false p1
        have HN := Aside0.mk (HST.out x (by rw [if_neg (fun h => p1 h.1)]; omega))
        clear p1
        skip
        go_wp2_with fail
        go_quiet (fail)
        go_wp2_with fail
        go_roundg (K.length - (i + 1))
        case measure => have := HGG.out; have := HLT.out; omega
        case rel => exact ⟨i + 1, _, rfl, rfl, rfl, by have := HLT.out; omega, HN, ⟨pw_below_drewN HB.out _⟩⟩
    · have hii : ¬ (i : Int) < (K.length : Int) := by omega
      obtain rfl : i = K.length := by omega
      have hx2 := HX.out
      rw [List.take_length] at hx2
      have HX3 := Aside0.mk hx2
      clear hx2 HX kc2 kc3 kck HS
      go_wp2_with fail
      have HX0 : Aside0 (x = x - cntR lo hi (noin K (T.take 0))) := ⟨by simp [cntR, noin]⟩
      go_loopg [3, 5] T.length (fun gg v vi wx => ∃ (j : Nat) (y : Int), vi = .int .i64 (j : Int) ∧ v = .int .i64 y ∧ gg = T.length - j ∧ j ≤ T.length ∧ Aside0 (y = x - cntR lo hi (noin K (T.take j))) ∧ Aside0 (Below w.heap.size w wx))
      case atStart => exact ⟨0, x, rfl, rfl, rfl, Nat.zero_le _, HX0, HB⟩
      case round =>
        clear HX0 HB kc4
        obtain ⟨j, y, rfl, rfl, hg, hj, HY, HB⟩ := hrel
        have HG2 := Aside0.mk hg
        clear hg
        have HS := Aside0.mk (H0.out.below HB.out)
        have kc2 := blk_cell (HW.out _ _ HS.out) 3
        have kc3 := blk_cell (HW.out _ _ HS.out) 4
        have kck := blk_cell (HW.out _ _ HS.out) 5
        have kct := blk_cell (HW.out _ _ HS.out) 6
        by_cases hlt : j < T.length
        · have hii : (j : Int) < (T.length : Int) := by omega
          obtain ⟨g, cc, e, k0⟩ := HS.out.rt.at_ hlt
          injection e with e1 e2 e3
          subst e1
          clear e2 e3
          have hxb : -8589934592 - 4294967296 ≤ y ∧ y ≤ 8589934592 := by
            have := HX3.out
            have := HY.out
            have h1 := cntR_le lo hi K
            have h2 := cntR_le lo hi (noin K (T.take j))
            have h3 : (noin K (T.take j)).length ≤ (T.take j).length := List.length_filter_le _ _
            rw [List.length_take] at h3
            have := HTL.out
            have := HQ.out
            omega
          have HLT := Aside0.mk hlt
          have hwi : IntKind.i64.wrap ((j : Int) + 1) = ((j + 1 : Nat) : Int) := by have := HTL.out.1; rw [wrap64_id (by omega) (by omega)]; omega
          have HST : Aside0 (∀ z, z = y - (if (lo ≤ T[j] ∧ T[j] ≤ hi) ∧ T[j] ∉ K then 1 else 0) → z = x - cntR lo hi (noin K (T.take (j + 1)))) := ⟨fun z hz => by
            have := HY.out
            rw [List.take_add_one, List.getElem?_eq_getElem hlt, Option.toList_some, noin_snoc, cntR_append]
            rw [hz]
            by_cases cc : T[j] ∈ K
            · rw [if_pos cc, if_neg (fun h => h.2 cc)]
              have e0 : cntR lo hi [] = 0 := rfl
              rw [e0]
              push_cast
              omega
            · rw [if_neg cc]
              have e0 := cntR_snoc lo hi [] T[j]
              rw [List.nil_append] at e0
              rw [e0]
              have e1 : cntR lo hi [] = 0 := rfl
              rw [e1]
              by_cases dd : lo ≤ T[j] ∧ T[j] ≤ hi
              · rw [if_pos ⟨dd, cc⟩, if_pos dd]; push_cast; omega
              · rw [if_neg (fun h => dd h.1), if_neg dd]; push_cast; omega⟩
          have hwx : IntKind.i64.wrap (y - 1) = y - 1 := by simp [IntKind.wrap, IntKind.bits, IntKind.signed]; omega
          have HAT : Aside0 (∀ W, Below w.heap.size w W → W.cell? ⟨g, j, none⟩ = some (.int .i64 T[j])) := ⟨fun W hW => by
            obtain ⟨g2, cc2, e, k0'⟩ := (H0.out.below hW).rt.at_ hlt
            injection e with e1 e2 e3
            injection e1 with e1
            injection e1 with e1
            subst e1
            exact k0'⟩
          generalize T[j] = k at *
          have HIQ := Aside0.mk (inQ HS.out.rk (by have := HTL.out.2; omega) k)
          obtain ⟨bd, hbd⟩ : ∃ bd, bd = decide (k ∈ K) := ⟨_, rfl⟩
          rw [← hbd] at HIQ
          have HBD := Aside0.mk hbd
          have HLN : Aside0 (K.length ≤ 1024 ∧ T.length ≤ 4294967296) := ⟨HTL.out.2, HTL.out.1⟩
          clear hlt hxb hbd
          go_wp2_with fail
          go_quiet ((go_at_call 36; exact HIQ.out _))
          have HB2 : Aside0 (Below w.heap.size w (wr.drewN nq)) := ⟨pw_below_drewN HB.out _⟩
          generalize wr.drewN nq = w5 at *
          have HS2 := Aside0.mk (H0.out.below HB2.out)
          clear HB HS kc2 kc3 kck kct k0 HIQ
          have kc2 := blk_cell (HW.out _ _ HS2.out) 3
          have kc3 := blk_cell (HW.out _ _ HS2.out) 4
          have kct := blk_cell (HW.out _ _ HS2.out) 6
          have k0 := HAT.out _ HB2.out
          by_cases p1 : lo ≤ k
          · have d1 : decide (lo ≤ k) = true := decide_eq_true p1
            by_cases p2 : k ≤ hi
            · have d2 : decide (k ≤ hi) = true := decide_eq_true p2
              cases bd with
              | true =>
                have hk : k ∈ K := of_decide_eq_true HBD.out.symm
                have HN := Aside0.mk (HST.out y (by rw [if_neg (fun h => h.2 hk)]; omega))
                clear p1 p2 hk
                go_wp2_with fail
                go_quiet (fail)
                go_wp2_with fail
                go_roundg (T.length - (j + 1))
                case measure => have := HG2.out; have := HLT.out; omega
                case rel => exact ⟨j + 1, _, rfl, rfl, rfl, by have := HLT.out; omega, HN, ⟨pw_below_drewN HB2.out _⟩⟩
              | false =>
                have hk : ¬ k ∈ K := of_decide_eq_false HBD.out.symm
                have HN := Aside0.mk (HST.out (y - 1) (by rw [if_pos ⟨⟨p1, p2⟩, hk⟩]))
                clear p1 p2 hk
                go_wp2_with fail
                go_quiet (fail)
                go_wp2_with fail
                go_roundg (T.length - (j + 1))
                case measure => have := HG2.out; have := HLT.out; omega
                case rel => exact ⟨j + 1, _, rfl, rfl, rfl, by have := HLT.out; omega, HN, ⟨pw_below_drewN HB2.out _⟩⟩
            · have d2 : decide (k ≤ hi) = false := decide_eq_false p2
              have HN := Aside0.mk (HST.out y (by rw [if_neg (fun h => p2 h.1.2)]; omega))
              clear p1 p2
              skip
              go_wp2_with fail
              go_quiet (fail)
              go_wp2_with fail
              go_roundg (T.length - (j + 1))
              case measure => have := HG2.out; have := HLT.out; omega
              case rel => exact ⟨j + 1, _, rfl, rfl, rfl, by have := HLT.out; omega, HN, ⟨pw_below_drewN HB2.out _⟩⟩
          · have d1 : decide (lo ≤ k) = false := decide_eq_false p1
            have HN := Aside0.mk (HST.out y (by rw [if_neg (fun h => p1 h.1.1)]; omega))
            clear p1
            skip
            go_wp2_with fail
            go_quiet (fail)
            go_wp2_with fail
            go_roundg (T.length - (j + 1))
            case measure => have := HG2.out; have := HLT.out; omega
            case rel => exact ⟨j + 1, _, rfl, rfl, rfl, by have := HLT.out; omega, HN, ⟨pw_below_drewN HB2.out _⟩⟩
        · have hii : ¬ (j : Int) < (T.length : Int) := by omega
          obtain rfl : j = T.length := by omega
          have hx2 := HY.out
          rw [List.take_length] at hx2
          have HX4 : Aside0 (y = ans) := ⟨by rw [hx2, HX3.out]; exact HRR2.out⟩
          rw [HX4.out]
          clear hx2
          go_wp2_with fail
          go_ret
          exact ⟨rfl, HB.out⟩
end Go.Proofs.Ytebnlhjakiipjaa.Pl
