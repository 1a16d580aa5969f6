/- AddrNewMemory walked. Conditions: addresses below 2^32, at most 1000000 prefixes. -/
import Derived.Test.YtncpcjphljfcpaaNmE
set_option linter.unusedVariables false
set_option linter.unusedSimpArgs false
namespace Go.Proofs.Ytncpcjphljfcpaa.Nm
open Go.RowKit Go.Proofs.YtncpcjphljfcpaaW.PrintWords Go.Proofs.Ytncpcjphljfcpaa.PNmm Go.Proofs.Ytncpcjphljfcpaa.Pure
theorem all_init {w w1 w2 w3 w4 w5 w6 w7 w9 w10 w11 : World} {vw vc vd vl vm vs vt : Value} {ps rc rm : List S32}
    (b1 : w.heap.size ≤ w1.heap.size) (z2 : w1.heap.size ≤ w2.heap.size) (rww : Row w2 w1.heap.size vw ps) (b2 : Below w2.heap.size w2 w11) (z3 : w2.heap.size ≤ w3.heap.size) (rcr : Row w4 w3.heap.size vc rc) (b4 : Below w4.heap.size w4 w11)
    (rd : Row w5 w4.heap.size vd rc) (b5 : Below w5.heap.size w5 w11) (rl : Row w6 w5.heap.size vl rm) (b6 : Below w6.heap.size w6 w11) (rmr : Row w7 w6.heap.size vm rm) (b7 : Below w7.heap.size w7 w11) (z9 : w7.heap.size ≤ w9.heap.size)
    (rs : Row w10 w9.heap.size vs rc) (b10 : Below w10.heap.size w10 w11) (rt : Row w11 w10.heap.size vt rm) (z4 : w3.heap.size ≤ w4.heap.size) (z5 : w4.heap.size ≤ w5.heap.size) (z6 : w5.heap.size ≤ w6.heap.size) (z7 : w6.heap.size ≤ w7.heap.size) (z10 : w9.heap.size ≤ w10.heap.size) :
    ∃ col, Cl w col ∧ All w w11 col [(5, vw, ps), (5, vs, rc), (5, vt, rm), (1, vc, rc), (2, vd, rc), (3, vl, rm), (4, vm, rm)] := by
  refine ⟨fun k => if k < w1.heap.size then 0 else if k < w3.heap.size then 5 else if k < w4.heap.size then 1 else if k < w5.heap.size then 2 else if k < w6.heap.size then 3 else if k < w7.heap.size then 4 else 5, fun k hk => ?_, fun p hp => ?_⟩
  · by_cases c : k < w1.heap.size
    · exact absurd (if_pos c) hk
    · omega
  · simp only [List.mem_cons, List.not_mem_nil, or_false] at hp
    rcases hp with rfl | rfl | rfl | rfl | rfl | rfl | rfl
    · exact ⟨(rww.below b2).low, fun k hk => by
        have := rww.lt k hk
        refine ⟨?_, by omega⟩
        show (if _ then _ else _) = _
        rw [if_neg (by omega), if_pos (by omega)]⟩
    · exact ⟨(rs.below b10).low, fun k hk => by
        have := rs.lt k hk
        refine ⟨?_, by omega⟩
        show (if _ then _ else _) = _
        rw [if_neg (by omega), if_neg (by omega), if_neg (by omega), if_neg (by omega), if_neg (by omega), if_neg (by omega)]⟩
    · exact ⟨rt.low, fun k hk => by
        have := rt.lt k hk
        refine ⟨?_, by omega⟩
        show (if _ then _ else _) = _
        rw [if_neg (by omega), if_neg (by omega), if_neg (by omega), if_neg (by omega), if_neg (by omega), if_neg (by omega)]⟩
    · exact ⟨(rcr.below b4).low, fun k hk => by
        have := rcr.lt k hk
        refine ⟨?_, by omega⟩
        show (if _ then _ else _) = _
        rw [if_neg (by omega), if_neg (by omega), if_pos (by omega)]⟩
    · exact ⟨(rd.below b5).low, fun k hk => by
        have := rd.lt k hk
        refine ⟨?_, by omega⟩
        show (if _ then _ else _) = _
        rw [if_neg (by omega), if_neg (by omega), if_neg (by omega), if_pos (by omega)]⟩
    · exact ⟨(rl.below b6).low, fun k hk => by
        have := rl.lt k hk
        refine ⟨?_, by omega⟩
        show (if _ then _ else _) = _
        rw [if_neg (by omega), if_neg (by omega), if_neg (by omega), if_neg (by omega), if_pos (by omega)]⟩
    · exact ⟨(rmr.below b7).low, fun k hk => by
        have := rmr.lt k hk
        refine ⟨?_, by omega⟩
        show (if _ then _ else _) = _
        rw [if_neg (by omega), if_neg (by omega), if_neg (by omega), if_neg (by omega), if_neg (by omega), if_pos (by omega)]⟩
set_option maxHeartbeats 16000000 in
set_option maxRecDepth 100000 in
theorem newmem8 (w : World) (lo hi : Int) (A : Option Addr) (c : Nat) (ps : List S32) (h0 : 0 ≤ lo) (h1 : hi < 4294967296) (hU : ∀ p, p ∈ ps → U32 p)
    (hC : Kd.C k32 w A ps.length ps) (hc : ps.length ≤ c) (hlen : ps.length ≤ 1000000) :
    Calls Try.prog 8 #[.int .u32 lo, .int .u32 hi, .slice A ps.length c] w fun e w' => e = .returned (.bool true) ∧ Below w.heap.size w w' := by
  obtain ⟨rc, hrc, hcov⟩ := cover_c lo hi h0 h1
  obtain ⟨rm, er, hrm, hmrg⟩ := merge_c ps hU
  have HCOV := Aside0.mk hcov
  have HMRG := Aside0.mk (fun (w' : World) (hb : Below w.heap.size w w') => hmrg w' A c (Kd.C_below hC hb) hc)
  have HUN := Aside0.mk (fun (w' : World) (hb : Below w.heap.size w w') => untouched28 w' lo hi A c ps h0 h1 hU (Kd.C_below hC hb) hc hlen)
  have HCP := Aside0.mk (fun (w' : World) (hb : Below w.heap.size w w') => copied_c ps hlen w' A c (Kd.C_below hC hb) hc)
  have HC := Aside0.mk hC
  have HCC := Aside0.mk hc
  have HU := Aside0.mk hU
  have HLEN := Aside0.mk hlen
  have HR := Aside0.mk (show rc.length ≤ 62 ∧ rm.length ≤ 253952 from ⟨hrc, hrm⟩)
  clear hcov hmrg hC hc hU hlen hrc hrm h0 h1
  go_enter Try.func8, Try.ntmps8

  go_wp2_with fail
  refine (begun_c _).mono ?_
  rintro e_ w1 ⟨rfl, hd⟩
  have B1 := Aside0.mk (drawn_below hd)
  clear hd
  go_wp2_with fail
  refine (HCP.out _ B1.out).mono ?_
  rintro e_ w2 ⟨vw, rfl, hr, hb⟩
  have RW := Aside0.mk hr
  have B2 := Aside0.mk (below_step B1.out hb)
  have Z2 := Aside0.mk hb.size
  clear hr hb
  go_wp2_with fail
  refine (HUN.out _ B2.out).mono ?_
  rintro e_ w3 ⟨rfl, hb⟩
  have B3 := Aside0.mk (below_step B2.out hb)
  have B23 := Aside0.mk hb
  clear hb HUN HCP
  go_wp2_with fail
  refine (HCOV.out _).mono ?_
  rintro e_ w4 ⟨vc, rfl, hr, hb⟩
  have RC := Aside0.mk hr
  have B4 := Aside0.mk (below_step B3.out hb)
  have B3_4 := Aside0.mk hb
  clear hr hb
  go_wp2_with fail
  refine (HCOV.out _).mono ?_
  rintro e_ w5 ⟨vd, rfl, hr, hb⟩
  have RD := Aside0.mk hr
  have B5 := Aside0.mk (below_step B4.out hb)
  have B4_5 := Aside0.mk hb
  clear hr hb
  go_wp2_with fail
  refine (HMRG.out _ B5.out).mono ?_
  rintro e_ w6 ⟨vl, rfl, hr, hb⟩
  have RL := Aside0.mk hr
  have B6 := Aside0.mk (below_step B5.out hb)
  have B5_6 := Aside0.mk hb
  clear hr hb
  go_wp2_with fail
  refine (HMRG.out _ B6.out).mono ?_
  rintro e_ w7 ⟨vm, rfl, hr, hb⟩
  have RM := Aside0.mk hr
  have B7 := Aside0.mk (below_step B6.out hb)
  have B6_7 := Aside0.mk hb
  clear hr hb
  obtain ⟨Ac, cc, rfl, hle, _⟩ := RC.out.C
  have LEc := Aside0.mk hle
  clear hle
  obtain ⟨Ad, cd, rfl, hle, _⟩ := RD.out.C
  have LEd := Aside0.mk hle
  clear hle
  obtain ⟨Al, cl, rfl, hle, _⟩ := RL.out.C
  have LEl := Aside0.mk hle
  clear hle
  obtain ⟨Am, cm, rfl, hle, _⟩ := RM.out.C
  have LEm := Aside0.mk hle
  clear hle
  obtain ⟨Aw, cw, rfl, hle, _⟩ := RW.out.C
  have LEw := Aside0.mk hle
  clear hle
  have B47 := Aside0.mk (below_step (below_step B4_5.out B5_6.out) B6_7.out)
  have B57 := Aside0.mk (below_step B5_6.out B6_7.out)
  have HS1 : Aside0 (Calls Try.prog 12 #[.slice Ac rc.length cc, .slice Ad rc.length cd] w7 fun e w' => e = .returned (.bool true) ∧ Drawn0 w7 w') := by
    obtain ⟨_, _, e, _, h1⟩ := (RC.out.below B47.out).C
    injection e with e1 _ e3
    subst e1 e3
    obtain ⟨_, _, e, _, h2⟩ := (RD.out.below B57.out).C
    injection e with e1 _ e3
    subst e1 e3
    exact ⟨same_c rc (by have := HR.out; omega) w7 _ _ _ _ h1 LEc.out h2 LEd.out⟩
  go_wp2_with fail
  refine (HS1.out).mono ?_
  rintro e_ w8 ⟨rfl, hd⟩
  have B78 := Aside0.mk (drawn_below hd)
  clear hd HS1
  have HS2 : Aside0 (Calls Try.prog 12 #[.slice Al rm.length cl, .slice Am rm.length cm] w8 fun e w' => e = .returned (.bool true) ∧ Drawn0 w8 w') := by
    obtain ⟨_, _, e, _, h1⟩ := (RL.out.below (below_step B6_7.out B78.out)).C
    injection e with e1 _ e3
    subst e1 e3
    obtain ⟨_, _, e, _, h2⟩ := (RM.out.below B78.out).C
    injection e with e1 _ e3
    subst e1 e3
    exact ⟨same_c rm (by have := HR.out; omega) w8 _ _ _ _ h1 LEl.out h2 LEm.out⟩
  go_wp2_with fail
  refine (HS2.out).mono ?_
  rintro e_ w9 ⟨rfl, hd⟩
  have B79 := Aside0.mk (below_step B78.out (drawn_below hd))
  clear hd HS2 B78
  have HS3 : Aside0 (Calls Try.prog 23 #[.slice Ac rc.length cc] w9 fun e w' => ∃ v, e = .returned v ∧ Row w' w9.heap.size v rc ∧ Below w9.heap.size w9 w') := by
    obtain ⟨_, _, e, _, h1⟩ := (RC.out.below (below_step B47.out B79.out)).C
    injection e with e1 _ e3
    subst e1 e3
    exact ⟨copied_c rc (by have := HR.out; omega) w9 _ _ h1 LEc.out⟩
  go_wp2_with fail
  refine (HS3.out).mono ?_
  rintro e_ w10 ⟨vs, rfl, hr, hb⟩
  have RS := Aside0.mk hr
  have B9_10 := Aside0.mk hb
  clear hr hb HS3
  have HS4 : Aside0 (Calls Try.prog 23 #[.slice Al rm.length cl] w10 fun e w' => ∃ v, e = .returned v ∧ Row w' w10.heap.size v rm ∧ Below w10.heap.size w10 w') := by
    obtain ⟨_, _, e, _, h1⟩ := (RL.out.below (below_step (below_step B6_7.out B79.out) B9_10.out)).C
    injection e with e1 _ e3
    subst e1 e3
    exact ⟨copied_c rm (by have := HR.out; omega) w10 _ _ h1 LEl.out⟩
  go_wp2_with fail
  refine (HS4.out).mono ?_
  rintro e_ w11 ⟨vt, rfl, hr, hb⟩
  have RT := Aside0.mk hr
  have B10_11 := Aside0.mk hb
  clear hr hb HS4
  obtain ⟨As, cs, rfl, hle, _⟩ := RS.out.C
  have LEs := Aside0.mk hle
  clear hle
  obtain ⟨At, ct, rfl, hle, _⟩ := RT.out.C
  have LEt := Aside0.mk hle
  clear hle
  have HINI := Aside0.mk (all_init (w := w) B1.out.size Z2.out RW.out (below_step (below_step (below_step (below_step (below_step B23.out B3_4.out) B47.out) B79.out) B9_10.out) B10_11.out) B23.out.size RC.out (below_step (below_step (below_step B47.out B79.out) B9_10.out) B10_11.out) RD.out (below_step (below_step (below_step B57.out B79.out) B9_10.out) B10_11.out) RL.out (below_step (below_step (below_step B6_7.out B79.out) B9_10.out) B10_11.out) RM.out (below_step (below_step B79.out B9_10.out) B10_11.out) B79.out.size RS.out B10_11.out RT.out B3_4.out.size B4_5.out.size B5_6.out.size B6_7.out.size B9_10.out.size)
  have BW := Aside0.mk (below_step (below_step (below_step B7.out B79.out) B9_10.out) B10_11.out)
  clear RW RC RD RL RM RS RT B1 B2 B3 B4 B5 B6 B7 Z2 B23 B3_4 B4_5 B5_6 B6_7 B47 B57 B79 B9_10 B10_11
  obtain ⟨col, hcl, hall⟩ := HINI.out
  have BAG : Aside0 (Bag w w11 col _) := ⟨⟨hall, hcl, BW.out⟩⟩
  clear hcl hall HINI BW
  have BAG : Aside0 (Bag w w11 col [(1, .slice Ac rc.length cc, rc), (5, .slice Aw ps.length cw, ps), (5, .slice As rc.length cs, rc), (5, .slice At rm.length ct, rm), (2, .slice Ad rc.length cd, rc), (3, .slice Al rm.length cl, rm), (4, .slice Am rm.length cm, rm)]) := ⟨BAG.out.sub (by intro p hp; simp only [List.mem_cons, List.not_mem_nil, or_false] at hp ⊢; rcases hp with rfl | rfl | rfl | rfl | rfl | rfl | rfl <;> simp)⟩
  go_upto_block 0 with fail
  go_cut [18] (fun v wx => Aside0 (Bag w wx col ((1, .slice Ac rc.length cc, List.replicate rc.length (⟨6, 46⟩ : S32)) :: [(5, .slice Aw ps.length cw, ps), (5, .slice As rc.length cs, rc), (5, .slice At rm.length ct, rm), (2, .slice Ad rc.length cd, rc), (3, .slice Al rm.length cl, rm), (4, .slice Am rm.length cm, rm)])))
  case first =>
    go_wp2_with fail
    go_loopg [18] rc.length (fun k v wr => ∃ (q : Nat) (ys : List S32), v = .int .i64 (q : Int) ∧ k = rc.length - q ∧ q ≤ rc.length ∧ Aside0 (Bag w wr col ((1, .slice Ac rc.length cc, ys) :: [(5, .slice Aw ps.length cw, ps), (5, .slice As rc.length cs, rc), (5, .slice At rm.length ct, rm), (2, .slice Ad rc.length cd, rc), (3, .slice Al rm.length cl, rm), (4, .slice Am rm.length cm, rm)])) ∧ Aside0 (ys.length = rc.length) ∧ Aside0 (∀ q', q' < q → ys[q']? = some (⟨6, 46⟩ : S32)))
    case atStart => exact ⟨0, rc, rfl, rfl, Nat.zero_le _, BAG, ⟨rfl⟩, ⟨fun q hq => by omega⟩⟩
    case round =>
      clear BAG
      obtain ⟨q, ys, rfl, hk, hq, BAG, HY, HQ⟩ := hrel
      by_cases hlt : q < rc.length
      · have hqq : (q : Int) < (rc.length : Int) := by omega
        have hw2 : IntKind.i64.wrap ((q : Int) + 1) = ((q + 1 : Nat) : Int) := by rw [show (q : Int) + 1 = ((q + 1 : Nat) : Int) from by omega]; exact wrap64_id (by omega) (by have := HR.out; omega)
        go_wp2_with fail
        refine (mark_n 6 6 46 (by simp [mk]) (by simp [mk, wrap64]) _).mono ?_
        rintro e_ wm ⟨rfl, hb⟩
        have B2 := Aside0.mk (BAG.out.below hb)
        clear hb BAG
        have hro : Row wm 0 (.slice Ac rc.length cc) ys := (B2.out.all _ List.mem_cons_self).row
        obtain ⟨g, cap, e, _⟩ := World.ownsRow.form hro (by have := HY.out; omega)
        injection e with e3 e5 e4
        subst e3 e4
        clear e5 hro
        obtain ⟨⟨x, y, kx, ky, kf, kg⟩, h3⟩ := B2.out.put (q := q) (by decide) (by simp) (by have := HY.out; omega) (⟨6, 46⟩ : S32)
        have B3 := Aside0.mk h3
        have HY3 : Aside0 ((ys.set q (⟨6, 46⟩ : S32)).length = rc.length) := ⟨by rw [List.length_set]; exact HY.out⟩
        have HQ3 : Aside0 (∀ q', q' < q + 1 → (ys.set q (⟨6, 46⟩ : S32))[q']? = some (⟨6, 46⟩ : S32)) := ⟨fun q' hq' => by
          by_cases e : q' = q
          · subst e
            rw [List.getElem?_set_self (by have := HY.out; omega)]
          · rw [List.getElem?_set_ne (by omega)]
            exact HQ.out q' (by omega)⟩
        clear h3 B2 HY HQ
        go_wp2_with fail
        go_roundg (rc.length - (q + 1))
        case measure => omega
        case rel => exact ⟨q + 1, _, by first | rfl | go_num, rfl, by omega, B3, HY3, HQ3⟩
      · have hqq : ¬ (q : Int) < (rc.length : Int) := by omega
        obtain rfl : ys = List.replicate rc.length (⟨6, 46⟩ : S32) := by
          refine List.ext_getElem? (fun q' => ?_)
          by_cases c9 : q' < rc.length
          · rw [HQ.out q' (by omega), List.getElem?_replicate_of_lt c9]
          · rw [List.getElem?_eq_none (by rw [HY.out]; omega), List.getElem?_eq_none (by rw [List.length_replicate]; omega)]
        go_wp2_with fail
        go_meet
        exact BAG
  case rest =>
    clear BAG
    have BAG := hcut
    clear hcut
    rename World => w12
    have BAG : Aside0 (Bag w w12 col [(3, .slice Al rm.length cl, rm), (1, .slice Ac rc.length cc, List.replicate rc.length (⟨6, 46⟩ : S32)), (5, .slice Aw ps.length cw, ps), (5, .slice As rc.length cs, rc), (5, .slice At rm.length ct, rm), (2, .slice Ad rc.length cd, rc), (4, .slice Am rm.length cm, rm)]) := ⟨BAG.out.sub (by intro p hp; simp only [List.mem_cons, List.not_mem_nil, or_false] at hp ⊢; rcases hp with rfl | rfl | rfl | rfl | rfl | rfl | rfl <;> simp)⟩
    go_upto_block 2 with fail
    go_cut [19] (fun v wx => Aside0 (Bag w wx col ((3, .slice Al rm.length cl, List.replicate rm.length (⟨7, 47⟩ : S32)) :: [(1, .slice Ac rc.length cc, List.replicate rc.length (⟨6, 46⟩ : S32)), (5, .slice Aw ps.length cw, ps), (5, .slice As rc.length cs, rc), (5, .slice At rm.length ct, rm), (2, .slice Ad rc.length cd, rc), (4, .slice Am rm.length cm, rm)])))
    case first =>
      go_wp2_with fail
      go_loopg [19] rm.length (fun k v wr => ∃ (q : Nat) (ys : List S32), v = .int .i64 (q : Int) ∧ k = rm.length - q ∧ q ≤ rm.length ∧ Aside0 (Bag w wr col ((3, .slice Al rm.length cl, ys) :: [(1, .slice Ac rc.length cc, List.replicate rc.length (⟨6, 46⟩ : S32)), (5, .slice Aw ps.length cw, ps), (5, .slice As rc.length cs, rc), (5, .slice At rm.length ct, rm), (2, .slice Ad rc.length cd, rc), (4, .slice Am rm.length cm, rm)])) ∧ Aside0 (ys.length = rm.length) ∧ Aside0 (∀ q', q' < q → ys[q']? = some (⟨7, 47⟩ : S32)))
      case atStart => exact ⟨0, rm, rfl, rfl, Nat.zero_le _, BAG, ⟨rfl⟩, ⟨fun q hq => by omega⟩⟩
      case round =>
        clear BAG
        obtain ⟨q, ys, rfl, hk, hq, BAG, HY, HQ⟩ := hrel
        by_cases hlt : q < rm.length
        · have hqq : (q : Int) < (rm.length : Int) := by omega
          have hw2 : IntKind.i64.wrap ((q : Int) + 1) = ((q + 1 : Nat) : Int) := by rw [show (q : Int) + 1 = ((q + 1 : Nat) : Int) from by omega]; exact wrap64_id (by omega) (by have := HR.out; omega)
          go_wp2_with fail
          refine (mark_n 7 7 47 (by simp [mk]) (by simp [mk, wrap64]) _).mono ?_
          rintro e_ wm ⟨rfl, hb⟩
          have B2 := Aside0.mk (BAG.out.below hb)
          clear hb BAG
          have hro : Row wm 0 (.slice Al rm.length cl) ys := (B2.out.all _ List.mem_cons_self).row
          obtain ⟨g, cap, e, _⟩ := World.ownsRow.form hro (by have := HY.out; omega)
          injection e with e3 e5 e4
          subst e3 e4
          clear e5 hro
          obtain ⟨⟨x, y, kx, ky, kf, kg⟩, h3⟩ := B2.out.put (q := q) (by decide) (by simp) (by have := HY.out; omega) (⟨7, 47⟩ : S32)
          have B3 := Aside0.mk h3
          have HY3 : Aside0 ((ys.set q (⟨7, 47⟩ : S32)).length = rm.length) := ⟨by rw [List.length_set]; exact HY.out⟩
          have HQ3 : Aside0 (∀ q', q' < q + 1 → (ys.set q (⟨7, 47⟩ : S32))[q']? = some (⟨7, 47⟩ : S32)) := ⟨fun q' hq' => by
            by_cases e : q' = q
            · subst e
              rw [List.getElem?_set_self (by have := HY.out; omega)]
            · rw [List.getElem?_set_ne (by omega)]
              exact HQ.out q' (by omega)⟩
          clear h3 B2 HY HQ
          go_wp2_with fail
          go_roundg (rm.length - (q + 1))
          case measure => omega
          case rel => exact ⟨q + 1, _, by first | rfl | go_num, rfl, by omega, B3, HY3, HQ3⟩
        · have hqq : ¬ (q : Int) < (rm.length : Int) := by omega
          obtain rfl : ys = List.replicate rm.length (⟨7, 47⟩ : S32) := by
            refine List.ext_getElem? (fun q' => ?_)
            by_cases c9 : q' < rm.length
            · rw [HQ.out q' (by omega), List.getElem?_replicate_of_lt c9]
            · rw [List.getElem?_eq_none (by rw [HY.out]; omega), List.getElem?_eq_none (by rw [List.length_replicate]; omega)]
          go_wp2_with fail
          go_meet
          exact BAG
    case rest =>
      clear BAG
      have BAG := hcut
      clear hcut
      rename World => w13
      have BAG : Aside0 (Bag w w13 col [(1, .slice Ac rc.length cc, List.replicate rc.length (⟨6, 46⟩ : S32)), (3, .slice Al rm.length cl, List.replicate rm.length (⟨7, 47⟩ : S32)), (5, .slice Aw ps.length cw, ps), (5, .slice As rc.length cs, rc), (5, .slice At rm.length ct, rm), (2, .slice Ad rc.length cd, rc), (4, .slice Am rm.length cm, rm)]) := ⟨BAG.out.sub (by intro p hp; simp only [List.mem_cons, List.not_mem_nil, or_false] at hp ⊢; rcases hp with rfl | rfl | rfl | rfl | rfl | rfl | rfl <;> simp)⟩
      go_wp2_with fail
      refine (mark_n 1 1 41 (by simp [mk]) (by simp [mk, wrap64]) _).mono ?_
      rintro e_ wm0 ⟨rfl, hb0⟩
      obtain ⟨w14, Ae, ce, cole, hr, hbag, hrel⟩ := BAG.out.app (by decide) (by simp) (by rw [List.length_replicate]) (⟨1, 41⟩ : S32) 1 (by omega) (by have := HR.out; omega) (below_alloc hb0 (.cells #[.int .u32 1, .int .i64 41] 32)) ⟨wm0.heap.size, 0, none⟩ 1 (World.news_of_block (cs := #[.int .u32 1, .int .i64 41]) (t := 32) (fr := (0, 0)) (heap_alloc_new wm0 _))
      obtain ⟨me, hme⟩ : ∃ m, m = rc.length + 1 := ⟨_, rfl⟩
      rw [← hme] at hr hbag hrel
      have HMe := Aside0.mk hme
      have R := Aside0.mk hr
      have HRELe := Aside0.mk hrel
      clear BAG
      have BAG := Aside0.mk hbag
      clear hr hbag hrel hme  hb0
      go_upto_region 25 with ((with_reducible refine gate_builtin (b := .append) (xs := #[.tmp 98, .tmp 100]) rfl ?_); at_builtin; refine wpList_append_run rfl (.tmp 98) (.tmp 100) 25 rfl rfl rfl R.out ?_)
      clear R
      have BAG : Aside0 (Bag w w14 cole [(3, .slice Al rm.length cl, List.replicate rm.length (⟨7, 47⟩ : S32)), (1, .slice Ac rc.length cc, List.replicate rc.length (⟨6, 46⟩ : S32)), (1, .slice Ae me ce, List.replicate rc.length (⟨6, 46⟩ : S32) ++ List.replicate 1 (⟨1, 41⟩ : S32)), (5, .slice Aw ps.length cw, ps), (5, .slice As rc.length cs, rc), (5, .slice At rm.length ct, rm), (2, .slice Ad rc.length cd, rc), (4, .slice Am rm.length cm, rm)]) := ⟨BAG.out.sub (by intro p hp; simp only [List.mem_cons, List.not_mem_nil, or_false] at hp ⊢; rcases hp with rfl | rfl | rfl | rfl | rfl | rfl | rfl | rfl <;> simp)⟩
      go_wp2_with fail
      refine (mark_n 2 2 42 (by simp [mk]) (by simp [mk, wrap64]) _).mono ?_
      rintro e_ wm0 ⟨rfl, hb0⟩
      have HB0 := Aside0.mk hb0
      clear hb0
      go_wp2_with fail
      refine (mark_n 2 2 42 (by simp [mk]) (by simp [mk, wrap64]) _).mono ?_
      rintro e_ wm1 ⟨rfl, hb1⟩
      obtain ⟨w15, Af, cf, colf, hr, hbag, hrel⟩ := BAG.out.app (by decide) (by simp) (by rw [List.length_replicate]) (⟨2, 42⟩ : S32) 2 (by omega) (by have := HR.out; omega) (below_alloc (below_step HB0.out hb1) (.cells #[.int .u32 2, .int .i64 42, .int .u32 2, .int .i64 42] 32)) ⟨wm1.heap.size, 0, none⟩ 2 (World.news_of_block (cs := #[.int .u32 2, .int .i64 42, .int .u32 2, .int .i64 42]) (t := 32) (fr := (0, 0)) (heap_alloc_new wm1 _))
      obtain ⟨mf, hmf⟩ : ∃ m, m = rm.length + 2 := ⟨_, rfl⟩
      rw [← hmf] at hr hbag hrel
      have HMf := Aside0.mk hmf
      have R := Aside0.mk hr
      have HRELf := Aside0.mk hrel
      clear BAG
      have BAG := Aside0.mk hbag
      clear hr hbag hrel hmf HB0 hb1
      go_upto_region 26 with ((with_reducible refine gate_builtin (b := .append) (xs := #[.tmp 102, .tmp 105]) rfl ?_); at_builtin; refine wpList_append_run rfl (.tmp 102) (.tmp 105) 25 rfl rfl rfl R.out ?_)
      clear R
      have BAG : Aside0 (Bag w w15 colf [(2, .slice Ad rc.length cd, rc), (3, .slice Al rm.length cl, List.replicate rm.length (⟨7, 47⟩ : S32)), (3, .slice Af mf cf, List.replicate rm.length (⟨7, 47⟩ : S32) ++ List.replicate 2 (⟨2, 42⟩ : S32)), (1, .slice Ac rc.length cc, List.replicate rc.length (⟨6, 46⟩ : S32)), (1, .slice Ae me ce, List.replicate rc.length (⟨6, 46⟩ : S32) ++ List.replicate 1 (⟨1, 41⟩ : S32)), (5, .slice Aw ps.length cw, ps), (5, .slice As rc.length cs, rc), (5, .slice At rm.length ct, rm), (4, .slice Am rm.length cm, rm)]) := ⟨BAG.out.sub (by intro p hp; simp only [List.mem_cons, List.not_mem_nil, or_false] at hp ⊢; rcases hp with rfl | rfl | rfl | rfl | rfl | rfl | rfl | rfl | rfl <;> simp)⟩
      go_wp2_with fail
      refine (mark_n 3 3 43 (by simp [mk]) (by simp [mk, wrap64]) _).mono ?_
      rintro e_ wm0 ⟨rfl, hb0⟩
      have HB0 := Aside0.mk hb0
      clear hb0
      go_wp2_with fail
      refine (mark_n 3 3 43 (by simp [mk]) (by simp [mk, wrap64]) _).mono ?_
      rintro e_ wm1 ⟨rfl, hb1⟩
      have HB1 := Aside0.mk hb1
      clear hb1
      go_wp2_with fail
      refine (mark_n 3 3 43 (by simp [mk]) (by simp [mk, wrap64]) _).mono ?_
      rintro e_ wm2 ⟨rfl, hb2⟩
      obtain ⟨w16, Ag, cg, colg, hr, hbag, hrel⟩ := BAG.out.app (by decide) (by simp) rfl (⟨3, 43⟩ : S32) 3 (by omega) (by have := HR.out; omega) (below_alloc (below_step HB0.out (below_step HB1.out hb2)) (.cells #[.int .u32 3, .int .i64 43, .int .u32 3, .int .i64 43, .int .u32 3, .int .i64 43] 32)) ⟨wm2.heap.size, 0, none⟩ 3 (World.news_of_block (cs := #[.int .u32 3, .int .i64 43, .int .u32 3, .int .i64 43, .int .u32 3, .int .i64 43]) (t := 32) (fr := (0, 0)) (heap_alloc_new wm2 _))
      obtain ⟨mg, hmg⟩ : ∃ m, m = rc.length + 3 := ⟨_, rfl⟩
      rw [← hmg] at hr hbag hrel
      have HMg := Aside0.mk hmg
      have R := Aside0.mk hr
      have HRELg := Aside0.mk hrel
      clear BAG
      have BAG := Aside0.mk hbag
      clear hr hbag hrel hmg HB0 HB1 hb2
      go_upto_region 27 with ((with_reducible refine gate_builtin (b := .append) (xs := #[.tmp 107, .tmp 111]) rfl ?_); at_builtin; refine wpList_append_run rfl (.tmp 107) (.tmp 111) 25 rfl rfl rfl R.out ?_)
      clear R
      have BAG : Aside0 (Bag w w16 colg [(4, .slice Am rm.length cm, rm), (2, .slice Ad rc.length cd, rc), (2, .slice Ag mg cg, rc ++ List.replicate 3 (⟨3, 43⟩ : S32)), (3, .slice Al rm.length cl, List.replicate rm.length (⟨7, 47⟩ : S32)), (3, .slice Af mf cf, List.replicate rm.length (⟨7, 47⟩ : S32) ++ List.replicate 2 (⟨2, 42⟩ : S32)), (1, .slice Ac rc.length cc, List.replicate rc.length (⟨6, 46⟩ : S32)), (1, .slice Ae me ce, List.replicate rc.length (⟨6, 46⟩ : S32) ++ List.replicate 1 (⟨1, 41⟩ : S32)), (5, .slice Aw ps.length cw, ps), (5, .slice As rc.length cs, rc), (5, .slice At rm.length ct, rm)]) := ⟨BAG.out.sub (by intro p hp; simp only [List.mem_cons, List.not_mem_nil, or_false] at hp ⊢; rcases hp with rfl | rfl | rfl | rfl | rfl | rfl | rfl | rfl | rfl | rfl <;> simp)⟩
      go_wp2_with fail
      refine (mark_n 4 4 44 (by simp [mk]) (by simp [mk, wrap64]) _).mono ?_
      rintro e_ wm0 ⟨rfl, hb0⟩
      obtain ⟨w17, Ah, ch, colh, hr, hbag, hrel⟩ := BAG.out.app (by decide) (by simp) rfl (⟨4, 44⟩ : S32) 1 (by omega) (by have := HR.out; omega) (below_alloc hb0 (.cells #[.int .u32 4, .int .i64 44] 32)) ⟨wm0.heap.size, 0, none⟩ 1 (World.news_of_block (cs := #[.int .u32 4, .int .i64 44]) (t := 32) (fr := (0, 0)) (heap_alloc_new wm0 _))
      obtain ⟨mh, hmh⟩ : ∃ m, m = rm.length + 1 := ⟨_, rfl⟩
      rw [← hmh] at hr hbag hrel
      have HMh := Aside0.mk hmh
      have R := Aside0.mk hr
      have HRELh := Aside0.mk hrel
      clear BAG
      have BAG := Aside0.mk hbag
      clear hr hbag hrel hmh  hb0
      go_upto_block 4 with ((with_reducible refine gate_builtin (b := .append) (xs := #[.tmp 113, .tmp 115]) rfl ?_); at_builtin; refine wpList_append_run rfl (.tmp 113) (.tmp 115) 25 rfl rfl rfl R.out ?_)
      clear R
      have BAG : Aside0 (Bag w w17 colh [(1, .slice Ac rc.length cc, List.replicate rc.length (⟨6, 46⟩ : S32)), (1, .slice Ae me ce, List.replicate rc.length (⟨6, 46⟩ : S32) ++ List.replicate 1 (⟨1, 41⟩ : S32)), (4, .slice Am rm.length cm, rm), (4, .slice Ah mh ch, rm ++ List.replicate 1 (⟨4, 44⟩ : S32)), (2, .slice Ad rc.length cd, rc), (2, .slice Ag mg cg, rc ++ List.replicate 3 (⟨3, 43⟩ : S32)), (3, .slice Al rm.length cl, List.replicate rm.length (⟨7, 47⟩ : S32)), (3, .slice Af mf cf, List.replicate rm.length (⟨7, 47⟩ : S32) ++ List.replicate 2 (⟨2, 42⟩ : S32)), (5, .slice Aw ps.length cw, ps), (5, .slice As rc.length cs, rc), (5, .slice At rm.length ct, rm)]) := ⟨BAG.out.sub (by intro p hp; simp only [List.mem_cons, List.not_mem_nil, or_false] at hp ⊢; rcases hp with rfl | rfl | rfl | rfl | rfl | rfl | rfl | rfl | rfl | rfl | rfl <;> simp)⟩
      go_upto_block 4 with fail
      go_cut [20] (fun v wx => ∃ m k : Nat, v = .slice Ae m ce ∧ Aside0 (Bag w wx colh ((1, .slice Ac rc.length cc, List.replicate rc.length (⟨6, 46⟩ : S32)) :: (1, .slice Ae m ce, List.replicate rc.length (⟨6, 46⟩ : S32) ++ List.replicate k (⟨1, 41⟩ : S32)) :: [(4, .slice Am rm.length cm, rm), (4, .slice Ah mh ch, rm ++ List.replicate 1 (⟨4, 44⟩ : S32)), (2, .slice Ad rc.length cd, rc), (2, .slice Ag mg cg, rc ++ List.replicate 3 (⟨3, 43⟩ : S32)), (3, .slice Al rm.length cl, List.replicate rm.length (⟨7, 47⟩ : S32)), (3, .slice Af mf cf, List.replicate rm.length (⟨7, 47⟩ : S32) ++ List.replicate 2 (⟨2, 42⟩ : S32)), (5, .slice Aw ps.length cw, ps), (5, .slice As rc.length cs, rc), (5, .slice At rm.length ct, rm)])) ∧ Aside0 (m = rc.length + k ∧ 0 < k ∧ m ≤ 370000))
      case first =>
        go_wp2_with fail
        go_loopg [20, 24] 70000 (fun gg v1 vi wr => ∃ q m k : Nat, vi = .int .i64 (q : Int) ∧ v1 = .slice Ae m ce ∧ gg = 70000 - q ∧ q ≤ 70000 ∧ Aside0 (Bag w wr colh ((1, .slice Ac rc.length cc, List.replicate rc.length (⟨6, 46⟩ : S32)) :: (1, .slice Ae m ce, List.replicate rc.length (⟨6, 46⟩ : S32) ++ List.replicate k (⟨1, 41⟩ : S32)) :: [(4, .slice Am rm.length cm, rm), (4, .slice Ah mh ch, rm ++ List.replicate 1 (⟨4, 44⟩ : S32)), (2, .slice Ad rc.length cd, rc), (2, .slice Ag mg cg, rc ++ List.replicate 3 (⟨3, 43⟩ : S32)), (3, .slice Al rm.length cl, List.replicate rm.length (⟨7, 47⟩ : S32)), (3, .slice Af mf cf, List.replicate rm.length (⟨7, 47⟩ : S32) ++ List.replicate 2 (⟨2, 42⟩ : S32)), (5, .slice Aw ps.length cw, ps), (5, .slice As rc.length cs, rc), (5, .slice At rm.length ct, rm)])) ∧ Aside0 (m = rc.length + k ∧ 0 < k ∧ m ≤ 300000 + q) ∧ Aside0 ((Ae = Ac ∧ ce = cc) ∨ cc < m))
        case atStart => exact ⟨0, me, 1, rfl, rfl, rfl, by omega, BAG, ⟨by have := HMe.out; have := HR.out; omega⟩, HRELe⟩
        case round =>
          clear BAG
          obtain ⟨q, m, k, rfl, rfl, hg, hq, BAG, HMK, HRL⟩ := hrel
          by_cases hgo : m < cc ∧ q < 70000
          · obtain ⟨hm9, hq9⟩ := hgo
            have hmi : (m : Int) < (cc : Int) := by omega
            have hqi : (q : Int) < 70000 := by omega
            have hw2 : IntKind.i64.wrap ((q : Int) + 1) = ((q + 1 : Nat) : Int) := by rw [show (q : Int) + 1 = ((q + 1 : Nat) : Int) from by omega]; exact wrap64_id (by omega) (by omega)
            have HW2 := Aside0.mk hw2
            have HGO := Aside0.mk (And.intro hm9 hq9)
            go_wp2_with fail
            refine (mark_n 1 1 41 (by simp [mk]) (by simp [mk, wrap64]) _).mono ?_
            rintro e_ wm ⟨rfl, hb⟩
            obtain ⟨w', hr, hbag⟩ := BAG.out.more (by decide) (by simp) (by rw [List.length_replicate]) HMK.out.1 HRL.out HGO.out.1 (by have := HMK.out; omega) (below_alloc hb (.cells #[.int .u32 1, .int .i64 41] 32)) ⟨wm.heap.size, 0, none⟩ 1 (World.news_of_block (cs := #[.int .u32 1, .int .i64 41]) (t := 32) (fr := (0, 0)) (heap_alloc_new wm _))
            have R := Aside0.mk hr
            have HMK2 : Aside0 (m + 1 = rc.length + (k + 1) ∧ 0 < k + 1 ∧ m + 1 ≤ 300000 + (q + 1)) := ⟨by have := HMK.out; omega⟩
            have HRL2 : Aside0 ((Ae = Ac ∧ ce = cc) ∨ cc < m + 1) := ⟨HRL.out.imp id (fun h => by omega)⟩
            clear BAG
            have BAG := Aside0.mk hbag
            clear hr hbag hb HMK HRL
            go_wp2_with ((with_reducible refine gate_builtin (b := .append) (xs := #[.tmp 128, .tmp 130]) rfl ?_); at_builtin; refine wpList_append_run rfl (.tmp 128) (.tmp 130) 25 rfl rfl rfl R.out ?_)
            go_roundg (70000 - (q + 1))
            case measure => omega
            case rel => exact ⟨q + 1, m + 1, k + 1, by first | rfl | go_num, rfl, rfl, by omega, BAG, HMK2, HRL2⟩
          · have HXQ : Aside0 (¬ (m < cc ∧ q < 70000)) := ⟨hgo⟩
            have HMK2 : Aside0 (m = rc.length + k ∧ 0 < k ∧ m ≤ 370000) := ⟨HMK.out.1, HMK.out.2.1, by have := HMK.out.2.2; omega⟩
            clear hgo
            by_cases hmc9 : m < cc
            · have hmi : (m : Int) < (cc : Int) := by omega
              have hqi : ¬ (q : Int) < 70000 := by have := HXQ.out; omega
              go_wp2_with fail
              go_meet
              exact ⟨m, k, rfl, BAG, HMK2⟩
            · have hmi : ¬ (m : Int) < (cc : Int) := by omega
              go_wp2_with fail
              go_meet
              exact ⟨m, k, rfl, BAG, HMK2⟩
      case rest =>
        clear BAG HRELe HMe
        obtain ⟨m9e, ke, rfl, BAG, HMKe⟩ := hcut
        rename World => w18
        have BAG : Aside0 (Bag w w18 colh [(3, .slice Al rm.length cl, List.replicate rm.length (⟨7, 47⟩ : S32)), (3, .slice Af mf cf, List.replicate rm.length (⟨7, 47⟩ : S32) ++ List.replicate 2 (⟨2, 42⟩ : S32)), (1, .slice Ac rc.length cc, List.replicate rc.length (⟨6, 46⟩ : S32)), (1, .slice Ae m9e ce, List.replicate rc.length (⟨6, 46⟩ : S32) ++ List.replicate ke (⟨1, 41⟩ : S32)), (4, .slice Am rm.length cm, rm), (4, .slice Ah mh ch, rm ++ List.replicate 1 (⟨4, 44⟩ : S32)), (2, .slice Ad rc.length cd, rc), (2, .slice Ag mg cg, rc ++ List.replicate 3 (⟨3, 43⟩ : S32)), (5, .slice Aw ps.length cw, ps), (5, .slice As rc.length cs, rc), (5, .slice At rm.length ct, rm)]) := ⟨BAG.out.sub (by intro p hp; simp only [List.mem_cons, List.not_mem_nil, or_false] at hp ⊢; rcases hp with rfl | rfl | rfl | rfl | rfl | rfl | rfl | rfl | rfl | rfl | rfl <;> simp)⟩
        go_upto_block 6 with fail
        go_cut [21] (fun v wx => ∃ m k : Nat, v = .slice Af m cf ∧ Aside0 (Bag w wx colh ((3, .slice Al rm.length cl, List.replicate rm.length (⟨7, 47⟩ : S32)) :: (3, .slice Af m cf, List.replicate rm.length (⟨7, 47⟩ : S32) ++ List.replicate k (⟨2, 42⟩ : S32)) :: [(1, .slice Ac rc.length cc, List.replicate rc.length (⟨6, 46⟩ : S32)), (1, .slice Ae m9e ce, List.replicate rc.length (⟨6, 46⟩ : S32) ++ List.replicate ke (⟨1, 41⟩ : S32)), (4, .slice Am rm.length cm, rm), (4, .slice Ah mh ch, rm ++ List.replicate 1 (⟨4, 44⟩ : S32)), (2, .slice Ad rc.length cd, rc), (2, .slice Ag mg cg, rc ++ List.replicate 3 (⟨3, 43⟩ : S32)), (5, .slice Aw ps.length cw, ps), (5, .slice As rc.length cs, rc), (5, .slice At rm.length ct, rm)])) ∧ Aside0 (m = rm.length + k ∧ 0 < k ∧ m ≤ 370000))
        case first =>
          go_wp2_with fail
          go_loopg [21, 25] 70000 (fun gg v1 vi wr => ∃ q m k : Nat, vi = .int .i64 (q : Int) ∧ v1 = .slice Af m cf ∧ gg = 70000 - q ∧ q ≤ 70000 ∧ Aside0 (Bag w wr colh ((3, .slice Al rm.length cl, List.replicate rm.length (⟨7, 47⟩ : S32)) :: (3, .slice Af m cf, List.replicate rm.length (⟨7, 47⟩ : S32) ++ List.replicate k (⟨2, 42⟩ : S32)) :: [(1, .slice Ac rc.length cc, List.replicate rc.length (⟨6, 46⟩ : S32)), (1, .slice Ae m9e ce, List.replicate rc.length (⟨6, 46⟩ : S32) ++ List.replicate ke (⟨1, 41⟩ : S32)), (4, .slice Am rm.length cm, rm), (4, .slice Ah mh ch, rm ++ List.replicate 1 (⟨4, 44⟩ : S32)), (2, .slice Ad rc.length cd, rc), (2, .slice Ag mg cg, rc ++ List.replicate 3 (⟨3, 43⟩ : S32)), (5, .slice Aw ps.length cw, ps), (5, .slice As rc.length cs, rc), (5, .slice At rm.length ct, rm)])) ∧ Aside0 (m = rm.length + k ∧ 0 < k ∧ m ≤ 300000 + q) ∧ Aside0 ((Af = Al ∧ cf = cl) ∨ cl < m))
          case atStart => exact ⟨0, mf, 2, rfl, rfl, rfl, by omega, BAG, ⟨by have := HMf.out; have := HR.out; omega⟩, HRELf⟩
          case round =>
            clear BAG
            obtain ⟨q, m, k, rfl, rfl, hg, hq, BAG, HMK, HRL⟩ := hrel
            by_cases hgo : m < cl ∧ q < 70000
            · obtain ⟨hm9, hq9⟩ := hgo
              have hmi : (m : Int) < (cl : Int) := by omega
              have hqi : (q : Int) < 70000 := by omega
              have hw2 : IntKind.i64.wrap ((q : Int) + 1) = ((q + 1 : Nat) : Int) := by rw [show (q : Int) + 1 = ((q + 1 : Nat) : Int) from by omega]; exact wrap64_id (by omega) (by omega)
              have HW2 := Aside0.mk hw2
              have HGO := Aside0.mk (And.intro hm9 hq9)
              go_wp2_with fail
              refine (mark_n 2 2 42 (by simp [mk]) (by simp [mk, wrap64]) _).mono ?_
              rintro e_ wm ⟨rfl, hb⟩
              obtain ⟨w', hr, hbag⟩ := BAG.out.more (by decide) (by simp) (by rw [List.length_replicate]) HMK.out.1 HRL.out HGO.out.1 (by have := HMK.out; omega) (below_alloc hb (.cells #[.int .u32 2, .int .i64 42] 32)) ⟨wm.heap.size, 0, none⟩ 1 (World.news_of_block (cs := #[.int .u32 2, .int .i64 42]) (t := 32) (fr := (0, 0)) (heap_alloc_new wm _))
              have R := Aside0.mk hr
              have HMK2 : Aside0 (m + 1 = rm.length + (k + 1) ∧ 0 < k + 1 ∧ m + 1 ≤ 300000 + (q + 1)) := ⟨by have := HMK.out; omega⟩
              have HRL2 : Aside0 ((Af = Al ∧ cf = cl) ∨ cl < m + 1) := ⟨HRL.out.imp id (fun h => by omega)⟩
              clear BAG
              have BAG := Aside0.mk hbag
              clear hr hbag hb HMK HRL
              go_wp2_with ((with_reducible refine gate_builtin (b := .append) (xs := #[.tmp 143, .tmp 145]) rfl ?_); at_builtin; refine wpList_append_run rfl (.tmp 143) (.tmp 145) 25 rfl rfl rfl R.out ?_)
              go_roundg (70000 - (q + 1))
              case measure => omega
              case rel => exact ⟨q + 1, m + 1, k + 1, by first | rfl | go_num, rfl, rfl, by omega, BAG, HMK2, HRL2⟩
            · have HXQ : Aside0 (¬ (m < cl ∧ q < 70000)) := ⟨hgo⟩
              have HMK2 : Aside0 (m = rm.length + k ∧ 0 < k ∧ m ≤ 370000) := ⟨HMK.out.1, HMK.out.2.1, by have := HMK.out.2.2; omega⟩
              clear hgo
              by_cases hmc9 : m < cl
              · have hmi : (m : Int) < (cl : Int) := by omega
                have hqi : ¬ (q : Int) < 70000 := by have := HXQ.out; omega
                go_wp2_with fail
                go_meet
                exact ⟨m, k, rfl, BAG, HMK2⟩
              · have hmi : ¬ (m : Int) < (cl : Int) := by omega
                go_wp2_with fail
                go_meet
                exact ⟨m, k, rfl, BAG, HMK2⟩
        case rest =>
          clear BAG HRELf HMf
          obtain ⟨m9f, kf, rfl, BAG, HMKf⟩ := hcut
          rename World => w19
          have BAG : Aside0 (Bag w w19 colh [(2, .slice Ad rc.length cd, rc), (2, .slice Ag mg cg, rc ++ List.replicate 3 (⟨3, 43⟩ : S32)), (3, .slice Al rm.length cl, List.replicate rm.length (⟨7, 47⟩ : S32)), (3, .slice Af m9f cf, List.replicate rm.length (⟨7, 47⟩ : S32) ++ List.replicate kf (⟨2, 42⟩ : S32)), (1, .slice Ac rc.length cc, List.replicate rc.length (⟨6, 46⟩ : S32)), (1, .slice Ae m9e ce, List.replicate rc.length (⟨6, 46⟩ : S32) ++ List.replicate ke (⟨1, 41⟩ : S32)), (4, .slice Am rm.length cm, rm), (4, .slice Ah mh ch, rm ++ List.replicate 1 (⟨4, 44⟩ : S32)), (5, .slice Aw ps.length cw, ps), (5, .slice As rc.length cs, rc), (5, .slice At rm.length ct, rm)]) := ⟨BAG.out.sub (by intro p hp; simp only [List.mem_cons, List.not_mem_nil, or_false] at hp ⊢; rcases hp with rfl | rfl | rfl | rfl | rfl | rfl | rfl | rfl | rfl | rfl | rfl <;> simp)⟩
          go_upto_block 8 with fail
          go_cut [22] (fun v wx => ∃ m k : Nat, v = .slice Ag m cg ∧ Aside0 (Bag w wx colh ((2, .slice Ad rc.length cd, rc) :: (2, .slice Ag m cg, rc ++ List.replicate k (⟨3, 43⟩ : S32)) :: [(3, .slice Al rm.length cl, List.replicate rm.length (⟨7, 47⟩ : S32)), (3, .slice Af m9f cf, List.replicate rm.length (⟨7, 47⟩ : S32) ++ List.replicate kf (⟨2, 42⟩ : S32)), (1, .slice Ac rc.length cc, List.replicate rc.length (⟨6, 46⟩ : S32)), (1, .slice Ae m9e ce, List.replicate rc.length (⟨6, 46⟩ : S32) ++ List.replicate ke (⟨1, 41⟩ : S32)), (4, .slice Am rm.length cm, rm), (4, .slice Ah mh ch, rm ++ List.replicate 1 (⟨4, 44⟩ : S32)), (5, .slice Aw ps.length cw, ps), (5, .slice As rc.length cs, rc), (5, .slice At rm.length ct, rm)])) ∧ Aside0 (m = rc.length + k ∧ 0 < k ∧ m ≤ 370000))
          case first =>
            go_wp2_with fail
            go_loopg [22, 26] 70000 (fun gg v1 vi wr => ∃ q m k : Nat, vi = .int .i64 (q : Int) ∧ v1 = .slice Ag m cg ∧ gg = 70000 - q ∧ q ≤ 70000 ∧ Aside0 (Bag w wr colh ((2, .slice Ad rc.length cd, rc) :: (2, .slice Ag m cg, rc ++ List.replicate k (⟨3, 43⟩ : S32)) :: [(3, .slice Al rm.length cl, List.replicate rm.length (⟨7, 47⟩ : S32)), (3, .slice Af m9f cf, List.replicate rm.length (⟨7, 47⟩ : S32) ++ List.replicate kf (⟨2, 42⟩ : S32)), (1, .slice Ac rc.length cc, List.replicate rc.length (⟨6, 46⟩ : S32)), (1, .slice Ae m9e ce, List.replicate rc.length (⟨6, 46⟩ : S32) ++ List.replicate ke (⟨1, 41⟩ : S32)), (4, .slice Am rm.length cm, rm), (4, .slice Ah mh ch, rm ++ List.replicate 1 (⟨4, 44⟩ : S32)), (5, .slice Aw ps.length cw, ps), (5, .slice As rc.length cs, rc), (5, .slice At rm.length ct, rm)])) ∧ Aside0 (m = rc.length + k ∧ 0 < k ∧ m ≤ 300000 + q) ∧ Aside0 ((Ag = Ad ∧ cg = cd) ∨ cd < m))
            case atStart => exact ⟨0, mg, 3, rfl, rfl, rfl, by omega, BAG, ⟨by have := HMg.out; have := HR.out; omega⟩, HRELg⟩
            case round =>
              clear BAG
              obtain ⟨q, m, k, rfl, rfl, hg, hq, BAG, HMK, HRL⟩ := hrel
              by_cases hgo : m < cd ∧ q < 70000
              · obtain ⟨hm9, hq9⟩ := hgo
                have hmi : (m : Int) < (cd : Int) := by omega
                have hqi : (q : Int) < 70000 := by omega
                have hw2 : IntKind.i64.wrap ((q : Int) + 1) = ((q + 1 : Nat) : Int) := by rw [show (q : Int) + 1 = ((q + 1 : Nat) : Int) from by omega]; exact wrap64_id (by omega) (by omega)
                have HW2 := Aside0.mk hw2
                have HGO := Aside0.mk (And.intro hm9 hq9)
                go_wp2_with fail
                refine (mark_n 3 3 43 (by simp [mk]) (by simp [mk, wrap64]) _).mono ?_
                rintro e_ wm ⟨rfl, hb⟩
                obtain ⟨w', hr, hbag⟩ := BAG.out.more (by decide) (by simp) rfl HMK.out.1 HRL.out HGO.out.1 (by have := HMK.out; omega) (below_alloc hb (.cells #[.int .u32 3, .int .i64 43] 32)) ⟨wm.heap.size, 0, none⟩ 1 (World.news_of_block (cs := #[.int .u32 3, .int .i64 43]) (t := 32) (fr := (0, 0)) (heap_alloc_new wm _))
                have R := Aside0.mk hr
                have HMK2 : Aside0 (m + 1 = rc.length + (k + 1) ∧ 0 < k + 1 ∧ m + 1 ≤ 300000 + (q + 1)) := ⟨by have := HMK.out; omega⟩
                have HRL2 : Aside0 ((Ag = Ad ∧ cg = cd) ∨ cd < m + 1) := ⟨HRL.out.imp id (fun h => by omega)⟩
                clear BAG
                have BAG := Aside0.mk hbag
                clear hr hbag hb HMK HRL
                go_wp2_with ((with_reducible refine gate_builtin (b := .append) (xs := #[.tmp 158, .tmp 160]) rfl ?_); at_builtin; refine wpList_append_run rfl (.tmp 158) (.tmp 160) 25 rfl rfl rfl R.out ?_)
                go_roundg (70000 - (q + 1))
                case measure => omega
                case rel => exact ⟨q + 1, m + 1, k + 1, by first | rfl | go_num, rfl, rfl, by omega, BAG, HMK2, HRL2⟩
              · have HXQ : Aside0 (¬ (m < cd ∧ q < 70000)) := ⟨hgo⟩
                have HMK2 : Aside0 (m = rc.length + k ∧ 0 < k ∧ m ≤ 370000) := ⟨HMK.out.1, HMK.out.2.1, by have := HMK.out.2.2; omega⟩
                clear hgo
                by_cases hmc9 : m < cd
                · have hmi : (m : Int) < (cd : Int) := by omega
                  have hqi : ¬ (q : Int) < 70000 := by have := HXQ.out; omega
                  go_wp2_with fail
                  go_meet
                  exact ⟨m, k, rfl, BAG, HMK2⟩
                · have hmi : ¬ (m : Int) < (cd : Int) := by omega
                  go_wp2_with fail
                  go_meet
                  exact ⟨m, k, rfl, BAG, HMK2⟩
          case rest =>
            clear BAG HRELg HMg
            obtain ⟨m9g, kg, rfl, BAG, HMKg⟩ := hcut
            rename World => w20
            have BAG : Aside0 (Bag w w20 colh [(4, .slice Am rm.length cm, rm), (4, .slice Ah mh ch, rm ++ List.replicate 1 (⟨4, 44⟩ : S32)), (2, .slice Ad rc.length cd, rc), (2, .slice Ag m9g cg, rc ++ List.replicate kg (⟨3, 43⟩ : S32)), (3, .slice Al rm.length cl, List.replicate rm.length (⟨7, 47⟩ : S32)), (3, .slice Af m9f cf, List.replicate rm.length (⟨7, 47⟩ : S32) ++ List.replicate kf (⟨2, 42⟩ : S32)), (1, .slice Ac rc.length cc, List.replicate rc.length (⟨6, 46⟩ : S32)), (1, .slice Ae m9e ce, List.replicate rc.length (⟨6, 46⟩ : S32) ++ List.replicate ke (⟨1, 41⟩ : S32)), (5, .slice Aw ps.length cw, ps), (5, .slice As rc.length cs, rc), (5, .slice At rm.length ct, rm)]) := ⟨BAG.out.sub (by intro p hp; simp only [List.mem_cons, List.not_mem_nil, or_false] at hp ⊢; rcases hp with rfl | rfl | rfl | rfl | rfl | rfl | rfl | rfl | rfl | rfl | rfl <;> simp)⟩
            go_upto_block 10 with fail
            go_cut [23] (fun v wx => ∃ m k : Nat, v = .slice Ah m ch ∧ Aside0 (Bag w wx colh ((4, .slice Am rm.length cm, rm) :: (4, .slice Ah m ch, rm ++ List.replicate k (⟨4, 44⟩ : S32)) :: [(2, .slice Ad rc.length cd, rc), (2, .slice Ag m9g cg, rc ++ List.replicate kg (⟨3, 43⟩ : S32)), (3, .slice Al rm.length cl, List.replicate rm.length (⟨7, 47⟩ : S32)), (3, .slice Af m9f cf, List.replicate rm.length (⟨7, 47⟩ : S32) ++ List.replicate kf (⟨2, 42⟩ : S32)), (1, .slice Ac rc.length cc, List.replicate rc.length (⟨6, 46⟩ : S32)), (1, .slice Ae m9e ce, List.replicate rc.length (⟨6, 46⟩ : S32) ++ List.replicate ke (⟨1, 41⟩ : S32)), (5, .slice Aw ps.length cw, ps), (5, .slice As rc.length cs, rc), (5, .slice At rm.length ct, rm)])) ∧ Aside0 (m = rm.length + k ∧ 0 < k ∧ m ≤ 370000))
            case first =>
              go_wp2_with fail
              go_loopg [23, 27] 70000 (fun gg v1 vi wr => ∃ q m k : Nat, vi = .int .i64 (q : Int) ∧ v1 = .slice Ah m ch ∧ gg = 70000 - q ∧ q ≤ 70000 ∧ Aside0 (Bag w wr colh ((4, .slice Am rm.length cm, rm) :: (4, .slice Ah m ch, rm ++ List.replicate k (⟨4, 44⟩ : S32)) :: [(2, .slice Ad rc.length cd, rc), (2, .slice Ag m9g cg, rc ++ List.replicate kg (⟨3, 43⟩ : S32)), (3, .slice Al rm.length cl, List.replicate rm.length (⟨7, 47⟩ : S32)), (3, .slice Af m9f cf, List.replicate rm.length (⟨7, 47⟩ : S32) ++ List.replicate kf (⟨2, 42⟩ : S32)), (1, .slice Ac rc.length cc, List.replicate rc.length (⟨6, 46⟩ : S32)), (1, .slice Ae m9e ce, List.replicate rc.length (⟨6, 46⟩ : S32) ++ List.replicate ke (⟨1, 41⟩ : S32)), (5, .slice Aw ps.length cw, ps), (5, .slice As rc.length cs, rc), (5, .slice At rm.length ct, rm)])) ∧ Aside0 (m = rm.length + k ∧ 0 < k ∧ m ≤ 300000 + q) ∧ Aside0 ((Ah = Am ∧ ch = cm) ∨ cm < m))
              case atStart => exact ⟨0, mh, 1, rfl, rfl, rfl, by omega, BAG, ⟨by have := HMh.out; have := HR.out; omega⟩, HRELh⟩
              case round =>
                clear BAG
                obtain ⟨q, m, k, rfl, rfl, hg, hq, BAG, HMK, HRL⟩ := hrel
                by_cases hgo : m < cm ∧ q < 70000
                · obtain ⟨hm9, hq9⟩ := hgo
                  have hmi : (m : Int) < (cm : Int) := by omega
                  have hqi : (q : Int) < 70000 := by omega
                  have hw2 : IntKind.i64.wrap ((q : Int) + 1) = ((q + 1 : Nat) : Int) := by rw [show (q : Int) + 1 = ((q + 1 : Nat) : Int) from by omega]; exact wrap64_id (by omega) (by omega)
                  have HW2 := Aside0.mk hw2
                  have HGO := Aside0.mk (And.intro hm9 hq9)
                  go_wp2_with fail
                  refine (mark_n 4 4 44 (by simp [mk]) (by simp [mk, wrap64]) _).mono ?_
                  rintro e_ wm ⟨rfl, hb⟩
                  obtain ⟨w', hr, hbag⟩ := BAG.out.more (by decide) (by simp) rfl HMK.out.1 HRL.out HGO.out.1 (by have := HMK.out; omega) (below_alloc hb (.cells #[.int .u32 4, .int .i64 44] 32)) ⟨wm.heap.size, 0, none⟩ 1 (World.news_of_block (cs := #[.int .u32 4, .int .i64 44]) (t := 32) (fr := (0, 0)) (heap_alloc_new wm _))
                  have R := Aside0.mk hr
                  have HMK2 : Aside0 (m + 1 = rm.length + (k + 1) ∧ 0 < k + 1 ∧ m + 1 ≤ 300000 + (q + 1)) := ⟨by have := HMK.out; omega⟩
                  have HRL2 : Aside0 ((Ah = Am ∧ ch = cm) ∨ cm < m + 1) := ⟨HRL.out.imp id (fun h => by omega)⟩
                  clear BAG
                  have BAG := Aside0.mk hbag
                  clear hr hbag hb HMK HRL
                  go_wp2_with ((with_reducible refine gate_builtin (b := .append) (xs := #[.tmp 173, .tmp 175]) rfl ?_); at_builtin; refine wpList_append_run rfl (.tmp 173) (.tmp 175) 25 rfl rfl rfl R.out ?_)
                  go_roundg (70000 - (q + 1))
                  case measure => omega
                  case rel => exact ⟨q + 1, m + 1, k + 1, by first | rfl | go_num, rfl, rfl, by omega, BAG, HMK2, HRL2⟩
                · have HXQ : Aside0 (¬ (m < cm ∧ q < 70000)) := ⟨hgo⟩
                  have HMK2 : Aside0 (m = rm.length + k ∧ 0 < k ∧ m ≤ 370000) := ⟨HMK.out.1, HMK.out.2.1, by have := HMK.out.2.2; omega⟩
                  clear hgo
                  by_cases hmc9 : m < cm
                  · have hmi : (m : Int) < (cm : Int) := by omega
                    have hqi : ¬ (q : Int) < 70000 := by have := HXQ.out; omega
                    go_wp2_with fail
                    go_meet
                    exact ⟨m, k, rfl, BAG, HMK2⟩
                  · have hmi : ¬ (m : Int) < (cm : Int) := by omega
                    go_wp2_with fail
                    go_meet
                    exact ⟨m, k, rfl, BAG, HMK2⟩
            case rest =>
              clear BAG HRELh HMh
              obtain ⟨m9h, kh, rfl, BAG, HMKh⟩ := hcut
              rename World => w21
              obtain ⟨ge, rfl, hlee, hmxe, hte, hhe⟩ := BAG.out.ends (i := 1) (b := (⟨1, 41⟩ : S32)) (xs := List.replicate rc.length (⟨6, 46⟩ : S32)) (A := Ae) (m := m9e) (c := ce) (n := rc.length) (k := ke) (by simp) (by rw [List.length_replicate]) HMKe.out.1 HMKe.out.2.1
              have HTe := Aside0.mk hte
              have HHe := Aside0.mk hhe
              have HMe := Aside0.mk (And.intro hlee hmxe)
              clear hte hhe hlee hmxe
              obtain ⟨gf, rfl, hlef, hmxf, htf, hhf⟩ := BAG.out.ends (i := 3) (b := (⟨2, 42⟩ : S32)) (xs := List.replicate rm.length (⟨7, 47⟩ : S32)) (A := Af) (m := m9f) (c := cf) (n := rm.length) (k := kf) (by simp) (by rw [List.length_replicate]) HMKf.out.1 HMKf.out.2.1
              have HTf := Aside0.mk htf
              have HHf := Aside0.mk hhf
              have HMf := Aside0.mk (And.intro hlef hmxf)
              clear htf hhf hlef hmxf
              obtain ⟨gg, rfl, hleg, hmxg, htg, hhg⟩ := BAG.out.ends (i := 2) (b := (⟨3, 43⟩ : S32)) (xs := rc) (A := Ag) (m := m9g) (c := cg) (n := rc.length) (k := kg) (by simp) rfl HMKg.out.1 HMKg.out.2.1
              have HTg := Aside0.mk htg
              have HHg := Aside0.mk hhg
              have HMg := Aside0.mk (And.intro hleg hmxg)
              clear htg hhg hleg hmxg
              obtain ⟨gh, rfl, hleh, hmxh, hth, hhh⟩ := BAG.out.ends (i := 4) (b := (⟨4, 44⟩ : S32)) (xs := rm) (A := Ah) (m := m9h) (c := ch) (n := rm.length) (k := kh) (by simp) rfl HMKh.out.1 HMKh.out.2.1
              have HTh := Aside0.mk hth
              have HHh := Aside0.mk hhh
              have HMh := Aside0.mk (And.intro hleh hmxh)
              clear hth hhh hleh hmxh
              have Qc := Aside0.mk (BAG.out.C (i := 1) (xs := List.replicate rc.length (⟨6, 46⟩ : S32)) (A := Ac) (n := rc.length) (c := cc) (by simp) (by rw [List.length_replicate]))
              have Ql := Aside0.mk (BAG.out.C (i := 3) (xs := List.replicate rm.length (⟨7, 47⟩ : S32)) (A := Al) (n := rm.length) (c := cl) (by simp) (by rw [List.length_replicate]))
              have Qd := Aside0.mk (BAG.out.C (i := 2) (xs := rc) (A := Ad) (n := rc.length) (c := cd) (by simp) rfl)
              have Qm := Aside0.mk (BAG.out.C (i := 4) (xs := rm) (A := Am) (n := rm.length) (c := cm) (by simp) rfl)
              have Qs := Aside0.mk (BAG.out.C (i := 5) (xs := rc) (A := As) (n := rc.length) (c := cs) (by simp) rfl)
              have Qt := Aside0.mk (BAG.out.C (i := 5) (xs := rm) (A := At) (n := rm.length) (c := ct) (by simp) rfl)
              have Qw := Aside0.mk (BAG.out.C (i := 5) (xs := ps) (A := Aw) (n := ps.length) (c := cw) (by simp) rfl)
              have BW := Aside0.mk BAG.out.bel
              obtain ⟨de, rfl⟩ : ∃ d, ce = rc.length + d := ⟨ce - rc.length, by have := HMe.out; have := HMKe.out; omega⟩
              have HLKe : Aside0 (ke ≤ 370000) := ⟨by have := HMKe.out; omega⟩
              obtain rfl := HMKe.out.1
              have HDe : Aside0 (ke ≤ de ∧ 0 < de) := ⟨by have := HMe.out; have := HMKe.out; omega⟩
              have hde : ¬ de = 0 := by have := HDe.out; omega
              clear HMKe HMe
              obtain ⟨df, rfl⟩ : ∃ d, cf = rm.length + d := ⟨cf - rm.length, by have := HMf.out; have := HMKf.out; omega⟩
              have HLKf : Aside0 (kf ≤ 370000) := ⟨by have := HMKf.out; omega⟩
              obtain rfl := HMKf.out.1
              have HDf : Aside0 (kf ≤ df ∧ 0 < df) := ⟨by have := HMf.out; have := HMKf.out; omega⟩
              have hdf : ¬ df = 0 := by have := HDf.out; omega
              clear HMKf HMf
              obtain ⟨dg, rfl⟩ : ∃ d, cg = rc.length + d := ⟨cg - rc.length, by have := HMg.out; have := HMKg.out; omega⟩
              have HLKg : Aside0 (kg ≤ 370000) := ⟨by have := HMKg.out; omega⟩
              obtain rfl := HMKg.out.1
              have HDg : Aside0 (kg ≤ dg ∧ 0 < dg) := ⟨by have := HMg.out; have := HMKg.out; omega⟩
              have hdg : ¬ dg = 0 := by have := HDg.out; omega
              clear HMKg HMg
              obtain ⟨dh, rfl⟩ : ∃ d, ch = rm.length + d := ⟨ch - rm.length, by have := HMh.out; have := HMKh.out; omega⟩
              have HLKh : Aside0 (kh ≤ 370000) := ⟨by have := HMKh.out; omega⟩
              obtain rfl := HMKh.out.1
              have HDh : Aside0 (kh ≤ dh ∧ 0 < dh) := ⟨by have := HMh.out; have := HMKh.out; omega⟩
              have hdh : ¬ dh = 0 := by have := HDh.out; omega
              clear HMKh HMh
              have BK : Aside0 (Below w21.heap.size w21 w21) := ⟨Below.refl _ _⟩
              have HC21 := Aside0.mk (Kd.C_below HC.out BW.out)
              clear BAG
              have q1 : Aside0 (∀ wk, Below w21.heap.size w21 wk → Calls Try.prog 30 #[.slice Ac rc.length cc, .int .i64 6] wk fun e w' => e = .returned (.bool true) ∧ Below w21.heap.size w21 w') := ⟨fun wk hk => (all_n 6 6 46 (by simp [mk]) (by simp [mk, wrap64]) _ (by have := HR.out; omega) wk _ _ (Kd.C_below Qc.out.2 hk) Qc.out.1).mono (fun e w' ⟨h1, h2⟩ => ⟨h1, below_step hk h2⟩)⟩
              have q2 : Aside0 (∀ wk, Below w21.heap.size w21 wk → Calls Try.prog 30 #[.slice Al rm.length cl, .int .i64 7] wk fun e w' => e = .returned (.bool true) ∧ Below w21.heap.size w21 w') := ⟨fun wk hk => (all_n 7 7 47 (by simp [mk]) (by simp [mk, wrap64]) _ (by have := HR.out; omega) wk _ _ (Kd.C_below Ql.out.2 hk) Ql.out.1).mono (fun e w' ⟨h1, h2⟩ => ⟨h1, below_step hk h2⟩)⟩
              have q3 : Aside0 (∀ wk, Below w21.heap.size w21 wk → Calls Try.prog 12 #[.slice Ad rc.length cd, .slice As rc.length cs] wk fun e w' => e = .returned (.bool true) ∧ Below w21.heap.size w21 w') := ⟨fun wk hk => (same_c rc (by have := HR.out; have := HLEN.out; omega) wk _ _ _ _ (Kd.C_below Qd.out.2 hk) Qd.out.1 (Kd.C_below Qs.out.2 hk) Qs.out.1).mono (fun e w' ⟨h1, h2⟩ => ⟨h1, below_step hk (drawn_below h2)⟩)⟩
              have q4 : Aside0 (∀ wk, Below w21.heap.size w21 wk → Calls Try.prog 12 #[.slice Am rm.length cm, .slice At rm.length ct] wk fun e w' => e = .returned (.bool true) ∧ Below w21.heap.size w21 w') := ⟨fun wk hk => (same_c rm (by have := HR.out; have := HLEN.out; omega) wk _ _ _ _ (Kd.C_below Qm.out.2 hk) Qm.out.1 (Kd.C_below Qt.out.2 hk) Qt.out.1).mono (fun e w' ⟨h1, h2⟩ => ⟨h1, below_step hk (drawn_below h2)⟩)⟩
              have q5 : Aside0 (∀ wk, Below w21.heap.size w21 wk → Calls Try.prog 12 #[.slice A ps.length c, .slice Aw ps.length cw] wk fun e w' => e = .returned (.bool true) ∧ Below w21.heap.size w21 w') := ⟨fun wk hk => (same_c ps (by have := HR.out; have := HLEN.out; omega) wk _ _ _ _ (Kd.C_below HC21.out hk) HCC.out (Kd.C_below Qw.out.2 hk) Qw.out.1).mono (fun e w' ⟨h1, h2⟩ => ⟨h1, below_step hk (drawn_below h2)⟩)⟩
              go_wp2_with fail
              refine (q1.out _ BK.out).mono ?_
              rintro e_ wz ⟨rfl, hb⟩
              clear BK
              have BK := Aside0.mk hb
              clear hb
              go_wp2_with fail
              refine (q2.out _ BK.out).mono ?_
              rintro e_ wz ⟨rfl, hb⟩
              clear BK
              have BK := Aside0.mk hb
              clear hb
              go_wp2_with fail
              refine (q3.out _ BK.out).mono ?_
              rintro e_ wz ⟨rfl, hb⟩
              clear BK
              have BK := Aside0.mk hb
              clear hb
              go_wp2_with fail
              refine (q4.out _ BK.out).mono ?_
              rintro e_ wz ⟨rfl, hb⟩
              clear BK
              have BK := Aside0.mk hb
              clear hb
              go_wp2_with fail
              refine (q5.out _ BK.out).mono ?_
              rintro e_ wz ⟨rfl, hb⟩
              clear BK
              have BK := Aside0.mk hb
              clear hb
              have q6 : Aside0 (∀ wk, Below w21.heap.size w21 wk → Calls Try.prog 30 #[.slice (some ⟨ge, rc.length * 2, none⟩) ke de, .int .i64 1] wk fun e w' => e = .returned (.bool true) ∧ Below w21.heap.size w21 w') := ⟨fun wk hk => (all_n 1 1 41 (by simp [mk]) (by simp [mk, wrap64]) _ (by have := HLKe.out; omega) wk _ _ (Kd.C_below HTe.out hk) HDe.out.1).mono (fun e w' ⟨h1, h2⟩ => ⟨h1, below_step hk h2⟩)⟩
              have q7 : Aside0 (∀ wk, Below w21.heap.size w21 wk → Calls Try.prog 30 #[.slice (some ⟨gf, rm.length * 2, none⟩) kf df, .int .i64 2] wk fun e w' => e = .returned (.bool true) ∧ Below w21.heap.size w21 w') := ⟨fun wk hk => (all_n 2 2 42 (by simp [mk]) (by simp [mk, wrap64]) _ (by have := HLKf.out; omega) wk _ _ (Kd.C_below HTf.out hk) HDf.out.1).mono (fun e w' ⟨h1, h2⟩ => ⟨h1, below_step hk h2⟩)⟩
              have q8 : Aside0 (∀ wk, Below w21.heap.size w21 wk → Calls Try.prog 30 #[.slice (some ⟨gg, rc.length * 2, none⟩) kg dg, .int .i64 3] wk fun e w' => e = .returned (.bool true) ∧ Below w21.heap.size w21 w') := ⟨fun wk hk => (all_n 3 3 43 (by simp [mk]) (by simp [mk, wrap64]) _ (by have := HLKg.out; omega) wk _ _ (Kd.C_below HTg.out hk) HDg.out.1).mono (fun e w' ⟨h1, h2⟩ => ⟨h1, below_step hk h2⟩)⟩
              have q9 : Aside0 (∀ wk, Below w21.heap.size w21 wk → Calls Try.prog 30 #[.slice (some ⟨gh, rm.length * 2, none⟩) kh dh, .int .i64 4] wk fun e w' => e = .returned (.bool true) ∧ Below w21.heap.size w21 w') := ⟨fun wk hk => (all_n 4 4 44 (by simp [mk]) (by simp [mk, wrap64]) _ (by have := HLKh.out; omega) wk _ _ (Kd.C_below HTh.out hk) HDh.out.1).mono (fun e w' ⟨h1, h2⟩ => ⟨h1, below_step hk h2⟩)⟩
              go_wp2_with fail
              refine (q6.out _ BK.out).mono ?_
              rintro e_ wz ⟨rfl, hb⟩
              clear BK
              have BK := Aside0.mk hb
              clear hb
              go_wp2_with fail
              refine (q7.out _ BK.out).mono ?_
              rintro e_ wz ⟨rfl, hb⟩
              clear BK
              have BK := Aside0.mk hb
              clear hb
              go_wp2_with fail
              refine (q8.out _ BK.out).mono ?_
              rintro e_ wz ⟨rfl, hb⟩
              clear BK
              have BK := Aside0.mk hb
              clear hb
              go_wp2_with fail
              refine (q9.out _ BK.out).mono ?_
              rintro e_ wz ⟨rfl, hb⟩
              clear BK
              have BK := Aside0.mk hb
              clear hb
              go_upto_block 12 with fail
              go_cut [28] (fun v wx => Aside0 (Below w21.heap.size w21 wx))
              case first =>
                go_wp2_with fail
                go_loopg [28] ps.length (fun k v wr => ∃ i : Nat, v = .int .i64 (i : Int) ∧ k = ps.length - i ∧ i ≤ ps.length ∧ Aside0 (Below w21.heap.size w21 wr))
                case atStart => exact ⟨0, rfl, rfl, Nat.zero_le _, BK⟩
                case round =>
                  clear BK
                  obtain ⟨i, rfl, hk, hi, BK⟩ := hrel
                  by_cases hlt : i < ps.length
                  · have hli : (i : Int) < (ps.length : Int) := by omega
                    have hw1 : IntKind.i64.wrap ((i : Int) + 1) = ((i + 1 : Nat) : Int) := by rw [show (i : Int) + 1 = ((i + 1 : Nat) : Int) from by omega]; exact wrap64_id (by omega) (by have := HLEN.out; omega)
                    have HAT := Aside0.mk (fun (w' : World) (hb : Below w21.heap.size w21 w') => at_ps (Kd.C_below HC21.out hb) i hlt)
                    obtain ⟨ad, rfl, c0, c1, hmem⟩ := HAT.out _ BK.out
                    obtain ⟨ra, rb, er1, hra, hrb, hca, hcb⟩ := one_c _ (HU.out _ hmem)
                    have HA := Aside0.mk hca
                    have HB := Aside0.mk hcb
                    clear hmem hra hrb hca hcb
                    generalize rd_T32 ps (i : Int) = x at *
                    obtain ⟨x0, x1⟩ := x
                    simp only at c0 c1 HA HB HAT
                    go_upto_region 51 with fail
                    go_cut [29] (fun v wx => Aside0 (Row wx wr.heap.size v ra) ∧ Aside0 (Below wr.heap.size wr wx))
                    case first =>
                      go_region_with (go_at_call 10; refine (HA.out _).mono ?_; rintro e_ w2 ⟨va, rfl, hra, hb2⟩; have HRa := Aside0.mk hra; have HB2 := Aside0.mk hb2; clear hra hb2)
                      all_goals
                        go_wp2_with fail
                        go_meet
                        exact ⟨HRa, ⟨below_step (Below.refl _ _).drew HB2.out⟩⟩
                    case rest =>
                      obtain ⟨HRa, HB2⟩ := hcut
                      clear c0 c1
                      obtain ⟨ad2, e2, c0, c1, _⟩ := HAT.out _ (below_step BK.out HB2.out)
                      cases e2
                      go_wp2_with fail
                      refine (HB.out _).mono ?_
                      rintro e_ w3 ⟨vb, rfl, hrb, hb3⟩
                      have HRb := Aside0.mk hrb
                      have HB3 := Aside0.mk hb3
                      have HRa3 := Aside0.mk (HRa.out.below hb3)
                      have HB13 := Aside0.mk (below_step HB2.out hb3)
                      have BK3 := Aside0.mk (below_step (below_step BK.out HB2.out) hb3)
                      clear hrb hb3 c0 c1
                      obtain ⟨A1, cA, rfl, _, _⟩ := HRa3.out.C
                      obtain ⟨A2, cB, rfl, _, _⟩ := HRb.out.C
                      have hZ21 : Aside0 (w21.heap.size ≤ wr.heap.size) := ⟨BK.out.size⟩
                      by_cases hab : 0 < ra.length ∧ 0 < rb.length
                      · obtain ⟨ha9, hb9⟩ := hab
                        have ha8 : (0 : Int) < (ra.length : Int) := by omega
                        have hb8 : (0 : Int) < (rb.length : Int) := by omega
                        obtain ⟨g1, cap, e, _⟩ := World.ownsRow.form HRa3.out ha9
                        injection e with e3 e5 e4
                        subst e3 e4
                        clear e5
                        obtain ⟨g2, cap, e, _⟩ := World.ownsRow.form HRb.out hb9
                        injection e with e3 e5 e4
                        subst e3 e4
                        clear e5
                        go_wp2_with fail
                        refine (mark_n 5 5 45 (by simp [mk]) (by simp [mk, wrap64]) _).mono ?_
                        rintro e_ w4 ⟨rfl, hb4⟩
                        have hr1 := HRa3.out.low.below hb4
                        obtain ⟨⟨x, y, kx, ky, kf, kg⟩, _, ht5⟩ := hr1.put (k := 0) ha9 (⟨5, 45⟩ : S32)
                        rw [Nat.zero_mul] at kx ky kf kg ht5
                        have B5 := Aside0.mk (below_step BK3.out hb4)
                        have HT5 := Aside0.mk ht5
                        have HRb4 := Aside0.mk (HRb.out.low.below hb4)
                        have HG1 : Aside0 (w21.heap.size ≤ g1) := ⟨by have := (HRa.out.lt g1 rfl).1; have := hZ21.out; omega⟩
                        have HG2 : Aside0 (w21.heap.size ≤ g2) := ⟨by have := (HRb.out.lt g2 rfl).1; have := hZ21.out; have := HB2.out.size; omega⟩
                        have HNE : Aside0 (g2 ≠ g1) := ⟨by have := (HRa.out.lt g1 rfl).2; have := (HRb.out.lt g2 rfl).1; omega⟩
                        clear hr1 ht5 hb4
                        go_wp2_with fail
                        refine (mark_n 5 5 45 (by simp [mk]) (by simp [mk, wrap64]) _).mono ?_
                        rintro e_ w6 ⟨rfl, hb6⟩
                        have hr2 := (HRb4.out.turn HT5.out (fun k hk hm => by
                          injection hk with hk
                          rw [List.mem_singleton] at hm
                          exact HNE.out (hk.trans hm))).below hb6
                        obtain ⟨⟨x2, y2, kx2, ky2, kf2, kg2⟩, _, ht7⟩ := hr2.put (k := 0) hb9 (⟨5, 45⟩ : S32)
                        rw [Nat.zero_mul] at kx2 ky2 kf2 kg2 ht7
                        have b6 := B5.out.trans (HT5.out.below B5.out.size (fun k hk => by rw [List.mem_singleton] at hk; subst hk; exact HG1.out))
                        have b7 := below_step b6 hb6
                        have B7 := Aside0.mk (b7.trans (ht7.below b7.size (fun k hk => by rw [List.mem_singleton] at hk; subst hk; exact HG2.out)))
                        clear b6 b7
                        clear hr2 ht7 hb6 kx ky kf kg
                        go_wp2_with fail
                        go_roundg (ps.length - (i + 1))
                        case measure => omega
                        case rel => exact ⟨i + 1, by first | rfl | go_num, rfl, by omega, B7⟩
                      · by_cases ha9 : 0 < ra.length
                        · have ha8 : (0 : Int) < (ra.length : Int) := by omega
                          have hb8 : ¬ (0 : Int) < (rb.length : Int) := by omega
                          have hb7 : rb.length = 0 := by omega
                          have HB7 := Aside0.mk hb7
                          clear hab hb7
                          go_wp2_with fail
                          go_roundg (ps.length - (i + 1))
                          case measure => omega
                          case rel => exact ⟨i + 1, by first | rfl | go_num, rfl, by omega, BK3⟩
                        · have ha8 : ¬ (0 : Int) < (ra.length : Int) := by omega
                          clear hab
                          go_wp2_with fail
                          go_roundg (ps.length - (i + 1))
                          case measure => omega
                          case rel => exact ⟨i + 1, by first | rfl | go_num, rfl, by omega, BK3⟩
                  · have hli : ¬ (i : Int) < (ps.length : Int) := by omega
                    go_wp2_with fail
                    go_meet
                    exact BK
              case rest =>
                clear BK
                have BK := hcut
                clear hcut
                rename World => w22
                go_wp2_with fail
                refine (q1.out _ BK.out).mono ?_
                rintro e_ wz ⟨rfl, hb⟩
                clear BK
                have BK := Aside0.mk hb
                clear hb
                go_wp2_with fail
                refine (q2.out _ BK.out).mono ?_
                rintro e_ wz ⟨rfl, hb⟩
                clear BK
                have BK := Aside0.mk hb
                clear hb
                go_wp2_with fail
                refine (q3.out _ BK.out).mono ?_
                rintro e_ wz ⟨rfl, hb⟩
                clear BK
                have BK := Aside0.mk hb
                clear hb
                go_wp2_with fail
                refine (q4.out _ BK.out).mono ?_
                rintro e_ wz ⟨rfl, hb⟩
                clear BK
                have BK := Aside0.mk hb
                clear hb
                go_wp2_with fail
                refine (q6.out _ BK.out).mono ?_
                rintro e_ wz ⟨rfl, hb⟩
                clear BK
                have BK := Aside0.mk hb
                clear hb
                go_wp2_with fail
                refine (q7.out _ BK.out).mono ?_
                rintro e_ wz ⟨rfl, hb⟩
                clear BK
                have BK := Aside0.mk hb
                clear hb
                go_wp2_with fail
                refine (q8.out _ BK.out).mono ?_
                rintro e_ wz ⟨rfl, hb⟩
                clear BK
                have BK := Aside0.mk hb
                clear hb
                go_wp2_with fail
                refine (q9.out _ BK.out).mono ?_
                rintro e_ wz ⟨rfl, hb⟩
                clear BK
                have BK := Aside0.mk hb
                clear hb
                go_wp2_with fail
                refine (HCOV.out _).mono ?_
                rintro e_ w23 ⟨vx, rfl, hr, hb⟩
                have HRX := Aside0.mk hr
                have B23 := Aside0.mk (below_step BK.out hb)
                clear hr hb
                obtain ⟨Ax, cx, rfl, hlex, _⟩ := HRX.out.C
                have HLX := Aside0.mk hlex
                clear hlex
                go_wp2_with fail
                refine (HMRG.out _ (below_step BW.out B23.out)).mono ?_
                rintro e_ w24 ⟨vy, rfl, hr, hb⟩
                have HRY := Aside0.mk hr
                have HRX2 := Aside0.mk (HRX.out.below hb)
                have B24 := Aside0.mk (below_step B23.out hb)
                clear hr hb
                obtain ⟨Ay, cy, rfl, hley, hcy⟩ := HRY.out.C
                have HLY := Aside0.mk hley
                have HCY := Aside0.mk hcy
                clear hley hcy
                have HCX : Aside0 (Kd.C k32 w24 Ax rc.length rc) := by
                  obtain ⟨_, _, e, _, h1⟩ := HRX2.out.C
                  injection e with e1 _ e3
                  subst e1 e3
                  exact ⟨h1⟩
                clear BK B23 HRX HRX2 HRY
                go_wp2_with fail
                refine (same_c rc (by have := HR.out; omega) w24 _ _ _ _ HCX.out HLX.out (Kd.C_below Qs.out.2 B24.out) Qs.out.1).mono ?_
                rintro e_ w25 ⟨rfl, hd⟩
                have B25 := Aside0.mk (below_step B24.out (drawn_below hd))
                have HCY2 := Aside0.mk (Kd.C_below HCY.out (drawn_below hd))
                clear hd
                go_wp2_with fail
                refine (same_c rm (by have := HR.out; omega) w25 _ _ _ _ HCY2.out HLY.out (Kd.C_below Qt.out.2 B25.out) Qt.out.1).mono ?_
                rintro e_ w26 ⟨rfl, hd⟩
                have BK := Aside0.mk (below_step B25.out (drawn_below hd))
                clear hd B24 B25 HCX HCY HCY2
                go_wp2_with fail
                refine (q3.out _ BK.out).mono ?_
                rintro e_ wz ⟨rfl, hb⟩
                clear BK
                have BK := Aside0.mk hb
                clear hb
                go_wp2_with fail
                refine (q4.out _ BK.out).mono ?_
                rintro e_ wz ⟨rfl, hb⟩
                clear BK
                have BK := Aside0.mk hb
                clear hb
                go_wp2_with fail
                refine (q5.out _ BK.out).mono ?_
                rintro e_ wz ⟨rfl, hb⟩
                clear BK
                have BK := Aside0.mk hb
                clear hb
                have q10 : Aside0 (∀ wk, Below w21.heap.size w21 wk → Calls Try.prog 30 #[.slice (some ⟨ge, 0, none⟩) rc.length (rc.length + de), .int .i64 6] wk fun e w' => e = .returned (.bool true) ∧ Below w21.heap.size w21 w') := ⟨fun wk hk => (all_n 6 6 46 (by simp [mk]) (by simp [mk, wrap64]) _ (by have := HR.out; omega) wk _ _ (Kd.C_below HHe.out hk) (by omega)).mono (fun e w' ⟨h1, h2⟩ => ⟨h1, below_step hk h2⟩)⟩
                have q11 : Aside0 (∀ wk, Below w21.heap.size w21 wk → Calls Try.prog 30 #[.slice (some ⟨gf, 0, none⟩) rm.length (rm.length + df), .int .i64 7] wk fun e w' => e = .returned (.bool true) ∧ Below w21.heap.size w21 w') := ⟨fun wk hk => (all_n 7 7 47 (by simp [mk]) (by simp [mk, wrap64]) _ (by have := HR.out; omega) wk _ _ (Kd.C_below HHf.out hk) (by omega)).mono (fun e w' ⟨h1, h2⟩ => ⟨h1, below_step hk h2⟩)⟩
                go_wp2_with fail
                refine (q10.out _ BK.out).mono ?_
                rintro e_ wz ⟨rfl, hb⟩
                clear BK
                have BK := Aside0.mk hb
                clear hb
                go_wp2_with fail
                refine (q11.out _ BK.out).mono ?_
                rintro e_ wz ⟨rfl, hb⟩
                clear BK
                have BK := Aside0.mk hb
                clear hb
                go_wp2_with fail
                go_ret
                exact ⟨rfl, below_step BW.out BK.out⟩
end Go.Proofs.Ytncpcjphljfcpaa.Nm
