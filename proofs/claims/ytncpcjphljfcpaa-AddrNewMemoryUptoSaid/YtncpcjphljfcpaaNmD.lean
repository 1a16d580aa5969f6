/- AddrNewMemory: 'untouched' walked. Conditions: addresses below 2^32, at most 1000000 prefixes. -/
import Derived.Test.YtncpcjphljfcpaaNmC
set_option linter.unusedVariables false
set_option linter.unusedSimpArgs false
namespace Go.Proofs.Ytncpcjphljfcpaa.Nm
open Go.RowKit Go.Proofs.YtncpcjphljfcpaaW.PrintWords Go.Proofs.Ytncpcjphljfcpaa.PNmm Go.Proofs.Ytncpcjphljfcpaa.Pure
theorem drawn_below {w w' : World} (h : Drawn0 w w') : Below w.heap.size w w' := by
  obtain ⟨n, rfl⟩ := h
  exact pw_below_drewN (Below.refl _ _) n
theorem at_ps {w : World} {A : Option Addr} {xs : List S32} (h : Kd.C k32 w A xs.length xs) (i : Nat) (hi : i < xs.length) : ∃ ad, A = some ad ∧ w.cell? (ad.add (i * 2)) = some (.int .u32 (rd_T32 xs (i : Int)).f0) ∧ w.cell? ⟨(ad.add (i * 2)).block, (ad.add (i * 2)).off + 1, none⟩ = some (.int .i64 (rd_T32 xs (i : Int)).f1) ∧ rd_T32 xs (i : Int) ∈ xs := by
  obtain ⟨ad, e, h1, h2⟩ := at_T32 h (i : Int) (by omega) (by omega)
  rw [Int.toNat_natCast] at h1 h2
  refine ⟨ad, e, h1, h2, ?_⟩
  unfold rd_T32
  rw [Int.toNat_natCast, List.getD_eq_getElem?_getD, List.getElem?_eq_getElem hi]
  exact List.getElem_mem hi
/-- what one element's Cover and Merge come to -/
theorem one_c (x : S32) (hU : U32 x) : ∃ (ra rb : List S32) (er : Int), ra.length ≤ 62 ∧ rb.length ≤ 253952 ∧
    (∀ w : World, Calls Try.prog 10 #[.int .u32 x.f0, .int .u32 x.f0] w fun e w' => ∃ v, e = .returned v ∧ Row w' w.heap.size v ra ∧ Below w.heap.size w w') ∧
    (∀ w : World, Calls Try.prog 24 #[.slice (some ⟨w.heap.size, 0, none⟩) 1 1] (w.alloc (.cells #[.int .u32 x.f0, .int .i64 x.f1] 32)) fun e w' => ∃ v, e = .returned (.tuple #[v, .int .i64 er]) ∧ Row w' w.heap.size v rb ∧ Below w.heap.size w w') := by
  obtain ⟨ra, ha, hca⟩ := cover_c x.f0 x.f0 hU.1 hU.2
  obtain ⟨rb, er, hb, hcb⟩ := merge_c [x] (fun p hp => by rw [List.mem_singleton] at hp; subst hp; exact hU)
  refine ⟨ra, rb, er, ha, hb, hca, fun w => ?_⟩
  have hC : Row (w.alloc (.cells #[.int .u32 x.f0, .int .i64 x.f1] 32)) 0 (.slice (some ⟨w.heap.size, 0, none⟩) 1 1) [x] := ⟨rfl, .inr ⟨_, _, _, rfl, Nat.zero_le _, heap_alloc_new w _, Nat.le_refl _, by unfold maxLen; omega, rfl, rfl⟩⟩
  obtain ⟨A, c, e, hle, hCC⟩ := hC.C
  injection e with e1 e2 e3
  subst e1 e3
  refine (hcb _ _ 1 hCC (Nat.le_refl _)).mono ?_
  rintro e w' ⟨v, he, hR, hbel⟩
  have hw := below_alloc (Below.refl w.heap.size w) (.cells #[.int .u32 x.f0, .int .i64 x.f1] 32)
  exact ⟨v, he, own_less hR (by rw [World.size_alloc]; omega), below_step hw hbel⟩
theorem U1.rowL {w0 w : World} {vl vw va vb : Value} {T S : List Value} {X : Nat → List S32} {xa xb : List S32} (h : U1 w0 w vl vw (T ++ [va, vb]) S (upd (upd X T.length xa) (T.length + 1) xb)) : Row w 0 va xa ∧ Row w 0 vb xb := by
  have a := h.ls T.length va (by simp)
  have b := h.ls (T.length + 1) vb (by simp)
  rw [upd_ne _ _ (by omega), upd_same] at a
  rw [upd_same] at b
  exact ⟨a, b⟩
/-- two lists are put behind a row of lists -/
theorem app2 {w : World} {vl : Value} {T : List Value} {A1 A2 : Option Addr} {n1 n2 c1 c2 : Nat} (h : w.ownsRow 0 25 1 vl T.length T) (hT : T.length ≤ 1000000000000) :
    ∃ (A : Option Addr) (c : Nat) (w' : World), (Builtin.append_ #[80, 80] 80 #[vl, .slice (some ⟨w.heap.size, 0, none⟩) 2 2]).run Try.prog (w.alloc (.cells #[.slice A1 n1 c1, .slice A2 n2 c2] 25)) = .ok (.slice A (T.length + 2) c) w' ∧
      w'.ownsRow 0 25 1 (.slice A (T.length + 2) c) (T.length + 2) (T ++ [.slice A1 n1 c1, .slice A2 n2 c2]) ∧ (w.alloc (.cells #[.slice A1 n1 c1, .slice A2 n2 c2] 25)).grownBy w' vl.ownBlock ∧ ((Value.slice A (T.length + 2) c).ownBlock = vl.ownBlock ∨ (Value.slice A (T.length + 2) c).ownBlock = some (w.alloc (.cells #[.slice A1 n1 c1, .slice A2 n2 c2] 25)).heap.size) := by
  obtain ⟨i, hi, hzz⟩ := Option.map_eq_some_iff.1 info25
  simp only [Prod.mk.injEq] at hzz
  obtain ⟨hz, hs, hb⟩ := hzz
  obtain ⟨v', w', hr, hown, hg, _, hloc⟩ := run_append_own_at (P := Try.prog) (w.alloc (.cells #[.slice A1 n1 c1, .slice A2 n2 c2] 25)) 0 80 80 25 i _ 1 24 Try.underlying80 hi hz hs hb rfl (by decide) vl T.length T (h.alloc _) ⟨w.heap.size, 0, none⟩ 2 2 [.slice A1 n1 c1, .slice A2 n2 c2] rfl (World.news_of_block (cs := #[.slice A1 n1 c1, .slice A2 n2 c2]) (t := 25) (fr := (0, 0)) (heap_alloc_new w _)) (by intro u hu; simp at hu; rcases hu with rfl | rfl <;> rfl) (by unfold maxLen; omega) (by omega) (Nat.zero_le _)
  obtain ⟨A, c, rfl⟩ := own_slice hown
  exact ⟨A, c, w', hr, hown, hg, hloc⟩
/-- one list is put behind a row of lists -/
theorem app1 {w : World} {vl : Value} {T : List Value} {A1 : Option Addr} {n1 c1 : Nat} (h : w.ownsRow 0 25 1 vl T.length T) (hT : T.length ≤ 1000000000000) :
    ∃ (A : Option Addr) (c : Nat) (w' : World), (Builtin.append_ #[80, 80] 80 #[vl, .slice (some ⟨w.heap.size, 0, none⟩) 1 1]).run Try.prog (w.alloc (.cells #[.slice A1 n1 c1] 25)) = .ok (.slice A (T.length + 1) c) w' ∧
      w'.ownsRow 0 25 1 (.slice A (T.length + 1) c) (T.length + 1) (T ++ [.slice A1 n1 c1]) ∧ (w.alloc (.cells #[.slice A1 n1 c1] 25)).grownBy w' vl.ownBlock ∧ ((Value.slice A (T.length + 1) c).ownBlock = vl.ownBlock ∨ (Value.slice A (T.length + 1) c).ownBlock = some (w.alloc (.cells #[.slice A1 n1 c1] 25)).heap.size) := by
  obtain ⟨i, hi, hzz⟩ := Option.map_eq_some_iff.1 info25
  simp only [Prod.mk.injEq] at hzz
  obtain ⟨hz, hs, hb⟩ := hzz
  obtain ⟨v', w', hr, hown, hg, _, hloc⟩ := run_append_own_at (P := Try.prog) (w.alloc (.cells #[.slice A1 n1 c1] 25)) 0 80 80 25 i _ 1 24 Try.underlying80 hi hz hs hb rfl (by decide) vl T.length T (h.alloc _) ⟨w.heap.size, 0, none⟩ 1 1 [.slice A1 n1 c1] rfl (World.news_of_block (cs := #[.slice A1 n1 c1]) (t := 25) (fr := (0, 0)) (heap_alloc_new w _)) (by intro u hu; simp at hu; subst hu; rfl) (by unfold maxLen; omega) (by omega) (Nat.zero_le _)
  obtain ⟨A, c, rfl⟩ := own_slice hown
  exact ⟨A, c, w', hr, hown, hg, hloc⟩
set_option maxHeartbeats 16000000 in
set_option maxRecDepth 100000 in
theorem untouched28 (w : World) (lo hi : Int) (A : Option Addr) (c : Nat) (ps : List S32) (h0 : 0 ≤ lo) (h1 : hi < 4294967296) (hU : ∀ p, p ∈ ps → U32 p)
    (hC : Kd.C k32 w A ps.length ps) (hc : ps.length ≤ c) (hlen : ps.length ≤ 1000000) :
    Calls Try.prog 28 #[.int .u32 lo, .int .u32 hi, .slice A ps.length c] w fun e w' => e = .returned (.bool true) ∧ Below w.heap.size w w' := by
  obtain ⟨rc, hrc, hcov⟩ := cover_c lo hi h0 h1
  obtain ⟨rm, er, hrm, hmrg⟩ := merge_c ps hU
  have HCOV := Aside0.mk hcov
  have HMRG := Aside0.mk hmrg
  have HC := Aside0.mk hC
  have HCC := Aside0.mk hc
  have HU := Aside0.mk hU
  have HLEN := Aside0.mk hlen
  have HR := Aside0.mk (show rc.length ≤ 62 ∧ rm.length ≤ 253952 from ⟨hrc, hrm⟩)
  clear hcov hmrg hC hc hU hlen hrc hrm h0 h1
  go_enter Try.func28, Try.ntmps28
  go_wp2_with fail
  go_loopg [7, 8, 9] (ps.length + 1) (fun k vl vw v wr => ∃ (i : Nat) (T S : List Value) (X : Nat → List S32), v = .int .i64 (i : Int) ∧ k = ps.length + 1 - i ∧ i ≤ ps.length + 1 ∧ Aside0 (U1 w wr vl vw T S X) ∧ Aside0 (T.length = 4 * i ∧ S.length = 4 * i))
  case atStart => exact ⟨0, [], [], _, rfl, rfl, Nat.zero_le _, ⟨U1.new w⟩, ⟨rfl, rfl⟩⟩
  case round =>
    obtain ⟨i, T, S, X, rfl, hk, hi, H1, HL⟩ := hrel
    by_cases hle : i ≤ ps.length
    · have hli : (i : Int) ≤ (ps.length : Int) := by omega
      have hw1 : IntKind.i64.wrap ((i : Int) + 1) = ((i + 1 : Nat) : Int) := by rw [show (i : Int) + 1 = ((i + 1 : Nat) : Int) from by omega]; exact wrap64_id (by omega) (by have := HLEN.out; omega)
      go_wp2_with fail
      go_loopg [7, 8, 10] 2 (fun k vl vw v wr => ∃ (q : Nat) (T S : List Value) (X : Nat → List S32), v = .int .i64 (q : Int) ∧ k = 2 - q ∧ q ≤ 2 ∧ Aside0 (U1 w wr vl vw T S X) ∧ Aside0 (T.length = 4 * i + 2 * q ∧ S.length = 4 * i + 2 * q))
      case atStart => exact ⟨0, T, S, X, rfl, rfl, by omega, H1, ⟨by have := HL.out; omega⟩⟩
      case round =>
        clear H1 HL T S X
        obtain ⟨q, T, S, X, rfl, hk2, hq, H1, HL⟩ := hrel
        by_cases hq2 : q < 2
        · have hqi : (q : Int) < 2 := by omega
          have hw2 : IntKind.i64.wrap ((q : Int) + 1) = ((q + 1 : Nat) : Int) := by rw [show (q : Int) + 1 = ((q + 1 : Nat) : Int) from by omega]; exact wrap64_id (by omega) (by omega)
          go_upto_if 35 with fail
          go_cut [11, 12] (fun va vb wx => ∃ (xa xb : List S32), Aside0 (Row wx wr.heap.size va xa) ∧ Aside0 (Row wx wr.heap.size vb xb) ∧ Aside0 (∀ k, va.ownBlock = some k → vb.ownBlock ≠ some k) ∧ Aside0 (xa.length ≤ 62 ∧ xb.length ≤ 253952) ∧ Aside0 (Below wr.heap.size wr wx))
          case first =>
            by_cases hlt : i < ps.length
            · have hlti : (i : Int) < (ps.length : Int) := by omega
              have HAT := Aside0.mk (fun (w' : World) (hb : Below w.heap.size w w') => at_ps (Kd.C_below HC.out hb) i hlt)
              obtain ⟨ad, rfl, c0, c1, hmem⟩ := HAT.out _ H1.out.bel
              obtain ⟨ra, rb, er1, hra, hrb, hca, hcb⟩ := one_c _ (HU.out _ hmem)
              have HA := Aside0.mk hca
              have HB := Aside0.mk hcb
              have HAB := Aside0.mk (And.intro hra hrb)
              clear hmem hra hrb hca hcb
              generalize rd_T32 ps (i : Int) = x at *
              obtain ⟨x0, x1⟩ := x
              simp only at c0 c1 HA HB HAT
              go_upto_region 12 with fail
              go_cut [11] (fun v wx => Aside0 (Row wx wr.heap.size v ra) ∧ Aside0 (Below wr.heap.size wr wx))
              case first =>
                go_region_with (go_at_call 10; refine (HA.out _).mono ?_; rintro e_ w2 ⟨va, rfl, hra, hb2⟩; have HRa := Aside0.mk hra; have HB2 := Aside0.mk hb2; clear hra hb2)
                all_goals
                  go_wp2_with fail
                  go_meet
                  exact ⟨HRa, ⟨below_step (Below.refl _ _).drew HB2.out⟩⟩
              case rest =>
                obtain ⟨HRa, HB2⟩ := hcut
                clear c0 c1
                obtain ⟨ad2, e2, c0, c1, _⟩ := HAT.out _ (below_step H1.out.bel HB2.out)
                cases e2
                go_wp2_with fail
                refine (HB.out _).mono ?_
                rintro e_ w3 ⟨vb, rfl, hrb, hb3⟩
                have HRb := Aside0.mk hrb
                have HB3 := Aside0.mk hb3
                clear hrb hb3 c0 c1
                go_wp2_with fail
                go_meet
                exact ⟨ra, rb, ⟨HRa.out.below HB3.out⟩, ⟨own_less HRb.out HB2.out.size⟩, ⟨fun k h1 h2 => by have := (HRa.out.lt k h1).2; have := (HRb.out.lt k h2).1; omega⟩, HAB, ⟨below_step HB2.out HB3.out⟩⟩
            · have hlti : ¬ (i : Int) < (ps.length : Int) := by omega
              go_wp2_with fail
              refine (HCOV.out _).mono ?_
              rintro e_ w2 ⟨va, rfl, hra, hb2⟩
              have HRa := Aside0.mk hra
              have HB2 := Aside0.mk hb2
              clear hra hb2
              go_wp2_with fail
              refine (HMRG.out _ _ _ (Kd.C_below HC.out (below_step H1.out.bel HB2.out)) HCC.out).mono ?_
              rintro e_ w3 ⟨vb, rfl, hrb, hb3⟩
              have HRb := Aside0.mk hrb
              have HB3 := Aside0.mk hb3
              clear hrb hb3
              go_wp2_with fail
              go_meet
              exact ⟨rc, rm, ⟨HRa.out.below HB3.out⟩, ⟨own_less HRb.out HB2.out.size⟩, ⟨fun k h1 h2 => by have := (HRa.out.lt k h1).2; have := (HRb.out.lt k h2).1; omega⟩, HR, ⟨below_step HB2.out HB3.out⟩⟩
          case rest =>
            obtain ⟨xa, xb, HRa, HRb, HNE, HLX, HBX⟩ := hcut
            rename World => wx
            obtain ⟨A1, c1, rfl, hle1, _⟩ := HRa.out.C
            obtain ⟨A2, c2, rfl, hle2, _⟩ := HRb.out.C
            have HLE := Aside0.mk (And.intro hle1 hle2)
            clear hle1 hle2
            obtain ⟨A3, c3, w3, hr3, ho3, hg3, hl3⟩ := app2 (A1 := A1) (A2 := A2) (n1 := xa.length) (n2 := xb.length) (c1 := c1) (c2 := c2) (own_below H1.out.rl HBX.out) (by have := HL.out; have := HLEN.out; omega)
            have H3 := Aside0.mk (H1.out.putL HBX.out HRa.out HRb.out HNE.out (by have := HLX.out; omega) HLX.out.2 (below_alloc (Below.refl _ _) _) ho3 hg3 hl3)
            have R3 := Aside0.mk hr3
            clear hr3 ho3 hg3 hl3 H1 HRa HRb HNE HBX
            go_wp2_with ((with_reducible refine gate_builtin (b := .append) (xs := #[.tmp 64, .tmp 67]) rfl ?_); at_builtin; refine wpList_append_run rfl (.tmp 64) (.tmp 67) 80 rfl rfl rfl R3.out ?_)
            obtain ⟨A, c, e, _, hC1⟩ := H3.out.rowL.1.C
            injection e with e1 _ e3
            subst e1 e3
            refine (copied_c xa (by have := HLX.out; omega) _ _ _ hC1 HLE.out.1).mono ?_
            rintro e_ w4 ⟨sa, rfl, hsa, hb4⟩
            have HSA := Aside0.mk hsa
            have HB4 := Aside0.mk hb4
            have H4 := Aside0.mk (H3.out.below hb4)
            clear hsa hb4 hC1
            go_wp2_with fail
            obtain ⟨A, c, e, _, hC2⟩ := H4.out.rowL.2.C
            injection e with e1 _ e3
            subst e1 e3
            refine (copied_c xb (by have := HLX.out; omega) _ _ _ hC2 HLE.out.2).mono ?_
            rintro e_ w5 ⟨sb, rfl, hsb, hb5⟩
            obtain ⟨A4, c4, rfl, _, _⟩ := HSA.out.C
            obtain ⟨A5, c5, rfl, _, _⟩ := hsb.C
            have H5 := Aside0.mk (H4.out.below hb5)
            obtain ⟨A6, c6, w6, hr6, ho6, hg6, hl6⟩ := app2 (A1 := A4) (A2 := A5) (n1 := xa.length) (n2 := xb.length) (c1 := c4) (c2 := c5) H5.out.rw_ (by have := HL.out; have := HLEN.out; omega)
            have hx1 : upd (upd X T.length xa) (T.length + 1) xb S.length = xa := by rw [show S.length = T.length from by have := HL.out; omega, upd_ne _ _ (by omega), upd_same]
            have hx2 : upd (upd X T.length xa) (T.length + 1) xb (S.length + 1) = xb := by rw [show S.length = T.length from by have := HL.out; omega, upd_same]
            have H6 := Aside0.mk (H3.out.putS (below_step HB4.out hb5) (by rw [hx1]; exact HSA.out.below hb5) (by rw [hx2]; exact own_less hsb HB4.out.size) (by have := HL.out; simp; omega) (below_alloc (Below.refl _ _) _) ho6 hg6 hl6)
            have R6 := Aside0.mk hr6
            clear hr6 ho6 hg6 hl6 hsb hb5 hC2 hx1 hx2 H3 H4 H5 HSA HB4
            go_wp2_with ((with_reducible refine gate_builtin (b := .append) (xs := #[.tmp 69, .tmp 74]) rfl ?_); at_builtin; refine wpList_append_run rfl (.tmp 69) (.tmp 74) 80 rfl rfl rfl R6.out ?_)
            go_roundg (2 - (q + 1))
            case measure => omega
            case rel => exact ⟨q + 1, _, _, _, by first | rfl | go_num, rfl, by omega, H6, ⟨by have := HL.out; simp; omega⟩⟩
        · have hqi : ¬ (q : Int) < 2 := by omega
          obtain rfl : q = 2 := by omega
          go_wp2_with fail
          go_roundg (ps.length + 1 - (i + 1))
          case measure => omega
          case rel => exact ⟨i + 1, T, S, X, by first | rfl | go_num, rfl, by omega, H1, ⟨by have := HL.out; omega⟩⟩
    · have hli : ¬ (i : Int) ≤ (ps.length : Int) := by omega
      have hT : T.length = S.length ∧ T.length ≤ 4000004 := by have := HL.out; have := HLEN.out; omega
      have HT := Aside0.mk hT
      obtain ⟨AL, cL, rfl⟩ := own_slice H1.out.rl
      obtain ⟨AW, cW, rfl⟩ := own_slice H1.out.rw_
      have hSL : (Value.slice AW S.length cW) = .slice AW T.length cW := by rw [hT.1]
      rw [hSL] at H1 ⊢
      clear hT HL hSL
      go_upto_block 4 with fail
      go_cut [13] (fun v wx => Aside0 (U1 w wx (.slice AL T.length cL) (.slice AW T.length cW) T S X))
      case first =>
        go_wp2_with fail
        go_loopg [13] T.length (fun k v wr => ∃ j : Nat, v = .int .i64 (j : Int) ∧ k = T.length - j ∧ j ≤ T.length ∧ Aside0 (U1 w wr (.slice AL T.length cL) (.slice AW T.length cW) T S X))
        case atStart => exact ⟨0, rfl, rfl, Nat.zero_le _, H1⟩
        case round =>
          clear H1
          obtain ⟨j, rfl, hk2, hj, H1⟩ := hrel
          by_cases hlt : j < T.length
          · have hjj : (j : Int) < (T.length : Int) := by omega
            have hw1 : IntKind.i64.wrap ((j : Int) + 1) = ((j + 1 : Nat) : Int) := by rw [show (j : Int) + 1 = ((j + 1 : Nat) : Int) from by omega]; exact wrap64_id (by omega) (by have := HT.out; omega)
            have hS : j < S.length := by have := HT.out; omega
            have hrT := H1.out.ls j T[j] (List.getElem?_eq_getElem hlt)
            have hrS := H1.out.rs j S[j] (List.getElem?_eq_getElem hS)
            obtain ⟨A1, c1, e1, hle1, hC1⟩ := hrT.C
            obtain ⟨A2, c2, e2, hle2, hC2⟩ := hrS.C
            obtain ⟨gL, cL', e, _⟩ := H1.out.rl.form (by omega)
            injection e with e3 e5 e4
            subst e3 e4
            clear e5
            obtain ⟨gW, cW', e, _⟩ := (show _ from H1.out.rw_).form (by omega)
            injection e with e3 e5 e4
            subst e3 e4
            clear e5
            have kc := H1.out.rl.cells (g := gL) rfl j (.slice A1 (X j).length c1) (by rw [List.getElem?_eq_getElem hlt, e1])
            rw [add_plain] at kc
            have h9 := H1.out.rw_
            rw [← HT.out.1] at h9
            have kd := h9.cells (g := gW) rfl j (.slice A2 (X j).length c2) (by rw [List.getElem?_eq_getElem hS, e2])
            rw [add_plain] at kd
            clear h9
            have HSAME : Aside0 (∀ n, Calls Try.prog 12 #[.slice A1 (X j).length c1, .slice A2 (X j).length c2] (wr.drewN n) fun e w'' => e = .returned (.bool true) ∧ ∃ m, w'' = wr.drewN m) := ⟨fun n => (same_c (X j) (by have := H1.out.lX j; omega) (wr.drewN n) A1 A2 c1 c2 (Kd.C_drewN hC1 n) hle1 (Kd.C_drewN hC2 n) hle2).mono (fun e w' ⟨h1, m, hm⟩ => ⟨h1, n + m, by rw [hm, World.drewN_drewN]⟩)⟩
            clear hrT hrS e1 e2 hC1 hC2 hle1 hle2 hS
            go_wp2_with fail
            go_quiet ((go_at_call 12; exact HSAME.out _))
            go_wp2_with fail
            go_roundg (T.length - (j + 1))
            case measure => omega
            case rel => exact ⟨j + 1, by first | rfl | go_num, rfl, by omega, ⟨H1.out.below (pw_below_drewN (Below.refl _ _) _)⟩⟩
          · have hjj : ¬ (j : Int) < (T.length : Int) := by omega
            go_wp2_with fail
            go_meet
            exact H1
      case rest =>
        clear H1
        have H3 := Aside0.mk (Aside0.out hcut).u3
        clear hcut
        go_upto_block 6 with fail
        go_cut [14] (fun v wx => ∃ X' : Nat → List S32, Aside0 (U3 w wx (.slice AL T.length cL) T X') ∧ Aside0 (∀ j, j < T.length → X' j = List.replicate (X' j).length (mj j)))
        case first =>
          go_wp2_with fail
          go_loopg [14] T.length (fun k v wr => ∃ (j : Nat) (X' : Nat → List S32), v = .int .i64 (j : Int) ∧ k = T.length - j ∧ j ≤ T.length ∧ Aside0 (U3 w wr (.slice AL T.length cL) T X') ∧ Aside0 (∀ j', j' < j → X' j' = List.replicate (X' j').length (mj j')))
          case atStart => exact ⟨0, X, rfl, rfl, Nat.zero_le _, H3, ⟨fun j hj => by omega⟩⟩
          case round =>
            clear H3
            obtain ⟨j, X, rfl, hk2, hj, H3, HF⟩ := hrel
            by_cases hlt : j < T.length
            · have hjj : (j : Int) < (T.length : Int) := by omega
              have hw1 : IntKind.i64.wrap ((j : Int) + 1) = ((j + 1 : Nat) : Int) := by rw [show (j : Int) + 1 = ((j + 1 : Nat) : Int) from by omega]; exact wrap64_id (by omega) (by have := HT.out; omega)
              have hw3 : IntKind.u32.wrap (j : Int) = (j : Int) := wrap32_id (by omega) (by have := HT.out; omega)
              obtain ⟨A1, c1, e1, hle1, _⟩ := (H3.out.ls j T[j] (List.getElem?_eq_getElem hlt)).C
              obtain ⟨gL, cL', e, _⟩ := H3.out.rl.form (by omega)
              injection e with e3 e5 e4
              subst e3 e4
              clear e5
              obtain ⟨n, hn⟩ : ∃ n, n = (X j).length := ⟨_, rfl⟩
              rw [← hn] at e1 hle1
              have HE : Aside0 (T[j]? = some (.slice A1 n c1)) := ⟨by rw [List.getElem?_eq_getElem hlt, e1]⟩
              have HN : Aside0 (n ≤ 253952) := ⟨by rw [hn]; exact H3.out.lX j⟩
              have HX : Aside0 ((X j).length = n) := ⟨hn.symm⟩
              clear e1 hle1 hn
              go_wp2_with fail
              go_loopg [15] n (fun k v wr => ∃ (q : Nat) (X' : Nat → List S32), v = .int .i64 (q : Int) ∧ k = n - q ∧ q ≤ n ∧ Aside0 (U3 w wr (.slice (some ⟨gL, 0, none⟩) T.length cL) T X') ∧ Aside0 (∀ j', j' < j → X' j' = List.replicate (X' j').length (mj j')) ∧ Aside0 ((X' j).length = n) ∧ Aside0 (∀ q', q' < q → (X' j)[q']? = some (mj j)))
              case atStart => exact ⟨0, X, rfl, rfl, Nat.zero_le _, H3, HF, HX, ⟨fun q hq => by omega⟩⟩
              case round =>
                clear H3 HF HX
                obtain ⟨q, X, rfl, hk3, hq, H3, HF, HX, HQ⟩ := hrel
                have kc := H3.out.rl.cells (g := gL) rfl j (.slice A1 n c1) HE.out
                rw [add_plain] at kc
                by_cases hqn : q < n
                · have hqq : (q : Int) < (n : Int) := by omega
                  have hw2 : IntKind.i64.wrap ((q : Int) + 1) = ((q + 1 : Nat) : Int) := by rw [show (q : Int) + 1 = ((q + 1 : Nat) : Int) from by omega]; exact wrap64_id (by omega) (by have := HN.out; omega)
                  have hrow := H3.out.ls j _ HE.out
                  obtain ⟨g, cap, e, _⟩ := World.ownsRow.form hrow (by have := HX.out; omega)
                  injection e with e3 e5 e4
                  subst e3 e4
                  clear e5
                  obtain ⟨⟨x, y, kx, ky, kf, kg⟩, hr2, ht2⟩ := hrow.put (k := q) (by have := HX.out; omega) (mj j)
                  have H4 := Aside0.mk (H3.out.turn HE.out ht2 hr2 (by rw [List.length_set]; exact H3.out.lX j))
                  have HF4 : Aside0 (∀ j', j' < j → upd X j ((X j).set q (mj j)) j' = List.replicate (upd X j ((X j).set q (mj j)) j').length (mj j')) := ⟨fun j' hj' => by rw [upd_ne _ _ (by omega)]; exact HF.out j' hj'⟩
                  have HX4 : Aside0 ((upd X j ((X j).set q (mj j)) j).length = n) := ⟨by rw [upd_same, List.length_set]; exact HX.out⟩
                  have HQ4 : Aside0 (∀ q', q' < q + 1 → (upd X j ((X j).set q (mj j)) j)[q']? = some (mj j)) := ⟨fun q' hq' => by
                    rw [upd_same]
                    by_cases e : q' = q
                    · subst e
                      rw [List.getElem?_set_self (by have := HX.out; omega)]
                    · rw [List.getElem?_set_ne (by omega)]
                      exact HQ.out q' (by omega)⟩
                  clear hrow hr2 ht2 H3 HF HX HQ
                  go_wp2_with fail
                  go_roundg (n - (q + 1))
                  case measure => omega
                  case rel => exact ⟨q + 1, _, by first | rfl | go_num, rfl, by omega, H4, HF4, HX4, HQ4⟩
                · have hqq : ¬ (q : Int) < (n : Int) := by omega
                  have HF5 : Aside0 (∀ j', j' < j + 1 → X j' = List.replicate (X j').length (mj j')) := ⟨fun j' hj' => by
                    by_cases e : j' = j
                    · subst e
                      refine List.ext_getElem? (fun q' => ?_)
                      by_cases c9 : q' < n
                      · rw [HQ.out q' (by omega), List.getElem?_replicate_of_lt (by rw [HX.out]; exact c9)]
                      · rw [List.getElem?_eq_none (by rw [HX.out]; omega), List.getElem?_eq_none (by rw [List.length_replicate, HX.out]; omega)]
                    · exact HF.out j' (by omega)⟩
                  go_wp2_with fail
                  go_roundg (T.length - (j + 1))
                  case measure => omega
                  case rel => exact ⟨j + 1, X, by first | rfl | go_num, rfl, by omega, H3, HF5⟩
            · have hjj : ¬ (j : Int) < (T.length : Int) := by omega
              have HF5 : Aside0 (∀ j', j' < T.length → X j' = List.replicate (X j').length (mj j')) := ⟨fun j' hj' => HF.out j' (by omega)⟩
              go_wp2_with fail
              go_meet
              exact ⟨X, H3, HF5⟩
        case rest =>
          obtain ⟨X1, H3, HF⟩ := hcut
          rename World => wx
          have H4 := Aside0.mk (U4.new H3.out HF.out)
          clear H3 HF
          go_upto_block 10 with fail
          go_cut [16] (fun v wx => ∃ M : List Value, Aside0 (U4 w wx (.slice AL T.length cL) v T M X1) ∧ Aside0 (M.length = T.length))
          case first =>
            go_wp2_with fail
            go_loopg [16, 17] T.length (fun k vm v wr => ∃ (j : Nat) (M : List Value), v = .int .i64 (j : Int) ∧ k = T.length - j ∧ j ≤ T.length ∧ Aside0 (U4 w wr (.slice AL T.length cL) vm T M X1) ∧ Aside0 (M.length = j))
            case atStart => exact ⟨0, [], rfl, rfl, Nat.zero_le _, H4, ⟨rfl⟩⟩
            case round =>
              clear H4
              obtain ⟨j, M, rfl, hk2, hj, H4, HM⟩ := hrel
              by_cases hlt : j < T.length
              · have hjj : (j : Int) < (T.length : Int) := by omega
                have hw1 : IntKind.i64.wrap ((j : Int) + 1) = ((j + 1 : Nat) : Int) := by rw [show (j : Int) + 1 = ((j + 1 : Nat) : Int) from by omega]; exact wrap64_id (by omega) (by have := HT.out; omega)
                have hw3 : IntKind.u32.wrap (j : Int) = (j : Int) := wrap32_id (by omega) (by have := HT.out; omega)
                obtain ⟨A1, n, c1, he, hn, hrow, hX⟩ := H4.out.at hlt
                obtain ⟨gL, cL', e, _⟩ := H4.out.u3.rl.form (by omega)
                injection e with e3 e5 e4
                subst e3 e4
                clear e5
                have HE := Aside0.mk he
                have HN := Aside0.mk hn
                have HX := Aside0.mk hX
                have HROW := Aside0.mk hrow
                have kc := H4.out.u3.rl.cells (g := gL) rfl j (.slice A1 n c1) he
                rw [add_plain] at kc
                have HNC : Aside0 (n ≤ c1) := ⟨own_cap hrow.rep⟩
                clear he hn hX hrow
                go_wp2_with fail
                clear kc
                go_loopg [18, 19] 70000 (fun k vg v wr => ∃ q m : Nat, v = .int .i64 (q : Int) ∧ vg = .slice A1 m c1 ∧ k = 70000 - q ∧ q ≤ 70000 ∧ m ≤ c1 ∧ Aside0 (m = n + q) ∧ Aside0 (U4 w wr (.slice (some ⟨gL, 0, none⟩) T.length cL) u16 T M X1) ∧ Aside0 (Row wr 0 (.slice A1 m c1) (List.replicate m (mj j))))
                case atStart => exact ⟨0, n, rfl, rfl, rfl, by omega, HNC.out, ⟨rfl⟩, H4, HROW⟩
                case round =>
                  clear H4 HROW
                  obtain ⟨q, m, rfl, rfl, hk3, hq, hmc, HMN, H4, HROW⟩ := hrel
                  have kc := H4.out.u3.rl.cells (g := gL) rfl j (.slice A1 n c1) HE.out
                  rw [add_plain] at kc
                  by_cases hgo : m < c1 ∧ q < 70000
                  · obtain ⟨hm9, hq9⟩ := hgo
                    have hmi : (m : Int) < (c1 : Int) := by omega
                    have hqi : (q : Int) < 70000 := by omega
                    have hw2 : IntKind.i64.wrap ((q : Int) + 1) = ((q + 1 : Nat) : Int) := by rw [show (q : Int) + 1 = ((q + 1 : Nat) : Int) from by omega]; exact wrap64_id (by omega) (by omega)
                    have hbel : Below wr.heap.size wr (wr.alloc (.cells #[.int .u32 (j : Int), .int .i64 77] 32)) := below_alloc (Below.refl _ _) _
                    have hrow : Row (wr.alloc (.cells #[.int .u32 (j : Int), .int .i64 77] 32)) 0 (.slice A1 (List.replicate m (mj j)).length c1) (List.replicate m (mj j)) := by
                      rw [List.length_replicate]; exact HROW.out.below hbel
                    obtain ⟨w', g', c', hr, hrw, hcase⟩ := hrow.app (news := [mj j]) 1 rfl (by omega) (by rw [List.length_replicate]; have := HN.out; have := HMN.out; omega) ⟨wr.heap.size, 0, none⟩ 1 (World.news_of_block (cs := #[.int .u32 (j : Int), .int .i64 77]) (t := 32) (fr := (0, 0)) (heap_alloc_new wr _))
                    rw [List.length_replicate] at hr hcase
                    obtain ⟨_, rfl, rfl, hg⟩ := hcase.resolve_right (fun h => by omega)
                    have e9 : List.replicate m (mj j) ++ [mj j] = List.replicate (m + 1) (mj j) := by
                      rw [show [mj j] = List.replicate 1 (mj j) from rfl, List.replicate_append_replicate]
                    rw [e9, List.length_replicate] at hrw
                    have R := Aside0.mk hr
                    have HROW2 := Aside0.mk hrw
                    have hmn := HMN.out
                    have H5 := Aside0.mk ((H4.out.below hbel).grow (i := j) (n := n) (k := q + 1) (c := c') (g := g') (by rw [HM.out]; exact Nat.le_refl _) HE.out HX.out hg (by rw [show n + (q + 1) = m + 1 from by omega]; exact hrw))
                    have HMN2 : Aside0 (m + 1 = n + (q + 1)) := ⟨by omega⟩
                    clear hr hrw hcase hg e9 hrow hbel H4 HROW hmn
                    go_wp2_with ((with_reducible refine gate_builtin (b := .append) (xs := #[.tmp 140, .tmp 144]) rfl ?_); at_builtin; refine wpList_append_run rfl (.tmp 140) (.tmp 144) 25 rfl rfl rfl R.out ?_)
                    go_roundg (70000 - (q + 1))
                    case measure => omega
                    case rel => exact ⟨q + 1, m + 1, by first | rfl | go_num, rfl, rfl, by omega, by omega, HMN2, H5, HROW2⟩
                  · have HXQ : Aside0 (¬ (m < c1 ∧ q < 70000)) := ⟨hgo⟩
                    clear hgo
                    obtain ⟨AM, cM, rfl⟩ := own_slice H4.out.rm
                    obtain ⟨A3, c3, w3, hr3, ho3, hg3, hl3⟩ := app1 (A1 := A1) (n1 := m) (c1 := c1) H4.out.rm (by have := HM.out; have := HT.out; omega)
                    have hmn := HMN.out
                    have H5 := Aside0.mk (H4.out.put (i := j) (n := n) (r := q) (c := c1) (A := A1) (v := .slice A1 m c1) HM.out HE.out (by rw [hmn]) (by rw [← hmn]; exact HROW.out) (below_alloc (Below.refl _ _) _) ho3 hg3 hl3)
                    have R3 := Aside0.mk hr3
                    have HM5 : Aside0 ((M ++ [Value.slice A1 m c1]).length = j + 1) := ⟨by have := HM.out; simp; omega⟩
                    clear hr3 ho3 hg3 hl3 H4 HROW hmn
                    by_cases hmc9 : m < c1
                    · have hmi : (m : Int) < (c1 : Int) := by omega
                      have hqi : ¬ (q : Int) < 70000 := by have := HXQ.out; omega
                      go_wp2_with ((with_reducible refine gate_builtin (b := .append) (xs := #[.tmp 146, .tmp 148]) rfl ?_); at_builtin; refine wpList_append_run rfl (.tmp 146) (.tmp 148) 80 rfl rfl rfl R3.out ?_)
                      go_roundg (T.length - (j + 1))
                      case measure => omega
                      case rel => exact ⟨j + 1, _, by first | rfl | go_num, rfl, by omega, H5, HM5⟩
                    · have hmi : ¬ (m : Int) < (c1 : Int) := by omega
                      go_wp2_with ((with_reducible refine gate_builtin (b := .append) (xs := #[.tmp 146, .tmp 148]) rfl ?_); at_builtin; refine wpList_append_run rfl (.tmp 146) (.tmp 148) 80 rfl rfl rfl R3.out ?_)
                      go_roundg (T.length - (j + 1))
                      case measure => omega
                      case rel => exact ⟨j + 1, _, by first | rfl | go_num, rfl, by omega, H5, HM5⟩
              · have hjj : ¬ (j : Int) < (T.length : Int) := by omega
                obtain rfl : j = T.length := by omega
                go_wp2_with fail
                go_meet
                exact ⟨M, H4, HM⟩
          case rest =>
            obtain ⟨M, H4, HM⟩ := hcut
            rename World => wy
            obtain ⟨AM, cM, rfl⟩ := own_slice H4.out.rm
            have hML : (Value.slice AM M.length cM) = .slice AM T.length cM := by rw [HM.out]
            rw [hML] at H4 ⊢
            clear hML
            go_wp2_with fail
            go_loopg [20] T.length (fun k v wr => ∃ j : Nat, v = .int .i64 (j : Int) ∧ k = T.length - j ∧ j ≤ T.length ∧ Aside0 (U4 w wr (.slice AL T.length cL) (.slice AM T.length cM) T M X1))
            case atStart => exact ⟨0, rfl, rfl, Nat.zero_le _, H4⟩
            case round =>
              clear H4
              obtain ⟨j, rfl, hk2, hj, H4⟩ := hrel
              by_cases hlt : j < T.length
              · have hjj : (j : Int) < (T.length : Int) := by omega
                have hw1 : IntKind.i64.wrap ((j : Int) + 1) = ((j + 1 : Nat) : Int) := by rw [show (j : Int) + 1 = ((j + 1 : Nat) : Int) from by omega]; exact wrap64_id (by omega) (by have := HT.out; omega)
                have hw3 : IntKind.u32.wrap (j : Int) = (j : Int) := wrap32_id (by omega) (by have := HT.out; omega)
                have hM9 : j < M.length := by have := HM.out; omega
                obtain ⟨A1, n, c1, r, he, hv, hrow⟩ := H4.out.ms j M[j] (List.getElem?_eq_getElem hM9)
                obtain ⟨gL, cL', e, _⟩ := H4.out.u3.rl.form (by omega)
                injection e with e3 e5 e4
                subst e3 e4
                clear e5
                have h9 := H4.out.rm
                rw [HM.out] at h9
                obtain ⟨gM, cM', e, _⟩ := h9.form (by omega)
                injection e with e3 e5 e4
                subst e3 e4
                clear e5
                obtain ⟨m, hm⟩ : ∃ m, m = n + r := ⟨_, rfl⟩
                rw [← hm] at hv hrow
                have HE := Aside0.mk he
                have HV : Aside0 (M[j]? = some (.slice A1 m c1)) := ⟨by rw [List.getElem?_eq_getElem hM9, hv]⟩
                have HMN := Aside0.mk hm
                have HML : Aside0 (m ≤ maxLen) := ⟨by have := hrow.len; rw [List.length_replicate] at this; exact this⟩
                have kc := H4.out.u3.rl.cells (g := gL) rfl j (.slice A1 n c1) he
                rw [add_plain] at kc
                have kd := h9.cells (g := gM) rfl j (.slice A1 m c1) HV.out
                rw [add_plain] at kd
                clear he hv hrow hm h9 hM9
                go_wp2_with fail
                clear kc kd
                go_loopg [21] m (fun k v wr => ∃ q : Nat, v = .int .i64 (q : Int) ∧ k = m - q ∧ q ≤ m ∧ Aside0 (U4 w wr (.slice (some ⟨gL, 0, none⟩) T.length cL) (.slice (some ⟨gM, 0, none⟩) T.length cM) T M X1))
                case atStart => exact ⟨0, rfl, rfl, Nat.zero_le _, H4⟩
                case round =>
                  clear H4
                  obtain ⟨q, rfl, hk3, hq, H4⟩ := hrel
                  have kc := H4.out.u3.rl.cells (g := gL) rfl j (.slice A1 n c1) HE.out
                  rw [add_plain] at kc
                  have h9 := H4.out.rm
                  rw [HM.out] at h9
                  have kd := h9.cells (g := gM) rfl j (.slice A1 m c1) HV.out
                  rw [add_plain] at kd
                  clear h9
                  by_cases hqm : q < m
                  · have hqq : (q : Int) < (m : Int) := by omega
                    have hw2 : IntKind.i64.wrap ((q : Int) + 1) = ((q + 1 : Nat) : Int) := by rw [show (q : Int) + 1 = ((q + 1 : Nat) : Int) from by omega]; exact wrap64_id (by omega) (by have := HML.out; unfold maxLen at this; omega)
                    obtain ⟨A2, n2, c2, r2, he2, hv2, hrow2⟩ := H4.out.ms j _ HV.out
                    have h8 : Row wr 0 (.slice A1 m c1) (List.replicate m (mj j)) := by
                      rw [HE.out] at he2
                      injection he2 with he2
                      injection he2 with _ e2 _
                      injection hv2 with _ e5 _
                      subst e2
                      rw [e5]; rw [e5] at hrow2; exact hrow2
                    obtain ⟨g, cap, e, _⟩ := h8.rep.form (by omega)
                    injection e with e3 e5 e4
                    subst e3 e4
                    clear e5
                    obtain ⟨p1, p2⟩ := pfC_get (List.replicate m (mj j)) q (mj j) (List.getElem?_replicate_of_lt hqm)
                    have k1 := h8.rep.cells (g := g) rfl _ _ p1
                    have k2 := h8.rep.cells (g := g) rfl _ _ p2
                    rw [add_plain] at k1 k2
                    have e9 : (mj j).f0 = (j : Int) := rfl
                    have e8 : (mj j).f1 = 77 := rfl
                    rw [e9] at k1
                    rw [e8] at k2
                    clear he2 hv2 hrow2 h8 p1 p2 e9 e8
                    by_cases hqn : q < n
                    · have hqn9 : (q : Int) < (n : Int) := by omega
                      go_wp2_with fail
                      go_quiet (fail)
                      go_wp2_with fail
                      go_roundg (m - (q + 1))
                      case measure => omega
                      case rel => exact ⟨q + 1, by first | rfl | go_num, rfl, by omega, ⟨H4.out.below (pw_below_drewN (Below.refl _ _) _)⟩⟩
                    · have hqn9 : ¬ (q : Int) < (n : Int) := by omega
                      go_wp2_with fail
                      go_quiet (fail)
                      go_wp2_with fail
                      go_roundg (m - (q + 1))
                      case measure => omega
                      case rel => exact ⟨q + 1, by first | rfl | go_num, rfl, by omega, ⟨H4.out.below (pw_below_drewN (Below.refl _ _) _)⟩⟩
                  · have hqq : ¬ (q : Int) < (m : Int) := by omega
                    go_wp2_with fail
                    go_roundg (T.length - (j + 1))
                    case measure => omega
                    case rel => exact ⟨j + 1, by first | rfl | go_num, rfl, by omega, H4⟩
              · have hjj : ¬ (j : Int) < (T.length : Int) := by omega
                go_wp2_with fail
                go_ret
                exact ⟨rfl, H4.out.u3.bel⟩
end Go.Proofs.Ytncpcjphljfcpaa.Nm
