/- untouched walked. Conditions: what comes in is of its kinds, there may be a pool. -/
import Derived.Test.YtebnlhjakiipjaaPmB
set_option linter.unusedVariables false
set_option linter.unusedSimpArgs false
namespace Go.Proofs.Ytebnlhjakiipjaa.Pl
open Go.RowKit Go.Maps Go.Proofs.YtebnlhjakiipjaaW.PrintWords Go.Proofs.YtebnlhjakiipjaaW.PrintMore Go.Proofs.YtebnlhjakiipjaaW.PrintLast Go.Proofs.Ytebnlhjakiipjaa.PPlf Go.Proofs.YtebnlhjakiipjaaW.XOpen
theorem C_cells {w : World} {A : Option Addr} {l : List S27} (h : Kd.C k27 w A l.length l) : l.length = 0 ∨ ∃ a, A = some a ∧ ∀ j u, (pfC l)[j]? = some u → w.cell? (a.add j) = some u := by
  by_cases h0 : l.length = 0
  · exact .inl h0
  · obtain ⟨ad, e, _⟩ := at_T27 h 0 (by omega) (by omega)
    refine .inr ⟨ad, e, fun j u hj => ?_⟩
    obtain ⟨hj1, _⟩ := List.getElem?_eq_some_iff.1 hj
    rw [pfC_length] at hj1
    obtain ⟨ad2, c, e2, _, hK, hc⟩ := Kd.C_get h z27 ((j / 2 : Nat) : Int) (by omega) (by omega)
    rw [e] at e2; injection e2 with e2; subst e2
    obtain rfl := k27_open hK
    rw [Int.toNat_natCast] at hc
    have hg := pfC_get l (j / 2) l[j / 2] (List.getElem?_eq_getElem (by omega))
    have hrd : l.getD (j / 2) z27 = l[j / 2] := by rw [List.getD_eq_getElem?_getD, List.getElem?_eq_getElem (by omega)]; rfl
    have hc0 : ∀ i u, ([Value.int .u32 l[j / 2].f0, .int .i64 l[j / 2].f1] : List Value)[i]? = some u → w.cell? (ad.add (j / 2 * 2 + i)) = some u := by
      intro i u hi
      exact hc i u (by rw [← hrd] at hi; exact hi)
    rcases Nat.mod_two_eq_zero_or_one j with h2 | h2
    · have e3 : j / 2 * 2 = j := by omega
      rw [e3] at hg
      rw [hg.1] at hj
      have := hc0 0 u hj
      rw [Nat.add_zero, e3] at this
      exact this
    · have e3 : j / 2 * 2 + 1 = j := by omega
      rw [e3] at hg
      rw [hg.2] at hj
      have := hc0 1 u hj
      rw [e3] at this
      exact this
/-- a list's copy -/
theorem row_copy {w : World} {A : Option Addr} {l : List S27} {c : Nat} (h : Kd.C k27 w A l.length l) (hl : l.length ≤ 8796093022207) :
    ∃ v' w', (Builtin.append_ #[28, 28] 28 #[.slice none 0 0, .slice A l.length c]).run Try.prog w = .ok v' w' ∧ Row w' w.heap.size v' l ∧ Below w.heap.size w w' := by
  obtain ⟨i, hi, hzz⟩ := Option.map_eq_some_iff.1 info27
  simp only [Prod.mk.injEq] at hzz
  obtain ⟨hz, hs, hb⟩ := hzz
  obtain ⟨v', w', h1, h2, h3, h4⟩ := app_any w (t := 28) (e := 27) (news := pfC l) (base := w.heap.size) Try.underlying28 hi hz hs hb rfl (by omega) (v := .slice none 0 0) (n := 0) (xs := []) (own_nil _ _ _ _) (Nat.le_refl _) A l.length c (pfC_length l) (C_cells h) (pfC_cells l) (by unfold maxLen; omega) (by omega)
  refine ⟨v', w', h1, ?_, ⟨h3.os, h3.tape, h3.output, h3.size, fun k hk => h3.block k hk (by simp [Value.ownBlock])⟩⟩
  unfold Row
  rw [Nat.zero_add, List.nil_append] at h2
  exact h2
/-- a script that comes in -/
structure OpI (w : World) (A : Option Addr) (l : List S49) (c : Nat) : Prop where
  len : l.length ≤ 140737488355328
  cap : l.length ≤ c
  C : Kd.C k49 w A l.length l
  W : ∀ x, x ∈ l → 0 ≤ x.f2.f0 ∧ x.f2.f0 < 4294967296
theorem OpI.of {w : World} {l : List S49} {A : Option Addr} {c : Nat} (h : RowOf W49 32 l) (hl : l.length ≤ c) (hC : k49.C w A l.length l) : OpI w A l c :=
  ⟨by have := h.2.1; omega, hl, hC, fun x hx => wf32_inv (h.2.2 x hx).2.2.1⟩
theorem sameQ {w : World} {A : Option Addr} {c : Nat} {A2 : Option Addr} {c2 : Nat} {l : List S27} (hC : Kd.C k27 w A l.length l) (hc : l.length ≤ c) (hC2 : Kd.C k27 w A2 l.length l) (hc2 : l.length ≤ c2) (hl : l.length ≤ 281474976710656) (n : Nat) :
    Calls Try.prog 12 #[.slice A l.length c, .slice A2 l.length c2] (w.drewN n) fun e w'' => e = .returned (.bool true) ∧ ∃ m, w'' = w.drewN m := by
  have hb : Below w.heap.size w (w.drewN n) := pw_below_drewN (Below.refl _ _) _
  have := weftlaw10_same.calls (l.length + 1) A c l A2 c2 l _ (w.drewN n) (Kd.C_below hC hb) hc (Kd.C_below hC2 hb) hc2 (same_all hl (by omega))
  rw [decide_eq_true rfl] at this
  exact this.mono (fun e w' h => ⟨h.1, by obtain ⟨m, e⟩ := h.2.out; exact ⟨n + m, by rw [e, World.drewN_drewN]⟩⟩)
/-- the loop's lists -/
structure V1 (w0 w : World) (p : Nat) (M : Pm) (va vw : Value) (i : Nat) : Prop where
  all : ∃ T T' : Lz, U1 w0 w p M va vw (T.map (·.1)) (T'.map (·.1)) T T' ∧ T.map (·.2) = T'.map (·.2) ∧ T.length = 2 * i ∧ (∀ q, q ∈ T → q.2.length ≤ 4294967296)
theorem U4.head {w0 w : World} {va vm : Value} {X : List Value} {T : Lz} {j : Nat} (h : U4 w0 w va vm X T j) (hs : Sm X T j) (hj : j < T.length) : ∃ A n c ga ca, va = .slice (some ⟨ga, 0, none⟩) T.length ca ∧ w.cell? ⟨ga, j, none⟩ = some (.slice A n c) ∧ (T[j].1 = .slice A n c ∧ T[j].2.length = n) ∧ n ≤ 4294967296 := by
  have hX : j < X.length := by rw [h.len]; exact hj
  obtain ⟨ga, ca, ea, h1⟩ := arr_at h.ra hX
  obtain ⟨h2, h3⟩ := hs j hj hX (Nat.le_refl _)
  obtain ⟨A, c, e, _⟩ := (h.ls.row j hj).C
  rw [← h3, e] at h1
  exact ⟨A, _, c, ga, ca, by rw [ea, h.len], h1, ⟨e, rfl⟩, h2⟩
theorem U4.cap {w0 w : World} {va vm : Value} {X : List Value} {T : Lz} {j : Nat} (h : U4 w0 w va vm X T j) (hj : j < T.length) {A : Option Addr} {m c : Nat} (e : T[j].1 = .slice A m c) : ∃ n ga ca, va = .slice (some ⟨ga, 0, none⟩) T.length ca ∧ w.cell? ⟨ga, j, none⟩ = some (.slice A n c) := by
  have hX : j < X.length := by rw [h.len]; exact hj
  obtain ⟨ga, ca, ea, h1⟩ := arr_at h.ra hX
  obtain ⟨A2, n, c2, e1, e2, _⟩ := h.rel j hj hX
  rw [e] at e2
  injection e2 with e3 _ e4
  subst e3 e4
  rw [e1] at h1
  exact ⟨n, ga, ca, by rw [ea, h.len], h1⟩
theorem U4.room {w0 w : World} {va vm : Value} {X : List Value} {T : Lz} {j : Nat} (h : U4 w0 w va vm X T j) (hs : Sm X T (j + 1)) (hj : j < T.length) {A : Option Addr} {m c : Nat} (e : T[j].1 = .slice A m c) (hl : T[j].2.length = m) (hmc : m < c) (hm : m < 8796093022207) :
    ∃ g, A = some ⟨g, 0, none⟩ ∧ ∃ w', (Builtin.append_ #[28, 28] 28 #[.slice (some ⟨g, 0, none⟩) m c, .slice (some ⟨w.heap.size, 0, none⟩) 1 1]).run Try.prog (w.alloc (.cells #[.int .u32 (j : Int), .int .i64 77] 27)) = .ok (.slice (some ⟨g, 0, none⟩) (m + 1) c) w' ∧
      ∃ T' : Lz, ∃ h' : j < T'.length, T'[j].1 = .slice (some ⟨g, 0, none⟩) (m + 1) c ∧ T'[j].2.length = m + 1 ∧ U4 w0 w' va vm X T' j ∧ Sm X T' (j + 1) ∧ T'.length = T.length := by
  subst hl
  have hr := h.ls.row j hj
  rw [e] at hr
  rcases hr.2 with ⟨e1, _⟩ | ⟨g, c2, cur, e1, _⟩
  · injection e1 with _ _ e2
    omega
  · injection e1 with e1 _ e2
    subst e1
    obtain ⟨w', h1, h2, h3⟩ := hr.in1 hmc (mk77 j) hm
    obtain ⟨T', h', h4, h5, h6, h7⟩ := h.grow hj e h2 h3 hs
    exact ⟨g, rfl, w', h1, T', h', by rw [h7], by rw [h7]; simp, h4, h5, h6⟩
theorem V1.below {w0 w w' : World} {p : Nat} {M : Pm} {va vw : Value} {i : Nat} (h : V1 w0 w p M va vw i) (hb : Below w.heap.size w w') : V1 w0 w' p M va vw i := by
  obtain ⟨⟨T, T', h1, h2⟩⟩ := h
  exact ⟨⟨T, T', h1.below hb, h2⟩⟩
theorem V1.at_ {w0 w : World} {p : Nat} {M : Pm} {va vw : Value} {i j : Nat} (h : V1 w0 w p M va vw i) (hj : j < 2 * i) : ∃ ga ca gb cb A c2 B c3 xs, va = .slice (some ⟨ga, 0, none⟩) (2 * i) ca ∧ vw = .slice (some ⟨gb, 0, none⟩) (2 * i) cb ∧ w.cell? ⟨ga, j, none⟩ = some (.slice A (List.length (α := S27) xs) c2) ∧ w.cell? ⟨gb, j, none⟩ = some (.slice B xs.length c3) ∧
    xs.length ≤ c2 ∧ Kd.C k27 w A xs.length xs ∧ xs.length ≤ c3 ∧ Kd.C k27 w B xs.length xs ∧ xs.length ≤ 4294967296 := by
  obtain ⟨⟨T, T', h1, h2, h3, h4⟩⟩ := h
  have hl : T'.length = T.length := by have := congrArg List.length h2; simpa using this.symm
  have hj1 : j < T.length := by omega
  have hj2 : j < T'.length := by omega
  obtain ⟨ga, ca, e1, k1⟩ := arr_at h1.ra (i := j) (by rw [List.length_map]; exact hj1)
  obtain ⟨gb, cb, e2, k2⟩ := arr_at h1.rb (i := j) (by rw [List.length_map]; exact hj2)
  obtain ⟨A, c2, e3, l3, C3⟩ := (h1.ls.row j hj1).C
  obtain ⟨B, c3, e4, l4, C4⟩ := (h1.lw.row j hj2).C
  have e5 : T'[j].2 = T[j].2 := by
    have h5 : (T'.map (·.2))[j]? = (T.map (·.2))[j]? := by rw [h2]
    rw [List.getElem?_map, List.getElem?_map, List.getElem?_eq_getElem hj1, List.getElem?_eq_getElem hj2] at h5
    simpa using h5
  rw [List.getElem_map, e3] at k1
  rw [List.getElem_map, e4] at k2
  rw [e5] at k2 l4 C4
  rw [List.length_map, h3] at e1
  rw [List.length_map, hl, h3] at e2
  exact ⟨ga, ca, gb, cb, A, c2, B, c3, T[j].2, e1, e2, k1, k2, l3, C3, l4, C4, h4 _ (List.getElem_mem hj1)⟩
theorem V1.arr {w0 w : World} {p : Nat} {M : Pm} {va vw : Value} {i : Nat} (h : V1 w0 w p M va vw i) : ∃ A c, va = .slice A (2 * i) c := by
  obtain ⟨⟨T, T', h1, h2, h3, h4⟩⟩ := h
  obtain ⟨A, c, e⟩ := arr_sl h1.ra
  exact ⟨A, c, by rw [e, List.length_map, h3]⟩
theorem V1.three {w0 w : World} {p : Nat} {M : Pm} {va vw : Value} {i : Nat} (h : V1 w0 w p M va vw i) : ∃ X T, U3 w0 w va X T ∧ T.length = 2 * i := by
  obtain ⟨⟨T, T', h1, h2, h3, h4⟩⟩ := h
  exact ⟨_, T, ⟨h1.bel, h1.ra, h1.ls, rfl, fun i hi => h4 _ (List.getElem_mem hi)⟩, h3⟩
theorem U3.arr {w0 w : World} {va : Value} {X : List Value} {T : Lz} (h : U3 w0 w va X T) : ∃ A c, va = .slice A T.length c := by
  obtain ⟨A, c, e⟩ := arr_sl h.ra
  exact ⟨A, c, by rw [e, h.len]⟩
set_option maxHeartbeats 16000000 in
set_option maxRecDepth 100000 in
theorem untouched24 (w : World) (na nl s lo hi : Int) (A : Option Addr) (kept : List S27) (c : Nat) (A1 : Option Addr) (sc : List S49) (c1 : Nat) (hS : SpIn w na nl s lo hi A kept c) (h1 : OpI w A1 sc c1) (hE : newE na nl s lo hi kept = 0) :
    Calls Try.prog 24 #[.agg #[.int .u32 na, .int .i64 nl, .int .i64 s, .int .u32 lo, .int .u32 hi, .slice A kept.length c], .slice A1 sc.length c1] w fun e w' => e = .returned (.bool true) ∧ Below w.heap.size w w' := by
  have hb0 := below_alloc (Below.refl w.heap.size w) (.cells #[.int .u32 na, .int .i64 nl, .int .i64 s, .int .u32 lo, .int .u32 hi, .slice A kept.length c] 30)
  have kb := heap_alloc_new w (.cells #[.int .u32 na, .int .i64 nl, .int .i64 s, .int .u32 lo, .int .u32 hi, .slice A kept.length c] 30)
  have HB0 := Aside0.mk hb0
  have HS := Aside0.mk (hS.below hb0)
  have HSC := Aside0.mk h1
  have HE := Aside0.mk hE
  have k0 := blk_cell kb 0
  have k1 := blk_cell kb 1
  have k2 := blk_cell kb 2
  have k3 := blk_cell kb 3
  have k4 := blk_cell kb 4
  have k5 := blk_cell kb 5
  obtain ⟨M, hM⟩ : ∃ M, M = newM na nl s lo hi kept := ⟨_, rfl⟩
  have HMM := Aside0.mk hM
  clear hb0 kb hS h1 hE hM
  go_enter Try.func24, Try.ntmps24
  go_wp2_with fail
  generalize w.alloc (.cells #[.int .u32 na, .int .i64 nl, .int .i64 s, .int .u32 lo, .int .u32 hi, .slice A kept.length c] 30) = w1 at *
  refine (made13 w1 na nl s lo hi A kept c (by have := HS.out.len; unfold maxLen; omega) HS.out.na0 HS.out.na1 HS.out.lo0 HS.out.lo1 HS.out.hi0 HS.out.hi1 HS.out.C HS.out.W).mono ?_
  rintro e_ w2 ⟨⟨hne, _⟩ | ⟨_, hMk, p, F, rfl, hP, hF⟩, hb2⟩
  · exact absurd HE.out hne
  have HMK : Aside0 (MOk M) := ⟨by rw [HMM.out]; exact hMk⟩
  have HV : Aside0 (V1 w w2 p M (.slice none 0 0) (.slice none 0 0) 0) := ⟨⟨[], [], U1.new (L := []) (F := F) ⟨by rw [HMM.out]; exact hP, fun x hx => by simp at hx, fun k hk => Nat.le_trans HB0.out.size (hF k hk), below_step HB0.out hb2⟩, rfl, rfl, fun q h => absurd h List.not_mem_nil⟩⟩
  clear k0 k1 k2 k3 k4 k5 hMk hP hF hb2 HB0 HS HMM HE
  go_upto_block 0 with (fail)
  go_cut [7, 8] (fun v7 v8 wx => ∃ i : Nat, i ≤ 10486 ∧ Aside0 (V1 w wx p M v7 v8 i))
  case first =>
    go_wp2_with fail
    go_loopg [7, 8, 9, 10] sc.length (fun gg v7 v8 v9 v10 wr => ∃ (i : Nat) (tot : Int), v9 = .int .i64 tot ∧ v10 = .int .i64 (i : Int) ∧ i + gg = sc.length ∧ i ≤ 10486 ∧ 50 * (i : Int) ≤ tot ∧ tot ≤ 17179869184 ∧ Aside0 (V1 w wr p M v7 v8 i))
    case atStart => exact ⟨0, 0, rfl, rfl, by omega, by omega, by omega, by omega, HV⟩
    case round =>
      clear HV
      obtain ⟨i, tot, rfl, rfl, hiN, hi2, ht0, ht1, HV⟩ := hrel
      by_cases hlt : i < sc.length
      · have hii : (i : Int) < (sc.length : Int) := by omega
        by_cases hto : tot < 524288
        · have htb : decide (tot < 524288) = true := decide_eq_true hto
          have HTO := Aside0.mk (And.intro hto (And.intro ht0 (And.intro hiN hi2)))
          clear hto ht0 ht1 hi2
          have hbel : Below w.heap.size w wr := by obtain ⟨T, T', h, _⟩ := HV.out.all; exact h.bel
          obtain ⟨ad, rfl, c0, c1, c2, c3⟩ := at49 (Kd.C_below HSC.out.C hbel) i hlt
          have hmem : rd49 sc i ∈ sc := by
            unfold rd49
            rw [List.getD_eq_getElem?_getD, List.getElem?_eq_getElem hlt]; exact List.getElem_mem hlt
          have HU := Aside0.mk (HSC.out.W _ hmem)
          have hw1 : IntKind.i64.wrap ((i : Int) + 1) = ((i + 1 : Nat) : Int) := by rw [show (i : Int) + 1 = ((i + 1 : Nat) : Int) from by omega]; exact wrap64_id (by omega) (by have := HSC.out.len; omega)
          have HLT := Aside0.mk hlt
          clear hmem hbel hlt hiN
          generalize rd49 sc i = x at *
          obtain ⟨k, o, a, l⟩ := x
          simp only at c0 c1 c2 c3 HU
          go_upto_block 2 with (fail)
          go_cut [] (fun wx => Aside0 (V1 w wx p M u7 u8 i))
          case first =>
            by_cases h1 : k = 1
            · subst h1
              have hU := HV.out
              obtain ⟨T, T', hU1, h2_, h3_, h4_⟩ := hU.all
              obtain ⟨L, F, hs⟩ := hU1.sg
              have HCALL := Aside0.mk (hs.takeC HMK.out)
              have HU1 := Aside0.mk hU1
              have HTT := Aside0.mk (And.intro h2_ (And.intro h3_ h4_))
              have HSG := Aside0.mk hs
              clear hU hU1 h2_ h3_ h4_ hs
              go_wp2_with fail
              refine HCALL.out.mono ?_
              rintro e_ w4 ⟨rfl, L', F', hs', _, ht⟩
              have HV4 : Aside0 (V1 w w4 p M u7 u8 i) := ⟨⟨T, T', HU1.out.pool HSG.out hs' ht, HTT.out.1, HTT.out.2.1, HTT.out.2.2⟩⟩
              clear hs' ht HCALL
              go_wp2_with fail
              go_meet
              exact HV4
            by_cases h2 : k = 2
            · subst h2
              have hU := HV.out
              obtain ⟨T, T', hU1, h2_, h3_, h4_⟩ := hU.all
              obtain ⟨L, F, hs⟩ := hU1.sg
              have HCALL := Aside0.mk (hs.claimC HMK.out a l HU.out.1 HU.out.2)
              have HU1 := Aside0.mk hU1
              have HTT := Aside0.mk (And.intro h2_ (And.intro h3_ h4_))
              have HSG := Aside0.mk hs
              clear hU hU1 h2_ h3_ h4_ hs
              go_wp2_with fail
              refine HCALL.out.mono ?_
              rintro e_ w4 ⟨rfl, L', F', hs', _, ht⟩
              have HV4 : Aside0 (V1 w w4 p M u7 u8 i) := ⟨⟨T, T', HU1.out.pool HSG.out hs' ht, HTT.out.1, HTT.out.2.1, HTT.out.2.2⟩⟩
              clear hs' ht HCALL
              go_wp2_with fail
              go_meet
              exact HV4
            by_cases h3 : k = 3
            · subst h3
              have hU := HV.out
              obtain ⟨T, T', hU1, h2_, h3_, h4_⟩ := hU.all
              obtain ⟨L, F, hs⟩ := hU1.sg
              have HCALL := Aside0.mk (hs.freeC HMK.out a l HU.out.1 HU.out.2)
              have HU1 := Aside0.mk hU1
              have HTT := Aside0.mk (And.intro h2_ (And.intro h3_ h4_))
              have HSG := Aside0.mk hs
              clear hU hU1 h2_ h3_ h4_ hs
              go_wp2_with fail
              refine HCALL.out.mono ?_
              rintro e_ w4 ⟨rfl, L', F', hs', _, ht⟩
              have HV4 : Aside0 (V1 w w4 p M u7 u8 i) := ⟨⟨T, T', HU1.out.pool HSG.out hs' ht, HTT.out.1, HTT.out.2.1, HTT.out.2.2⟩⟩
              clear hs' ht HCALL
              go_wp2_with fail
              go_meet
              exact HV4
            have d1 : (k == 1) = false := by simpa using h1
            have d2 : (k == 2) = false := by simpa using h2
            have d3 : (k == 3) = false := by simpa using h3
            clear h1 h2 h3
            go_wp2_with fail
            go_meet
            exact HV
          case rest =>
            have HVC := hcut
            clear hcut HV c0 c1 c2 c3
            obtain ⟨T, T', hU1, h2_, h3_, h4_⟩ := HVC.out.all
            obtain ⟨L, F, hs⟩ := hU1.sg
            have HU1 := Aside0.mk hU1
            have HTT := Aside0.mk (And.intro h2_ (And.intro h3_ h4_))
            have HSG := Aside0.mk hs
            have HLL : Aside0 ((pxs M.s L).length ≤ 4294967296) := ⟨by unfold pxs; rw [List.length_map]; exact sizeF_le_S HMK.out hs.l1 hs.p1.rise⟩
            clear hU1 h2_ h3_ h4_ hs HVC
            go_wp2_with fail
            refine (takenP HMK.out HSG.out.l1 HSG.out.p1).mono ?_
            rintro e_ w5 ⟨va, rfl, ra, b5⟩
            obtain ⟨A5, c5, e5, _⟩ := ra.C
            subst e5
            have RA := Aside0.mk ra
            have B5 := Aside0.mk b5
            have HU2 := Aside0.mk (HU1.out.taken b5 ra)
            have HSG5 := Aside0.mk (HSG.out.below b5)
            clear ra b5
            go_wp2_with fail
            refine (takenP HMK.out HSG5.out.l1 HSG5.out.p1).mono ?_
            rintro e_ w6 ⟨vb, rfl, rb, b6⟩
            obtain ⟨A6, c6, e6, _⟩ := rb.C
            subst e6
            have RB := Aside0.mk rb
            have HU3 := Aside0.mk (HU2.out.taken b6 rb)
            have RA6 := Aside0.mk (RA.out.below b6)
            clear rb b6
            obtain ⟨xs, hxs⟩ : ∃ xs, xs = pxs M.s L := ⟨_, rfl⟩
            rw [← hxs] at HLL RA RB RA6 HU2 HU3 ⊢
            clear hxs
            obtain ⟨_, _, e1, hc1, hC1⟩ := RA6.out.C
            injection e1 with e1 _ e3
            subst e1 e3
            obtain ⟨_, _, e1, hc2, hC2⟩ := RB.out.C
            injection e1 with e1 _ e3
            subst e1 e3
            have HSQ := Aside0.mk (sameQ hC1 hc1 hC2 hc2 (by have := HLL.out; omega) 0)
            clear hc1 hC1 hc2 hC2
            go_wp2_with fail
            refine HSQ.out.mono ?_
            rintro e_ w7 ⟨rfl, m7, e7⟩
            have b7 : Below w6.heap.size w6 w7 := by rw [e7]; exact pw_below_drewN (Below.refl _ _) _
            have HU4 := Aside0.mk (HU3.out.below b7)
            have RA7 := Aside0.mk (RA6.out.below b7)
            have RB7 := Aside0.mk (RB.out.below b7)
            obtain ⟨n, hn⟩ : ∃ n, n = xs.length := ⟨_, rfl⟩
            have hn2 : n ≤ 4294967296 := by rw [hn]; exact HLL.out
            have htt := HTO.out
            have hm1 : IntKind.i64.wrap (2 * (n : Int)) = 2 * (n : Int) := wrap64_id (by omega) (by omega)
            have hm1' : wrap64 (2 * (n : Int)) = 2 * (n : Int) := w64 (by omega) (by omega)
            have hm2 : IntKind.i64.wrap (tot + 2 * (n : Int)) = tot + 2 * (n : Int) := wrap64_id (by omega) (by omega)
            have hm2' : wrap64 (tot + 2 * (n : Int)) = tot + 2 * (n : Int) := w64 (by omega) (by omega)
            have hm3 : IntKind.i64.wrap (tot + 2 * (n : Int) + 50) = tot + 2 * (n : Int) + 50 := wrap64_id (by omega) (by omega)
            have hm3' : wrap64 (tot + 2 * (n : Int) + 50) = tot + 2 * (n : Int) + 50 := w64 (by omega) (by omega)
            rw [← hn]
            have HNX := Aside0.mk (And.intro hn hn2)
            clear htt b7 e7 HSQ hn hn2 HU2 HU3 RA6 RB RA HU1
            obtain ⟨Aa, ca, ea⟩ := arr_sl HU4.out.ra
            obtain ⟨Ab, cb, eb⟩ := arr_sl HU4.out.rb
            subst ea eb
            have hTL : T.length = 2 * i := HTT.out.2.1
            have hTL' : T'.length = 2 * i := by have := congrArg List.length HTT.out.1; simpa using this.symm.trans (by simpa using hTL)
            have hTm : (T.map (·.1)).length = 2 * i := by rw [List.length_map]; exact hTL
            have hTm' : (T'.map (·.1)).length = 2 * i := by rw [List.length_map]; exact hTL'
            have HTm := Aside0.mk (And.intro hTm hTm')
            rw [hTm, hTm']
            clear hTm hTm'
            obtain ⟨v8, w8, r8, o8, g8, n8⟩ := arr_app HU4.out.ra HU4.out.bel.size [.slice A5 xs.length c5, .slice A6 xs.length c6] (by intro u hu; simp at hu; rcases hu with rfl | rfl <;> rfl) (by simp only [List.length_map, List.length_cons, List.length_nil]; have := HTO.out; omega)
            have R8 : Aside0 ((Builtin.append_ #[85, 85] 85 #[.slice Aa (2 * i) ca, .slice (some ⟨w7.heap.size, 0, none⟩) 2 2]).run Try.prog (w7.alloc (.cells #[.slice A5 n c5, .slice A6 n c6] 28)) = .ok v8 w8) := ⟨by rw [HNX.out.1, ← HTm.out.1]; exact r8⟩
            have hb8 : ∀ {v : Value}, Row w7 0 v xs → Row w8 0 v xs := fun h => h.step (fun k hk => g8.block k (Row.lt h k hk).2 (fun e => by
              obtain ⟨q1, hq1⟩ := own_typed h k hk
              obtain ⟨q2, hq2⟩ := own_typed HU4.out.ra k e.symm
              rw [hq1] at hq2
              exact absurd (Obj.cells.inj (Option.some.inj hq2)).2.1 (by decide)))
            have HU5 := Aside0.mk (HU4.out.grow o8 g8 n8)
            have RA8 := Aside0.mk (hb8 RA7.out.low)
            have RB8 := Aside0.mk (hb8 RB7.out.low)
            have G8 := Aside0.mk g8.size
            clear r8 o8 g8 n8 hb8
            obtain ⟨_, _, e1, hc1, hC1⟩ := RA8.out.C
            injection e1 with e1 _ e3
            subst e1 e3
            obtain ⟨v9, w9, r9, o9, b9⟩ := row_copy (c := c5) hC1 (by have := HLL.out; omega)
            have RB9 := Aside0.mk (RB8.out.below b9)
            have HU6 := Aside0.mk (HU5.out.copied b9 o9)
            have R9 := Aside0.mk r9
            obtain ⟨A9, c9, e9, _⟩ := o9.C
            subst e9
            obtain ⟨_, _, e1, hc2, hC2⟩ := RB9.out.C
            injection e1 with e1 _ e3
            subst e1 e3
            obtain ⟨v10, w10, r10, o10, b10⟩ := row_copy (c := c6) hC2 (by have := HLL.out; omega)
            have HU7 := Aside0.mk (HU6.out.copied b10 o10)
            have R10 := Aside0.mk r10
            obtain ⟨A10, c10, e10, _⟩ := o10.C
            subst e10
            clear hc1 hC1 hc2 hC2 r9 o9 b9 r10 o10 b10 HU5 HU6
            obtain ⟨v11, w11, r11, o11, g11, n11⟩ := arr_app HU7.out.rb HU7.out.bel.size [.slice A9 xs.length c9, .slice A10 xs.length c10] (by intro u hu; simp at hu; rcases hu with rfl | rfl <;> rfl) (by simp only [List.length_map, List.length_cons, List.length_nil]; have := HTO.out; omega)
            have R11 : Aside0 ((Builtin.append_ #[85, 85] 85 #[.slice Ab (2 * i) cb, .slice (some ⟨w10.heap.size, 0, none⟩) 2 2]).run Try.prog (w10.alloc (.cells #[.slice A9 n c9, .slice A10 n c10] 28)) = .ok v11 w11) := ⟨by rw [HNX.out.1, ← HTm.out.2]; exact r11⟩
            rw [← HNX.out.1] at R9 R10
            have HU8 := Aside0.mk (HU7.out.swap.grow o11 g11 n11).swap
            clear r11 o11 g11 n11 HU7
            have HFIN : Aside0 (V1 w w11 p M v8 v11 (i + 1)) := ⟨⟨T ++ [(.slice A5 xs.length c5, xs)] ++ [(.slice A6 xs.length c6, xs)], T' ++ [(.slice A9 xs.length c9, xs)] ++ [(.slice A10 xs.length c10, xs)], by
              have := HU8.out
              simp only [List.map_append, List.map_cons, List.map_nil, List.append_assoc, List.cons_append, List.nil_append] at this ⊢
              exact this, by
              have := HTT.out.1
              simp only [List.map_append, List.map_cons, List.map_nil, this], by
              simp only [List.length_append, List.length_cons, List.length_nil]
              have := HTT.out.2.1
              omega, fun q hq => by
              rcases List.mem_append.1 hq with hq | hq
              · rcases List.mem_append.1 hq with hq | hq
                · exact HTT.out.2.2 q hq
                · rw [List.mem_singleton] at hq; subst hq; exact HLL.out
              · rw [List.mem_singleton] at hq; subst hq; exact HLL.out⟩⟩
            have HTL := Aside0.mk (And.intro hTL hTL')
            clear hTL hTL' HU8 HU4 RA7 RB7 RA8 RB8 RB9
            go_wp2_with (first | ((with_reducible refine gate_builtin (b := .append) (xs := #[.tmp 84, .tmp 87]) rfl ?_); at_builtin; refine wpList_append_run rfl (.tmp 84) (.tmp 87) 85 rfl rfl rfl R8.out ?_) | ((with_reducible refine gate_builtin (b := .append) (xs := #[.const (.slice none 0 0), .tmp 90]) rfl ?_); at_builtin; refine wpList_append_run rfl (.const (.slice none 0 0)) (.tmp 90) 28 rfl rfl rfl R9.out ?_) | ((with_reducible refine gate_builtin (b := .append) (xs := #[.const (.slice none 0 0), .tmp 92]) rfl ?_); at_builtin; refine wpList_append_run rfl (.const (.slice none 0 0)) (.tmp 92) 28 rfl rfl rfl R10.out ?_) | ((with_reducible refine gate_builtin (b := .append) (xs := #[.tmp 89, .tmp 94]) rfl ?_); at_builtin; refine wpList_append_run rfl (.tmp 89) (.tmp 94) 85 rfl rfl rfl R11.out ?_))
            go_roundg (sc.length - (i + 1))
            case measure => have := HTO.out; have := HLT.out; omega
            case rel => exact ⟨i + 1, tot + 2 * (n : Int) + 50, rfl, rfl, by have := HTO.out; have := HLT.out; omega, by have := HTO.out; omega, by have := HTO.out; omega, by have := HTO.out; have := HNX.out.2; omega, HFIN⟩
        · have htb : decide (tot < 524288) = false := decide_eq_false hto
          clear hto
          go_wp2_with fail
          go_meet
          exact ⟨i, hi2, HV⟩
      · have hii : ¬ (i : Int) < (sc.length : Int) := by omega
        have hib : decide ((i : Int) < (sc.length : Int)) = false := decide_eq_false hii
        go_wp2_with fail
        go_meet
        exact ⟨i, hi2, HV⟩
  case rest =>
    clear HV
    obtain ⟨i0, hi0, HV⟩ := hcut
    rename World => wp0
    clear HMK HSC
    have HI := Aside0.mk hi0
    clear hi0
    go_upto_block 3 with (fail)
    go_cut [] (fun wx => Aside0 (V1 w wx p M u7 u8 i0))
    case first =>
      obtain ⟨Aa, ca, ea⟩ := HV.out.arr
      subst ea
      go_wp2_with fail
      go_loopg [13] (2 * i0) (fun gg v13 wr => ∃ j : Nat, v13 = .int .i64 (j : Int) ∧ j + gg = 2 * i0 ∧ Aside0 (V1 w wr p M (.slice Aa (2 * i0) ca) u8 i0))
      case atStart => exact ⟨0, rfl, by omega, HV⟩
      case round =>
        clear HV
        obtain ⟨j, rfl, hj, HV⟩ := hrel
        cases gk with
        | zero =>
          have hii : ¬ (j : Int) < ((2 * i0 : Nat) : Int) := by omega
          go_wp2_with fail
          go_meet
          exact HV
        | succ gk =>
          have hii : (j : Int) < ((2 * i0 : Nat) : Int) := by omega
          obtain ⟨ga, ca2, gb, cb, A5, c5, B5, c6, xs, e1, e2, k1, k2, l1, C1, l2, C2, hx⟩ := HV.out.at_ (j := j) (by omega)
          injection e1 with e1 _ e3
          subst e1 e2 e3
          have HSQ := Aside0.mk (sameQ C1 l1 C2 l2 (by omega))
          have HX := Aside0.mk hx
          have hw1 : IntKind.i64.wrap ((j : Int) + 1) = ((j + 1 : Nat) : Int) := by rw [show (j : Int) + 1 = ((j + 1 : Nat) : Int) from by omega]; exact wrap64_id (by omega) (by have := HI.out; omega)
          clear l1 C1 l2 C2 hx
          generalize xs.length = n at *
          go_wp2_with fail
          go_quiet ((go_at_call 12; exact HSQ.out _))
          have HV2 : Aside0 (V1 w (wr.drewN nq) p M _ _ i0) := ⟨HV.out.below (pw_below_drewN (Below.refl _ _) _)⟩
          go_wp2_with fail
          go_roundg gk
          case measure => omega
          case rel => exact ⟨j + 1, rfl, by omega, HV2⟩
    case rest =>
      have HV3 := hcut
      clear hcut HV
      obtain ⟨Aa, ca, ea⟩ := HV3.out.arr
      subst ea
      obtain ⟨X, T0, hU3, hT0⟩ := HV3.out.three
      have HU0 := Aside0.mk hU3
      have HN2 : Aside0 (2 * i0 ≤ 20972) := ⟨by have := HI.out; omega⟩
      clear HV3 hU3 HI
      generalize 2 * i0 = N at *
      have HNL := Aside0.mk hT0
      clear hT0
      go_upto_block 5 with (fail)
      go_cut [] (fun wx => ∃ T, Aside0 (U3 w wx (.slice Aa N ca) X T) ∧ Aside0 (AllM T T.length) ∧ Aside0 (T.length = N))
      case first =>
        go_wp2_with fail
        go_loopg [14] N (fun gg v14 wr => ∃ (j : Nat) (T : Lz), v14 = .int .i64 (j : Int) ∧ j + gg = N ∧ Aside0 (U3 w wr (.slice Aa N ca) X T) ∧ Aside0 (AllM T j) ∧ Aside0 (T.length = N))
        case atStart => exact ⟨0, T0, rfl, by omega, HU0, ⟨AllM.zero _⟩, HNL⟩
        case round =>
          clear HU0 HNL
          obtain ⟨j, T, rfl, hj, HU, HA, HL⟩ := hrel
          cases gk with
          | zero =>
            have hii : ¬ (j : Int) < (N : Int) := by omega
            go_wp2_with fail
            go_meet
            obtain rfl : j = N := by omega
            exact ⟨T, HU, ⟨by rw [HL.out]; exact HA.out⟩, HL⟩
          | succ gk =>
            have hii : (j : Int) < (N : Int) := by omega
            have hjT : j < T.length := by have := HL.out; omega
            obtain ⟨n, hn⟩ : ∃ n, n = T[j].2.length := ⟨_, rfl⟩
            have HNN : Aside0 (n ≤ 4294967296) := ⟨by rw [hn]; exact HU.out.sm j hjT⟩
            have HTJ : Aside0 (∀ h : j < T.length, T[j].2.length = n) := ⟨fun _ => hn.symm⟩
            have HJ := Aside0.mk (show j < N by omega)
            have hw1 : IntKind.i64.wrap ((j : Int) + 1) = ((j + 1 : Nat) : Int) := by rw [show (j : Int) + 1 = ((j + 1 : Nat) : Int) from by omega]; exact wrap64_id (by omega) (by have := HN2.out; omega)
            have hju : IntKind.u32.wrap (j : Int) = (j : Int) := u32_id (by omega) (by have := HN2.out; omega)
            clear hn hjT
            go_upto_block 6 with (fail)
            go_cut [] (fun wx => ∃ T2, Aside0 (U3 w wx (.slice Aa N ca) X T2) ∧ Aside0 (AllM T2 (j + 1)) ∧ Aside0 (T2.length = N))
            case first =>
              go_wp2_with fail
              go_loopg [15] n (fun gg v15 w9 => ∃ (k : Nat) (T2 : Lz), v15 = .int .i64 (k : Int) ∧ k + gg = n ∧ Aside0 (U3 w w9 (.slice Aa N ca) X T2) ∧ Aside0 (AllM T2 j) ∧ Aside0 (PreM T2 j k) ∧ Aside0 (T2.length = N) ∧ Aside0 (∀ h : j < T2.length, T2[j].2.length = n))
              case atStart => exact ⟨0, T, rfl, by omega, HU, HA, ⟨PreM.zero _ _⟩, HL, HTJ⟩
              case round =>
                clear HU HA HL HTJ
                obtain ⟨k, T2, rfl, hk, HU, HA, HP, HL, HTJ⟩ := hrel
                have hjT : j < T2.length := by have := HL.out; have := HJ.out; omega
                have hnj := HTJ.out hjT
                cases gk with
                | zero =>
                  obtain rfl : k = n := by omega
                  have hkk : ¬ (k : Int) < (k : Int) := by omega
                  obtain ⟨ga, ca2, A5, c5, e1, _, k1, _, _⟩ := HU.out.at_ hjT
                  injection e1 with e1 e2 e3
                  subst e1 e3
                  rw [hnj] at k1
                  have HFIN : Aside0 (AllM T2 (j + 1)) := ⟨HA.out.next HP.out hjT (by omega)⟩
                  clear hnj e2
                  go_wp2_with fail
                  go_meet
                  exact ⟨T2, HU, HFIN, HL⟩
                | succ gk2 =>
                  have hkk : (k : Int) < (n : Int) := by omega
                  obtain ⟨ga, ca2, g, c5, v0, v1, e1, e2, k1, kc0, kc1, kf0, kf1⟩ := HU.out.slot hjT (k := k) (by omega)
                  injection e1 with e1 _ e3
                  subst e1 e3
                  obtain ⟨T3, hU3, hA3, hP3, hL3, hT3⟩ := HU.out.mark HA.out HP.out hjT (k := k) (by omega) e2
                  rw [hnj] at k1
                  have HU3 := Aside0.mk hU3
                  have HA3 := Aside0.mk hA3
                  have HP3 := Aside0.mk hP3
                  have HL3 : Aside0 (T3.length = N) := ⟨hL3.trans HL.out⟩
                  have HT3 : Aside0 (∀ h : j < T3.length, T3[j].2.length = n) := ⟨fun h => (hT3 hjT h).trans hnj⟩
                  have hw2 : IntKind.i64.wrap ((k : Int) + 1) = ((k + 1 : Nat) : Int) := by rw [show (k : Int) + 1 = ((k + 1 : Nat) : Int) from by omega]; exact wrap64_id (by omega) (by have := HNN.out; omega)
                  clear e2 hU3 hA3 hP3 hL3 hT3 hnj HU HA HP HL HTJ hjT
                  go_wp2_with fail
                  go_roundg gk2
                  case measure => omega
                  case rel => exact ⟨k + 1, T3, rfl, by omega, HU3, HA3, HP3, HL3, HT3⟩
            case rest =>
              obtain ⟨T2, HU2, HA2, HL2⟩ := hcut
              go_wp2_with fail
              go_roundg gk
              case measure => omega
              case rel => exact ⟨j + 1, T2, rfl, by omega, HU2, HA2, HL2⟩
      case rest =>
        clear HU0 HNL
        obtain ⟨T1, HU1, HA1, HL1⟩ := hcut
        rename World => wp3
        have HSM := Aside0.mk HU1.out.sm0
        have HU4 := Aside0.mk (HU1.out.four HA1.out)
        clear HU1 HA1
        go_upto_block 9 with (fail)
        go_cut [16] (fun v16 wx => ∃ T, Aside0 (U4 w wx (.slice Aa N ca) v16 X T T.length) ∧ Aside0 (T.length = N))
        case first =>
          go_wp2_with fail
          go_loopg [16, 17] N (fun gg v16 v17 wr => ∃ (j : Nat) (T : Lz), v17 = .int .i64 (j : Int) ∧ j + gg = N ∧ Aside0 (U4 w wr (.slice Aa N ca) v16 X T j) ∧ Aside0 (Sm X T j) ∧ Aside0 (T.length = N))
          case atStart => exact ⟨0, T1, rfl, by omega, HU4, HSM, HL1⟩
          case round =>
            clear HU4 HSM HL1
            obtain ⟨j, T, rfl, hj, HU, HS4, HL⟩ := hrel
            cases gk with
            | zero =>
              have hii : ¬ (j : Int) < (N : Int) := by omega
              go_wp2_with fail
              go_meet
              obtain rfl : j = N := by omega
              exact ⟨T, ⟨by rw [HL.out]; exact HU.out⟩, HL⟩
            | succ gk =>
              have hii : (j : Int) < (N : Int) := by omega
              have hjT : j < T.length := by have := HL.out; omega
              have HJ := Aside0.mk (show j < N by omega)
              obtain ⟨A5, n, c5, ga, ca2, e1, k1, eT, hn⟩ := HU.out.head HS4.out hjT
              injection e1 with e1 eN e3
              subst e1 e3
              clear eN
              have HK : Aside0 (n ≤ 4294967296) := ⟨hn⟩
              have hju : IntKind.u32.wrap (j : Int) = (j : Int) := u32_id (by omega) (by have := HN2.out; omega)
              have hw1 : IntKind.i64.wrap ((j : Int) + 1) = ((j + 1 : Nat) : Int) := by rw [show (j : Int) + 1 = ((j + 1 : Nat) : Int) from by omega]; exact wrap64_id (by omega) (by have := HN2.out; omega)
              have HS5 : Aside0 (Sm X T (j + 1)) := ⟨fun i hi hi' hij => HS4.out i hi hi' (by omega)⟩
              have HTJ : Aside0 (∃ h : j < T.length, T[j].1 = .slice A5 n c5 ∧ T[j].2.length = n) := ⟨hjT, eT⟩
              clear hjT eT hn HS4
              go_upto_block 11 with (fail)
              go_cut [18] (fun v18 wx => ∃ (T2 : Lz) (h : j < T2.length), v18 = T2[j].1 ∧ Aside0 (U4 w wx (.slice (some ⟨ga, 0, none⟩) N ca) u16 X T2 j) ∧ Aside0 (Sm X T2 (j + 1)) ∧ Aside0 (T2.length = N))
              case first =>
                go_wp2_with fail
                go_loopg [18, 19] 70000 (fun gg v18 v19 w9 => ∃ (k m : Nat) (T2 : Lz) (h : j < T2.length), v19 = .int .i64 (k : Int) ∧ k + gg = 70000 ∧ v18 = .slice A5 m c5 ∧ m ≤ n + k ∧ T2[j].1 = .slice A5 m c5 ∧ T2[j].2.length = m ∧ Aside0 (U4 w w9 (.slice (some ⟨ga, 0, none⟩) N ca) u16 X T2 j) ∧ Aside0 (Sm X T2 (j + 1)) ∧ Aside0 (T2.length = N))
                case atStart =>
                  obtain ⟨h, hA, hB⟩ := HTJ.out
                  exact ⟨0, n, T, h, rfl, by omega, rfl, by omega, hA, hB, HU, HS5, HL⟩
                case round =>
                  clear HU HS5 HL HTJ k1
                  obtain ⟨k, m, T2, hjT, rfl, hk, rfl, hm, e1, e2, HU, HS5, HL⟩ := hrel
                  have k1 := HU.out.cap hjT e1
                  obtain ⟨n2, ga2, ca3, e3, k1⟩ := k1
                  injection e3 with e3 eN eM
                  clear eN eM
                  injection e3 with e3
                  injection e3 with e3
                  subst e3
                  by_cases hmc : m < c5
                  · have hmb : decide ((m : Int) < (c5 : Int)) = true := decide_eq_true (by omega)
                    have hmi : (m : Int) < (c5 : Int) := by omega
                    cases gk with
                    | zero =>
                      have hkk : ¬ (k : Int) < 70000 := by omega
                      have hkb : decide ((k : Int) < 70000) = false := decide_eq_false hkk
                      clear hmc
                      go_wp2_with fail
                      go_meet
                      exact ⟨T2, hjT, e1.symm, HU, HS5, HL⟩
                    | succ gk2 =>
                      have hkk : (k : Int) < 70000 := by omega
                      have hkb : decide ((k : Int) < 70000) = true := decide_eq_true hkk
                      obtain ⟨g, rfl, w7, r7, T3, hjT3, f1, f2, hU3, hS3, hL3⟩ := HU.out.room HS5.out hjT e1 e2 hmc (by have := HK.out; omega)
                      have R7 := Aside0.mk r7
                      have HU3 := Aside0.mk hU3
                      have HS3 := Aside0.mk hS3
                      have HL3 : Aside0 (T3.length = N) := ⟨hL3.trans HL.out⟩
                      have HF := Aside0.mk (And.intro f1 f2)
                      have HM := Aside0.mk (And.intro hk hm)
                      have hw2 : IntKind.i64.wrap ((k : Int) + 1) = ((k + 1 : Nat) : Int) := by rw [show (k : Int) + 1 = ((k + 1 : Nat) : Int) from by omega]; exact wrap64_id (by omega) (by omega)
                      clear r7 hU3 hS3 hL3 f1 f2 e1 e2 hmc HU HS5 HL
                      go_wp2_with ((with_reducible refine gate_builtin (b := .append) (xs := #[.tmp 160, .tmp 164]) rfl ?_); at_builtin; refine wpList_append_run rfl (.tmp 160) (.tmp 164) 28 rfl rfl rfl R7.out ?_)
                      go_roundg gk2
                      case measure => omega
                      case rel => exact ⟨k + 1, m + 1, T3, hjT3, rfl, by have := HM.out; omega, rfl, by have := HM.out; omega, HF.out.1, HF.out.2, HU3, HS3, HL3⟩
                  · have hmb : decide ((m : Int) < (c5 : Int)) = false := decide_eq_false (by omega)
                    have hmi : ¬ (m : Int) < (c5 : Int) := by omega
                    clear hmc
                    go_wp2_with fail
                    go_meet
                    exact ⟨T2, hjT, e1.symm, HU, HS5, HL⟩
              case rest =>
                obtain ⟨T2, hjT, hv, HU2, HS2, HL2⟩ := hcut
                clear HU HTJ HS5 HL k1
                have hgf : ∃ A m c, T2[j].1 = .slice A m c := by obtain ⟨A, c, e, _⟩ := (HU2.out.ls.row j hjT).C; exact ⟨A, _, c, e⟩
                obtain ⟨A7, m, c7, hgf⟩ := hgf
                rw [hgf] at hv
                subst hv
                have hmm : ((T2.map (·.1)).take j).length = j := by rw [List.length_take, List.length_map]; omega
                obtain ⟨v9, w9, r9, o9, g9, n9⟩ := arr_app HU2.out.rm HU2.out.bel.size [T2[j].1] (by intro u hu; rw [List.mem_singleton] at hu; rw [hu, hgf]; rfl) (by simp only [List.length_cons, List.length_nil]; rw [hmm]; have := HN2.out; have := HJ.out; omega)
                have HU5 := Aside0.mk (HU2.out.more hjT o9 g9 n9)
                obtain ⟨Am, cm, em⟩ := arr_sl HU2.out.rm
                rw [hmm] at em
                rw [hgf] at r9
                subst em
                have R9 : Aside0 ((Builtin.append_ #[85, 85] 85 #[.slice Am j cm, .slice (some ⟨_, 0, none⟩) 1 1]).run Try.prog (World.alloc _ (.cells #[.slice A7 m c7] 28)) = .ok v9 w9) := ⟨r9⟩
                have HS6 : Aside0 (Sm X T2 (j + 1)) := HS2
                clear r9 o9 g9 n9 hmm hgf hjT HU2 HS2
                go_wp2_with ((with_reducible refine gate_builtin (b := .append) (xs := #[.tmp 166, .tmp 168]) rfl ?_); at_builtin; refine wpList_append_run rfl (.tmp 166) (.tmp 168) 85 rfl rfl rfl R9.out ?_)
                go_roundg gk
                case measure => omega
                case rel => exact ⟨j + 1, T2, rfl, by omega, HU5, HS6, HL2⟩
        case rest =>
          obtain ⟨T, HU, HL⟩ := hcut
          rename World => wp4
          clear HU4 HSM HL1
          have hvm : ∃ A c, u16 = .slice A N c := by
            have hm := HU.out.rm
            rw [List.take_of_length_le (by rw [List.length_map]; exact Nat.le_refl _)] at hm
            obtain ⟨A, c, e⟩ := arr_sl hm
            exact ⟨A, c, by rw [e, List.length_map, HL.out]⟩
          obtain ⟨Am, cm, rfl⟩ := hvm
          go_wp2_with fail
          go_loopg [20] N (fun gg v20 wr => ∃ i : Nat, v20 = .int .i64 (i : Int) ∧ i + gg = N ∧ Aside0 (U4 w wr (.slice Aa N ca) (.slice Am N cm) X T T.length))
          case atStart => exact ⟨0, rfl, by omega, HU⟩
          case round =>
            clear HU
            obtain ⟨i, rfl, hi, HU⟩ := hrel
            cases gk with
            | zero =>
              have hii : ¬ (i : Int) < (N : Int) := by omega
              go_wp2_with fail
              go_ret
              exact ⟨rfl, HU.out.bel⟩
            | succ gk =>
              have hii : (i : Int) < (N : Int) := by omega
              have hiT : i < T.length := by have := HL.out; omega
              obtain ⟨K, hK⟩ : ∃ K, K = T[i].2.length := ⟨_, rfl⟩
              have HAT : Aside0 (∀ W, U4 w W (.slice Aa N ca) (.slice Am N cm) X T T.length → ∃ ga gm A n c, Aa = some ⟨ga, 0, none⟩ ∧ Am = some ⟨gm, 0, none⟩ ∧ W.cell? ⟨ga, i, none⟩ = some (.slice A n c) ∧ W.cell? ⟨gm, i, none⟩ = some (.slice A K c) ∧ n ≤ K ∧ K ≤ maxLen ∧ ∀ k, k < K → ∃ g, A = some ⟨g, 0, none⟩ ∧ W.cell? ⟨g, k * 2, none⟩ = some (.int .u32 (i : Int)) ∧ W.cell? ⟨g, k * 2 + 1, none⟩ = some (.int .i64 77)) := ⟨fun W h => by
                obtain ⟨ga, ca2, gm, cm2, A, n, c, e1, e2, h1, h2, h3, h4, h5⟩ := h.at_ hiT
                injection e1 with e1 _ _
                injection e2 with e2 _ _
                rw [← hK] at h2 h3 h4 h5
                exact ⟨ga, gm, A, n, c, e1, e2, h1, h2, h3, h4, h5⟩⟩
              have hiu : IntKind.u32.wrap (i : Int) = (i : Int) := u32_id (by omega) (by have := HN2.out; omega)
              have hw1 : IntKind.i64.wrap ((i : Int) + 1) = ((i + 1 : Nat) : Int) := by rw [show (i : Int) + 1 = ((i + 1 : Nat) : Int) from by omega]; exact wrap64_id (by omega) (by have := HN2.out; omega)
              clear hK hiT
              go_upto_block 14 with (fail)
              go_cut [] (fun wx => Aside0 (U4 w wx (.slice Aa N ca) (.slice Am N cm) X T T.length))
              case first =>
                go_wp2_with fail
                go_loopg [21] K (fun gg v21 w9 => ∃ k : Nat, v21 = .int .i64 (k : Int) ∧ k + gg = K ∧ Aside0 (U4 w w9 (.slice Aa N ca) (.slice Am N cm) X T T.length))
                case atStart => exact ⟨0, rfl, by omega, HU⟩
                case round =>
                  clear HU
                  obtain ⟨k, rfl, hk, HU⟩ := hrel
                  obtain ⟨ga, gm, A7, n, c7, rfl, rfl, h1, h2, h3, h4, h5⟩ := HAT.out wr HU.out
                  cases gk with
                  | zero =>
                    obtain rfl : k = K := by omega
                    have hkk : ¬ (k : Int) < (k : Int) := by omega
                    clear h5
                    go_wp2_with fail
                    go_meet
                    exact HU
                  | succ gk2 =>
                    have hkk : (k : Int) < (K : Int) := by omega
                    obtain ⟨g, rfl, q0, q1⟩ := h5 k (by omega)
                    have hw2 : IntKind.i64.wrap ((k : Int) + 1) = ((k + 1 : Nat) : Int) := by rw [show (k : Int) + 1 = ((k + 1 : Nat) : Int) from by omega]; exact wrap64_id (by omega) (by have := h4; unfold maxLen at this; omega)
                    clear h5
                    by_cases hkn : k < n
                    · have hkb : decide ((k : Int) < (n : Int)) = true := decide_eq_true (by omega)
                      have hki : (k : Int) < (n : Int) := by omega
                      go_wp2_with fail
                      go_quiet (fail)
                      have HU6 : Aside0 (U4 w (wr.drewN nq) (.slice (some ⟨ga, 0, none⟩) N ca) (.slice (some ⟨gm, 0, none⟩) N cm) X T T.length) := ⟨HU.out.below (pw_below_drewN (Below.refl _ _) _)⟩
                      go_wp2_with fail
                      go_roundg gk2
                      case measure => omega
                      case rel => exact ⟨k + 1, rfl, by omega, HU6⟩
                    · have hkb : decide ((k : Int) < (n : Int)) = false := decide_eq_false (by omega)
                      have hki : ¬ (k : Int) < (n : Int) := by omega
                      go_wp2_with fail
                      go_quiet (fail)
                      have HU6 : Aside0 (U4 w (wr.drewN nq) (.slice (some ⟨ga, 0, none⟩) N ca) (.slice (some ⟨gm, 0, none⟩) N cm) X T T.length) := ⟨HU.out.below (pw_below_drewN (Below.refl _ _) _)⟩
                      go_wp2_with fail
                      go_roundg gk2
                      case measure => omega
                      case rel => exact ⟨k + 1, rfl, by omega, HU6⟩
              case rest =>
                have HU5 := hcut
                go_wp2_with fail
                go_roundg gk
                case measure => omega
                case rel => exact ⟨i + 1, rfl, by omega, HU5⟩
end Go.Proofs.Ytebnlhjakiipjaa.Pl
