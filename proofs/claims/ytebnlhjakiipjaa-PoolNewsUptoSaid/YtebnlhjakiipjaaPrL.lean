/- PoolNews walked. Conditions: what comes in is of its kinds. -/
import Derived.Test.YtebnlhjakiipjaaPrJ
set_option linter.unusedVariables false
set_option linter.unusedSimpArgs false
namespace Go.Proofs.Ytebnlhjakiipjaa.Pl
open Go.RowKit Go.Maps Go.Proofs.YtebnlhjakiipjaaW.PrintWords Go.Proofs.YtebnlhjakiipjaaW.PrintMore Go.Proofs.YtebnlhjakiipjaaW.PrintLast Go.Proofs.Ytebnlhjakiipjaa.PPlf Go.Proofs.YtebnlhjakiipjaaW.XOpen
theorem C_cells {w : World} {A : Option Addr} {l : List S27} (h : Kd.C k27 w A l.length l) : l.length = 0 ∨ ∃ a, A = some a ∧ ∀ j u, (pfC l)[j]? = some u → w.cell? (a.add j) = some u := by
  by_cases h0 : l.length = 0
  · exact .inl h0
  · obtain ⟨ad, e, _⟩ := at_T27 h 0 (by omega) (by omega)
    refine .inr ⟨ad, e, fun j u hj => ?_⟩
    obtain ⟨hj1, _⟩ := List.getElem?_eq_some_iff.1 hj
    rw [pfC_length] at hj1
    obtain ⟨ad2, c, e2, _, hK, hc⟩ := Kd.C_get h z27 ((j / 2 : Nat) : Int) (by omega) (by omega)
    rw [e] at e2; injection e2 with e2; subst e2
    obtain rfl := k27_open hK
    rw [Int.toNat_natCast] at hc
    have hg := pfC_get l (j / 2) l[j / 2] (List.getElem?_eq_getElem (by omega))
    have hrd : l.getD (j / 2) z27 = l[j / 2] := by rw [List.getD_eq_getElem?_getD, List.getElem?_eq_getElem (by omega)]; rfl
    have hc0 : ∀ i u, ([Value.int .u32 l[j / 2].f0, .int .i64 l[j / 2].f1] : List Value)[i]? = some u → w.cell? (ad.add (j / 2 * 2 + i)) = some u := by
      intro i u hi
      exact hc i u (by rw [← hrd] at hi; exact hi)
    rcases Nat.mod_two_eq_zero_or_one j with h2 | h2
    · have e3 : j / 2 * 2 = j := by omega
      rw [e3] at hg
      rw [hg.1] at hj
      have := hc0 0 u hj
      rw [Nat.add_zero, e3] at this
      exact this
    · have e3 : j / 2 * 2 + 1 = j := by omega
      rw [e3] at hg
      rw [hg.2] at hj
      have := hc0 1 u hj
      rw [e3] at this
      exact this
/-- a list's copy -/
theorem row_copy {w : World} {A : Option Addr} {l : List S27} {c : Nat} (h : Kd.C k27 w A l.length l) (hl : l.length ≤ 8796093022207) :
    ∃ v' w', (Builtin.append_ #[28, 28] 28 #[.slice none 0 0, .slice A l.length c]).run Try.prog w = .ok v' w' ∧ Row w' w.heap.size v' l ∧ Below w.heap.size w w' := by
  obtain ⟨i, hi, hzz⟩ := Option.map_eq_some_iff.1 info27
  simp only [Prod.mk.injEq] at hzz
  obtain ⟨hz, hs, hb⟩ := hzz
  obtain ⟨v', w', h1, h2, h3, h4⟩ := app_any w (t := 28) (e := 27) (news := pfC l) (base := w.heap.size) Try.underlying28 hi hz hs hb rfl (by omega) (v := .slice none 0 0) (n := 0) (xs := []) (own_nil _ _ _ _) (Nat.le_refl _) A l.length c (pfC_length l) (C_cells h) (pfC_cells l) (by unfold maxLen; omega) (by omega)
  refine ⟨v', w', h1, ?_, ⟨h3.os, h3.tape, h3.output, h3.size, fun k hk => h3.block k hk (by simp [Value.ownBlock])⟩⟩
  unfold Row
  rw [Nat.zero_add, List.nil_append] at h2
  exact h2
def z30 : S30 := ⟨z27, 0, 0, 0, []⟩
def rd30 (xs : List S30) (i : Nat) : S30 := xs.getD i z30
theorem at30 {w : World} {A : Option Addr} {n : Nat} {xs : List S30} (h : Kd.C k30 w A n xs) (i : Nat) (h1 : i < n) : ∃ ad A2 c2, A = some ad ∧ w.cell? (ad.add (i * 6)) = some (.int .u32 (rd30 xs i).f0.f0) ∧ w.cell? ⟨(ad.add (i * 6)).block, (ad.add (i * 6)).off + 1, none⟩ = some (.int .i64 (rd30 xs i).f0.f1) ∧ w.cell? ⟨(ad.add (i * 6)).block, (ad.add (i * 6)).off + 2, none⟩ = some (.int .i64 (rd30 xs i).f1) ∧
    w.cell? ⟨(ad.add (i * 6)).block, (ad.add (i * 6)).off + 3, none⟩ = some (.int .u32 (rd30 xs i).f2) ∧ w.cell? ⟨(ad.add (i * 6)).block, (ad.add (i * 6)).off + 4, none⟩ = some (.int .u32 (rd30 xs i).f3) ∧ w.cell? ⟨(ad.add (i * 6)).block, (ad.add (i * 6)).off + 5, none⟩ = some (.slice A2 (rd30 xs i).f4.length c2) ∧ (rd30 xs i).f4.length ≤ c2 ∧ k27.C w A2 (rd30 xs i).f4.length (rd30 xs i).f4 := by
  obtain ⟨ad, c, e, _, hK, hc0⟩ := Kd.C_get h z30 (i : Int) (by omega) (by omega)
  have hc : ∀ j u, c[j]? = some u → w.cell? (ad.add (i * 6 + j)) = some u := hc0
  obtain ⟨A2, c2, rfl, hl, hC⟩ := k30_open hK
  exact ⟨ad, A2, c2, e, hc 0 _ rfl, by rw [← add_field _ _ 1 (by omega)]; exact hc 1 _ rfl, by rw [← add_field _ _ 2 (by omega)]; exact hc 2 _ rfl, by rw [← add_field _ _ 3 (by omega)]; exact hc 3 _ rfl, by rw [← add_field _ _ 4 (by omega)]; exact hc 4 _ rfl, by rw [← add_field _ _ 5 (by omega)]; exact hc 5 _ rfl, hl, hC⟩
/-- marks behind a list -/
def mks : Nat → List S27
  | 0 => []
  | n + 1 => mks n ++ [⟨(n : Int), 71⟩]
theorem mks_len : ∀ n, (mks n).length = n
  | 0 => rfl
  | n + 1 => by rw [mks, List.length_append, mks_len n]; rfl
theorem Row.pre {w : World} {base : Nat} {v : Value} {xs ys : List S27} (h : Row w base v (xs ++ ys)) (hy : 0 < ys.length) : ∃ g c, v = .slice (some ⟨g, 0, none⟩) (xs ++ ys).length c ∧ Kd.C k27 w (some ⟨g, 0, none⟩) xs.length xs := by
  obtain ⟨g, c, e, _⟩ := World.ownsRow.form (show w.ownsRow base 27 2 v (xs ++ ys).length (pfC (xs ++ ys)) from h) (by rw [List.length_append]; omega)
  subst e
  obtain ⟨A2, c2, e, _, hC⟩ := (Row.prefix_ (n := xs.length) h rfl).C
  injection e with e _ _
  subst e
  exact ⟨g, c, rfl, hC⟩
set_option maxHeartbeats 16000000 in
set_option maxRecDepth 100000 in
theorem news_law (w : World) (A0 : Option Addr) (sp : List S30) (c0 : Nat) (hC0 : Kd.C k30 w A0 sp.length sp) (hl0 : sp.length ≤ 140737488355328) (hW0 : ∀ x, x ∈ sp → W30 x) :
    Calls Try.prog 3 #[.slice A0 sp.length c0] w fun e w' => e = .returned (.bool true) ∧ Below w.heap.size w w' := by
  have HSC := Aside0.mk (And.intro hC0 (And.intro hl0 hW0))
  clear hC0 hl0 hW0
  go_enter Try.func3, Try.ntmps3
  go_wp2_with fail
  refine (begun9 w).mono ?_
  rintro e_ w1 ⟨rfl, hb1⟩
  have HB1 := Aside0.mk hb1
  clear hb1
  go_wp2_with fail
  go_loopg [4] sp.length (fun gg v wr => ∃ i : Nat, v = .int .i64 (i : Int) ∧ i + gg = sp.length ∧ Aside0 (Below w.heap.size w wr))
  case atStart => exact ⟨0, rfl, by omega, HB1⟩
  case round =>
    clear HB1
    obtain ⟨i, rfl, hiN, HB⟩ := hrel
    cases gk with
    | zero =>
      have hii : ¬ (i : Int) < (sp.length : Int) := by omega
      go_wp2_with fail
      go_ret
      exact ⟨rfl, HB.out⟩
    | succ gk =>
      have hlt : i < sp.length := by omega
      have hii : (i : Int) < (sp.length : Int) := by omega
      obtain ⟨ad, A2, c2, rfl, x0, x1, x2, x3, x4, x5, hl2, hC2⟩ := at30 (Kd.C_below HSC.out.1 HB.out) i hlt
      have hmem : rd30 sp i ∈ sp := by
        unfold rd30
        rw [List.getD_eq_getElem?_getD, List.getElem?_eq_getElem hlt]; exact List.getElem_mem hlt
      have hU := HSC.out.2.2 _ hmem
      have HIN := Aside0.mk hiN
      have hw1 : IntKind.i64.wrap ((i : Int) + 1) = ((i + 1 : Nat) : Int) := by rw [show (i : Int) + 1 = ((i + 1 : Nat) : Int) from by omega]; exact wrap64_id (by omega) (by have := HSC.out.2.1; omega)
      have HSP := Aside0.mk (SpIn.of (w := wr) hU hl2 hC2)
      have HLEN : Aside0 ((rd30 sp i).f4.length ≤ 8796093021952) := ⟨by have := hU.2.2.2.2.2.1; omega⟩
      clear hmem hlt hiN hU hl2 hC2
      generalize rd30 sp i = x at *
      obtain ⟨⟨na, nl⟩, s, lo, hi, kept⟩ := x
      simp only at x0 x1 x2 x3 x4 x5 HSP HLEN
      have kb := heap_alloc_new wr (.cells #[.int .u32 na, .int .i64 nl, .int .i64 s, .int .u32 lo, .int .u32 hi, .slice A2 kept.length c2] 30)
      have hb2 := below_alloc (Below.refl wr.heap.size wr) (.cells #[.int .u32 na, .int .i64 nl, .int .i64 s, .int .u32 lo, .int .u32 hi, .slice A2 kept.length c2] 30)
      have HB2 := Aside0.mk hb2
      have KS2 := Aside0.mk kb
      have k25 := blk_cell kb 5
      clear kb hb2
      go_upto_region 8 with fail
      generalize hw2 : wr.alloc (.cells #[.int .u32 na, .int .i64 nl, .int .i64 s, .int .u32 lo, .int .u32 hi, .slice A2 kept.length c2] 30) = w2 at *
      have HSB : Aside0 (wr.heap.size < w2.heap.size) := ⟨blk_lt KS2.out⟩
      clear hw2
      generalize hsb : wr.heap.size = sb at *
      have HSBB := Aside0.mk hsb
      clear hsb
      obtain ⟨v3, w3, r3, o3, b3⟩ := row_copy (c := c2) (Kd.C_below HSP.out.C (by rw [HSBB.out]; exact HB2.out)) (by have := HLEN.out; omega)
      have HCX : Aside0 (∀ W, Below w2.heap.size w2 W → Kd.C k27 W A2 kept.length kept) := ⟨fun W h => Kd.C_below HSP.out.C (below_step (by rw [HSBB.out]; exact HB2.out) h)⟩
      have HW2 : Aside0 (Below w.heap.size w w2) := ⟨below_step HB.out (by rw [HSBB.out]; exact HB2.out)⟩
      have R3 := Aside0.mk r3
      have O3 : Aside0 (Row w3 w2.heap.size v3 (kept ++ mks 0)) := ⟨by rw [show kept ++ mks 0 = kept from List.append_nil _]; exact o3⟩
      have B3 := Aside0.mk b3
      clear r3 o3 b3
      go_wp2_with ((with_reducible refine gate_builtin (b := .append) (xs := #[.const (.slice none 0 0), .tmp 27]) rfl ?_); at_builtin; refine wpList_append_run rfl (.const (.slice none 0 0)) (.tmp 27) 28 rfl rfl rfl R3.out ?_)
      go_loopg [6, 7] 70 (fun gg v6 v7 w9 => ∃ j : Nat, v7 = .int .i64 (j : Int) ∧ j + gg = 70 ∧ Aside0 (Row w9 w2.heap.size v6 (kept ++ mks j)) ∧ Aside0 (Below w2.heap.size w2 w9))
      case atStart => exact ⟨0, rfl, by omega, O3, B3⟩
      case round =>
        clear O3 B3 R3 k25
        obtain ⟨j, rfl, hj, HR, HBJ⟩ := hrel
        cases gk with
        | succ gk2 =>
          have hjj : (j : Int) < 70 := by omega
          obtain ⟨A6, c6, e6, _⟩ := HR.out.C
          subst e6
          have hmk : (⟨(j : Int), 71⟩ : S27) = ⟨(j : Int), 71⟩ := rfl
          have hlj : (kept ++ mks j).length = kept.length + j := by rw [List.length_append, mks_len]
          obtain ⟨v7, w7, r7, o7, b7, _⟩ := HR.out.app1 HBJ.out.size ⟨(j : Int), 71⟩ (by rw [hlj]; have := HLEN.out; omega)
          have R7 := Aside0.mk r7
          have O7 : Aside0 (Row w7 w2.heap.size v7 (kept ++ mks (j + 1))) := ⟨by
            have : kept ++ mks (j + 1) = kept ++ mks j ++ [⟨(j : Int), 71⟩] := by rw [mks, List.append_assoc]
            rw [this]; exact o7⟩
          have B7 := Aside0.mk (HBJ.out.trans b7)
          have hju : IntKind.u32.wrap (j : Int) = (j : Int) := u32_id (by omega) (by omega)
          have hw2 : IntKind.i64.wrap ((j : Int) + 1) = ((j + 1 : Nat) : Int) := by rw [show (j : Int) + 1 = ((j + 1 : Nat) : Int) from by omega]; exact wrap64_id (by omega) (by omega)
          clear r7 o7 b7 hlj hmk
          go_wp2_with ((with_reducible refine gate_builtin (b := .append) (xs := #[.tmp 33, .tmp 37]) rfl ?_); at_builtin; refine wpList_append_run rfl (.tmp 33) (.tmp 37) 28 rfl rfl rfl R7.out ?_)
          go_roundg gk2
          case measure => omega
          case rel => exact ⟨j + 1, rfl, by omega, O7, B7⟩
        | zero =>
          obtain rfl : j = 70 := by omega
          have hlj : (kept ++ mks 70).length = kept.length + 70 := by rw [List.length_append, mks_len]
          obtain ⟨g6, c6, e6, hpre⟩ := HR.out.pre (by rw [mks_len]; omega)
          subst e6
          obtain ⟨A6, _, e6, hcc, hCr⟩ := HR.out.C
          injection e6 with e6 _ e7
          subst e6 e7
          have KS3 := Aside0.mk (blk_below KS2.out HBJ.out)
          obtain ⟨v8, w8, r8, o8, b8⟩ := row_copy (c := c6) hCr (by rw [hlj]; have := HLEN.out; omega)
          obtain ⟨A8, c8, e8, _⟩ := o8.C
          subst e8
          have R8 := Aside0.mk r8
          have O8 := Aside0.mk o8
          have HR8 := Aside0.mk (HR.out.below b8)
          have HC8 := Aside0.mk (Kd.C_below hpre b8)
          have KS8 := Aside0.mk (blk_below KS3.out b8)
          have B8 := Aside0.mk (HBJ.out.trans (Below.mono b8 HBJ.out.size))
          have hcc2 : kept.length + 70 ≤ c6 := by rw [hlj] at hcc; exact hcc
          rw [hlj] at R8 O8 HR8 ⊢
          clear r8 o8 b8 hcc hCr hpre HR HBJ KS2 KS3
          go_wp2_with ((with_reducible refine gate_builtin (b := .append) (xs := #[.const (.slice none 0 0), .tmp 39]) rfl ?_); at_builtin; refine wpList_append_run rfl (.const (.slice none 0 0)) (.tmp 39) 28 rfl rfl rfl R8.out ?_)
          obtain ⟨w4, rfl⟩ : ∃ w4, w4 = w8 := ⟨_, rfl⟩
          have HC4 : Aside0 (Kd.C k27 w4.drew (some ⟨g6, 0, none⟩) kept.length kept) := ⟨Kd.C_below HC8.out (Below.refl _ _).drew⟩
          have KS4 : Aside0 (w4.drew.heap[sb]? = _) := ⟨KS8.out⟩
          have HNEW : Aside0 (∀ W, Kd.C k27 W (some ⟨g6, 0, none⟩) kept.length kept → Calls Try.prog 10 #[.agg #[.int .u32 na, .int .i64 nl], .int .i64 s, .int .u32 lo, .int .u32 hi, .slice (some ⟨g6, 0, none⟩) kept.length (kept.length + 70)] W _) := ⟨fun W hC => newQ W na nl s lo hi (some ⟨g6, 0, none⟩) kept (kept.length + 70) (by have := HSP.out.len; unfold maxLen; omega) HSP.out.na0 HSP.out.na1 HSP.out.lo0 HSP.out.lo1 HSP.out.hi0 HSP.out.hi1 hC HSP.out.W⟩
          obtain ⟨E, hE⟩ : ∃ E, E = newE na nl s lo hi kept := ⟨_, rfl⟩
          rw [← hE] at HNEW
          have HE := Aside0.mk hE
          clear hE
          have q0 : w4.drew.cell? ⟨sb, 0, none⟩ = some (.int .u32 na) := blk_cell KS4.out 0
          have q1 : w4.drew.cell? ⟨sb, 1, none⟩ = some (.int .i64 nl) := blk_cell KS4.out 1
          have q2 : w4.drew.cell? ⟨sb, 2, none⟩ = some (.int .i64 s) := blk_cell KS4.out 2
          have q3 : w4.drew.cell? ⟨sb, 3, none⟩ = some (.int .u32 lo) := blk_cell KS4.out 3
          have q4 : w4.drew.cell? ⟨sb, 4, none⟩ = some (.int .u32 hi) := blk_cell KS4.out 4
          have q5 : w4.drew.cell? ⟨sb, 5, none⟩ = some (.slice A2 kept.length c2) := blk_cell KS4.out 5
          have hi1 : (0 : Int) ≤ (kept.length : Int) := by omega
          have hi2 : (kept.length : Int) ≤ (kept.length : Int) + 70 := by omega
          have hi3 : (kept.length : Int) + 70 ≤ (c6 : Int) := by omega
          have hi4 : kept.length ≤ kept.length + 70 := by omega
          refine start_ (n := 21) (S := fun w' => w'.cell? ⟨sb, 0, none⟩ = some (.int .u32 na) ∧ w'.cell? ⟨sb, 1, none⟩ = some (.int .i64 nl) ∧ w'.cell? ⟨sb, 2, none⟩ = some (.int .i64 s) ∧ w'.cell? ⟨sb, 3, none⟩ = some (.int .u32 lo) ∧ w'.cell? ⟨sb, 4, none⟩ = some (.int .u32 hi) ∧ w'.cell? ⟨sb, 5, none⟩ = some (.slice A2 kept.length c2)) (ds := []) #[false, false, false, false, false, false, false, false, false, false, false, false, false, false, false, false, false, false, false, false, false] (by kernel_rfl) rfl rfl ⟨q0, q1, q2, q3, q4, q5⟩ (fun hHeld => ?_)
          refine pure_ (i := 0) (N := some 42) (v := ?_) (a' := ?_) #[true, false, false, false, false, false, false, false, false, false, false, false, false, false, false, false, false, false, false, false, false] rfl rfl (by kernel_rfl) (fun _ _ _ h => h) (Or.inl ⟨by rfl, ?_⟩) ?_ ?_
          rotate_left
          · intro w'
            go_simp
            with_reducible rfl
          rotate_left
          · simp only [Act.put, List.setIfInBounds_toArray, List.set_cons_zero, List.set_cons_succ, i64_w, i32_w]
            rfl
          refine pure_ (i := 2) (N := some 44) (v := ?_) (a' := ?_) #[true, false, true, false, false, false, false, false, false, false, false, false, false, false, false, false, false, false, false, false, false] rfl rfl (by kernel_rfl) (fun _ _ _ h => h) (Or.inl ⟨by rfl, ?_⟩) ?_ ?_
          rotate_left
          · intro w'
            go_simp
            with_reducible rfl
          rotate_left
          · simp only [Act.put, List.setIfInBounds_toArray, List.set_cons_zero, List.set_cons_succ, i64_w, i32_w]
            rfl
          refine pure_ (i := 4) (N := some 46) (v := ?_) (a' := ?_) #[true, false, true, false, true, false, false, false, false, false, false, false, false, false, false, false, false, false, false, false, false] rfl rfl (by kernel_rfl) (fun _ _ _ h => h) (Or.inl ⟨by rfl, ?_⟩) ?_ ?_
          rotate_left
          · intro w'
            go_simp
            with_reducible rfl
          rotate_left
          · simp only [Act.put, List.setIfInBounds_toArray, List.set_cons_zero, List.set_cons_succ, i64_w, i32_w]
            rfl
          refine pure_ (i := 6) (N := some 48) (v := ?_) (a' := ?_) #[true, false, true, false, true, false, true, false, false, false, false, false, false, false, false, false, false, false, false, false, false] rfl rfl (by kernel_rfl) (fun _ _ _ h => h) (Or.inl ⟨by rfl, ?_⟩) ?_ ?_
          rotate_left
          · intro w'
            go_simp
            with_reducible rfl
          rotate_left
          · simp only [Act.put, List.setIfInBounds_toArray, List.set_cons_zero, List.set_cons_succ, i64_w, i32_w]
            rfl
          refine pure_ (i := 8) (N := some 50) (v := ?_) (a' := ?_) #[true, false, true, false, true, false, true, false, true, false, false, false, false, false, false, false, false, false, false, false, false] rfl rfl (by kernel_rfl) (fun _ _ _ h => h) (Or.inl ⟨by rfl, ?_⟩) ?_ ?_
          rotate_left
          · intro w'
            go_simp
            with_reducible rfl
          rotate_left
          · simp only [Act.put, List.setIfInBounds_toArray, List.set_cons_zero, List.set_cons_succ, i64_w, i32_w]
            rfl
          refine pure_ (i := 9) (N := some 51) (v := ?_) (a' := ?_) #[true, false, true, false, true, false, true, false, true, true, false, false, false, false, false, false, false, false, false, false, false] rfl rfl (by kernel_rfl) (fun _ _ _ h => h) (Or.inl ⟨by rfl, ?_⟩) ?_ ?_
          rotate_left
          · intro w'
            go_simp
            with_reducible rfl
          rotate_left
          · simp only [Act.put, List.setIfInBounds_toArray, List.set_cons_zero, List.set_cons_succ, i64_w, i32_w]
            rfl
          refine pure_ (i := 12) (N := some 54) (v := ?_) (a' := ?_) #[true, false, true, false, true, false, true, false, true, true, false, false, true, false, false, false, false, false, false, false, false] rfl rfl (by kernel_rfl) (fun _ _ _ h => h) (Or.inl ⟨by rfl, ?_⟩) ?_ ?_
          rotate_left
          · intro w'
            go_simp
            with_reducible rfl
          rotate_left
          · simp only [Act.put, List.setIfInBounds_toArray, List.set_cons_zero, List.set_cons_succ, i64_w, i32_w]
            rfl
          refine pure_ (i := 13) (N := some 55) (v := ?_) (a' := ?_) #[true, false, true, false, true, false, true, false, true, true, false, false, true, true, false, false, false, false, false, false, false] rfl rfl (by kernel_rfl) (fun _ _ _ h => h) (Or.inl ⟨by rfl, ?_⟩) ?_ ?_
          rotate_left
          · intro w'
            go_simp
            with_reducible rfl
          rotate_left
          · simp only [Act.put, List.setIfInBounds_toArray, List.set_cons_zero, List.set_cons_succ, i64_w, i32_w]
            rfl
          refine take_ (i := 1) (N := some 43) (v := ?_) (a' := ?_) #[true, true, true, false, true, false, true, false, true, true, false, false, true, true, false, false, false, false, false, false, false] rfl rfl (by kernel_rfl) (fun _ _ _ h => h) (Or.inl ⟨by rfl, ?_⟩) hHeld ?_ ?_
          rotate_left
          · rintro w' ⟨s0, s1, s2, s3, s4, s5⟩
            go_simp
            with_reducible rfl
          rotate_left
          · simp only [Act.put, List.setIfInBounds_toArray, List.set_cons_zero, List.set_cons_succ, i64_w, i32_w]
            rfl
          refine take_ (i := 3) (N := some 45) (v := ?_) (a' := ?_) #[true, true, true, true, true, false, true, false, true, true, false, false, true, true, false, false, false, false, false, false, false] rfl rfl (by kernel_rfl) (fun _ _ _ h => h) (Or.inl ⟨by rfl, ?_⟩) hHeld ?_ ?_
          rotate_left
          · rintro w' ⟨s0, s1, s2, s3, s4, s5⟩
            go_simp
            with_reducible rfl
          rotate_left
          · simp only [Act.put, List.setIfInBounds_toArray, List.set_cons_zero, List.set_cons_succ, i64_w, i32_w]
            rfl
          refine take_ (i := 5) (N := some 47) (v := ?_) (a' := ?_) #[true, true, true, true, true, true, true, false, true, true, false, false, true, true, false, false, false, false, false, false, false] rfl rfl (by kernel_rfl) (fun _ _ _ h => h) (Or.inl ⟨by rfl, ?_⟩) hHeld ?_ ?_
          rotate_left
          · rintro w' ⟨s0, s1, s2, s3, s4, s5⟩
            go_simp
            with_reducible rfl
          rotate_left
          · simp only [Act.put, List.setIfInBounds_toArray, List.set_cons_zero, List.set_cons_succ, i64_w, i32_w]
            rfl
          refine take_ (i := 7) (N := some 49) (v := ?_) (a' := ?_) #[true, true, true, true, true, true, true, true, true, true, false, false, true, true, false, false, false, false, false, false, false] rfl rfl (by kernel_rfl) (fun _ _ _ h => h) (Or.inl ⟨by rfl, ?_⟩) hHeld ?_ ?_
          rotate_left
          · rintro w' ⟨s0, s1, s2, s3, s4, s5⟩
            go_simp
            with_reducible rfl
          rotate_left
          · simp only [Act.put, List.setIfInBounds_toArray, List.set_cons_zero, List.set_cons_succ, i64_w, i32_w]
            rfl
          refine take_ (i := 10) (N := some 52) (v := ?_) (a' := ?_) #[true, true, true, true, true, true, true, true, true, true, true, false, true, true, false, false, false, false, false, false, false] rfl rfl (by kernel_rfl) (fun _ _ _ h => h) (Or.inl ⟨by rfl, ?_⟩) hHeld ?_ ?_
          rotate_left
          · rintro w' ⟨s0, s1, s2, s3, s4, s5⟩
            go_simp
            with_reducible rfl
          rotate_left
          · simp only [Act.put, List.setIfInBounds_toArray, List.set_cons_zero, List.set_cons_succ, i64_w, i32_w]
            rfl
          refine pure_ (i := 11) (N := some 53) (v := ?_) (a' := ?_) #[true, true, true, true, true, true, true, true, true, true, true, true, true, true, false, false, false, false, false, false, false] rfl rfl (by kernel_rfl) (fun _ _ _ h => h) (Or.inl ⟨by rfl, ?_⟩) ?_ ?_
          rotate_left
          · intro w'
            go_simp
            with_reducible rfl
          rotate_left
          · simp only [Act.put, List.setIfInBounds_toArray, List.set_cons_zero, List.set_cons_succ, i64_w, i32_w]
            rfl
          refine pure_ (i := 14) (N := some 56) (v := ?_) (a' := ?_) #[true, true, true, true, true, true, true, true, true, true, true, true, true, true, true, false, false, false, false, false, false] rfl rfl (by kernel_rfl) (fun _ _ _ h => h) (Or.inl ⟨by rfl, ?_⟩) ?_ ?_
          rotate_left
          · intro w'
            go_simp
            with_reducible rfl
          rotate_left
          · simp only [Act.put, List.setIfInBounds_toArray, List.set_cons_zero, List.set_cons_succ, i64_w, i32_w]
            rfl
          refine one_ (i := 15) (N := some 57) #[true, true, true, true, true, true, true, true, true, true, true, true, true, true, true, true, false, false, false, false, false] rfl rfl (by kernel_rfl) (by decide) (fun K hK => ?_)
          refine goes_ Try.func10 (by kernel_rfl) rfl #[.agg #[.int .u32 na, .int .i64 nl], .int .i64 s, .int .u32 lo, .int .u32 hi, .slice (some ⟨g6, 0, none⟩) kept.length (kept.length + 70)] (by rfl) rfl rfl (by simp only [List.map_toArray, List.map_cons, List.map_nil]; rfl) ?_
          with_reducible refine (HNEW.out w4.drew HC4.out).mono ?_
          rintro e_ w5 ⟨vp, rfl, hp, hb5⟩
          refine ⟨_, rfl, ?_⟩
          have HB5 := Aside0.mk hb5
          have z0 := blk_cell (blk_below KS4.out hb5) 0
          have z1 := blk_cell (blk_below KS4.out hb5) 1
          have z2 := blk_cell (blk_below KS4.out hb5) 2
          have z3 := blk_cell (blk_below KS4.out hb5) 3
          have z4 := blk_cell (blk_below KS4.out hb5) 4
          have z5 := blk_cell (blk_below KS4.out hb5) 5
          refine hK.out _ _ ⟨z0, z1, z2, z3, z4, z5⟩ (fun hHeld => ?_)
          clear hK K
          refine norm_ (a' := ?_) ?_ ?_
          rotate_left
          · show Act.put _ (some 57) _ = _
            simp only [Act.put, List.setIfInBounds_toArray, List.set_cons_zero, List.set_cons_succ, i64_w, i32_w]
            rfl
          refine pure_ (i := 16) (N := some 41) (v := ?_) (a' := ?_) #[true, true, true, true, true, true, true, true, true, true, true, true, true, true, true, true, true, false, false, false, false] rfl rfl (by kernel_rfl) (fun _ _ _ h => h) (Or.inl ⟨by rfl, ?_⟩) ?_ ?_
          rotate_left
          · intro w'
            go_simp
            with_reducible rfl
          rotate_left
          · simp only [Act.put, List.setIfInBounds_toArray, List.set_cons_zero, List.set_cons_succ, i64_w, i32_w]
            rfl
          refine pure_ (i := 17) (N := some 58) (v := ?_) (a' := ?_) #[true, true, true, true, true, true, true, true, true, true, true, true, true, true, true, true, true, true, false, false, false] rfl rfl (by kernel_rfl) (fun _ _ _ h => h) (Or.inl ⟨by rfl, ?_⟩) ?_ ?_
          rotate_left
          · intro w'
            go_simp
            with_reducible rfl
          rotate_left
          · simp only [Act.put, List.setIfInBounds_toArray, List.set_cons_zero, List.set_cons_succ, i64_w, i32_w]
            rfl
          refine pure_ (i := 18) (N := some 59) (v := ?_) (a' := ?_) #[true, true, true, true, true, true, true, true, true, true, true, true, true, true, true, true, true, true, true, false, false] rfl rfl (by kernel_rfl) (fun _ _ _ h => h) (Or.inl ⟨by rfl, ?_⟩) ?_ ?_
          rotate_left
          · intro w'
            go_simp
            with_reducible rfl
          rotate_left
          · simp only [Act.put, List.setIfInBounds_toArray, List.set_cons_zero, List.set_cons_succ, i64_w, i32_w]
            rfl
          refine pure_ (i := 19) (N := some 9) (v := ?_) (a' := ?_) #[true, true, true, true, true, true, true, true, true, true, true, true, true, true, true, true, true, true, true, true, false] rfl rfl (by kernel_rfl) (fun _ _ _ h => h) (Or.inl ⟨by rfl, ?_⟩) ?_ ?_
          rotate_left
          · intro w'
            go_simp
            with_reducible rfl
          rotate_left
          · simp only [Act.put, List.setIfInBounds_toArray, List.set_cons_zero, List.set_cons_succ, i64_w, i32_w]
            rfl
          refine pure_ (i := 20) (N := some 10) (v := ?_) (a' := ?_) #[true, true, true, true, true, true, true, true, true, true, true, true, true, true, true, true, true, true, true, true, true] rfl rfl (by kernel_rfl) (fun _ _ _ h => h) (Or.inl ⟨by rfl, ?_⟩) ?_ ?_
          rotate_left
          · intro w'
            go_simp
            with_reducible rfl
          rotate_left
          · simp only [Act.put, List.setIfInBounds_toArray, List.set_cons_zero, List.set_cons_succ, i64_w, i32_w]
            rfl
          refine done_ (by kernel_rfl) ?_
          clear q0 q1 q2 q3 q4 q5 hi1 hi2 hi3 hi4 hHeld HNEW
          have HBR : Aside0 (Below w2.heap.size w2 w5) := ⟨below_step B8.out (below_step (Below.refl _ _).drew HB5.out)⟩
          have HBW : Aside0 (Below w.heap.size w w5) := ⟨below_step HW2.out HBR.out⟩
          have HP5 := Aside0.mk hp
          have HBQ : Aside0 (Below w4.heap.size w4 w5) := ⟨below_step (Below.refl _ _).drew HB5.out⟩
          clear hp hb5
          go_wp2_with fail
          refine (rnewQ w5 na nl s lo hi A2 kept c2 (by have := HSP.out.len; unfold maxLen; omega) HSP.out.na0 HSP.out.na1 HSP.out.lo0 HSP.out.lo1 HSP.out.hi0 HSP.out.hi1 (HCX.out _ HBR.out) HSP.out.W).mono ?_
          rintro e_ w6 ⟨vr, rfl, hr, b6⟩
          rw [← HE.out] at hr ⊢
          have HBX := Aside0.mk (below_step HBW.out b6)
          have hrm : Row w6 w2.heap.size (.slice (some ⟨g6, 0, none⟩) (kept.length + 70) c6) (kept ++ mks 70) := (HR8.out.below HBQ.out).below b6
          have hwa : Row w6 _ (.slice A8 (kept.length + 70) c8) (kept ++ mks 70) := (O8.out.below HBQ.out).below b6
          have hlj : (kept ++ mks 70).length = kept.length + 70 := by rw [List.length_append, mks_len]
          rw [← hlj] at hrm hwa
          obtain ⟨_, _, e1, hc1, hC1⟩ := hrm.C
          injection e1 with e1 _ e3
          subst e1 e3
          obtain ⟨_, _, e1, hc2, hC2⟩ := hwa.C
          injection e1 with e1 _ e3
          subst e1 e3
          have HSAME := Aside0.mk (weftlaw10_same.calls ((kept ++ mks 70).length + 1) _ _ (kept ++ mks 70) _ _ (kept ++ mks 70) _ w6 hC1 hc1 hC2 hc2 (same_all (by rw [hlj]; have := HLEN.out; omega) (by omega)))
          rw [hlj, decide_eq_true rfl] at HSAME
          have hnn : (vp = .pointer none ∧ vr = .pointer none) ∨ ∃ p q, vp = .pointer (some ⟨p, 0, none⟩) ∧ vr = .pointer (some ⟨q, 0, none⟩) := by
            rcases HP5.out with ⟨h1, h2⟩ | ⟨h1, _, b, F, h2, _⟩
            · rcases hr with ⟨_, h4⟩ | ⟨h3, _⟩
              · exact .inl ⟨h2, h4⟩
              · exact absurd h3 h1
            · rcases hr with ⟨h3, _⟩ | ⟨_, q, _, _, h4, _⟩
              · exact absurd h1 h3
              · exact .inr ⟨b, q, h2, h4⟩
          clear hr b6 hrm hwa hc1 hC1 hc2 hC2 HP5 hlj
          rcases hnn with ⟨rfl, rfl⟩ | ⟨p_, q_, rfl, rfl⟩
          · skip
            go_wp2_with fail
            refine HSAME.out.mono ?_
            rintro e_ w7 ⟨rfl, hb7⟩
            have HB7 := Aside0.mk (below_step HBX.out hb7.below)
            clear hb7 HSAME
            go_wp2_with fail
            go_roundg gk
            case measure => omega
            case rel => exact ⟨i + 1, rfl, by have := HIN.out; omega, HB7⟩
          · skip
            go_wp2_with fail
            refine HSAME.out.mono ?_
            rintro e_ w7 ⟨rfl, hb7⟩
            have HB7 := Aside0.mk (below_step HBX.out hb7.below)
            clear hb7 HSAME
            go_wp2_with fail
            go_roundg gk
            case measure => omega
            case rel => exact ⟨i + 1, rfl, by have := HIN.out; omega, HB7⟩
theorem news_all {w : World} {A0 : Option Addr} {sp : List S30} {c0 : Nat} (h : RowOf W30 56 sp) (hl : sp.length ≤ c0) (hC : Kd.C k30 w A0 sp.length sp) : Calls Try.prog 3 #[.slice A0 sp.length c0] w fun e w' => e = .returned (.bool true) ∧ Below w.heap.size w w' :=
  news_law w A0 sp c0 hC (by have := h.2.1; omega) (fun x hx => h.2.2 x hx)
end Go.Proofs.Ytebnlhjakiipjaa.Pl
