/- The document's answer walked: Add. Conditions: the numbers are of their kinds; the address that is come to is free. -/
import Derived.Test.YtgabkifojnkbkaaIpmQ
import Derived.Deep.LoopGhost
import Derived.Deep.RegionLaw
set_option linter.unusedVariables false
set_option linter.unusedSimpArgs false
namespace Go.Proofs.Ytgabkifojnkbkaa.Ip
open Go.RowKit Go.Maps Go.WideMaps Go.MapKept Go.Proofs.YtgabkifojnkbkaaW.PrintWords Go.Proofs.Ytgabkifojnkbkaa.PIpf
set_option maxHeartbeats 8000000 in
set_option maxRecDepth 100000 in
theorem radd_bad (k : Nat) (w : World) (B : Nat) (vp : Value) (R : RfM) (s : ByteArray) (HS : RfS w B vp R) (hok : weftref15_Named.f k s = some false) :
    Calls Try.prog 36 #[.pointer (some ⟨B, 0, none⟩), .string s] w fun e w' => e = .returned (.tuple #[.int .u32 0, .int .i64 150]) ∧ Below w.heap.size w w' := by
  have hn := Aside0.mk (weftref15_Named.calls k s false w hok)
  clear HS
  go_enter Try.func36, Try.ntmps36
  go_wp2_with (first | (go_at_call 52; refine hn.out.mono ?_; rintro e_ w1 ⟨rfl, hb1⟩; have HB1 := Aside0.mk hb1; clear hb1) | go_in)
  go_ret2
  exact ⟨rfl, HB1.out.below⟩
set_option maxHeartbeats 8000000 in
set_option maxRecDepth 100000 in
theorem radd_dup (k : Nat) (w : World) (B : Nat) (vp : Value) (R : RfM) (s : ByteArray) (HS : RfS w B vp R) (hok : weftref15_Named.f k s = some true) (hl : R.pods.length ≤ 1024) (hd : 0 ≤ atF R.pods s) :
    Calls Try.prog 36 #[.pointer (some ⟨B, 0, none⟩), .string s] w fun e w' => e = .returned (.tuple #[.int .u32 0, .int .i64 5]) ∧ Below w.heap.size w w' := by
  have hn := Aside0.mk (weftref15_Named.calls k s true w hok)
  have hc := Aside0.mk (fun w1 (hb : Drawn0 w w1) => rat w1 B vp R s hl (HS.below hb.below))
  clear HS
  generalize atF R.pods s = x at *
  go_enter Try.func36, Try.ntmps36
  go_wp2_with (first | (go_at_call 52; refine hn.out.mono ?_; rintro e_ w1 ⟨rfl, hb1⟩; have HB1 := Aside0.mk hb1; clear hb1) | (go_at_call 53; refine (hc.out _ HB1.out).mono ?_; rintro e_ w2 ⟨rfl, rfl⟩) | go_in)
  go_ret2
  exact ⟨rfl, HB1.out.below⟩
set_option maxHeartbeats 8000000 in
set_option maxRecDepth 100000 in
theorem radd_full (k : Nat) (w : World) (B : Nat) (vp : Value) (R : RfM) (s : ByteArray) (HS : RfS w B vp R) (hok : weftref15_Named.f k s = some true) (hl : R.pods.length ≤ 1024) (hd : atF R.pods s = -1) (hs0 : 0 ≤ R.size) (hs1 : R.size ≤ 4294967296) (hf : R.pods.length ≥ 1024 ∨ (R.pods.length : Int) ≥ R.size - 3) :
    Calls Try.prog 36 #[.pointer (some ⟨B, 0, none⟩), .string s] w fun e w' => e = .returned (.tuple #[.int .u32 0, .int .i64 4]) ∧ Below w.heap.size w w' := by
  have hn := Aside0.mk (weftref15_Named.calls k s true w hok)
  have hc := Aside0.mk (fun w1 (hb : Drawn0 w w1) => rat w1 B vp R s hl (HS.below hb.below))
  rw [hd] at hc
  obtain ⟨Ap, cp, rfl⟩ := own_slice HS.row
  have HSS := Aside0.mk HS
  clear HS hd
  by_cases h1 : R.pods.length ≥ 1024
  · have h1' : (1024 : Int) ≤ R.pods.length := by omega
    go_enter Try.func36, Try.ntmps36
    go_wp2_with (first | (go_at_call 52; refine hn.out.mono ?_; rintro e_ w1 ⟨rfl, hb1⟩; have HB1 := Aside0.mk hb1; clear hb1) | (go_at_call 53; refine (hc.out _ HB1.out).mono ?_; rintro e_ w2 ⟨rfl, rfl⟩; have HS1 := Aside0.mk (HSS.out.below HB1.out.below); have k1 : w2.cell? ⟨B, 1, none⟩ = some (.int .i64 R.size) := HS1.out.cell 1; have k2 : w2.cell? ⟨B, 2, none⟩ = some (.slice Ap R.pods.length cp) := HS1.out.cell 2) | go_in)
    go_quiet (fail)
    go_wp2
    go_ret2
    exact ⟨rfl, pw_below_drewN HB1.out.below _⟩
  · have h1' : ¬ (1024 : Int) ≤ R.pods.length := by omega
    have h2 : R.size - 3 ≤ (R.pods.length : Int) := by omega
    have hdec : decide ((1024 : Int) ≤ R.pods.length) = false := by simpa using h1'
    go_enter Try.func36, Try.ntmps36
    go_wp2_with (first | (go_at_call 52; refine hn.out.mono ?_; rintro e_ w1 ⟨rfl, hb1⟩; have HB1 := Aside0.mk hb1; clear hb1) | (go_at_call 53; refine (hc.out _ HB1.out).mono ?_; rintro e_ w2 ⟨rfl, rfl⟩; have HS1 := Aside0.mk (HSS.out.below HB1.out.below); have k1 : w2.cell? ⟨B, 1, none⟩ = some (.int .i64 R.size) := HS1.out.cell 1; have k2 : w2.cell? ⟨B, 2, none⟩ = some (.slice Ap R.pods.length cp) := HS1.out.cell 2) | go_in)
    go_quiet (fail)
    go_wp2
    go_ret2
    exact ⟨rfl, pw_below_drewN HB1.out.below _⟩
def rstep (R : RfM) (x : Int) : Int := if x + 1 > R.size - 2 then 2 else x + 1
def rseek (R : RfM) : Nat → Int → Int
  | 0, x => x
  | n + 1, x => if holderF R.pods (R.base + rstep R x) < 0 then rstep R x else rseek R n (rstep R x)
structure RfM.Num (R : RfM) : Prop where
  b : 0 ≤ R.base ∧ R.base + R.size ≤ 4294967296
  s : 4 ≤ R.size
  l : 1 ≤ R.last ∧ R.last ≤ R.size - 2
  p : ∀ p, p ∈ R.pods → 0 ≤ p.2 ∧ p.2 < 4294967296
def raddS (R : RfM) (s : ByteArray) (x : Int) : RfM := { R with last := x, pods := R.pods ++ [(s, R.base + x)] }
theorem wrap64_id {x : Int} (h0 : 0 ≤ x) (h1 : x < 9223372036854775808) : IntKind.i64.wrap x = x := by
  simp [IntKind.wrap, IntKind.bits, IntKind.signed]; omega
theorem wrap32_id {x : Int} (h0 : 0 ≤ x) (h1 : x < 4294967296) : IntKind.u32.wrap x = x := by
  simp [IntKind.wrap, IntKind.bits, IntKind.signed]; omega
/-- append as a step of a region that draws, its run told -/
theorem step_append_run {P : Program} {ops : Array Oper} {o : Oper} {a : Act} {w : World} {K : Act → World → Prop} {Q : Exit → Act → World → Prop} {E : Prop}
    (hg : o.guard = none) (s x : Operand) (t : TypeId) (hop : o.op = Op.call { callee := Callee.builtin Builtin.append, args := #[s, x], argTypes := #[t, t] }) {v1 v2 r : Value} {w1 : World}
    (hs : a.eval s = v1) (hx : a.eval x = v2) (hrun : (Builtin.append_ #[t, t] o.type #[v1, v2]).run P w = .ok r w1) (hK : K (a.put o.dst r) w1) :
    if Region.wanted o (yielded ops a.tmps) = true then Oper.wp P o a w K Q else E := by
  have hw : Region.wanted o (yielded ops a.tmps) = true := by simp [Region.wanted, hg]
  rw [if_pos hw]
  unfold Oper.wp
  simp [execOp, hop, resolve, invoke, builtin, hs, hx, hrun, Result.andThen]
  exact hK
theorem info84 : (Try.prog.info? 84).map (fun i => (i.zero, i.size, i.bytes)) = some (some (.agg #[(.string ⟨#[]⟩), (.int .u32 0)]), 2, 24) := by kernel_rfl
/-- an append to the row of pods, as the region that draws makes it -/
theorem RfS.app {w4 : World} {B : Nat} {A : Option Addr} {cp : Nat} {R : RfM} (h : RfS w4 B (.slice A R.pods.length cp) R) (s : ByteArray) (z : Int) (hl : R.pods.length < 1024) :
    ∃ (A1 : Option Addr) (c1 : Nat) (w5 : World), (Builtin.append_ #[45, 45] 45 #[.slice A R.pods.length cp, .slice (some ⟨w4.heap.size, 0, none⟩) 1 1]).run Try.prog (w4.alloc (.cells #[.string s, .int .u32 z] 84)).drew = .ok (.slice A1 (R.pods.length + 1) c1) w5 ∧
      (w4.alloc (.cells #[.string s, .int .u32 z] 84)).cell? ⟨B, 2, none⟩ = some (.slice A R.pods.length cp) ∧ w5.cell? ⟨B, 2, none⟩ = some (.slice A R.pods.length cp) ∧ w5.frozen? ⟨B, 2, none⟩ = false ∧ w5.cell? ⟨B, 0, none⟩ = some (.int .i64 R.base) ∧
      RfS (w5.setCell ⟨B, 2, none⟩ (.slice A1 (R.pods.length + 1) c1)) B (.slice A1 (R.pods.length + 1) c1) { R with pods := R.pods ++ [(s, z)] } ∧ Turn w4 (w5.setCell ⟨B, 2, none⟩ (.slice A1 (R.pods.length + 1) c1)) (RfF B (.slice A R.pods.length cp)) ∧
      ∀ b, b ∈ RfF B (.slice A1 (R.pods.length + 1) c1) → b ∈ RfF B (.slice A R.pods.length cp) ∨ w4.heap.size ≤ b := by
  obtain ⟨i0, hi, hzz⟩ := Option.map_eq_some_iff.1 info84
  simp only [Prod.mk.injEq] at hzz
  obtain ⟨hz0, hz1, hz2⟩ := hzz
  have hW : (w4.alloc (.cells #[.string s, .int .u32 z] 84)).drew.ownsRow 0 84 2 (.slice A R.pods.length cp) R.pods.length (podCells R.pods) := (h.row.alloc _).drew
  obtain ⟨v', w5, hrun, hown, hg, _, hloc⟩ := run_append_own_at (P := Try.prog) (w4.alloc (.cells #[.string s, .int .u32 z] 84)).drew 0 45 45 84 i0 _ 2 24 Try.underlying45 hi hz0 hz1 hz2 rfl (by omega) (.slice A R.pods.length cp) R.pods.length (podCells R.pods) hW
    ⟨w4.heap.size, 0, none⟩ 1 1 [.string s, .int .u32 z] rfl (World.news_of_block (cs := #[.string s, .int .u32 z]) (t := 84) (fr := (0, 0)) (heap_alloc_new w4 _)) (by intro u hu; simp at hu; rcases hu with rfl | rfl <;> rfl) (by unfold maxLen; omega) (by omega) (Nat.zero_le _)
  have hG : w4.grownBy w5 (Value.slice A R.pods.length cp).ownBlock := World.grownBy.trans (World.grownBy_alloc w4 (.cells #[.string s, .int .u32 z] 84) _) ⟨hg.os, hg.tape, hg.output, hg.size, hg.block⟩
  have hown' : w5.ownsRow 0 84 2 v' (R.pods ++ [(s, z)]).length (podCells (R.pods ++ [(s, z)])) := by
    rw [podCells_append, show podCells [(s, z)] = [.string s, .int .u32 z] from rfl, List.length_append]; exact hown
  obtain ⟨A1, c1, rfl⟩ := own_slice hown'
  have hlen : (R.pods ++ [(s, z)]).length = R.pods.length + 1 := by simp
  rw [hlen] at hrun hown' hloc
  have hb : w5.heap[B]? = some (.cells (RfCells R (.slice A R.pods.length cp)) 93 (0, 0)) := (hG.block B (blk_lt h.blk) h.ne).trans h.blk
  have hneB : ∀ k, (Value.slice A1 (R.pods.length + 1) c1).ownBlock = some k → k ≠ B := fun k hk e => by
    subst e
    rcases hloc with h1 | h1
    · rw [hk] at h1; exact h.ne h1
    · rw [hk] at h1; injection h1 with h1; have := blk_lt h.blk; simp at h1; omega
  refine ⟨A1, c1, w5, hrun, (blk_cell (blk_alloc h.blk _) 2), blk_cell hb 2, blk_frozen hb 2, blk_cell hb 0, ⟨blk_put hb 2 _ rfl, ?_⟩, ((Turn.refl w4 _).grown hG (fun b hb => Or.inl (by simp [RfF, hb]))).set (Or.inl (by simp [RfF])) _, fun b hb => ?_⟩
  · show World.ownsRow _ 0 84 2 _ (R.pods ++ [(s, z)]).length _
    rw [hlen]
    exact row_step hown' (fun k hk => Below.heap_setCell w5 ⟨B, 2, none⟩ _ k (hneB k hk))
  · simp only [RfF, List.mem_cons, Option.mem_toList, Option.mem_def] at hb ⊢
    rcases hb with hb | hb
    · exact .inl (.inl hb)
    · rcases hloc with h1 | h1
      · rw [h1] at hb; exact .inl (.inr hb)
      · rw [h1] at hb; injection hb with hb; right; simp at hb; omega
theorem RfS.last_ {w : World} {B : Nat} {vp : Value} {R : RfM} (h : RfS w B vp R) (x : Int) : RfS (w.setCell ⟨B, 3, none⟩ (.int .i64 x)) B vp { R with last := x } :=
  ⟨blk_put h.blk 3 _ rfl, row_step h.row (fun k hk => Below.heap_setCell _ _ _ k (fun e => h.ne (by rw [hk, e])))⟩
set_option maxHeartbeats 16000000 in
set_option maxRecDepth 100000 in
theorem radd_ok (k : Nat) (w : World) (B : Nat) (vp : Value) (R : RfM) (s : ByteArray) (HS : RfS w B vp R) (hok : weftref15_Named.f k s = some true) (hnum : R.Num) (hl : R.pods.length < 1024) (hd : atF R.pods s = -1) (hf : (R.pods.length : Int) < R.size - 3) (n : Nat) (hn1 : 1 ≤ n) (y : Int) (hy : rseek R n R.last = y) (hfree : holderF R.pods (R.base + y) < 0) :
    Calls Try.prog 36 #[.pointer (some ⟨B, 0, none⟩), .string s] w fun e w' => e = .returned (.tuple #[.int .u32 (R.base + y), .int .i64 0]) ∧ ∃ vp', RfS w' B vp' (raddS R s y) ∧ Turn w w' (RfF B vp) ∧ ∀ b, b ∈ RfF B vp' → b ∈ RfF B vp ∨ w.heap.size ≤ b := by
  have hn := Aside0.mk (weftref15_Named.calls k s true w hok)
  have hc := Aside0.mk (fun w1 (hb : Drawn0 w w1) => rat w1 B vp R s (by omega) (HS.below hb.below))
  rw [hd] at hc
  obtain ⟨Ap, cp, rfl⟩ := own_slice HS.row
  have HSS := Aside0.mk HS
  have HNUM := Aside0.mk hnum
  have HFREE := Aside0.mk hfree
  have HY := Aside0.mk hy
  clear HS hd hfree hy
  obtain ⟨hb0, hb1⟩ := hnum.b
  obtain ⟨hl0, hl1⟩ := hnum.l
  have hs4 := hnum.s
  clear hnum
  have h1' : ¬ (1024 : Int) ≤ R.pods.length := by omega
  have hdec : decide ((1024 : Int) ≤ R.pods.length) = false := by simpa using h1'
  go_enter Try.func36, Try.ntmps36
  go_wp2_with (first | (go_at_call 52; refine hn.out.mono ?_; rintro e_ w1 ⟨rfl, hb1⟩; have HB1 := Aside0.mk hb1; clear hb1) | (go_at_call 53; refine (hc.out _ HB1.out).mono ?_; rintro e_ w2 ⟨rfl, rfl⟩; have HS1 := Aside0.mk (HSS.out.below HB1.out.below); have k1 : w2.cell? ⟨B, 1, none⟩ = some (.int .i64 R.size) := HS1.out.cell 1; have k2 : w2.cell? ⟨B, 2, none⟩ = some (.slice Ap R.pods.length cp) := HS1.out.cell 2) | go_in)
  go_quiet (fail)
  generalize hw3 : w2.drewN nq = w3
  have HS3 := Aside0.mk (show RfS w3 B (.slice Ap R.pods.length cp) R from hw3 ▸ HS1.out.drewN nq)
  have HB3 := Aside0.mk (show Below w.heap.size w w3 from hw3 ▸ pw_below_drewN HB1.out.below nq)
  have k0 : w3.cell? ⟨B, 0, none⟩ = some (.int .i64 R.base) := HS3.out.cell 0
  have k1' : w3.cell? ⟨B, 1, none⟩ = some (.int .i64 R.size) := HS3.out.cell 1
  have k3 : w3.cell? ⟨B, 3, none⟩ = some (.int .i64 R.last) := HS3.out.cell 3
  clear hw3 k1 k2
  go_wp2
  have HH := Aside0.mk (fun a => rholder w3 B _ R a (by omega) HNUM.out.p HS3.out)
  go_loopg [6] n (fun kq v6 w' => ∃ (x : Int), v6 = .int .i64 x ∧ w' = w3 ∧ 1 ≤ kq ∧ 1 ≤ x ∧ x ≤ R.size - 2 ∧ Aside0 (rseek R kq x = y))
  case atStart => exact ⟨R.last, rfl, rfl, hn1, hl0, hl1, HY⟩
  case round =>
    obtain ⟨x, rfl, rfl, hk1, hx0, hx1, HK⟩ := hrel
    obtain ⟨m, rfl⟩ : ∃ m, gk = m + 1 := ⟨gk - 1, by omega⟩
    have hsk : rseek R (m + 1) x = if holderF R.pods (R.base + rstep R x) < 0 then rstep R x else rseek R m (rstep R x) := rfl
    have HSK := Aside0.mk hsk
    clear hsk hk1
    by_cases hgt : x + 1 > R.size - 2
    · have hst : rstep R x = 2 := by unfold rstep; rw [if_pos hgt]
      rw [hst] at HSK
      clear hst
      by_cases hh : holderF R.pods (R.base + (2)) < 0
      · have hyy : 2 = y := by rw [← HK.out, HSK.out, if_pos hh]
        have HYY := Aside0.mk hyy
        have HHH := Aside0.mk hh
        have HC := Aside0.mk (HH.out (R.base + (2)))
        have f3 := blk_frozen HS3.out.blk 3
        generalize hx3 : holderF R.pods (R.base + (2)) = hx4 at hh HC
        clear hyy HK HSK HH HNUM HFREE HY hx3
        go_wp2_with (first | (go_at_call 54; refine HC.out.mono ?_; rintro e_ w5 ⟨rfl, rfl⟩) | go_in)
        have HS4 := HS3.out.last_ (2)
        have HT4 := (Turn.of_below HB3.out (RfF B (.slice Ap R.pods.length cp))).set (p := ⟨B, 3, none⟩) (Or.inl (by simp [RfF])) (.int .i64 (2))
        generalize w5.setCell ⟨B, 3, none⟩ (.int .i64 (2)) = w6 at HS4 HT4 ⊢
        have hwr1 : IntKind.i64.wrap (R.base + 2) = R.base + 2 := wrap64_id (by omega) (by omega)
        have hwr2 : IntKind.u32.wrap (R.base + 2) = R.base + 2 := wrap32_id (by omega) (by omega)
        obtain ⟨A1, c1, w7, r1, ka, kb2, fb2, kb0, he, ht, hff⟩ := RfS.app (R := { R with last := 2 }) HS4 s (R.base + (2)) hl
        have k0' : w6.cell? ⟨B, 0, none⟩ = some (.int .i64 R.base) := HS4.cell 0
        have k2' : w6.cell? ⟨B, 2, none⟩ = some (.slice Ap R.pods.length cp) := HS4.cell 2
        have HE := Aside0.mk he
        have HT := Aside0.mk (HT4.trans ht (fun b hb => Or.inl hb))
        have HFF := Aside0.mk hff
        have HSZ := Aside0.mk HT4.size
        clear he ht hff HS4 HT4 k0 k1' k3 f3
        have R1 := Aside0.mk r1
        clear r1
        go_region_law (refine step_append_run rfl (.tmp 63) (.tmp 73) 45 rfl (by rfl) (by rfl) R1.out ?_)
        all_goals
          go_wp2
          go_ret2
          have hy := HYY.out
          subst hy
          exact ⟨rfl, _, HE.out, HT.out, fun b hb => (HFF.out b hb).imp id (fun h => Nat.le_trans HSZ.out h)⟩
      · have hm : 1 ≤ m := by
          rcases Nat.eq_zero_or_pos m with h0 | h0
          · exfalso
            have h1 := HSK.out
            rw [if_neg hh, h0, rseek] at h1
            have h2 := HK.out
            rw [h0, h1] at h2
            rw [h2] at hh
            exact hh HFREE.out
          · exact h0
        have hnx : rseek R m (2) = y := by rw [← HK.out, HSK.out, if_neg hh]
        have HNX := Aside0.mk hnx
        have HC := Aside0.mk (HH.out (R.base + (2)))
        generalize hx3 : holderF R.pods (R.base + (2)) = hx4 at hh HC
        clear hnx HK HSK HH HNUM HFREE HY hx3
        go_wp2_with (first | (go_at_call 54; refine HC.out.mono ?_; rintro e_ w5 ⟨rfl, rfl⟩) | go_in)
        go_roundg m
        case rel => exact ⟨2, rfl, rfl, hm, by omega, by omega, HNX⟩
        case measure => omega
    · have hst : rstep R x = x + 1 := by unfold rstep; rw [if_neg hgt]
      rw [hst] at HSK
      clear hst
      by_cases hh : holderF R.pods (R.base + (x + 1)) < 0
      · have hyy : x + 1 = y := by rw [← HK.out, HSK.out, if_pos hh]
        have HYY := Aside0.mk hyy
        have HHH := Aside0.mk hh
        have HC := Aside0.mk (HH.out (R.base + (x + 1)))
        have f3 := blk_frozen HS3.out.blk 3
        generalize hx3 : holderF R.pods (R.base + (x + 1)) = hx4 at hh HC
        clear hyy HK HSK HH HNUM HFREE HY hx3
        go_wp2_with (first | (go_at_call 54; refine HC.out.mono ?_; rintro e_ w5 ⟨rfl, rfl⟩) | go_in)
        have HS4 := HS3.out.last_ (x + 1)
        have HT4 := (Turn.of_below HB3.out (RfF B (.slice Ap R.pods.length cp))).set (p := ⟨B, 3, none⟩) (Or.inl (by simp [RfF])) (.int .i64 (x + 1))
        generalize w5.setCell ⟨B, 3, none⟩ (.int .i64 (x + 1)) = w6 at HS4 HT4 ⊢
        have hwr1 : IntKind.i64.wrap (R.base + (x + 1)) = R.base + (x + 1) := wrap64_id (by omega) (by omega)
        have hwr2 : IntKind.u32.wrap (R.base + (x + 1)) = R.base + (x + 1) := wrap32_id (by omega) (by omega)
        obtain ⟨A1, c1, w7, r1, ka, kb2, fb2, kb0, he, ht, hff⟩ := RfS.app (R := { R with last := x + 1 }) HS4 s (R.base + (x + 1)) hl
        have k0' : w6.cell? ⟨B, 0, none⟩ = some (.int .i64 R.base) := HS4.cell 0
        have k2' : w6.cell? ⟨B, 2, none⟩ = some (.slice Ap R.pods.length cp) := HS4.cell 2
        have HE := Aside0.mk he
        have HT := Aside0.mk (HT4.trans ht (fun b hb => Or.inl hb))
        have HFF := Aside0.mk hff
        have HSZ := Aside0.mk HT4.size
        clear he ht hff HS4 HT4 k0 k1' k3 f3
        have R1 := Aside0.mk r1
        clear r1
        go_region_law (refine step_append_run rfl (.tmp 63) (.tmp 73) 45 rfl (by rfl) (by rfl) R1.out ?_)
        all_goals
          go_wp2
          go_ret2
          have hy := HYY.out
          subst hy
          exact ⟨rfl, _, HE.out, HT.out, fun b hb => (HFF.out b hb).imp id (fun h => Nat.le_trans HSZ.out h)⟩
      · have hm : 1 ≤ m := by
          rcases Nat.eq_zero_or_pos m with h0 | h0
          · exfalso
            have h1 := HSK.out
            rw [if_neg hh, h0, rseek] at h1
            have h2 := HK.out
            rw [h0, h1] at h2
            rw [h2] at hh
            exact hh HFREE.out
          · exact h0
        have hnx : rseek R m (x + 1) = y := by rw [← HK.out, HSK.out, if_neg hh]
        have HNX := Aside0.mk hnx
        have HC := Aside0.mk (HH.out (R.base + (x + 1)))
        generalize hx3 : holderF R.pods (R.base + (x + 1)) = hx4 at hh HC
        clear hnx HK HSK HH HNUM HFREE HY hx3
        go_wp2_with (first | (go_at_call 54; refine HC.out.mono ?_; rintro e_ w5 ⟨rfl, rfl⟩) | go_in)
        go_roundg m
        case rel => exact ⟨x + 1, rfl, rfl, hm, by omega, by omega, HNX⟩
        case measure => omega
end Go.Proofs.Ytgabkifojnkbkaa.Ip
