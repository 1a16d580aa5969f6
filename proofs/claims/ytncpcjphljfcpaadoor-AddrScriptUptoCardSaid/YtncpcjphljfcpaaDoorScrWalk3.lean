/- The law weftlaw1.AddrScript, walked. Conditions: the tables of strconv and addr.classes, as hypotheses; a script of at most 10^9 steps. -/
import Derived.Test.YtncpcjphljfcpaaDoorScrWalk2
import Derived.Test.YtncpcjphljfcpaaDoorScrWalk1
import Derived.Test.YtncpcjphljfcpaaDoorPScrx0
import Derived.Test.YtncpcjphljfcpaaDoorPScrx10
import Derived.Test.YtncpcjphljfcpaaDoorPScrx11
import Derived.Test.YtncpcjphljfcpaaDoorPScrx6
import Derived.Test.YtncpcjphljfcpaaDoorPScrx7
import Derived.Test.YtncpcjphljfcpaaDoorPScrx9
import Derived.Test.YtncpcjphljfcpaaDoorPScrx3
namespace Go.Proofs.YtncpcjphljfcpaaDoor.PScr
open Go.RowKit Go.Proofs.YtncpcjphljfcpaaDoorW.PrintWords Go.Proofs.YtncpcjphljfcpaaDoorW.PrintLast Go.Proofs.YtncpcjphljfcpaaDoorW.PrintMore
attribute [local go_sem] max2_int min2_int max_two min_two max_three min_three max_four min_four
set_option linter.unusedVariables false
set_option linter.unusedSimpArgs false
section
variable {k : Nat} {w0 w : World} {Bs : Nat} {vA vL vW : Value} {L : List S31} {xs ys : List (List S31)} {o : S45} {Ap : Option Addr} {cp : Nat} {r : StL}
theorem playsT (HS : StS w0 Bs vA vL vW L xs ys w) (hP : Pow w) (hT : Cls w) (hC : Kd.C k31 w Ap o.f5.length o.f5) (hle : o.f5.length ≤ cp) (hLn : L.length ≤ 1000000000) (h : playsF k o L xs ys = some r) :
    Calls Tryd.prog 10 #[.pointer (some ⟨Bs, 0, none⟩), .agg (opCells o Ap cp)] w fun e w' => e = .returned (.bool true) ∧ ∃ vA' vL' vW', StS w0 Bs vA' vL' vW' r.1 r.2.1 r.2.2 w' := by
  by_cases h1 : o.f0 = 1
  · exact plays1 HS hP h1 h
  by_cases h2 : o.f0 = 2
  · exact plays2 HS hP hT h2 h
  by_cases h3 : o.f0 = 3
  · exact plays3 HS h3 h
  by_cases h4 : o.f0 = 4
  · exact plays4 HS hC hle h4 h
  by_cases h5 : o.f0 = 5
  · exact plays5 HS hLn h5 h
  by_cases h6 : o.f0 = 6
  · exact plays6 HS h6 h
  exact plays0 HS (by omega) h
end
def runF (k : Nat) : List S45 → StL → Option StL
  | [], st => some st
  | o :: r, st => if st.1.length ≤ 1000000000 then (playsF k o st.1 st.2.1 st.2.2).bind (runF k r) else none
def endF (k : Nat) : List (List S31) → List (List S31) → Option Bool
  | [], _ => some true
  | x :: xs, y :: ys => (weftlaw1_same.f k x y).bind fun s => if s = true then endF k xs ys else none
  | _ :: _, [] => none
def weftlaw1_AddrScript.f (k : Nat) (l0 : List S45) : Option Bool :=
  (weftlaw1_begun.f k).bind fun t => if t = true then (runF k l0 ([], [], [])).bind fun st => if st.2.1.length ≤ 1000000000 then endF k st.2.1 st.2.2 else none else none
def rdOp (l : List S45) (i : Nat) : S45 := rd_T45 l i
theorem runF_at {k : Nat} {l0 : List S45} {i : Nat} {st st1 : StL} (hi : i < l0.length) (h : runF k (l0.drop i) st = some st1) :
    st.1.length ≤ 1000000000 ∧ ∃ st2, playsF k (rdOp l0 i) st.1 st.2.1 st.2.2 = some st2 ∧ runF k (l0.drop (i + 1)) st2 = some st1 := by
  rw [List.drop_eq_getElem_cons hi] at h
  have hr : rdOp l0 i = l0[i] := by simp [rdOp, rd_T45, List.getD_eq_getElem?_getD, hi]
  rw [hr]
  obtain ⟨h1, h2⟩ := if_someS h
  obtain ⟨st2, h3, h4⟩ := Option.bind_eq_some_iff.1 h2
  exact ⟨h1, st2, h3, h4⟩
theorem endF_at {k : Nat} : ∀ {xs ys : List (List S31)} {i : Nat}, i < xs.length → endF k (xs.drop i) (ys.drop i) = some true → i < ys.length ∧ weftlaw1_same.f k (xs.getD i []) (ys.getD i []) = some true ∧ endF k (xs.drop (i + 1)) (ys.drop (i + 1)) = some true := by
  intro xs ys i hi h
  by_cases hj : i < ys.length
  · rw [List.drop_eq_getElem_cons hi, List.drop_eq_getElem_cons hj] at h
    obtain ⟨s, h1, h2⟩ := Option.bind_eq_some_iff.1 h
    obtain ⟨hs, h3⟩ := if_someS h2
    subst hs
    have e1 : xs.getD i [] = xs[i] := by simp [List.getD_eq_getElem?_getD, hi]
    have e2 : ys.getD i [] = ys[i] := by simp [List.getD_eq_getElem?_getD, hj]
    rw [e1, e2]
    exact ⟨hj, h1, h3⟩
  · rw [List.drop_eq_getElem_cons hi, show ys.drop i = [] from List.drop_eq_nil_of_le (by omega)] at h
    cases h
theorem at_LL {w : World} {A : Option Addr} {n i : Nat} {xs : List (List S31)} (h : Kd.C (Kd.slice 31 k31) w A n xs) (hi : i < n) : ∃ ad A0 c0, A = some ad ∧ w.cell? (ad.add i) = some (.slice A0 (xs.getD i []).length c0) ∧ (xs.getD i []).length ≤ c0 ∧ k31.C w A0 (xs.getD i []).length (xs.getD i []) := by
  obtain ⟨ad, c, e, _, hK, hc0⟩ := Kd.C_get h ([] : List S31) (i : Int) (by omega) (by omega)
  have hc : ∀ j u, c[j]? = some u → w.cell? (ad.add ((i : Int).toNat * 1 + j)) = some u := hc0
  obtain ⟨A0, c0, rfl, l0, g0⟩ := hK
  exact ⟨ad, A0, c0, e, by have hq := hc 0 _ rfl; rwa [Nat.mul_one, Nat.add_zero, Int.toNat_natCast] at hq, l0, g0⟩
theorem scriptF_parts {k : Nat} {l0 : List S45} {r : Bool} (h : weftlaw1_AddrScript.f k l0 = some r) : ∃ st, weftlaw1_begun.f k = some true ∧ runF k l0 ([], [], []) = some st ∧ st.2.1.length ≤ 1000000000 ∧ endF k st.2.1 st.2.2 = some r := by
  obtain ⟨t, h1, h2⟩ := Option.bind_eq_some_iff.1 h
  obtain ⟨ht, h3⟩ := if_someS h2
  subst ht
  obtain ⟨st, h4, h5⟩ := Option.bind_eq_some_iff.1 h3
  obtain ⟨h6, h7⟩ := if_someS h5
  exact ⟨st, h1, h4, h6, h7⟩
theorem endF_true {k : Nat} : ∀ {xs ys : List (List S31)} {r : Bool}, endF k xs ys = some r → r = true
  | [], _, _, h => (Option.some.inj h).symm
  | _ :: _, [], _, h => by cases h
  | x :: xs, y :: ys, _, h => by
    obtain ⟨s, h1, h2⟩ := Option.bind_eq_some_iff.1 h
    obtain ⟨hs, h3⟩ := if_someS h2
    exact endF_true h3
set_option maxHeartbeats 16000000 in
set_option maxRecDepth 100000 in
theorem weftlaw1_AddrScript.calls (k : Nat) (A0 : Option Addr) (c0 : Nat) (l0 : List S45) (r : Bool) (w : World) (hP : Pow w) (hT : Cls w) (hr0 : Kd.C k45 w A0 l0.length l0) (hc0 : l0.length ≤ c0) (hM : l0.length ≤ 1000000000) (h : weftlaw1_AddrScript.f k l0 = some r) :
    Calls Tryd.prog 5 #[.slice A0 l0.length c0] w fun e w' => e = .returned (.bool r) ∧ Below w.heap.size w w' := by
  obtain ⟨st, h1, h2, h3, h4⟩ := scriptF_parts h
  obtain rfl := endF_true h4
  have H1 := Aside0.mk h1
  have H2 := Aside0.mk h2
  have H3 := Aside0.mk h3
  have H4 := Aside0.mk h4
  have HP := Aside0.mk hP
  have HT := Aside0.mk hT
  have HR := Aside0.mk hr0
  have HMM := Aside0.mk hM
  clear h h1 h2 h3 h4 hP hT hr0 hM
  go_enter Tryd.func5, Tryd.ntmps5
  go_wp2_with (go_at_call 6; refine (weftlaw1_begun.calls k true _ H1.out).mono ?_; rintro e_ w1 ⟨rfl, ⟨nd, rfl⟩⟩)
  have HS0 : StS w (w.drewN nd).heap.size (.slice none 0 0) (.slice none 0 0) (.slice none 0 0) [] [] [] ((w.drewN nd).alloc (.cells #[.slice none 0 0, .slice none 0 0, .slice none 0 0] 42 (0, 0))) :=
    ⟨blk_new _ _, Nat.le_refl _, Kd.R_nil _ _ _ _ _, Kd.R_nil _ _ _ _ _, Kd.R_nil _ _ _ _ _, below_alloc (pw_below_drewN (Below.refl _ _) nd) _⟩
  have HS0' : Aside0 (StS w w.heap.size (.slice none 0 0) (.slice none 0 0) (.slice none 0 0) [] [] [] ((w.drewN nd).alloc (.cells #[.slice none 0 0, .slice none 0 0, .slice none 0 0] 42 (0, 0)))) := ⟨HS0⟩
  clear HS0
  go_loopw [3, 5] (fun v3 v5 wr => ∃ (i : Nat) (s : StL) (vA vL vW : Value), v3 = .bool true ∧ v5 = .int .i64 i ∧ i ≤ l0.length ∧ Aside0 (StS w w.heap.size vA vL vW s.1 s.2.1 s.2.2 wr) ∧ Aside0 (runF k (l0.drop i) s = some st)) (fun _ v5 _ => l0.length - (intOf v5).toNat)
  case atStart => exact ⟨0, ([], [], []), _, _, _, rfl, rfl, Nat.zero_le _, HS0', H2⟩
  case round =>
    clear HS0' H2
    obtain ⟨i, s, vA, vL, vW, rfl, rfl, hi, HS, HF⟩ := hrel
    have hw1 : wrap64 ((i : Int) + 1) = ((i + 1 : Nat) : Int) := by unfold wrap64; have := HMM.out; omega
    by_cases hlt : i < l0.length
    · obtain ⟨hsl, st2, hp, hf⟩ := runF_at hlt HF.out
      have HF2 := Aside0.mk hf
      obtain ⟨ad, A13, c13, e0, q0, q1, q2, q3, q4, q5, q6, q7, q8, q9, q10, q11, q12, q13, q14, hle, hC⟩ := at_T45 HR.out (i : Int) (by omega) (by omega)
      subst e0
      simp only [Int.toNat_natCast] at q0 q1 q2 q3 q4 q5 q6 q7 q8 q9 q10 q11 q12 q13 q14
      have mv : ∀ {a : Addr} {v : Value}, w.cell? a = some v → wr.cell? a = some v := fun hc => (HS.out.bel.cell (World.block_lt_of_cell? w _ hc)).trans hc
      replace q0 := mv q0
      replace q1 := mv q1
      replace q2 := mv q2
      replace q3 := mv q3
      replace q4 := mv q4
      replace q5 := mv q5
      replace q6 := mv q6
      replace q7 := mv q7
      replace q8 := mv q8
      replace q9 := mv q9
      replace q10 := mv q10
      replace q11 := mv q11
      replace q12 := mv q12
      replace q13 := mv q13
      replace q14 := mv q14
      clear mv
      have hpl := playsT (Ap := A13) (cp := c13) HS.out (HP.out.on HS.out.bel) (HT.out.on HS.out.bel) (Kd.C_below hC HS.out.bel) hle hsl hp
      unfold opCells at hpl
      try unfold rdOp at hpl
      have HPL := Aside0.mk hpl
      clear hpl hp hf hsl hC hle HF
      go_wp2_with (go_at_call 10; (with_reducible refine HPL.out.mono ?_); rintro e_ w2 ⟨rfl, vA2, vL2, vW2, hs2⟩
                   have HS2 := Aside0.mk hs2
                   clear hs2)
      go_roundw
      case rel => exact ⟨i + 1, st2, _, _, _, rfl, by rw [hw1], by omega, HS2, HF2⟩
      case measure => rw [hw1]; exact meas_up hlt
    · obtain rfl : i = l0.length := by omega
      have hF := HF.out
      rw [List.drop_length] at hF
      obtain rfl := Option.some.inj hF
      clear hF HF
      obtain ⟨inl, hol⟩ := Kd.R_own HS.out.ls
      obtain ⟨AL, cL, hvl⟩ := own_slice hol
      subst hvl
      obtain ⟨inw, how⟩ := Kd.R_own HS.out.ws
      obtain ⟨AW, cW, hvw⟩ := own_slice how
      subst hvw
      have kL0 := HS.out.cellL
      clear hol how
      go_wp2
      clear kL0
      go_loopw [3, 6] (fun v3 v6 w2 => ∃ (j : Nat), v3 = .bool true ∧ v6 = .int .i64 j ∧ j ≤ s.2.1.length ∧ Aside0 (StS w w.heap.size vA (.slice AL s.2.1.length cL) (.slice AW s.2.2.length cW) s.1 s.2.1 s.2.2 w2) ∧ Aside0 (endF k (s.2.1.drop j) (s.2.2.drop j) = some true)) (fun _ v6 _ => s.2.1.length - (intOf v6).toNat)
      case atStart => exact ⟨0, rfl, rfl, Nat.zero_le _, HS, H4⟩
      case round =>
        clear HS H4
        obtain ⟨j, rfl, rfl, hj, HS, HE⟩ := hrel
        have kL := HS.out.cellL
        have kW := HS.out.cellW
        have hw2 : wrap64 ((j : Int) + 1) = ((j + 1 : Nat) : Int) := by unfold wrap64; have := H3.out; omega
        by_cases hlt : j < s.2.1.length
        · obtain ⟨hjw, hsm, hen⟩ := endF_at hlt HE.out
          obtain ⟨ad, A1, c1, e0, x0, x1, x2⟩ := at_LL (Kd.R_reads' HS.out.ls).2.2 hlt
          subst e0
          obtain ⟨bd, A2, c2, e0, y0, y1, y2⟩ := at_LL (Kd.R_reads' HS.out.ws).2.2 hjw
          subst e0
          have HEN := Aside0.mk hen
          have E : ∀ q, Calls Tryd.prog 11 #[.slice A1 (s.2.1.getD j []).length c1, .slice A2 (s.2.2.getD j []).length c2] (wr.drewN q) fun e w' => e = .returned (.bool true) ∧ ∃ m, w' = (wr.drewN q).drewN m := fun q =>
            (weftlaw1_same.calls k A1 c1 _ A2 c2 _ true (wr.drewN q) (Kd.C_drewN x2 q) x1 (Kd.C_drewN y2 q) y1 hsm).mono fun _ _ ⟨he, hd⟩ => ⟨he, hd.out⟩
          have E' := Aside0.mk E
          have p0 : (0 : Int) ≤ (j : Int) := by omega
          have p1 : (j : Int) < (s.2.1.length : Int) := by omega
          have p2 : (j : Int) < (s.2.2.length : Int) := by omega
          clear E hsm hen x2 y2 HE hw1
          have HW2 := Aside0.mk hw2
          clear hw2
          generalize s.2.1.getD j [] = e1 at x0 x1 E'
          generalize s.2.2.getD j [] = e2 at y0 y1 E'
          go_wp2
          go_quiet ((go_at_call 11; exact Calls.quiet_of (E'.out _)))
          go_wp2
          go_roundw
          case rel => exact ⟨j + 1, rfl, by rw [HW2.out], by omega, ⟨StS.drewN HS.out _⟩, HEN⟩
          case measure => rw [HW2.out]; exact meas_up hlt
        · obtain rfl : j = s.2.1.length := by omega
          go_wp2
          go_ret
          exact ⟨rfl, HS.out.bel⟩

end Go.Proofs.YtncpcjphljfcpaaDoor.PScr
