-- written by xp.sh, a program of this seat's session
import Derived.Test.YtncpcjphljfcpaaPTwox0
import Derived.Test.YtncpcjphljfcpaaPTwox1
import Derived.Test.YtncpcjphljfcpaaPTwox2
import Derived.Test.YtncpcjphljfcpaaPTwox3
import Derived.Test.YtncpcjphljfcpaaPTwox4
import Derived.Test.YtncpcjphljfcpaaPTwox5
import Derived.Test.YtncpcjphljfcpaaPTwox6
namespace Go.Proofs.Ytncpcjphljfcpaa.PTwo
open Go.RowKit Go.Proofs.YtncpcjphljfcpaaW.PrintWords Go.Proofs.YtncpcjphljfcpaaW.PrintLast Go.Proofs.YtncpcjphljfcpaaW.PrintMore
attribute [local go_sem] max2_int min2_int max_two min_two max_three min_three max_four min_four   -- for this text's walks alone
set_option linter.unusedVariables false
set_option linter.unusedSimpArgs false

attribute [local go_sem high] eqA32 eqA36
/-! ### weftlaw1_AddrTwoWays: function 5 -/
mutual
def weftlaw1_AddrTwoWays.l0 : Nat → List (S38) → List ByteArray → Int → Option (Bool)
  | 0, _, _, _ => none
  | k + 1, x0, x1, x6 => if x6 < (x0.length : Int) then (if 0 ≤ x6 then ((addr_Format.f k ((rd_T38 x0 x6).f0)).bind fun t149 => ((addr_Parse.f k t149).bind fun bt150 => (if bt150.2 = 0 then (weftlaw1_AddrTwoWays.j1 k x0 x1 x6 (bt150.1 != ((rd_T38 x0 x6).f0)) ((rd_T38 x0 x6).f0) ((rd_T38 x0 x6).f1.f0) ((rd_T38 x0 x6).f1.f1) ((rd_T38 x0 x6).f2.f0) ((rd_T38 x0 x6).f2.f1) ((rd_T38 x0 x6).f2.f2) ((rd_T38 x0 x6).f2.f3) ((rd_T38 x0 x6).f2.f4) ((rd_T38 x0 x6).f2.f5)) else (weftlaw1_AddrTwoWays.j1 k x0 x1 x6 true ((rd_T38 x0 x6).f0) ((rd_T38 x0 x6).f1.f0) ((rd_T38 x0 x6).f1.f1) ((rd_T38 x0 x6).f2.f0) ((rd_T38 x0 x6).f2.f1) ((rd_T38 x0 x6).f2.f2) ((rd_T38 x0 x6).f2.f3) ((rd_T38 x0 x6).f2.f4) ((rd_T38 x0 x6).f2.f5))))) else (none)) else (weftlaw1_AddrTwoWays.l1 k x1 0)
def weftlaw1_AddrTwoWays.j1 : Nat → List (S38) → List ByteArray → Int → Bool → Int → Int → Int → Int → Int → Int → Int → Int → Int → Option (Bool)
  | 0, _, _, _, _, _, _, _, _, _, _, _, _, _ => none
  | k + 1, x0, x1, x6, x44, x149000, x149001, x149002, x149003, x149004, x149005, x149006, x149007, x149008 => if x44 = true then (some false) else ((addr_FormatMAC.f x149003 x149004 x149005 x149006 x149007 x149008).bind fun t152 => ((addr_ParseMAC.f t152).bind fun bt153 => (if bt153.2.2.2.2.2.2 = 0 then (weftlaw1_AddrTwoWays.j2 k x0 x1 x6 (!(bt153.1 == x149003) || (!(bt153.2.1 == x149004) || (!(bt153.2.2.1 == x149005) || (!(bt153.2.2.2.1 == x149006) || (!(bt153.2.2.2.2.1 == x149007) || (!(bt153.2.2.2.2.2.1 == x149008))))))) x149000 x149001 x149002 x149003 x149004 x149005 x149006 x149007 x149008) else (weftlaw1_AddrTwoWays.j2 k x0 x1 x6 true x149000 x149001 x149002 x149003 x149004 x149005 x149006 x149007 x149008))))
def weftlaw1_AddrTwoWays.j2 : Nat → List (S38) → List ByteArray → Int → Bool → Int → Int → Int → Int → Int → Int → Int → Int → Int → Option (Bool)
  | 0, _, _, _, _, _, _, _, _, _, _, _, _, _ => none
  | k + 1, x0, x1, x6, x60, x149000, x149001, x149002, x149003, x149004, x149005, x149006, x149007, x149008 => if x60 = true then (some false) else ((addr_FormatPrefix.f k x149001 x149002).bind fun bt161 => ((addr_ParsePrefix.f k bt161.1).bind fun bt163 => (if bt161.2 = 0 then (if bt163.2.2 = 0 then (weftlaw1_AddrTwoWays.j3 k x0 x1 x6 bt161.2 (!(bt163.1 == x149001) || (!(bt163.2.1 == x149002))) x149000 x149001 x149002 x149003 x149004 x149005 x149006 x149007 x149008) else (weftlaw1_AddrTwoWays.j3 k x0 x1 x6 bt161.2 true x149000 x149001 x149002 x149003 x149004 x149005 x149006 x149007 x149008)) else (weftlaw1_AddrTwoWays.j3 k x0 x1 x6 bt161.2 false x149000 x149001 x149002 x149003 x149004 x149005 x149006 x149007 x149008))))
def weftlaw1_AddrTwoWays.j3 : Nat → List (S38) → List ByteArray → Int → Int → Bool → Int → Int → Int → Int → Int → Int → Int → Int → Int → Option (Bool)
  | 0, _, _, _, _, _, _, _, _, _, _, _, _, _, _ => none
  | k + 1, x0, x1, x6, x10, x83, x149000, x149001, x149002, x149003, x149004, x149005, x149006, x149007, x149008 => if x83 = true then (some false) else ((addr_Valid.f k x149001 x149002).bind fun t167 => (if (t167 != (x10 == 0)) = true then (some false) else (weftlaw1_AddrTwoWays.l0 k x0 x1 (wrap64 (x6 + 1)))))
def weftlaw1_AddrTwoWays.l1 : Nat → List ByteArray → Int → Option (Bool)
  | 0, _, _ => none
  | k + 1, x1, x15 => if x15 < (x1.length : Int) then (if 0 ≤ x15 then ((weftlaw1_again.f k (rdOf ByteArray.empty x1 x15)).bind fun t169 => (if t169 = true then (weftlaw1_AddrTwoWays.l1 k x1 (wrap64 (x15 + 1))) else (some false))) else (none)) else (some true)
end
def weftlaw1_AddrTwoWays.f (k : Nat) (l0 : List (S38)) (l1 : List ByteArray) : Option (Bool) := (weftlaw1_begun.f k).bind fun t146 => (if t146 = true then (weftlaw1_AddrTwoWays.l0 k l0 l1 0) else (some false))
theorem weftlaw1_AddrTwoWays.mono_l : ∀ k, (∀ y0 y1 y2, LeO (weftlaw1_AddrTwoWays.l0 k y0 y1 y2) (weftlaw1_AddrTwoWays.l0 (k + 1) y0 y1 y2)) ∧ (∀ y0 y1 y2 y3 y4 y5 y6 y7 y8 y9 y10 y11 y12, LeO (weftlaw1_AddrTwoWays.j1 k y0 y1 y2 y3 y4 y5 y6 y7 y8 y9 y10 y11 y12) (weftlaw1_AddrTwoWays.j1 (k + 1) y0 y1 y2 y3 y4 y5 y6 y7 y8 y9 y10 y11 y12)) ∧ (∀ y0 y1 y2 y3 y4 y5 y6 y7 y8 y9 y10 y11 y12, LeO (weftlaw1_AddrTwoWays.j2 k y0 y1 y2 y3 y4 y5 y6 y7 y8 y9 y10 y11 y12) (weftlaw1_AddrTwoWays.j2 (k + 1) y0 y1 y2 y3 y4 y5 y6 y7 y8 y9 y10 y11 y12)) ∧ (∀ y0 y1 y2 y3 y4 y5 y6 y7 y8 y9 y10 y11 y12 y13, LeO (weftlaw1_AddrTwoWays.j3 k y0 y1 y2 y3 y4 y5 y6 y7 y8 y9 y10 y11 y12 y13) (weftlaw1_AddrTwoWays.j3 (k + 1) y0 y1 y2 y3 y4 y5 y6 y7 y8 y9 y10 y11 y12 y13)) ∧ (∀ y0 y1, LeO (weftlaw1_AddrTwoWays.l1 k y0 y1) (weftlaw1_AddrTwoWays.l1 (k + 1) y0 y1))
  | 0 => ⟨fun _ _ _ r h => by simp [weftlaw1_AddrTwoWays.l0] at h, fun _ _ _ _ _ _ _ _ _ _ _ _ _ r h => by simp [weftlaw1_AddrTwoWays.j1] at h, fun _ _ _ _ _ _ _ _ _ _ _ _ _ r h => by simp [weftlaw1_AddrTwoWays.j2] at h, fun _ _ _ _ _ _ _ _ _ _ _ _ _ _ r h => by simp [weftlaw1_AddrTwoWays.j3] at h, fun _ _ r h => by simp [weftlaw1_AddrTwoWays.l1] at h⟩
  | k + 1 => by
    obtain ⟨ih0, ih1, ih2, ih3, ih4⟩ := weftlaw1_AddrTwoWays.mono_l k
    refine ⟨?_, ?_, ?_, ?_, ?_⟩
    · intro y0 y1 y2
      unfold weftlaw1_AddrTwoWays.l0
      repeat' first
      | (with_reducible exact ih0 _ _ _)
      | (with_reducible exact ih1 _ _ _ _ _ _ _ _ _ _ _ _ _)
      | (with_reducible exact ih2 _ _ _ _ _ _ _ _ _ _ _ _ _)
      | (with_reducible exact ih3 _ _ _ _ _ _ _ _ _ _ _ _ _ _)
      | (with_reducible exact ih4 _ _)
      | (with_reducible exact addr_Format.mono _ _)
      | (with_reducible exact addr_FormatPrefix.mono _ _ _)
      | (with_reducible exact addr_Parse.mono _ _)
      | (with_reducible exact addr_ParsePrefix.mono _ _)
      | (with_reducible exact addr_Valid.mono _ _ _)
      | (with_reducible exact weftlaw1_again.mono _ _)
      | (with_reducible exact weftlaw1_begun.mono _)
      | (with_reducible exact LeO.refl _)
      | (with_reducible exact LeO.none _)
      | (with_reducible refine LeO.ite ?_ ?_)
      | (with_reducible refine LeO.bind ?_ (fun _ => ?_))
      | exact ih0 _ _ _
      | exact ih1 _ _ _ _ _ _ _ _ _ _ _ _ _
      | exact ih2 _ _ _ _ _ _ _ _ _ _ _ _ _
      | exact ih3 _ _ _ _ _ _ _ _ _ _ _ _ _ _
      | exact ih4 _ _
      | exact addr_Format.mono _ _
      | exact addr_FormatPrefix.mono _ _ _
      | exact addr_Parse.mono _ _
      | exact addr_ParsePrefix.mono _ _
      | exact addr_Valid.mono _ _ _
      | exact weftlaw1_again.mono _ _
      | exact weftlaw1_begun.mono _
      | exact LeO.none _
      | refine LeO.ite ?_ ?_
      | refine LeO.bind ?_ (fun _ => ?_)
    · intro y0 y1 y2 y3 y4 y5 y6 y7 y8 y9 y10 y11 y12
      unfold weftlaw1_AddrTwoWays.j1
      repeat' first
      | (with_reducible exact ih0 _ _ _)
      | (with_reducible exact ih1 _ _ _ _ _ _ _ _ _ _ _ _ _)
      | (with_reducible exact ih2 _ _ _ _ _ _ _ _ _ _ _ _ _)
      | (with_reducible exact ih3 _ _ _ _ _ _ _ _ _ _ _ _ _ _)
      | (with_reducible exact ih4 _ _)
      | (with_reducible exact addr_Format.mono _ _)
      | (with_reducible exact addr_FormatPrefix.mono _ _ _)
      | (with_reducible exact addr_Parse.mono _ _)
      | (with_reducible exact addr_ParsePrefix.mono _ _)
      | (with_reducible exact addr_Valid.mono _ _ _)
      | (with_reducible exact weftlaw1_again.mono _ _)
      | (with_reducible exact weftlaw1_begun.mono _)
      | (with_reducible exact LeO.refl _)
      | (with_reducible exact LeO.none _)
      | (with_reducible refine LeO.ite ?_ ?_)
      | (with_reducible refine LeO.bind ?_ (fun _ => ?_))
      | exact ih0 _ _ _
      | exact ih1 _ _ _ _ _ _ _ _ _ _ _ _ _
      | exact ih2 _ _ _ _ _ _ _ _ _ _ _ _ _
      | exact ih3 _ _ _ _ _ _ _ _ _ _ _ _ _ _
      | exact ih4 _ _
      | exact addr_Format.mono _ _
      | exact addr_FormatPrefix.mono _ _ _
      | exact addr_Parse.mono _ _
      | exact addr_ParsePrefix.mono _ _
      | exact addr_Valid.mono _ _ _
      | exact weftlaw1_again.mono _ _
      | exact weftlaw1_begun.mono _
      | exact LeO.none _
      | refine LeO.ite ?_ ?_
      | refine LeO.bind ?_ (fun _ => ?_)
    · intro y0 y1 y2 y3 y4 y5 y6 y7 y8 y9 y10 y11 y12
      unfold weftlaw1_AddrTwoWays.j2
      repeat' first
      | (with_reducible exact ih0 _ _ _)
      | (with_reducible exact ih1 _ _ _ _ _ _ _ _ _ _ _ _ _)
      | (with_reducible exact ih2 _ _ _ _ _ _ _ _ _ _ _ _ _)
      | (with_reducible exact ih3 _ _ _ _ _ _ _ _ _ _ _ _ _ _)
      | (with_reducible exact ih4 _ _)
      | (with_reducible exact addr_Format.mono _ _)
      | (with_reducible exact addr_FormatPrefix.mono _ _ _)
      | (with_reducible exact addr_Parse.mono _ _)
      | (with_reducible exact addr_ParsePrefix.mono _ _)
      | (with_reducible exact addr_Valid.mono _ _ _)
      | (with_reducible exact weftlaw1_again.mono _ _)
      | (with_reducible exact weftlaw1_begun.mono _)
      | (with_reducible exact LeO.refl _)
      | (with_reducible exact LeO.none _)
      | (with_reducible refine LeO.ite ?_ ?_)
      | (with_reducible refine LeO.bind ?_ (fun _ => ?_))
      | exact ih0 _ _ _
      | exact ih1 _ _ _ _ _ _ _ _ _ _ _ _ _
      | exact ih2 _ _ _ _ _ _ _ _ _ _ _ _ _
      | exact ih3 _ _ _ _ _ _ _ _ _ _ _ _ _ _
      | exact ih4 _ _
      | exact addr_Format.mono _ _
      | exact addr_FormatPrefix.mono _ _ _
      | exact addr_Parse.mono _ _
      | exact addr_ParsePrefix.mono _ _
      | exact addr_Valid.mono _ _ _
      | exact weftlaw1_again.mono _ _
      | exact weftlaw1_begun.mono _
      | exact LeO.none _
      | refine LeO.ite ?_ ?_
      | refine LeO.bind ?_ (fun _ => ?_)
    · intro y0 y1 y2 y3 y4 y5 y6 y7 y8 y9 y10 y11 y12 y13
      unfold weftlaw1_AddrTwoWays.j3
      repeat' first
      | (with_reducible exact ih0 _ _ _)
      | (with_reducible exact ih1 _ _ _ _ _ _ _ _ _ _ _ _ _)
      | (with_reducible exact ih2 _ _ _ _ _ _ _ _ _ _ _ _ _)
      | (with_reducible exact ih3 _ _ _ _ _ _ _ _ _ _ _ _ _ _)
      | (with_reducible exact ih4 _ _)
      | (with_reducible exact addr_Format.mono _ _)
      | (with_reducible exact addr_FormatPrefix.mono _ _ _)
      | (with_reducible exact addr_Parse.mono _ _)
      | (with_reducible exact addr_ParsePrefix.mono _ _)
      | (with_reducible exact addr_Valid.mono _ _ _)
      | (with_reducible exact weftlaw1_again.mono _ _)
      | (with_reducible exact weftlaw1_begun.mono _)
      | (with_reducible exact LeO.refl _)
      | (with_reducible exact LeO.none _)
      | (with_reducible refine LeO.ite ?_ ?_)
      | (with_reducible refine LeO.bind ?_ (fun _ => ?_))
      | exact ih0 _ _ _
      | exact ih1 _ _ _ _ _ _ _ _ _ _ _ _ _
      | exact ih2 _ _ _ _ _ _ _ _ _ _ _ _ _
      | exact ih3 _ _ _ _ _ _ _ _ _ _ _ _ _ _
      | exact ih4 _ _
      | exact addr_Format.mono _ _
      | exact addr_FormatPrefix.mono _ _ _
      | exact addr_Parse.mono _ _
      | exact addr_ParsePrefix.mono _ _
      | exact addr_Valid.mono _ _ _
      | exact weftlaw1_again.mono _ _
      | exact weftlaw1_begun.mono _
      | exact LeO.none _
      | refine LeO.ite ?_ ?_
      | refine LeO.bind ?_ (fun _ => ?_)
    · intro y0 y1
      unfold weftlaw1_AddrTwoWays.l1
      repeat' first
      | (with_reducible exact ih0 _ _ _)
      | (with_reducible exact ih1 _ _ _ _ _ _ _ _ _ _ _ _ _)
      | (with_reducible exact ih2 _ _ _ _ _ _ _ _ _ _ _ _ _)
      | (with_reducible exact ih3 _ _ _ _ _ _ _ _ _ _ _ _ _ _)
      | (with_reducible exact ih4 _ _)
      | (with_reducible exact addr_Format.mono _ _)
      | (with_reducible exact addr_FormatPrefix.mono _ _ _)
      | (with_reducible exact addr_Parse.mono _ _)
      | (with_reducible exact addr_ParsePrefix.mono _ _)
      | (with_reducible exact addr_Valid.mono _ _ _)
      | (with_reducible exact weftlaw1_again.mono _ _)
      | (with_reducible exact weftlaw1_begun.mono _)
      | (with_reducible exact LeO.refl _)
      | (with_reducible exact LeO.none _)
      | (with_reducible refine LeO.ite ?_ ?_)
      | (with_reducible refine LeO.bind ?_ (fun _ => ?_))
      | exact ih0 _ _ _
      | exact ih1 _ _ _ _ _ _ _ _ _ _ _ _ _
      | exact ih2 _ _ _ _ _ _ _ _ _ _ _ _ _
      | exact ih3 _ _ _ _ _ _ _ _ _ _ _ _ _ _
      | exact ih4 _ _
      | exact addr_Format.mono _ _
      | exact addr_FormatPrefix.mono _ _ _
      | exact addr_Parse.mono _ _
      | exact addr_ParsePrefix.mono _ _
      | exact addr_Valid.mono _ _ _
      | exact weftlaw1_again.mono _ _
      | exact weftlaw1_begun.mono _
      | exact LeO.none _
      | refine LeO.ite ?_ ?_
      | refine LeO.bind ?_ (fun _ => ?_)
theorem weftlaw1_AddrTwoWays.mono : ∀ a0 a1 k, LeO (weftlaw1_AddrTwoWays.f k a0 a1) (weftlaw1_AddrTwoWays.f (k + 1) a0 a1) := by
  intro a0 a1 k
  obtain ⟨ih0, ih1, ih2, ih3, ih4⟩ := weftlaw1_AddrTwoWays.mono_l k
  unfold weftlaw1_AddrTwoWays.f
  repeat' first
      | (with_reducible exact ih0 _ _ _)
      | (with_reducible exact ih1 _ _ _ _ _ _ _ _ _ _ _ _ _)
      | (with_reducible exact ih2 _ _ _ _ _ _ _ _ _ _ _ _ _)
      | (with_reducible exact ih3 _ _ _ _ _ _ _ _ _ _ _ _ _ _)
      | (with_reducible exact ih4 _ _)
      | (with_reducible exact addr_Format.mono _ _)
      | (with_reducible exact addr_FormatPrefix.mono _ _ _)
      | (with_reducible exact addr_Parse.mono _ _)
      | (with_reducible exact addr_ParsePrefix.mono _ _)
      | (with_reducible exact addr_Valid.mono _ _ _)
      | (with_reducible exact weftlaw1_again.mono _ _)
      | (with_reducible exact weftlaw1_begun.mono _)
      | (with_reducible exact LeO.refl _)
      | (with_reducible exact LeO.none _)
      | (with_reducible refine LeO.ite ?_ ?_)
      | (with_reducible refine LeO.bind ?_ (fun _ => ?_))
      | exact ih0 _ _ _
      | exact ih1 _ _ _ _ _ _ _ _ _ _ _ _ _
      | exact ih2 _ _ _ _ _ _ _ _ _ _ _ _ _
      | exact ih3 _ _ _ _ _ _ _ _ _ _ _ _ _ _
      | exact ih4 _ _
      | exact addr_Format.mono _ _
      | exact addr_FormatPrefix.mono _ _ _
      | exact addr_Parse.mono _ _
      | exact addr_ParsePrefix.mono _ _
      | exact addr_Valid.mono _ _ _
      | exact weftlaw1_again.mono _ _
      | exact weftlaw1_begun.mono _
      | exact LeO.none _
      | refine LeO.ite ?_ ?_
      | refine LeO.bind ?_ (fun _ => ?_)
set_option maxHeartbeats 8000000 in
set_option maxRecDepth 100000 in
theorem weftlaw1_AddrTwoWays.calls (k : Nat) (A0 : Option Addr) (c0 : Nat) (l0 : List (S38)) (A1 : Option Addr) (c1 : Nat) (l1 : List ByteArray) (r : Bool) (w : World) (hr0 : Kd.C k38 w A0 l0.length l0) (hc0 : l0.length ≤ c0) (hr1 : Kd.C Kd.string w A1 l1.length l1) (hc1 : l1.length ≤ c1) (h : weftlaw1_AddrTwoWays.f k l0 l1 = some r) :
    Calls Try.prog 5 #[.slice A0 l0.length c0, .slice A1 l1.length c1] w fun e w' => e = .returned (.bool r) ∧ Below w.heap.size w w' := by
  have hu38 := Try.underlying38
  have hu36 := Try.underlying36
  have hu32 := Try.underlying32
  have HR0 := Aside0.mk hr0
  have HC0 := Aside0.mk hc0
  clear hr0 hc0
  have HR1 := Aside0.mk hr1
  have HC1 := Aside0.mk hc1
  clear hr1 hc1
  have HB := Aside0.mk (Below.refl w.heap.size w)
  have H : ((weftlaw1_begun.f k).bind fun t146 => (if t146 = true then (weftlaw1_AddrTwoWays.l0 k l0 l1 0) else (some false))) = some r := h
  clear h
  replace H := Option.bind_eq_some_iff.mp H
  obtain ⟨t146, A30, H⟩ := H
  replace H : (if t146 = true then (weftlaw1_AddrTwoWays.l0 k l0 l1 0) else (some false)) = some r := H
  have A3 := Aside0.mk A30
  clear A30
  by_cases c4 : t146 = true
  · subst c4
    have H1 : (weftlaw1_AddrTwoWays.l0 k l0 l1 0) = some r := by rw [if_pos rfl] at H; exact H
    clear H
    have H := H1
    clear H1
    have H' := Aside0.mk H
    clear H
    go_enter Try.func5, Try.ntmps5
    go_wp2_with (first | ((with_reducible refine gate_callee (f := 9) rfl ?_); refine goesL_ (some 16) rfl rfl Try.func9 (by kernel_rfl) rfl #[] rfl (by (try simp only [List.map_toArray, List.map_cons, List.map_nil]); first | done | rfl | (simp only [List.length_drop, List.length_take]; rfl)) ?_; (with_reducible refine (weftlaw1_begun.calls k  true _ A3.out).mono ?_); rintro e w' ⟨rfl, ⟨nd, rfl⟩⟩; refine ⟨_, rfl, ?_⟩))
    go_loopg [6] k (fun kq v6 w' => ∃ (x6_1 : Int), v6 = .int .i64 x6_1 ∧ Aside0 (weftlaw1_AddrTwoWays.l0 kq l0 l1 x6_1 = some r) ∧ Aside0 (kq ≤ k) ∧ Aside0 (Below w.heap.size w w'))
    case atStart => exact ⟨(0), (by first | rfl | (simp; done) | (simp [*]; done)), H', ⟨Nat.le_refl _⟩, ⟨by repeat (first | (with_reducible first | exact HB.out | apply below_alloc | apply pw_below_drewN | apply below_drew1) | exact HB.out)⟩⟩
    case round =>
      clear H'
      try clear c1
      try clear p2
      try clear c4
      obtain ⟨x6_1, rfl, HA, HK1, HB⟩ := hrel
      cases gk with
      | zero => exact absurd HA.out (by simp [weftlaw1_AddrTwoWays.l0])
      | succ k1 =>
        have H := HA.out
        clear HA
        simp only [weftlaw1_AddrTwoWays.l0] at H
        by_cases c5 : x6_1 < (l0.length : Int)
        · rw [if_pos c5] at H
          have c5b0 : decide (x6_1 < (l0.length : Int)) = true := decide_eq_true c5
          clear c5
          by_cases c6 : 0 ≤ x6_1
          · rw [if_pos c6] at H
            have c6b0 : decide (0 ≤ x6_1) = true := decide_eq_true c6
            clear c6
            replace H := Option.bind_eq_some_iff.mp H
            obtain ⟨t149, A70, H⟩ := H
            replace H : ((addr_Parse.f k1 t149).bind fun bt150 => (if bt150.2 = 0 then (weftlaw1_AddrTwoWays.j1 k1 l0 l1 x6_1 (bt150.1 != ((rd_T38 l0 x6_1).f0)) ((rd_T38 l0 x6_1).f0) ((rd_T38 l0 x6_1).f1.f0) ((rd_T38 l0 x6_1).f1.f1) ((rd_T38 l0 x6_1).f2.f0) ((rd_T38 l0 x6_1).f2.f1) ((rd_T38 l0 x6_1).f2.f2) ((rd_T38 l0 x6_1).f2.f3) ((rd_T38 l0 x6_1).f2.f4) ((rd_T38 l0 x6_1).f2.f5)) else (weftlaw1_AddrTwoWays.j1 k1 l0 l1 x6_1 true ((rd_T38 l0 x6_1).f0) ((rd_T38 l0 x6_1).f1.f0) ((rd_T38 l0 x6_1).f1.f1) ((rd_T38 l0 x6_1).f2.f0) ((rd_T38 l0 x6_1).f2.f1) ((rd_T38 l0 x6_1).f2.f2) ((rd_T38 l0 x6_1).f2.f3) ((rd_T38 l0 x6_1).f2.f4) ((rd_T38 l0 x6_1).f2.f5)))) = some r := H
            have A7 := Aside0.mk A70
            clear A70
            replace H := Option.bind_eq_some_iff.mp H
            obtain ⟨⟨t150, t151⟩, A80, H⟩ := H
            replace H : (if t151 = 0 then (weftlaw1_AddrTwoWays.j1 k1 l0 l1 x6_1 (t150 != ((rd_T38 l0 x6_1).f0)) ((rd_T38 l0 x6_1).f0) ((rd_T38 l0 x6_1).f1.f0) ((rd_T38 l0 x6_1).f1.f1) ((rd_T38 l0 x6_1).f2.f0) ((rd_T38 l0 x6_1).f2.f1) ((rd_T38 l0 x6_1).f2.f2) ((rd_T38 l0 x6_1).f2.f3) ((rd_T38 l0 x6_1).f2.f4) ((rd_T38 l0 x6_1).f2.f5)) else (weftlaw1_AddrTwoWays.j1 k1 l0 l1 x6_1 true ((rd_T38 l0 x6_1).f0) ((rd_T38 l0 x6_1).f1.f0) ((rd_T38 l0 x6_1).f1.f1) ((rd_T38 l0 x6_1).f2.f0) ((rd_T38 l0 x6_1).f2.f1) ((rd_T38 l0 x6_1).f2.f2) ((rd_T38 l0 x6_1).f2.f3) ((rd_T38 l0 x6_1).f2.f4) ((rd_T38 l0 x6_1).f2.f5))) = some r := H
            have A8 := Aside0.mk A80
            clear A80
            have HC9 := Aside0.mk H
            clear H
            have p147 : 0 ≤ (x6_1 : Int) := of_decide_eq_true (by first | (with_reducible assumption) | assumption)
            have q147 : x6_1 < (l0.length : Int) := of_decide_eq_true (by first | (with_reducible assumption) | assumption)
            obtain ⟨ad147, e147, hx147_0, hx147_1, hx147_2, hx147_3, hx147_4, hx147_5, hx147_6, hx147_7, hx147_8⟩ := at_T38 HR0.out x6_1 p147 q147
            cases e147
            replace hx147_0 := (HB.out.cell (World.block_lt_of_cell? w _ hx147_0)).trans hx147_0
            replace hx147_1 := (HB.out.cell (World.block_lt_of_cell? w _ hx147_1)).trans hx147_1
            replace hx147_2 := (HB.out.cell (World.block_lt_of_cell? w _ hx147_2)).trans hx147_2
            replace hx147_3 := (HB.out.cell (World.block_lt_of_cell? w _ hx147_3)).trans hx147_3
            replace hx147_4 := (HB.out.cell (World.block_lt_of_cell? w _ hx147_4)).trans hx147_4
            replace hx147_5 := (HB.out.cell (World.block_lt_of_cell? w _ hx147_5)).trans hx147_5
            replace hx147_6 := (HB.out.cell (World.block_lt_of_cell? w _ hx147_6)).trans hx147_6
            replace hx147_7 := (HB.out.cell (World.block_lt_of_cell? w _ hx147_7)).trans hx147_7
            replace hx147_8 := (HB.out.cell (World.block_lt_of_cell? w _ hx147_8)).trans hx147_8
            replace p147 := eq_true p147
            replace q147 := eq_true q147
            go_upto_region 10 with (first | ((with_reducible refine gate_dst (N := 7) rfl ?_); refine box_event ?hg (N := 7) ?hd (cs := #[.int .u32 0, .int .u32 0, .int .i64 0, .int .u8 0, .int .u8 0, .int .u8 0, .int .u8 0, .int .u8 0, .int .u8 0]) (t := 38) ?hr ?_; (case hd => rfl); (case hg => rfl); (case hr => first | (go_simp; done) | (go_simp; rfl)); intro gb148 hg w10 hbox hb; have n0_ := Aside0.mk (below_step (by repeat (first | (with_reducible first | exact HB.out | apply below_alloc | apply pw_below_drewN | apply below_drew1) | exact HB.out)) hb); have n1_ := Aside0.mk (hbox); have n2_ := Aside0.mk ((by rw [hg]; exact (below_size (by repeat (first | (with_reducible first | exact HB.out | apply below_alloc | apply pw_below_drewN | apply below_drew1) | exact HB.out))) : w.heap.size ≤ gb148)); have n3_ := Aside0.mk ((by rw [hg]; exact (below_size (by repeat (first | (with_reducible first | exact HB.out | apply below_alloc | apply pw_below_drewN | apply below_drew1) | exact HB.out))) : w.heap.size ≤ gb148)); clear HB; have HB := n0_; have BK148 := n1_; have GW148 := n2_; have GE148 := n3_; clear n0_ n1_ n2_ n3_; clear hb hbox hg; have hcz11_0 : w10.cell? ⟨gb148, 0, none⟩ = some (.int .u32 0) := (blk_cell BK148.out 0).trans rfl; have hcz11_1 : w10.cell? ⟨gb148, 1, none⟩ = some (.int .u32 0) := (blk_cell BK148.out 1).trans rfl; have hcz11_2 : w10.cell? ⟨gb148, 2, none⟩ = some (.int .i64 0) := (blk_cell BK148.out 2).trans rfl; have hcz11_3 : w10.cell? ⟨gb148, 3, none⟩ = some (.int .u8 0) := (blk_cell BK148.out 3).trans rfl; have hcz11_4 : w10.cell? ⟨gb148, 4, none⟩ = some (.int .u8 0) := (blk_cell BK148.out 4).trans rfl; have hcz11_5 : w10.cell? ⟨gb148, 5, none⟩ = some (.int .u8 0) := (blk_cell BK148.out 5).trans rfl; have hcz11_6 : w10.cell? ⟨gb148, 6, none⟩ = some (.int .u8 0) := (blk_cell BK148.out 6).trans rfl; have hcz11_7 : w10.cell? ⟨gb148, 7, none⟩ = some (.int .u8 0) := (blk_cell BK148.out 7).trans rfl; have hcz11_8 : w10.cell? ⟨gb148, 8, none⟩ = some (.int .u8 0) := (blk_cell BK148.out 8).trans rfl; have hfz11_0 := blk_frozen BK148.out 0; have hfz11_1 := blk_frozen BK148.out 1; have hfz11_2 := blk_frozen BK148.out 2; have hfz11_3 := blk_frozen BK148.out 3; have hfz11_4 := blk_frozen BK148.out 4; have hfz11_5 := blk_frozen BK148.out 5; have hfz11_6 := blk_frozen BK148.out 6; have hfz11_7 := blk_frozen BK148.out 7; have hfz11_8 := blk_frozen BK148.out 8) | ((with_reducible refine gate_callee (f := 15) rfl ?_); refine goesL_ (some 31) rfl rfl Try.func15 (by kernel_rfl) rfl #[.int .u32 ((rd_T38 l0 x6_1).f0)] rfl (by (try simp only [List.map_toArray, List.map_cons, List.map_nil]); first | done | rfl | (simp only [List.length_drop, List.length_take]; rfl)) ?_; (with_reducible refine (addr_Format.calls k1 ((rd_T38 l0 x6_1).f0) t149 _ A7.out).mono ?_); rintro e w12 ⟨rfl, hb⟩; refine ⟨_, rfl, ?_⟩; have n0_ := Aside0.mk (blk_below (g := gb148) (o := .cells #[.int .u32 ((rd_T38 l0 x6_1).f0), .int .u32 ((rd_T38 l0 x6_1).f1.f0), .int .i64 ((rd_T38 l0 x6_1).f1.f1), .int .u8 ((rd_T38 l0 x6_1).f2.f0), .int .u8 ((rd_T38 l0 x6_1).f2.f1), .int .u8 ((rd_T38 l0 x6_1).f2.f2), .int .u8 ((rd_T38 l0 x6_1).f2.f3), .int .u8 ((rd_T38 l0 x6_1).f2.f4), .int .u8 ((rd_T38 l0 x6_1).f2.f5)] 38 (0, 0)) (by (with_reducible repeat (first | refine blk_drewN ?_ _ | refine blk_drew ?_ | refine blk_alloc ?_ _)); refine blk_put (cs := #[.int .u32 ((rd_T38 l0 x6_1).f0), .int .u32 ((rd_T38 l0 x6_1).f1.f0), .int .i64 ((rd_T38 l0 x6_1).f1.f1), .int .u8 ((rd_T38 l0 x6_1).f2.f0), .int .u8 ((rd_T38 l0 x6_1).f2.f1), .int .u8 ((rd_T38 l0 x6_1).f2.f2), .int .u8 ((rd_T38 l0 x6_1).f2.f3), .int .u8 ((rd_T38 l0 x6_1).f2.f4), .int .u8 0]) ?_ 8 _ rfl; (with_reducible repeat (first | refine blk_drewN ?_ _ | refine blk_drew ?_ | refine blk_alloc ?_ _)); refine blk_put (cs := #[.int .u32 ((rd_T38 l0 x6_1).f0), .int .u32 ((rd_T38 l0 x6_1).f1.f0), .int .i64 ((rd_T38 l0 x6_1).f1.f1), .int .u8 ((rd_T38 l0 x6_1).f2.f0), .int .u8 ((rd_T38 l0 x6_1).f2.f1), .int .u8 ((rd_T38 l0 x6_1).f2.f2), .int .u8 ((rd_T38 l0 x6_1).f2.f3), .int .u8 0, .int .u8 0]) ?_ 7 _ rfl; (with_reducible repeat (first | refine blk_drewN ?_ _ | refine blk_drew ?_ | refine blk_alloc ?_ _)); refine blk_put (cs := #[.int .u32 ((rd_T38 l0 x6_1).f0), .int .u32 ((rd_T38 l0 x6_1).f1.f0), .int .i64 ((rd_T38 l0 x6_1).f1.f1), .int .u8 ((rd_T38 l0 x6_1).f2.f0), .int .u8 ((rd_T38 l0 x6_1).f2.f1), .int .u8 ((rd_T38 l0 x6_1).f2.f2), .int .u8 0, .int .u8 0, .int .u8 0]) ?_ 6 _ rfl; (with_reducible repeat (first | refine blk_drewN ?_ _ | refine blk_drew ?_ | refine blk_alloc ?_ _)); refine blk_put (cs := #[.int .u32 ((rd_T38 l0 x6_1).f0), .int .u32 ((rd_T38 l0 x6_1).f1.f0), .int .i64 ((rd_T38 l0 x6_1).f1.f1), .int .u8 ((rd_T38 l0 x6_1).f2.f0), .int .u8 ((rd_T38 l0 x6_1).f2.f1), .int .u8 0, .int .u8 0, .int .u8 0, .int .u8 0]) ?_ 5 _ rfl; (with_reducible repeat (first | refine blk_drewN ?_ _ | refine blk_drew ?_ | refine blk_alloc ?_ _)); refine blk_put (cs := #[.int .u32 ((rd_T38 l0 x6_1).f0), .int .u32 ((rd_T38 l0 x6_1).f1.f0), .int .i64 ((rd_T38 l0 x6_1).f1.f1), .int .u8 ((rd_T38 l0 x6_1).f2.f0), .int .u8 0, .int .u8 0, .int .u8 0, .int .u8 0, .int .u8 0]) ?_ 4 _ rfl; (with_reducible repeat (first | refine blk_drewN ?_ _ | refine blk_drew ?_ | refine blk_alloc ?_ _)); refine blk_put (cs := #[.int .u32 ((rd_T38 l0 x6_1).f0), .int .u32 ((rd_T38 l0 x6_1).f1.f0), .int .i64 ((rd_T38 l0 x6_1).f1.f1), .int .u8 0, .int .u8 0, .int .u8 0, .int .u8 0, .int .u8 0, .int .u8 0]) ?_ 3 _ rfl; (with_reducible repeat (first | refine blk_drewN ?_ _ | refine blk_drew ?_ | refine blk_alloc ?_ _)); refine blk_put (cs := #[.int .u32 ((rd_T38 l0 x6_1).f0), .int .u32 ((rd_T38 l0 x6_1).f1.f0), .int .i64 0, .int .u8 0, .int .u8 0, .int .u8 0, .int .u8 0, .int .u8 0, .int .u8 0]) ?_ 2 _ rfl; (with_reducible repeat (first | refine blk_drewN ?_ _ | refine blk_drew ?_ | refine blk_alloc ?_ _)); refine blk_put (cs := #[.int .u32 ((rd_T38 l0 x6_1).f0), .int .u32 0, .int .i64 0, .int .u8 0, .int .u8 0, .int .u8 0, .int .u8 0, .int .u8 0, .int .u8 0]) ?_ 1 _ rfl; (with_reducible repeat (first | refine blk_drewN ?_ _ | refine blk_drew ?_ | refine blk_alloc ?_ _)); refine blk_put (cs := #[.int .u32 0, .int .u32 0, .int .i64 0, .int .u8 0, .int .u8 0, .int .u8 0, .int .u8 0, .int .u8 0, .int .u8 0]) ?_ 0 _ rfl; (with_reducible repeat (first | refine blk_drewN ?_ _ | refine blk_drew ?_ | refine blk_alloc ?_ _)); exact BK148.out) hb); have n1_ := Aside0.mk (below_step (by repeat (first | (with_reducible first | exact HB.out | apply below_alloc | apply pw_below_drewN | apply below_drew1 | refine below_set ?_ GE148.out) | exact HB.out)) hb); clear BK148; clear HB; have BK148 := n0_; have HB := n1_; clear n0_ n1_; (try clear hb); (try clear hb2); (try clear hk); (try clear hi)) | ((with_reducible refine gate_callee (f := 16) rfl ?_); refine goesL_ (some 34) rfl rfl Try.func16 (by kernel_rfl) rfl #[.string t149] rfl (by (try simp only [List.map_toArray, List.map_cons, List.map_nil]); first | done | rfl | (simp only [List.length_drop, List.length_take]; rfl)) ?_; (with_reducible refine (addr_Parse.calls k1 t149 t150 t151 _ A8.out).mono ?_); rintro e w' ⟨rfl, ⟨nd, rfl⟩⟩; refine ⟨_, rfl, ?_⟩))
            (try simp only [Act.put, List.setIfInBounds_toArray, List.set_cons_zero, List.set_cons_succ])
            go_cut [44] (fun v44 wc => ∃ (kq : Nat) (x44_8 : Bool), v44 = .bool x44_8 ∧ Aside0 (weftlaw1_AddrTwoWays.j1 kq l0 l1 x6_1 x44_8 ((rd_T38 l0 x6_1).f0) ((rd_T38 l0 x6_1).f1.f0) ((rd_T38 l0 x6_1).f1.f1) ((rd_T38 l0 x6_1).f2.f0) ((rd_T38 l0 x6_1).f2.f1) ((rd_T38 l0 x6_1).f2.f2) ((rd_T38 l0 x6_1).f2.f3) ((rd_T38 l0 x6_1).f2.f4) ((rd_T38 l0 x6_1).f2.f5) = some r) ∧ Aside0 (kq ≤ k1) ∧ Aside0 (wc.heap[gb148]? = some (.cells #[.int .u32 ((rd_T38 l0 x6_1).f0), .int .u32 ((rd_T38 l0 x6_1).f1.f0), .int .i64 ((rd_T38 l0 x6_1).f1.f1), .int .u8 ((rd_T38 l0 x6_1).f2.f0), .int .u8 ((rd_T38 l0 x6_1).f2.f1), .int .u8 ((rd_T38 l0 x6_1).f2.f2), .int .u8 ((rd_T38 l0 x6_1).f2.f3), .int .u8 ((rd_T38 l0 x6_1).f2.f4), .int .u8 ((rd_T38 l0 x6_1).f2.f5)] 38 (0, 0))) ∧ Aside0 (Below w.heap.size w wc))
            case first =>
              have H := HC9.out
              clear HC9
              by_cases c13 : t151 = 0
              · rw [if_pos c13] at H
                have c13b0 : (t151 == 0) = true := beq_iff_eq.mpr c13
                have c13b1 : (t151 != 0) = false := bne_eq_false_iff_eq.mpr c13
                clear c13
                (first | rw [c13b0] | (simp only [i64_w, i32_w]; rw [c13b0]) | skip)
                have H' := Aside0.mk H
                clear H
                have hcz14_0 : w12.cell? ⟨gb148, 0, none⟩ = some (.int .u32 ((rd_T38 l0 x6_1).f0)) := (blk_cell BK148.out 0).trans rfl
                have hcz14_1 : w12.cell? ⟨gb148, 1, none⟩ = some (.int .u32 ((rd_T38 l0 x6_1).f1.f0)) := (blk_cell BK148.out 1).trans rfl
                have hcz14_2 : w12.cell? ⟨gb148, 2, none⟩ = some (.int .i64 ((rd_T38 l0 x6_1).f1.f1)) := (blk_cell BK148.out 2).trans rfl
                have hcz14_3 : w12.cell? ⟨gb148, 3, none⟩ = some (.int .u8 ((rd_T38 l0 x6_1).f2.f0)) := (blk_cell BK148.out 3).trans rfl
                have hcz14_4 : w12.cell? ⟨gb148, 4, none⟩ = some (.int .u8 ((rd_T38 l0 x6_1).f2.f1)) := (blk_cell BK148.out 4).trans rfl
                have hcz14_5 : w12.cell? ⟨gb148, 5, none⟩ = some (.int .u8 ((rd_T38 l0 x6_1).f2.f2)) := (blk_cell BK148.out 5).trans rfl
                have hcz14_6 : w12.cell? ⟨gb148, 6, none⟩ = some (.int .u8 ((rd_T38 l0 x6_1).f2.f3)) := (blk_cell BK148.out 6).trans rfl
                have hcz14_7 : w12.cell? ⟨gb148, 7, none⟩ = some (.int .u8 ((rd_T38 l0 x6_1).f2.f4)) := (blk_cell BK148.out 7).trans rfl
                have hcz14_8 : w12.cell? ⟨gb148, 8, none⟩ = some (.int .u8 ((rd_T38 l0 x6_1).f2.f5)) := (blk_cell BK148.out 8).trans rfl
                have hfz14_0 := blk_frozen BK148.out 0
                have hfz14_1 := blk_frozen BK148.out 1
                have hfz14_2 := blk_frozen BK148.out 2
                have hfz14_3 := blk_frozen BK148.out 3
                have hfz14_4 := blk_frozen BK148.out 4
                have hfz14_5 := blk_frozen BK148.out 5
                have hfz14_6 := blk_frozen BK148.out 6
                have hfz14_7 := blk_frozen BK148.out 7
                have hfz14_8 := blk_frozen BK148.out 8
                go_wp2
                go_meet
                case rel => exact ⟨_, ((t150 != ((rd_T38 l0 x6_1).f0))), (by first | rfl | (simp; done) | (simp [*]; done)), H', ⟨by have := HK1.out; first | omega | exact Nat.le_refl _⟩, ⟨by (with_reducible repeat (first | refine blk_drewN ?_ _ | refine blk_drew ?_ | refine blk_alloc ?_ _)); exact BK148.out⟩, ⟨by repeat (first | (with_reducible first | exact HB.out | apply below_alloc | apply pw_below_drewN | apply below_drew1 | refine below_set ?_ GE148.out) | exact HB.out)⟩⟩
              · rw [if_neg c13] at H
                have c13b0 : (t151 == 0) = false := beq_eq_false_iff_ne.mpr c13
                have c13b1 : (t151 != 0) = true := bne_iff_ne.mpr c13
                (first | rw [c13b0] | (simp only [i64_w, i32_w]; rw [c13b0]) | skip)
                have H' := Aside0.mk H
                clear H
                go_wp2
                go_meet
                case rel => exact ⟨_, (true), (by first | rfl | (simp; done) | (simp [*]; done)), H', ⟨by have := HK1.out; first | omega | exact Nat.le_refl _⟩, ⟨by (with_reducible repeat (first | refine blk_drewN ?_ _ | refine blk_drew ?_ | refine blk_alloc ?_ _)); exact BK148.out⟩, ⟨by repeat (first | (with_reducible first | exact HB.out | apply below_alloc | apply pw_below_drewN | apply below_drew1 | refine below_set ?_ GE148.out) | exact HB.out)⟩⟩
            case rest =>
              clear HC9
              try clear c1
              try clear p1
              try clear q1
              try clear hx1
              try clear p2
              try clear c4
              try clear c5
              try clear c5b0
              try clear c6
              try clear c6b0
              try clear c9
              try clear c13
              try clear c13b0
              try clear c13b1
              try clear p14
              try clear q14
              try clear hx14
              try clear hcz11_0
              try clear hcz11_1
              try clear hcz11_2
              try clear hcz11_3
              try clear hcz11_4
              try clear hcz11_5
              try clear hcz11_6
              try clear hcz11_7
              try clear hcz11_8
              try clear hcz14_0
              try clear hcz14_1
              try clear hcz14_2
              try clear hcz14_3
              try clear hcz14_4
              try clear hcz14_5
              try clear hcz14_6
              try clear hcz14_7
              try clear hcz14_8
              try clear hfz11_0
              try clear hfz11_1
              try clear hfz11_2
              try clear hfz11_3
              try clear hfz11_4
              try clear hfz11_5
              try clear hfz11_6
              try clear hfz11_7
              try clear hfz11_8
              try clear hfz14_0
              try clear hfz14_1
              try clear hfz14_2
              try clear hfz14_3
              try clear hfz14_4
              try clear hfz14_5
              try clear hfz14_6
              try clear hfz14_7
              try clear hfz14_8
              try clear hx147_0
              try clear hx147_1
              try clear hx147_2
              try clear hx147_3
              try clear hx147_4
              try clear hx147_5
              try clear hx147_6
              try clear hx147_7
              try clear hx147_8
              try clear p147
              try clear p2
              try clear q147
              obtain ⟨kq, x44_8, rfl, HA, HJ8, BK148, HB⟩ := hcut
              cases kq with
              | zero => exact absurd HA.out (by simp [weftlaw1_AddrTwoWays.j1])
              | succ kj8 =>
                have H := HA.out
                clear HA
                simp only [weftlaw1_AddrTwoWays.j1] at H
                by_cases c15 : x44_8 = true
                · subst c15
                  have H1 : (some false) = some r := by rw [if_pos rfl] at H; exact H
                  clear H
                  have H := H1
                  clear H1
                  obtain rfl := Option.some.inj H
                  go_wp2
                  go_ret
                  exact ⟨by first | rfl | (simp [errW_none, errW_some] <;> rfl) | (simp [*, errW_none, errW_some] <;> rfl), by repeat (first | (with_reducible first | exact HB.out | apply below_alloc | apply pw_below_drewN | apply below_drew1 | refine below_set ?_ GE148.out) | exact HB.out)⟩
                · replace c15 := Bool.eq_false_iff.mpr c15
                  subst c15
                  have H1 : ((addr_FormatMAC.f ((rd_T38 l0 x6_1).f2.f0) ((rd_T38 l0 x6_1).f2.f1) ((rd_T38 l0 x6_1).f2.f2) ((rd_T38 l0 x6_1).f2.f3) ((rd_T38 l0 x6_1).f2.f4) ((rd_T38 l0 x6_1).f2.f5)).bind fun t152 => ((addr_ParseMAC.f t152).bind fun bt153 => (if bt153.2.2.2.2.2.2 = 0 then (weftlaw1_AddrTwoWays.j2 kj8 l0 l1 x6_1 (!(bt153.1 == ((rd_T38 l0 x6_1).f2.f0)) || (!(bt153.2.1 == ((rd_T38 l0 x6_1).f2.f1)) || (!(bt153.2.2.1 == ((rd_T38 l0 x6_1).f2.f2)) || (!(bt153.2.2.2.1 == ((rd_T38 l0 x6_1).f2.f3)) || (!(bt153.2.2.2.2.1 == ((rd_T38 l0 x6_1).f2.f4)) || (!(bt153.2.2.2.2.2.1 == ((rd_T38 l0 x6_1).f2.f5)))))))) ((rd_T38 l0 x6_1).f0) ((rd_T38 l0 x6_1).f1.f0) ((rd_T38 l0 x6_1).f1.f1) ((rd_T38 l0 x6_1).f2.f0) ((rd_T38 l0 x6_1).f2.f1) ((rd_T38 l0 x6_1).f2.f2) ((rd_T38 l0 x6_1).f2.f3) ((rd_T38 l0 x6_1).f2.f4) ((rd_T38 l0 x6_1).f2.f5)) else (weftlaw1_AddrTwoWays.j2 kj8 l0 l1 x6_1 true ((rd_T38 l0 x6_1).f0) ((rd_T38 l0 x6_1).f1.f0) ((rd_T38 l0 x6_1).f1.f1) ((rd_T38 l0 x6_1).f2.f0) ((rd_T38 l0 x6_1).f2.f1) ((rd_T38 l0 x6_1).f2.f2) ((rd_T38 l0 x6_1).f2.f3) ((rd_T38 l0 x6_1).f2.f4) ((rd_T38 l0 x6_1).f2.f5))))) = some r := by rw [if_neg (show ¬ (false = true) by decide)] at H; exact H
                  clear H
                  have H := H1
                  clear H1
                  replace H := Option.bind_eq_some_iff.mp H
                  obtain ⟨t152, A160, H⟩ := H
                  replace H : ((addr_ParseMAC.f t152).bind fun bt153 => (if bt153.2.2.2.2.2.2 = 0 then (weftlaw1_AddrTwoWays.j2 kj8 l0 l1 x6_1 (!(bt153.1 == ((rd_T38 l0 x6_1).f2.f0)) || (!(bt153.2.1 == ((rd_T38 l0 x6_1).f2.f1)) || (!(bt153.2.2.1 == ((rd_T38 l0 x6_1).f2.f2)) || (!(bt153.2.2.2.1 == ((rd_T38 l0 x6_1).f2.f3)) || (!(bt153.2.2.2.2.1 == ((rd_T38 l0 x6_1).f2.f4)) || (!(bt153.2.2.2.2.2.1 == ((rd_T38 l0 x6_1).f2.f5)))))))) ((rd_T38 l0 x6_1).f0) ((rd_T38 l0 x6_1).f1.f0) ((rd_T38 l0 x6_1).f1.f1) ((rd_T38 l0 x6_1).f2.f0) ((rd_T38 l0 x6_1).f2.f1) ((rd_T38 l0 x6_1).f2.f2) ((rd_T38 l0 x6_1).f2.f3) ((rd_T38 l0 x6_1).f2.f4) ((rd_T38 l0 x6_1).f2.f5)) else (weftlaw1_AddrTwoWays.j2 kj8 l0 l1 x6_1 true ((rd_T38 l0 x6_1).f0) ((rd_T38 l0 x6_1).f1.f0) ((rd_T38 l0 x6_1).f1.f1) ((rd_T38 l0 x6_1).f2.f0) ((rd_T38 l0 x6_1).f2.f1) ((rd_T38 l0 x6_1).f2.f2) ((rd_T38 l0 x6_1).f2.f3) ((rd_T38 l0 x6_1).f2.f4) ((rd_T38 l0 x6_1).f2.f5)))) = some r := H
                  have A16 := Aside0.mk A160
                  clear A160
                  replace H := Option.bind_eq_some_iff.mp H
                  obtain ⟨⟨t153, t154, t155, t156, t157, t158, t159⟩, A170, H⟩ := H
                  replace H : (if t159 = 0 then (weftlaw1_AddrTwoWays.j2 kj8 l0 l1 x6_1 (!(t153 == ((rd_T38 l0 x6_1).f2.f0)) || (!(t154 == ((rd_T38 l0 x6_1).f2.f1)) || (!(t155 == ((rd_T38 l0 x6_1).f2.f2)) || (!(t156 == ((rd_T38 l0 x6_1).f2.f3)) || (!(t157 == ((rd_T38 l0 x6_1).f2.f4)) || (!(t158 == ((rd_T38 l0 x6_1).f2.f5)))))))) ((rd_T38 l0 x6_1).f0) ((rd_T38 l0 x6_1).f1.f0) ((rd_T38 l0 x6_1).f1.f1) ((rd_T38 l0 x6_1).f2.f0) ((rd_T38 l0 x6_1).f2.f1) ((rd_T38 l0 x6_1).f2.f2) ((rd_T38 l0 x6_1).f2.f3) ((rd_T38 l0 x6_1).f2.f4) ((rd_T38 l0 x6_1).f2.f5)) else (weftlaw1_AddrTwoWays.j2 kj8 l0 l1 x6_1 true ((rd_T38 l0 x6_1).f0) ((rd_T38 l0 x6_1).f1.f0) ((rd_T38 l0 x6_1).f1.f1) ((rd_T38 l0 x6_1).f2.f0) ((rd_T38 l0 x6_1).f2.f1) ((rd_T38 l0 x6_1).f2.f2) ((rd_T38 l0 x6_1).f2.f3) ((rd_T38 l0 x6_1).f2.f4) ((rd_T38 l0 x6_1).f2.f5))) = some r := H
                  have A17 := Aside0.mk A170
                  clear A170
                  have HC18 := Aside0.mk H
                  clear H
                  have hcz19_0 : wc.cell? ⟨gb148, 0, none⟩ = some (.int .u32 ((rd_T38 l0 x6_1).f0)) := (blk_cell BK148.out 0).trans rfl
                  have hcz19_1 : wc.cell? ⟨gb148, 1, none⟩ = some (.int .u32 ((rd_T38 l0 x6_1).f1.f0)) := (blk_cell BK148.out 1).trans rfl
                  have hcz19_2 : wc.cell? ⟨gb148, 2, none⟩ = some (.int .i64 ((rd_T38 l0 x6_1).f1.f1)) := (blk_cell BK148.out 2).trans rfl
                  have hcz19_3 : wc.cell? ⟨gb148, 3, none⟩ = some (.int .u8 ((rd_T38 l0 x6_1).f2.f0)) := (blk_cell BK148.out 3).trans rfl
                  have hcz19_4 : wc.cell? ⟨gb148, 4, none⟩ = some (.int .u8 ((rd_T38 l0 x6_1).f2.f1)) := (blk_cell BK148.out 4).trans rfl
                  have hcz19_5 : wc.cell? ⟨gb148, 5, none⟩ = some (.int .u8 ((rd_T38 l0 x6_1).f2.f2)) := (blk_cell BK148.out 5).trans rfl
                  have hcz19_6 : wc.cell? ⟨gb148, 6, none⟩ = some (.int .u8 ((rd_T38 l0 x6_1).f2.f3)) := (blk_cell BK148.out 6).trans rfl
                  have hcz19_7 : wc.cell? ⟨gb148, 7, none⟩ = some (.int .u8 ((rd_T38 l0 x6_1).f2.f4)) := (blk_cell BK148.out 7).trans rfl
                  have hcz19_8 : wc.cell? ⟨gb148, 8, none⟩ = some (.int .u8 ((rd_T38 l0 x6_1).f2.f5)) := (blk_cell BK148.out 8).trans rfl
                  have hfz19_0 := blk_frozen BK148.out 0
                  have hfz19_1 := blk_frozen BK148.out 1
                  have hfz19_2 := blk_frozen BK148.out 2
                  have hfz19_3 := blk_frozen BK148.out 3
                  have hfz19_4 := blk_frozen BK148.out 4
                  have hfz19_5 := blk_frozen BK148.out 5
                  have hfz19_6 := blk_frozen BK148.out 6
                  have hfz19_7 := blk_frozen BK148.out 7
                  have hfz19_8 := blk_frozen BK148.out 8
                  go_upto_region 14 with (first | ((with_reducible refine gate_callee (f := 17) rfl ?_); refine goesL_ (some 47) rfl rfl Try.func17 (by kernel_rfl) rfl #[.agg #[.int .u8 ((rd_T38 l0 x6_1).f2.f0), .int .u8 ((rd_T38 l0 x6_1).f2.f1), .int .u8 ((rd_T38 l0 x6_1).f2.f2), .int .u8 ((rd_T38 l0 x6_1).f2.f3), .int .u8 ((rd_T38 l0 x6_1).f2.f4), .int .u8 ((rd_T38 l0 x6_1).f2.f5)]] rfl (by (try simp only [List.map_toArray, List.map_cons, List.map_nil]); first | done | rfl | (simp only [List.length_drop, List.length_take]; rfl)) ?_; (with_reducible refine (addr_FormatMAC.calls ((rd_T38 l0 x6_1).f2.f0) ((rd_T38 l0 x6_1).f2.f1) ((rd_T38 l0 x6_1).f2.f2) ((rd_T38 l0 x6_1).f2.f3) ((rd_T38 l0 x6_1).f2.f4) ((rd_T38 l0 x6_1).f2.f5) t152 _ A16.out).mono ?_); rintro e w20 ⟨rfl, hb⟩; refine ⟨_, rfl, ?_⟩; have n0_ := Aside0.mk (blk_below (g := gb148) (o := .cells #[.int .u32 ((rd_T38 l0 x6_1).f0), .int .u32 ((rd_T38 l0 x6_1).f1.f0), .int .i64 ((rd_T38 l0 x6_1).f1.f1), .int .u8 ((rd_T38 l0 x6_1).f2.f0), .int .u8 ((rd_T38 l0 x6_1).f2.f1), .int .u8 ((rd_T38 l0 x6_1).f2.f2), .int .u8 ((rd_T38 l0 x6_1).f2.f3), .int .u8 ((rd_T38 l0 x6_1).f2.f4), .int .u8 ((rd_T38 l0 x6_1).f2.f5)] 38 (0, 0)) (by (with_reducible repeat (first | refine blk_drewN ?_ _ | refine blk_drew ?_ | refine blk_alloc ?_ _)); exact BK148.out) hb); have n1_ := Aside0.mk (below_step (by repeat (first | (with_reducible first | exact HB.out | apply below_alloc | apply pw_below_drewN | apply below_drew1 | refine below_set ?_ GE148.out) | exact HB.out)) hb); clear BK148; clear HB; have BK148 := n0_; have HB := n1_; clear n0_ n1_; (try clear hb); (try clear hb2); (try clear hk); (try clear hi)) | ((with_reducible refine gate_callee (f := 18) rfl ?_); refine goesL_ (some 50) rfl rfl Try.func18 (by kernel_rfl) rfl #[.string t152] rfl (by (try simp only [List.map_toArray, List.map_cons, List.map_nil]); first | done | rfl | (simp only [List.length_drop, List.length_take]; rfl)) ?_; (with_reducible refine (addr_ParseMAC.calls t152 t153 t154 t155 t156 t157 t158 t159 _ A17.out).mono ?_); rintro e w21 ⟨rfl, hb⟩; refine ⟨_, rfl, ?_⟩; have n0_ := Aside0.mk (blk_below (g := gb148) (o := .cells #[.int .u32 ((rd_T38 l0 x6_1).f0), .int .u32 ((rd_T38 l0 x6_1).f1.f0), .int .i64 ((rd_T38 l0 x6_1).f1.f1), .int .u8 ((rd_T38 l0 x6_1).f2.f0), .int .u8 ((rd_T38 l0 x6_1).f2.f1), .int .u8 ((rd_T38 l0 x6_1).f2.f2), .int .u8 ((rd_T38 l0 x6_1).f2.f3), .int .u8 ((rd_T38 l0 x6_1).f2.f4), .int .u8 ((rd_T38 l0 x6_1).f2.f5)] 38 (0, 0)) (by (with_reducible repeat (first | refine blk_drewN ?_ _ | refine blk_drew ?_ | refine blk_alloc ?_ _)); exact BK148.out) hb); have n1_ := Aside0.mk (below_step (by repeat (first | (with_reducible first | exact HB.out | apply below_alloc | apply pw_below_drewN | apply below_drew1 | refine below_set ?_ GE148.out) | exact HB.out)) hb); clear BK148; clear HB; have BK148 := n0_; have HB := n1_; clear n0_ n1_; (try clear hb); (try clear hb2); (try clear hk); (try clear hi)) | ((with_reducible refine gate_dst (N := 11) rfl ?_); refine box_event ?hg (N := 11) ?hd (cs := #[.int .u8 0, .int .u8 0, .int .u8 0, .int .u8 0, .int .u8 0, .int .u8 0]) (t := 36) ?hr ?_; (case hd => rfl); (case hg => rfl); (case hr => first | (go_simp; done) | (go_simp; rfl)); intro gb160 hg w22 hbox hb; have n0_ := Aside0.mk (blk_below (g := gb148) (o := .cells #[.int .u32 ((rd_T38 l0 x6_1).f0), .int .u32 ((rd_T38 l0 x6_1).f1.f0), .int .i64 ((rd_T38 l0 x6_1).f1.f1), .int .u8 ((rd_T38 l0 x6_1).f2.f0), .int .u8 ((rd_T38 l0 x6_1).f2.f1), .int .u8 ((rd_T38 l0 x6_1).f2.f2), .int .u8 ((rd_T38 l0 x6_1).f2.f3), .int .u8 ((rd_T38 l0 x6_1).f2.f4), .int .u8 ((rd_T38 l0 x6_1).f2.f5)] 38 (0, 0)) (by (with_reducible repeat (first | refine blk_drewN ?_ _ | refine blk_drew ?_ | refine blk_alloc ?_ _)); exact BK148.out) hb); have n1_ := Aside0.mk (below_step (by repeat (first | (with_reducible first | exact HB.out | apply below_alloc | apply pw_below_drewN | apply below_drew1 | refine below_set ?_ GE148.out) | exact HB.out)) hb); have n2_ := Aside0.mk (hbox); have n3_ := Aside0.mk ((by rw [hg]; exact (below_size (by repeat (first | (with_reducible first | exact HB.out | apply below_alloc | apply pw_below_drewN | apply below_drew1 | refine below_set ?_ GE148.out) | exact HB.out))) : w.heap.size ≤ gb160)); have n4_ := Aside0.mk ((by rw [hg]; exact (below_size (by repeat (first | (with_reducible first | exact HB.out | apply below_alloc | apply pw_below_drewN | apply below_drew1 | refine below_set ?_ GE148.out) | exact HB.out))) : w.heap.size ≤ gb160)); have n5_ := Aside0.mk ((by rw [hg]; exact Nat.ne_of_lt (blk_lt (g := gb148) (o := .cells #[.int .u32 ((rd_T38 l0 x6_1).f0), .int .u32 ((rd_T38 l0 x6_1).f1.f0), .int .i64 ((rd_T38 l0 x6_1).f1.f1), .int .u8 ((rd_T38 l0 x6_1).f2.f0), .int .u8 ((rd_T38 l0 x6_1).f2.f1), .int .u8 ((rd_T38 l0 x6_1).f2.f2), .int .u8 ((rd_T38 l0 x6_1).f2.f3), .int .u8 ((rd_T38 l0 x6_1).f2.f4), .int .u8 ((rd_T38 l0 x6_1).f2.f5)] 38 (0, 0)) (by (with_reducible repeat (first | refine blk_drewN ?_ _ | refine blk_drew ?_ | refine blk_alloc ?_ _)); exact BK148.out)) : gb148 ≠ gb160)); have n6_ := Aside0.mk ((by rw [hg]; exact Nat.ne_of_gt (blk_lt (g := gb148) (o := .cells #[.int .u32 ((rd_T38 l0 x6_1).f0), .int .u32 ((rd_T38 l0 x6_1).f1.f0), .int .i64 ((rd_T38 l0 x6_1).f1.f1), .int .u8 ((rd_T38 l0 x6_1).f2.f0), .int .u8 ((rd_T38 l0 x6_1).f2.f1), .int .u8 ((rd_T38 l0 x6_1).f2.f2), .int .u8 ((rd_T38 l0 x6_1).f2.f3), .int .u8 ((rd_T38 l0 x6_1).f2.f4), .int .u8 ((rd_T38 l0 x6_1).f2.f5)] 38 (0, 0)) (by (with_reducible repeat (first | refine blk_drewN ?_ _ | refine blk_drew ?_ | refine blk_alloc ?_ _)); exact BK148.out)) : gb160 ≠ gb148)); clear BK148; clear HB; have BK148 := n0_; have HB := n1_; have BK160 := n2_; have GW160 := n3_; have GE160 := n4_; have NB148_160 := n5_; have NB160_148 := n6_; clear n0_ n1_ n2_ n3_ n4_ n5_ n6_; clear hb hbox hg; have hnb23 := NB160_148.out; have hnc23 := NB148_160.out; have hcz24_0 : w22.cell? ⟨gb160, 0, none⟩ = some (.int .u8 0) := (blk_cell BK160.out 0).trans rfl; have hcz24_1 : w22.cell? ⟨gb160, 1, none⟩ = some (.int .u8 0) := (blk_cell BK160.out 1).trans rfl; have hcz24_2 : w22.cell? ⟨gb160, 2, none⟩ = some (.int .u8 0) := (blk_cell BK160.out 2).trans rfl; have hcz24_3 : w22.cell? ⟨gb160, 3, none⟩ = some (.int .u8 0) := (blk_cell BK160.out 3).trans rfl; have hcz24_4 : w22.cell? ⟨gb160, 4, none⟩ = some (.int .u8 0) := (blk_cell BK160.out 4).trans rfl; have hcz24_5 : w22.cell? ⟨gb160, 5, none⟩ = some (.int .u8 0) := (blk_cell BK160.out 5).trans rfl; have hfz24_0 := blk_frozen BK160.out 0; have hfz24_1 := blk_frozen BK160.out 1; have hfz24_2 := blk_frozen BK160.out 2; have hfz24_3 := blk_frozen BK160.out 3; have hfz24_4 := blk_frozen BK160.out 4; have hfz24_5 := blk_frozen BK160.out 5))
                  (try simp only [Act.put, List.setIfInBounds_toArray, List.set_cons_zero, List.set_cons_succ])
                  go_cut [60] (fun v60 wc => ∃ (kq : Nat) (x60_17 : Bool), v60 = .bool x60_17 ∧ Aside0 (weftlaw1_AddrTwoWays.j2 kq l0 l1 x6_1 x60_17 ((rd_T38 l0 x6_1).f0) ((rd_T38 l0 x6_1).f1.f0) ((rd_T38 l0 x6_1).f1.f1) ((rd_T38 l0 x6_1).f2.f0) ((rd_T38 l0 x6_1).f2.f1) ((rd_T38 l0 x6_1).f2.f2) ((rd_T38 l0 x6_1).f2.f3) ((rd_T38 l0 x6_1).f2.f4) ((rd_T38 l0 x6_1).f2.f5) = some r) ∧ Aside0 (kq ≤ kj8) ∧ Aside0 (wc.heap[gb148]? = some (.cells #[.int .u32 ((rd_T38 l0 x6_1).f0), .int .u32 ((rd_T38 l0 x6_1).f1.f0), .int .i64 ((rd_T38 l0 x6_1).f1.f1), .int .u8 ((rd_T38 l0 x6_1).f2.f0), .int .u8 ((rd_T38 l0 x6_1).f2.f1), .int .u8 ((rd_T38 l0 x6_1).f2.f2), .int .u8 ((rd_T38 l0 x6_1).f2.f3), .int .u8 ((rd_T38 l0 x6_1).f2.f4), .int .u8 ((rd_T38 l0 x6_1).f2.f5)] 38 (0, 0))) ∧ Aside0 (wc.heap[gb160]? = some (.cells #[.int .u8 t153, .int .u8 t154, .int .u8 t155, .int .u8 t156, .int .u8 t157, .int .u8 t158] 36 (0, 0))) ∧ Aside0 (Below w.heap.size w wc))
                  case first =>
                    have H := HC18.out
                    clear HC18
                    by_cases c25 : t159 = 0
                    · rw [if_pos c25] at H
                      have c25b0 : (t159 == 0) = true := beq_iff_eq.mpr c25
                      have c25b1 : (t159 != 0) = false := bne_eq_false_iff_eq.mpr c25
                      clear c25
                      (first | rw [c25b0] | (simp only [i64_w, i32_w]; rw [c25b0]) | skip)
                      have H' := Aside0.mk H
                      clear H
                      have hnb26 := NB160_148.out
                      have hnc26 := NB148_160.out
                      have hcz27_0 : w22.cell? ⟨gb160, 0, none⟩ = some (.int .u8 0) := (blk_cell BK160.out 0).trans rfl
                      have hcz27_1 : w22.cell? ⟨gb160, 1, none⟩ = some (.int .u8 0) := (blk_cell BK160.out 1).trans rfl
                      have hcz27_2 : w22.cell? ⟨gb160, 2, none⟩ = some (.int .u8 0) := (blk_cell BK160.out 2).trans rfl
                      have hcz27_3 : w22.cell? ⟨gb160, 3, none⟩ = some (.int .u8 0) := (blk_cell BK160.out 3).trans rfl
                      have hcz27_4 : w22.cell? ⟨gb160, 4, none⟩ = some (.int .u8 0) := (blk_cell BK160.out 4).trans rfl
                      have hcz27_5 : w22.cell? ⟨gb160, 5, none⟩ = some (.int .u8 0) := (blk_cell BK160.out 5).trans rfl
                      have hfz27_0 := blk_frozen BK160.out 0
                      have hfz27_1 := blk_frozen BK160.out 1
                      have hfz27_2 := blk_frozen BK160.out 2
                      have hfz27_3 := blk_frozen BK160.out 3
                      have hfz27_4 := blk_frozen BK160.out 4
                      have hfz27_5 := blk_frozen BK160.out 5
                      have hcz28_0 : w22.cell? ⟨gb148, 0, none⟩ = some (.int .u32 ((rd_T38 l0 x6_1).f0)) := (blk_cell BK148.out 0).trans rfl
                      have hcz28_1 : w22.cell? ⟨gb148, 1, none⟩ = some (.int .u32 ((rd_T38 l0 x6_1).f1.f0)) := (blk_cell BK148.out 1).trans rfl
                      have hcz28_2 : w22.cell? ⟨gb148, 2, none⟩ = some (.int .i64 ((rd_T38 l0 x6_1).f1.f1)) := (blk_cell BK148.out 2).trans rfl
                      have hcz28_3 : w22.cell? ⟨gb148, 3, none⟩ = some (.int .u8 ((rd_T38 l0 x6_1).f2.f0)) := (blk_cell BK148.out 3).trans rfl
                      have hcz28_4 : w22.cell? ⟨gb148, 4, none⟩ = some (.int .u8 ((rd_T38 l0 x6_1).f2.f1)) := (blk_cell BK148.out 4).trans rfl
                      have hcz28_5 : w22.cell? ⟨gb148, 5, none⟩ = some (.int .u8 ((rd_T38 l0 x6_1).f2.f2)) := (blk_cell BK148.out 5).trans rfl
                      have hcz28_6 : w22.cell? ⟨gb148, 6, none⟩ = some (.int .u8 ((rd_T38 l0 x6_1).f2.f3)) := (blk_cell BK148.out 6).trans rfl
                      have hcz28_7 : w22.cell? ⟨gb148, 7, none⟩ = some (.int .u8 ((rd_T38 l0 x6_1).f2.f4)) := (blk_cell BK148.out 7).trans rfl
                      have hcz28_8 : w22.cell? ⟨gb148, 8, none⟩ = some (.int .u8 ((rd_T38 l0 x6_1).f2.f5)) := (blk_cell BK148.out 8).trans rfl
                      have hfz28_0 := blk_frozen BK148.out 0
                      have hfz28_1 := blk_frozen BK148.out 1
                      have hfz28_2 := blk_frozen BK148.out 2
                      have hfz28_3 := blk_frozen BK148.out 3
                      have hfz28_4 := blk_frozen BK148.out 4
                      have hfz28_5 := blk_frozen BK148.out 5
                      have hfz28_6 := blk_frozen BK148.out 6
                      have hfz28_7 := blk_frozen BK148.out 7
                      have hfz28_8 := blk_frozen BK148.out 8
                      go_wp2
                      go_meet
                      case rel => exact ⟨_, ((!(t153 == ((rd_T38 l0 x6_1).f2.f0)) || (!(t154 == ((rd_T38 l0 x6_1).f2.f1)) || (!(t155 == ((rd_T38 l0 x6_1).f2.f2)) || (!(t156 == ((rd_T38 l0 x6_1).f2.f3)) || (!(t157 == ((rd_T38 l0 x6_1).f2.f4)) || (!(t158 == ((rd_T38 l0 x6_1).f2.f5))))))))), (by first | rfl | (simp; done) | (simp [*]; done)), H', ⟨by have := HK1.out; have := HJ8.out; first | omega | exact Nat.le_refl _⟩, ⟨by (with_reducible repeat (first | refine blk_drewN ?_ _ | refine blk_drew ?_ | refine blk_alloc ?_ _)); refine blk_far ?_ NB148_160.out _; (with_reducible repeat (first | refine blk_drewN ?_ _ | refine blk_drew ?_ | refine blk_alloc ?_ _)); refine blk_far ?_ NB148_160.out _; (with_reducible repeat (first | refine blk_drewN ?_ _ | refine blk_drew ?_ | refine blk_alloc ?_ _)); refine blk_far ?_ NB148_160.out _; (with_reducible repeat (first | refine blk_drewN ?_ _ | refine blk_drew ?_ | refine blk_alloc ?_ _)); refine blk_far ?_ NB148_160.out _; (with_reducible repeat (first | refine blk_drewN ?_ _ | refine blk_drew ?_ | refine blk_alloc ?_ _)); refine blk_far ?_ NB148_160.out _; (with_reducible repeat (first | refine blk_drewN ?_ _ | refine blk_drew ?_ | refine blk_alloc ?_ _)); refine blk_far ?_ NB148_160.out _; (with_reducible repeat (first | refine blk_drewN ?_ _ | refine blk_drew ?_ | refine blk_alloc ?_ _)); exact BK148.out⟩, ⟨by (with_reducible repeat (first | refine blk_drewN ?_ _ | refine blk_drew ?_ | refine blk_alloc ?_ _)); refine blk_put (cs := #[.int .u8 t153, .int .u8 t154, .int .u8 t155, .int .u8 t156, .int .u8 t157, .int .u8 0]) ?_ 5 _ rfl; (with_reducible repeat (first | refine blk_drewN ?_ _ | refine blk_drew ?_ | refine blk_alloc ?_ _)); refine blk_put (cs := #[.int .u8 t153, .int .u8 t154, .int .u8 t155, .int .u8 t156, .int .u8 0, .int .u8 0]) ?_ 4 _ rfl; (with_reducible repeat (first | refine blk_drewN ?_ _ | refine blk_drew ?_ | refine blk_alloc ?_ _)); refine blk_put (cs := #[.int .u8 t153, .int .u8 t154, .int .u8 t155, .int .u8 0, .int .u8 0, .int .u8 0]) ?_ 3 _ rfl; (with_reducible repeat (first | refine blk_drewN ?_ _ | refine blk_drew ?_ | refine blk_alloc ?_ _)); refine blk_put (cs := #[.int .u8 t153, .int .u8 t154, .int .u8 0, .int .u8 0, .int .u8 0, .int .u8 0]) ?_ 2 _ rfl; (with_reducible repeat (first | refine blk_drewN ?_ _ | refine blk_drew ?_ | refine blk_alloc ?_ _)); refine blk_put (cs := #[.int .u8 t153, .int .u8 0, .int .u8 0, .int .u8 0, .int .u8 0, .int .u8 0]) ?_ 1 _ rfl; (with_reducible repeat (first | refine blk_drewN ?_ _ | refine blk_drew ?_ | refine blk_alloc ?_ _)); refine blk_put (cs := #[.int .u8 0, .int .u8 0, .int .u8 0, .int .u8 0, .int .u8 0, .int .u8 0]) ?_ 0 _ rfl; (with_reducible repeat (first | refine blk_drewN ?_ _ | refine blk_drew ?_ | refine blk_alloc ?_ _)); exact BK160.out⟩, ⟨by repeat (first | (with_reducible first | exact HB.out | apply below_alloc | apply pw_below_drewN | apply below_drew1 | refine below_set ?_ GE148.out | refine below_set ?_ GE160.out) | exact HB.out)⟩⟩
                    · rw [if_neg c25] at H
                      have c25b0 : (t159 == 0) = false := beq_eq_false_iff_ne.mpr c25
                      have c25b1 : (t159 != 0) = true := bne_iff_ne.mpr c25
                      (first | rw [c25b0] | (simp only [i64_w, i32_w]; rw [c25b0]) | skip)
                      have H' := Aside0.mk H
                      clear H
                      go_wp2
                      go_meet
                      case rel => exact ⟨_, (true), (by first | rfl | (simp; done) | (simp [*]; done)), H', ⟨by have := HK1.out; have := HJ8.out; first | omega | exact Nat.le_refl _⟩, ⟨by (with_reducible repeat (first | refine blk_drewN ?_ _ | refine blk_drew ?_ | refine blk_alloc ?_ _)); refine blk_far ?_ NB148_160.out _; (with_reducible repeat (first | refine blk_drewN ?_ _ | refine blk_drew ?_ | refine blk_alloc ?_ _)); refine blk_far ?_ NB148_160.out _; (with_reducible repeat (first | refine blk_drewN ?_ _ | refine blk_drew ?_ | refine blk_alloc ?_ _)); refine blk_far ?_ NB148_160.out _; (with_reducible repeat (first | refine blk_drewN ?_ _ | refine blk_drew ?_ | refine blk_alloc ?_ _)); refine blk_far ?_ NB148_160.out _; (with_reducible repeat (first | refine blk_drewN ?_ _ | refine blk_drew ?_ | refine blk_alloc ?_ _)); refine blk_far ?_ NB148_160.out _; (with_reducible repeat (first | refine blk_drewN ?_ _ | refine blk_drew ?_ | refine blk_alloc ?_ _)); refine blk_far ?_ NB148_160.out _; (with_reducible repeat (first | refine blk_drewN ?_ _ | refine blk_drew ?_ | refine blk_alloc ?_ _)); exact BK148.out⟩, ⟨by (with_reducible repeat (first | refine blk_drewN ?_ _ | refine blk_drew ?_ | refine blk_alloc ?_ _)); refine blk_put (cs := #[.int .u8 t153, .int .u8 t154, .int .u8 t155, .int .u8 t156, .int .u8 t157, .int .u8 0]) ?_ 5 _ rfl; (with_reducible repeat (first | refine blk_drewN ?_ _ | refine blk_drew ?_ | refine blk_alloc ?_ _)); refine blk_put (cs := #[.int .u8 t153, .int .u8 t154, .int .u8 t155, .int .u8 t156, .int .u8 0, .int .u8 0]) ?_ 4 _ rfl; (with_reducible repeat (first | refine blk_drewN ?_ _ | refine blk_drew ?_ | refine blk_alloc ?_ _)); refine blk_put (cs := #[.int .u8 t153, .int .u8 t154, .int .u8 t155, .int .u8 0, .int .u8 0, .int .u8 0]) ?_ 3 _ rfl; (with_reducible repeat (first | refine blk_drewN ?_ _ | refine blk_drew ?_ | refine blk_alloc ?_ _)); refine blk_put (cs := #[.int .u8 t153, .int .u8 t154, .int .u8 0, .int .u8 0, .int .u8 0, .int .u8 0]) ?_ 2 _ rfl; (with_reducible repeat (first | refine blk_drewN ?_ _ | refine blk_drew ?_ | refine blk_alloc ?_ _)); refine blk_put (cs := #[.int .u8 t153, .int .u8 0, .int .u8 0, .int .u8 0, .int .u8 0, .int .u8 0]) ?_ 1 _ rfl; (with_reducible repeat (first | refine blk_drewN ?_ _ | refine blk_drew ?_ | refine blk_alloc ?_ _)); refine blk_put (cs := #[.int .u8 0, .int .u8 0, .int .u8 0, .int .u8 0, .int .u8 0, .int .u8 0]) ?_ 0 _ rfl; (with_reducible repeat (first | refine blk_drewN ?_ _ | refine blk_drew ?_ | refine blk_alloc ?_ _)); exact BK160.out⟩, ⟨by repeat (first | (with_reducible first | exact HB.out | apply below_alloc | apply pw_below_drewN | apply below_drew1 | refine below_set ?_ GE148.out | refine below_set ?_ GE160.out) | exact HB.out)⟩⟩
                  case rest =>
                    clear HC18
                    try clear c1
                    try clear p1
                    try clear q1
                    try clear hx1
                    try clear c2
                    try clear p2
                    try clear c4
                    try clear c5
                    try clear c5b0
                    try clear c6
                    try clear c6b0
                    try clear c9
                    try clear c13
                    try clear c13b0
                    try clear c13b1
                    try clear p14
                    try clear q14
                    try clear hx14
                    try clear c15
                    try clear c16
                    try clear c17
                    try clear c18
                    try clear c23
                    try clear c25
                    try clear c25b0
                    try clear c25b1
                    try clear c26
                    try clear hcz11_0
                    try clear hcz11_1
                    try clear hcz11_2
                    try clear hcz11_3
                    try clear hcz11_4
                    try clear hcz11_5
                    try clear hcz11_6
                    try clear hcz11_7
                    try clear hcz11_8
                    try clear hcz14_0
                    try clear hcz14_1
                    try clear hcz14_2
                    try clear hcz14_3
                    try clear hcz14_4
                    try clear hcz14_5
                    try clear hcz14_6
                    try clear hcz14_7
                    try clear hcz14_8
                    try clear hcz19_0
                    try clear hcz19_1
                    try clear hcz19_2
                    try clear hcz19_3
                    try clear hcz19_4
                    try clear hcz19_5
                    try clear hcz19_6
                    try clear hcz19_7
                    try clear hcz19_8
                    try clear hcz24_0
                    try clear hcz24_1
                    try clear hcz24_2
                    try clear hcz24_3
                    try clear hcz24_4
                    try clear hcz24_5
                    try clear hcz27_0
                    try clear hcz27_1
                    try clear hcz27_2
                    try clear hcz27_3
                    try clear hcz27_4
                    try clear hcz27_5
                    try clear hcz28_0
                    try clear hcz28_1
                    try clear hcz28_2
                    try clear hcz28_3
                    try clear hcz28_4
                    try clear hcz28_5
                    try clear hcz28_6
                    try clear hcz28_7
                    try clear hcz28_8
                    try clear hfz11_0
                    try clear hfz11_1
                    try clear hfz11_2
                    try clear hfz11_3
                    try clear hfz11_4
                    try clear hfz11_5
                    try clear hfz11_6
                    try clear hfz11_7
                    try clear hfz11_8
                    try clear hfz14_0
                    try clear hfz14_1
                    try clear hfz14_2
                    try clear hfz14_3
                    try clear hfz14_4
                    try clear hfz14_5
                    try clear hfz14_6
                    try clear hfz14_7
                    try clear hfz14_8
                    try clear hfz19_0
                    try clear hfz19_1
                    try clear hfz19_2
                    try clear hfz19_3
                    try clear hfz19_4
                    try clear hfz19_5
                    try clear hfz19_6
                    try clear hfz19_7
                    try clear hfz19_8
                    try clear hfz24_0
                    try clear hfz24_1
                    try clear hfz24_2
                    try clear hfz24_3
                    try clear hfz24_4
                    try clear hfz24_5
                    try clear hfz27_0
                    try clear hfz27_1
                    try clear hfz27_2
                    try clear hfz27_3
                    try clear hfz27_4
                    try clear hfz27_5
                    try clear hfz28_0
                    try clear hfz28_1
                    try clear hfz28_2
                    try clear hfz28_3
                    try clear hfz28_4
                    try clear hfz28_5
                    try clear hfz28_6
                    try clear hfz28_7
                    try clear hfz28_8
                    try clear hx147_0
                    try clear hx147_1
                    try clear hx147_2
                    try clear hx147_3
                    try clear hx147_4
                    try clear hx147_5
                    try clear hx147_6
                    try clear hx147_7
                    try clear hx147_8
                    try clear p1
                    try clear p14
                    try clear p147
                    try clear p2
                    try clear q1
                    try clear q14
                    try clear q147
                    obtain ⟨kq, x60_17, rfl, HA, HJ17, BK148, BK160, HB⟩ := hcut
                    cases kq with
                    | zero => exact absurd HA.out (by simp [weftlaw1_AddrTwoWays.j2])
                    | succ kj17 =>
                      have H := HA.out
                      clear HA
                      simp only [weftlaw1_AddrTwoWays.j2] at H
                      by_cases c29 : x60_17 = true
                      · subst c29
                        have H1 : (some false) = some r := by rw [if_pos rfl] at H; exact H
                        clear H
                        have H := H1
                        clear H1
                        obtain rfl := Option.some.inj H
                        go_wp2
                        go_ret
                        exact ⟨by first | rfl | (simp [errW_none, errW_some] <;> rfl) | (simp [*, errW_none, errW_some] <;> rfl), by repeat (first | (with_reducible first | exact HB.out | apply below_alloc | apply pw_below_drewN | apply below_drew1 | refine below_set ?_ GE148.out | refine below_set ?_ GE160.out) | exact HB.out)⟩
                      · replace c29 := Bool.eq_false_iff.mpr c29
                        subst c29
                        have H1 : ((addr_FormatPrefix.f kj17 ((rd_T38 l0 x6_1).f1.f0) ((rd_T38 l0 x6_1).f1.f1)).bind fun bt161 => ((addr_ParsePrefix.f kj17 bt161.1).bind fun bt163 => (if bt161.2 = 0 then (if bt163.2.2 = 0 then (weftlaw1_AddrTwoWays.j3 kj17 l0 l1 x6_1 bt161.2 (!(bt163.1 == ((rd_T38 l0 x6_1).f1.f0)) || (!(bt163.2.1 == ((rd_T38 l0 x6_1).f1.f1)))) ((rd_T38 l0 x6_1).f0) ((rd_T38 l0 x6_1).f1.f0) ((rd_T38 l0 x6_1).f1.f1) ((rd_T38 l0 x6_1).f2.f0) ((rd_T38 l0 x6_1).f2.f1) ((rd_T38 l0 x6_1).f2.f2) ((rd_T38 l0 x6_1).f2.f3) ((rd_T38 l0 x6_1).f2.f4) ((rd_T38 l0 x6_1).f2.f5)) else (weftlaw1_AddrTwoWays.j3 kj17 l0 l1 x6_1 bt161.2 true ((rd_T38 l0 x6_1).f0) ((rd_T38 l0 x6_1).f1.f0) ((rd_T38 l0 x6_1).f1.f1) ((rd_T38 l0 x6_1).f2.f0) ((rd_T38 l0 x6_1).f2.f1) ((rd_T38 l0 x6_1).f2.f2) ((rd_T38 l0 x6_1).f2.f3) ((rd_T38 l0 x6_1).f2.f4) ((rd_T38 l0 x6_1).f2.f5))) else (weftlaw1_AddrTwoWays.j3 kj17 l0 l1 x6_1 bt161.2 false ((rd_T38 l0 x6_1).f0) ((rd_T38 l0 x6_1).f1.f0) ((rd_T38 l0 x6_1).f1.f1) ((rd_T38 l0 x6_1).f2.f0) ((rd_T38 l0 x6_1).f2.f1) ((rd_T38 l0 x6_1).f2.f2) ((rd_T38 l0 x6_1).f2.f3) ((rd_T38 l0 x6_1).f2.f4) ((rd_T38 l0 x6_1).f2.f5))))) = some r := by rw [if_neg (show ¬ (false = true) by decide)] at H; exact H
                        clear H
                        have H := H1
                        clear H1
                        replace H := Option.bind_eq_some_iff.mp H
                        obtain ⟨⟨t161, t162⟩, A300, H⟩ := H
                        replace H : ((addr_ParsePrefix.f kj17 t161).bind fun bt163 => (if t162 = 0 then (if bt163.2.2 = 0 then (weftlaw1_AddrTwoWays.j3 kj17 l0 l1 x6_1 t162 (!(bt163.1 == ((rd_T38 l0 x6_1).f1.f0)) || (!(bt163.2.1 == ((rd_T38 l0 x6_1).f1.f1)))) ((rd_T38 l0 x6_1).f0) ((rd_T38 l0 x6_1).f1.f0) ((rd_T38 l0 x6_1).f1.f1) ((rd_T38 l0 x6_1).f2.f0) ((rd_T38 l0 x6_1).f2.f1) ((rd_T38 l0 x6_1).f2.f2) ((rd_T38 l0 x6_1).f2.f3) ((rd_T38 l0 x6_1).f2.f4) ((rd_T38 l0 x6_1).f2.f5)) else (weftlaw1_AddrTwoWays.j3 kj17 l0 l1 x6_1 t162 true ((rd_T38 l0 x6_1).f0) ((rd_T38 l0 x6_1).f1.f0) ((rd_T38 l0 x6_1).f1.f1) ((rd_T38 l0 x6_1).f2.f0) ((rd_T38 l0 x6_1).f2.f1) ((rd_T38 l0 x6_1).f2.f2) ((rd_T38 l0 x6_1).f2.f3) ((rd_T38 l0 x6_1).f2.f4) ((rd_T38 l0 x6_1).f2.f5))) else (weftlaw1_AddrTwoWays.j3 kj17 l0 l1 x6_1 t162 false ((rd_T38 l0 x6_1).f0) ((rd_T38 l0 x6_1).f1.f0) ((rd_T38 l0 x6_1).f1.f1) ((rd_T38 l0 x6_1).f2.f0) ((rd_T38 l0 x6_1).f2.f1) ((rd_T38 l0 x6_1).f2.f2) ((rd_T38 l0 x6_1).f2.f3) ((rd_T38 l0 x6_1).f2.f4) ((rd_T38 l0 x6_1).f2.f5)))) = some r := H
                        have A30 := Aside0.mk A300
                        clear A300
                        replace H := Option.bind_eq_some_iff.mp H
                        obtain ⟨⟨t163, t164, t165⟩, A310, H⟩ := H
                        replace H : (if t162 = 0 then (if t165 = 0 then (weftlaw1_AddrTwoWays.j3 kj17 l0 l1 x6_1 t162 (!(t163 == ((rd_T38 l0 x6_1).f1.f0)) || (!(t164 == ((rd_T38 l0 x6_1).f1.f1)))) ((rd_T38 l0 x6_1).f0) ((rd_T38 l0 x6_1).f1.f0) ((rd_T38 l0 x6_1).f1.f1) ((rd_T38 l0 x6_1).f2.f0) ((rd_T38 l0 x6_1).f2.f1) ((rd_T38 l0 x6_1).f2.f2) ((rd_T38 l0 x6_1).f2.f3) ((rd_T38 l0 x6_1).f2.f4) ((rd_T38 l0 x6_1).f2.f5)) else (weftlaw1_AddrTwoWays.j3 kj17 l0 l1 x6_1 t162 true ((rd_T38 l0 x6_1).f0) ((rd_T38 l0 x6_1).f1.f0) ((rd_T38 l0 x6_1).f1.f1) ((rd_T38 l0 x6_1).f2.f0) ((rd_T38 l0 x6_1).f2.f1) ((rd_T38 l0 x6_1).f2.f2) ((rd_T38 l0 x6_1).f2.f3) ((rd_T38 l0 x6_1).f2.f4) ((rd_T38 l0 x6_1).f2.f5))) else (weftlaw1_AddrTwoWays.j3 kj17 l0 l1 x6_1 t162 false ((rd_T38 l0 x6_1).f0) ((rd_T38 l0 x6_1).f1.f0) ((rd_T38 l0 x6_1).f1.f1) ((rd_T38 l0 x6_1).f2.f0) ((rd_T38 l0 x6_1).f2.f1) ((rd_T38 l0 x6_1).f2.f2) ((rd_T38 l0 x6_1).f2.f3) ((rd_T38 l0 x6_1).f2.f4) ((rd_T38 l0 x6_1).f2.f5))) = some r := H
                        have A31 := Aside0.mk A310
                        clear A310
                        have HC32 := Aside0.mk H
                        clear H
                        have hnb33 := NB148_160.out
                        have hnc33 := NB160_148.out
                        have hcz34_0 : wc.cell? ⟨gb148, 0, none⟩ = some (.int .u32 ((rd_T38 l0 x6_1).f0)) := (blk_cell BK148.out 0).trans rfl
                        have hcz34_1 : wc.cell? ⟨gb148, 1, none⟩ = some (.int .u32 ((rd_T38 l0 x6_1).f1.f0)) := (blk_cell BK148.out 1).trans rfl
                        have hcz34_2 : wc.cell? ⟨gb148, 2, none⟩ = some (.int .i64 ((rd_T38 l0 x6_1).f1.f1)) := (blk_cell BK148.out 2).trans rfl
                        have hcz34_3 : wc.cell? ⟨gb148, 3, none⟩ = some (.int .u8 ((rd_T38 l0 x6_1).f2.f0)) := (blk_cell BK148.out 3).trans rfl
                        have hcz34_4 : wc.cell? ⟨gb148, 4, none⟩ = some (.int .u8 ((rd_T38 l0 x6_1).f2.f1)) := (blk_cell BK148.out 4).trans rfl
                        have hcz34_5 : wc.cell? ⟨gb148, 5, none⟩ = some (.int .u8 ((rd_T38 l0 x6_1).f2.f2)) := (blk_cell BK148.out 5).trans rfl
                        have hcz34_6 : wc.cell? ⟨gb148, 6, none⟩ = some (.int .u8 ((rd_T38 l0 x6_1).f2.f3)) := (blk_cell BK148.out 6).trans rfl
                        have hcz34_7 : wc.cell? ⟨gb148, 7, none⟩ = some (.int .u8 ((rd_T38 l0 x6_1).f2.f4)) := (blk_cell BK148.out 7).trans rfl
                        have hcz34_8 : wc.cell? ⟨gb148, 8, none⟩ = some (.int .u8 ((rd_T38 l0 x6_1).f2.f5)) := (blk_cell BK148.out 8).trans rfl
                        have hfz34_0 := blk_frozen BK148.out 0
                        have hfz34_1 := blk_frozen BK148.out 1
                        have hfz34_2 := blk_frozen BK148.out 2
                        have hfz34_3 := blk_frozen BK148.out 3
                        have hfz34_4 := blk_frozen BK148.out 4
                        have hfz34_5 := blk_frozen BK148.out 5
                        have hfz34_6 := blk_frozen BK148.out 6
                        have hfz34_7 := blk_frozen BK148.out 7
                        have hfz34_8 := blk_frozen BK148.out 8
                        go_upto_region 18 with (first | ((with_reducible refine gate_callee (f := 19) rfl ?_); refine goesL_ (some 64) rfl rfl Try.func19 (by kernel_rfl) rfl #[.agg #[.int .u32 ((rd_T38 l0 x6_1).f1.f0), .int .i64 ((rd_T38 l0 x6_1).f1.f1)]] rfl (by (try simp only [List.map_toArray, List.map_cons, List.map_nil]); first | done | rfl | (simp only [List.length_drop, List.length_take]; rfl)) ?_; (with_reducible refine (addr_FormatPrefix.calls kj17 ((rd_T38 l0 x6_1).f1.f0) ((rd_T38 l0 x6_1).f1.f1) t161 t162 _ A30.out).mono ?_); rintro e w35 ⟨rfl, hb⟩; refine ⟨_, rfl, ?_⟩; have n0_ := Aside0.mk (blk_below (g := gb148) (o := .cells #[.int .u32 ((rd_T38 l0 x6_1).f0), .int .u32 ((rd_T38 l0 x6_1).f1.f0), .int .i64 ((rd_T38 l0 x6_1).f1.f1), .int .u8 ((rd_T38 l0 x6_1).f2.f0), .int .u8 ((rd_T38 l0 x6_1).f2.f1), .int .u8 ((rd_T38 l0 x6_1).f2.f2), .int .u8 ((rd_T38 l0 x6_1).f2.f3), .int .u8 ((rd_T38 l0 x6_1).f2.f4), .int .u8 ((rd_T38 l0 x6_1).f2.f5)] 38 (0, 0)) (by (with_reducible repeat (first | refine blk_drewN ?_ _ | refine blk_drew ?_ | refine blk_alloc ?_ _)); exact BK148.out) hb); have n1_ := Aside0.mk (blk_below (g := gb160) (o := .cells #[.int .u8 t153, .int .u8 t154, .int .u8 t155, .int .u8 t156, .int .u8 t157, .int .u8 t158] 36 (0, 0)) (by (with_reducible repeat (first | refine blk_drewN ?_ _ | refine blk_drew ?_ | refine blk_alloc ?_ _)); exact BK160.out) hb); have n2_ := Aside0.mk (below_step (by repeat (first | (with_reducible first | exact HB.out | apply below_alloc | apply pw_below_drewN | apply below_drew1 | refine below_set ?_ GE148.out | refine below_set ?_ GE160.out) | exact HB.out)) hb); clear BK148; clear BK160; clear HB; have BK148 := n0_; have BK160 := n1_; have HB := n2_; clear n0_ n1_ n2_; (try clear hb); (try clear hb2); (try clear hk); (try clear hi)) | ((with_reducible refine gate_callee (f := 20) rfl ?_); refine goesL_ (some 69) rfl rfl Try.func20 (by kernel_rfl) rfl #[.string t161] rfl (by (try simp only [List.map_toArray, List.map_cons, List.map_nil]); first | done | rfl | (simp only [List.length_drop, List.length_take]; rfl)) ?_; (with_reducible refine (addr_ParsePrefix.calls kj17 t161 t163 t164 t165 _ A31.out).mono ?_); rintro e w36 ⟨rfl, hb⟩; refine ⟨_, rfl, ?_⟩; have n0_ := Aside0.mk (blk_below (g := gb148) (o := .cells #[.int .u32 ((rd_T38 l0 x6_1).f0), .int .u32 ((rd_T38 l0 x6_1).f1.f0), .int .i64 ((rd_T38 l0 x6_1).f1.f1), .int .u8 ((rd_T38 l0 x6_1).f2.f0), .int .u8 ((rd_T38 l0 x6_1).f2.f1), .int .u8 ((rd_T38 l0 x6_1).f2.f2), .int .u8 ((rd_T38 l0 x6_1).f2.f3), .int .u8 ((rd_T38 l0 x6_1).f2.f4), .int .u8 ((rd_T38 l0 x6_1).f2.f5)] 38 (0, 0)) (by (with_reducible repeat (first | refine blk_drewN ?_ _ | refine blk_drew ?_ | refine blk_alloc ?_ _)); exact BK148.out) hb); have n1_ := Aside0.mk (blk_below (g := gb160) (o := .cells #[.int .u8 t153, .int .u8 t154, .int .u8 t155, .int .u8 t156, .int .u8 t157, .int .u8 t158] 36 (0, 0)) (by (with_reducible repeat (first | refine blk_drewN ?_ _ | refine blk_drew ?_ | refine blk_alloc ?_ _)); exact BK160.out) hb); have n2_ := Aside0.mk (below_step (by repeat (first | (with_reducible first | exact HB.out | apply below_alloc | apply pw_below_drewN | apply below_drew1 | refine below_set ?_ GE148.out | refine below_set ?_ GE160.out) | exact HB.out)) hb); clear BK148; clear BK160; clear HB; have BK148 := n0_; have BK160 := n1_; have HB := n2_; clear n0_ n1_ n2_; (try clear hb); (try clear hb2); (try clear hk); (try clear hi)) | ((with_reducible refine gate_dst (N := 12) rfl ?_); refine box_event ?hg (N := 12) ?hd (cs := #[.int .u32 0, .int .i64 0]) (t := 32) ?hr ?_; (case hd => rfl); (case hg => rfl); (case hr => first | (go_simp; done) | (go_simp; rfl)); intro gb166 hg w37 hbox hb; have n0_ := Aside0.mk (blk_below (g := gb148) (o := .cells #[.int .u32 ((rd_T38 l0 x6_1).f0), .int .u32 ((rd_T38 l0 x6_1).f1.f0), .int .i64 ((rd_T38 l0 x6_1).f1.f1), .int .u8 ((rd_T38 l0 x6_1).f2.f0), .int .u8 ((rd_T38 l0 x6_1).f2.f1), .int .u8 ((rd_T38 l0 x6_1).f2.f2), .int .u8 ((rd_T38 l0 x6_1).f2.f3), .int .u8 ((rd_T38 l0 x6_1).f2.f4), .int .u8 ((rd_T38 l0 x6_1).f2.f5)] 38 (0, 0)) (by (with_reducible repeat (first | refine blk_drewN ?_ _ | refine blk_drew ?_ | refine blk_alloc ?_ _)); exact BK148.out) hb); have n1_ := Aside0.mk (blk_below (g := gb160) (o := .cells #[.int .u8 t153, .int .u8 t154, .int .u8 t155, .int .u8 t156, .int .u8 t157, .int .u8 t158] 36 (0, 0)) (by (with_reducible repeat (first | refine blk_drewN ?_ _ | refine blk_drew ?_ | refine blk_alloc ?_ _)); exact BK160.out) hb); have n2_ := Aside0.mk (below_step (by repeat (first | (with_reducible first | exact HB.out | apply below_alloc | apply pw_below_drewN | apply below_drew1 | refine below_set ?_ GE148.out | refine below_set ?_ GE160.out) | exact HB.out)) hb); have n3_ := Aside0.mk (hbox); have n4_ := Aside0.mk ((by rw [hg]; exact (below_size (by repeat (first | (with_reducible first | exact HB.out | apply below_alloc | apply pw_below_drewN | apply below_drew1 | refine below_set ?_ GE148.out | refine below_set ?_ GE160.out) | exact HB.out))) : w.heap.size ≤ gb166)); have n5_ := Aside0.mk ((by rw [hg]; exact (below_size (by repeat (first | (with_reducible first | exact HB.out | apply below_alloc | apply pw_below_drewN | apply below_drew1 | refine below_set ?_ GE148.out | refine below_set ?_ GE160.out) | exact HB.out))) : w.heap.size ≤ gb166)); have n6_ := Aside0.mk ((by rw [hg]; exact Nat.ne_of_lt (blk_lt (g := gb148) (o := .cells #[.int .u32 ((rd_T38 l0 x6_1).f0), .int .u32 ((rd_T38 l0 x6_1).f1.f0), .int .i64 ((rd_T38 l0 x6_1).f1.f1), .int .u8 ((rd_T38 l0 x6_1).f2.f0), .int .u8 ((rd_T38 l0 x6_1).f2.f1), .int .u8 ((rd_T38 l0 x6_1).f2.f2), .int .u8 ((rd_T38 l0 x6_1).f2.f3), .int .u8 ((rd_T38 l0 x6_1).f2.f4), .int .u8 ((rd_T38 l0 x6_1).f2.f5)] 38 (0, 0)) (by (with_reducible repeat (first | refine blk_drewN ?_ _ | refine blk_drew ?_ | refine blk_alloc ?_ _)); exact BK148.out)) : gb148 ≠ gb166)); have n7_ := Aside0.mk ((by rw [hg]; exact Nat.ne_of_gt (blk_lt (g := gb148) (o := .cells #[.int .u32 ((rd_T38 l0 x6_1).f0), .int .u32 ((rd_T38 l0 x6_1).f1.f0), .int .i64 ((rd_T38 l0 x6_1).f1.f1), .int .u8 ((rd_T38 l0 x6_1).f2.f0), .int .u8 ((rd_T38 l0 x6_1).f2.f1), .int .u8 ((rd_T38 l0 x6_1).f2.f2), .int .u8 ((rd_T38 l0 x6_1).f2.f3), .int .u8 ((rd_T38 l0 x6_1).f2.f4), .int .u8 ((rd_T38 l0 x6_1).f2.f5)] 38 (0, 0)) (by (with_reducible repeat (first | refine blk_drewN ?_ _ | refine blk_drew ?_ | refine blk_alloc ?_ _)); exact BK148.out)) : gb166 ≠ gb148)); have n8_ := Aside0.mk ((by rw [hg]; exact Nat.ne_of_lt (blk_lt (g := gb160) (o := .cells #[.int .u8 t153, .int .u8 t154, .int .u8 t155, .int .u8 t156, .int .u8 t157, .int .u8 t158] 36 (0, 0)) (by (with_reducible repeat (first | refine blk_drewN ?_ _ | refine blk_drew ?_ | refine blk_alloc ?_ _)); exact BK160.out)) : gb160 ≠ gb166)); have n9_ := Aside0.mk ((by rw [hg]; exact Nat.ne_of_gt (blk_lt (g := gb160) (o := .cells #[.int .u8 t153, .int .u8 t154, .int .u8 t155, .int .u8 t156, .int .u8 t157, .int .u8 t158] 36 (0, 0)) (by (with_reducible repeat (first | refine blk_drewN ?_ _ | refine blk_drew ?_ | refine blk_alloc ?_ _)); exact BK160.out)) : gb166 ≠ gb160)); clear BK148; clear BK160; clear HB; have BK148 := n0_; have BK160 := n1_; have HB := n2_; have BK166 := n3_; have GW166 := n4_; have GE166 := n5_; have NB148_166 := n6_; have NB166_148 := n7_; have NB160_166 := n8_; have NB166_160 := n9_; clear n0_ n1_ n2_ n3_ n4_ n5_ n6_ n7_ n8_ n9_; clear hb hbox hg; have hnb38 := NB166_148.out; have hnc38 := NB148_166.out; have hnb39 := NB166_160.out; have hnc39 := NB160_166.out; have hcz40_0 : w37.cell? ⟨gb166, 0, none⟩ = some (.int .u32 0) := (blk_cell BK166.out 0).trans rfl; have hcz40_1 : w37.cell? ⟨gb166, 1, none⟩ = some (.int .i64 0) := (blk_cell BK166.out 1).trans rfl; have hfz40_0 := blk_frozen BK166.out 0; have hfz40_1 := blk_frozen BK166.out 1))
                        (try simp only [Act.put, List.setIfInBounds_toArray, List.set_cons_zero, List.set_cons_succ])
                        go_cut [83] (fun v83 wc => ∃ (kq : Nat) (x83_31 : Bool), v83 = .bool x83_31 ∧ Aside0 (weftlaw1_AddrTwoWays.j3 kq l0 l1 x6_1 t162 x83_31 ((rd_T38 l0 x6_1).f0) ((rd_T38 l0 x6_1).f1.f0) ((rd_T38 l0 x6_1).f1.f1) ((rd_T38 l0 x6_1).f2.f0) ((rd_T38 l0 x6_1).f2.f1) ((rd_T38 l0 x6_1).f2.f2) ((rd_T38 l0 x6_1).f2.f3) ((rd_T38 l0 x6_1).f2.f4) ((rd_T38 l0 x6_1).f2.f5) = some r) ∧ Aside0 (kq ≤ kj17) ∧ Aside0 (wc.heap[gb148]? = some (.cells #[.int .u32 ((rd_T38 l0 x6_1).f0), .int .u32 ((rd_T38 l0 x6_1).f1.f0), .int .i64 ((rd_T38 l0 x6_1).f1.f1), .int .u8 ((rd_T38 l0 x6_1).f2.f0), .int .u8 ((rd_T38 l0 x6_1).f2.f1), .int .u8 ((rd_T38 l0 x6_1).f2.f2), .int .u8 ((rd_T38 l0 x6_1).f2.f3), .int .u8 ((rd_T38 l0 x6_1).f2.f4), .int .u8 ((rd_T38 l0 x6_1).f2.f5)] 38 (0, 0))) ∧ Aside0 (wc.heap[gb160]? = some (.cells #[.int .u8 t153, .int .u8 t154, .int .u8 t155, .int .u8 t156, .int .u8 t157, .int .u8 t158] 36 (0, 0))) ∧ Aside0 (wc.heap[gb166]? = some (.cells #[.int .u32 t163, .int .i64 t164] 32 (0, 0))) ∧ Aside0 (Below w.heap.size w wc))
                        case first =>
                          have H := HC32.out
                          clear HC32
                          by_cases c41 : t162 = 0
                          · rw [if_pos c41] at H
                            have c41b0 : (t162 == 0) = true := beq_iff_eq.mpr c41
                            have c41b1 : (t162 != 0) = false := bne_eq_false_iff_eq.mpr c41
                            clear c41
                            (first | rw [c41b0] | (simp only [i64_w, i32_w]; rw [c41b0]) | skip)
                            by_cases c42 : t165 = 0
                            · rw [if_pos c42] at H
                              have c42b0 : (t165 == 0) = true := beq_iff_eq.mpr c42
                              have c42b1 : (t165 != 0) = false := bne_eq_false_iff_eq.mpr c42
                              clear c42
                              have H' := Aside0.mk H
                              clear H
                              have hnb43 := NB166_148.out
                              have hnc43 := NB148_166.out
                              have hnb44 := NB166_160.out
                              have hnc44 := NB160_166.out
                              have hcz45_0 : w37.cell? ⟨gb166, 0, none⟩ = some (.int .u32 0) := (blk_cell BK166.out 0).trans rfl
                              have hcz45_1 : w37.cell? ⟨gb166, 1, none⟩ = some (.int .i64 0) := (blk_cell BK166.out 1).trans rfl
                              have hfz45_0 := blk_frozen BK166.out 0
                              have hfz45_1 := blk_frozen BK166.out 1
                              have hnb46 := NB148_160.out
                              have hnc46 := NB160_148.out
                              have hcz47_0 : w37.cell? ⟨gb148, 0, none⟩ = some (.int .u32 ((rd_T38 l0 x6_1).f0)) := (blk_cell BK148.out 0).trans rfl
                              have hcz47_1 : w37.cell? ⟨gb148, 1, none⟩ = some (.int .u32 ((rd_T38 l0 x6_1).f1.f0)) := (blk_cell BK148.out 1).trans rfl
                              have hcz47_2 : w37.cell? ⟨gb148, 2, none⟩ = some (.int .i64 ((rd_T38 l0 x6_1).f1.f1)) := (blk_cell BK148.out 2).trans rfl
                              have hcz47_3 : w37.cell? ⟨gb148, 3, none⟩ = some (.int .u8 ((rd_T38 l0 x6_1).f2.f0)) := (blk_cell BK148.out 3).trans rfl
                              have hcz47_4 : w37.cell? ⟨gb148, 4, none⟩ = some (.int .u8 ((rd_T38 l0 x6_1).f2.f1)) := (blk_cell BK148.out 4).trans rfl
                              have hcz47_5 : w37.cell? ⟨gb148, 5, none⟩ = some (.int .u8 ((rd_T38 l0 x6_1).f2.f2)) := (blk_cell BK148.out 5).trans rfl
                              have hcz47_6 : w37.cell? ⟨gb148, 6, none⟩ = some (.int .u8 ((rd_T38 l0 x6_1).f2.f3)) := (blk_cell BK148.out 6).trans rfl
                              have hcz47_7 : w37.cell? ⟨gb148, 7, none⟩ = some (.int .u8 ((rd_T38 l0 x6_1).f2.f4)) := (blk_cell BK148.out 7).trans rfl
                              have hcz47_8 : w37.cell? ⟨gb148, 8, none⟩ = some (.int .u8 ((rd_T38 l0 x6_1).f2.f5)) := (blk_cell BK148.out 8).trans rfl
                              have hfz47_0 := blk_frozen BK148.out 0
                              have hfz47_1 := blk_frozen BK148.out 1
                              have hfz47_2 := blk_frozen BK148.out 2
                              have hfz47_3 := blk_frozen BK148.out 3
                              have hfz47_4 := blk_frozen BK148.out 4
                              have hfz47_5 := blk_frozen BK148.out 5
                              have hfz47_6 := blk_frozen BK148.out 6
                              have hfz47_7 := blk_frozen BK148.out 7
                              have hfz47_8 := blk_frozen BK148.out 8
                              go_wp2
                              go_meet
                              case rel => exact ⟨_, ((!(t163 == ((rd_T38 l0 x6_1).f1.f0)) || (!(t164 == ((rd_T38 l0 x6_1).f1.f1))))), (by first | rfl | (simp; done) | (simp [*]; done)), H', ⟨by have := HK1.out; have := HJ8.out; have := HJ17.out; first | omega | exact Nat.le_refl _⟩, ⟨by (with_reducible repeat (first | refine blk_drewN ?_ _ | refine blk_drew ?_ | refine blk_alloc ?_ _)); refine blk_far ?_ NB148_166.out _; (with_reducible repeat (first | refine blk_drewN ?_ _ | refine blk_drew ?_ | refine blk_alloc ?_ _)); refine blk_far ?_ NB148_166.out _; (with_reducible repeat (first | refine blk_drewN ?_ _ | refine blk_drew ?_ | refine blk_alloc ?_ _)); exact BK148.out⟩, ⟨by (with_reducible repeat (first | refine blk_drewN ?_ _ | refine blk_drew ?_ | refine blk_alloc ?_ _)); refine blk_far ?_ NB160_166.out _; (with_reducible repeat (first | refine blk_drewN ?_ _ | refine blk_drew ?_ | refine blk_alloc ?_ _)); refine blk_far ?_ NB160_166.out _; (with_reducible repeat (first | refine blk_drewN ?_ _ | refine blk_drew ?_ | refine blk_alloc ?_ _)); exact BK160.out⟩, ⟨by (with_reducible repeat (first | refine blk_drewN ?_ _ | refine blk_drew ?_ | refine blk_alloc ?_ _)); refine blk_put (cs := #[.int .u32 t163, .int .i64 0]) ?_ 1 _ rfl; (with_reducible repeat (first | refine blk_drewN ?_ _ | refine blk_drew ?_ | refine blk_alloc ?_ _)); refine blk_put (cs := #[.int .u32 0, .int .i64 0]) ?_ 0 _ rfl; (with_reducible repeat (first | refine blk_drewN ?_ _ | refine blk_drew ?_ | refine blk_alloc ?_ _)); exact BK166.out⟩, ⟨by repeat (first | (with_reducible first | exact HB.out | apply below_alloc | apply pw_below_drewN | apply below_drew1 | refine below_set ?_ GE148.out | refine below_set ?_ GE160.out | refine below_set ?_ GE166.out) | exact HB.out)⟩⟩
                            · rw [if_neg c42] at H
                              have c42b0 : (t165 == 0) = false := beq_eq_false_iff_ne.mpr c42
                              have c42b1 : (t165 != 0) = true := bne_iff_ne.mpr c42
                              have H' := Aside0.mk H
                              clear H
                              go_wp2
                              go_meet
                              case rel => exact ⟨_, (true), (by first | rfl | (simp; done) | (simp [*]; done)), H', ⟨by have := HK1.out; have := HJ8.out; have := HJ17.out; first | omega | exact Nat.le_refl _⟩, ⟨by (with_reducible repeat (first | refine blk_drewN ?_ _ | refine blk_drew ?_ | refine blk_alloc ?_ _)); refine blk_far ?_ NB148_166.out _; (with_reducible repeat (first | refine blk_drewN ?_ _ | refine blk_drew ?_ | refine blk_alloc ?_ _)); refine blk_far ?_ NB148_166.out _; (with_reducible repeat (first | refine blk_drewN ?_ _ | refine blk_drew ?_ | refine blk_alloc ?_ _)); exact BK148.out⟩, ⟨by (with_reducible repeat (first | refine blk_drewN ?_ _ | refine blk_drew ?_ | refine blk_alloc ?_ _)); refine blk_far ?_ NB160_166.out _; (with_reducible repeat (first | refine blk_drewN ?_ _ | refine blk_drew ?_ | refine blk_alloc ?_ _)); refine blk_far ?_ NB160_166.out _; (with_reducible repeat (first | refine blk_drewN ?_ _ | refine blk_drew ?_ | refine blk_alloc ?_ _)); exact BK160.out⟩, ⟨by (with_reducible repeat (first | refine blk_drewN ?_ _ | refine blk_drew ?_ | refine blk_alloc ?_ _)); refine blk_put (cs := #[.int .u32 t163, .int .i64 0]) ?_ 1 _ rfl; (with_reducible repeat (first | refine blk_drewN ?_ _ | refine blk_drew ?_ | refine blk_alloc ?_ _)); refine blk_put (cs := #[.int .u32 0, .int .i64 0]) ?_ 0 _ rfl; (with_reducible repeat (first | refine blk_drewN ?_ _ | refine blk_drew ?_ | refine blk_alloc ?_ _)); exact BK166.out⟩, ⟨by repeat (first | (with_reducible first | exact HB.out | apply below_alloc | apply pw_below_drewN | apply below_drew1 | refine below_set ?_ GE148.out | refine below_set ?_ GE160.out | refine below_set ?_ GE166.out) | exact HB.out)⟩⟩
                          · rw [if_neg c41] at H
                            have c41b0 : (t162 == 0) = false := beq_eq_false_iff_ne.mpr c41
                            have c41b1 : (t162 != 0) = true := bne_iff_ne.mpr c41
                            (first | rw [c41b0] | (simp only [i64_w, i32_w]; rw [c41b0]) | skip)
                            have H' := Aside0.mk H
                            clear H
                            go_wp2
                            go_meet
                            case rel => exact ⟨_, (false), (by first | rfl | (simp; done) | (simp [*]; done)), H', ⟨by have := HK1.out; have := HJ8.out; have := HJ17.out; first | omega | exact Nat.le_refl _⟩, ⟨by (with_reducible repeat (first | refine blk_drewN ?_ _ | refine blk_drew ?_ | refine blk_alloc ?_ _)); refine blk_far ?_ NB148_166.out _; (with_reducible repeat (first | refine blk_drewN ?_ _ | refine blk_drew ?_ | refine blk_alloc ?_ _)); refine blk_far ?_ NB148_166.out _; (with_reducible repeat (first | refine blk_drewN ?_ _ | refine blk_drew ?_ | refine blk_alloc ?_ _)); exact BK148.out⟩, ⟨by (with_reducible repeat (first | refine blk_drewN ?_ _ | refine blk_drew ?_ | refine blk_alloc ?_ _)); refine blk_far ?_ NB160_166.out _; (with_reducible repeat (first | refine blk_drewN ?_ _ | refine blk_drew ?_ | refine blk_alloc ?_ _)); refine blk_far ?_ NB160_166.out _; (with_reducible repeat (first | refine blk_drewN ?_ _ | refine blk_drew ?_ | refine blk_alloc ?_ _)); exact BK160.out⟩, ⟨by (with_reducible repeat (first | refine blk_drewN ?_ _ | refine blk_drew ?_ | refine blk_alloc ?_ _)); refine blk_put (cs := #[.int .u32 t163, .int .i64 0]) ?_ 1 _ rfl; (with_reducible repeat (first | refine blk_drewN ?_ _ | refine blk_drew ?_ | refine blk_alloc ?_ _)); refine blk_put (cs := #[.int .u32 0, .int .i64 0]) ?_ 0 _ rfl; (with_reducible repeat (first | refine blk_drewN ?_ _ | refine blk_drew ?_ | refine blk_alloc ?_ _)); exact BK166.out⟩, ⟨by repeat (first | (with_reducible first | exact HB.out | apply below_alloc | apply pw_below_drewN | apply below_drew1 | refine below_set ?_ GE148.out | refine below_set ?_ GE160.out | refine below_set ?_ GE166.out) | exact HB.out)⟩⟩
                        case rest =>
                          clear HC32
                          try clear c1
                          try clear p1
                          try clear q1
                          try clear hx1
                          try clear c2
                          try clear p2
                          try clear c3
                          try clear c4
                          try clear c5
                          try clear c5b0
                          try clear c6
                          try clear c6b0
                          try clear c9
                          try clear c13
                          try clear c13b0
                          try clear c13b1
                          try clear p14
                          try clear q14
                          try clear hx14
                          try clear c15
                          try clear c16
                          try clear c17
                          try clear c18
                          try clear c19
                          try clear c20
                          try clear c23
                          try clear c25
                          try clear c25b0
                          try clear c25b1
                          try clear c26
                          try clear c29
                          try clear c33
                          try clear c38
                          try clear c39
                          try clear c41
                          try clear c41b0
                          try clear c41b1
                          try clear c42
                          try clear c42b0
                          try clear c42b1
                          try clear c43
                          try clear c44
                          try clear c46
                          try clear hcz11_0
                          try clear hcz11_1
                          try clear hcz11_2
                          try clear hcz11_3
                          try clear hcz11_4
                          try clear hcz11_5
                          try clear hcz11_6
                          try clear hcz11_7
                          try clear hcz11_8
                          try clear hcz14_0
                          try clear hcz14_1
                          try clear hcz14_2
                          try clear hcz14_3
                          try clear hcz14_4
                          try clear hcz14_5
                          try clear hcz14_6
                          try clear hcz14_7
                          try clear hcz14_8
                          try clear hcz19_0
                          try clear hcz19_1
                          try clear hcz19_2
                          try clear hcz19_3
                          try clear hcz19_4
                          try clear hcz19_5
                          try clear hcz19_6
                          try clear hcz19_7
                          try clear hcz19_8
                          try clear hcz24_0
                          try clear hcz24_1
                          try clear hcz24_2
                          try clear hcz24_3
                          try clear hcz24_4
                          try clear hcz24_5
                          try clear hcz27_0
                          try clear hcz27_1
                          try clear hcz27_2
                          try clear hcz27_3
                          try clear hcz27_4
                          try clear hcz27_5
                          try clear hcz28_0
                          try clear hcz28_1
                          try clear hcz28_2
                          try clear hcz28_3
                          try clear hcz28_4
                          try clear hcz28_5
                          try clear hcz28_6
                          try clear hcz28_7
                          try clear hcz28_8
                          try clear hcz34_0
                          try clear hcz34_1
                          try clear hcz34_2
                          try clear hcz34_3
                          try clear hcz34_4
                          try clear hcz34_5
                          try clear hcz34_6
                          try clear hcz34_7
                          try clear hcz34_8
                          try clear hcz40_0
                          try clear hcz40_1
                          try clear hcz45_0
                          try clear hcz45_1
                          try clear hcz47_0
                          try clear hcz47_1
                          try clear hcz47_2
                          try clear hcz47_3
                          try clear hcz47_4
                          try clear hcz47_5
                          try clear hcz47_6
                          try clear hcz47_7
                          try clear hcz47_8
                          try clear hfz11_0
                          try clear hfz11_1
                          try clear hfz11_2
                          try clear hfz11_3
                          try clear hfz11_4
                          try clear hfz11_5
                          try clear hfz11_6
                          try clear hfz11_7
                          try clear hfz11_8
                          try clear hfz14_0
                          try clear hfz14_1
                          try clear hfz14_2
                          try clear hfz14_3
                          try clear hfz14_4
                          try clear hfz14_5
                          try clear hfz14_6
                          try clear hfz14_7
                          try clear hfz14_8
                          try clear hfz19_0
                          try clear hfz19_1
                          try clear hfz19_2
                          try clear hfz19_3
                          try clear hfz19_4
                          try clear hfz19_5
                          try clear hfz19_6
                          try clear hfz19_7
                          try clear hfz19_8
                          try clear hfz24_0
                          try clear hfz24_1
                          try clear hfz24_2
                          try clear hfz24_3
                          try clear hfz24_4
                          try clear hfz24_5
                          try clear hfz27_0
                          try clear hfz27_1
                          try clear hfz27_2
                          try clear hfz27_3
                          try clear hfz27_4
                          try clear hfz27_5
                          try clear hfz28_0
                          try clear hfz28_1
                          try clear hfz28_2
                          try clear hfz28_3
                          try clear hfz28_4
                          try clear hfz28_5
                          try clear hfz28_6
                          try clear hfz28_7
                          try clear hfz28_8
                          try clear hfz34_0
                          try clear hfz34_1
                          try clear hfz34_2
                          try clear hfz34_3
                          try clear hfz34_4
                          try clear hfz34_5
                          try clear hfz34_6
                          try clear hfz34_7
                          try clear hfz34_8
                          try clear hfz40_0
                          try clear hfz40_1
                          try clear hfz45_0
                          try clear hfz45_1
                          try clear hfz47_0
                          try clear hfz47_1
                          try clear hfz47_2
                          try clear hfz47_3
                          try clear hfz47_4
                          try clear hfz47_5
                          try clear hfz47_6
                          try clear hfz47_7
                          try clear hfz47_8
                          try clear hx147_0
                          try clear hx147_1
                          try clear hx147_2
                          try clear hx147_3
                          try clear hx147_4
                          try clear hx147_5
                          try clear hx147_6
                          try clear hx147_7
                          try clear hx147_8
                          try clear p1
                          try clear p14
                          try clear p147
                          try clear p2
                          try clear q1
                          try clear q14
                          try clear q147
                          obtain ⟨kq, x83_31, rfl, HA, HJ31, BK148, BK160, BK166, HB⟩ := hcut
                          cases kq with
                          | zero => exact absurd HA.out (by simp [weftlaw1_AddrTwoWays.j3])
                          | succ kj31 =>
                            have H := HA.out
                            clear HA
                            simp only [weftlaw1_AddrTwoWays.j3] at H
                            by_cases c48 : x83_31 = true
                            · subst c48
                              have H1 : (some false) = some r := by rw [if_pos rfl] at H; exact H
                              clear H
                              have H := H1
                              clear H1
                              obtain rfl := Option.some.inj H
                              go_wp2
                              go_ret
                              exact ⟨by first | rfl | (simp [errW_none, errW_some] <;> rfl) | (simp [*, errW_none, errW_some] <;> rfl), by repeat (first | (with_reducible first | exact HB.out | apply below_alloc | apply pw_below_drewN | apply below_drew1 | refine below_set ?_ GE148.out | refine below_set ?_ GE160.out | refine below_set ?_ GE166.out) | exact HB.out)⟩
                            · replace c48 := Bool.eq_false_iff.mpr c48
                              subst c48
                              have H1 : ((addr_Valid.f kj31 ((rd_T38 l0 x6_1).f1.f0) ((rd_T38 l0 x6_1).f1.f1)).bind fun t167 => (if (t167 != (t162 == 0)) = true then (some false) else (weftlaw1_AddrTwoWays.l0 kj31 l0 l1 (wrap64 (x6_1 + 1))))) = some r := by rw [if_neg (show ¬ (false = true) by decide)] at H; exact H
                              clear H
                              have H := H1
                              clear H1
                              replace H := Option.bind_eq_some_iff.mp H
                              obtain ⟨t167, A490, H⟩ := H
                              replace H : (if (t167 != (t162 == 0)) = true then (some false) else (weftlaw1_AddrTwoWays.l0 kj31 l0 l1 (wrap64 (x6_1 + 1)))) = some r := H
                              have A49 := Aside0.mk A490
                              clear A490
                              by_cases c50 : (t167 != (t162 == 0)) = true
                              · rw [if_pos c50] at H
                                have c50b0 : (t167 != (t162 == 0)) = true := c50
                                (try (have c50b1 : decide (t167 = (t162 == 0)) = false := by simpa using c50))
                                (try (have c50b2 : (t167 == (t162 == 0)) = false := by simpa using c50))
                                (try (have c50b3 : ¬ (t167 = (t162 == 0)) := by simpa using c50))
                                clear c50
                                obtain rfl := Option.some.inj H
                                have hnb51 := NB148_160.out
                                have hnc51 := NB160_148.out
                                have hnb52 := NB148_166.out
                                have hnc52 := NB166_148.out
                                have hcz53_0 : wc.cell? ⟨gb148, 0, none⟩ = some (.int .u32 ((rd_T38 l0 x6_1).f0)) := (blk_cell BK148.out 0).trans rfl
                                have hcz53_1 : wc.cell? ⟨gb148, 1, none⟩ = some (.int .u32 ((rd_T38 l0 x6_1).f1.f0)) := (blk_cell BK148.out 1).trans rfl
                                have hcz53_2 : wc.cell? ⟨gb148, 2, none⟩ = some (.int .i64 ((rd_T38 l0 x6_1).f1.f1)) := (blk_cell BK148.out 2).trans rfl
                                have hcz53_3 : wc.cell? ⟨gb148, 3, none⟩ = some (.int .u8 ((rd_T38 l0 x6_1).f2.f0)) := (blk_cell BK148.out 3).trans rfl
                                have hcz53_4 : wc.cell? ⟨gb148, 4, none⟩ = some (.int .u8 ((rd_T38 l0 x6_1).f2.f1)) := (blk_cell BK148.out 4).trans rfl
                                have hcz53_5 : wc.cell? ⟨gb148, 5, none⟩ = some (.int .u8 ((rd_T38 l0 x6_1).f2.f2)) := (blk_cell BK148.out 5).trans rfl
                                have hcz53_6 : wc.cell? ⟨gb148, 6, none⟩ = some (.int .u8 ((rd_T38 l0 x6_1).f2.f3)) := (blk_cell BK148.out 6).trans rfl
                                have hcz53_7 : wc.cell? ⟨gb148, 7, none⟩ = some (.int .u8 ((rd_T38 l0 x6_1).f2.f4)) := (blk_cell BK148.out 7).trans rfl
                                have hcz53_8 : wc.cell? ⟨gb148, 8, none⟩ = some (.int .u8 ((rd_T38 l0 x6_1).f2.f5)) := (blk_cell BK148.out 8).trans rfl
                                have hfz53_0 := blk_frozen BK148.out 0
                                have hfz53_1 := blk_frozen BK148.out 1
                                have hfz53_2 := blk_frozen BK148.out 2
                                have hfz53_3 := blk_frozen BK148.out 3
                                have hfz53_4 := blk_frozen BK148.out 4
                                have hfz53_5 := blk_frozen BK148.out 5
                                have hfz53_6 := blk_frozen BK148.out 6
                                have hfz53_7 := blk_frozen BK148.out 7
                                have hfz53_8 := blk_frozen BK148.out 8
                                go_wp2_with (first | ((with_reducible refine gate_callee (f := 21) rfl ?_); refine goesL_ (some 86) rfl rfl Try.func21 (by kernel_rfl) rfl #[.agg #[.int .u32 ((rd_T38 l0 x6_1).f1.f0), .int .i64 ((rd_T38 l0 x6_1).f1.f1)]] rfl (by (try simp only [List.map_toArray, List.map_cons, List.map_nil]); first | done | rfl | (simp only [List.length_drop, List.length_take]; rfl)) ?_; (with_reducible refine (addr_Valid.calls kj31 ((rd_T38 l0 x6_1).f1.f0) ((rd_T38 l0 x6_1).f1.f1) t167 _ A49.out).mono ?_); rintro e w54 ⟨rfl, hb⟩; refine ⟨_, rfl, ?_⟩; have n0_ := Aside0.mk (blk_below (g := gb148) (o := .cells #[.int .u32 ((rd_T38 l0 x6_1).f0), .int .u32 ((rd_T38 l0 x6_1).f1.f0), .int .i64 ((rd_T38 l0 x6_1).f1.f1), .int .u8 ((rd_T38 l0 x6_1).f2.f0), .int .u8 ((rd_T38 l0 x6_1).f2.f1), .int .u8 ((rd_T38 l0 x6_1).f2.f2), .int .u8 ((rd_T38 l0 x6_1).f2.f3), .int .u8 ((rd_T38 l0 x6_1).f2.f4), .int .u8 ((rd_T38 l0 x6_1).f2.f5)] 38 (0, 0)) (by (with_reducible repeat (first | refine blk_drewN ?_ _ | refine blk_drew ?_ | refine blk_alloc ?_ _)); exact BK148.out) hb); have n1_ := Aside0.mk (blk_below (g := gb160) (o := .cells #[.int .u8 t153, .int .u8 t154, .int .u8 t155, .int .u8 t156, .int .u8 t157, .int .u8 t158] 36 (0, 0)) (by (with_reducible repeat (first | refine blk_drewN ?_ _ | refine blk_drew ?_ | refine blk_alloc ?_ _)); exact BK160.out) hb); have n2_ := Aside0.mk (blk_below (g := gb166) (o := .cells #[.int .u32 t163, .int .i64 t164] 32 (0, 0)) (by (with_reducible repeat (first | refine blk_drewN ?_ _ | refine blk_drew ?_ | refine blk_alloc ?_ _)); exact BK166.out) hb); have n3_ := Aside0.mk (below_step (by repeat (first | (with_reducible first | exact HB.out | apply below_alloc | apply pw_below_drewN | apply below_drew1 | refine below_set ?_ GE148.out | refine below_set ?_ GE160.out | refine below_set ?_ GE166.out) | exact HB.out)) hb); clear BK148; clear BK160; clear BK166; clear HB; have BK148 := n0_; have BK160 := n1_; have BK166 := n2_; have HB := n3_; clear n0_ n1_ n2_ n3_; (try clear hb); (try clear hb2); (try clear hk); (try clear hi)))
                                go_ret
                                exact ⟨by first | rfl | (simp [errW_none, errW_some] <;> rfl) | (simp [*, errW_none, errW_some] <;> rfl), by repeat (first | (with_reducible first | exact HB.out | apply below_alloc | apply pw_below_drewN | apply below_drew1 | refine below_set ?_ GE148.out | refine below_set ?_ GE160.out | refine below_set ?_ GE166.out) | exact HB.out)⟩
                              · rw [if_neg c50] at H
                                have c50b0 : (t167 != (t162 == 0)) = false := by simpa using c50
                                (try (have c50b1 : decide (t167 = (t162 == 0)) = true := by simpa using c50))
                                (try (have c50b2 : (t167 == (t162 == 0)) = true := by simpa using c50))
                                clear c50
                                have H' := Aside0.mk H
                                clear H
                                have hnb55 := NB148_160.out
                                have hnc55 := NB160_148.out
                                have hnb56 := NB148_166.out
                                have hnc56 := NB166_148.out
                                have hcz57_0 : wc.cell? ⟨gb148, 0, none⟩ = some (.int .u32 ((rd_T38 l0 x6_1).f0)) := (blk_cell BK148.out 0).trans rfl
                                have hcz57_1 : wc.cell? ⟨gb148, 1, none⟩ = some (.int .u32 ((rd_T38 l0 x6_1).f1.f0)) := (blk_cell BK148.out 1).trans rfl
                                have hcz57_2 : wc.cell? ⟨gb148, 2, none⟩ = some (.int .i64 ((rd_T38 l0 x6_1).f1.f1)) := (blk_cell BK148.out 2).trans rfl
                                have hcz57_3 : wc.cell? ⟨gb148, 3, none⟩ = some (.int .u8 ((rd_T38 l0 x6_1).f2.f0)) := (blk_cell BK148.out 3).trans rfl
                                have hcz57_4 : wc.cell? ⟨gb148, 4, none⟩ = some (.int .u8 ((rd_T38 l0 x6_1).f2.f1)) := (blk_cell BK148.out 4).trans rfl
                                have hcz57_5 : wc.cell? ⟨gb148, 5, none⟩ = some (.int .u8 ((rd_T38 l0 x6_1).f2.f2)) := (blk_cell BK148.out 5).trans rfl
                                have hcz57_6 : wc.cell? ⟨gb148, 6, none⟩ = some (.int .u8 ((rd_T38 l0 x6_1).f2.f3)) := (blk_cell BK148.out 6).trans rfl
                                have hcz57_7 : wc.cell? ⟨gb148, 7, none⟩ = some (.int .u8 ((rd_T38 l0 x6_1).f2.f4)) := (blk_cell BK148.out 7).trans rfl
                                have hcz57_8 : wc.cell? ⟨gb148, 8, none⟩ = some (.int .u8 ((rd_T38 l0 x6_1).f2.f5)) := (blk_cell BK148.out 8).trans rfl
                                have hfz57_0 := blk_frozen BK148.out 0
                                have hfz57_1 := blk_frozen BK148.out 1
                                have hfz57_2 := blk_frozen BK148.out 2
                                have hfz57_3 := blk_frozen BK148.out 3
                                have hfz57_4 := blk_frozen BK148.out 4
                                have hfz57_5 := blk_frozen BK148.out 5
                                have hfz57_6 := blk_frozen BK148.out 6
                                have hfz57_7 := blk_frozen BK148.out 7
                                have hfz57_8 := blk_frozen BK148.out 8
                                go_wp2_with (first | ((with_reducible refine gate_callee (f := 21) rfl ?_); refine goesL_ (some 86) rfl rfl Try.func21 (by kernel_rfl) rfl #[.agg #[.int .u32 ((rd_T38 l0 x6_1).f1.f0), .int .i64 ((rd_T38 l0 x6_1).f1.f1)]] rfl (by (try simp only [List.map_toArray, List.map_cons, List.map_nil]); first | done | rfl | (simp only [List.length_drop, List.length_take]; rfl)) ?_; (with_reducible refine (addr_Valid.calls kj31 ((rd_T38 l0 x6_1).f1.f0) ((rd_T38 l0 x6_1).f1.f1) t167 _ A49.out).mono ?_); rintro e w58 ⟨rfl, hb⟩; refine ⟨_, rfl, ?_⟩; have n0_ := Aside0.mk (blk_below (g := gb148) (o := .cells #[.int .u32 ((rd_T38 l0 x6_1).f0), .int .u32 ((rd_T38 l0 x6_1).f1.f0), .int .i64 ((rd_T38 l0 x6_1).f1.f1), .int .u8 ((rd_T38 l0 x6_1).f2.f0), .int .u8 ((rd_T38 l0 x6_1).f2.f1), .int .u8 ((rd_T38 l0 x6_1).f2.f2), .int .u8 ((rd_T38 l0 x6_1).f2.f3), .int .u8 ((rd_T38 l0 x6_1).f2.f4), .int .u8 ((rd_T38 l0 x6_1).f2.f5)] 38 (0, 0)) (by (with_reducible repeat (first | refine blk_drewN ?_ _ | refine blk_drew ?_ | refine blk_alloc ?_ _)); exact BK148.out) hb); have n1_ := Aside0.mk (blk_below (g := gb160) (o := .cells #[.int .u8 t153, .int .u8 t154, .int .u8 t155, .int .u8 t156, .int .u8 t157, .int .u8 t158] 36 (0, 0)) (by (with_reducible repeat (first | refine blk_drewN ?_ _ | refine blk_drew ?_ | refine blk_alloc ?_ _)); exact BK160.out) hb); have n2_ := Aside0.mk (blk_below (g := gb166) (o := .cells #[.int .u32 t163, .int .i64 t164] 32 (0, 0)) (by (with_reducible repeat (first | refine blk_drewN ?_ _ | refine blk_drew ?_ | refine blk_alloc ?_ _)); exact BK166.out) hb); have n3_ := Aside0.mk (below_step (by repeat (first | (with_reducible first | exact HB.out | apply below_alloc | apply pw_below_drewN | apply below_drew1 | refine below_set ?_ GE148.out | refine below_set ?_ GE160.out | refine below_set ?_ GE166.out) | exact HB.out)) hb); clear BK148; clear BK160; clear BK166; clear HB; have BK148 := n0_; have BK160 := n1_; have BK166 := n2_; have HB := n3_; clear n0_ n1_ n2_ n3_; (try clear hb); (try clear hb2); (try clear hk); (try clear hi)))
                                go_roundg kj31
                                case measure => have := HK1.out; have := HJ8.out; have := HJ17.out; have := HJ31.out; omega
                                case rel => exact ⟨(wrap64 (x6_1 + 1)), (by first | rfl | (simp; done) | (simp [*]; done)), H', ⟨by have := HK1.out; have := HJ8.out; have := HJ17.out; have := HJ31.out; omega⟩, ⟨by repeat (first | (with_reducible first | exact HB.out | apply below_alloc | apply pw_below_drewN | apply below_drew1 | refine below_set ?_ GE148.out | refine below_set ?_ GE160.out | refine below_set ?_ GE166.out) | exact HB.out)⟩⟩
          · rw [if_neg c6] at H
            exact absurd H (by simp)
        · rw [if_neg c5] at H
          have c5b0 : decide (x6_1 < (l0.length : Int)) = false := decide_eq_false c5
          clear c5
          have H' := Aside0.mk H
          clear H
          go_wp2
          go_loopg [15] k1 (fun kq v15 w' => ∃ (x15_2 : Int), v15 = .int .i64 x15_2 ∧ Aside0 (weftlaw1_AddrTwoWays.l1 kq l1 x15_2 = some r) ∧ Aside0 (kq ≤ k1) ∧ Aside0 (Below w.heap.size w w'))
          case atStart => exact ⟨(0), (by first | rfl | (simp; done) | (simp [*]; done)), H', ⟨Nat.le_refl _⟩, ⟨by repeat (first | (with_reducible first | exact HB.out | apply below_alloc | apply pw_below_drewN | apply below_drew1) | exact HB.out)⟩⟩
          case round =>
            clear H'
            try clear c1
            try clear p1
            try clear q1
            try clear hx1
            try clear c2
            try clear p2
            try clear c3
            try clear c4
            try clear c5
            try clear c5b0
            try clear c6
            try clear c6b0
            try clear p6
            try clear c9
            try clear c13
            try clear c13b0
            try clear c13b1
            try clear p14
            try clear q14
            try clear hx14
            try clear c15
            try clear c16
            try clear c17
            try clear c18
            try clear c19
            try clear c20
            try clear c21
            try clear c23
            try clear c25
            try clear c25b0
            try clear c25b1
            try clear c26
            try clear c29
            try clear c33
            try clear c38
            try clear c39
            try clear c41
            try clear c41b0
            try clear c41b1
            try clear c42
            try clear c42b0
            try clear c42b1
            try clear c43
            try clear c44
            try clear c46
            try clear c48
            try clear c50
            try clear c50b0
            try clear c50b1
            try clear c50b2
            try clear c51
            try clear c52
            try clear c55
            try clear c56
            try clear hcz11_0
            try clear hcz11_1
            try clear hcz11_2
            try clear hcz11_3
            try clear hcz11_4
            try clear hcz11_5
            try clear hcz11_6
            try clear hcz11_7
            try clear hcz11_8
            try clear hcz14_0
            try clear hcz14_1
            try clear hcz14_2
            try clear hcz14_3
            try clear hcz14_4
            try clear hcz14_5
            try clear hcz14_6
            try clear hcz14_7
            try clear hcz14_8
            try clear hcz19_0
            try clear hcz19_1
            try clear hcz19_2
            try clear hcz19_3
            try clear hcz19_4
            try clear hcz19_5
            try clear hcz19_6
            try clear hcz19_7
            try clear hcz19_8
            try clear hcz24_0
            try clear hcz24_1
            try clear hcz24_2
            try clear hcz24_3
            try clear hcz24_4
            try clear hcz24_5
            try clear hcz27_0
            try clear hcz27_1
            try clear hcz27_2
            try clear hcz27_3
            try clear hcz27_4
            try clear hcz27_5
            try clear hcz28_0
            try clear hcz28_1
            try clear hcz28_2
            try clear hcz28_3
            try clear hcz28_4
            try clear hcz28_5
            try clear hcz28_6
            try clear hcz28_7
            try clear hcz28_8
            try clear hcz34_0
            try clear hcz34_1
            try clear hcz34_2
            try clear hcz34_3
            try clear hcz34_4
            try clear hcz34_5
            try clear hcz34_6
            try clear hcz34_7
            try clear hcz34_8
            try clear hcz40_0
            try clear hcz40_1
            try clear hcz45_0
            try clear hcz45_1
            try clear hcz47_0
            try clear hcz47_1
            try clear hcz47_2
            try clear hcz47_3
            try clear hcz47_4
            try clear hcz47_5
            try clear hcz47_6
            try clear hcz47_7
            try clear hcz47_8
            try clear hcz53_0
            try clear hcz53_1
            try clear hcz53_2
            try clear hcz53_3
            try clear hcz53_4
            try clear hcz53_5
            try clear hcz53_6
            try clear hcz53_7
            try clear hcz53_8
            try clear hcz57_0
            try clear hcz57_1
            try clear hcz57_2
            try clear hcz57_3
            try clear hcz57_4
            try clear hcz57_5
            try clear hcz57_6
            try clear hcz57_7
            try clear hcz57_8
            try clear hfz11_0
            try clear hfz11_1
            try clear hfz11_2
            try clear hfz11_3
            try clear hfz11_4
            try clear hfz11_5
            try clear hfz11_6
            try clear hfz11_7
            try clear hfz11_8
            try clear hfz14_0
            try clear hfz14_1
            try clear hfz14_2
            try clear hfz14_3
            try clear hfz14_4
            try clear hfz14_5
            try clear hfz14_6
            try clear hfz14_7
            try clear hfz14_8
            try clear hfz19_0
            try clear hfz19_1
            try clear hfz19_2
            try clear hfz19_3
            try clear hfz19_4
            try clear hfz19_5
            try clear hfz19_6
            try clear hfz19_7
            try clear hfz19_8
            try clear hfz24_0
            try clear hfz24_1
            try clear hfz24_2
            try clear hfz24_3
            try clear hfz24_4
            try clear hfz24_5
            try clear hfz27_0
            try clear hfz27_1
            try clear hfz27_2
            try clear hfz27_3
            try clear hfz27_4
            try clear hfz27_5
            try clear hfz28_0
            try clear hfz28_1
            try clear hfz28_2
            try clear hfz28_3
            try clear hfz28_4
            try clear hfz28_5
            try clear hfz28_6
            try clear hfz28_7
            try clear hfz28_8
            try clear hfz34_0
            try clear hfz34_1
            try clear hfz34_2
            try clear hfz34_3
            try clear hfz34_4
            try clear hfz34_5
            try clear hfz34_6
            try clear hfz34_7
            try clear hfz34_8
            try clear hfz40_0
            try clear hfz40_1
            try clear hfz45_0
            try clear hfz45_1
            try clear hfz47_0
            try clear hfz47_1
            try clear hfz47_2
            try clear hfz47_3
            try clear hfz47_4
            try clear hfz47_5
            try clear hfz47_6
            try clear hfz47_7
            try clear hfz47_8
            try clear hfz53_0
            try clear hfz53_1
            try clear hfz53_2
            try clear hfz53_3
            try clear hfz53_4
            try clear hfz53_5
            try clear hfz53_6
            try clear hfz53_7
            try clear hfz53_8
            try clear hfz57_0
            try clear hfz57_1
            try clear hfz57_2
            try clear hfz57_3
            try clear hfz57_4
            try clear hfz57_5
            try clear hfz57_6
            try clear hfz57_7
            try clear hfz57_8
            try clear hx147_0
            try clear hx147_1
            try clear hx147_2
            try clear hx147_3
            try clear hx147_4
            try clear hx147_5
            try clear hx147_6
            try clear hx147_7
            try clear hx147_8
            try clear p1
            try clear p14
            try clear p147
            try clear p2
            try clear q1
            try clear q14
            try clear q147
            obtain ⟨x15_2, rfl, HA, HK2, HB⟩ := hrel
            cases gk with
            | zero => exact absurd HA.out (by simp [weftlaw1_AddrTwoWays.l1])
            | succ k2 =>
              have H := HA.out
              clear HA
              simp only [weftlaw1_AddrTwoWays.l1] at H
              by_cases c59 : x15_2 < (l1.length : Int)
              · rw [if_pos c59] at H
                have c59b0 : decide (x15_2 < (l1.length : Int)) = true := decide_eq_true c59
                clear c59
                by_cases c60 : 0 ≤ x15_2
                · rw [if_pos c60] at H
                  have c60b0 : decide (0 ≤ x15_2) = true := decide_eq_true c60
                  clear c60
                  replace H := Option.bind_eq_some_iff.mp H
                  obtain ⟨t169, A610, H⟩ := H
                  replace H : (if t169 = true then (weftlaw1_AddrTwoWays.l1 k2 l1 (wrap64 (x15_2 + 1))) else (some false)) = some r := H
                  have A61 := Aside0.mk A610
                  clear A610
                  by_cases c62 : t169 = true
                  · subst c62
                    have H1 : (weftlaw1_AddrTwoWays.l1 k2 l1 (wrap64 (x15_2 + 1))) = some r := by rw [if_pos rfl] at H; exact H
                    clear H
                    have H := H1
                    clear H1
                    have H' := Aside0.mk H
                    clear H
                    have p168 : 0 ≤ (x15_2 : Int) := of_decide_eq_true (by first | (with_reducible assumption) | assumption)
                    have q168 : x15_2 < (l1.length : Int) := of_decide_eq_true (by first | (with_reducible assumption) | assumption)
                    obtain ⟨ad168, e168, hx168_0⟩ := Kd.at_string HR1.out x15_2 p168 q168
                    cases e168
                    replace hx168_0 := (HB.out.cell (World.block_lt_of_cell? w _ hx168_0)).trans hx168_0
                    replace p168 := eq_true p168
                    replace q168 := eq_true q168
                    go_wp2_with (first | ((with_reducible refine gate_callee (f := 22) rfl ?_); refine goesL_ (some 101) rfl rfl Try.func22 (by kernel_rfl) rfl #[.string (rdOf ByteArray.empty l1 x15_2)] rfl (by (try simp only [List.map_toArray, List.map_cons, List.map_nil]); first | done | rfl | (simp only [List.length_drop, List.length_take]; rfl)) ?_; (with_reducible refine (weftlaw1_again.calls k2 (rdOf ByteArray.empty l1 x15_2) true _ A61.out).mono ?_); rintro e w63 ⟨rfl, hb⟩; refine ⟨_, rfl, ?_⟩; have n0_ := Aside0.mk (below_step (by repeat (first | (with_reducible first | exact HB.out | apply below_alloc | apply pw_below_drewN | apply below_drew1) | exact HB.out)) hb); clear HB; have HB := n0_; clear n0_; (try clear hb); (try clear hb2); (try clear hk); (try clear hi)))
                    go_roundg k2
                    case measure => have := HK1.out; have := HK2.out; omega
                    case rel => exact ⟨(wrap64 (x15_2 + 1)), (by first | rfl | (simp; done) | (simp [*]; done)), H', ⟨by have := HK1.out; have := HK2.out; omega⟩, ⟨by repeat (first | (with_reducible first | exact HB.out | apply below_alloc | apply pw_below_drewN | apply below_drew1) | exact HB.out)⟩⟩
                  · replace c62 := Bool.eq_false_iff.mpr c62
                    subst c62
                    have H1 : (some false) = some r := by rw [if_neg (show ¬ (false = true) by decide)] at H; exact H
                    clear H
                    have H := H1
                    clear H1
                    obtain rfl := Option.some.inj H
                    have p168 : 0 ≤ (x15_2 : Int) := of_decide_eq_true (by first | (with_reducible assumption) | assumption)
                    have q168 : x15_2 < (l1.length : Int) := of_decide_eq_true (by first | (with_reducible assumption) | assumption)
                    obtain ⟨ad168, e168, hx168_0⟩ := Kd.at_string HR1.out x15_2 p168 q168
                    cases e168
                    replace hx168_0 := (HB.out.cell (World.block_lt_of_cell? w _ hx168_0)).trans hx168_0
                    replace p168 := eq_true p168
                    replace q168 := eq_true q168
                    go_wp2_with (first | ((with_reducible refine gate_callee (f := 22) rfl ?_); refine goesL_ (some 101) rfl rfl Try.func22 (by kernel_rfl) rfl #[.string (rdOf ByteArray.empty l1 x15_2)] rfl (by (try simp only [List.map_toArray, List.map_cons, List.map_nil]); first | done | rfl | (simp only [List.length_drop, List.length_take]; rfl)) ?_; (with_reducible refine (weftlaw1_again.calls k2 (rdOf ByteArray.empty l1 x15_2) false _ A61.out).mono ?_); rintro e w64 ⟨rfl, hb⟩; refine ⟨_, rfl, ?_⟩; have n0_ := Aside0.mk (below_step (by repeat (first | (with_reducible first | exact HB.out | apply below_alloc | apply pw_below_drewN | apply below_drew1) | exact HB.out)) hb); clear HB; have HB := n0_; clear n0_; (try clear hb); (try clear hb2); (try clear hk); (try clear hi)))
                    go_ret
                    exact ⟨by first | rfl | (simp [errW_none, errW_some] <;> rfl) | (simp [*, errW_none, errW_some] <;> rfl), by repeat (first | (with_reducible first | exact HB.out | apply below_alloc | apply pw_below_drewN | apply below_drew1) | exact HB.out)⟩
                · rw [if_neg c60] at H
                  exact absurd H (by simp)
              · rw [if_neg c59] at H
                have c59b0 : decide (x15_2 < (l1.length : Int)) = false := decide_eq_false c59
                clear c59
                obtain rfl := Option.some.inj H
                go_wp2
                go_ret
                exact ⟨by first | rfl | (simp [errW_none, errW_some] <;> rfl) | (simp [*, errW_none, errW_some] <;> rfl), by repeat (first | (with_reducible first | exact HB.out | apply below_alloc | apply pw_below_drewN | apply below_drew1) | exact HB.out)⟩
  · replace c4 := Bool.eq_false_iff.mpr c4
    subst c4
    have H1 : (some false) = some r := by rw [if_neg (show ¬ (false = true) by decide)] at H; exact H
    clear H
    have H := H1
    clear H1
    obtain rfl := Option.some.inj H
    go_enter Try.func5, Try.ntmps5
    go_wp2_with (first | ((with_reducible refine gate_callee (f := 9) rfl ?_); refine goesL_ (some 16) rfl rfl Try.func9 (by kernel_rfl) rfl #[] rfl (by (try simp only [List.map_toArray, List.map_cons, List.map_nil]); first | done | rfl | (simp only [List.length_drop, List.length_take]; rfl)) ?_; (with_reducible refine (weftlaw1_begun.calls k  false _ A3.out).mono ?_); rintro e w' ⟨rfl, ⟨nd, rfl⟩⟩; refine ⟨_, rfl, ?_⟩))
    go_ret
    exact ⟨by first | rfl | (simp [errW_none, errW_some] <;> rfl) | (simp [*, errW_none, errW_some] <;> rfl), by repeat (first | (with_reducible first | exact HB.out | apply below_alloc | apply pw_below_drewN | apply below_drew1) | exact HB.out)⟩

end Go.Proofs.Ytncpcjphljfcpaa.PTwo
