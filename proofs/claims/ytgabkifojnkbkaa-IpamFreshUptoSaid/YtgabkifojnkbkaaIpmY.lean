/- cmp.Less and the insertion sort at u32 walked. No condition beyond the row's own. -/
import Derived.Test.YtgabkifojnkbkaaIpmX
import Derived.Deep.QuietTactic
import Derived.BigQuiet
set_option linter.unusedVariables false
set_option linter.unusedSimpArgs false
namespace Go.Proofs.Ytgabkifojnkbkaa.Ip
open Go.RowKit Go.Maps Go.WideMaps Go.MapKept Go.Proofs.YtgabkifojnkbkaaW.PrintWords Go.Proofs.Ytgabkifojnkbkaa.PIpf
def atA (l : List Int) (j : Nat) : Int := l.getD j 0
def swA (l : List Int) (j : Nat) : List Int := (l.set (j + 1) (atA l j)).set j (atA l (j + 1))
def bubA : Nat → List Int → List Int
  | 0, l => l
  | j + 1, l => if atA l (j + 1) < atA l j then bubA j (swA l j) else l
def runA (l : List Int) : Nat → List Int
  | 0 => l
  | k + 1 => bubA (k + 1) (runA l k)
def insA (l : List Int) : List Int := runA l (l.length - 1)
theorem swA_length (l : List Int) (j : Nat) : (swA l j).length = l.length := by simp [swA]
theorem bubA_length : ∀ (j : Nat) (l : List Int), (bubA j l).length = l.length
  | 0, _ => rfl
  | j + 1, l => by
    rw [bubA]
    split
    · rw [bubA_length, swA_length]
    · rfl
theorem runA_length (l : List Int) : ∀ k, (runA l k).length = l.length
  | 0 => rfl
  | k + 1 => by rw [runA, bubA_length, runA_length l k]
theorem row_atA {w : World} {base g n cap : Nat} {l : List Int} (h : w.ownsRow base 23 1 (.slice (some ⟨g, 0, none⟩) n cap) n (l.map encA)) (i : Nat) (hi : i < l.length) : w.cell? ⟨g, i, none⟩ = some (.int .u32 (atA l i)) := by
  have a := h.cells (g := g) rfl i (.int .u32 (atA l i)) (by simp [atA, List.getD_eq_getElem?_getD, List.getElem?_eq_getElem hi])
  rwa [add_plain] at a
theorem row_setA {w : World} {base g n cap : Nat} {l : List Int} (h : w.ownsRow base 23 1 (.slice (some ⟨g, 0, none⟩) n cap) n (l.map encA)) (j : Nat) (x : Int) :
    (w.setCell ⟨g, j, none⟩ (.int .u32 x)).ownsRow base 23 1 (.slice (some ⟨g, 0, none⟩) n cap) n ((l.set j x).map encA) := by
  have h1 := (h.stored j (.int .u32 x)).1
  rwa [show (l.map encA).set j (.int .u32 x) = (l.set j x).map encA from by rw [List.map_set]] at h1
theorem nan82 (w : World) (a : Int) : Calls Try.prog 82 #[.int .u32 a] w fun e w' => e = .returned (.bool false) ∧ w' = w := by
  go_enter Try.func82, Try.ntmps82
  go_wp2
  go_ret
  exact ⟨by simp, rfl⟩
theorem less72 (w : World) (a b : Int) : Calls Try.prog 72 #[.int .u32 a, .int .u32 b] w fun e w' => e = .returned (.bool (decide (a < b))) ∧ w' = w := by
  have hn := nan82
  go_enter Try.func72, Try.ntmps72
  go_wp2_with (first | (go_at_call 82; refine (hn _ _).mono ?_; rintro e_ w1 ⟨rfl, rfl⟩) | go_in)
  go_ret
  exact ⟨rfl, rfl⟩
set_option maxHeartbeats 16000000 in
set_option maxRecDepth 100000 in
theorem ins66 (w : World) (base g n cap : Nat) (l : List Int) (hn : l.length = n) (hm : n ≤ 4294967296) (hrow : w.ownsRow base 23 1 (.slice (some ⟨g, 0, none⟩) n cap) n (l.map encA)) (hbase : base ≤ w.heap.size) :
    Calls Try.prog 66 #[.slice (some ⟨g, 0, none⟩) n cap, .int .i64 0, .int .i64 n] w fun e w' => e = .returned (.tuple #[]) ∧ w'.ownsRow base 23 1 (.slice (some ⟨g, 0, none⟩) n cap) n ((insA l).map encA) ∧ Below base w w' := by
  have HROW := Aside0.mk hrow
  have HBASE := Aside0.mk hbase
  have HM := Aside0.mk hm
  have hg1 : base ≤ g := (hrow.lt g rfl).1
  have HG := Aside0.mk hg1
  have hless := less72
  clear hrow hbase hg1
  go_enter Try.func66, Try.ntmps66
  go_wp2
  have h1 : IntKind.i64.wrap ((0 : Int) + 1) = 1 := by decide
  go_loopw [6] (fun vi wr => ∃ (i : Nat), vi = .int .i64 ((i + 1 : Nat) : Int) ∧ (i ≤ n - 1) ∧ Aside0 (wr.ownsRow base 23 1 (.slice (some ⟨g, 0, none⟩) n cap) n ((runA l i).map encA)) ∧ Aside0 (Below base w wr)) (fun vi _ => n - (intOf vi).toNat)
  case atStart => exact ⟨0, rfl, by omega, HROW, ⟨Below.refl _ _⟩⟩
  case round =>
    obtain ⟨i, rfl, hi, HO, HB⟩ := hrel
    by_cases hlt : i + 1 < n
    · have hli : ((i + 1 : Nat) : Int) < (n : Int) := by omega
      go_wp2
      go_loopw [7] (fun vj wr2 => ∃ (j : Nat) (lj : List Int), vj = .int .i64 j ∧ j ≤ i + 1 ∧ lj.length = n ∧ Aside0 (wr2.ownsRow base 23 1 (.slice (some ⟨g, 0, none⟩) n cap) n (lj.map encA)) ∧ Aside0 (Below base w wr2) ∧ Aside0 (bubA j lj = runA l (i + 1))) (fun vj _ => (intOf vj).toNat)
      case atStart => exact ⟨i + 1, runA l i, rfl, Nat.le_refl _, by rw [runA_length]; exact hn, HO, HB, ⟨rfl⟩⟩
      case round =>
        clear HO HB
        obtain ⟨j, lj, rfl, hj, hlj, HO, HB, HK⟩ := hrel
        cases j with
        | zero =>
          have HKK : Aside0 (lj = runA l (i + 1)) := ⟨HK.out⟩
          clear HK
          go_wp2
          go_quiet (fail)
          go_wp2
          go_roundw
          case rel => exact ⟨i + 1, by go_num, by omega, ⟨by rw [← HKK.out]; exact HO.out⟩, ⟨pw_below_drewN HB.out _⟩⟩
          case measure => simp [intOf]; omega
        | succ m =>
          rw [show ((m + 1 : Nat) : Int) = (m : Int) + 1 from by omega]
          have hm0 : (0 : Int) < (m : Int) + 1 := by omega
          have hmi : (m : Int) + 1 < (n : Int) := by omega
          have hmi2 : (m : Int) < (n : Int) := by omega
          have hw1 : IntKind.i64.wrap ((m : Int) + 1 - 1) = (m : Int) := by rw [show (m : Int) + 1 - 1 = (m : Int) from by omega]; exact wrap64_id (by omega) (by omega)
          have c1 := row_atA HO.out (m + 1) (by omega)
          have c0 := row_atA HO.out m (by omega)
          have hbub : bubA (m + 1) lj = if atA lj (m + 1) < atA lj m then bubA m (swA lj m) else lj := rfl
          rw [HK.out] at hbub
          by_cases hlt2 : atA lj (m + 1) < atA lj m
          · rw [if_pos hlt2] at hbub
            have HBUB := Aside0.mk hbub
            have hlsw : (swA lj m).length = n := by rw [swA_length]; exact hlj
            have HLSW := Aside0.mk hlsw
            have hpq := Aside0.mk (fun (wq : World) (ho : wq.ownsRow base 23 1 (.slice (some ⟨g, 0, none⟩) n cap) n (lj.map encA)) =>
              (show _ ∧ _ ∧ _ from ⟨row_atA ho (m + 1) (by omega), row_atA ho m (by omega), row_setA (row_setA ho (m + 1) (atA lj m)) m (atA lj (m + 1))⟩))
            have hsl : ((lj.set (m + 1) (atA lj m)).set m (atA lj (m + 1))) = swA lj m := rfl
            rw [hsl] at hpq
            clear hbub HK hlsw hlj hsl
            generalize swA lj m = sl at *
            generalize atA lj (m + 1) = a1 at *
            generalize atA lj m = a0 at *
            go_wp2
            go_quiet ((go_at_call 72; exact Calls.quiet_of_same (hless _ _ _)))
            obtain ⟨wq, hq⟩ : ∃ wq, wq = wr.drewN nq := ⟨_, rfl⟩
            rw [← hq]
            have HOq : Aside0 (wq.ownsRow base 23 1 (.slice (some ⟨g, 0, none⟩) n cap) n (lj.map encA)) := ⟨by rw [hq]; exact HO.out⟩
            have HBq : Aside0 (Below base w wq) := ⟨by rw [hq]; exact pw_below_drewN HB.out _⟩
            clear hq c1 c0 HO HB
            obtain ⟨c1, c0, hsw⟩ := hpq.out wq HOq.out
            have f1 := HOq.out.frozenAt (g := g) (m + 1)
            have f3 := HOq.out.frozenAt (g := g) m
            have hgq : g < wq.heap.size := (HOq.out.lt g rfl).2
            have HSW := Aside0.mk hsw
            clear hsw hpq
            go_wp2
            go_region
            all_goals
              go_wp2
              exact ⟨⟨m, sl, rfl, by omega, HLSW.out, ⟨HSW.out⟩, ⟨(HBq.out.setCell (p := ⟨g, _, none⟩) HG.out _).setCell (p := ⟨g, _, none⟩) HG.out _ |>.drew⟩, ⟨HBUB.out.symm⟩⟩, by simp [intOf]⟩
          · rw [if_neg hlt2] at hbub
            have HKK : Aside0 (lj = runA l (i + 1)) := ⟨hbub.symm⟩
            have hdec : decide (atA lj (m + 1) < atA lj m) = false := by simpa using hlt2
            clear hbub HK
            generalize atA lj (m + 1) = a1 at *
            generalize atA lj m = a0 at *
            go_wp2
            go_quiet ((go_at_call 72; exact Calls.quiet_of_same (hless _ _ _)))
            go_wp2
            go_roundw
            case rel => exact ⟨i + 1, by go_num, by omega, ⟨by rw [← HKK.out]; exact HO.out⟩, ⟨pw_below_drewN HB.out _⟩⟩
            case measure => simp [intOf]; omega
    · have he : i = l.length - 1 := by omega
      subst he
      go_wp2
      go_end0
      exact ⟨rfl, HO.out, HB.out⟩
end Go.Proofs.Ytgabkifojnkbkaa.Ip
