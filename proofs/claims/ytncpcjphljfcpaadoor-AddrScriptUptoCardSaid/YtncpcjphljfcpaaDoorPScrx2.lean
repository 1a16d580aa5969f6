-- written by xp.sh, a program of this seat's session
import Derived.Test.YtncpcjphljfcpaaDoorPScrx0
namespace Go.Proofs.YtncpcjphljfcpaaDoor.PScr
open Go.RowKit Go.Proofs.YtncpcjphljfcpaaDoorW.PrintWords Go.Proofs.YtncpcjphljfcpaaDoorW.PrintLast Go.Proofs.YtncpcjphljfcpaaDoorW.PrintMore
attribute [local go_sem] max2_int min2_int max_two min_two max_three min_three max_four min_four   -- for this text's walks alone
set_option linter.unusedVariables false
set_option linter.unusedSimpArgs false

theorem eqA33 (d : Nat) (w : World) (x0 y0 : Int) (x1 y1 : Int) (x2 y2 : Int) (x3 y3 : Int) (x4 y4 : Int) (x5 y5 : Int) :
    (Op.equalIn (d + 2) 33 (.agg #[.int .u8 x0, .int .u8 x1, .int .u8 x2, .int .u8 x3, .int .u8 x4, .int .u8 x5]) (.agg #[.int .u8 y0, .int .u8 y1, .int .u8 y2, .int .u8 y3, .int .u8 y4, .int .u8 y5])).run Tryd.prog w = .ok (x0 == y0 && (x1 == y1 && (x2 == y2 && (x3 == y3 && (x4 == y4 && (x5 == y5)))))) w := by
  have hl : List.range 6 = [0, 1, 2, 3, 4, 5] := rfl
  have hc : Tryd.prog.cellsOf 5 = 1 := by kernel_rfl
  obtain ⟨i, hi⟩ : ∃ i, Tryd.prog.info? 5 = some i := Option.isSome_iff_exists.1 (by kernel_rfl)
  rw [run_equalIn_array w (d + 1) _ _ Tryd.underlying33 hi, hl, hc]
  refine Go.Proofs.YtncpcjphljfcpaaDoorW.XOpen.eqi_cons (by go_simp; rfl) (by go_simp; rfl) (by go_simp) ?_
  refine Go.Proofs.YtncpcjphljfcpaaDoorW.XOpen.eqi_cons (by go_simp; rfl) (by go_simp; rfl) (by go_simp) ?_
  refine Go.Proofs.YtncpcjphljfcpaaDoorW.XOpen.eqi_cons (by go_simp; rfl) (by go_simp; rfl) (by go_simp) ?_
  refine Go.Proofs.YtncpcjphljfcpaaDoorW.XOpen.eqi_cons (by go_simp; rfl) (by go_simp; rfl) (by go_simp) ?_
  refine Go.Proofs.YtncpcjphljfcpaaDoorW.XOpen.eqi_cons (by go_simp; rfl) (by go_simp; rfl) (by go_simp) ?_
  exact Go.Proofs.YtncpcjphljfcpaaDoorW.XOpen.eqi_last (by go_simp; rfl) (by go_simp; rfl) (by go_simp)
end Go.Proofs.YtncpcjphljfcpaaDoor.PScr
