/- slices.Sort and slices.Sorted at u32 of up to 12 numbers walked. -/
import Derived.Test.YtgabkifojnkbkaaIpmY
set_option linter.unusedVariables false
set_option linter.unusedSimpArgs false
namespace Go.Proofs.Ytgabkifojnkbkaa.Ip
open Go.RowKit Go.Maps Go.Sort Go.Shelf Go.WideMaps Go.MapKept Go.Proofs.YtgabkifojnkbkaaW.PrintWords Go.Proofs.Ytgabkifojnkbkaa.PIpf
set_option maxHeartbeats 4000000 in
set_option maxRecDepth 100000 in
theorem len76 (w : World) (n : Nat) (hn : n ≤ 12) : Calls Try.prog 76 #[.int .u64 n] w fun e w' => (∃ v, e = .returned (.int .i64 v)) ∧ w' = w := by
  have h1 : ¬ ((n : Int) ≥ 4294967296) := by omega
  have h2 : ¬ ((n : Int) ≥ 65536) := by omega
  have h3 : ¬ ((n : Int) ≥ 256) := by omega
  have h4 : (0 : Int) ≤ n := by omega

  go_enter Try.func76, Try.ntmps76
  go_wp2
  go_ret
  exact ⟨⟨_, rfl⟩, rfl⟩
set_option maxHeartbeats 4000000 in
set_option maxRecDepth 100000 in
theorem len65 (w : World) (n : Nat) (hn : n ≤ 12) : Calls Try.prog 65 #[.int .u64 n] w fun e w' => (∃ v, e = .returned (.int .i64 v)) ∧ w' = w := by
  have hc := len76 w n hn
  go_enter Try.func65, Try.ntmps65
  go_wp2_with (first | (go_at_call 76; refine hc.mono ?_; rintro e_ w1 ⟨⟨v, rfl⟩, rfl⟩) | go_in)
  go_ret
  exact ⟨⟨_, rfl⟩, rfl⟩
set_option maxHeartbeats 16000000 in
set_option maxRecDepth 100000 in
theorem pdq64 (w : World) (base g n cap : Nat) (lim : Int) (l : List Int) (hn : l.length = n) (hm : n ≤ 12) (hrow : w.ownsRow base 23 1 (.slice (some ⟨g, 0, none⟩) n cap) n (l.map encA)) (hbase : base ≤ w.heap.size) :
    Calls Try.prog 64 #[.slice (some ⟨g, 0, none⟩) n cap, .int .i64 0, .int .i64 n, .int .i64 lim] w fun e w' => e = .returned (.tuple #[]) ∧ w'.ownsRow base 23 1 (.slice (some ⟨g, 0, none⟩) n cap) n ((insA l).map encA) ∧ Below base w w' := by
  have hc := Aside0.mk (ins66 w base g n cap l hn (by omega) hrow hbase)
  have hw : IntKind.i64.wrap ((n : Int) - 0) = n := by rw [Int.sub_zero]; exact wrap64_id (by omega) (by omega)
  have hw2 : IntKind.i64.wrap (n : Int) = n := wrap64_id (by omega) (by omega)
  have hle : (n : Int) ≤ 12 := by omega
  clear hrow hbase
  go_enter Try.func64, Try.ntmps64
  go_wp2
  refine wp_loop_rounds 1 ?_
  rw [rounds_succ]
  go_wp2_with (first | (go_at_call 66; refine hc.out.mono ?_; rintro e_ w1 ⟨rfl, HO, HB⟩) | go_in)
  ((try simp only [Exit.inBlock, Exit.then]); refine bodyPost_ret (results_none rfl _ _ _) rfl ?_)
  exact ⟨rfl, HO, HB⟩
set_option maxHeartbeats 4000000 in
set_option maxRecDepth 100000 in
theorem sort59 (w : World) (base g n cap : Nat) (l : List Int) (hn : l.length = n) (hm : n ≤ 12) (hrow : w.ownsRow base 23 1 (.slice (some ⟨g, 0, none⟩) n cap) n (l.map encA)) (hbase : base ≤ w.heap.size) :
    Calls Try.prog 59 #[.slice (some ⟨g, 0, none⟩) n cap] w fun e w' => e = .returned (.tuple #[]) ∧ w'.ownsRow base 23 1 (.slice (some ⟨g, 0, none⟩) n cap) n ((insA l).map encA) ∧ Below base w w' := by
  have hc := Aside0.mk (fun lim => pdq64 w base g n cap lim l hn hm hrow hbase)
  have hl := len65 w n hm
  have hle : (n : Int) ≤ 12 := by omega
  clear hrow hbase
  go_enter Try.func59, Try.ntmps59
  go_wp2_with (first | (go_at_call 65; refine hl.mono ?_; rintro e_ w1 ⟨⟨v, rfl⟩, rfl⟩) | (go_at_call 64; refine (hc.out _).mono ?_; rintro e_ w1 ⟨rfl, HO, HB⟩) | go_in)
  go_end0
  exact ⟨rfl, HO, HB⟩
theorem sort59_nil (w : World) : Calls Try.prog 59 #[.slice none 0 0] w fun e w' => e = .returned (.tuple #[]) ∧ w' = w := by
  have hl := len65 w 0 (by omega)
  have hp : ∀ lim, Calls Try.prog 64 #[.slice none 0 0, .int .i64 0, .int .i64 0, .int .i64 lim] w fun e w' => e = .returned (.tuple #[]) ∧ w' = w := by
    intro lim
    have hi : Calls Try.prog 66 #[.slice none 0 0, .int .i64 0, .int .i64 0] w fun e w' => e = .returned (.tuple #[]) ∧ w' = w := by
      go_enter Try.func66, Try.ntmps66
      go_wp2
      refine wp_loop_rounds 1 ?_
      rw [rounds_succ]
      go_wp2
      go_end0
      exact ⟨rfl, rfl⟩
    go_enter Try.func64, Try.ntmps64
    go_wp2
    refine wp_loop_rounds 1 ?_
    rw [rounds_succ]
    go_wp2_with (first | (go_at_call 66; refine hi.mono ?_; rintro e_ w1 ⟨rfl, rfl⟩) | go_in)
    ((try simp only [Exit.inBlock, Exit.then]); refine bodyPost_ret (results_none rfl _ _ _) rfl ?_)
    exact ⟨rfl, rfl⟩
  go_enter Try.func59, Try.ntmps59
  go_wp2_with (first | (go_at_call 65; refine hl.mono ?_; rintro e_ w1 ⟨⟨v, rfl⟩, rfl⟩) | (go_at_call 64; refine (hp _).mono ?_; rintro e_ w1 ⟨rfl, rfl⟩) | go_in)
  go_end0
  exact ⟨rfl, rfl⟩
end Go.Proofs.Ytgabkifojnkbkaa.Ip
