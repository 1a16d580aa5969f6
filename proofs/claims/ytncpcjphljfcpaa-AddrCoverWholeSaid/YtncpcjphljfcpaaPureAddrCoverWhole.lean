/- addr.Cover's prefixes are valid, rise without a gap from lo to hi, none could be longer, and they are 62 at most, for every two addresses; the statement weftlaw1.AddrCoverWhole. No further condition. -/
import Derived.Test.YtncpcjphljfcpaaCovTree
namespace Go.Proofs.Ytncpcjphljfcpaa.Pure
open Go.RowKit Go.Proofs.Ytncpcjphljfcpaa.PCov Go.Proofs.YtncpcjphljfcpaaW.PrintWords Go.Proofs.YtncpcjphljfcpaaW.PrintLast Go.Proofs.YtncpcjphljfcpaaW.PrintMore

theorem shl_all : ∀ d : Nat, d < 34 → shl .i64 1 (d : Int) = tp d := by decide +kernel
theorem u32_of' {a : Int} (h : (Lit.int .u32 a).wf = true) : 0 ≤ a ∧ a < 4294967296 := by
  simp [Lit.wf, IntKind.min, IntKind.max, IntKind.bits, IntKind.signed] at h
  omega

theorem block_eq {p : Int} {d k : Nat} (h0 : 0 ≤ p) (h1 : p + tp d ≤ 4294967296) (hd : d ≤ 32) (ha : p % tp d = 0) (hk : 1 ≤ k) :
    weftlaw1_block.f k p (32 - (d : Int)) = some (p, p + tp d - 1) := by
  obtain ⟨k, rfl⟩ : ∃ m, k = m + 1 := ⟨k - 1, by omega⟩
  have hp := tp_pos d
  have hl := tp_le hd
  unfold weftlaw1_block.f
  rw [if_neg (by omega), show decide ((32 : Int) - (d : Int) > 32) = false from decide_eq_false (by omega)]
  simp only [weftlaw1_block.j0]
  rw [if_neg (by decide), w64 (n := 32 - (32 - (d : Int))) (by omega) (by omega), if_pos (by omega), show (32 : Int) - (32 - (d : Int)) = d from by omega, shl_all d (by omega), if_neg (by omega), w64 (n := p) (by omega) (by omega),
    Int.tmod_eq_emod_of_nonneg h0, if_pos ha, w64 (n := p + tp d) (by omega) (by omega), w64 (n := p + tp d - 1) (by omega) (by omega)]

theorem parent_eq {p : Int} {d : Nat} (h0 : 0 ≤ p) (h1 : p < 4294967296) (hd : d ≤ 32) :
    weftlaw1_parent.f p (32 - (d : Int)) = some (p - p % tp (d + 1), p - p % tp (d + 1) + tp (d + 1) - 1) := by
  have hp := tp_pos (d + 1)
  have hs := tp_succ d
  have hl := tp_le hd
  have hm := Int.emod_nonneg p (show tp (d + 1) ≠ 0 from by omega)
  have hq : p / tp (d + 1) * tp (d + 1) = p - p % tp (d + 1) := by have := Int.mul_ediv_add_emod p (tp (d + 1)); rw [Int.mul_comm] at this; omega
  have hq0 : 0 ≤ p / tp (d + 1) := Int.ediv_nonneg h0 (by omega)
  have hq1 : p / tp (d + 1) ≤ p := Int.ediv_le_self _ h0
  have hle : p % tp (d + 1) ≤ p := by
    have : 0 ≤ p / tp (d + 1) * tp (d + 1) := Int.mul_nonneg hq0 (by omega)
    omega
  unfold weftlaw1_parent.f
  rw [w64 (n := 33 - (32 - (d : Int))) (by omega) (by omega), if_pos (by omega), show (33 : Int) - (32 - (d : Int)) = ((d + 1 : Nat) : Int) from by omega, shl_all (d + 1) (by omega), if_neg (by omega), w64 (n := p) (by omega) (by omega),
    Int.tdiv_eq_ediv_of_nonneg h0, w64 (n := p / tp (d + 1)) (by omega) (by omega), hq, w64 (n := p - p % tp (d + 1)) (by omega) (by omega), w64 (n := p - p % tp (d + 1) + tp (d + 1)) (by omega) (by omega),
    w64 (n := p - p % tp (d + 1) + tp (d + 1) - 1) (by omega) (by omega)]

theorem whole_loop {lo hi : Int} (hlo : 0 ≤ lo) (hlo' : lo < 4294967296) (hhi0 : 0 ≤ hi) (hhi : hi < 4294967296) (l : List S32) (hl : l.length ≤ 62) (hle : lo ≤ hi) :
    ∀ (suf pre : List S32) (p : Int), l = pre ++ suf → Chain lo hi p suf (hi + 1) → ∀ k, 2 * suf.length + 5 ≤ k → weftlaw1_AddrCoverWhole.l0 k lo hi l p pre.length = some true := by
  intro suf
  induction suf with
  | nil =>
    intro pre p e hc k hk
    obtain ⟨k, rfl⟩ : ∃ m, k = m + 1 := ⟨k - 1, by omega⟩
    have hc' : p = hi + 1 := hc
    simp only [weftlaw1_AddrCoverWhole.l0]
    rw [List.append_nil] at e
    subst e
    rw [if_neg (by omega), if_neg (by omega), w64 (n := hi) (by omega) (by omega), w64 (n := hi + 1) (by omega) (by omega), if_pos hc', decide_eq_true (by omega)]
  | cons x xs ih =>
    intro pre p e hc k hk
    obtain ⟨k, rfl⟩ : ∃ m, k = m + 2 := ⟨k - 2, by omega⟩
    obtain ⟨d, hd, rfl, h0, ha, hf, hb, hc'⟩ := hc
    have hp := tp_pos d
    have hlen : pre.length < l.length := by rw [e]; simp
    have hrd : rd_T32 l (pre.length : Int) = ⟨p, 32 - (d : Int)⟩ := by
      unfold rd_T32
      rw [e]
      simp
    have hih := ih (pre ++ [⟨p, 32 - (d : Int)⟩]) (p + tp d) (by rw [e]; simp) hc' k (by simp at hk; omega)
    rw [List.length_append, List.length_singleton] at hih
    simp only [weftlaw1_AddrCoverWhole.l0]
    rw [if_pos (by omega), if_pos (by omega), hrd, block_eq h0 (by omega) hd ha (by omega), Option.bind_some, if_pos rfl, w64 (n := hi) (by omega) (by omega), decide_eq_false (by omega)]
    simp only [weftlaw1_AddrCoverWhole.j1]
    rw [if_neg (by decide), if_pos (by omega), if_pos (by omega), hrd, parent_eq h0 (by omega) hd, Option.bind_some, w64 (n := lo) (by omega) (by omega), w64 (n := hi) (by omega) (by omega), w64 (n := p + tp d - 1 + 1) (by omega) (by omega),
      w64 (n := (pre.length : Int) + 1) (by omega) (by omega), show p + tp d - 1 + 1 = p + tp d from by omega, show ((pre.length : Int) + 1) = ((pre.length + 1 : Nat) : Int) from by omega, hih]
    dsimp only
    by_cases h32 : 32 - (d : Int) > 0
    · rw [if_pos h32]
      by_cases h1 : p - p % tp (d + 1) ≥ lo
      · rw [if_pos h1]
        by_cases h2 : p - p % tp (d + 1) + tp (d + 1) - 1 ≤ hi
        · rcases hb with hb | hb
          · omega
          · exact absurd ⟨h1, h2⟩ hb
        · rw [if_neg h2]
      · rw [if_neg h1]
    · rw [if_neg h32]

theorem AddrCoverWhole : weftlaw1_AddrCoverWhole.Pure := by
  intro lo hi hl hh
  obtain ⟨hl0, hl1⟩ := u32_of' hl
  obtain ⟨hh0, hh1⟩ := u32_of' hh
  refine Ev.rounds ?_
  unfold weftlaw1_AddrCoverWhole.f
  refine Ev.bind begun_ev ?_
  simp only [if_true]
  refine Ev.bind (cover_ev lo hi hl0 hh1) ?_
  by_cases h : lo > hi
  · refine ⟨1, fun k hk => ?_⟩
    obtain ⟨k, rfl⟩ : ∃ m, k = m + 1 := ⟨k - 1, by omega⟩
    unfold cover
    rw [if_pos h]
    simp only [weftlaw1_AddrCoverWhole.l0]
    rw [if_neg (by simp), if_pos h]; rfl
  · refine ⟨200, fun k hk => ?_⟩
    have hlen := cover_62 lo hi
    have := whole_loop hl0 hl1 hh0 hh1 (cover lo hi) hlen (by omega) (cover lo hi) [] lo rfl (cover_chain hl0 hh1 (by omega)) k (by omega)
    rw [w64 (n := lo) (by omega) (by omega)]
    exact this
end Go.Proofs.Ytncpcjphljfcpaa.Pure
