/- What the statements' own looks at lists of prefixes come to: block, parent, sound, had, same, agree. Conditions: the prefixes' numbers are of their kinds. -/
import Derived.Test.YtncpcjphljfcpaaMrgCnt
import Derived.Test.YtncpcjphljfcpaaPMrgx6
namespace Go.Proofs.Ytncpcjphljfcpaa.Pure
open Go.RowKit Go.Proofs.Ytncpcjphljfcpaa.PMrg Go.Proofs.YtncpcjphljfcpaaW.PrintWords Go.Proofs.YtncpcjphljfcpaaW.PrintLast Go.Proofs.YtncpcjphljfcpaaW.PrintMore
open Go.Proofs.Ytncpcjphljfcpaa.Runs

theorem shl_all : ∀ d : Nat, d < 34 → shl .i64 1 (d : Int) = tp d := by decide +kernel
theorem u32_of' {a : Int} (h : (Lit.int .u32 a).wf = true) : 0 ≤ a ∧ a < 4294967296 := by
  simp [Lit.wf, IntKind.min, IntKind.max, IntKind.bits, IntKind.signed] at h
  omega

theorem block_eq {p : Int} {d k : Nat} (h0 : 0 ≤ p) (h1 : p + tp d ≤ 4294967296) (hd : d ≤ 32) (ha : p % tp d = 0) (hk : 1 ≤ k) :
    weftlaw1_block.f k p (32 - (d : Int)) = some (p, p + tp d - 1) := by
  obtain ⟨k, rfl⟩ : ∃ m, k = m + 1 := ⟨k - 1, by omega⟩
  have hp := tp_pos d
  have hl := tp_le hd
  unfold weftlaw1_block.f
  rw [if_neg (by omega), show decide ((32 : Int) - (d : Int) > 32) = false from decide_eq_false (by omega)]
  simp only [weftlaw1_block.j0]
  rw [if_neg (by decide), w64 (n := 32 - (32 - (d : Int))) (by omega) (by omega), if_pos (by omega), show (32 : Int) - (32 - (d : Int)) = d from by omega, shl_all d (by omega), if_neg (by omega), w64 (n := p) (by omega) (by omega),
    Int.tmod_eq_emod_of_nonneg h0, if_pos ha, w64 (n := p + tp d) (by omega) (by omega), w64 (n := p + tp d - 1) (by omega) (by omega)]

theorem parent_eq {p : Int} {d : Nat} (h0 : 0 ≤ p) (h1 : p < 4294967296) (hd : d ≤ 32) :
    weftlaw1_parent.f p (32 - (d : Int)) = some (p - p % tp (d + 1), p - p % tp (d + 1) + tp (d + 1) - 1) := by
  have hp := tp_pos (d + 1)
  have hs := tp_succ d
  have hl := tp_le hd
  have hm := Int.emod_nonneg p (show tp (d + 1) ≠ 0 from by omega)
  have hq : p / tp (d + 1) * tp (d + 1) = p - p % tp (d + 1) := by have := Int.mul_ediv_add_emod p (tp (d + 1)); rw [Int.mul_comm] at this; omega
  have hq0 : 0 ≤ p / tp (d + 1) := Int.ediv_nonneg h0 (by omega)
  have hq1 : p / tp (d + 1) ≤ p := Int.ediv_le_self _ h0
  have hle : p % tp (d + 1) ≤ p := by
    have : 0 ≤ p / tp (d + 1) * tp (d + 1) := Int.mul_nonneg hq0 (by omega)
    omega
  unfold weftlaw1_parent.f
  rw [w64 (n := 33 - (32 - (d : Int))) (by omega) (by omega), if_pos (by omega), show (33 : Int) - (32 - (d : Int)) = ((d + 1 : Nat) : Int) from by omega, shl_all (d + 1) (by omega), if_neg (by omega), w64 (n := p) (by omega) (by omega),
    Int.tdiv_eq_ediv_of_nonneg h0, w64 (n := p / tp (d + 1)) (by omega) (by omega), hq, w64 (n := p - p % tp (d + 1)) (by omega) (by omega), w64 (n := p - p % tp (d + 1) + tp (d + 1)) (by omega) (by omega),
    w64 (n := p - p % tp (d + 1) + tp (d + 1) - 1) (by omega) (by omega)]

theorem same_l0 (l : List S32) (hl : l.length ≤ 1000000) (j : Nat) : ∀ i : Nat, i + j = l.length → ∀ k, j < k → weftlaw1_same.l0 k l l i = some true := by
  induction j with
  | zero =>
    intro i hi k hk
    obtain ⟨k, rfl⟩ : ∃ m, k = m + 1 := ⟨k - 1, by omega⟩
    simp only [weftlaw1_same.l0]
    rw [if_neg (by omega)]
  | succ j ih =>
    intro i hi k hk
    obtain ⟨k, rfl⟩ : ∃ m, k = m + 1 := ⟨k - 1, by omega⟩
    simp only [weftlaw1_same.l0]
    rw [if_pos (by omega), if_pos (by omega), if_pos (by omega), if_neg (by simp), w64 (n := (i : Int) + 1) (by omega) (by omega), show ((i : Int) + 1) = ((i + 1 : Nat) : Int) from by omega]
    exact ih (i + 1) (by omega) k (by omega)
theorem same_self (l : List S32) (hl : l.length ≤ 1000000) : Ev (fun k => weftlaw1_same.f k l l) true := by
  refine ⟨l.length + 1, fun k hk => ?_⟩
  unfold weftlaw1_same.f
  dsimp only
  rw [if_pos rfl]
  exact same_l0 l hl l.length 0 (by omega) k (by omega)


theorem i64_of {a : Int} (h : (Lit.int .i64 a).wf = true) : -9223372036854775808 ≤ a ∧ a ≤ 9223372036854775807 := by
  simp [Lit.wf, IntKind.min, IntKind.max, IntKind.bits, IntKind.signed] at h
  omega
theorem block_v {p : S32} {k : Nat} (h : Vp p) (hk : 1 ≤ k) : weftlaw1_block.f k p.f0 p.f1 = some (sp p) := by
  rw [f1_eq h]
  exact block_eq h.2.2.1 (top_le (dd_le h) h.2.2.2.1 h.2.2.2.2) (dd_le h) h.2.2.2.2 hk
theorem block_i {p : S32} {k : Nat} (hU : U32 p) (h : ¬ Vp p) (hk : 1 ≤ k) : weftlaw1_block.f k p.f0 p.f1 = some (-1, -1) := by
  obtain ⟨k, rfl⟩ : ∃ m, k = m + 1 := ⟨k - 1, by omega⟩
  unfold weftlaw1_block.f
  by_cases h1 : p.f1 < 0
  · rw [if_pos h1]; simp only [weftlaw1_block.j0]; rw [if_pos trivial]
  · rw [if_neg h1]
    by_cases h2 : p.f1 > 32
    · rw [decide_eq_true h2]; simp only [weftlaw1_block.j0]; rw [if_pos trivial]
    · have hd : dd p ≤ 32 := by unfold dd; omega
      have e : (32 : Int) - p.f1 = (dd p : Int) := by unfold dd; omega
      have hp := tp_pos (dd p)
      have ha : ¬ p.f0 % tp (dd p) = 0 := fun hm => h ⟨by omega, by omega, hU.1, hU.2, hm⟩
      rw [decide_eq_false h2]; simp only [weftlaw1_block.j0]
      have hU0 := hU.1
      have hU1 := hU.2
      rw [if_neg (by decide), w64 (n := 32 - p.f1) (by omega) (by omega), if_pos (by omega), e, shl_all (dd p) (by omega), if_neg (by omega), w64 (n := p.f0) (by omega) (by omega),
        Int.tmod_eq_emod_of_nonneg hU0, if_neg ha]
theorem parent_v {q : S32} (h : Vp q) : ∃ e, weftlaw1_parent.f q.f0 q.f1 = some (par q, e) := by
  have e := parent_eq h.2.2.1 h.2.2.2.1 (dd_le h)
  rw [← f1_eq h] at e
  exact ⟨_, e⟩
theorem rd_mid {l pre suf : List S32} {x : S32} (e : l = pre ++ x :: suf) : rd_T32 l (pre.length : Int) = x := by
  unfold rd_T32
  rw [e]
  simp
theorem up1 (n : Nat) (h : n ≤ 1000000) : wrap64 ((n : Int) + 1) = ((n + 1 : Nat) : Int) := by rw [w64 (by omega) (by omega)]; omega
theorem sound_l0 (l : List S32) (hl : l.length ≤ 1000000) (hU : ∀ p, p ∈ l → U32 p) : ∀ (suf pre : List S32), l = pre ++ suf → ∀ k, suf.length + 3 ≤ k → weftlaw1_sound.l0 k l pre.length = some (suf.all fun p => decide (Vp p))
  | [], pre, e, k, hk => by
    obtain ⟨k, rfl⟩ : ∃ m, k = m + 1 := ⟨k - 1, by omega⟩
    simp only [weftlaw1_sound.l0]
    rw [List.append_nil] at e
    subst e
    rw [if_neg (by omega)]; rfl
  | x :: xs, pre, e, k, hk => by
    obtain ⟨k, rfl⟩ : ∃ m, k = m + 1 := ⟨k - 1, by omega⟩
    simp only [List.length_cons] at hk
    have hlen : pre.length < l.length := by rw [e]; simp
    have ih := sound_l0 l hl hU xs (pre ++ [x]) (by rw [e]; simp) k (by omega)
    rw [List.length_append, List.length_singleton] at ih
    simp only [weftlaw1_sound.l0]
    rw [if_pos (by omega), if_pos (by omega), rd_mid e]
    by_cases hv : Vp x
    · rw [block_v hv (by omega), Option.bind_some, if_neg (by have h1 := hv.2.2.1; show ¬ x.f0 < 0; omega), up1 _ (by omega), ih, List.all_cons, decide_eq_true hv, Bool.true_and]
    · rw [block_i (hU x (by rw [e]; simp)) hv (by omega), Option.bind_some, if_pos (by decide), List.all_cons, decide_eq_false hv, Bool.false_and]
theorem sound_ev (l : List S32) (hl : l.length ≤ 1000000) (hU : ∀ p, p ∈ l → U32 p) : Ev (fun k => weftlaw1_sound.f k l) (l.all fun p => decide (Vp p)) :=
  ⟨l.length + 3, fun k hk => sound_l0 l hl hU l [] rfl k hk⟩
def hadB (l : List S32) (a : Int) : Bool := l.any fun p => decide (p.f0 ≤ a) && decide (a ≤ (sp p).2)
theorem hadB_iff {l : List S32} {a : Int} : hadB l a = true ↔ mem (l.map sp) a := by
  unfold hadB
  rw [List.any_eq_true]
  constructor
  · rintro ⟨p, hp, h⟩
    simp only [Bool.and_eq_true, decide_eq_true_eq] at h
    exact ⟨sp p, List.mem_map.2 ⟨p, hp, rfl⟩, h⟩
  · rintro ⟨r, hr, h⟩
    obtain ⟨p, hp, rfl⟩ := List.mem_map.1 hr
    exact ⟨p, hp, by simp only [Bool.and_eq_true, decide_eq_true_eq]; exact h⟩
theorem had_l0 (l : List S32) (a : Int) (hl : l.length ≤ 1000000) (hV : ∀ p, p ∈ l → Vp p) : ∀ (suf pre : List S32), l = pre ++ suf → ∀ k, suf.length + 3 ≤ k → weftlaw1_had.l0 k l a pre.length = some (hadB suf a)
  | [], pre, e, k, hk => by
    obtain ⟨k, rfl⟩ : ∃ m, k = m + 1 := ⟨k - 1, by omega⟩
    simp only [weftlaw1_had.l0]
    rw [List.append_nil] at e
    subst e
    rw [if_neg (by omega)]; rfl
  | x :: xs, pre, e, k, hk => by
    obtain ⟨k, rfl⟩ : ∃ m, k = m + 1 := ⟨k - 1, by omega⟩
    simp only [List.length_cons] at hk
    have hlen : pre.length < l.length := by rw [e]; simp
    have ih := had_l0 l a hl hV xs (pre ++ [x]) (by rw [e]; simp) k (by omega)
    rw [List.length_append, List.length_singleton] at ih
    have hv := hV x (by rw [e]; simp)
    have h0 := hv.2.2.1
    simp only [weftlaw1_had.l0]
    rw [if_pos (by omega), if_pos (by omega), rd_mid e, block_v hv (by omega), Option.bind_some, up1 _ (by omega), ih, if_pos (show (sp x).1 ≥ 0 from h0)]
    have e1 : (sp x).1 = x.f0 := rfl
    rw [e1]
    have e2 : hadB (x :: xs) a = ((decide (x.f0 ≤ a) && decide (a ≤ (sp x).2)) || hadB xs a) := rfl
    rw [e2]
    by_cases c1 : x.f0 ≤ a
    · by_cases c2 : a ≤ (sp x).2
      · rw [if_pos c1, if_pos c2, decide_eq_true c1, decide_eq_true c2]; rfl
      · rw [if_pos c1, if_neg c2, decide_eq_true c1, decide_eq_false c2]; rfl
    · rw [if_neg c1, decide_eq_false c1]; rfl
theorem had_ev (l : List S32) (a : Int) (hl : l.length ≤ 1000000) (hV : ∀ p, p ∈ l → Vp p) : Ev (fun k => weftlaw1_had.f k l a) (hadB l a) :=
  ⟨l.length + 3, fun k hk => had_l0 l a hl hV l [] rfl k hk⟩
section
variable {x0 x1 : List S32} (h0 : x0.length ≤ 1000000) (h1 : x1.length ≤ 1000000) (v0 : ∀ p, p ∈ x0 → Vp p) (v1 : ∀ p, p ∈ x1 → Vp p) (hs : ∀ a, hadB x0 a = hadB x1 a)
include h0 h1 v0 v1 hs
theorem agree_l2 (x7 : List Int) (h7 : x7.length ≤ 1000000) (j : Nat) : ∀ i : Nat, i + j = x7.length → Ev (fun k => weftlaw1_agree.l2 k x0 x1 x7 i) true := by
  induction j with
  | zero =>
    intro i hi
    refine Ev.step (f := fun _ => some true) (fun k => ?_) (Ev.now _)
    simp only [weftlaw1_agree.l2]
    rw [if_neg (by omega)]
  | succ j ih =>
    intro i hi
    have h := ih (i + 1) (by omega)
    refine Ev.step (f := fun k => (weftlaw1_had.f k x0 (rd x7 i)).bind fun t154 => (weftlaw1_had.f k x1 (rd x7 i)).bind fun t156 => if (t154 != t156) = true then some false else weftlaw1_agree.l2 k x0 x1 x7 ((i + 1 : Nat) : Int)) (fun k => ?_) ?_
    · simp only [weftlaw1_agree.l2]
      rw [if_pos (by omega), if_pos (by omega), up1 _ (by omega)]
    · refine Ev.bind (had_ev x0 _ h0 v0) (Ev.bind (had_ev x1 _ h1 v1) ?_)
      rw [hs]
      simp only [bne_self_eq_false, Bool.false_eq_true, if_false]
      exact h
theorem agree_l1 (j : Nat) : ∀ (i : Nat) (x7 : List Int), i + j = 40 → x7.length + 4 * j ≤ 1000 → Ev (fun k => weftlaw1_agree.l1 k x0 x1 x7 i) true := by
  induction j with
  | zero =>
    intro i x7 hi h7
    have e := agree_l2 h0 h1 v0 v1 hs x7 (by omega) x7.length 0 (by omega)
    have e3 : Ev (fun k => weftlaw1_agree.j3 k x0 x1 x7) true := Ev.step (fun k => by simp only [weftlaw1_agree.j3]; rfl) e
    refine Ev.step (f := fun k => weftlaw1_agree.j3 k x0 x1 x7) (fun k => ?_) e3
    simp only [weftlaw1_agree.l1]
    by_cases c : (i : Int) < (x1.length : Int)
    · rw [if_pos c, if_neg (by omega)]
    · rw [if_neg c]
  | succ j ih =>
    intro i x7 hi h7
    by_cases c : (i : Int) < (x1.length : Int)
    · have hil : i < x1.length := by omega
      have hr : rd_T32 x1 i = x1[i] := by simp [rd_T32, List.getD_eq_getElem?_getD, hil]
      have hv := v1 _ (List.getElem_mem hil)
      have h := ih (i + 1) (x7 ++ [(sp x1[i]).1, (sp x1[i]).2, wrap64 ((sp x1[i]).1 - 1), wrap64 ((sp x1[i]).2 + 1)]) (by omega) (by simp; omega)
      refine Ev.step (f := fun k => (weftlaw1_block.f k x1[i].f0 x1[i].f1).bind fun b => weftlaw1_agree.l1 k x0 x1 (x7 ++ [b.1, b.2, wrap64 (b.1 - 1), wrap64 (b.2 + 1)]) ((i + 1 : Nat) : Int)) (fun k => ?_) ?_
      · simp only [weftlaw1_agree.l1]
        rw [if_pos c, if_pos (by omega), if_pos (by omega), hr, up1 _ (by omega)]
        simp only [Option.bind_some]
        congr 1
        funext b
        rw [if_pos (by simp; omega)]
      · exact Ev.bind (a := sp x1[i]) ⟨1, fun k hk => block_v hv hk⟩ h
    · have e := agree_l2 h0 h1 v0 v1 hs x7 (by omega) x7.length 0 (by omega)
      have e3 : Ev (fun k => weftlaw1_agree.j3 k x0 x1 x7) true := Ev.step (fun k => by simp only [weftlaw1_agree.j3]; rfl) e
      refine Ev.step (f := fun k => weftlaw1_agree.j3 k x0 x1 x7) (fun k => ?_) e3
      simp only [weftlaw1_agree.l1]
      rw [if_neg c]
theorem agree_l0 (j : Nat) : ∀ (i : Nat) (x7 : List Int), i + j = 40 → x7.length + 4 * j ≤ 500 → Ev (fun k => weftlaw1_agree.l0 k x0 x1 x7 i) true := by
  induction j with
  | zero =>
    intro i x7 hi h7
    have e := agree_l1 h0 h1 v0 v1 hs 40 0 x7 (by omega) (by omega)
    have e3 : Ev (fun k => weftlaw1_agree.j1 k x0 x1 x7) true := Ev.step (fun k => by simp only [weftlaw1_agree.j1]; rfl) e
    refine Ev.step (f := fun k => weftlaw1_agree.j1 k x0 x1 x7) (fun k => ?_) e3
    simp only [weftlaw1_agree.l0]
    by_cases c : (i : Int) < (x0.length : Int)
    · rw [if_pos c, if_neg (by omega)]
    · rw [if_neg c]
  | succ j ih =>
    intro i x7 hi h7
    by_cases c : (i : Int) < (x0.length : Int)
    · have hil : i < x0.length := by omega
      have hr : rd_T32 x0 i = x0[i] := by simp [rd_T32, List.getD_eq_getElem?_getD, hil]
      have hv := v0 _ (List.getElem_mem hil)
      have h := ih (i + 1) (x7 ++ [(sp x0[i]).1, (sp x0[i]).2, wrap64 ((sp x0[i]).1 - 1), wrap64 ((sp x0[i]).2 + 1)]) (by omega) (by simp; omega)
      refine Ev.step (f := fun k => (weftlaw1_block.f k x0[i].f0 x0[i].f1).bind fun b => weftlaw1_agree.l0 k x0 x1 (x7 ++ [b.1, b.2, wrap64 (b.1 - 1), wrap64 (b.2 + 1)]) ((i + 1 : Nat) : Int)) (fun k => ?_) ?_
      · simp only [weftlaw1_agree.l0]
        rw [if_pos c, if_pos (by omega), if_pos (by omega), hr, up1 _ (by omega)]
        simp only [Option.bind_some]
        congr 1
        funext b
        rw [if_pos (by simp; omega)]
      · exact Ev.bind (a := sp x0[i]) ⟨1, fun k hk => block_v hv hk⟩ h
    · have e := agree_l1 h0 h1 v0 v1 hs 40 0 x7 (by omega) (by omega)
      have e3 : Ev (fun k => weftlaw1_agree.j1 k x0 x1 x7) true := Ev.step (fun k => by simp only [weftlaw1_agree.j1]; rfl) e
      refine Ev.step (f := fun k => weftlaw1_agree.j1 k x0 x1 x7) (fun k => ?_) e3
      simp only [weftlaw1_agree.l0]
      rw [if_neg c]
theorem agree_ev (a : Int) : Ev (fun k => weftlaw1_agree.f k x0 x1 a) true := by
  have h := agree_l0 h0 h1 v0 v1 hs 40 0 ([] ++ [a]) (by omega) (by simp)
  unfold weftlaw1_agree.f
  simp only [List.length_nil, if_pos (show (0 : Nat) < 17592186044416 by omega)]
  exact h
end
end Go.Proofs.Ytncpcjphljfcpaa.Pure
