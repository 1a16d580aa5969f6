-- written by xp.sh, a program of this seat's session
import Derived.Test.YtncpcjphljfcpaaPMrgx0
import Derived.Test.YtncpcjphljfcpaaPMrgx3
namespace Go.Proofs.Ytncpcjphljfcpaa.PMrg
open Go.RowKit Go.Proofs.YtncpcjphljfcpaaW.PrintWords Go.Proofs.YtncpcjphljfcpaaW.PrintLast Go.Proofs.YtncpcjphljfcpaaW.PrintMore
attribute [local go_sem] max2_int min2_int max_two min_two max_three min_three max_four min_four   -- for this text's walks alone
set_option linter.unusedVariables false
set_option linter.unusedSimpArgs false

/-! ### addr_Merge: function 24 -/
-- calls=weft/addr.fault weft/addr.last weft/addr.Cover
def prS (x : S32) : Int × Int := (x.f0, x.f1)
def unS (p : Int × Int) : S32 := ⟨p.1, p.2⟩
def srtS (l : List S32) : List S32 := (SortP.srt (l.map prS)).map unS
/-- the error of the first that is none, or 0 -/
def faults (k : Nat) : List S32 → Option Int
  | [] => some 0
  | p :: r => (addr_fault.f k p.f0 p.f1).bind fun e => if e = 0 then faults k r else some e
def mergeGo (k : Nat) : List S32 → Int → Int → List S32 → Option (List S32)
  | [], lo, hi, out => (addr_Cover.f k lo hi).bind fun c => if (out.length + c.length) * 16 ≤ 140737488355328 then some (out ++ c) else none
  | p :: r, lo, hi, out => if hi = 4294967295 ∨ p.f0 ≤ (hi + 1) % 4294967296 then (addr_last.f p.f0 p.f1).bind fun e => mergeGo k r lo (max hi e) out
      else (addr_Cover.f k lo hi).bind fun c => if (out.length + c.length) * 16 ≤ 140737488355328 then (addr_last.f p.f0 p.f1).bind fun e => mergeGo k r p.f0 e (out ++ c) else none
def mergeOut (k : Nat) : List S32 → List S32 → Option (List S32)
  | [], out => some out
  | p :: r, out => (addr_last.f p.f0 p.f1).bind fun e => mergeGo k r p.f0 e out
def addr_Merge.f (k : Nat) (l0 : List S32) : Option (List S32 × Int) :=
  if l0.length > 4096 then some ([], 2) else (faults k l0).bind fun e => if e = 0 then (mergeOut k (srtS l0) []).bind fun r => some (r, 0) else some ([], e)
theorem faults_mono (k : Nat) : ∀ l, LeO (faults k l) (faults (k + 1) l)
  | [] => LeO.refl _
  | p :: r => LeO.bind (addr_fault.mono _ _ _) fun _ => LeO.ite (faults_mono k r) (LeO.refl _)
theorem mergeGo_mono (k : Nat) : ∀ l lo hi out, LeO (mergeGo k l lo hi out) (mergeGo (k + 1) l lo hi out)
  | [], _, _, _ => LeO.bind (addr_Cover.mono _ _ _) fun _ => LeO.refl _
  | p :: r, _, _, _ => LeO.ite (LeO.bind (LeO.refl _) fun _ => mergeGo_mono k r _ _ _) (LeO.bind (addr_Cover.mono _ _ _) fun _ => LeO.ite (LeO.bind (LeO.refl _) fun _ => mergeGo_mono k r _ _ _) (LeO.refl _))
theorem mergeOut_mono (k : Nat) : ∀ l out, LeO (mergeOut k l out) (mergeOut (k + 1) l out)
  | [], _ => LeO.refl _
  | p :: r, _ => LeO.bind (LeO.refl _) fun _ => mergeGo_mono k r _ _ _
theorem addr_Merge.mono : ∀ a0 k, LeO (addr_Merge.f k a0) (addr_Merge.f (k + 1) a0) := fun a0 k =>
  LeO.ite (LeO.refl _) (LeO.bind (faults_mono k a0) fun _ => LeO.ite (LeO.bind (mergeOut_mono k _ _) fun _ => LeO.refl _) (LeO.refl _))
theorem faults_at {k : Nat} {l0 : List S32} {i : Nat} {e : Int} (hi : i < l0.length) (h : faults k (l0.drop i) = some e) :
    ∃ e1, addr_fault.f k (rd_T32 l0 i).f0 (rd_T32 l0 i).f1 = some e1 ∧ (if e1 = 0 then faults k (l0.drop (i + 1)) else some e1) = some e := by
  rw [List.drop_eq_getElem_cons hi] at h
  obtain ⟨e1, h1, h2⟩ := Option.bind_eq_some_iff.1 h
  have hr : rd_T32 l0 i = l0[i] := by simp [rd_T32, List.getD_eq_getElem?_getD, hi]
  rw [hr]
  exact ⟨e1, h1, h2⟩
theorem max_if (a b : Int) : max a b = if a < b then b else a := by split <;> omega
theorem meas_up {n i : Nat} (h : i < n) : n - (intOf (.int .i64 ((i + 1 : Nat) : Int))).toNat < n - (intOf (.int .i64 (i : Int))).toNat := by
  simp [intOf]; omega
theorem mergeOut_at {k : Nat} {S xs out : List S32} {i : Nat} (hi : i < S.length) (h : mergeOut k (S.drop i) xs = some out) :
    ∃ e1, addr_last.f (rd_T32 S i).f0 (rd_T32 S i).f1 = some e1 ∧ mergeGo k (S.drop (i + 1)) (rd_T32 S i).f0 e1 xs = some out := by
  rw [List.drop_eq_getElem_cons hi] at h
  have hr : rd_T32 S i = S[i] := by simp [rd_T32, List.getD_eq_getElem?_getD, hi]
  rw [hr]
  exact Option.bind_eq_some_iff.1 h
theorem mergeGo_in {k : Nat} {S xs out : List S32} {j : Nat} {lo hh : Int} (hi : j < S.length) (hc : hh = 4294967295 ∨ (rd_T32 S j).f0 ≤ (hh + 1) % 4294967296) (h : mergeGo k (S.drop j) lo hh xs = some out) :
    ∃ e1, addr_last.f (rd_T32 S j).f0 (rd_T32 S j).f1 = some e1 ∧ mergeGo k (S.drop (j + 1)) lo (max hh e1) xs = some out := by
  have hr : rd_T32 S j = S[j] := by simp [rd_T32, List.getD_eq_getElem?_getD, hi]
  rw [hr] at hc ⊢
  rw [List.drop_eq_getElem_cons hi] at h
  unfold mergeGo at h
  rw [if_pos hc] at h
  exact Option.bind_eq_some_iff.1 h
theorem mergeGo_out {k : Nat} {S xs out : List S32} {j : Nat} {lo hh : Int} (hc : ∀ _ : j < S.length, ¬ (hh = 4294967295 ∨ (rd_T32 S j).f0 ≤ (hh + 1) % 4294967296)) (h : mergeGo k (S.drop j) lo hh xs = some out) :
    ∃ c, addr_Cover.f k lo hh = some c ∧ (xs.length + c.length) * 16 ≤ 140737488355328 ∧ mergeOut k (S.drop j) (xs ++ c) = some out := by
  by_cases hi : j < S.length
  · have hr : rd_T32 S j = S[j] := by simp [rd_T32, List.getD_eq_getElem?_getD, hi]
    have hc := hc hi
    rw [hr] at hc
    rw [List.drop_eq_getElem_cons hi] at h ⊢
    unfold mergeGo at h
    rw [if_neg hc] at h
    obtain ⟨c, h1, h2⟩ := Option.bind_eq_some_iff.1 h
    by_cases hb : (xs.length + c.length) * 16 ≤ 140737488355328
    · rw [if_pos hb] at h2
      exact ⟨c, h1, hb, h2⟩
    · rw [if_neg hb] at h2; cases h2
  · rw [List.drop_eq_nil_of_le (by omega)] at h ⊢
    unfold mergeGo at h
    obtain ⟨c, h1, h2⟩ := Option.bind_eq_some_iff.1 h
    by_cases hb : (xs.length + c.length) * 16 ≤ 140737488355328
    · rw [if_pos hb] at h2
      exact ⟨c, h1, hb, h2⟩
    · rw [if_neg hb] at h2; cases h2
theorem take_rd {l0 : List S32} {i : Nat} (hi : i < l0.length) : l0.take (i + 1) = l0.take i ++ [⟨(rd_T32 l0 i).f0, (rd_T32 l0 i).f1⟩] := by
  have hr : rd_T32 l0 i = l0[i] := by simp [rd_T32, List.getD_eq_getElem?_getD, hi]
  rw [hr, List.take_succ_eq_append_getElem hi]
theorem flat_cut : ∀ (xs : List S32) (j : Nat) (p : S32), xs[j]? = some p → (((xs.map prS).flatMap SortP.encP).drop (j * 2)).take 2 = [.int .u32 p.f0, .int .i64 p.f1]
  | [], j, p, h => by simp at h
  | x :: r, 0, p, h => by
    simp only [List.getElem?_cons_zero, Option.some.injEq] at h
    subst h
    simp [SortP.encP, prS]
  | x :: r, j + 1, p, h => by
    have := flat_cut r j p (by simpa using h)
    rw [List.map_cons, List.flatMap_cons, show (j + 1) * 2 = 2 + j * 2 from by omega, ← List.drop_drop]
    simpa [SortP.encP] using this
theorem flat_reps (W : World) (base : Nat) (ok : Nat → Prop) (xs : List S32) : Reps (k32.M W base ok) 2 xs ((xs.map prS).flatMap SortP.encP) := by
  refine ⟨by rw [SortP.flat_len, List.length_map], fun j p hj => ?_⟩
  rw [flat_cut xs j p hj]
  exact k32_mkM W base ok p
theorem reps_flat {W : World} {base : Nat} {ok : Nat → Prop} : ∀ (xs : List S32) (inner : List Value), Reps (k32.M W base ok) 2 xs inner → inner = (xs.map prS).flatMap SortP.encP
  | [], inner, h => by
    have := h.1
    simp at this
    subst this
    rfl
  | x :: r, inner, h => by
    have h1 := Kd.reps_drop (m := 1) h
    have h2 := reps_flat r _ h1
    have h3 := k32_openM (h.2 0 x rfl)
    rw [Nat.zero_mul, List.drop_zero] at h3
    rw [← List.take_append_drop 2 inner, h3, h2]
    simp [SortP.encP, prS]
theorem own_of_R {W : World} {base : Nat} {ok : Nat → Prop} {v : Value} {xs : List S32} (h : Kd.R k32 32 W base ok v xs) : W.ownsRow base 32 2 v xs.length ((xs.map prS).flatMap SortP.encP) := by
  obtain ⟨_, inner, ho, hr⟩ := h
  rw [← reps_flat xs inner hr]
  exact ho
theorem R_of_own {W : World} {base : Nat} {ok : Nat → Prop} {v : Value} {xs : List S32} (h : W.ownsRow base 32 2 v xs.length ((xs.map prS).flatMap SortP.encP)) (hok : ∀ k, v.ownBlock = some k → ok k) : Kd.R k32 32 W base ok v xs :=
  ⟨hok, _, h, flat_reps _ _ _ _⟩
/-- what holds in Merge behind the sort: the box, the sorted row, the row of what is made -/
structure MSt (w : World) (Bs g n cap : Nat) (S : List S32) (v8 : Value) (xs : List S32) (w' : World) : Prop where
  blk : w'.heap[Bs]? = some (.cells #[.slice (some ⟨g, 0, none⟩) n cap] 25 (0, 0))
  len : S.length = n
  row : Kd.R k32 32 w' w.heap.size (fun k => k ≠ Bs) (.slice (some ⟨g, 0, none⟩) n cap) S
  res : Kd.R k32 32 w' w.heap.size (fun k => k ≠ Bs ∧ k ≠ g) v8 xs
  bel : Below w.heap.size w w'
theorem MSt.below {w w1 w2 : World} {Bs g n cap : Nat} {S xs : List S32} {v8 : Value} (h : Aside0 (MSt w Bs g n cap S v8 xs w1)) (hb : Below w1.heap.size w1 w2) : MSt w Bs g n cap S v8 xs w2 :=
  ⟨blk_below h.out.blk hb, h.out.len, Kd.R_below h.out.row hb, Kd.R_below h.out.res hb, below_step h.out.bel hb⟩
theorem MSt.drew {w w1 : World} {Bs g n cap : Nat} {S xs : List S32} {v8 : Value} (h : Aside0 (MSt w Bs g n cap S v8 xs w1)) : Aside0 (MSt w Bs g n cap S v8 xs w1.drew) :=
  ⟨h.out.blk, h.out.len, Kd.R_drew h.out.row, Kd.R_drew h.out.res, below_drew h.out.bel⟩
theorem MSt.grown {w w1 w2 : World} {Bs g n cap : Nat} {S xs ys : List S32} {v8 v9 : Value} (h : Aside0 (MSt w Bs g n cap S v8 xs w1)) (ho : Kd.R k32 32 w2 w.heap.size (fun k => k ≠ Bs ∧ k ≠ g) v9 ys) (hb : Below w.heap.size w w2) (hg : w1.grownBy w2 v8.ownBlock) : MSt w Bs g n cap S v9 ys w2 :=
  ⟨blk_grown h.out.blk hg (Kd.R_away h.out.res (fun _ hk => hk.1)), h.out.len, R_of_own (own_other (own_of_R h.out.row) hg (.inr fun e => (h.out.res.1 g e.symm).2 rfl)) h.out.row.1, ho, hb⟩
theorem MSt.box {w w1 : World} {Bs g n cap : Nat} {S xs : List S32} {v8 : Value} (h : MSt w Bs g n cap S v8 xs w1) : w1.cell? ⟨Bs, 0, none⟩ = some (.slice (some ⟨g, 0, none⟩) n cap) := (blk_cell h.blk 0).trans rfl
theorem MSt.at_ {w w1 : World} {Bs g n cap i : Nat} {S xs : List S32} {v8 : Value} (h : MSt w Bs g n cap S v8 xs w1) (hi : i < S.length) :
    w1.cell? ⟨g, i * 2, none⟩ = some (.int .u32 (rd_T32 S i).f0) ∧ w1.cell? ⟨g, i * 2 + 1, none⟩ = some (.int .i64 (rd_T32 S i).f1) := by
  obtain ⟨ad, e0, hx0, hx1⟩ := at_T32 (Kd.R_reads' h.row).2.2 (i : Int) (by omega) (by omega)
  obtain rfl := Option.some.inj e0
  simp only [Int.toNat_natCast, add_plain] at hx0 hx1
  exact ⟨hx0, hx1⟩
set_option maxHeartbeats 4000000 in
set_option maxRecDepth 100000 in
theorem merge_walk (k : Nat) (A0 : Option Addr) (c0 : Nat) (l0 : List S32) (r : List S32 × Int) (w : World) (hr0 : Kd.C k32 w A0 l0.length l0) (hc0 : l0.length ≤ c0) (hlen : l0.length ≤ 4096) (h : addr_Merge.f k l0 = some r) :
    Calls Try.prog 24 #[.slice A0 l0.length c0] w fun e w' => ∃ v0_ : Value, e = .returned (.tuple #[v0_, .int .i64 r.2]) ∧ Kd.R k32 32 w' w.heap.size (fun _ => True) v0_ r.1 ∧ Below w.heap.size w w' := by
  have HR0 := Aside0.mk hr0
  have HC0 := Aside0.mk hc0
  clear hr0 hc0
  have HH := Aside0.mk h
  clear h
  have HL := Aside0.mk hlen
  have hn0 : decide ((l0.length : Int) > 4096) = false := decide_eq_false (by omega)
  clear hlen
  obtain ⟨i0, hi, hz0, hz1, hz2⟩ := info_parts info32
  obtain ⟨w1, hmk, hown, hgr⟩ := run_makeSlice_owned (P := Try.prog) w w.heap.size 25 32 i0 _ 2 Try.underlying25 hi hz0 hz1 .i64 .i64 l0.length (by have := HL.out; omega) (by rw [hz2]; have := HL.out; omega) (by have := HL.out; simp [maxLen]; omega) (Nat.le_refl _)
  have hb1 : Below w.heap.size w w1 := pw_below_grown (Below.refl _ _) none (Nat.le_refl _) hgr (by simp)
  have HB1 := Aside0.mk hb1
  have HO1 := Aside0.mk hown
  clear hown hgr hb1
  have hS := HH.out
  unfold addr_Merge.f at hS
  rw [if_neg (by have := HL.out; omega)] at hS
  obtain ⟨e, hF, hS⟩ := Option.bind_eq_some_iff.1 hS
  have HF := Aside0.mk hF
  have HS := Aside0.mk hS
  clear hF hS
  have hlt1 : w.heap.size < w1.heap.size := own_lt HO1.out _ rfl
  go_enter Try.func24, Try.ntmps24
  go_wp2
  go_loopw [20] (fun v20 wr => ∃ (i g cap : Nat), v20 = .int .i64 i ∧ i ≤ l0.length ∧ wr.heap[w1.heap.size]? = some (.cells #[.slice (some ⟨g, 0, none⟩) i cap] 25 (0, 0)) ∧ Aside0 (Kd.R k32 32 wr w.heap.size (fun k => k ≠ w1.heap.size) (.slice (some ⟨g, 0, none⟩) i cap) (l0.take i)) ∧ Aside0 (faults k (l0.drop i) = some e) ∧ Aside0 (Below w.heap.size w wr)) (fun v20 _ => l0.length - (intOf v20).toNat)
  case atStart =>
    refine ⟨0, w.heap.size, l0.length, rfl, Nat.zero_le _, blk_new _ _, ⟨?_⟩, ⟨HF.out⟩, ⟨below_alloc HB1.out _⟩⟩
    exact Kd.R_alloc (R_of_own (xs := []) HO1.out (by intro k hk; simp [Value.ownBlock] at hk; omega)) _
  case round =>
    obtain ⟨i, g, cap, rfl, hi, hbox, HO, HFi, HB⟩ := hrel
    by_cases hlt : i < l0.length
    · have p0 : (0 : Int) ≤ (i : Int) := by omega
      have q0 : (i : Int) < (l0.length : Int) := by omega
      obtain ⟨ad, e0, hx0, hx1⟩ := at_T32 HR0.out i p0 q0
      subst e0
      simp only [Int.toNat_natCast] at hx0 hx1
      replace hx0 := (HB.out.cell (World.block_lt_of_cell? w _ hx0)).trans hx0
      replace hx1 := (HB.out.cell (World.block_lt_of_cell? w _ hx1)).trans hx1
      obtain ⟨e1, hf1, hf2⟩ := faults_at hlt HFi.out
      have HF1 := Aside0.mk hf1
      have HF2 := Aside0.mk hf2
      have HBOX := Aside0.mk hbox
      have hw1 : wrap64 ((i : Int) + 1) = ((i + 1 : Nat) : Int) := by unfold wrap64; have := HL.out; omega
      clear hf1 hf2 hbox
      by_cases h0 : e1 = 0
      · subst h0
        go_wp2_with (first
          | (go_at_call 36; refine (addr_fault.calls k _ _ _ _ HF1.out).mono ?_; rintro e_ w2 ⟨rfl, hb⟩
             have kb := Aside0.mk (blk_below (blk_alloc HBOX.out (.cells #[.int .u32 (rd_T32 l0 i).f0, .int .i64 (rd_T32 l0 i).f1] 32 (0, 0))) hb)
             have kp := Aside0.mk (blk_below (blk_new wr (.cells #[.int .u32 (rd_T32 l0 i).f0, .int .i64 (rd_T32 l0 i).f1] 32 (0, 0))) hb)
             have kb0 : w2.cell? ⟨w1.heap.size, 0, none⟩ = some (.slice (some ⟨g, 0, none⟩) i cap) := (blk_cell kb.out 0).trans rfl
             have kp0 : w2.cell? ⟨wr.heap.size, 0, none⟩ = some (.int .u32 (rd_T32 l0 i).f0) := (blk_cell kp.out 0).trans rfl
             have kp1 : w2.cell? ⟨wr.heap.size, 1, none⟩ = some (.int .i64 (rd_T32 l0 i).f1) := (blk_cell kp.out 1).trans rfl
             have HO2 := Aside0.mk (Kd.R_below (Kd.R_alloc HO.out (.cells #[.int .u32 (rd_T32 l0 i).f0, .int .i64 (rd_T32 l0 i).f1] 32 (0, 0))) hb)
             have HB2 := Aside0.mk (below_step (below_alloc HB.out (.cells #[.int .u32 (rd_T32 l0 i).f0, .int .i64 (rd_T32 l0 i).f1] 32 (0, 0))) hb)
             clear hb)
          | ((with_reducible refine gate_builtin (b := .append) (xs := #[.tmp 29, .tmp 31]) rfl ?_); at_builtin
             refine Kd.R_append k32 (w0 := w) w.heap.size rfl (.tmp 29) (.tmp 31) 25 32 (.agg #[(.int .u32 0), (.int .i64 0)]) 16 rfl Try.underlying25 info32 rfl (by decide) (by omega) (.slice (some ⟨g, 0, none⟩) i cap) (l0.take i) (⟨(rd_T32 l0 i).f0, (rd_T32 l0 i).f1⟩ : S32) [.int .u32 ((rd_T32 l0 i).f0), .int .i64 ((rd_T32 l0 i).f1)] (fun k_ => k_ ≠ w1.heap.size) (fun _ => False) rfl rfl (k32_mkM _ _ _ (⟨(rd_T32 l0 i).f0, (rd_T32 l0 i).f1⟩ : S32)) (fun _ hk => hk.elim) (Kd.freshB kb.out) HO2.out HB2.out (below_size HB2.out) (by have := HL.out; rw [List.length_take]; omega) ?_
             intro v3 w3 ho hb hg hat
             rw [← take_rd hlt] at ho
             obtain ⟨g3, cap3, e3, _⟩ := Kd.R_form ho (by rw [List.length_take]; omega)
             rw [show (l0.take (i + 1)).length = i + 1 from by rw [List.length_take]; omega] at e3
             subst e3
             have kb3 := Aside0.mk (blk_grown kb.out hg (Kd.R_away HO2.out (fun _ hk => hk)))
             have fb3 := blk_frozen kb3.out 0
             have kc3 : w3.cell? ⟨w1.heap.size, 0, none⟩ = some (.slice (some ⟨g, 0, none⟩) i cap) := (blk_cell kb3.out 0).trans rfl
             have HO3 := Aside0.mk ho
             have HB3 := Aside0.mk hb
             clear ho hb hg hat))
        go_roundw
        case rel =>
          exact ⟨i + 1, g3, cap3, by rw [hw1], by omega, blk_put kb3.out 0 _ rfl, ⟨Kd.R_far HO3.out (fun _ hk => hk) _⟩, ⟨by simpa using HF2.out⟩, ⟨below_set HB3.out (by omega)⟩⟩
        case measure => rw [hw1]; exact meas_up hlt
      · have b1 : (e1 != 0) = true := by simp [h0]
        go_wp2_with (go_at_call 36; refine (addr_fault.calls k _ _ _ _ HF1.out).mono ?_; rintro e_ w2 ⟨rfl, hb⟩
                     have HB2 := Aside0.mk (below_step (below_alloc HB.out (.cells #[.int .u32 (rd_T32 l0 i).f0, .int .i64 (rd_T32 l0 i).f1] 32 (0, 0))) hb)
                     clear hb)
        refine bodyPost_ret (v := .tuple #[.slice none 0 0, .int .i64 e1]) (by simp [results, Try.results24, go_sem]) rfl ?_
        have hS := HS.out
        have h2 := HF2.out
        rw [if_neg h0] at h2
        obtain rfl := Option.some.inj h2
        rw [if_neg h0] at hS
        obtain rfl := Option.some.inj hS
        exact ⟨_, rfl, Kd.R_nil _ _ _ _ _, HB2.out⟩
    · obtain rfl : i = l0.length := by omega
      have hS := HS.out
      have h2 := HFi.out
      rw [List.drop_length] at h2
      obtain rfl := Option.some.inj h2
      rw [if_pos rfl] at hS
      obtain ⟨out, hM, hS⟩ := Option.bind_eq_some_iff.1 hS
      obtain rfl := Option.some.inj hS
      have HM := Aside0.mk hM
      have HBOX := Aside0.mk hbox
      have kb0 : wr.cell? ⟨w1.heap.size, 0, none⟩ = some (.slice (some ⟨g, 0, none⟩) l0.length cap) := (blk_cell hbox 0).trans rfl
      clear hS h2 hM hbox HS HFi HF hlt
      have hrow := own_of_R HO.out
      rw [List.take_length] at hrow
      have hg1 : w1.heap.size ≠ g := fun e => by have := HO.out.1 g rfl; omega
      go_wp2_with (go_at_call 37; refine (SortP.sort_own hrow (by have := HL.out; omega) kb0 (blk_lt HBOX.out) hg1).mono ?_; rintro e_ w2 ⟨rfl, hrow2, hkeep, hb2⟩
                   have HROW := Aside0.mk hrow2
                   have HBOX2 := Aside0.mk ((hkeep _ (blk_lt HBOX.out) hg1).trans HBOX.out)
                   have HB2 := Aside0.mk (HB.out.trans hb2)
                   clear hrow2 hkeep hb2)
      have hsl : (srtS l0).length = l0.length := by unfold srtS; rw [List.length_map, SortP.srt_len, List.length_map]
      have hsm : (srtS l0).map prS = SortP.srt (l0.map prS) := by unfold srtS; rw [List.map_map]; exact List.map_id _
      have HR2 : Aside0 (Kd.R k32 32 w2 w.heap.size (fun k => k ≠ w1.heap.size) (.slice (some ⟨g, 0, none⟩) l0.length cap) (srtS l0)) := ⟨R_of_own (by rw [hsm, hsl]; exact HROW.out) (by intro k hk; simp [Value.ownBlock] at hk; omega)⟩
      have HS3 : Aside0 (MSt w w1.heap.size g l0.length cap (srtS l0) (.slice none 0 0) [] w2) := ⟨HBOX2.out, hsl, HR2.out, Kd.R_nil _ _ _ _ _, HB2.out⟩
      generalize hS0 : srtS l0 = S at *
      clear HROW HBOX2 HB2 HR2 HBOX HB HO hrow kb0 HH hsm
      go_loopw [8, 9, 10, 11] (fun v8 v9 _ _ w3 => ∃ (i : Nat) (xs : List S32), v9 = .int .i64 i ∧ i ≤ l0.length ∧ Aside0 (MSt w w1.heap.size g l0.length cap S v8 xs w3) ∧ Aside0 (mergeOut k (S.drop i) xs = some out)) (fun _ v9 _ _ _ => l0.length - (intOf v9).toNat)
      case atStart => exact ⟨0, [], rfl, Nat.zero_le _, HS3, HM⟩
      case round =>
        clear HS3 HM
        obtain ⟨i, xs, rfl, hi, HS3, HM3⟩ := hrel
        have kb3 := HS3.out.box
        by_cases hlt : i < l0.length
        · have hltS : i < S.length := by omega
          obtain ⟨e2, hE, hG⟩ := mergeOut_at hltS HM3.out
          have HE := Aside0.mk hE
          have HG := Aside0.mk hG
          have hw1 : wrap64 ((i : Int) + 1) = ((i + 1 : Nat) : Int) := by unfold wrap64; have := HL.out; omega
          have kx := HS3.out.at_ hltS
          obtain ⟨kx0, kx1⟩ := kx
          clear hE hG HM3
          go_wp2
          go_region_held3 (fun w' => w'.cell? ⟨w1.heap.size, 0, none⟩ = some (.slice (some ⟨g, 0, none⟩) l0.length cap) ∧ w'.cell? ⟨g, i * 2, none⟩ = some (.int .u32 (rd_T32 S i).f0) ∧ w'.cell? ⟨g, i * 2 + 1, none⟩ = some (.int .i64 (rd_T32 S i).f1) ∧ Aside0 (MSt w w1.heap.size g l0.length cap S u8 xs w'))
            (first | exact ⟨kb4, kx4, ky4, HS4⟩ | exact ⟨kb3, kx0, kx1, MSt.drew HS3⟩)
            (first | (go_at_call 31; refine (addr_last.calls _ _ _ _ HE.out).mono ?_; rintro e_ w4 ⟨rfl, hb⟩; have HS4 := Aside0.mk (MSt.below (by exact MSt.drew HS3) hb); have kb4 := HS4.out.box; have kx4 := (HS4.out.at_ hltS).1; have ky4 := (HS4.out.at_ hltS).2; clear hb))
          clear kb3 kx0 kx1 kx4 ky4 HS3
          go_wp2
          clear kb4
          go_loopw [9, 11] (fun v9 v11 w5 => ∃ (j : Nat) (hh : Int), v9 = .int .i64 j ∧ v11 = .int .u32 hh ∧ i < j ∧ j ≤ l0.length ∧ Aside0 (MSt w w1.heap.size g l0.length cap S u8 xs w5) ∧ Aside0 (mergeGo k (S.drop j) (rd_T32 S i).f0 hh xs = some out)) (fun v9 _ _ => l0.length - (intOf v9).toNat)
          case atStart => exact ⟨i + 1, e2, by rw [hw1], rfl, by omega, by omega, HS4, HG⟩
          case round =>
            clear HS4 HG HE hw1
            obtain ⟨j, hh, rfl, rfl, hij, hj, HS5, HG5⟩ := hrel
            have kb5 := HS5.out.box
            by_cases hgo : ∃ _ : j < S.length, hh = 4294967295 ∨ (rd_T32 S j).f0 ≤ (hh + 1) % 4294967296
            · obtain ⟨hjS, hc⟩ := hgo
              have hjl : j < l0.length := by omega
              obtain ⟨kx5, ky5⟩ := HS5.out.at_ hjS
              have hw2 : wrap64 ((j : Int) + 1) = ((j + 1 : Nat) : Int) := by unfold wrap64; have := HL.out; omega
              obtain ⟨e6, hE, hG⟩ := mergeGo_in hjS hc HG5.out
              have HE := Aside0.mk hE
              have HG6 := Aside0.mk hG
              clear hE hG HG5
              have hcc : hh = 4294967295 ∨ hh ≠ 4294967295 ∧ (rd_T32 S j).f0 ≤ (hh + 1) % 4294967296 := by
                rcases Decidable.em (hh = 4294967295) with h | h
                · exact .inl h
                · exact .inr ⟨h, hc.resolve_left h⟩
              clear hc
              rcases hcc with hc | ⟨hc1, hc2⟩
              · subst hc
                go_wp2_with (go_at_call 31; refine (addr_last.calls _ _ _ _ HE.out).mono ?_; rintro e_ w4 ⟨rfl, hb⟩
                             have HS6 := Aside0.mk (MSt.below HS5 hb)
                             clear hb)
                go_roundw
                case rel => exact ⟨j + 1, _, by rw [hw2], rfl, by omega, by omega, HS6, by have h := HG6; rwa [max_if] at h⟩
                case measure => rw [hw2]; exact meas_up hjl
              · have b1 : (hh == 4294967295) = false := by simp [hc1]
                have b2 : decide ((rd_T32 S j).f0 ≤ (hh + 1) % 4294967296) = true := decide_eq_true hc2
                clear hc1 hc2
                go_wp2_with (go_at_call 31; refine (addr_last.calls _ _ _ _ HE.out).mono ?_; rintro e_ w4 ⟨rfl, hb⟩
                             have HS6 := Aside0.mk (MSt.below HS5 hb)
                             clear hb)
                go_roundw
                case rel => exact ⟨j + 1, _, by rw [hw2], rfl, by omega, by omega, HS6, by have h := HG6; rwa [max_if] at h⟩
                case measure => rw [hw2]; exact meas_up hjl
            · obtain ⟨cs, hC, hlen, hG⟩ := mergeGo_out (fun h1 h2 => hgo ⟨h1, h2⟩) HG5.out
              have HC := Aside0.mk hC
              have HLN := Aside0.mk hlen
              have HG6 := Aside0.mk hG
              clear hC hG hlen HG5
              have hcc : (∃ _ : j < S.length, hh ≠ 4294967295 ∧ ¬ (rd_T32 S j).f0 ≤ (hh + 1) % 4294967296) ∨ ¬ j < l0.length := by
                rcases Decidable.em (j < S.length) with h | h
                · exact .inl ⟨h, fun e => hgo ⟨h, .inl e⟩, fun e => hgo ⟨h, .inr e⟩⟩
                · exact .inr (by omega)
              clear hgo
              rcases hcc with ⟨hjS, hc1, hc2⟩ | hjl
              · have hjl : j < l0.length := by omega
                have b1 : (hh == 4294967295) = false := by simp [hc1]
                have b2 : decide ((rd_T32 S j).f0 ≤ (hh + 1) % 4294967296) = false := decide_eq_false hc2
                obtain ⟨kx5, ky5⟩ := HS5.out.at_ hjS
                clear hc1 hc2
                go_wp2_with (first
                  | (go_at_call 10; refine (addr_Cover.calls k _ _ _ _ HC.out).mono ?_; rintro e_ w4 ⟨vc, rfl, hrc, hb⟩
                     obtain ⟨inn, hown⟩ := Kd.R_own hrc
                     obtain ⟨Ac, cc, hvc⟩ := own_slice hown
                     subst hvc
                     have HRC := Aside0.mk hrc
                     have HS6 := Aside0.mk (MSt.below HS5 hb)
                     clear hb hrc hown)
                  | ((with_reducible refine gate_builtin (b := .append) (xs := #[.tmp 81, .tmp 84]) rfl ?_); at_builtin
                     refine Kd.R_append_rows k32 (w0 := w) w.heap.size rfl (.tmp 81) (.tmp 84) 25 32 (.agg #[(.int .u32 0), (.int .i64 0)]) 16 rfl Try.underlying25 info32 rfl (by decide) (by omega) _ xs cs Ac cs.length cc (fun k => k ≠ w1.heap.size ∧ k ≠ g) (fun _ => False) rfl rfl HS6.out.res (Kd.R_reads' HRC.out).2.2 (fun x c_ hk => by rw [k32_open hk]; exact k32_mkM _ _ _ x) (fun _ hk => hk.elim) (fun k hk => ⟨fun e => by have := blk_lt HS6.out.blk; omega, fun e => by have := Kd.R_lt HS6.out.row g rfl; omega⟩) HS6.out.bel (below_size HS6.out.bel) HLN.out ?_
                     intro v7 w7 ho hb hg hat
                     have HS7 := Aside0.mk (MSt.grown HS6 ho hb hg)
                     clear ho hb hg hat))
                go_roundw
                case rel => exact ⟨j, _, rfl, by omega, HS7, HG6⟩
                case measure => simp [intOf]; omega
              · have b0 : decide ((j : Int) < (l0.length : Int)) = false := decide_eq_false (by omega)
                go_wp2_with (first
                  | (go_at_call 10; refine (addr_Cover.calls k _ _ _ _ HC.out).mono ?_; rintro e_ w4 ⟨vc, rfl, hrc, hb⟩
                     obtain ⟨inn, hown⟩ := Kd.R_own hrc
                     obtain ⟨Ac, cc, hvc⟩ := own_slice hown
                     subst hvc
                     have HRC := Aside0.mk hrc
                     have HS6 := Aside0.mk (MSt.below HS5 hb)
                     clear hb hrc hown)
                  | ((with_reducible refine gate_builtin (b := .append) (xs := #[.tmp 81, .tmp 84]) rfl ?_); at_builtin
                     refine Kd.R_append_rows k32 (w0 := w) w.heap.size rfl (.tmp 81) (.tmp 84) 25 32 (.agg #[(.int .u32 0), (.int .i64 0)]) 16 rfl Try.underlying25 info32 rfl (by decide) (by omega) _ xs cs Ac cs.length cc (fun k => k ≠ w1.heap.size ∧ k ≠ g) (fun _ => False) rfl rfl HS6.out.res (Kd.R_reads' HRC.out).2.2 (fun x c_ hk => by rw [k32_open hk]; exact k32_mkM _ _ _ x) (fun _ hk => hk.elim) (fun k hk => ⟨fun e => by have := blk_lt HS6.out.blk; omega, fun e => by have := Kd.R_lt HS6.out.row g rfl; omega⟩) HS6.out.bel (below_size HS6.out.bel) HLN.out ?_
                     intro v7 w7 ho hb hg hat
                     have HS7 := Aside0.mk (MSt.grown HS6 ho hb hg)
                     clear ho hb hg hat))
                go_roundw
                case rel => exact ⟨j, _, rfl, by omega, HS7, HG6⟩
                case measure => simp [intOf]; omega
        · obtain rfl : i = l0.length := by omega
          have hM := HM3.out
          rw [List.drop_eq_nil_of_le (by omega)] at hM
          obtain rfl := Option.some.inj hM
          clear hM HM3
          go_wp2
          refine bodyPost_ret (v := .tuple #[_, .int .i64 0]) (by simp [results, Try.results24, go_sem]; rfl) rfl ?_
          exact ⟨_, rfl, Kd.R_mono HS3.out.res (fun _ _ => trivial), HS3.out.bel⟩
set_option maxHeartbeats 4000000 in
set_option maxRecDepth 100000 in
theorem addr_Merge.calls (k : Nat) (A0 : Option Addr) (c0 : Nat) (l0 : List S32) (r1 : List S32) (r2 : Int) (w : World) (hr0 : Kd.C k32 w A0 l0.length l0) (hc0 : l0.length ≤ c0) (h : addr_Merge.f k l0 = some (r1, r2)) :
    Calls Try.prog 24 #[.slice A0 l0.length c0] w fun e w' => ∃ v0_ : Value, e = .returned (.tuple #[v0_, .int .i64 r2]) ∧ Kd.R k32 32 w' w.heap.size (fun _ => True) v0_ r1 ∧ Below w.heap.size w w' := by
  by_cases hlen : l0.length ≤ 4096
  · exact merge_walk k A0 c0 l0 (r1, r2) w hr0 hc0 hlen h
  · unfold addr_Merge.f at h
    rw [if_pos (by omega)] at h
    injection h with h
    injection h with h1 h2
    subst h1; subst h2
    have hn0 : decide ((l0.length : Int) > 4096) = true := decide_eq_true (by omega)
    go_enter Try.func24, Try.ntmps24
    go_wp2
    refine bodyPost_ret (v := .tuple #[.slice none 0 0, .int .i64 2]) (by simp [results, Try.results24, go_sem]) rfl ?_
    exact ⟨_, rfl, Kd.R_nil _ _ _ _ _, Below.refl _ _⟩

/-! ### weftlaw1_sound: function 26 -/
def weftlaw1_sound.l0 : Nat → List (S32) → Int → Option (Bool)
  | 0, _, _ => none
  | k + 1, x0, x3 => if x3 < (x0.length : Int) then (if 0 ≤ x3 then ((weftlaw1_block.f k ((rd_T32 x0 x3).f0) ((rd_T32 x0 x3).f1)).bind fun bt127 => (if bt127.1 < 0 then (some false) else (weftlaw1_sound.l0 k x0 (wrap64 (x3 + 1))))) else (none)) else (some true)
def weftlaw1_sound.f (k : Nat) (l0 : List (S32)) : Option (Bool) := weftlaw1_sound.l0 k l0 0
theorem weftlaw1_sound.mono_l : ∀ k, (∀ y0 y1, LeO (weftlaw1_sound.l0 k y0 y1) (weftlaw1_sound.l0 (k + 1) y0 y1))
  | 0 => fun _ _ r h => by simp [weftlaw1_sound.l0] at h
  | k + 1 => by
    have ih0 := weftlaw1_sound.mono_l k
    · intro y0 y1
      unfold weftlaw1_sound.l0
      repeat' first
      | (with_reducible exact ih0 _ _)
      | (with_reducible exact weftlaw1_block.mono _ _ _)
      | (with_reducible exact LeO.refl _)
      | (with_reducible exact LeO.none _)
      | (with_reducible refine LeO.ite ?_ ?_)
      | (with_reducible refine LeO.bind ?_ (fun _ => ?_))
      | exact ih0 _ _
      | exact weftlaw1_block.mono _ _ _
      | exact LeO.none _
      | refine LeO.ite ?_ ?_
      | refine LeO.bind ?_ (fun _ => ?_)
theorem weftlaw1_sound.mono : ∀ a0 k, LeO (weftlaw1_sound.f k a0) (weftlaw1_sound.f (k + 1) a0) := by
  intro a0 k
  have ih0 := weftlaw1_sound.mono_l k
  unfold weftlaw1_sound.f
  repeat' first
      | (with_reducible exact ih0 _ _)
      | (with_reducible exact weftlaw1_block.mono _ _ _)
      | (with_reducible exact LeO.refl _)
      | (with_reducible exact LeO.none _)
      | (with_reducible refine LeO.ite ?_ ?_)
      | (with_reducible refine LeO.bind ?_ (fun _ => ?_))
      | exact ih0 _ _
      | exact weftlaw1_block.mono _ _ _
      | exact LeO.none _
      | refine LeO.ite ?_ ?_
      | refine LeO.bind ?_ (fun _ => ?_)
set_option maxHeartbeats 8000000 in
set_option maxRecDepth 100000 in
theorem weftlaw1_sound.calls (k : Nat) (A0 : Option Addr) (c0 : Nat) (l0 : List (S32)) (r : Bool) (w : World) (hr0 : Kd.C k32 w A0 l0.length l0) (hc0 : l0.length ≤ c0) (h : weftlaw1_sound.f k l0 = some r) :
    Calls Try.prog 26 #[.slice A0 l0.length c0] w fun e w' => e = .returned (.bool r) ∧ Below w.heap.size w w' := by
  have hu32 := Try.underlying32
  have HR0 := Aside0.mk hr0
  have HC0 := Aside0.mk hc0
  clear hr0 hc0
  have HB := Aside0.mk (Below.refl w.heap.size w)
  have H : (weftlaw1_sound.l0 k l0 0) = some r := h
  clear h
  have H' := Aside0.mk H
  clear H
  go_enter Try.func26, Try.ntmps26
  go_wp2
  go_loopg [3] k (fun kq v3 w' => ∃ (x3_1 : Int), v3 = .int .i64 x3_1 ∧ Aside0 (weftlaw1_sound.l0 kq l0 x3_1 = some r) ∧ Aside0 (kq ≤ k) ∧ Aside0 (Below w.heap.size w w'))
  case atStart => exact ⟨(0), (by first | rfl | (simp; done) | (simp [*]; done)), H', ⟨Nat.le_refl _⟩, ⟨by repeat (first | (with_reducible first | exact HB.out | apply below_alloc | apply pw_below_drewN | apply below_drew1) | exact HB.out)⟩⟩
  case round =>
    clear H'
    obtain ⟨x3_1, rfl, HA, HK1, HB⟩ := hrel
    cases gk with
    | zero => exact absurd HA.out (by simp [weftlaw1_sound.l0])
    | succ k1 =>
      have H := HA.out
      clear HA
      simp only [weftlaw1_sound.l0] at H
      by_cases c2 : x3_1 < (l0.length : Int)
      · rw [if_pos c2] at H
        have c2b0 : decide (x3_1 < (l0.length : Int)) = true := decide_eq_true c2
        clear c2
        by_cases c3 : 0 ≤ x3_1
        · rw [if_pos c3] at H
          have c3b0 : decide (0 ≤ x3_1) = true := decide_eq_true c3
          clear c3
          replace H := Option.bind_eq_some_iff.mp H
          obtain ⟨⟨t127, t128⟩, A40, H⟩ := H
          replace H : (if t127 < 0 then (some false) else (weftlaw1_sound.l0 k1 l0 (wrap64 (x3_1 + 1)))) = some r := H
          have A4 := Aside0.mk A40
          clear A40
          by_cases c5 : t127 < 0
          · rw [if_pos c5] at H
            have c5b0 : decide (t127 < 0) = true := decide_eq_true c5
            clear c5
            obtain rfl := Option.some.inj H
            have p126 : 0 ≤ (x3_1 : Int) := of_decide_eq_true (by first | (with_reducible assumption) | assumption)
            have q126 : x3_1 < (l0.length : Int) := of_decide_eq_true (by first | (with_reducible assumption) | assumption)
            obtain ⟨ad126, e126, hx126_0, hx126_1⟩ := at_T32 HR0.out x3_1 p126 q126
            cases e126
            replace hx126_0 := (HB.out.cell (World.block_lt_of_cell? w _ hx126_0)).trans hx126_0
            replace hx126_1 := (HB.out.cell (World.block_lt_of_cell? w _ hx126_1)).trans hx126_1
            replace p126 := eq_true p126
            replace q126 := eq_true q126
            go_wp2_with (first | ((with_reducible refine gate_callee (f := 13) rfl ?_); refine goesL_ (some 17) rfl rfl Try.func13 (by kernel_rfl) rfl #[.agg #[.int .u32 ((rd_T32 l0 x3_1).f0), .int .i64 ((rd_T32 l0 x3_1).f1)]] rfl (by (try simp only [List.map_toArray, List.map_cons, List.map_nil]); first | done | rfl | (simp only [List.length_drop, List.length_take]; rfl)) ?_; (with_reducible refine (weftlaw1_block.calls k1 ((rd_T32 l0 x3_1).f0) ((rd_T32 l0 x3_1).f1) t127 t128 _ A4.out).mono ?_); rintro e w6 ⟨rfl, hb⟩; refine ⟨_, rfl, ?_⟩; have n0_ := Aside0.mk (below_step (by repeat (first | (with_reducible first | exact HB.out | apply below_alloc | apply pw_below_drewN | apply below_drew1) | exact HB.out)) hb); clear HB; have HB := n0_; clear n0_; (try clear hb); (try clear hb2); (try clear hk); (try clear hi)))
            go_ret
            exact ⟨by first | rfl | (simp [errW_none, errW_some] <;> rfl) | (simp [*, errW_none, errW_some] <;> rfl), by repeat (first | (with_reducible first | exact HB.out | apply below_alloc | apply pw_below_drewN | apply below_drew1) | exact HB.out)⟩
          · rw [if_neg c5] at H
            have c5b0 : decide (t127 < 0) = false := decide_eq_false c5
            clear c5
            have H' := Aside0.mk H
            clear H
            have p126 : 0 ≤ (x3_1 : Int) := of_decide_eq_true (by first | (with_reducible assumption) | assumption)
            have q126 : x3_1 < (l0.length : Int) := of_decide_eq_true (by first | (with_reducible assumption) | assumption)
            obtain ⟨ad126, e126, hx126_0, hx126_1⟩ := at_T32 HR0.out x3_1 p126 q126
            cases e126
            replace hx126_0 := (HB.out.cell (World.block_lt_of_cell? w _ hx126_0)).trans hx126_0
            replace hx126_1 := (HB.out.cell (World.block_lt_of_cell? w _ hx126_1)).trans hx126_1
            replace p126 := eq_true p126
            replace q126 := eq_true q126
            go_wp2_with (first | ((with_reducible refine gate_callee (f := 13) rfl ?_); refine goesL_ (some 17) rfl rfl Try.func13 (by kernel_rfl) rfl #[.agg #[.int .u32 ((rd_T32 l0 x3_1).f0), .int .i64 ((rd_T32 l0 x3_1).f1)]] rfl (by (try simp only [List.map_toArray, List.map_cons, List.map_nil]); first | done | rfl | (simp only [List.length_drop, List.length_take]; rfl)) ?_; (with_reducible refine (weftlaw1_block.calls k1 ((rd_T32 l0 x3_1).f0) ((rd_T32 l0 x3_1).f1) t127 t128 _ A4.out).mono ?_); rintro e w7 ⟨rfl, hb⟩; refine ⟨_, rfl, ?_⟩; have n0_ := Aside0.mk (below_step (by repeat (first | (with_reducible first | exact HB.out | apply below_alloc | apply pw_below_drewN | apply below_drew1) | exact HB.out)) hb); clear HB; have HB := n0_; clear n0_; (try clear hb); (try clear hb2); (try clear hk); (try clear hi)))
            go_roundg k1
            case measure => have := HK1.out; omega
            case rel => exact ⟨(wrap64 (x3_1 + 1)), (by first | rfl | (simp; done) | (simp [*]; done)), H', ⟨by have := HK1.out; omega⟩, ⟨by repeat (first | (with_reducible first | exact HB.out | apply below_alloc | apply pw_below_drewN | apply below_drew1) | exact HB.out)⟩⟩
        · rw [if_neg c3] at H
          exact absurd H (by simp)
      · rw [if_neg c2] at H
        have c2b0 : decide (x3_1 < (l0.length : Int)) = false := decide_eq_false c2
        clear c2
        obtain rfl := Option.some.inj H
        go_wp2
        go_ret
        exact ⟨by first | rfl | (simp [errW_none, errW_some] <;> rfl) | (simp [*, errW_none, errW_some] <;> rfl), by repeat (first | (with_reducible first | exact HB.out | apply below_alloc | apply pw_below_drewN | apply below_drew1) | exact HB.out)⟩

/-! ### weftlaw1_had: function 41 -/
def weftlaw1_had.l0 : Nat → List (S32) → Int → Int → Option (Bool)
  | 0, _, _, _ => none
  | k + 1, x0, x1, x5 => if x5 < (x0.length : Int) then (if 0 ≤ x5 then ((weftlaw1_block.f k ((rd_T32 x0 x5).f0) ((rd_T32 x0 x5).f1)).bind fun bt130 => (if bt130.1 ≥ 0 then (if bt130.1 ≤ x1 then (if x1 ≤ bt130.2 then (some true) else (weftlaw1_had.l0 k x0 x1 (wrap64 (x5 + 1)))) else (weftlaw1_had.l0 k x0 x1 (wrap64 (x5 + 1)))) else (weftlaw1_had.l0 k x0 x1 (wrap64 (x5 + 1))))) else (none)) else (some false)
def weftlaw1_had.f (k : Nat) (l0 : List (S32)) (a1 : Int) : Option (Bool) := weftlaw1_had.l0 k l0 a1 0
theorem weftlaw1_had.mono_l : ∀ k, (∀ y0 y1 y2, LeO (weftlaw1_had.l0 k y0 y1 y2) (weftlaw1_had.l0 (k + 1) y0 y1 y2))
  | 0 => fun _ _ _ r h => by simp [weftlaw1_had.l0] at h
  | k + 1 => by
    have ih0 := weftlaw1_had.mono_l k
    · intro y0 y1 y2
      unfold weftlaw1_had.l0
      repeat' first
      | (with_reducible exact ih0 _ _ _)
      | (with_reducible exact weftlaw1_block.mono _ _ _)
      | (with_reducible exact LeO.refl _)
      | (with_reducible exact LeO.none _)
      | (with_reducible refine LeO.ite ?_ ?_)
      | (with_reducible refine LeO.bind ?_ (fun _ => ?_))
      | exact ih0 _ _ _
      | exact weftlaw1_block.mono _ _ _
      | exact LeO.none _
      | refine LeO.ite ?_ ?_
      | refine LeO.bind ?_ (fun _ => ?_)
theorem weftlaw1_had.mono : ∀ a0 a1 k, LeO (weftlaw1_had.f k a0 a1) (weftlaw1_had.f (k + 1) a0 a1) := by
  intro a0 a1 k
  have ih0 := weftlaw1_had.mono_l k
  unfold weftlaw1_had.f
  repeat' first
      | (with_reducible exact ih0 _ _ _)
      | (with_reducible exact weftlaw1_block.mono _ _ _)
      | (with_reducible exact LeO.refl _)
      | (with_reducible exact LeO.none _)
      | (with_reducible refine LeO.ite ?_ ?_)
      | (with_reducible refine LeO.bind ?_ (fun _ => ?_))
      | exact ih0 _ _ _
      | exact weftlaw1_block.mono _ _ _
      | exact LeO.none _
      | refine LeO.ite ?_ ?_
      | refine LeO.bind ?_ (fun _ => ?_)
set_option maxHeartbeats 8000000 in
set_option maxRecDepth 100000 in
theorem weftlaw1_had.calls (k : Nat) (A0 : Option Addr) (c0 : Nat) (l0 : List (S32)) (a1 : Int) (r : Bool) (w : World) (hr0 : Kd.C k32 w A0 l0.length l0) (hc0 : l0.length ≤ c0) (h : weftlaw1_had.f k l0 a1 = some r) :
    Calls Try.prog 41 #[.slice A0 l0.length c0, .int .i64 a1] w fun e w' => e = .returned (.bool r) ∧ Below w.heap.size w w' := by
  have hu32 := Try.underlying32
  have HR0 := Aside0.mk hr0
  have HC0 := Aside0.mk hc0
  clear hr0 hc0
  have HB := Aside0.mk (Below.refl w.heap.size w)
  have H : (weftlaw1_had.l0 k l0 a1 0) = some r := h
  clear h
  have H' := Aside0.mk H
  clear H
  go_enter Try.func41, Try.ntmps41
  go_wp2
  go_loopg [5] k (fun kq v5 w' => ∃ (x5_1 : Int), v5 = .int .i64 x5_1 ∧ Aside0 (weftlaw1_had.l0 kq l0 a1 x5_1 = some r) ∧ Aside0 (kq ≤ k) ∧ Aside0 (Below w.heap.size w w'))
  case atStart => exact ⟨(0), (by first | rfl | (simp; done) | (simp [*]; done)), H', ⟨Nat.le_refl _⟩, ⟨by repeat (first | (with_reducible first | exact HB.out | apply below_alloc | apply pw_below_drewN | apply below_drew1) | exact HB.out)⟩⟩
  case round =>
    clear H'
    try clear p2
    obtain ⟨x5_1, rfl, HA, HK1, HB⟩ := hrel
    cases gk with
    | zero => exact absurd HA.out (by simp [weftlaw1_had.l0])
    | succ k1 =>
      have H := HA.out
      clear HA
      simp only [weftlaw1_had.l0] at H
      by_cases c3 : x5_1 < (l0.length : Int)
      · rw [if_pos c3] at H
        have c3b0 : decide (x5_1 < (l0.length : Int)) = true := decide_eq_true c3
        clear c3
        by_cases c4 : 0 ≤ x5_1
        · rw [if_pos c4] at H
          have c4b0 : decide (0 ≤ x5_1) = true := decide_eq_true c4
          clear c4
          replace H := Option.bind_eq_some_iff.mp H
          obtain ⟨⟨t130, t131⟩, A50, H⟩ := H
          replace H : (if t130 ≥ 0 then (if t130 ≤ a1 then (if a1 ≤ t131 then (some true) else (weftlaw1_had.l0 k1 l0 a1 (wrap64 (x5_1 + 1)))) else (weftlaw1_had.l0 k1 l0 a1 (wrap64 (x5_1 + 1)))) else (weftlaw1_had.l0 k1 l0 a1 (wrap64 (x5_1 + 1)))) = some r := H
          have A5 := Aside0.mk A50
          clear A50
          by_cases c6 : t130 ≥ 0
          · rw [if_pos c6] at H
            have c6b0 : decide (0 ≤ t130) = true := decide_eq_true c6
            clear c6
            by_cases c7 : t130 ≤ a1
            · rw [if_pos c7] at H
              have c7b0 : decide (t130 ≤ a1) = true := decide_eq_true c7
              clear c7
              by_cases c8 : a1 ≤ t131
              · rw [if_pos c8] at H
                have c8b0 : decide (a1 ≤ t131) = true := decide_eq_true c8
                clear c8
                obtain rfl := Option.some.inj H
                have p129 : 0 ≤ (x5_1 : Int) := of_decide_eq_true (by first | (with_reducible assumption) | assumption)
                have q129 : x5_1 < (l0.length : Int) := of_decide_eq_true (by first | (with_reducible assumption) | assumption)
                obtain ⟨ad129, e129, hx129_0, hx129_1⟩ := at_T32 HR0.out x5_1 p129 q129
                cases e129
                replace hx129_0 := (HB.out.cell (World.block_lt_of_cell? w _ hx129_0)).trans hx129_0
                replace hx129_1 := (HB.out.cell (World.block_lt_of_cell? w _ hx129_1)).trans hx129_1
                replace p129 := eq_true p129
                replace q129 := eq_true q129
                go_wp2_with (first | ((with_reducible refine gate_callee (f := 13) rfl ?_); refine goesL_ (some 19) rfl rfl Try.func13 (by kernel_rfl) rfl #[.agg #[.int .u32 ((rd_T32 l0 x5_1).f0), .int .i64 ((rd_T32 l0 x5_1).f1)]] rfl (by (try simp only [List.map_toArray, List.map_cons, List.map_nil]); first | done | rfl | (simp only [List.length_drop, List.length_take]; rfl)) ?_; (with_reducible refine (weftlaw1_block.calls k1 ((rd_T32 l0 x5_1).f0) ((rd_T32 l0 x5_1).f1) t130 t131 _ A5.out).mono ?_); rintro e w9 ⟨rfl, hb⟩; refine ⟨_, rfl, ?_⟩; have n0_ := Aside0.mk (below_step (by repeat (first | (with_reducible first | exact HB.out | apply below_alloc | apply pw_below_drewN | apply below_drew1) | exact HB.out)) hb); clear HB; have HB := n0_; clear n0_; (try clear hb); (try clear hb2); (try clear hk); (try clear hi)))
                go_ret
                exact ⟨by first | rfl | (simp [errW_none, errW_some] <;> rfl) | (simp [*, errW_none, errW_some] <;> rfl), by repeat (first | (with_reducible first | exact HB.out | apply below_alloc | apply pw_below_drewN | apply below_drew1) | exact HB.out)⟩
              · rw [if_neg c8] at H
                have c8b0 : decide (a1 ≤ t131) = false := decide_eq_false c8
                clear c8
                have H' := Aside0.mk H
                clear H
                have p129 : 0 ≤ (x5_1 : Int) := of_decide_eq_true (by first | (with_reducible assumption) | assumption)
                have q129 : x5_1 < (l0.length : Int) := of_decide_eq_true (by first | (with_reducible assumption) | assumption)
                obtain ⟨ad129, e129, hx129_0, hx129_1⟩ := at_T32 HR0.out x5_1 p129 q129
                cases e129
                replace hx129_0 := (HB.out.cell (World.block_lt_of_cell? w _ hx129_0)).trans hx129_0
                replace hx129_1 := (HB.out.cell (World.block_lt_of_cell? w _ hx129_1)).trans hx129_1
                replace p129 := eq_true p129
                replace q129 := eq_true q129
                go_wp2_with (first | ((with_reducible refine gate_callee (f := 13) rfl ?_); refine goesL_ (some 19) rfl rfl Try.func13 (by kernel_rfl) rfl #[.agg #[.int .u32 ((rd_T32 l0 x5_1).f0), .int .i64 ((rd_T32 l0 x5_1).f1)]] rfl (by (try simp only [List.map_toArray, List.map_cons, List.map_nil]); first | done | rfl | (simp only [List.length_drop, List.length_take]; rfl)) ?_; (with_reducible refine (weftlaw1_block.calls k1 ((rd_T32 l0 x5_1).f0) ((rd_T32 l0 x5_1).f1) t130 t131 _ A5.out).mono ?_); rintro e w10 ⟨rfl, hb⟩; refine ⟨_, rfl, ?_⟩; have n0_ := Aside0.mk (below_step (by repeat (first | (with_reducible first | exact HB.out | apply below_alloc | apply pw_below_drewN | apply below_drew1) | exact HB.out)) hb); clear HB; have HB := n0_; clear n0_; (try clear hb); (try clear hb2); (try clear hk); (try clear hi)))
                go_roundg k1
                case measure => have := HK1.out; omega
                case rel => exact ⟨(wrap64 (x5_1 + 1)), (by first | rfl | (simp; done) | (simp [*]; done)), H', ⟨by have := HK1.out; omega⟩, ⟨by repeat (first | (with_reducible first | exact HB.out | apply below_alloc | apply pw_below_drewN | apply below_drew1) | exact HB.out)⟩⟩
            · rw [if_neg c7] at H
              have c7b0 : decide (t130 ≤ a1) = false := decide_eq_false c7
              clear c7
              have H' := Aside0.mk H
              clear H
              have p129 : 0 ≤ (x5_1 : Int) := of_decide_eq_true (by first | (with_reducible assumption) | assumption)
              have q129 : x5_1 < (l0.length : Int) := of_decide_eq_true (by first | (with_reducible assumption) | assumption)
              obtain ⟨ad129, e129, hx129_0, hx129_1⟩ := at_T32 HR0.out x5_1 p129 q129
              cases e129
              replace hx129_0 := (HB.out.cell (World.block_lt_of_cell? w _ hx129_0)).trans hx129_0
              replace hx129_1 := (HB.out.cell (World.block_lt_of_cell? w _ hx129_1)).trans hx129_1
              replace p129 := eq_true p129
              replace q129 := eq_true q129
              go_wp2_with (first | ((with_reducible refine gate_callee (f := 13) rfl ?_); refine goesL_ (some 19) rfl rfl Try.func13 (by kernel_rfl) rfl #[.agg #[.int .u32 ((rd_T32 l0 x5_1).f0), .int .i64 ((rd_T32 l0 x5_1).f1)]] rfl (by (try simp only [List.map_toArray, List.map_cons, List.map_nil]); first | done | rfl | (simp only [List.length_drop, List.length_take]; rfl)) ?_; (with_reducible refine (weftlaw1_block.calls k1 ((rd_T32 l0 x5_1).f0) ((rd_T32 l0 x5_1).f1) t130 t131 _ A5.out).mono ?_); rintro e w11 ⟨rfl, hb⟩; refine ⟨_, rfl, ?_⟩; have n0_ := Aside0.mk (below_step (by repeat (first | (with_reducible first | exact HB.out | apply below_alloc | apply pw_below_drewN | apply below_drew1) | exact HB.out)) hb); clear HB; have HB := n0_; clear n0_; (try clear hb); (try clear hb2); (try clear hk); (try clear hi)))
              go_roundg k1
              case measure => have := HK1.out; omega
              case rel => exact ⟨(wrap64 (x5_1 + 1)), (by first | rfl | (simp; done) | (simp [*]; done)), H', ⟨by have := HK1.out; omega⟩, ⟨by repeat (first | (with_reducible first | exact HB.out | apply below_alloc | apply pw_below_drewN | apply below_drew1) | exact HB.out)⟩⟩
          · rw [if_neg c6] at H
            have c6b0 : decide (0 ≤ t130) = false := decide_eq_false c6
            clear c6
            have H' := Aside0.mk H
            clear H
            have p129 : 0 ≤ (x5_1 : Int) := of_decide_eq_true (by first | (with_reducible assumption) | assumption)
            have q129 : x5_1 < (l0.length : Int) := of_decide_eq_true (by first | (with_reducible assumption) | assumption)
            obtain ⟨ad129, e129, hx129_0, hx129_1⟩ := at_T32 HR0.out x5_1 p129 q129
            cases e129
            replace hx129_0 := (HB.out.cell (World.block_lt_of_cell? w _ hx129_0)).trans hx129_0
            replace hx129_1 := (HB.out.cell (World.block_lt_of_cell? w _ hx129_1)).trans hx129_1
            replace p129 := eq_true p129
            replace q129 := eq_true q129
            go_wp2_with (first | ((with_reducible refine gate_callee (f := 13) rfl ?_); refine goesL_ (some 19) rfl rfl Try.func13 (by kernel_rfl) rfl #[.agg #[.int .u32 ((rd_T32 l0 x5_1).f0), .int .i64 ((rd_T32 l0 x5_1).f1)]] rfl (by (try simp only [List.map_toArray, List.map_cons, List.map_nil]); first | done | rfl | (simp only [List.length_drop, List.length_take]; rfl)) ?_; (with_reducible refine (weftlaw1_block.calls k1 ((rd_T32 l0 x5_1).f0) ((rd_T32 l0 x5_1).f1) t130 t131 _ A5.out).mono ?_); rintro e w12 ⟨rfl, hb⟩; refine ⟨_, rfl, ?_⟩; have n0_ := Aside0.mk (below_step (by repeat (first | (with_reducible first | exact HB.out | apply below_alloc | apply pw_below_drewN | apply below_drew1) | exact HB.out)) hb); clear HB; have HB := n0_; clear n0_; (try clear hb); (try clear hb2); (try clear hk); (try clear hi)))
            go_roundg k1
            case measure => have := HK1.out; omega
            case rel => exact ⟨(wrap64 (x5_1 + 1)), (by first | rfl | (simp; done) | (simp [*]; done)), H', ⟨by have := HK1.out; omega⟩, ⟨by repeat (first | (with_reducible first | exact HB.out | apply below_alloc | apply pw_below_drewN | apply below_drew1) | exact HB.out)⟩⟩
        · rw [if_neg c4] at H
          exact absurd H (by simp)
      · rw [if_neg c3] at H
        have c3b0 : decide (x5_1 < (l0.length : Int)) = false := decide_eq_false c3
        clear c3
        obtain rfl := Option.some.inj H
        go_wp2
        go_ret
        exact ⟨by first | rfl | (simp [errW_none, errW_some] <;> rfl) | (simp [*, errW_none, errW_some] <;> rfl), by repeat (first | (with_reducible first | exact HB.out | apply below_alloc | apply pw_below_drewN | apply below_drew1) | exact HB.out)⟩

end Go.Proofs.Ytncpcjphljfcpaa.PMrg
