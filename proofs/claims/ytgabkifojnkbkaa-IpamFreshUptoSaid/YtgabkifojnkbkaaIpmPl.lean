/- plays: a step on both subnets, walked: the answers are alike. plays: whatever the step, the answers are alike and the two subnets stay alike. first: the document's example, walked. IpamNews walked. -/
import Derived.Test.YtgabkifojnkbkaaIpmGg
set_option linter.unusedVariables false
set_option linter.unusedSimpArgs false
namespace Go.Proofs.Ytgabkifojnkbkaa.Ip
open Go.RowKit Go.Maps Go.WideMaps Go.MapKept Go.Proofs.YtgabkifojnkbkaaW.PrintWords Go.Proofs.Ytgabkifojnkbkaa.PIpf
abbrev opV (k : Int) (s : ByteArray) (a : Int) : Value := .agg #[.int .i64 k, .string s, .int .u32 a]
abbrev ptr (B : Nat) : Value := .pointer (some ⟨B, 0, none⟩)
section
variable (w : World) (B B' : Nat) (s : ByteArray) (a r c : Int) (nm : ByteArray) (Q : World → World → Prop) (Q' : World → World → World → Prop)
set_option maxHeartbeats 8000000 in
set_option maxRecDepth 100000 in
theorem play_add (hA : ∀ w1, Below w.heap.size w w1 → w.heap.size < w1.heap.size → Calls Try.prog 22 #[ptr B, .string s] w1 fun e w2 => e = .returned (.tuple #[.int .u32 r, .int .i64 c]) ∧ Q w1 w2 ∧ w2.heap[w.heap.size]? = w1.heap[w.heap.size]?)
    (hB : ∀ w1 w2, Below w.heap.size w w1 → w.heap.size < w1.heap.size → Q w1 w2 → Calls Try.prog 36 #[ptr B', .string s] w2 fun e w3 => e = .returned (.tuple #[.int .u32 r, .int .i64 c]) ∧ Q' w1 w2 w3) :
    Calls Try.prog 19 #[ptr B, ptr B', opV 1 s a] w fun e w' => e = .returned (.bool true) ∧ ∃ w1 w2, Below w.heap.size w w1 ∧ w.heap.size < w1.heap.size ∧ Q w1 w2 ∧ Q' w1 w2 w' := by
  have HA := Aside0.mk hA
  have HB := Aside0.mk hB
  have hb1 : Below w.heap.size w (w.alloc (.cells #[.int .i64 1, .string s, .int .u32 a] 39)) := below_alloc (Below.refl _ _) _
  have hlt : w.heap.size < (w.alloc (.cells #[.int .i64 1, .string s, .int .u32 a] 39)).heap.size := by rw [World.size_alloc]; omega
  have H1 := Aside0.mk hb1
  have H2 := Aside0.mk hlt
  clear hA hB hb1 hlt
  go_enter Try.func19, Try.ntmps19
  go_wp2_with (first | (go_at_call 22; refine (HA.out _ H1.out H2.out).mono ?_; rintro e_ w2 ⟨rfl, hq, hk⟩
                        have kb := hk.trans (blk_new w (.cells #[.int .i64 1, .string s, .int .u32 a] 39))
                        have k1 : w2.cell? ⟨w.heap.size, 1, none⟩ = some (.string s) := blk_cell kb 1
                        have HQ := Aside0.mk hq
                        clear hq hk kb)
                     | (go_at_call 36; refine (HB.out _ _ H1.out H2.out HQ.out).mono ?_; rintro e_ w3 ⟨rfl, hq⟩; have HQ2 := Aside0.mk hq; clear hq) | go_in)
  go_ret
  exact ⟨rfl, _, _, H1.out, H2.out, HQ.out, HQ2.out⟩
set_option maxHeartbeats 8000000 in
set_option maxRecDepth 100000 in
theorem play_del (hA : ∀ w1, Below w.heap.size w w1 → w.heap.size < w1.heap.size → Calls Try.prog 24 #[ptr B, .string s] w1 fun e w2 => e = .returned (.tuple #[.int .u32 r, .int .i64 c]) ∧ Q w1 w2 ∧ w2.heap[w.heap.size]? = w1.heap[w.heap.size]?)
    (hB : ∀ w1 w2, Below w.heap.size w w1 → w.heap.size < w1.heap.size → Q w1 w2 → Calls Try.prog 37 #[ptr B', .string s] w2 fun e w3 => e = .returned (.tuple #[.int .u32 r, .int .i64 c]) ∧ Q' w1 w2 w3) :
    Calls Try.prog 19 #[ptr B, ptr B', opV 2 s a] w fun e w' => e = .returned (.bool true) ∧ ∃ w1 w2, Below w.heap.size w w1 ∧ w.heap.size < w1.heap.size ∧ Q w1 w2 ∧ Q' w1 w2 w' := by
  have HA := Aside0.mk hA
  have HB := Aside0.mk hB
  have hb1 : Below w.heap.size w (w.alloc (.cells #[.int .i64 2, .string s, .int .u32 a] 39)) := below_alloc (Below.refl _ _) _
  have hlt : w.heap.size < (w.alloc (.cells #[.int .i64 2, .string s, .int .u32 a] 39)).heap.size := by rw [World.size_alloc]; omega
  have H1 := Aside0.mk hb1
  have H2 := Aside0.mk hlt
  clear hA hB hb1 hlt
  go_enter Try.func19, Try.ntmps19
  go_wp2_with (first | (go_at_call 24; refine (HA.out _ H1.out H2.out).mono ?_; rintro e_ w2 ⟨rfl, hq, hk⟩
                        have kb := hk.trans (blk_new w (.cells #[.int .i64 2, .string s, .int .u32 a] 39))
                        have k1 : w2.cell? ⟨w.heap.size, 1, none⟩ = some (.string s) := blk_cell kb 1
                        have HQ := Aside0.mk hq
                        clear hq hk kb)
                     | (go_at_call 37; refine (HB.out _ _ H1.out H2.out HQ.out).mono ?_; rintro e_ w3 ⟨rfl, hq⟩; have HQ2 := Aside0.mk hq; clear hq) | go_in)
  go_ret
  exact ⟨rfl, _, _, H1.out, H2.out, HQ.out, HQ2.out⟩
set_option maxHeartbeats 8000000 in
set_option maxRecDepth 100000 in
theorem play_find (hA : ∀ w1, Below w.heap.size w w1 → w.heap.size < w1.heap.size → Calls Try.prog 31 #[ptr B, .string s] w1 fun e w2 => e = .returned (.tuple #[.int .u32 r, .int .i64 c]) ∧ Q w1 w2 ∧ w2.heap[w.heap.size]? = w1.heap[w.heap.size]?)
    (hB : ∀ w1 w2, Below w.heap.size w w1 → w.heap.size < w1.heap.size → Q w1 w2 → Calls Try.prog 38 #[ptr B', .string s] w2 fun e w3 => e = .returned (.tuple #[.int .u32 r, .int .i64 c]) ∧ Q' w1 w2 w3) :
    Calls Try.prog 19 #[ptr B, ptr B', opV 3 s a] w fun e w' => e = .returned (.bool true) ∧ ∃ w1 w2, Below w.heap.size w w1 ∧ w.heap.size < w1.heap.size ∧ Q w1 w2 ∧ Q' w1 w2 w' := by
  have HA := Aside0.mk hA
  have HB := Aside0.mk hB
  have hb1 : Below w.heap.size w (w.alloc (.cells #[.int .i64 3, .string s, .int .u32 a] 39)) := below_alloc (Below.refl _ _) _
  have hlt : w.heap.size < (w.alloc (.cells #[.int .i64 3, .string s, .int .u32 a] 39)).heap.size := by rw [World.size_alloc]; omega
  have H1 := Aside0.mk hb1
  have H2 := Aside0.mk hlt
  clear hA hB hb1 hlt
  go_enter Try.func19, Try.ntmps19
  go_wp2_with (first | (go_at_call 31; refine (HA.out _ H1.out H2.out).mono ?_; rintro e_ w2 ⟨rfl, hq, hk⟩
                        have kb := hk.trans (blk_new w (.cells #[.int .i64 3, .string s, .int .u32 a] 39))
                        have k1 : w2.cell? ⟨w.heap.size, 1, none⟩ = some (.string s) := blk_cell kb 1
                        have HQ := Aside0.mk hq
                        clear hq hk kb)
                     | (go_at_call 38; refine (HB.out _ _ H1.out H2.out HQ.out).mono ?_; rintro e_ w3 ⟨rfl, hq⟩; have HQ2 := Aside0.mk hq; clear hq) | go_in)
  go_ret
  exact ⟨rfl, _, _, H1.out, H2.out, HQ.out, HQ2.out⟩
set_option maxHeartbeats 8000000 in
set_option maxRecDepth 100000 in
theorem play_owner (hA : ∀ w1, Below w.heap.size w w1 → w.heap.size < w1.heap.size → Calls Try.prog 39 #[ptr B, .int .u32 a] w1 fun e w2 => e = .returned (.tuple #[.string nm, .int .i64 c]) ∧ Q w1 w2 ∧ w2.heap[w.heap.size]? = w1.heap[w.heap.size]?)
    (hB : ∀ w1 w2, Below w.heap.size w w1 → w.heap.size < w1.heap.size → Q w1 w2 → Calls Try.prog 40 #[ptr B', .int .u32 a] w2 fun e w3 => e = .returned (.tuple #[.string nm, .int .i64 c]) ∧ Q' w1 w2 w3) :
    Calls Try.prog 19 #[ptr B, ptr B', opV 4 s a] w fun e w' => e = .returned (.bool true) ∧ ∃ w1 w2, Below w.heap.size w w1 ∧ w.heap.size < w1.heap.size ∧ Q w1 w2 ∧ Q' w1 w2 w' := by
  have HA := Aside0.mk hA
  have HB := Aside0.mk hB
  have hb1 : Below w.heap.size w (w.alloc (.cells #[.int .i64 4, .string s, .int .u32 a] 39)) := below_alloc (Below.refl _ _) _
  have hlt : w.heap.size < (w.alloc (.cells #[.int .i64 4, .string s, .int .u32 a] 39)).heap.size := by rw [World.size_alloc]; omega
  have H1 := Aside0.mk hb1
  have H2 := Aside0.mk hlt
  clear hA hB hb1 hlt
  go_enter Try.func19, Try.ntmps19
  go_wp2_with (first | (go_at_call 39; refine (HA.out _ H1.out H2.out).mono ?_; rintro e_ w2 ⟨rfl, hq, hk⟩
                        have kb := hk.trans (blk_new w (.cells #[.int .i64 4, .string s, .int .u32 a] 39))
                        have k1 : w2.cell? ⟨w.heap.size, 2, none⟩ = some (.int .u32 a) := blk_cell kb 2
                        have HQ := Aside0.mk hq
                        clear hq hk kb)
                     | (go_at_call 40; refine (HB.out _ _ H1.out H2.out HQ.out).mono ?_; rintro e_ w3 ⟨rfl, hq⟩; have HQ2 := Aside0.mk hq; clear hq) | go_in)
  go_ret
  exact ⟨by simp, _, _, H1.out, H2.out, HQ.out, HQ2.out⟩
set_option maxHeartbeats 8000000 in
set_option maxRecDepth 100000 in
theorem play_list (v1 v2 : World → Value → Prop) (hA : ∀ w1, Below w.heap.size w w1 → Calls Try.prog 30 #[ptr B] w1 fun e w2 => (∃ v, e = .returned v ∧ v1 w2 v) ∧ Below w1.heap.size w1 w2)
    (hB : ∀ w1 v, Below w.heap.size w w1 → v1 w1 v → Calls Try.prog 42 #[ptr B'] w1 fun e w2 => (∃ u, e = .returned u ∧ v1 w2 v ∧ v2 w2 u) ∧ Below w1.heap.size w1 w2)
    (hC : ∀ w1 v u, v1 w1 v → v2 w1 u → Calls Try.prog 41 #[v, u] w1 fun e w2 => e = .returned (.bool true) ∧ Below w1.heap.size w1 w2) :
    Calls Try.prog 19 #[ptr B, ptr B', opV 5 s a] w fun e w' => e = .returned (.bool true) ∧ Below w.heap.size w w' := by
  have HA := Aside0.mk hA
  have HB := Aside0.mk hB
  have HC := Aside0.mk hC
  have hb1 : Below w.heap.size w (w.alloc (.cells #[.int .i64 5, .string s, .int .u32 a] 39)) := below_alloc (Below.refl _ _) _
  have H1 := Aside0.mk hb1
  clear hA hB hC hb1
  go_enter Try.func19, Try.ntmps19
  go_wp2_with (first | (go_at_call 30; refine (HA.out _ H1.out).mono ?_; rintro e_ w2 ⟨⟨v, rfl, hv⟩, hb⟩; have HV := Aside0.mk hv; have HB2 := Aside0.mk (below_step H1.out hb); clear hv hb)
                     | (go_at_call 42; refine (HB.out _ _ HB2.out HV.out).mono ?_; rintro e_ w3 ⟨⟨u, rfl, hv, hu⟩, hb⟩; have HV3 := Aside0.mk hv; have HU3 := Aside0.mk hu; have HB3 := Aside0.mk (below_step HB2.out hb); clear hv hu hb)
                     | (go_at_call 41; refine (HC.out _ _ _ HV3.out HU3.out).mono ?_; rintro e_ w4 ⟨rfl, hb⟩; have HB4 := Aside0.mk (below_step HB3.out hb); clear hb) | go_in)
  go_ret
  exact ⟨rfl, HB4.out⟩
set_option maxHeartbeats 8000000 in
set_option maxRecDepth 100000 in
theorem play_gate (hA : ∀ w1, Below w.heap.size w w1 → Calls Try.prog 43 #[ptr B] w1 fun e w2 => e = .returned (.int .u32 r) ∧ Below w1.heap.size w1 w2)
    (hB : ∀ w1, Below w.heap.size w w1 → Calls Try.prog 44 #[ptr B'] w1 fun e w2 => e = .returned (.int .u32 r) ∧ Below w1.heap.size w1 w2) :
    Calls Try.prog 19 #[ptr B, ptr B', opV 6 s a] w fun e w' => e = .returned (.bool true) ∧ Below w.heap.size w w' := by
  have HA := Aside0.mk hA
  have HB := Aside0.mk hB
  have hb1 : Below w.heap.size w (w.alloc (.cells #[.int .i64 6, .string s, .int .u32 a] 39)) := below_alloc (Below.refl _ _) _
  have H1 := Aside0.mk hb1
  clear hA hB hb1
  go_enter Try.func19, Try.ntmps19
  go_wp2_with (first | (go_at_call 43; refine (HA.out _ H1.out).mono ?_; rintro e_ w2 ⟨rfl, hb⟩; have HB2 := Aside0.mk (below_step H1.out hb); clear hb)
                     | (go_at_call 44; refine (HB.out _ HB2.out).mono ?_; rintro e_ w3 ⟨rfl, hb⟩; have HB3 := Aside0.mk (below_step HB2.out hb); clear hb) | go_in)
  go_ret
  exact ⟨by simp, HB3.out⟩
end
end Go.Proofs.Ytgabkifojnkbkaa.Ip

set_option linter.unusedVariables false
set_option linter.unusedSimpArgs false
namespace Go.Proofs.Ytgabkifojnkbkaa.Ip
open Go.RowKit Go.Maps Go.WideMaps Go.MapKept Go.Proofs.YtgabkifojnkbkaaW.PrintWords Go.Proofs.Ytgabkifojnkbkaa.PIpf
theorem comb {w w1 w2 w3 : World} {B b1 b2 B' n' : Nat} {vn vs vp vn' vs' vp' : Value} {M M' : IpM} {R R' : RfM} (HS : IpS w B b1 b2 vn vs M) (HR : RfS w B' vp R) (hd : ∀ b, b ∈ IpF B b1 b2 vn vs → b ∉ RfF B' vp)
    (hb : Below w.heap.size w w1) (hI : IpS w2 B b1 b2 vn' vs' M') (hT : Turn w1 w2 (IpF B b1 b2 vn vs)) (hF : ∀ b, b ∈ IpF B b1 b2 vn' vs' → b ∈ IpF B b1 b2 vn vs ∨ w1.heap.size ≤ b)
    (hR : RfS w3 B' vp' R') (hT2 : Turn w2 w3 (RfF B' vp)) (hF2 : ∀ b, b ∈ RfF B' vp' → b ∈ RfF B' vp ∨ w2.heap.size ≤ b) (hrel : Rel M' R') (hn : R'.pods.length ≤ n') :
    ∃ F', St w3 B B' n' F' ∧ Turn w w3 (IpF B b1 b2 vn vs ++ RfF B' vp) ∧ ∀ b, b ∈ F' → b ∈ IpF B b1 b2 vn vs ++ RfF B' vp ∨ w.heap.size ≤ b := by
  have z1 := hb.size
  have z2 := hT.size
  have z3 := hT2.size
  refine ⟨_, ⟨b1, b2, vn', vs', M', vp', R', hI.turn hT2 (fun b hb1 hb2 => ?_), hR, hrel, hn, fun b hb1 hb2 => ?_, rfl⟩, ?_, fun b hb1 => ?_⟩
  · rcases hF b hb1 with h | h
    · exact hd b h hb2
    · have := HR.lt b hb2; omega
  · rcases hF b hb1 with h | h <;> rcases hF2 b hb2 with h' | h'
    · exact hd b h h'
    · have := HS.lt b h; omega
    · have := HR.lt b h'; omega
    · have := hI.lt b hb1; omega
  · exact ((Turn.of_below hb (IpF B b1 b2 vn vs ++ RfF B' vp)).trans hT (fun b hb => .inl (List.mem_append_left _ hb))).trans hT2 (fun b hb => .inl (List.mem_append_right _ hb))
  · rcases List.mem_append.1 hb1 with hb1 | hb1
    · rcases hF b hb1 with h | h
      · exact .inl (List.mem_append_left _ h)
      · right; omega
    · rcases hF2 b hb1 with h | h
      · exact .inl (List.mem_append_right _ h)
      · right; omega
/-- nothing has turned -/
theorem still {w w' : World} {B B' n : Nat} {F : List Nat} (h : St w B B' n F) (hb : Below w.heap.size w w') : ∃ F', St w' B B' n F' ∧ Turn w w' F ∧ ∀ b, b ∈ F' → b ∈ F ∨ w.heap.size ≤ b :=
  ⟨F, h.below hb, Turn.of_below hb F, fun b hb => .inl hb⟩
theorem two_below {w w1 w2 w3 : World} (h1 : Below w.heap.size w w1) (h2 : Below w1.heap.size w1 w2) (h3 : Below w2.heap.size w2 w3) : Below w.heap.size w w3 := below_step (below_step h1 h2) h3
theorem St.more {w : World} {B B' n m : Nat} {F : List Nat} (h : St w B B' n F) (hm : n ≤ m) : St w B B' m F := by
  obtain ⟨b1, b2, vn, vs, M, vp, R, h1, h2, h3, h4, h5, rfl⟩ := h
  exact ⟨b1, b2, vn, vs, M, vp, R, h1, h2, h3, Nat.le_trans h4 hm, h5, rfl⟩
theorem Rel.rstep_in {M : IpM} {R : RfM} (h : Rel M R) {x : Int} (h0 : 1 ≤ x) : 2 ≤ rstep R x ∧ rstep R x ≤ R.size - 2 := by
  have := h.sz
  unfold rstep
  split <;> omega
theorem Rel.rseek_in {M : IpM} {R : RfM} (h : Rel M R) : ∀ (n : Nat) (x : Int), 1 ≤ x → 2 ≤ rseek R (n + 1) x ∧ rseek R (n + 1) x ≤ R.size - 2
  | 0, x, h0 => by
    rw [rseek]
    have := h.rstep_in h0
    split
    · exact this
    · rw [rseek]; exact this
  | n + 1, x, h0 => by
    rw [rseek]
    have := h.rstep_in h0
    split
    · exact this
    · exact h.rseek_in n _ (by omega)
theorem keep_box {w w1 w2 : World} {F : List Nat} (hT : Turn w1 w2 F) (hlt : w.heap.size < w1.heap.size) (hF : ∀ b, b ∈ F → b < w.heap.size) : w2.heap[w.heap.size]? = w1.heap[w.heap.size]? :=
  hT.block _ hlt (fun hm => by have := hF _ hm; omega)
section
variable {w : World} {B B' n : Nat} {F : List Nat}
theorem plays_add (h : St w B B' n F) (s : ByteArray) (a : Int) (hs : s.size ≤ maxLen) :
    Calls Try.prog 19 #[ptr B, ptr B', opV 1 s a] w fun e w' => e = .returned (.bool true) ∧ ∃ F', St w' B B' (n + 1) F' ∧ Turn w w' F ∧ ∀ b, b ∈ F' → b ∈ F ∨ w.heap.size ≤ b := by
  have hst := h
  obtain ⟨b1, b2, vn, vs, M, vp, R, HS, HR, hrel, hn, hd, rfl⟩ := h
  have hcnt := hrel.cnt
  have hlim := hrel.lim
  have hfin : ∀ w', Below w.heap.size w w' → ∃ F', St w' B B' (n + 1) F' ∧ Turn w w' (IpF B b1 b2 vn vs ++ RfF B' vp) ∧ ∀ b, b ∈ F' → b ∈ IpF B b1 b2 vn vs ++ RfF B' vp ∨ w.heap.size ≤ b := fun w' hb => still (hst.more (Nat.le_succ n)) hb
  obtain ⟨k, ok, hok1, hok2⟩ := named_both s hs
  cases ok with
  | false =>
    refine (play_add w B B' s a 0 150 (fun w1 w2 => Below w1.heap.size w1 w2) (fun w1 w2 w3 => Below w2.heap.size w2 w3) (fun w1 hb hlt => ?_) (fun w1 w2 hb hlt hq => ?_)).mono ?_
    · refine (add_bad k w1 B b1 b2 vn vs M s hs (HS.below hb) hok1).mono ?_
      rintro e w2 ⟨rfl, hb2⟩
      exact ⟨rfl, hb2, hb2.block _ hlt⟩
    · exact radd_bad k w2 B' vp R s ((HR.below hb).below hq) hok2
    · rintro e w' ⟨rfl, w1, w2, q1, _, q2, q3⟩
      exact ⟨rfl, hfin w' (two_below q1 q2 q3)⟩
  | true =>
    cases hby : M.byN s with
    | some x =>
      obtain ⟨hat, _, _⟩ := hrel.atF_some hby
      refine (play_add w B B' s a 0 5 (fun w1 w2 => Below w1.heap.size w1 w2) (fun w1 w2 w3 => Below w2.heap.size w2 w3) (fun w1 hb hlt => ?_) (fun w1 w2 hb hlt hq => ?_)).mono ?_
      · refine (add_dup k w1 B b1 b2 vn vs M s hs (HS.below hb) hok1 x hby).mono ?_
        rintro e w2 ⟨rfl, hb2⟩
        exact ⟨rfl, hb2, hb2.block _ hlt⟩
      · exact radd_dup k w2 B' vp R s ((HR.below hb).below hq) hok2 hlim hat
      · rintro e w' ⟨rfl, w1, w2, q1, _, q2, q3⟩
        exact ⟨rfl, hfin w' (two_below q1 q2 q3)⟩
    | none =>
      have hat := hrel.atF_none hby
      have hlast := hrel.last
      have hfirst := hrel.first
      have hsz := hrel.sz
      have htop := hrel.top
      have hb0 := hrel.b0
      by_cases hfull : M.cnt ≥ 1024 ∨ (M.cnt : Int) ≥ M.last - M.first + 1
      · refine (play_add w B B' s a 0 4 (fun w1 w2 => Below w1.heap.size w1 w2) (fun w1 w2 w3 => Below w2.heap.size w2 w3) (fun w1 hb hlt => ?_) (fun w1 w2 hb hlt hq => ?_)).mono ?_
        · refine (add_full k w1 B b1 b2 vn vs M s hs (HS.below hb) hok1 hby hrel.num (by omega) hfull).mono ?_
          rintro e w2 ⟨rfl, hb2⟩
          exact ⟨rfl, hb2, hb2.block _ hlt⟩
        · exact radd_full k w2 B' vp R s ((HR.below hb).below hq) hok2 hlim hat (by omega) (by omega) (by omega)
        · rintro e w' ⟨rfl, w1, w2, q1, _, q2, q3⟩
          exact ⟨rfl, hfin w' (two_below q1 q2 q3)⟩
      · have hroom : (R.pods.length : Int) < R.size - 3 := by omega
        have hfound := hrel.found hroom
        have hseek : seek M (M.cnt + 1) M.given = M.base + rseek R (R.pods.length + 1) R.last := by rw [hcnt, hrel.given, hrel.seek_eq]
        obtain ⟨hx0, hx1⟩ := hrel.rseek_in R.pods.length R.last hrel.g0
        generalize hy : rseek R (R.pods.length + 1) R.last = y at *
        have hfree : M.byA (M.base + y) = none := (hrel.free _).2 (by rw [← hrel.base]; exact hfound)
        have hk := hrel.kept hby y hx0 hx1 hfree (by omega)
        refine (play_add w B B' s a (M.base + y) 0
          (fun w1 w2 => ∃ vn' vs', IpS w2 B b1 b2 vn' vs' (keptF { M with given := M.base + y } s (M.base + y)) ∧ Turn w1 w2 (IpF B b1 b2 vn vs) ∧ ∀ b, b ∈ IpF B b1 b2 vn' vs' → b ∈ IpF B b1 b2 vn vs ∨ w1.heap.size ≤ b)
          (fun w1 w2 w3 => ∃ vp', RfS w3 B' vp' (raddS R s y) ∧ Turn w2 w3 (RfF B' vp) ∧ ∀ b, b ∈ RfF B' vp' → b ∈ RfF B' vp ∨ w2.heap.size ≤ b) (fun w1 hb hlt => ?_) (fun w1 w2 hb hlt hq => ?_)).mono ?_
        · have hh := add_ok k w1 B b1 b2 vn vs M s hs (HS.below hb) hok1 hby hrel.num hrel.ok (by omega) (by omega) (by rw [hseek]; exact hfree)
          rw [hseek] at hh
          refine hh.mono ?_
          rintro e w2 ⟨rfl, vn', vs', hI, hT, hF⟩
          exact ⟨rfl, ⟨vn', vs', hI, hT, hF⟩, keep_box hT hlt HS.lt⟩
        · obtain ⟨vn', vs', hI, hT, hF⟩ := hq
          have HR2 : RfS w2 B' vp R := (HR.below hb).turn hT (fun b hb1 hb2 => hd b hb2 hb1)
          have hh := radd_ok k w2 B' vp R s HR2 hok2 hrel.rnum (by omega) hat hroom (R.pods.length + 1) (by omega) y hy hfound
          rw [hrel.base] at hh
          exact hh
        · rintro e w' ⟨rfl, w1, w2, q1, _, ⟨vn', vs', hI, hT, hF⟩, vp', hR', hT2, hF2⟩
          exact ⟨rfl, comb HS HR hd q1 hI hT hF hR' hT2 hF2 hk (by show (R.pods ++ [_]).length ≤ n + 1; simp; omega)⟩
theorem plays_del (h : St w B B' n F) (s : ByteArray) (a : Int) (hs : s.size ≤ maxLen) :
    Calls Try.prog 19 #[ptr B, ptr B', opV 2 s a] w fun e w' => e = .returned (.bool true) ∧ ∃ F', St w' B B' n F' ∧ Turn w w' F ∧ ∀ b, b ∈ F' → b ∈ F ∨ w.heap.size ≤ b := by
  have hst := h
  obtain ⟨b1, b2, vn, vs, M, vp, R, HS, HR, hrel, hn, hd, rfl⟩ := h
  have hcnt := hrel.cnt
  have hlim := hrel.lim
  cases hby : M.byN s with
  | none =>
    refine (play_del w B B' s a 0 3 (fun w1 w2 => Below w1.heap.size w1 w2) (fun w1 w2 w3 => Below w2.heap.size w2 w3) (fun w1 hb hlt => ?_) (fun w1 w2 hb hlt hq => ?_)).mono ?_
    · refine (del_none w1 B b1 b2 vn vs M s hs (HS.below hb) hby).mono ?_
      rintro e w2 ⟨rfl, hb2⟩
      exact ⟨rfl, hb2, hb2.block _ hlt⟩
    · exact rdel_none w2 B' vp R s ((HR.below hb).below hq) hlim (hrel.atF_none hby)
    · rintro e w' ⟨rfl, w1, w2, q1, _, q2, q3⟩
      exact ⟨rfl, still hst (two_below q1 q2 q3)⟩
  | some x =>
    obtain ⟨i0, i1, hp⟩ := hrel.atF_some hby
    obtain ⟨hx0, hx1, t, ht⟩ := hrel.ok.na s x hby
    obtain ⟨ht0, ht1⟩ := hrel.ok.at_ x t ht
    have hk := hrel.cut hby ht
    have hsum := hrel.sum
    have hnl := hrel.nl
    refine (play_del w B B' s a x 0
      (fun w1 w2 => ∃ vs', IpS w2 B b1 b2 vn vs' (delS M s x t) ∧ Turn w1 w2 (IpF B b1 b2 vn vs) ∧ ∀ b, b ∈ IpF B b1 b2 vn vs' → b ∈ IpF B b1 b2 vn vs ∨ w1.heap.size ≤ b)
      (fun w1 w2 w3 => ∃ vp', RfS w3 B' vp' { R with pods := cutF R.pods (atF R.pods s).toNat } ∧ Turn w2 w3 (RfF B' vp) ∧ ∀ b, b ∈ RfF B' vp' → b ∈ RfF B' vp ∨ w2.heap.size ≤ b) (fun w1 hb hlt => ?_) (fun w1 w2 hb hlt hq => ?_)).mono ?_
    · refine (del_ok w1 B b1 b2 vn vs M s hs (HS.below hb) x t hby hx0 hx1 ht ht0 ht1 (by omega)).mono ?_
      rintro e w2 ⟨rfl, vs', hI, hT, hF⟩
      refine ⟨rfl, ⟨vs', hI, hT, fun b hb2 => ?_⟩, keep_box hT hlt HS.lt⟩
      simp only [IpF, List.mem_cons, List.mem_append, Option.mem_toList, Option.mem_def] at hb2 ⊢
      rcases hF with hF | ⟨c, hc, hle⟩
      · rw [hF] at hb2; exact .inl hb2
      · rcases hb2 with hb2 | hb2 | hb2 | hb2 | hb2
        · exact .inl (.inl hb2)
        · exact .inl (.inr (.inl hb2))
        · exact .inl (.inr (.inr (.inl hb2)))
        · exact .inl (.inr (.inr (.inr (.inl hb2))))
        · rw [hc] at hb2; injection hb2 with hb2; right; omega
    · obtain ⟨vs', hI, hT, hF⟩ := hq
      have HR2 : RfS w2 B' vp R := (HR.below hb).turn hT (fun b hb1 hb2 => hd b hb2 hb1)
      have hh := rdel_ok w2 B' vp R s HR2 hlim (atF R.pods s).toNat (by omega) (by omega)
      rw [hp] at hh
      exact hh
    · rintro e w' ⟨rfl, w1, w2, q1, _, ⟨vs', hI, hT, hF⟩, vp', hR', hT2, hF2⟩
      have hlen := (cut_perm (l := R.pods) (i := (atF R.pods s).toNat) (by omega)).length_eq
      rw [List.length_cons] at hlen
      exact ⟨rfl, comb HS HR hd q1 hI hT hF hR' hT2 hF2 hk (by show (cutF R.pods _).length ≤ n; omega)⟩
theorem plays_find (h : St w B B' n F) (s : ByteArray) (a : Int) (hs : s.size ≤ maxLen) :
    Calls Try.prog 19 #[ptr B, ptr B', opV 3 s a] w fun e w' => e = .returned (.bool true) ∧ Below w.heap.size w w' := by
  obtain ⟨b1, b2, vn, vs, M, vp, R, HS, HR, hrel, hn, hd, rfl⟩ := h
  have heq : rfindF R s = findF M s := by
    unfold rfindF
    cases hby : M.byN s with
    | none => rw [hrel.atF_none hby, findF_none hby]; rfl
    | some x =>
      obtain ⟨i0, i1, hp⟩ := hrel.atF_some hby
      rw [if_neg (by omega), hp, findF_some hby]
  refine (play_find w B B' s a (findF M s).1 (findF M s).2 (fun w1 w2 => Below w1.heap.size w1 w2) (fun w1 w2 w3 => Below w2.heap.size w2 w3) (fun w1 hb hlt => ?_) (fun w1 w2 hb hlt hq => ?_)).mono ?_
  · refine (find w1 B b1 b2 vn vs M s hs (HS.below hb)).mono ?_
    rintro e w2 ⟨rfl, hb2⟩
    exact ⟨rfl, hb2, hb2.block _ hlt⟩
  · have hh := rfind w2 B' vp R s hrel.lim ((HR.below hb).below hq)
    rw [heq] at hh
    refine hh.mono ?_
    rintro e w3 ⟨rfl, rfl⟩
    exact ⟨rfl, Below.refl _ _⟩
  · rintro e w' ⟨rfl, w1, w2, q1, _, q2, q3⟩
    exact ⟨rfl, two_below q1 q2 q3⟩
theorem plays_owner (h : St w B B' n F) (s : ByteArray) (a : Int) (ha0 : 0 ≤ a) (ha1 : a < 4294967296) :
    Calls Try.prog 19 #[ptr B, ptr B', opV 4 s a] w fun e w' => e = .returned (.bool true) ∧ Below w.heap.size w w' := by
  obtain ⟨b1, b2, vn, vs, M, vp, R, HS, HR, hrel, hn, hd, rfl⟩ := h
  have hsz := hrel.sz
  have htop := hrel.top
  have hb0 := hrel.b0
  have hal := hrel.al
  have hbase := hrel.base
  rw [hrel.sl] at hal
  have hl0 := hrel.l0
  have hl1 := hrel.l1
  have hc := contains_all M.base M.len a hb0 (by omega) (by omega) (by omega) ha0 ha1 hal
  rw [← hrel.sl] at hc
  have heq : rownerF R a = ownerF M a (decide (M.base ≤ a ∧ a < M.base + R.size)) := by
    unfold rownerF ownerF
    rw [hbase]
    by_cases c : M.base ≤ a ∧ a < M.base + R.size
    · rw [if_neg (by omega), decide_eq_true c, if_pos rfl]
      cases hA : M.byA a with
      | none => rw [if_pos (hrel.holder_none hA)]
      | some t =>
        obtain ⟨i0, i1, hp⟩ := hrel.holder_some hA
        rw [if_neg (by omega), hp]
    · rw [if_pos (by omega), decide_eq_false c, if_neg (by decide)]
  refine (play_owner w B B' s a (ownerF M a (decide (M.base ≤ a ∧ a < M.base + R.size))).2 (ownerF M a (decide (M.base ≤ a ∧ a < M.base + R.size))).1 (fun w1 w2 => Below w1.heap.size w1 w2) (fun w1 w2 w3 => Below w2.heap.size w2 w3) (fun w1 hb hlt => ?_) (fun w1 w2 hb hlt hq => ?_)).mono ?_
  · refine (owner 1 w1 B b1 b2 vn vs M a ha0 ha1 hrel.ok (HS.below hb) _ hc).mono ?_
    rintro e w2 ⟨rfl, hb2⟩
    exact ⟨rfl, hb2, hb2.block _ hlt⟩
  · have hh := rowner w2 B' vp R a ha0 ha1 (by omega) (by omega) (by omega) (by omega) hrel.lim hrel.pin ((HR.below hb).below hq)
    rw [heq] at hh
    exact hh
  · rintro e w' ⟨rfl, w1, w2, q1, _, q2, q3⟩
    exact ⟨rfl, two_below q1 q2 q3⟩
theorem plays_gate (h : St w B B' n F) (s : ByteArray) (a : Int) :
    Calls Try.prog 19 #[ptr B, ptr B', opV 6 s a] w fun e w' => e = .returned (.bool true) ∧ Below w.heap.size w w' := by
  obtain ⟨b1, b2, vn, vs, M, vp, R, HS, HR, hrel, hn, hd, rfl⟩ := h
  have hsz := hrel.sz
  have htop := hrel.top
  have hb0 := hrel.b0
  have hbase := hrel.base
  refine (play_gate w B B' s a (M.base + 1) (fun w1 hb => ?_) (fun w1 hb => ?_))
  · have hh := gateway w1 B b1 b2 vn vs M (HS.below hb)
    rw [Int.emod_eq_of_lt (by omega) (by omega)] at hh
    exact hh
  · have hh := rgateway w1 B' vp R (by omega) (by omega) (HR.below hb)
    rw [hbase] at hh
    refine hh.mono ?_
    rintro e w3 ⟨rfl, rfl⟩
    exact ⟨rfl, Below.refl _ _⟩
theorem plays_list (h : St w B B' n F) (hn12 : n ≤ 12) (s : ByteArray) (a : Int) :
    Calls Try.prog 19 #[ptr B, ptr B', opV 5 s a] w fun e w' => e = .returned (.bool true) ∧ Below w.heap.size w w' := by
  obtain ⟨b1, b2, vn, vs, M, vp, R, HS, HR, hrel, hn, hd, rfl⟩ := h
  have hcnt := hrel.cnt
  have hlim := hrel.lim
  have hlen := rlistF_length R.pods
  refine play_list w B B' s a (fun w v => ∃ bs, w.ownsRow bs 84 2 v (rlistF R.pods).length (podCells (rlistF R.pods))) (fun w v => ∃ bs, w.ownsRow bs 84 2 v (rlistF R.pods).length (podCells (rlistF R.pods))) (fun w1 hb => ?_) (fun w1 v hb hv => ?_) (fun w1 v u hv hu => ?_)
  · refine (list30 w1 B b1 b2 vn vs M hrel.ok (by omega) (HS.below hb)).mono ?_
    rintro e w2 ⟨v, l, rfl, hK, hll, hrow, hb2⟩
    have heq := hrel.list_eq hK
    have hl2 : l.length = (rlistF R.pods).length := by rw [← heq, listF, List.length_map]
    rw [heq, hl2] at hrow
    exact ⟨⟨v, rfl, _, hrow⟩, hb2⟩
  · refine (rlist w1 B' vp R hlim hrel.pin (HR.below hb)).mono ?_
    rintro e w2 ⟨u, rfl, hrow, hb2⟩
    obtain ⟨bs, hv⟩ := hv
    exact ⟨⟨u, rfl, ⟨bs, row_step hv (fun k hk => hb2.block k (hv.lt k hk).2)⟩, _, hrow⟩, hb2⟩
  · obtain ⟨bs, hv⟩ := hv
    obtain ⟨bu, hu⟩ := hu
    exact pods_same w1 bs bu v u (rlistF R.pods) (by omega) hv hu
end
end Go.Proofs.Ytgabkifojnkbkaa.Ip

set_option linter.unusedVariables false
set_option linter.unusedSimpArgs false
namespace Go.Proofs.Ytgabkifojnkbkaa.Ip
open Go.RowKit Go.Maps Go.WideMaps Go.MapKept Go.Proofs.YtgabkifojnkbkaaW.PrintWords Go.Proofs.Ytgabkifojnkbkaa.PIpf
set_option maxHeartbeats 8000000 in
set_option maxRecDepth 100000 in
theorem play_other (w : World) (B B' : Nat) (k : Int) (s : ByteArray) (a : Int) (h1 : k ≠ 1) (h2 : k ≠ 2) (h3 : k ≠ 3) (h4 : k ≠ 4) (h5 : k ≠ 5) (h6 : k ≠ 6) :
    Calls Try.prog 19 #[ptr B, ptr B', opV k s a] w fun e w' => e = .returned (.bool true) ∧ Below w.heap.size w w' := by
  go_enter Try.func19, Try.ntmps19
  go_wp2
  go_ret
  exact ⟨rfl, below_alloc (Below.refl _ _) _⟩
theorem plays_all {w : World} {B B' n : Nat} {F : List Nat} (h : St w B B' n F) (k : Int) (s : ByteArray) (a : Int) (hs : s.size ≤ maxLen) (ha0 : 0 ≤ a) (ha1 : a < 4294967296) (hn : k = 5 → n ≤ 12) :
    Calls Try.prog 19 #[ptr B, ptr B', opV k s a] w fun e w' => e = .returned (.bool true) ∧ ∃ F', St w' B B' (n + 1) F' ∧ Turn w w' F ∧ ∀ b, b ∈ F' → b ∈ F ∨ w.heap.size ≤ b := by
  have hbel : ∀ w', Below w.heap.size w w' → ∃ F', St w' B B' (n + 1) F' ∧ Turn w w' F ∧ ∀ b, b ∈ F' → b ∈ F ∨ w.heap.size ≤ b := fun w' hb => still (h.more (Nat.le_succ n)) hb
  by_cases c1 : k = 1
  · subst c1; exact plays_add h s a hs
  by_cases c2 : k = 2
  · subst c2
    refine (plays_del h s a hs).mono ?_
    rintro e w' ⟨rfl, F', hF, hT, hd⟩
    exact ⟨rfl, F', hF.more (Nat.le_succ n), hT, hd⟩
  by_cases c3 : k = 3
  · subst c3
    refine (plays_find h s a hs).mono ?_
    rintro e w' ⟨rfl, hb⟩
    exact ⟨rfl, hbel w' hb⟩
  by_cases c4 : k = 4
  · subst c4
    refine (plays_owner h s a ha0 ha1).mono ?_
    rintro e w' ⟨rfl, hb⟩
    exact ⟨rfl, hbel w' hb⟩
  by_cases c5 : k = 5
  · subst c5
    refine (plays_list h (hn rfl) s a).mono ?_
    rintro e w' ⟨rfl, hb⟩
    exact ⟨rfl, hbel w' hb⟩
  by_cases c6 : k = 6
  · subst c6
    refine (plays_gate h s a).mono ?_
    rintro e w' ⟨rfl, hb⟩
    exact ⟨rfl, hbel w' hb⟩
  refine (play_other w B B' k s a c1 c2 c3 c4 c5 c6).mono ?_
  rintro e w' ⟨rfl, hb⟩
  exact ⟨rfl, hbel w' hb⟩
/-- a list of the caller's own, beside the two subnets -/
structure Side (w0 w : World) (B B' n N : Nat) (F : List Nat) (o : Obj) : Prop where
  st : St w B B' n F
  new : ∀ b, b ∈ F → w0.heap.size ≤ b
  out : N ∉ F
  obj : w.heap[N]? = some o
  bel : Below w0.heap.size w0 w
theorem Side.step {w0 w w' : World} {B B' n m N : Nat} {F F' : List Nat} {o : Obj} (h : Side w0 w B B' n N F o) (hS : St w' B B' m F') (hT : Turn w w' F) (hd : ∀ b, b ∈ F' → b ∈ F ∨ w.heap.size ≤ b) : Side w0 w' B B' m N F' o :=
  ⟨hS, fun b hb => (hd b hb).elim (h.new b) (fun hl => Nat.le_trans h.bel.size hl), fun hN => (hd N hN).elim h.out (fun hl => by have := blk_lt h.obj; omega), (hT.block N (blk_lt h.obj) h.out).trans h.obj,
    h.bel.trans (hT.below h.bel.size h.new)⟩
set_option maxHeartbeats 16000000 in
set_option maxRecDepth 100000 in
theorem first16 (w : World) : Calls Try.prog 16 #[] w fun e w' => e = .returned (.bool true) ∧ Below w.heap.size w w' := by
  have hb := both_good w 168100096 29 (by omega) (by omega) ⟨by omega, by omega, by decide⟩
  have HP := Aside0.mk (fun (w : World) (B B' n : Nat) (F : List Nat) (h : St w B B' n F) (k : Int) (s : ByteArray) (a : Int) => plays_all h k s a)
  go_enter Try.func16, Try.ntmps16
  go_wp2_with (first | (go_at_call 15; refine hb.mono ?_; rintro e_ w1 ⟨B, B', F, rfl, hS, hbel, hF⟩; have HS := Aside0.mk hS; have HB := Aside0.mk hbel; have HF := Aside0.mk hF; clear hS hbel hF) | go_in)
  have HSD := Aside0.mk (show Side w (w1.alloc (.cells #[.string ⟨#[97]⟩, .string ⟨#[98]⟩, .string ⟨#[99]⟩] 9)) B B' 0 w1.heap.size F (.cells #[.string ⟨#[97]⟩, .string ⟨#[98]⟩, .string ⟨#[99]⟩] 9) from
    ⟨HS.out.below (below_alloc (Below.refl _ _) _), HF.out, fun hm => by have := HS.out.lt _ hm; omega, heap_alloc_new _ _, below_alloc HB.out _⟩)
  clear HS HB HF hb
  generalize w1.alloc (.cells #[.string ⟨#[97]⟩, .string ⟨#[98]⟩, .string ⟨#[99]⟩] 9) = w2 at *
  generalize w1.heap.size = N at *
  go_loopw [5] (fun vi wr => ∃ (x : Int) (F : List Nat), vi = .int .i64 x ∧ 0 ≤ x ∧ x ≤ 3 ∧ Aside0 (Side w wr B B' x.toNat N F (.cells #[.string ⟨#[97]⟩, .string ⟨#[98]⟩, .string ⟨#[99]⟩] 9))) (fun vi _ => 3 - (intOf vi).toNat)
  case atStart => exact ⟨0, F, rfl, by omega, by omega, HSD⟩
  case round =>
    clear HSD
    obtain ⟨x, F, rfl, hx0, hx1, HSD⟩ := hrel
    have kb := HSD.out.obj
    have k0 : wr.cell? ⟨N, 0, none⟩ = some (.string ⟨#[97]⟩) := blk_cell kb 0
    have k1 : wr.cell? ⟨N, 1, none⟩ = some (.string ⟨#[98]⟩) := blk_cell kb 1
    have k2 : wr.cell? ⟨N, 2, none⟩ = some (.string ⟨#[99]⟩) := blk_cell kb 2
    clear kb
    have hcase : x = 3 ∨ x = 0 ∨ x = 1 ∨ x = 2 := by omega
    rcases hcase with rfl | hcase
    · clear k0 k1 k2
      go_wp2
      have HSE := Aside0.mk (show Side w (wr.alloc (.cells #[.int .i64 2, .string ⟨#[97]⟩, .int .u32 0, .int .i64 1, .string ⟨#[100]⟩, .int .u32 0, .int .i64 3, .string ⟨#[100]⟩, .int .u32 0, .int .i64 4, .string ⟨#[]⟩, .int .u32 168100099, .int .i64 6, .string ⟨#[]⟩, .int .u32 0, .int .i64 5, .string ⟨#[]⟩, .int .u32 0] 39)) B B' 3 wr.heap.size F (.cells #[.int .i64 2, .string ⟨#[97]⟩, .int .u32 0, .int .i64 1, .string ⟨#[100]⟩, .int .u32 0, .int .i64 3, .string ⟨#[100]⟩, .int .u32 0, .int .i64 4, .string ⟨#[]⟩, .int .u32 168100099, .int .i64 6, .string ⟨#[]⟩, .int .u32 0, .int .i64 5, .string ⟨#[]⟩, .int .u32 0] 39) from
        ⟨HSD.out.st.below (below_alloc (Below.refl _ _) _), HSD.out.new, fun hm => by have := HSD.out.st.lt _ hm; omega, heap_alloc_new _ _, below_alloc HSD.out.bel _⟩)
      clear HSD
      generalize wr.alloc (.cells #[.int .i64 2, .string ⟨#[97]⟩, .int .u32 0, .int .i64 1, .string ⟨#[100]⟩, .int .u32 0, .int .i64 3, .string ⟨#[100]⟩, .int .u32 0, .int .i64 4, .string ⟨#[]⟩, .int .u32 168100099, .int .i64 6, .string ⟨#[]⟩, .int .u32 0, .int .i64 5, .string ⟨#[]⟩, .int .u32 0] 39) = w3 at *
      generalize wr.heap.size = N2 at *
      go_loopw [7] (fun vi wr => ∃ (x : Int) (F : List Nat), vi = .int .i64 x ∧ 0 ≤ x ∧ x ≤ 6 ∧ Aside0 (Side w wr B B' (3 + x.toNat) N2 F (.cells #[.int .i64 2, .string ⟨#[97]⟩, .int .u32 0, .int .i64 1, .string ⟨#[100]⟩, .int .u32 0, .int .i64 3, .string ⟨#[100]⟩, .int .u32 0, .int .i64 4, .string ⟨#[]⟩, .int .u32 168100099, .int .i64 6, .string ⟨#[]⟩, .int .u32 0, .int .i64 5, .string ⟨#[]⟩, .int .u32 0] 39))) (fun vi _ => 6 - (intOf vi).toNat)
      case atStart => exact ⟨0, F, rfl, by omega, by omega, HSE⟩
      case round =>
        clear HSE
        obtain ⟨x, F, rfl, hx0, hx1, HSD⟩ := hrel
        have kb := HSD.out.obj
        have hcase : x = 6 ∨ x = 0 ∨ x = 1 ∨ x = 2 ∨ x = 3 ∨ x = 4 ∨ x = 5 := by omega
        rcases hcase with rfl | hcase
        · go_wp2
          go_ret
          exact ⟨rfl, HSD.out.bel⟩
        · rcases hcase with rfl | rfl | rfl | rfl | rfl | rfl
          · have q0 : wr.cell? ⟨N2, 0, none⟩ = some (.int .i64 2) := blk_cell kb 0
            have q1 : wr.cell? ⟨N2, 1, none⟩ = some (.string ⟨#[97]⟩) := blk_cell kb 1
            have q2 : wr.cell? ⟨N2, 2, none⟩ = some (.int .u32 0) := blk_cell kb 2
            clear kb
            go_wp2_with (first | (go_at_call 19; refine (HP.out _ _ _ _ _ HSD.out.st _ _ _ (by decide) (by decide) (by decide) (by decide)).mono ?_; rintro e_ w3 ⟨rfl, F', hF, hT, hd⟩; have HSD2 := Aside0.mk (HSD.out.step hF hT hd); clear hF hT hd) | go_in)
            exact ⟨⟨_, F', rfl, by decide, by decide, HSD2⟩, by decide⟩
          · have q0 : wr.cell? ⟨N2, 3, none⟩ = some (.int .i64 1) := blk_cell kb 3
            have q1 : wr.cell? ⟨N2, 4, none⟩ = some (.string ⟨#[100]⟩) := blk_cell kb 4
            have q2 : wr.cell? ⟨N2, 5, none⟩ = some (.int .u32 0) := blk_cell kb 5
            clear kb
            go_wp2_with (first | (go_at_call 19; refine (HP.out _ _ _ _ _ HSD.out.st _ _ _ (by decide) (by decide) (by decide) (by decide)).mono ?_; rintro e_ w3 ⟨rfl, F', hF, hT, hd⟩; have HSD2 := Aside0.mk (HSD.out.step hF hT hd); clear hF hT hd) | go_in)
            exact ⟨⟨_, F', rfl, by decide, by decide, HSD2⟩, by decide⟩
          · have q0 : wr.cell? ⟨N2, 6, none⟩ = some (.int .i64 3) := blk_cell kb 6
            have q1 : wr.cell? ⟨N2, 7, none⟩ = some (.string ⟨#[100]⟩) := blk_cell kb 7
            have q2 : wr.cell? ⟨N2, 8, none⟩ = some (.int .u32 0) := blk_cell kb 8
            clear kb
            go_wp2_with (first | (go_at_call 19; refine (HP.out _ _ _ _ _ HSD.out.st _ _ _ (by decide) (by decide) (by decide) (by decide)).mono ?_; rintro e_ w3 ⟨rfl, F', hF, hT, hd⟩; have HSD2 := Aside0.mk (HSD.out.step hF hT hd); clear hF hT hd) | go_in)
            exact ⟨⟨_, F', rfl, by decide, by decide, HSD2⟩, by decide⟩
          · have q0 : wr.cell? ⟨N2, 9, none⟩ = some (.int .i64 4) := blk_cell kb 9
            have q1 : wr.cell? ⟨N2, 10, none⟩ = some (.string ⟨#[]⟩) := blk_cell kb 10
            have q2 : wr.cell? ⟨N2, 11, none⟩ = some (.int .u32 168100099) := blk_cell kb 11
            clear kb
            go_wp2_with (first | (go_at_call 19; refine (HP.out _ _ _ _ _ HSD.out.st _ _ _ (by decide) (by decide) (by decide) (by decide)).mono ?_; rintro e_ w3 ⟨rfl, F', hF, hT, hd⟩; have HSD2 := Aside0.mk (HSD.out.step hF hT hd); clear hF hT hd) | go_in)
            exact ⟨⟨_, F', rfl, by decide, by decide, HSD2⟩, by decide⟩
          · have q0 : wr.cell? ⟨N2, 12, none⟩ = some (.int .i64 6) := blk_cell kb 12
            have q1 : wr.cell? ⟨N2, 13, none⟩ = some (.string ⟨#[]⟩) := blk_cell kb 13
            have q2 : wr.cell? ⟨N2, 14, none⟩ = some (.int .u32 0) := blk_cell kb 14
            clear kb
            go_wp2_with (first | (go_at_call 19; refine (HP.out _ _ _ _ _ HSD.out.st _ _ _ (by decide) (by decide) (by decide) (by decide)).mono ?_; rintro e_ w3 ⟨rfl, F', hF, hT, hd⟩; have HSD2 := Aside0.mk (HSD.out.step hF hT hd); clear hF hT hd) | go_in)
            exact ⟨⟨_, F', rfl, by decide, by decide, HSD2⟩, by decide⟩
          · have q0 : wr.cell? ⟨N2, 15, none⟩ = some (.int .i64 5) := blk_cell kb 15
            have q1 : wr.cell? ⟨N2, 16, none⟩ = some (.string ⟨#[]⟩) := blk_cell kb 16
            have q2 : wr.cell? ⟨N2, 17, none⟩ = some (.int .u32 0) := blk_cell kb 17
            clear kb
            go_wp2_with (first | (go_at_call 19; refine (HP.out _ _ _ _ _ HSD.out.st _ _ _ (by decide) (by decide) (by decide) (by decide)).mono ?_; rintro e_ w3 ⟨rfl, F', hF, hT, hd⟩; have HSD2 := Aside0.mk (HSD.out.step hF hT hd); clear hF hT hd) | go_in)
            exact ⟨⟨_, F', rfl, by decide, by decide, HSD2⟩, by decide⟩
    · rcases hcase with rfl | rfl | rfl
      all_goals
        go_wp2_with (first | (go_at_call 19; refine (HP.out _ _ _ _ _ HSD.out.st _ _ _ (by decide) (by decide) (by decide) (by decide)).mono ?_; rintro e_ w3 ⟨rfl, F', hF, hT, hd⟩; have HSD2 := Aside0.mk (HSD.out.step hF hT hd); clear hF hT hd) | go_in)
        exact ⟨⟨_, F', rfl, by decide, by decide, HSD2⟩, by decide⟩
end Go.Proofs.Ytgabkifojnkbkaa.Ip

set_option linter.unusedVariables false
set_option linter.unusedSimpArgs false
namespace Go.Proofs.Ytgabkifojnkbkaa.Ip
open Go.RowKit Go.Maps Go.WideMaps Go.MapKept Go.Proofs.YtgabkifojnkbkaaW.PrintWords Go.Proofs.Ytgabkifojnkbkaa.PIpf
/-- both, whatever the subnet -/
theorem both_any (w : World) (a l : Int) (h0 : 0 ≤ a) (h1 : a < 4294967296) :
    Calls Try.prog 15 #[.agg #[.int .u32 a, .int .i64 l]] w fun e w' => (∃ p q, e = .returned (.tuple #[p, q, .bool true])) ∧ Below w.heap.size w w' := by
  by_cases hg : Good a l
  · refine (both_good w a l h0 h1 hg).mono ?_
    rintro e w' ⟨B, B', F, rfl, _, hb, _⟩
    exact ⟨⟨_, _, rfl⟩, hb⟩
  · refine (both_bad w a l h0 h1 hg).mono ?_
    rintro e w' ⟨rfl, hb⟩
    exact ⟨⟨_, _, rfl⟩, hb⟩
set_option maxHeartbeats 8000000 in
set_option maxRecDepth 100000 in
theorem news (w : World) (a l : Int) (h0 : 0 ≤ a) (h1 : a < 4294967296) :
    Calls Try.prog 3 #[.agg #[.int .u32 a, .int .i64 l]] w fun e w' => e = .returned (.bool true) ∧ Below w.heap.size w w' := by
  have hb := Aside0.mk (fun w => both_any w a l h0 h1)
  have hf := Aside0.mk first16
  go_enter Try.func3, Try.ntmps3
  go_wp2_with (first | (go_at_call 15; refine (hb.out _).mono ?_; rintro e_ w1 ⟨⟨p, q, rfl⟩, hb1⟩; have HB1 := Aside0.mk (below_step (below_alloc (Below.refl _ _) _) hb1); clear hb1)
                     | (go_at_call 16; refine (hf.out _).mono ?_; rintro e_ w2 ⟨rfl, hb2⟩; have HB2 := Aside0.mk (below_step HB1.out hb2); clear hb2) | go_in)
  go_ret
  exact ⟨rfl, HB2.out⟩
end Go.Proofs.Ytgabkifojnkbkaa.Ip
