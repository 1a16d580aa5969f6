/- package ipam walked: Add. Conditions: the state is in order; the address that is come to is free. -/
import Derived.Test.YtgabkifojnkbkaaIpmK
set_option linter.unusedVariables false
set_option linter.unusedSimpArgs false
namespace Go.Proofs.Ytgabkifojnkbkaa.Ip
open Go.RowKit Go.Maps Go.WideMaps Go.MapKept Go.Proofs.YtgabkifojnkbkaaW.PrintWords Go.Proofs.Ytgabkifojnkbkaa.PIpf

def keptF (M : IpM) (s : ByteArray) (a : Int) : IpM := if M.spare = [] then keptN M s a else keptO M s a
theorem keep (w : World) (B b1 b2 : Nat) (vn vs : Value) (M : IpM) (s : ByteArray) (a : Int) (hs : s.size ≤ maxLen) (h0 : 0 ≤ a) (h1 : a < 4294967296) (HS : IpS w B b1 b2 vn vs M) (hok : M.Ok) (hc : M.cnt < 1024) (hN : M.byN s = none) (hA : M.byA a = none) :
    Calls Try.prog 47 #[.pointer (some ⟨B, 0, none⟩), .string s, .int .u32 a] w fun e w' => e = .returned (.tuple #[]) ∧ ∃ vn' vs', IpS w' B b1 b2 vn' vs' (keptF M s a) ∧ Turn w w' (IpF B b1 b2 vn vs) ∧ ∀ b, b ∈ IpF B b1 b2 vn' vs' → b ∈ IpF B b1 b2 vn vs ∨ w.heap.size ≤ b := by
  have hsum := hok.sum
  have hlim := hok.lim
  by_cases hsp : M.spare = []
  · have hl : M.names.length < 1024 := by rw [hsp] at hsum; simp at hsum; omega
    refine (keep_new w B b1 b2 vn vs M s a hs h0 h1 HS hsp hl hc hN hA).mono ?_
    rintro e w' ⟨he, vn', h2, h3, h4⟩
    refine ⟨he, vn', vs, by unfold keptF; rw [if_pos hsp]; exact h2, h3, fun b hb => ?_⟩
    simp only [IpF, List.mem_cons, List.mem_append, Option.mem_toList, Option.mem_def] at hb ⊢
    rcases hb with h | h | h | h | h
    · exact .inl (.inl h)
    · exact .inl (.inr (.inl h))
    · exact .inl (.inr (.inr (.inl h)))
    · rcases h4 with h4 | ⟨c, h4, h5⟩
      · rw [h4] at h; exact .inl (.inr (.inr (.inr (.inl h))))
      · rw [h4] at h; injection h with h; subst h; exact .inr h5
    · exact .inl (.inr (.inr (.inr (.inr h))))
  · have hpos : 0 < M.spare.length := List.length_pos_iff.2 hsp
    have hmem : M.spare.getD (M.spare.length - 1) 0 ∈ M.spare := by
      have hlt : M.spare.length - 1 < M.spare.length := by omega
      simp only [List.getD_eq_getElem?_getD, List.getElem?_eq_getElem hlt, Option.getD_some]
      exact List.getElem_mem hlt
    obtain ⟨ht0, ht1⟩ := hok.sp _ hmem
    refine (keep_old w B b1 b2 vn vs M s a hs h0 h1 HS hpos hlim hc hN hA ht0 ht1 (by omega)).mono ?_
    rintro e w' ⟨he, vs', h2, h3, h4⟩
    refine ⟨he, vn, vs', by unfold keptF; rw [if_neg hsp]; exact h2, h3, fun b hb => ?_⟩
    simp only [IpF, List.mem_cons, List.mem_append, Option.mem_toList, Option.mem_def] at hb ⊢
    rw [h4] at hb
    exact .inl hb

def stepA (M : IpM) (a : Int) : Int := if a + 1 > M.last then M.first else a + 1
def seek (M : IpM) : Nat → Int → Int
  | 0, a => a
  | n + 1, a => if M.byA (stepA M a) = none then stepA M a else seek M n (stepA M a)
theorem NM.len {w : World} {b n : Nat} {f : ByteArray → Option Int} (h : NM w b f n) : ∀ ty : TypeId, (Builtin.len_ #[73] ty #[.map (some b)]).run Try.prog w = .ok (.int .i64 (n : Int)) w := fun ty => by
  obtain ⟨D, hown, hsz, _⟩ := h
  rw [hown.len Try.underlying73 ty, hsz]
/-- what Add answers -/
def addF (M : IpM) (ok : Bool) (s : ByteArray) : IpM × Int × Int :=
  if ok = false then (M, 0, 150) else if M.byN s ≠ none then (M, 0, 5) else if M.cnt ≥ 1024 ∨ (M.cnt : Int) ≥ M.last - M.first + 1 then (M, 0, 4)
  else (keptF { M with given := seek M (M.cnt + 1) M.given } s (seek M (M.cnt + 1) M.given), seek M (M.cnt + 1) M.given, 0)
structure IpM.Num (M : IpM) : Prop where
  f : 0 ≤ M.first ∧ M.first ≤ M.last
  l : M.last < 4294967295
  g : 0 ≤ M.given ∧ M.given ≤ M.last
theorem stepA_in {M : IpM} (h : M.Num) {a : Int} (h0 : 0 ≤ a) : 0 ≤ stepA M a ∧ stepA M a ≤ M.last := by
  unfold stepA
  have := h.f
  split <;> omega
theorem seek_in {M : IpM} (h : M.Num) : ∀ (n : Nat) (a : Int), 0 ≤ a → a ≤ M.last → 0 ≤ seek M n a ∧ seek M n a ≤ M.last
  | 0, a, h0, h1 => ⟨h0, h1⟩
  | n + 1, a, h0, h1 => by
    unfold seek
    have := stepA_in h h0
    split
    · exact this
    · exact seek_in h n _ this.1 this.2
set_option maxRecDepth 100000 in
theorem AM.look_some {w : World} {b n : Nat} {f : Int → Option Int} (h : AM w b f n) {k : Int} (hk0 : 0 ≤ k) (hk1 : k < 4294967296) {r : Int} (hf : f k = some r) : (Instr.lookup 74 (.map (some b)) (.int .u32 k) true).run Try.prog w = .ok (.tuple #[.int .i64 r, .bool true]) w := by
  obtain ⟨D, hown, hsz, hD⟩ := h
  obtain ⟨h1, h2⟩ := (hD k (wf32 hk0 hk1)).2 r hf
  obtain ⟨v, ps, hrun, hv⟩ := hown.look_ok lawA Try.underlying74 (zero3 w) (zd := .lit (.int .i64 0)) (plainElem_int Try.underlying3 (by simp [Lit.wf, IntKind.min, IntKind.max, IntKind.bits, IntKind.signed])) (keyOf_int_mk Try.underlying23 (wf32 hk0 hk1))
  obtain ⟨c, rfl, hc, hwc⟩ := plainElem_int_inv Try.underlying3 hv
  have hc1 := congrArg Prod.fst hc
  simp only [h2] at hc1
  have e : r = c := by injection hc1 with e1; injection e1
  rw [hrun, h1, e]
set_option maxRecDepth 100000 in
theorem AM.look_none {w : World} {b n : Nat} {f : Int → Option Int} (h : AM w b f n) {k : Int} (hk0 : 0 ≤ k) (hk1 : k < 4294967296) (hf : f k = none) : (Instr.lookup 74 (.map (some b)) (.int .u32 k) true).run Try.prog w = .ok (.tuple #[.int .i64 0, .bool false]) w := by
  obtain ⟨D, hown, hsz, hD⟩ := h
  have h1 := (hD k (wf32 hk0 hk1)).1 hf
  obtain ⟨v, ps, hrun, hv⟩ := hown.look_ok lawA Try.underlying74 (zero3 w) (zd := .lit (.int .i64 0)) (plainElem_int Try.underlying3 (by simp [Lit.wf, IntKind.min, IntKind.max, IntKind.bits, IntKind.signed])) (keyOf_int_mk Try.underlying23 (wf32 hk0 hk1))
  obtain ⟨c, rfl, hc, hwc⟩ := plainElem_int_inv Try.underlying3 hv
  have hc1 := congrArg Prod.fst hc
  simp only [Maps.atKey_of_not_has h1] at hc1
  have e : 0 = c := by injection hc1 with e1; injection e1
  rw [hrun, h1, ← e]
set_option maxHeartbeats 8000000 in
set_option maxRecDepth 100000 in
theorem add_bad (k : Nat) (w : World) (B b1 b2 : Nat) (vn vs : Value) (M : IpM) (s : ByteArray) (hs : s.size ≤ maxLen) (HS : IpS w B b1 b2 vn vs M) (hok : ipam_nameOK.f k s = some false) :
    Calls Try.prog 22 #[.pointer (some ⟨B, 0, none⟩), .string s] w fun e w' => e = .returned (.tuple #[.int .u32 0, .int .i64 150]) ∧ Below w.heap.size w w' := by
  have hn := Aside0.mk (ipam_nameOK.calls k s false w hok)
  go_enter Try.func22, Try.ntmps22
  go_wp2_with (first | (go_at_call 46; refine hn.out.mono ?_; rintro e_ w1 ⟨rfl, hb1⟩; have HB1 := Aside0.mk hb1; clear hb1) | go_in)
  go_ret2
  exact ⟨rfl, HB1.out.below⟩
set_option maxHeartbeats 8000000 in
set_option maxRecDepth 100000 in
theorem add_dup (k : Nat) (w : World) (B b1 b2 : Nat) (vn vs : Value) (M : IpM) (s : ByteArray) (hs : s.size ≤ maxLen) (HS : IpS w B b1 b2 vn vs M) (hok : ipam_nameOK.f k s = some true) (r : Int) (hr : M.byN s = some r) :
    Calls Try.prog 22 #[.pointer (some ⟨B, 0, none⟩), .string s] w fun e w' => e = .returned (.tuple #[.int .u32 0, .int .i64 5]) ∧ Below w.heap.size w w' := by
  have hn := Aside0.mk (ipam_nameOK.calls k s true w hok)
  have HSS := Aside0.mk HS
  have hr := Aside0.mk hr
  clear HS
  go_enter Try.func22, Try.ntmps22
  go_wp2_with (first | (at_lookup; refine look_nm_some _ rfl _ _ rfl HS1.out.m1 hs hr.out rfl rfl ?_) | (go_at_call 46; refine hn.out.mono ?_; rintro e_ w1 ⟨rfl, hb1⟩; have HB1 := Aside0.mk hb1.below; have HS1 := Aside0.mk (HSS.out.below hb1.below); have k5 : w1.cell? ⟨B, 5, none⟩ = some (.map (some b1)) := HS1.out.cell 5; clear hb1) | go_in)
  go_ret2
  exact ⟨rfl, HB1.out⟩
set_option maxHeartbeats 8000000 in
set_option maxRecDepth 100000 in
theorem add_full (k : Nat) (w : World) (B b1 b2 : Nat) (vn vs : Value) (M : IpM) (s : ByteArray) (hs : s.size ≤ maxLen) (HS : IpS w B b1 b2 vn vs M) (hok : ipam_nameOK.f k s = some true) (hr : M.byN s = none) (hnum : M.Num) (hcnt : M.cnt ≤ 1024) (hf : M.cnt ≥ 1024 ∨ (M.cnt : Int) ≥ M.last - M.first + 1) :
    Calls Try.prog 22 #[.pointer (some ⟨B, 0, none⟩), .string s] w fun e w' => e = .returned (.tuple #[.int .u32 0, .int .i64 4]) ∧ Below w.heap.size w w' := by
  have hn := Aside0.mk (ipam_nameOK.calls k s true w hok)
  have HSS := Aside0.mk HS
  have hr := Aside0.mk hr
  clear HS
  go_enter Try.func22, Try.ntmps22
  go_wp2_with (first | (at_lookup; refine look_nm_none _ rfl _ _ rfl HS1.out.m1 hs hr.out rfl rfl ?_) | (go_at_call 46; refine hn.out.mono ?_; rintro e_ w1 ⟨rfl, hb1⟩; have HB1 := Aside0.mk hb1.below; have HS1 := Aside0.mk (HSS.out.below hb1.below); have k5 : w1.cell? ⟨B, 5, none⟩ = some (.map (some b1)) := HS1.out.cell 5; clear hb1) | go_in)
  have k2 : w1.cell? ⟨B, 2, none⟩ = some (.int .u32 M.first) := HS1.out.cell 2
  have k3 : w1.cell? ⟨B, 3, none⟩ = some (.int .u32 M.last) := HS1.out.cell 3
  obtain ⟨hf0, hf1⟩ := hnum.f
  have hl0 : 0 ≤ M.last := by omega
  have hl1 : M.last < 4294967296 := by have := hnum.l; omega
  go_quiet (fail)
  generalize hw2 : w1.drewN nq = w2
  have HS2 := Aside0.mk (show IpS w2 B b1 b2 vn vs M from hw2 ▸ HS1.out.drewN nq)
  have HB2 := Aside0.mk (show Below w.heap.size w w2 from hw2 ▸ pw_below_drewN HB1.out nq)
  have k5' : w2.cell? ⟨B, 5, none⟩ = some (.map (some b1)) := HS2.out.cell 5
  clear hw2 k2 k3 k5 hnum
  have kln := HS2.out.m1.len
  go_wp2
  all_goals (go_ret2; exact ⟨rfl, HB2.out⟩)
theorem IpS.given {w : World} {B b1 b2 : Nat} {vn vs : Value} {M : IpM} (h : IpS w B b1 b2 vn vs M) (a : Int) : IpS (w.setCell ⟨B, 4, none⟩ (.int .u32 a)) B b1 b2 vn vs { M with given := a } := by
  have old : ∀ b, b ≠ B → (w.setCell ⟨B, 4, none⟩ (.int .u32 a)).heap[b]? = w.heap[b]? := fun b hb => Below.heap_setCell _ _ _ b hb
  exact ⟨blk_put h.blk 4 _ rfl, h.m1.step (old b1 (Ne.symm h.ne_B.1)), h.m2.step (old b2 (Ne.symm h.ne_B.2)), h.ne, row_step h.nm (fun k hk => old k (fun e => h.ne_nm.1 (by rw [hk, e]))), row_step h.sp (fun k hk => old k (fun e => h.ne_sp.1 (by rw [hk, e])))⟩
set_option maxHeartbeats 8000000 in
set_option maxRecDepth 100000 in
theorem add_ok (k : Nat) (w : World) (B b1 b2 : Nat) (vn vs : Value) (M : IpM) (s : ByteArray) (hs : s.size ≤ maxLen) (HS : IpS w B b1 b2 vn vs M) (hok : ipam_nameOK.f k s = some true) (hr : M.byN s = none) (hnum : M.Num) (hOk : M.Ok) (hcnt : M.cnt < 1024) (hf : (M.cnt : Int) < M.last - M.first + 1) (hfree : M.byA (seek M (M.cnt + 1) M.given) = none) :
    Calls Try.prog 22 #[.pointer (some ⟨B, 0, none⟩), .string s] w fun e w' => e = .returned (.tuple #[.int .u32 (seek M (M.cnt + 1) M.given), .int .i64 0]) ∧ ∃ vn' vs', IpS w' B b1 b2 vn' vs' (keptF { M with given := seek M (M.cnt + 1) M.given } s (seek M (M.cnt + 1) M.given)) ∧ Turn w w' (IpF B b1 b2 vn vs) ∧ ∀ b, b ∈ IpF B b1 b2 vn' vs' → b ∈ IpF B b1 b2 vn vs ∨ w.heap.size ≤ b := by
  have hn := Aside0.mk (ipam_nameOK.calls k s true w hok)
  have HSS := Aside0.mk HS
  have hr := Aside0.mk hr
  have HNUM := Aside0.mk hnum
  have HOK := Aside0.mk hOk
  have HFREE := Aside0.mk hfree
  clear HS hOk hfree
  go_enter Try.func22, Try.ntmps22
  go_wp2_with (first | (at_lookup; refine look_nm_none _ rfl _ _ rfl HS1.out.m1 hs hr.out rfl rfl ?_) | (go_at_call 46; refine hn.out.mono ?_; rintro e_ w1 ⟨rfl, hb1⟩; have HB1 := Aside0.mk hb1.below; have HS1 := Aside0.mk (HSS.out.below hb1.below); have k5 : w1.cell? ⟨B, 5, none⟩ = some (.map (some b1)) := HS1.out.cell 5; clear hb1) | go_in)
  have k2 : w1.cell? ⟨B, 2, none⟩ = some (.int .u32 M.first) := HS1.out.cell 2
  have k3 : w1.cell? ⟨B, 3, none⟩ = some (.int .u32 M.last) := HS1.out.cell 3
  obtain ⟨hf0, hf1⟩ := hnum.f
  have hl0 : 0 ≤ M.last := by omega
  have hl1 : M.last < 4294967296 := by have := hnum.l; omega
  go_quiet (fail)
  generalize hw2 : w1.drewN nq = w2
  have HS2 := Aside0.mk (show IpS w2 B b1 b2 vn vs M from hw2 ▸ HS1.out.drewN nq)
  have HB2 := Aside0.mk (show Below w.heap.size w w2 from hw2 ▸ pw_below_drewN HB1.out nq)
  have k5' : w2.cell? ⟨B, 5, none⟩ = some (.map (some b1)) := HS2.out.cell 5
  have k4' : w2.cell? ⟨B, 4, none⟩ = some (.int .u32 M.given) := HS2.out.cell 4
  clear hw2 k2 k3 k5 hnum
  have kln := HS2.out.m1.len
  have hc1 : (M.cnt : Int) < 1024 := by omega
  go_wp2
  have k2 : w2.cell? ⟨B, 2, none⟩ = some (.int .u32 M.first) := HS2.out.cell 2
  have k3 : w2.cell? ⟨B, 3, none⟩ = some (.int .u32 M.last) := HS2.out.cell 3
  have k6 : w2.cell? ⟨B, 6, none⟩ = some (.map (some b2)) := HS2.out.cell 6
  clear k4' k5' kln
  have HKEEP := Aside0.mk (fun (x : Int) (w3 : World) (h0 : 0 ≤ x) (h1 : x ≤ M.last) (hx : x = seek M (M.cnt + 1) M.given) (hS : IpS w3 B b1 b2 vn vs { M with given := x }) =>
    keep w3 B b1 b2 vn vs { M with given := x } s x hs h0 (by have := HNUM.out.l; omega) hS ⟨HOK.out.sp, HOK.out.na, HOK.out.at_, HOK.out.sum, HOK.out.lim⟩ hcnt hr.out (by rw [hx]; exact HFREE.out))
  have k4 : w2.cell? ⟨B, 4, none⟩ = some (.int .u32 M.given) := HS2.out.cell 4
  have f4 := blk_frozen HS2.out.blk 4
  go_loop [9, 62] (fun va vk => ∃ (i : Nat) (x : Int), va = .int .u32 x ∧ vk = .int .i64 i ∧ i ≤ M.cnt + 1 ∧ 0 ≤ x ∧ x ≤ M.last ∧ Aside0 (seek M (M.cnt + 1 - i) x = seek M (M.cnt + 1) M.given)) (fun _ vk => M.cnt + 1 - (intOf vk).toNat)
  case atStart => exact ⟨0, M.given, rfl, rfl, by omega, HNUM.out.g.1, HNUM.out.g.2, ⟨rfl⟩⟩
  case round =>
    obtain ⟨i, x, rfl, rfl, hi, hx0, hx1, HK⟩ := hrel
    have hll := HNUM.out.l
    by_cases hlt : i < M.cnt + 1
    · have hli : (i : Int) < (M.cnt : Int) + 1 := by omega
      have hsk : seek M (M.cnt + 1 - i) x = if M.byA (stepA M x) = none then stepA M x else seek M (M.cnt + 1 - (i + 1)) (stepA M x) := by
        obtain ⟨d, hd⟩ : ∃ d, M.cnt + 1 - i = d + 1 := ⟨M.cnt - i, by omega⟩
        rw [hd, seek, show M.cnt + 1 - (i + 1) = d from by omega]
      have HSK := Aside0.mk hsk
      clear hsk
      by_cases hgt : x + 1 > M.last
      · have hst : stepA M x = M.first := by unfold stepA; rw [if_pos hgt]
        rw [hst] at HSK
        clear hst
        rcases hby : M.byA (M.first) with _ | t
        · have klk := HS2.out.m2.look_none (k := M.first) (by omega) (by omega) hby
          have hfin : M.first = seek M (M.cnt + 1) M.given := by rw [← HK.out, HSK.out, if_pos hby]
          have HF := Aside0.mk hfin
          clear hby hfin
          clear HK HSK HNUM HOK HFREE
          go_wp2_with (first | (go_at_call 47; refine (HKEEP.out (M.first) _ (by omega) (by omega) HF.out (HS2.out.given _)).mono ?_; rintro e_ w4 ⟨rfl, vn', vs', hE, hT, hFF⟩; have HE := Aside0.mk hE; have HT := Aside0.mk hT; have HFF := Aside0.mk hFF; clear hE hT hFF) | go_in)
          go_ret2
          exact ⟨by rw [← HF.out]; rfl, _, _, by rw [← HF.out]; exact HE.out, ((Turn.of_below HB2.out _).set (Or.inl (by simp [IpF])) _).trans HT.out (fun b hb => Or.inl hb), fun b hb => (HFF.out b hb).imp id (fun h => by have := HB2.out.size; simp [World.setCell] at h; omega)⟩
        · have klk := HS2.out.m2.look_some (k := M.first) (by omega) (by omega) hby
          have hnx : seek M (M.cnt + 1 - (i + 1)) (M.first) = seek M (M.cnt + 1) M.given := by rw [← HK.out, HSK.out, if_neg (by rw [hby]; simp)]
          have HNX := Aside0.mk hnx
          clear hby hnx HK HSK HNUM HOK HFREE HKEEP
          go_wp2
          go_round
          case rel => exact ⟨i + 1, M.first, by go_num, by go_num, by omega, by omega, by omega, HNX⟩
          case measure => simp [intOf]; omega
      · have hst : stepA M x = x + 1 := by unfold stepA; rw [if_neg hgt]
        have hle : x + 1 ≤ M.last := by omega
        rw [hst] at HSK
        clear hst
        rcases hby : M.byA (x + 1) with _ | t
        · have klk := HS2.out.m2.look_none (k := x + 1) (by omega) (by omega) hby
          have hfin : x + 1 = seek M (M.cnt + 1) M.given := by rw [← HK.out, HSK.out, if_pos hby]
          have HF := Aside0.mk hfin
          clear hby hfin
          clear HK HSK HNUM HOK HFREE
          go_wp2_with (first | (go_at_call 47; refine (HKEEP.out (x + 1) _ (by omega) (by omega) HF.out (HS2.out.given _)).mono ?_; rintro e_ w4 ⟨rfl, vn', vs', hE, hT, hFF⟩; have HE := Aside0.mk hE; have HT := Aside0.mk hT; have HFF := Aside0.mk hFF; clear hE hT hFF) | go_in)
          go_ret2
          exact ⟨by rw [← HF.out]; rfl, _, _, by rw [← HF.out]; exact HE.out, ((Turn.of_below HB2.out _).set (Or.inl (by simp [IpF])) _).trans HT.out (fun b hb => Or.inl hb), fun b hb => (HFF.out b hb).imp id (fun h => by have := HB2.out.size; simp [World.setCell] at h; omega)⟩
        · have klk := HS2.out.m2.look_some (k := x + 1) (by omega) (by omega) hby
          have hnx : seek M (M.cnt + 1 - (i + 1)) (x + 1) = seek M (M.cnt + 1) M.given := by rw [← HK.out, HSK.out, if_neg (by rw [hby]; simp)]
          have HNX := Aside0.mk hnx
          clear hby hnx HK HSK HNUM HOK HFREE HKEEP
          go_wp2
          go_round
          case rel => exact ⟨i + 1, x + 1, by go_num, by go_num, by omega, by omega, by omega, HNX⟩
          case measure => simp [intOf]; omega
    · obtain rfl : i = M.cnt + 1 := by omega
      have hfin : x = seek M (M.cnt + 1) M.given := by
        have h := HK.out
        rw [Nat.sub_self] at h
        exact h
      have HF := Aside0.mk hfin
      clear hfin
      clear HK HNUM HOK HFREE
      go_wp2_with (first | (go_at_call 47; refine (HKEEP.out (x) _ (by omega) (by omega) HF.out (HS2.out.given _)).mono ?_; rintro e_ w4 ⟨rfl, vn', vs', hE, hT, hFF⟩; have HE := Aside0.mk hE; have HT := Aside0.mk hT; have HFF := Aside0.mk hFF; clear hE hT hFF) | go_in)
      go_ret2
      exact ⟨by rw [← HF.out]; rfl, _, _, by rw [← HF.out]; exact HE.out, ((Turn.of_below HB2.out _).set (Or.inl (by simp [IpF])) _).trans HT.out (fun b hb => Or.inl hb), fun b hb => (HFF.out b hb).imp id (fun h => by have := HB2.out.size; simp [World.setCell] at h; omega)⟩
end Go.Proofs.Ytgabkifojnkbkaa.Ip
