/- IpamNames: which texts are names, walked. -/
import Derived.Test.YtgabkifojnkbkaaIpmPl
set_option linter.unusedVariables false
set_option linter.unusedSimpArgs false
namespace Go.Proofs.Ytgabkifojnkbkaa.Ip
open Go.RowKit Go.Maps Go.WideMaps Go.MapKept Go.Proofs.YtgabkifojnkbkaaW.PrintWords Go.Proofs.Ytgabkifojnkbkaa.PIpf
def goodC (c : Int) : Prop := (97 ≤ c ∧ c ≤ 122) ∨ (48 ≤ c ∧ c ≤ 57) ∨ c = 45
theorem named_l0_val (x : ByteArray) (hx : x.size ≤ maxLen) : ∀ (n : Nat) (i : Int), 0 ≤ i → (x.size : Int) - i ≤ n → ∃ b, weftref15_Named.l0 (n + 1) x i = some b ∧ (b = true ↔ ∀ j, i ≤ j → j < (x.size : Int) → goodC (bt x j))
  | 0, i, h0, h1 => by
    rw [weftref15_Named.l0]
    rw [if_neg (by omega)]
    exact ⟨_, rfl, ⟨fun _ j h2 h3 => by omega, fun _ => rfl⟩⟩
  | n + 1, i, h0, h1 => by
    rw [weftref15_Named.l0]
    by_cases h : i < (x.size : Int)
    · have hm : (x.size : Int) ≤ 9223372036854775807 := by unfold maxLen at hx; omega
      obtain ⟨b, hb, hi⟩ := named_l0_val x hx n (i + 1) (by omega) (by omega)
      simp only [if_pos h, if_pos h0, wrap64_one h0 (by omega), hb]
      have hs : (∀ j, i ≤ j → j < (x.size : Int) → goodC (bt x j)) ↔ (goodC (bt x i) ∧ ∀ j, i + 1 ≤ j → j < (x.size : Int) → goodC (bt x j)) := by
        constructor
        · intro hh
          exact ⟨hh i (by omega) h, fun j q1 q2 => hh j (by omega) q2⟩
        · rintro ⟨q0, q⟩ j q1 q2
          by_cases e : j = i
          · rw [e]; exact q0
          · exact q j (by omega) q2
      rw [hs]
      generalize bt x i = c
      have good : goodC c → ∃ b', some b = some b' ∧ (b' = true ↔ goodC c ∧ ∀ j, i + 1 ≤ j → j < (x.size : Int) → goodC (bt x j)) := fun hg => ⟨b, rfl, hi.trans ⟨fun q => ⟨hg, q⟩, fun q => q.2⟩⟩
      have bad : ¬ goodC c → ∃ b', some false = some b' ∧ (b' = true ↔ goodC c ∧ ∀ j, i + 1 ≤ j → j < (x.size : Int) → goodC (bt x j)) := fun hg => ⟨false, rfl, ⟨fun q => (by cases q), fun q => absurd q.1 hg⟩⟩
      unfold goodC at good bad
      repeat' split
      all_goals first
        | (refine good ?_; omega)
        | (refine bad ?_; omega)
    · rw [if_neg h]; exact ⟨_, rfl, ⟨fun _ j h2 h3 => by omega, fun _ => rfl⟩⟩
/-- when a text is a name -/
def NameP (x : ByteArray) : Prop := 1 ≤ x.size ∧ x.size ≤ 63 ∧ bt x 0 ≠ 45 ∧ bt x ((x.size : Int) - 1) ≠ 45 ∧ ∀ j, 0 ≤ j → j < (x.size : Int) → goodC (bt x j)
theorem named_val (x : ByteArray) (hx : x.size ≤ maxLen) : ∃ k b, weftref15_Named.f k x = some b ∧ ipam_nameOK.f k x = some b ∧ (b = true ↔ NameP x) := by
  obtain ⟨b, hb, hi⟩ := named_l0_val x hx x.size 0 (by omega) (by omega)
  refine ⟨x.size + 2, ?_⟩
  rw [named_f]
  suffices h : ∃ b, weftref15_Named.f (x.size + 2) x = some b ∧ (b = true ↔ NameP x) by
    obtain ⟨b, h1, h2⟩ := h; exact ⟨b, h1, h1, h2⟩
  have hj : ∀ c, weftref15_Named.j0 (x.size + 2) x c = some (if c = true then false else b) := by
    intro c
    rw [weftref15_Named.j0]
    split
    · rfl
    · exact hb
  rw [weftref15_Named.f]
  unfold NameP
  by_cases h1 : (x.size : Int) < 1
  · rw [if_pos h1, hj, if_pos rfl]; exact ⟨_, rfl, ⟨fun q => (by cases q), fun q => by omega⟩⟩
  · rw [if_neg h1]
    have hw : wrap64 ((x.size : Int) - 1) = (x.size : Int) - 1 := by unfold wrap64; unfold maxLen at hx; omega
    by_cases h2 : (x.size : Int) > 63
    · rw [if_pos h2, hj, if_pos rfl]; exact ⟨_, rfl, ⟨fun q => (by cases q), fun q => by omega⟩⟩
    · rw [if_neg h2, if_pos (by omega), hw]
      by_cases h3 : bt x 0 = 45
      · rw [if_pos h3, hj, if_pos rfl]; exact ⟨_, rfl, ⟨fun q => (by cases q), fun q => absurd h3 q.2.2.1⟩⟩
      · rw [if_neg h3, if_pos (by omega), if_pos (by omega), hj]
        by_cases h4 : bt x ((x.size : Int) - 1) = 45
        · rw [if_pos (by rw [h4]; rfl)]; exact ⟨_, rfl, ⟨fun q => (by cases q), fun q => absurd h4 q.2.2.2.1⟩⟩
        · rw [if_neg (by simpa using h4)]
          exact ⟨b, rfl, ⟨fun q => ⟨by omega, by omega, h3, h4, hi.1 q⟩, fun q => hi.2 q.2.2.2.2⟩⟩
/-- a letter that may stand at place j -/
def okC (x : ByteArray) (j : Int) : Prop := (97 ≤ bt x j ∧ bt x j ≤ 122) ∨ (48 ≤ bt x j ∧ bt x j ≤ 57) ∨ (bt x j = 45 ∧ 0 < j ∧ j < (x.size : Int) - 1)
theorem nameP_iff (x : ByteArray) : NameP x ↔ (1 ≤ x.size ∧ x.size ≤ 63) ∧ ∀ j, 0 ≤ j → j < (x.size : Int) → okC x j := by
  unfold NameP okC goodC
  constructor
  · rintro ⟨h1, h2, h3, h4, h5⟩
    refine ⟨⟨h1, h2⟩, fun j q1 q2 => ?_⟩
    rcases h5 j q1 q2 with h | h | h
    · exact .inl h
    · exact .inr (.inl h)
    · refine .inr (.inr ⟨h, ?_, ?_⟩)
      · rcases Int.lt_or_le 0 j with q | q
        · exact q
        · exfalso; have : j = 0 := by omega
          rw [this] at h; exact h3 h
      · rcases Int.lt_or_le j ((x.size : Int) - 1) with q | q
        · exact q
        · exfalso; have : j = (x.size : Int) - 1 := by omega
          rw [this] at h; exact h4 h
  · rintro ⟨⟨h1, h2⟩, h5⟩
    refine ⟨h1, h2, fun e => ?_, fun e => ?_, fun j q1 q2 => ?_⟩
    · have := h5 0 (by omega) (by omega); omega
    · have := h5 ((x.size : Int) - 1) (by omega) (by omega); omega
    · have := h5 j q1 q2; omega
theorem byte_bt (s : ByteArray) (i : Nat) (h : i < s.size) : (((s[i]'h).toNat : Nat) : Int) = bt s i := by
  unfold bt
  rw [dif_pos (by simpa using h)]
  simp
/-- so far all is as a name's letters are -/
def Upto (x : ByteArray) (i : Nat) : Prop := (1 ≤ x.size ∧ x.size ≤ 63) ∧ ∀ j, 0 ≤ j → j < (i : Int) → okC x j
theorem upto_ok {x : ByteArray} {i : Nat} {b : Bool} (h : b = true ↔ Upto x i) (hc : okC x i) : b = true ↔ Upto x (i + 1) := by
  refine h.trans ⟨fun q => ⟨q.1, fun j q1 q2 => ?_⟩, fun q => ⟨q.1, fun j q1 q2 => q.2 j q1 (by omega)⟩⟩
  by_cases e : j = i
  · rw [e]; exact hc
  · exact q.2 j q1 (by omega)
theorem upto_bad {x : ByteArray} {i : Nat} (hc : ¬ okC x i) : false = true ↔ Upto x (i + 1) :=
  ⟨fun q => (by cases q), fun q => absurd (q.2 i (by omega) (by omega)) hc⟩
theorem find_some {w : World} {B b1 b2 : Nat} {vn vs : Value} {M : IpM} {s : ByteArray} {a : Int} (hs : s.size ≤ maxLen) (HS : IpS w B b1 b2 vn vs M) (h : M.byN s = some a) :
    Calls Try.prog 31 #[.pointer (some ⟨B, 0, none⟩), .string s] w fun e w' => e = .returned (.tuple #[.int .u32 a, .int .i64 0]) ∧ Below w.heap.size w w' := by
  have hh := find w B b1 b2 vn vs M s hs HS
  rwa [findF_some h] at hh
theorem find_none {w : World} {B b1 b2 : Nat} {vn vs : Value} {M : IpM} {s : ByteArray} (hs : s.size ≤ maxLen) (HS : IpS w B b1 b2 vn vs M) (h : M.byN s = none) :
    Calls Try.prog 31 #[.pointer (some ⟨B, 0, none⟩), .string s] w fun e w' => e = .returned (.tuple #[.int .u32 0, .int .i64 3]) ∧ Below w.heap.size w w' := by
  have hh := find w B b1 b2 vn vs M s hs HS
  rwa [findF_none h] at hh
theorem kept_byN (M : IpM) (s : ByteArray) (a : Int) : (keptF M s a).byN s = some a := by
  unfold keptF
  split <;> simp [keptN, keptO, putN]
/-- the first Add of a new subnet -/
theorem add_first (k : Nat) (w : World) (B b1 b2 : Nat) (s : ByteArray) (hs : s.size ≤ maxLen) (HS : IpS w B b1 b2 (.slice none 0 0) (.slice none 0 0) (newM 168100096 29 (168100096 + sizeF 29 - 1))) (hok : ipam_nameOK.f k s = some true) :
    Calls Try.prog 22 #[.pointer (some ⟨B, 0, none⟩), .string s] w fun e w' => ∃ a vn vs M, e = .returned (.tuple #[.int .u32 a, .int .i64 0]) ∧ IpS w' B b1 b2 vn vs M ∧ M.byN s = some a ∧ Turn w w' (IpF B b1 b2 (.slice none 0 0) (.slice none 0 0)) := by
  have hr := Rel.new (a := 168100096) (l := 29) (by omega) (by omega) (by omega) (by omega) (by decide)
  refine (add_ok k w B b1 b2 _ _ _ s hs HS hok rfl hr.num hr.ok (by decide) (by decide) rfl).mono ?_
  rintro e w' ⟨rfl, vn', vs', hI, hT, hF⟩
  exact ⟨_, vn', vs', _, rfl, hI, kept_byN _ _ _, hT⟩
set_option maxHeartbeats 8000000 in
set_option maxRecDepth 100000 in
theorem names (w : World) (s : ByteArray) (hs : s.size ≤ maxLen) :
    Calls Try.prog 13 #[.string s] w fun e w' => e = .returned (.bool true) ∧ Below w.heap.size w w' := by
  obtain ⟨k, ok, _, hnm, hiff⟩ := named_val s hs
  have hn := Aside0.mk (fun w => new_good w 168100096 29 (by omega) (by omega) ⟨by omega, by omega, by decide⟩)
  have hf := Aside0.mk first16
  have hsz : (s.size : Int) ≤ 9223372036854775807 := by unfold maxLen at hs; omega
  have HIFF := Aside0.mk hiff
  have HNM := Aside0.mk hnm
  have h3 : (s.size : Int) < 1 ∨ (1 ≤ (s.size : Int) ∧ (s.size : Int) ≤ 63) ∨ (1 ≤ (s.size : Int) ∧ 63 < (s.size : Int)) := by omega
  clear hiff hnm
  rcases h3 with h3 | ⟨h3, h4⟩ | ⟨h3, h4⟩
  all_goals
    go_enter Try.func13, Try.ntmps13
    go_wp2_with (first | (go_at_call 20; refine (hn.out _).mono ?_; rintro e_ w1 ⟨B, b1, b2, rfl, hS, hb1, hF⟩; have HS := Aside0.mk hS; have HB1 := Aside0.mk hb1; have HF := Aside0.mk hF; clear hS hb1 hF)
                       | (go_at_call 16; refine (hf.out _).mono ?_; rintro e_ w2 ⟨rfl, hb2⟩; have HS2 := Aside0.mk (HS.out.below hb2); have HB2 := Aside0.mk (below_step HB1.out hb2); clear hb2) | go_in)
    go_loop [5, 6] (fun vb vi => ∃ (b : Bool) (i : Nat), vb = .bool b ∧ vi = .int .i64 i ∧ i ≤ s.size ∧ Aside0 (b = true ↔ Upto s i)) (fun _ vi => s.size - (intOf vi).toNat)
    case atStart => exact ⟨_, 0, rfl, rfl, by omega, ⟨by first | exact ⟨fun _ => ⟨⟨by omega, by omega⟩, fun j q1 q2 => by omega⟩, fun _ => rfl⟩ | exact ⟨fun q => by have := of_decide_eq_true q; omega, fun q => by have := q.1; omega⟩ | exact ⟨fun q => (by cases q), fun q => by have := q.1; omega⟩⟩⟩
    case round =>
      obtain ⟨b, i, rfl, rfl, hi, HU⟩ := hrel
      by_cases hlt : i < s.size
      · have hli : (i : Int) < (s.size : Int) := by omega
        have hbt := byte_bt s i hlt
        have HBT := Aside0.mk hbt
        clear hbt
        have HUO := Aside0.mk (fun hc => upto_ok HU.out (i := i) (x := s) hc)
        have HUB := Aside0.mk (fun hc => upto_bad (i := i) (x := s) hc)
        go_wp2
        all_goals
          have hbt := HBT.out
          have hbo := HUO.out
          have hbb := HUB.out
          unfold okC at hbo hbb
          rw [← hbt] at hbo hbb
          try simp only [Bool.not_eq_true', Bool.not_eq_false', Bool.not_eq_true, Bool.not_eq_false, decide_eq_true_eq, decide_eq_false_iff_not] at *
          first
            | exact ⟨⟨b, i + 1, rfl, by simp, by omega, ⟨hbo (by omega)⟩⟩, by simp [intOf]; omega⟩
            | exact ⟨⟨false, i + 1, rfl, by simp, by omega, ⟨hbb (by omega)⟩⟩, by simp [intOf]; omega⟩
      · obtain rfl : i = s.size := by omega
        have hbk : b = ok := by
          rw [Bool.eq_iff_iff, HU.out, HIFF.out, nameP_iff]; rfl
        subst hbk
        clear HU HIFF hlt
        cases b with
        | true =>
          have h1 := Aside0.mk (add_first k w2 B b1 b2 s hs HS2.out HNM.out)
          go_wp2_with (first | (go_at_call 22; refine h1.out.mono ?_; rintro e_ w3 ⟨a, vn, vs, M, rfl, hI, hby, hold⟩; have HI := Aside0.mk hI; have HBY := Aside0.mk hby; have HOLD := Aside0.mk hold; clear hI hby hold)
                             | (go_at_call 31; refine (find_some hs HI.out HBY.out).mono ?_; rintro e_ w4 ⟨rfl, hb4⟩; have HI4 := Aside0.mk (HI.out.below hb4); have HB4 := Aside0.mk hb4; clear hb4)
                             | (go_at_call 22; refine (add_dup k w4 B b1 b2 _ _ _ s hs HI4.out HNM.out _ HBY.out).mono ?_; rintro e_ w5 ⟨rfl, hb5⟩; have HB5 := Aside0.mk hb5; clear hb5) | go_in)
          go_ret
          exact ⟨rfl, below_step (below_step (HB2.out.trans (HOLD.out.below HB2.out.size HF.out)) HB4.out) HB5.out⟩
        | false =>
          have h1 := Aside0.mk (add_bad k w2 B b1 b2 _ _ _ s hs HS2.out HNM.out)
          go_wp2_with (first | (go_at_call 22; refine h1.out.mono ?_; rintro e_ w3 ⟨rfl, hb3⟩; have HI := Aside0.mk (HS2.out.below hb3); have HB3 := Aside0.mk (below_step HB2.out hb3); clear hb3)
                             | (go_at_call 31; refine (find_none hs HI.out rfl).mono ?_; rintro e_ w4 ⟨rfl, hb4⟩; have HI4 := Aside0.mk (HI.out.below hb4); have HB4 := Aside0.mk (below_step HB3.out hb4); clear hb4)
                             | (go_at_call 22; refine (add_bad k w4 B b1 b2 _ _ _ s hs HI4.out HNM.out).mono ?_; rintro e_ w5 ⟨rfl, hb5⟩; have HB5 := Aside0.mk (below_step HB4.out hb5); clear hb5) | go_in)
          go_ret
          exact ⟨rfl, HB5.out⟩
end Go.Proofs.Ytgabkifojnkbkaa.Ip
