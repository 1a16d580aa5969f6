/- Prefixes: the document's fault, and its reader of prefixes: they say just what addr says. -/
import Derived.Test.YtncpcjphljfcpaaDoorTxtRef
namespace Go.Proofs.YtncpcjphljfcpaaDoor.Txt
open Go.RowKit Go.Proofs.YtncpcjphljfcpaaDoor.PPar Go.Proofs.YtncpcjphljfcpaaDoorW.PrintWords Go.Proofs.YtncpcjphljfcpaaDoorW.PrintLast Go.Proofs.YtncpcjphljfcpaaDoorW.PrintMore

theorem size_l0 (j : Nat) : ∀ (x : Int) (k : Nat), j ≤ 32 → j < k → 0 ≤ x → x * 2 ^ j ≤ 4294967296 → weftref1_size.l0 k x (32 - j) = some (x * 2 ^ j) := by
  induction j with
  | zero =>
    intro x k _ hk h0 hx
    obtain ⟨k, rfl⟩ : ∃ m, k = m + 1 := ⟨k - 1, by omega⟩
    simp only [weftref1_size.l0]
    rw [if_neg (by omega)]; simp
  | succ j ih =>
    intro x k hj hk h0 hx
    obtain ⟨k, rfl⟩ : ∃ m, k = m + 1 := ⟨k - 1, by omega⟩
    have e : x * 2 ^ (j + 1) = (2 * x) * 2 ^ j := by rw [Int.pow_succ]; rw [Int.mul_comm 2 x, Int.mul_assoc, Int.mul_comm 2]
    have hone : (0 : Int) < 2 ^ j := Int.pow_pos (by omega)
    have hb : 2 * x ≤ 4294967296 := by
      have : (2 * x) * 1 ≤ (2 * x) * 2 ^ j := Int.mul_le_mul_of_nonneg_left (by omega) (by omega)
      omega
    simp only [weftref1_size.l0]
    rw [if_pos (by omega), w64 (by omega) (by omega), w64 (by omega) (by omega), show ((32 : Int) - ((j + 1 : Nat) : Int)) + 1 = 32 - (j : Int) from by omega, e]
    exact ih (2 * x) k (by omega) (by omega) (by omega) (by rw [← e]; exact hx)
theorem size_ev {n : Nat} (hn : n ≤ 32) : Ev (fun k => weftref1_size.f k n) (sz n : Int) := by
  refine ⟨33, fun k hk => ?_⟩
  show weftref1_size.l0 k 1 n = _
  have h := size_l0 (32 - n) 1 k (by omega) (by omega) (by omega) (by have := sz_le n; rw [Int.one_mul]; show ((2 : Nat) : Int) ^ (32 - n) ≤ _; rw [← Int.natCast_pow]; exact Int.ofNat_le.mpr this)
  rw [show (32 : Int) - ((32 - n : Nat) : Int) = (n : Int) from by omega] at h
  rw [h, Int.one_mul]
  show some (((2 : Nat) : Int) ^ (32 - n)) = some (((2 ^ (32 - n) : Nat)) : Int)
  rw [← Int.natCast_pow]
theorem reffault_ev {a b : Int} (h0 : 0 ≤ a) (h1 : a < 4294967296) : Ev (fun k => weftref1_fault.f k a b) (flt a b) := by
  unfold flt
  by_cases hb : b < 0 ∨ 32 < b
  · rw [if_pos hb]
    refine ⟨1, fun k hk => ?_⟩
    obtain ⟨k, rfl⟩ : ∃ m, k = m + 1 := ⟨k - 1, by omega⟩
    show weftref1_fault.f (k + 1) a b = some 11
    unfold weftref1_fault.f
    by_cases hb1 : b < 0
    · rw [if_pos hb1]; simp only [weftref1_fault.j0]; rw [if_pos trivial]
    · rw [if_neg hb1, decide_eq_true (by omega)]; simp only [weftref1_fault.j0]; rw [if_pos trivial]
  · rw [if_neg hb]
    obtain ⟨n, rfl⟩ : ∃ n : Nat, b = (n : Int) := ⟨b.toNat, by omega⟩
    have hp := sz_pos n
    have hs := size_ev (n := n) (by omega)
    refine Ev.congr (f := fun k => weftref1_fault.j0 k false a n) (fun k => ?_) (Ev.step (f := fun k => (weftref1_size.f k n).bind fun t122 => (if t122 = 0 then none else (if (Int.tmod (wrap64 a) t122) = 0 then (some 0) else (some 12)))) (fun k => ?_) (Ev.bind hs ?_))
    · unfold weftref1_fault.f; rw [if_neg (by omega), decide_eq_false (by omega)]
    · simp only [weftref1_fault.j0]; rw [if_neg (by decide)]
    · simp only [if_neg (show ¬ ((sz n : Int) = 0) by omega), w64 (n := a) (by omega) (by omega), Int.tmod_eq_emod_of_nonneg h0, Int.toNat_natCast]
      by_cases h : a % (sz n : Int) = 0
      · simp only [if_pos h]; exact Ev.now _
      · simp only [if_neg h]; exact Ev.now _
theorem refvalid_ev {a b : Int} (h0 : 0 ≤ a) (h1 : a < 4294967296) : Ev (fun k => weftref1_Valid.f k a b) (flt a b == 0) := by
  unfold weftref1_Valid.f
  exact Ev.bind (reffault_ev h0 h1) (Ev.now _)
theorem flt_nat {a : Int} {n : Nat} (hn : n ≤ 32) : flt a n = 0 ∨ flt a n = 12 := by
  unfold flt
  rw [if_neg (by omega)]
  by_cases h : a % (sz ((n : Int)).toNat : Int) = 0
  · rw [if_pos h]; exact .inl rfl
  · rw [if_neg h]; exact .inr rfl

/-- what a text is as a prefix -/
def PP (L : List Int) (r : Int × Int × Int) : Prop :=
  (∃ (a : Int) (n : Nat), 0 ≤ a ∧ a < 4294967296 ∧ n ≤ 32 ∧ L = pfx a n ∧ r = if flt a n = 0 then (a, (n : Int), 0) else (0, 0, 12)) ∨
  ((∀ (a : Int) (n : Nat), 0 ≤ a → a < 4294967296 → n ≤ 32 → L ≠ pfx a n) ∧ r = (0, 0, 11))
theorem fmt_inj {a b : Int} (ha : 0 ≤ a) (ha1 : a < 4294967296) (hb : 0 ≤ b) (hb1 : b < 4294967296) (h : fmt a = fmt b) : a = b := by
  have h1 := parse_fmt ha ha1
  have h2 := parse_fmt hb hb1
  rw [h] at h1
  have := Ev.uniq h1 h2
  exact (Prod.mk.inj this).1
theorem PP.uniq {L : List Int} {r s : Int × Int × Int} (hr : PP L r) (hs : PP L s) : r = s := by
  rcases hr with ⟨a, n, h0, h1, h2, h3, h4⟩ | ⟨h1, h2⟩
  · rcases hs with ⟨b, m, g0, g1, g2, g3, g4⟩ | ⟨g1, g2⟩
    · rw [h3] at g3
      obtain ⟨e1, e2⟩ := split_uniq (no_slash a) (no_slash b) g3
      have e1 := fmt_inj h0 h1 g0 g1 e1
      have e2 := dg_inj n (by omega) m (by omega) e2
      rw [h4, g4, e1, e2]
    · exact absurd h3 (g1 a n h0 h1 h2)
  · rcases hs with ⟨b, m, g0, g1, g2, g3, g4⟩ | ⟨g1, g2⟩
    · exact absurd g3 (h1 b m g0 g1 g2)
    · rw [h2, g2]
theorem no47 {L : List Int} (h : ∀ x ∈ L, x ≠ 47) (a : Int) (n : Nat) : L ≠ pfx a n := by
  intro e
  have : (47 : Int) ∈ L := by rw [e, pfx]; simp
  exact h 47 this rfl
/-- addr.ParsePrefix. -/
theorem pp_addr {L : List Int} (hL : By L) (hlen : L.length ≤ 1000000000000000000) : ∃ r, Ev (fun k => addr_ParsePrefix.f k (strOfNums L)) r ∧ PP L r := by
  obtain ⟨D, R, rfl, hD, hR⟩ := till L
  rcases hR with rfl | ⟨Q, rfl⟩
  · refine ⟨(0, 0, 11), ?_, .inr ⟨fun a n _ _ _ => by rw [List.append_nil]; exact no47 hD a n, rfl⟩⟩
    unfold addr_ParsePrefix.f
    refine scan hL hlen D.length [] D [] rfl rfl hD _ ?_
    refine Ev.step (f := fun _ => some (0, 0, 11)) (fun k => ?_) (Ev.now _)
    simp only [addr_ParsePrefix.l0]
    rw [if_neg (by rw [txt_size]; simp)]
  · have hBD : By D := hL.left
    have hBQ : By Q := fun x hx => hL x (List.mem_append.mpr (.inr (List.mem_cons_of_mem _ hx)))
    obtain ⟨p, hp, _, hpc⟩ := parse_both hBD (by simp at hlen; omega)
    obtain ⟨m, c, hn, hnc⟩ := num_all (top := 32) hBQ (by omega)
    have hcr : 0 ≤ c ∧ c ≤ Q.length := by
      rcases hnc with ⟨_, rfl⟩ | ⟨E, R, rfl, _, rfl, _⟩
      · omega
      · rw [List.length_append]; omega
    have huniq : ∀ (a : Int) (n : Nat), D ++ 47 :: Q = pfx a n → D = fmt a ∧ Q = dg n := fun a n e => split_uniq hD (no_slash a) e
    obtain ⟨pa, pe⟩ := p
    by_cases hg : pe = 0 ∧ c ≠ 0 ∧ c = Q.length
    · rcases hpc with ⟨hpc, _⟩ | ⟨a, h0, h1, hDa, hpc⟩
      · cases hpc; omega
      · obtain ⟨e1, e2⟩ := Prod.mk.inj hpc
        subst e1; subst e2; subst hDa
        have hh := j1_false (m := m) h0 h1
        refine ⟨_, pp_at hL hlen hD hp hn hcr (by rw [decide_eq_true hg]; exact hh), ?_⟩
        rcases hnc with ⟨_, rfl⟩ | ⟨E, R, rfl, hE, rfl, hm0, hm1, _⟩
        · omega
        · have : R = [] := by
            have h9 := hg.2.2
            rw [List.length_append] at h9
            exact List.length_eq_zero_iff.mp (by omega)
          subst this
          refine .inl ⟨pa, m.toNat, h0, h1, by omega, ?_, ?_⟩
          · rw [pfx, ← hE, List.append_nil]
          · rw [Int.toNat_of_nonneg hm0]
    · refine ⟨_, pp_at hL hlen hD hp hn hcr (by rw [decide_eq_false hg]; exact j1_true), .inr ⟨fun a n h0 h1 hn2 e => hg ?_, rfl⟩⟩
      obtain ⟨e1, e2⟩ := huniq a n e
      have hp2 := parse_fmt h0 h1
      rw [← e1] at hp2
      have u1 := Ev.uniq hp hp2
      have hn3 := num_dg (m := n) (R := []) (top := 32) (by intro x hx; cases hx) stop_nil (by omega) (by omega)
      rw [List.append_nil, ← e2] at hn3
      have u2 := Ev.uniq hn hn3
      have hdl := dg_len n
      rw [← e2] at hdl
      exact ⟨(Prod.mk.inj u1).2, by have := (Prod.mk.inj u2).2; omega, (Prod.mk.inj u2).2⟩
theorem len_pfx (a : Int) (n : Nat) (hn : n ≤ 32) : (pfx a n).length ≤ 18 := by
  have h := len_fmt a
  have : (dg n).length ≤ 2 := by
    unfold dg
    split
    · simp
    · rw [if_pos (by omega)]; simp
  simp [pfx]; omega
/-- The document's ParsePrefix. -/
theorem pp_ref {L : List Int} (hL : By L) (hlen : L.length ≤ 1000000000000000000) : ∃ r, Ev (fun k => weftref1_ParsePrefix.f k (strOfNums L)) r ∧ PP L r := by
  by_cases h18 : L.length ≤ 18
  rotate_left
  · refine ⟨(0, 0, 11), ?_, .inr ⟨fun a n _ _ hn e => by have := len_pfx a n hn; rw [← e] at this; omega, rfl⟩⟩
    refine Ev.congr (f := fun _ => some (0, 0, 11)) (fun k => ?_) (Ev.now _)
    unfold weftref1_ParsePrefix.f
    rw [if_pos (by rw [txt_size]; omega)]
  obtain ⟨D, R, rfl, hD, hR⟩ := till_c 47 L
  have hu := until_go hL hlen D.length [] D R rfl rfl hD hR
  rw [List.nil_append] at hu
  rcases hR with rfl | ⟨Q, rfl⟩
  · refine ⟨(0, 0, 11), ?_, .inr ⟨fun a n _ _ _ => by rw [List.append_nil]; exact no47 hD a n, rfl⟩⟩
    obtain ⟨K1, h1⟩ := hu; dsimp only at h1
    refine ⟨K1, fun k hk => ?_⟩
    have g1 := h1 k hk
    dsimp only
    unfold weftref1_ParsePrefix.f
    rw [if_neg (by rw [txt_size]; omega)]
    rw [show (([] : List Int).length : Int) = 0 from rfl] at g1
    rw [g1, Option.bind_some, if_pos (by rw [txt_size]; simp)]
  · have hBD : By D := hL.left
    have hBQ : By Q := fun x hx => hL x (List.mem_append.mpr (.inr (List.mem_cons_of_mem _ hx)))
    have hLl : (D ++ 47 :: Q).length = D.length + Q.length + 1 := by simp; omega
    obtain ⟨p, _, hp, hpc⟩ := parse_both hBD (by omega)
    have huniq : ∀ (a : Int) (n : Nat), D ++ 47 :: Q = pfx a n → D = fmt a ∧ Q = dg n := fun a n e => split_uniq hD (no_slash a) e
    have c1 : (strOfNums (D ++ 47 :: Q)).extract 0 ((D.length : Nat) : Int).toNat = strOfNums D := by rw [txt_cut]; simp
    have c2 : (strOfNums (D ++ 47 :: Q)).extract ((D.length : Int) + 1).toNat (strOfNums (D ++ 47 :: Q)).size = strOfNums Q := by
      rw [txt_drop, show ((D.length : Int) + 1).toNat = D.length + 1 from by omega]; simp
    have hgo : ∀ {n : Int} {r : Int × Int × Int}, Ev (fun k => weftref1_number.f k (strOfNums Q) 32) n → Ev (fun k => weftref1_ParsePrefix.j0 k p.1 n (decide (p.2 ≠ 0 ∨ n < 0))) r →
        Ev (fun k => weftref1_ParsePrefix.f k (strOfNums (D ++ 47 :: Q))) r := by
      intro n r hn hr
      obtain ⟨K1, h1⟩ := hu; dsimp only at h1
      obtain ⟨K2, h2⟩ := hn; dsimp only at h2
      obtain ⟨K3, h3⟩ := hr; dsimp only at h3
      obtain ⟨K4, h4⟩ := hp; dsimp only at h4
      refine ⟨max (max K1 K4) (max K2 K3), fun k hk => ?_⟩
      have g1 := h1 k (by omega)
      have g2 := h2 k (by omega)
      have g3 := h3 k (by omega)
      have g4 := h4 k (by omega)
      dsimp only
      unfold weftref1_ParsePrefix.f
      rw [show (([] : List Int).length : Int) = 0 from rfl] at g1
      rw [if_neg (by rw [txt_size]; omega), g1, Option.bind_some, if_neg (by rw [txt_size, hLl]; omega), if_pos (by omega), if_pos (by rw [txt_size, hLl]; omega), c1, g4, Option.bind_some,
        w64 (n := (D.length : Int) + 1) (by omega) (by omega), if_pos (by omega), if_pos (by rw [txt_size, hLl]; omega), c2, g2, Option.bind_some]
      by_cases he : p.2 = 0
      · rw [if_pos he]
        by_cases hn0 : n < 0
        · rw [decide_eq_true hn0]; rw [decide_eq_true (.inr hn0)] at g3; exact g3
        · rw [decide_eq_false hn0]; rw [decide_eq_false (by omega)] at g3; exact g3
      · rw [if_neg he]; rw [decide_eq_true (.inl he)] at g3; exact g3
    have jt : ∀ {n : Int}, Ev (fun k => weftref1_ParsePrefix.j0 k p.1 n true) (0, 0, 11) := by
      intro n
      refine Ev.step (f := fun _ => some (0, 0, 11)) (fun k => ?_) (Ev.now _)
      simp only [weftref1_ParsePrefix.j0]
      rw [if_pos trivial]
    by_cases hm : ∃ m, m ≤ 32 ∧ Q = dg m
    · obtain ⟨m, hm, hQm⟩ := hm
      have hn := refnum_yes (most := 32) hm (by omega)
      rw [← hQm] at hn
      rcases hpc with ⟨rfl, hno⟩ | ⟨a, h0, h1, hDa, rfl⟩
      · refine ⟨(0, 0, 11), hgo hn (by rw [decide_eq_true (.inl (by decide))]; exact jt), .inr ⟨fun a n h0 h1 h2 e => hno a h0 h1 (huniq a n e).1, rfl⟩⟩
      · refine ⟨if flt a m = 0 then (a, (m : Int), 0) else (0, 0, 12), hgo hn ?_, .inl ⟨a, m, h0, h1, hm, by rw [pfx, hDa, hQm], rfl⟩⟩
        rw [decide_eq_false (by omega)]
        refine Ev.step (f := fun k => (weftref1_fault.f k a m).bind fun t129 => (if t129 = 0 then (some (a, (m : Int), 0)) else (some (0, 0, t129)))) (fun k => ?_) (Ev.bind (reffault_ev h0 h1) ?_)
        · simp only [weftref1_ParsePrefix.j0]
          rw [if_neg (by decide)]
        · rcases flt_nat (a := a) hm with h | h
          · simp only [if_pos h]; exact Ev.now _
          · simp only [h]; exact Ev.now _
    · refine ⟨(0, 0, 11), hgo (refnum_no (most := 32) hBQ (by omega) (fun n hn e => hm ⟨n, hn, e⟩)) (by rw [decide_eq_true (.inr (by omega))]; exact jt), .inr ⟨fun a n h0 h1 h2 e => hm ⟨n, h2, (huniq a n e).2⟩, rfl⟩⟩
theorem pp_both {L : List Int} (hL : By L) (hlen : L.length ≤ 1000000000000000000) : ∃ r, Ev (fun k => addr_ParsePrefix.f k (strOfNums L)) r ∧ Ev (fun k => weftref1_ParsePrefix.f k (strOfNums L)) r := by
  obtain ⟨r, h1, h2⟩ := pp_addr hL hlen
  obtain ⟨s, g1, g2⟩ := pp_ref hL hlen
  rw [← h2.uniq g2] at g1
  exact ⟨r, h1, g1⟩
end Go.Proofs.YtncpcjphljfcpaaDoor.Txt
