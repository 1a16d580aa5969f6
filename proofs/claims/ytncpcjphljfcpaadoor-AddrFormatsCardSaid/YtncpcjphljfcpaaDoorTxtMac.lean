/- addr.FormatPrefix, addr.ParsePrefix, addr.FormatMAC and addr.ParseMAC over texts, both ways. -/
import Derived.Test.YtncpcjphljfcpaaDoorTxtAddr
namespace Go.Proofs.YtncpcjphljfcpaaDoor.Txt
open Go.RowKit Go.Proofs.YtncpcjphljfcpaaDoor.PPar Go.Proofs.YtncpcjphljfcpaaDoorW.PrintWords Go.Proofs.YtncpcjphljfcpaaDoorW.PrintLast Go.Proofs.YtncpcjphljfcpaaDoorW.PrintMore

/-- the size of a block of length n -/
def sz (n : Nat) : Nat := 2 ^ (32 - n)
theorem sz_pos (n : Nat) : 0 < sz n := Nat.two_pow_pos _
theorem sz_le (n : Nat) : sz n ≤ 4294967296 := by
  unfold sz
  have : 2 ^ (32 - n) ≤ 2 ^ 32 := Nat.pow_le_pow_right (by omega) (by omega)
  omega
theorem mask_all : ∀ n : Nat, n < 33 → addr_mask.f (n : Int) = some ((4294967296 - sz n : Nat) : Int) := by decide +kernel
theorem mod_sz {a : Int} (n : Nat) (h0 : 0 ≤ a) : ((a.toNat % sz n : Nat) : Int) = a % (sz n : Int) := by
  have : ((a.toNat : Nat) : Int) = a := Int.toNat_of_nonneg h0
  rw [Int.natCast_emod, this]
/-- what addr.fault says -/
def flt (a b : Int) : Int := if b < 0 ∨ 32 < b then 11 else if a % (sz b.toNat : Int) = 0 then 0 else 12
theorem fault_ev {a b : Int} (h0 : 0 ≤ a) (h1 : a < 4294967296) : Ev (fun k => addr_fault.f k a b) (flt a b) := by
  refine ⟨1, fun k hk => ?_⟩
  obtain ⟨k, rfl⟩ : ∃ m, k = m + 1 := ⟨k - 1, by omega⟩
  unfold addr_fault.f flt
  dsimp only
  by_cases hb : b < 0
  · rw [if_pos hb, if_pos (.inl hb)]
    simp only [addr_fault.j0]
    rw [if_pos trivial]
  rw [if_neg hb]
  by_cases hb2 : 32 < b
  · rw [if_pos (.inr hb2), decide_eq_true hb2]
    simp only [addr_fault.j0]
    rw [if_pos trivial]
  rw [if_neg (by omega), decide_eq_false hb2]
  simp only [addr_fault.j0]
  obtain ⟨n, rfl⟩ : ∃ n : Nat, b = (n : Int) := ⟨b.toNat, by omega⟩
  have hle := sz_le n
  have hp := sz_pos n
  rw [if_neg (by decide), mask_all n (by omega), Option.bind_some, Go.u32_andNot _ _ h0 h1 (by omega) (by omega)]
  have e : 4294967295 - (((4294967296 - sz n : Nat) : Int)).toNat = sz n - 1 := by omega
  rw [e]
  have hm : a.toNat &&& (sz n - 1) = a.toNat % sz n := Nat.and_two_pow_sub_one_eq_mod _ _
  rw [hm, mod_sz n h0, Int.toNat_natCast]
  split <;> rfl
theorem valid_ev {a b : Int} (h0 : 0 ≤ a) (h1 : a < 4294967296) : Ev (fun k => addr_Valid.f k a b) (flt a b == 0) := by
  unfold addr_Valid.f
  exact Ev.bind (fault_ev h0 h1) (Ev.now _)
theorem flt_zero {a b : Int} (h : flt a b = 0) : 0 ≤ b ∧ b ≤ 32 := by
  unfold flt at h
  split at h
  · omega
  · omega
/-- the text of a prefix -/
def pfx (a : Int) (n : Nat) : List Int := fmt a ++ 47 :: dg n
theorem len_fmt (a : Int) : (fmt a).length ≤ 15 := by
  have h0 := dg_len (byteOf a 0)
  have h1 := dg_len (byteOf a 1)
  have h2 := dg_len (byteOf a 2)
  have h3 := dg_len (byteOf a 3)
  simp [fmt, quad, tail]; omega
theorem pfx_ev {a b : Int} (h0 : 0 ≤ a) (h1 : a < 4294967296) :
    Ev (fun k => addr_FormatPrefix.f k a b) (if flt a b = 0 then (strOfNums (pfx a b.toNat), 0) else (⟨#[]⟩, flt a b)) := by
  unfold addr_FormatPrefix.f
  refine Ev.bind (fault_ev h0 h1) ?_
  by_cases h : flt a b = 0
  · simp only [if_pos h]
    obtain ⟨hb0, hb1⟩ := flt_zero h
    refine Ev.bind (format_ev h0 h1) ?_
    have e : strOfNums (fmt a) ++ (⟨#[47]⟩ : ByteArray) ++ strOfNums (dg b.toNat) = strOfNums (pfx a b.toNat) := by
      rw [show (⟨#[47]⟩ : ByteArray) = strOfNums [47] from by decide, txt_app, txt_app]
      simp [pfx]
    have hl := len_fmt a
    have hd := dg_len b.toNat
    have c1 : (strOfNums (fmt a)).size + 1 ≤ 9223372036854775807 := by rw [txt_size]; omega
    have c2 : (strOfNums (fmt a) ++ (⟨#[47]⟩ : ByteArray)).size + (strOfNums (dg b.toNat)).size ≤ 9223372036854775807 := by
      rw [show (⟨#[47]⟩ : ByteArray) = strOfNums [47] from by decide, txt_app, txt_size, txt_size]; simp; omega
    simp only [if_pos c1]
    refine Ev.bind (digits_ev hb0 (by omega)) ?_
    simp only [if_pos c2, e]
    exact Ev.now _
  · simp only [if_neg h]
    exact Ev.now _
/-- A text up to its first slash. -/
theorem till (L : List Int) : ∃ D R, L = D ++ R ∧ (∀ x ∈ D, x ≠ 47) ∧ (R = [] ∨ ∃ Q, R = 47 :: Q) := by
  induction L with
  | nil => exact ⟨[], [], rfl, (by intro x hx; cases hx), .inl rfl⟩
  | cons x L ih =>
    by_cases h : x = 47
    · exact ⟨[], x :: L, rfl, (by intro x hx; cases hx), .inr ⟨L, by rw [h]⟩⟩
    · obtain ⟨D, R, h1, h2, h3⟩ := ih
      refine ⟨x :: D, R, by rw [h1]; rfl, ?_, h3⟩
      intro y hy
      rcases List.mem_cons.mp hy with e | e
      · rw [e]; exact h
      · exact h2 y e
theorem scan {L : List Int} (hL : By L) (hlen : L.length ≤ 1000000000000000000) (j : Nat) : ∀ (C D R : List Int), L = C ++ (D ++ R) → D.length = j → (∀ x ∈ D, x ≠ 47) → ∀ r,
    Ev (fun k => addr_ParsePrefix.l0 k (strOfNums L) ((strOfNums L).size : Int) ((C ++ D).length : Nat)) r → Ev (fun k => addr_ParsePrefix.l0 k (strOfNums L) ((strOfNums L).size : Int) (C.length : Nat)) r := by
  induction j with
  | zero =>
    intro C D R hLe hD hne r hr
    obtain rfl : D = [] := List.length_eq_zero_iff.mp hD
    rwa [List.append_nil] at hr
  | succ j ih =>
    intro C D R hLe hD hne r hr
    obtain ⟨x, D, rfl⟩ : ∃ x d, D = x :: d := by
      cases D with
      | nil => simp at hD
      | cons x d => exact ⟨x, d, rfl⟩
    have hc : C.length + D.length + 1 ≤ L.length := by rw [hLe]; simp; omega
    have hx : x ≠ 47 := hne x List.mem_cons_self
    have hat : bt (strOfNums L) (C.length : Int) = x := by
      have hb : By (C ++ ((x :: D) ++ R)) := by rw [← hLe]; exact hL
      have := bt_app hb rfl
      rw [← hLe] at this
      exact this
    have := ih (C ++ [x]) D R (by rw [hLe]; simp) (by simpa using hD) (fun y hy => hne y (List.mem_cons_of_mem _ hy)) r (by rwa [List.append_assoc, List.singleton_append])
    refine Ev.step (fun k => ?_) this
    simp only [addr_ParsePrefix.l0]
    rw [if_pos (by rw [txt_size]; omega), if_pos (by omega), if_pos (by rw [txt_size]; omega), hat, if_neg hx, w64 (by omega) (by omega)]
    simp
theorem pp_at {D Q : List Int} {r : Int × Int × Int} {pa pe m c : Int} (hL : By (D ++ 47 :: Q)) (hlen : (D ++ 47 :: Q).length ≤ 1000000000000000000) (hD : ∀ x ∈ D, x ≠ 47)
    (hp : Ev (fun k => addr_Parse.f k (strOfNums D)) (pa, pe)) (hn : Ev (fun k => addr_number.f k (strOfNums Q) 32) (m, c)) (hc : 0 ≤ c ∧ c ≤ Q.length)
    (hr : Ev (fun k => addr_ParsePrefix.j1 k pa m (!decide (pe = 0 ∧ c ≠ 0 ∧ c = Q.length))) r) : Ev (fun k => addr_ParsePrefix.f k (strOfNums (D ++ 47 :: Q))) r := by
  unfold addr_ParsePrefix.f
  refine scan hL hlen D.length [] D (47 :: Q) rfl rfl hD r ?_
  rw [List.nil_append]
  have hat := bt_app hL rfl
  have hs : (strOfNums (D ++ 47 :: Q)).size = D.length + Q.length + 1 := by rw [txt_size]; simp; omega
  obtain ⟨K1, h1⟩ := hp; dsimp only at h1
  obtain ⟨K2, h2⟩ := hn; dsimp only at h2
  obtain ⟨K3, h3⟩ := hr; dsimp only at h3
  refine ⟨max K1 (max K2 K3) + 1, fun k hk => ?_⟩
  obtain ⟨k, rfl⟩ : ∃ m, k = m + 1 := ⟨k - 1, by omega⟩
  have g1 := h1 k (by omega)
  have g2 := h2 k (by omega)
  have g3 := h3 k (by omega)
  have hl : D.length + Q.length + 1 ≤ 1000000000000000000 := by simp at hlen; omega
  have c1 : (strOfNums (D ++ 47 :: Q)).extract 0 ((D.length : Nat) : Int).toNat = strOfNums D := by rw [txt_cut]; simp
  have c2 : (strOfNums (D ++ 47 :: Q)).extract ((D.length : Int) + 1).toNat (strOfNums (D ++ 47 :: Q)).size = strOfNums Q := by
    rw [txt_drop, show ((D.length : Int) + 1).toNat = D.length + 1 from by omega]; simp
  simp only [addr_ParsePrefix.l0]
  rw [if_pos (by omega), if_pos (by omega), if_pos (by omega), hat, if_pos rfl, if_pos (by omega), c1, g1, Option.bind_some, w64 (n := (D.length : Int) + 1) (by omega) (by omega),
    if_pos (by omega), if_pos (by omega), c2, g2, Option.bind_some]
  dsimp only
  rw [w64 (by omega) (by omega)]
  by_cases he : pe = 0
  · rw [if_pos he]
    by_cases hc0 : c = 0
    · rw [if_pos hc0]
      rw [decide_eq_false (by omega)] at g3
      exact g3
    · rw [if_neg hc0]
      by_cases hcq : c = Q.length
      · rw [decide_eq_true ⟨he, hc0, hcq⟩] at g3
        rw [show ((D.length : Int) + 1 + c != ((strOfNums (D ++ 47 :: Q)).size : Int)) = false from by rw [hs]; simp; omega]
        exact g3
      · rw [decide_eq_false (by omega)] at g3
        rw [show ((D.length : Int) + 1 + c != ((strOfNums (D ++ 47 :: Q)).size : Int)) = true from by rw [hs]; simp; omega]
        exact g3
  · rw [if_neg he]
    rw [decide_eq_false (by omega)] at g3
    exact g3
theorem j1_true {a m : Int} : Ev (fun k => addr_ParsePrefix.j1 k a m true) (0, 0, 11) := by
  refine Ev.step (f := fun _ => some (0, 0, 11)) (fun k => ?_) (Ev.now _)
  simp only [addr_ParsePrefix.j1]
  rw [if_pos trivial]
theorem j1_false {a m : Int} (h0 : 0 ≤ a) (h1 : a < 4294967296) : Ev (fun k => addr_ParsePrefix.j1 k a m false) (if flt a m = 0 then (a, m, 0) else (0, 0, 12)) := by
  refine Ev.step (f := fun k => (addr_Valid.f k a m).bind fun t => if t = true then some (a, m, 0) else some (0, 0, 12)) (fun k => ?_) (Ev.bind (valid_ev h0 h1) ?_)
  · simp only [addr_ParsePrefix.j1]
    rw [if_neg (by decide)]
  · by_cases h : flt a m = 0
    · simp only [h]; exact Ev.now _
    · simp only [if_neg h, beq_iff_eq]; exact Ev.now _
/-- What ParsePrefix makes of any text. -/
theorem pp_all {L : List Int} (hL : By L) (hlen : L.length ≤ 1000000000000000000) :
    ∃ r, Ev (fun k => addr_ParsePrefix.f k (strOfNums L)) r ∧ ((∃ e, e ≠ 0 ∧ r = (0, 0, e)) ∨ ∃ (a : Int) (n : Nat), 0 ≤ a ∧ a < 4294967296 ∧ flt a n = 0 ∧ L = pfx a n ∧ r = (a, (n : Int), 0)) := by
  obtain ⟨D, R, rfl, hD, hR⟩ := till L
  rcases hR with rfl | ⟨Q, rfl⟩
  · refine ⟨(0, 0, 11), ?_, .inl ⟨11, by omega, rfl⟩⟩
    unfold addr_ParsePrefix.f
    refine scan hL hlen D.length [] D [] rfl rfl hD _ ?_
    refine Ev.step (f := fun _ => some (0, 0, 11)) (fun k => ?_) (Ev.now _)
    simp only [addr_ParsePrefix.l0]
    rw [if_neg (by rw [txt_size]; simp)]
  · have hBD : By D := hL.left
    have hBQ : By Q := fun x hx => hL x (List.mem_append.mpr (.inr (List.mem_cons_of_mem _ hx)))
    obtain ⟨p, hp, hpc⟩ := parse_back hBD (by simp at hlen; omega)
    obtain ⟨m, c, hn, hnc⟩ := num_all (top := 32) hBQ (by omega)
    have hcr : 0 ≤ c ∧ c ≤ Q.length := by
      rcases hnc with ⟨_, rfl⟩ | ⟨E, R, rfl, _, rfl, _⟩
      · omega
      · rw [List.length_append]; omega
    obtain ⟨pa, pe⟩ := p
    by_cases hg : pe = 0 ∧ c ≠ 0 ∧ c = Q.length
    · rcases hpc with hpc | ⟨a, h0, h1, rfl, hpc⟩
      · cases hpc; omega
      · cases hpc
        have hh := j1_false (m := m) h0 h1
        refine ⟨_, pp_at hL hlen hD hp hn hcr (by rw [decide_eq_true hg]; exact hh), ?_⟩
        by_cases hf : flt pa m = 0
        · rw [if_pos hf]
          rcases hnc with ⟨_, rfl⟩ | ⟨E, R, rfl, hE, rfl, hm0, hm1, _⟩
          · omega
          · have : R = [] := by
              have h9 := hg.2.2
              rw [List.length_append] at h9
              exact List.length_eq_zero_iff.mp (by omega)
            subst this
            refine .inr ⟨pa, m.toNat, h0, h1, ?_, ?_, ?_⟩
            · rw [Int.toNat_of_nonneg hm0]; exact hf
            · rw [pfx, ← hE, List.append_nil]
            · rw [Int.toNat_of_nonneg hm0]
        · rw [if_neg hf]
          exact .inl ⟨12, by omega, rfl⟩
    · refine ⟨_, pp_at hL hlen hD hp hn hcr (by rw [decide_eq_false hg]; exact j1_true), .inl ⟨11, by omega, rfl⟩⟩
theorem no_slash (a : Int) : ∀ x ∈ fmt a, x ≠ 47 := by
  have h : ∀ i x, x ∈ dg (byteOf a i) → x ≠ 47 := by
    intro i x hx
    have := dg_dg _ (by have := byteOf_lt a i; omega) x hx
    unfold isDg at this; omega
  intro x hx
  simp only [fmt, quad, tail, List.mem_append, List.mem_cons, List.not_mem_nil, or_false] at hx
  rcases hx with hx | hx | hx | hx | hx | hx | hx
  · exact h _ _ hx
  · omega
  · exact h _ _ hx
  · omega
  · exact h _ _ hx
  · omega
  · exact h _ _ hx
theorem by_pfx (a : Int) (n : Nat) (hn : n ≤ 32) : By (pfx a n) := (by_fmt a).app (By.app (a := [47]) (by intro x hx; simp at hx; omega) (by_dg n (by omega)))
theorem pp_pfx {a : Int} {n : Nat} (h0 : 0 ≤ a) (h1 : a < 4294967296) (hf : flt a n = 0) : Ev (fun k => addr_ParsePrefix.f k (strOfNums (pfx a n))) (a, (n : Int), 0) := by
  have hn := flt_zero hf
  have hd := dg_len n
  have hl := len_fmt a
  have hnum := num_dg (m := n) (R := []) (top := 32) (by intro x hx; cases hx) stop_nil (by omega) (by omega)
  rw [List.append_nil] at hnum
  have hj := j1_false (m := n) h0 h1
  rw [if_pos hf] at hj
  refine pp_at (D := fmt a) (Q := dg n) (by_pfx a n (by omega)) (by simp; omega) (no_slash a) (parse_fmt h0 h1) hnum (by omega) ?_
  rw [decide_eq_true ⟨rfl, by omega, rfl⟩]
  exact hj

/-! Hardware addresses. -/
theorem hex_all : ∀ m : Nat, m < 256 → 0 ≤ hexD (bt hexs ((m : Int) / 16)) ∧ 0 ≤ hexD (bt hexs ((m : Int) % 16)) ∧ (Go.bits .or .i64 (hexD (bt hexs ((m : Int) / 16)) * 16) (hexD (bt hexs ((m : Int) % 16)))) % 256 = (m : Int) := by
  decide +kernel
theorem or_all : ∀ a : Nat, a < 16 → ∀ b : Nat, b < 16 → (Go.bits .or .i64 ((a : Int) * 16) (b : Int)) % 256 = (a : Int) * 16 + b := by decide +kernel
theorem hexD_all : ∀ c : Nat, c < 256 → 0 ≤ hexD (c : Int) → hexD (c : Int) < 16 ∧ bt hexs (hexD (c : Int)) = if 65 ≤ (c : Int) ∧ (c : Int) ≤ 70 then (c : Int) + 32 else c := by decide +kernel
def mac (M : Nat → Int) : List Int := (List.range 17).map (macByte M)
theorem by_mac (M : Nat → Int) : By (mac M) := by
  intro x hx
  obtain ⟨j, _, rfl⟩ := List.mem_map.mp hx
  unfold macByte
  have h1 := bt_range hexs (M (j / 3) / 16)
  have h2 := bt_range hexs (M (j / 3) % 16)
  split
  · omega
  · split <;> omega
theorem bt_mac (M : Nat → Int) (i : Nat) (hi : i < 17) : bt (strOfNums (mac M)) (i : Int) = macByte M i := by
  rw [bt_txt (by_mac M) i (by simpa [mac] using hi)]
  simp [mac]
theorem mac_here {M : Nat → Int} {j : Nat} (hj : j < 6) (h : 0 ≤ M j ∧ M j < 256) : pok (strOfNums (mac M)) j ∧ pv (strOfNums (mac M)) j = M j := by
  obtain ⟨m, hm⟩ : ∃ m : Nat, M j = (m : Int) := ⟨(M j).toNat, by omega⟩
  obtain ⟨a1, a2, a3⟩ := hex_all m (by omega)
  have b1 : bt (strOfNums (mac M)) (3 * (j : Int)) = bt hexs ((m : Int) / 16) := by
    have := bt_mac M (3 * j) (by omega)
    rw [show 3 * (j : Int) = ((3 * j : Nat) : Int) from by omega, this, macByte, if_pos (by omega), show 3 * j / 3 = j from by omega, hm]
  have b2 : bt (strOfNums (mac M)) (3 * (j : Int) + 1) = bt hexs ((m : Int) % 16) := by
    have := bt_mac M (3 * j + 1) (by omega)
    rw [show 3 * (j : Int) + 1 = ((3 * j + 1 : Nat) : Int) from by omega, this, macByte, if_neg (by omega), if_pos (by omega), show (3 * j + 1) / 3 = j from by omega, hm]
  have b3 : j < 5 → bt (strOfNums (mac M)) (3 * (j : Int) + 2) = 58 := by
    intro hj5
    have := bt_mac M (3 * j + 2) (by omega)
    rw [show 3 * (j : Int) + 2 = ((3 * j + 2 : Nat) : Int) from by omega, this, macByte, if_neg (by omega), if_neg (by omega)]
  unfold pok pv
  rw [b1, b2]
  exact ⟨⟨a1, a2, b3⟩, by rw [a3, hm]⟩
theorem parse_mac {a b c d e f : Int} (ha : byteIn a) (hb : byteIn b) (hc : byteIn c) (hd : byteIn d) (he : byteIn e) (hf : byteIn f) :
    addr_ParseMAC.f (strOfNums (mac (macFn a b c d e f))) = some (a, b, c, d, e, f, 0) := by
  have h : ∀ j, j < 6 → pok (strOfNums (mac (macFn a b c d e f))) j ∧ pv (strOfNums (mac (macFn a b c d e f))) j = macFn a b c d e f j := by
    intro j hj
    refine mac_here hj ?_
    have : j = 0 ∨ j = 1 ∨ j = 2 ∨ j = 3 ∨ j = 4 ∨ j = 5 := by omega
    rcases this with rfl | rfl | rfl | rfl | rfl | rfl
    · exact ha
    · exact hb
    · exact hc
    · exact hd
    · exact he
    · exact hf
  unfold addr_ParseMAC.f
  rw [if_pos]
  · rw [(h 0 (by omega)).2, (h 1 (by omega)).2, (h 2 (by omega)).2, (h 3 (by omega)).2, (h 4 (by omega)).2, (h 5 (by omega)).2]
    rfl
  · refine ⟨by rw [txt_size]; simp [mac], ?_⟩
    unfold macAll
    rw [List.all_eq_true]
    intro j hj
    exact decide_eq_true (h j (List.mem_range.mp hj)).1
theorem format_mac {a b c d e f : Int} (ha : byteIn a) (hb : byteIn b) (hc : byteIn c) (hd : byteIn d) (he : byteIn e) (hf : byteIn f) :
    addr_FormatMAC.f a b c d e f = some (strOfNums (mac (macFn a b c d e f))) := by
  unfold addr_FormatMAC.f
  rw [if_pos ⟨ha, hb, hc, hd, he, hf⟩]
  rfl
/-- the text, small letters for capitals, is what FormatMAC writes of what was read -/
theorem mac_low {s : ByteArray} (hp : ∀ j, j < 6 → pok s j) {M : Nat → Int} (hM : ∀ j, j < 6 → M j = pv s j) (i : Nat) (hi : i < 17) :
    macByte M i = if 65 ≤ bt s (i : Int) ∧ bt s (i : Int) ≤ 70 then bt s (i : Int) + 32 else bt s (i : Int) := by
  have hj : i / 3 < 6 := by omega
  obtain ⟨p1, p2, p3⟩ := hp (i / 3) hj
  have hx : ∀ c : Int, 0 ≤ c ∧ c ≤ 255 → 0 ≤ hexD c → hexD c < 16 ∧ bt hexs (hexD c) = if 65 ≤ c ∧ c ≤ 70 then c + 32 else c := by
    intro c hc h
    obtain ⟨n, rfl⟩ : ∃ n : Nat, c = (n : Int) := ⟨c.toNat, by omega⟩
    exact hexD_all n (by omega) h
  obtain ⟨g1, g2⟩ := hx _ (bt_range s (3 * ((i / 3 : Nat) : Int))) p1
  obtain ⟨g3, g4⟩ := hx _ (bt_range s (3 * ((i / 3 : Nat) : Int) + 1)) p2
  have e : M (i / 3) = hexD (bt s (3 * ((i / 3 : Nat) : Int))) * 16 + hexD (bt s (3 * ((i / 3 : Nat) : Int) + 1)) := by
    rw [hM _ hj]
    unfold pv
    have := or_all (hexD (bt s (3 * ((i / 3 : Nat) : Int)))).toNat (by omega) (hexD (bt s (3 * ((i / 3 : Nat) : Int) + 1))).toNat (by omega)
    rwa [Int.toNat_of_nonneg p1, Int.toNat_of_nonneg p2] at this
  unfold macByte
  by_cases h0 : i % 3 = 0
  · rw [if_pos h0, e, show (hexD (bt s (3 * ((i / 3 : Nat) : Int))) * 16 + hexD (bt s (3 * ((i / 3 : Nat) : Int) + 1))) / 16 = hexD (bt s (3 * ((i / 3 : Nat) : Int))) from by omega, g2,
      show 3 * ((i / 3 : Nat) : Int) = (i : Int) from by omega]
  · rw [if_neg h0]
    by_cases h1 : i % 3 = 1
    · rw [if_pos h1, e, show (hexD (bt s (3 * ((i / 3 : Nat) : Int))) * 16 + hexD (bt s (3 * ((i / 3 : Nat) : Int) + 1))) % 16 = hexD (bt s (3 * ((i / 3 : Nat) : Int) + 1)) from by omega, g4,
        show 3 * ((i / 3 : Nat) : Int) + 1 = (i : Int) from by omega]
    · rw [if_neg h1]
      have := p3 (by omega)
      rw [show 3 * ((i / 3 : Nat) : Int) + 2 = (i : Int) from by omega] at this
      rw [this, if_neg (by omega)]
end Go.Proofs.YtncpcjphljfcpaaDoor.Txt
