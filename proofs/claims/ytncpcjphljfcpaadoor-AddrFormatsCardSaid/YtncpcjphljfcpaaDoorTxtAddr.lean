/- addr.Format and addr.Parse over texts: what Format writes, that Parse reads it back, and that what Parse reads is what Format writes. -/
import Derived.Test.YtncpcjphljfcpaaDoorTxtNum
namespace Go.Proofs.YtncpcjphljfcpaaDoor.Txt
open Go.RowKit Go.Proofs.YtncpcjphljfcpaaDoor.PPar Go.Proofs.YtncpcjphljfcpaaDoorW.PrintWords Go.Proofs.YtncpcjphljfcpaaDoorW.PrintLast Go.Proofs.YtncpcjphljfcpaaDoorW.PrintMore

/-- the further numbers, each behind its dot -/
def tail : List Nat → List Int
  | [] => []
  | d :: ds => 46 :: (dg d ++ tail ds)
def val (a : Int) : List Nat → Int
  | [] => a
  | d :: ds => val (a * 256 + d) ds
def sm (ds : List Nat) : Prop := ∀ d ∈ ds, d < 256
theorem sm_tail {d : Nat} {ds : List Nat} (h : sm (d :: ds)) : d < 256 ∧ sm ds := ⟨h d List.mem_cons_self, fun x hx => h x (List.mem_cons_of_mem _ hx)⟩
theorem by_tail : ∀ ds : List Nat, sm ds → By (tail ds) := by
  intro ds
  induction ds with
  | nil => intro _ x hx; cases hx
  | cons d ds ih =>
    intro h
    obtain ⟨h1, h2⟩ := sm_tail h
    show By ([46] ++ (dg d ++ tail ds))
    exact By.app (by intro x hx; simp at hx; omega) ((by_dg d (by omega)).app (ih h2))
theorem stop_tail (ds : List Nat) : Stop (tail ds) := by
  cases ds with
  | nil => exact stop_nil
  | cons d ds => exact stop_cons (by unfold isDg; omega)

theorem or_byte {a m : Int} (h0 : 0 ≤ a) (h1 : a < 16777216) (hm : 0 ≤ m) (hm2 : m ≤ 255) : Go.bits .or .u32 ((a * 256) % 4294967296) (m % 4294967296) = a * 256 + m := by
  rw [show (a * 256) % 4294967296 = a * 256 from by omega, show m % 4294967296 = m from by omega, Go.u32_or _ _ (by omega) (by omega) (by omega) (by omega),
    Go.nat_join 8 (a * 256).toNat m.toNat (by omega) (by omega)]
  omega
theorem and_byte {a : Int} (h0 : 0 ≤ a) (h1 : a < 4294967296) : Go.bits .and .u32 a 255 = a % 256 := by
  rw [Go.u32_and _ _ h0 h1 (by omega) (by omega)]
  have := Nat.and_two_pow_sub_one_eq_mod a.toNat 8
  rw [show ((255 : Int).toNat) = 2 ^ 8 - 1 from rfl, this]
  omega

/-- One round behind a dot, a number being read. -/
theorem parse_dot {L : List Int} {a m c i : Int} {r : Int × Int} (hL : By L) (hlen : L.length ≤ 1000000000000000000) (hi : 0 < i ∧ i < 4) (ha : 0 ≤ a ∧ a < 16777216) (hm : 0 ≤ m ∧ m ≤ 255)
    (hn : Ev (fun k => addr_number.f k (strOfNums L) 255) (m, c)) (hc : 0 < c ∧ c ≤ L.length)
    (hr : Ev (fun k => addr_Parse.l0 k (strOfNums (L.drop c.toNat)) (a * 256 + m) (i + 1)) r) :
    Ev (fun k => addr_Parse.l0 k (strOfNums (46 :: L)) a i) r := by
  have hB : By (46 :: L) := by
    intro x hx
    rcases List.mem_cons.mp hx with h | h
    · omega
    · exact hL x h
  have hb : bt (strOfNums (46 :: L)) 0 = 46 := by
    have := bt_txt hB 0 (by simp)
    simpa using this
  have hd : (strOfNums (46 :: L)).extract 1 (strOfNums (46 :: L)).size = strOfNums L := txt_drop (46 :: L) 1
  obtain ⟨K1, h1⟩ := hn; dsimp only at h1
  obtain ⟨K2, h2⟩ := hr; dsimp only at h2
  refine ⟨max K1 K2 + 2, fun k hk => ?_⟩
  obtain ⟨k, rfl⟩ : ∃ m, k = m + 2 := ⟨k - 2, by omega⟩
  have g1 := h1 k (by omega)
  have g2 := h2 k (by omega)
  have hs : (strOfNums (46 :: L)).size = L.length + 1 := by rw [txt_size]; rfl
  simp only [addr_Parse.l0]
  rw [if_pos hi.2, if_pos hi.1, if_neg (by rw [txt_nil_iff]; simp), if_pos (by omega), hb]
  simp only [addr_Parse.j1]
  rw [if_neg (by decide), if_pos (by omega), hd, g1, Option.bind_some]
  dsimp only
  rw [if_neg (by omega), if_pos (by omega), if_pos (by rw [txt_size]; omega), or_byte ha.1 ha.2 hm.1 hm.2, w64 (by omega) (by omega), txt_drop]
  exact g2
/-- No dot, or no number behind it. -/
theorem parse_nodot {L : List Int} {a i : Int} (hL : By L) (hlen : L.length ≤ 1000000000000000000) (hi : 0 < i ∧ i < 4) (h : ∀ r, L ≠ 46 :: r) :
    Ev (fun k => addr_Parse.l0 k (strOfNums L) a i) (0, 10) := by
  refine ⟨2, fun k hk => ?_⟩
  obtain ⟨k, rfl⟩ : ∃ m, k = m + 2 := ⟨k - 2, by omega⟩
  simp only [addr_Parse.l0]
  rw [if_pos hi.2, if_pos hi.1]
  cases L with
  | nil =>
    rw [if_pos (by rw [txt_nil_iff])]
    simp only [addr_Parse.j1]
    rw [if_pos trivial]
  | cons x L =>
    have hb : bt (strOfNums (x :: L)) 0 = x := by
      have := bt_txt hL 0 (by simp)
      simpa using this
    have hx : x ≠ 46 := fun e => h L (by rw [e])
    have hs : (strOfNums (x :: L)).size = L.length + 1 := by rw [txt_size]; rfl
    rw [if_neg (by rw [txt_nil_iff]; simp), if_pos (by omega), hb, show (x != 46) = true from by simpa using hx]
    simp only [addr_Parse.j1]
    rw [if_pos trivial]
theorem parse_nonum {L : List Int} {a i : Int} (hL : By L) (hlen : L.length ≤ 1000000000000000000) (hi : 0 < i ∧ i < 4)
    (hn : Ev (fun k => addr_number.f k (strOfNums L) 255) (0, 0)) :
    Ev (fun k => addr_Parse.l0 k (strOfNums (46 :: L)) a i) (0, 10) := by
  have hB : By (46 :: L) := by
    intro x hx
    rcases List.mem_cons.mp hx with h | h
    · omega
    · exact hL x h
  have hb : bt (strOfNums (46 :: L)) 0 = 46 := by
    have := bt_txt hB 0 (by simp)
    simpa using this
  have hd : (strOfNums (46 :: L)).extract 1 (strOfNums (46 :: L)).size = strOfNums L := txt_drop (46 :: L) 1
  obtain ⟨K1, h1⟩ := hn; dsimp only at h1
  refine ⟨K1 + 2, fun k hk => ?_⟩
  obtain ⟨k, rfl⟩ : ∃ m, k = m + 2 := ⟨k - 2, by omega⟩
  have g1 := h1 k (by omega)
  have hs : (strOfNums (46 :: L)).size = L.length + 1 := by rw [txt_size]; rfl
  simp only [addr_Parse.l0]
  rw [if_pos hi.2, if_pos hi.1, if_neg (by rw [txt_nil_iff]; simp), if_pos (by omega), hb]
  simp only [addr_Parse.j1]
  rw [if_neg (by decide), if_pos (by omega), hd, g1, Option.bind_some]
  dsimp only
  rw [if_pos rfl]
/-- the first round -/
theorem parse_first {L : List Int} {m c : Int} {r : Int × Int} (hm : 0 ≤ m ∧ m ≤ 255)
    (hn : Ev (fun k => addr_number.f k (strOfNums L) 255) (m, c)) (hc : 0 < c ∧ c ≤ L.length)
    (hr : Ev (fun k => addr_Parse.l0 k (strOfNums (L.drop c.toNat)) m 1) r) :
    Ev (fun k => addr_Parse.f k (strOfNums L)) r := by
  obtain ⟨K1, h1⟩ := hn; dsimp only at h1
  obtain ⟨K2, h2⟩ := hr; dsimp only at h2
  refine ⟨max K1 K2 + 1, fun k hk => ?_⟩
  obtain ⟨k, rfl⟩ : ∃ m, k = m + 1 := ⟨k - 1, by omega⟩
  have g1 := h1 k (by omega)
  have g2 := h2 k (by omega)
  unfold addr_Parse.f
  simp only [addr_Parse.l0]
  rw [if_pos (by omega), if_neg (by omega), g1, Option.bind_some]
  dsimp only
  rw [if_neg (by omega), if_pos (by omega), if_pos (by rw [txt_size]; omega), or_byte (by omega) (by omega) hm.1 hm.2, w64 (by omega) (by omega), txt_drop]
  simpa using g2
theorem parse_none {L : List Int} (hn : Ev (fun k => addr_number.f k (strOfNums L) 255) (0, 0)) : Ev (fun k => addr_Parse.f k (strOfNums L)) (0, 10) := by
  obtain ⟨K1, h1⟩ := hn; dsimp only at h1
  refine ⟨K1 + 1, fun k hk => ?_⟩
  obtain ⟨k, rfl⟩ : ∃ m, k = m + 1 := ⟨k - 1, by omega⟩
  have g1 := h1 k (by omega)
  unfold addr_Parse.f
  simp only [addr_Parse.l0]
  rw [if_pos (by omega), if_neg (by omega), g1, Option.bind_some]
  dsimp only
  rw [if_pos rfl]
/-- the end -/
theorem parse_end (L : List Int) (a : Int) : Ev (fun k => addr_Parse.l0 k (strOfNums L) a 4) (if L = [] then (a, 0) else (0, 10)) := by
  refine ⟨1, fun k hk => ?_⟩
  obtain ⟨k, rfl⟩ : ∃ m, k = m + 1 := ⟨k - 1, by omega⟩
  simp only [addr_Parse.l0]
  rw [if_neg (by omega)]
  by_cases h : L = []
  · rw [if_pos ((txt_nil_iff L).mpr h), if_pos h]
  · rw [if_neg (fun e => h ((txt_nil_iff L).mp e)), if_neg h]

/-- What addr.Parse reads behind the first number. -/
theorem parse_rest : ∀ (j : Nat) (i : Int), 0 < i → i + j = 4 → ∀ (L : List Int) (a : Int), By L → L.length ≤ 1000000000000000000 → 0 ≤ a → a < 256 ^ i.toNat →
    ∃ r, Ev (fun k => addr_Parse.l0 k (strOfNums L) a i) r ∧ (r = (0, 10) ∨ ∃ ds : List Nat, sm ds ∧ ds.length = j ∧ L = tail ds ∧ r = (val a ds, 0)) := by
  intro j
  induction j with
  | zero =>
    intro i hi hij L a hL hlen ha ha2
    obtain rfl : i = 4 := by omega
    refine ⟨_, parse_end L a, ?_⟩
    by_cases h : L = []
    · rw [if_pos h]; exact .inr ⟨[], (by intro d hd; cases hd), rfl, h, rfl⟩
    · rw [if_neg h]; exact .inl rfl
  | succ j ih =>
    intro i hi hij L a hL hlen ha ha2
    have ha3 : a < 16777216 := by
      rcases (show i = 1 ∨ i = 2 ∨ i = 3 by omega) with rfl | rfl | rfl
      · have : a < 256 := ha2; omega
      · have : a < 65536 := ha2; omega
      · exact ha2
    by_cases hd : ∃ r, L = 46 :: r
    · obtain ⟨L, rfl⟩ := hd
      have hL' : By L := fun x hx => hL x (List.mem_cons_of_mem _ hx)
      have hlen' : L.length ≤ 1000000000000000000 := by simp at hlen; omega
      obtain ⟨m, c, hn, hcase⟩ := num_all (top := 255) hL' (by omega)
      rcases hcase with ⟨rfl, rfl⟩ | ⟨D, R, rfl, hD, rfl, hm0, hm1, hs⟩
      · exact ⟨_, parse_nonum hL' hlen' (by omega) hn, .inl rfl⟩
      · have hDl := dg_len m.toNat
        rw [← hD] at hDl
        have e : (D ++ R).drop ((D.length : Int)).toNat = R := by simp
        obtain ⟨r, hr, hrc⟩ := ih (i + 1) (by omega) (by omega) R (a * 256 + m) hL'.right (by simp at hlen'; omega) (by omega) (by
          rw [show (i + 1).toNat = i.toNat + 1 from by omega, Int.pow_succ]; omega)
        refine ⟨r, parse_dot hL' hlen' (by omega) (by omega) (by omega) hn (by simp; omega) (by rw [e]; exact hr), ?_⟩
        rcases hrc with hrc | ⟨ds, h1, h2, h3, h4⟩
        · exact .inl hrc
        · refine .inr ⟨m.toNat :: ds, ?_, by simp [h2], ?_, ?_⟩
          · intro d hd
            rcases List.mem_cons.mp hd with h | h
            · omega
            · exact h1 d h
          · rw [h3, hD]; rfl
          · rw [h4]; show _ = (val (a * 256 + (m.toNat : Int)) ds, _); rw [Int.toNat_of_nonneg hm0]
    · exact ⟨_, parse_nodot hL hlen (by omega) (fun r h => hd ⟨r, h⟩), .inl rfl⟩
/-- The text of four numbers. -/
def quad (d : Nat) (ds : List Nat) : List Int := dg d ++ tail ds
theorem by_quad {d : Nat} {ds : List Nat} (h : d < 256) (hs : sm ds) : By (quad d ds) := (by_dg d (by omega)).app (by_tail ds hs)
/-- What addr.Parse makes of any text. -/
theorem parse_all {L : List Int} (hL : By L) (hlen : L.length ≤ 1000000000000000000) :
    ∃ r, Ev (fun k => addr_Parse.f k (strOfNums L)) r ∧ (r = (0, 10) ∨ ∃ (d : Nat) (ds : List Nat), d < 256 ∧ sm ds ∧ ds.length = 3 ∧ L = quad d ds ∧ r = (val d ds, 0)) := by
  obtain ⟨m, c, hn, hcase⟩ := num_all (top := 255) hL (by omega)
  rcases hcase with ⟨rfl, rfl⟩ | ⟨D, R, rfl, hD, rfl, hm0, hm1, hs⟩
  · exact ⟨_, parse_none hn, .inl rfl⟩
  · have hDl := dg_len m.toNat
    rw [← hD] at hDl
    have e : (D ++ R).drop ((D.length : Int)).toNat = R := by simp
    obtain ⟨r, hr, hrc⟩ := parse_rest 3 1 (by omega) (by omega) R m hL.right (by simp at hlen; omega) hm0 (by show m < 256; omega)
    refine ⟨r, parse_first (by omega) hn (by simp; omega) (by rw [e]; exact hr), ?_⟩
    rcases hrc with hrc | ⟨ds, h1, h2, h3, h4⟩
    · exact .inl hrc
    · refine .inr ⟨m.toNat, ds, by omega, h1, h2, by rw [h3, hD]; rfl, ?_⟩
      rw [h4, Int.toNat_of_nonneg hm0]
/-- A text of four numbers is read. -/
theorem parse_tail : ∀ (ds : List Nat) (i a : Int), 0 < i → i + ds.length = 4 → sm ds → 0 ≤ a → a < 256 ^ i.toNat → Ev (fun k => addr_Parse.l0 k (strOfNums (tail ds)) a i) (val a ds, 0) := by
  intro ds
  induction ds with
  | nil =>
    intro i a hi hl hs h0 h1
    obtain rfl : i = 4 := by simpa using hl
    have := parse_end [] a
    rwa [if_pos rfl] at this
  | cons d ds ih =>
    intro i a hi hl hs h0 h1
    obtain ⟨hs1, hs2⟩ := sm_tail hs
    have ha3 : a < 16777216 := by
      rcases (show i = 1 ∨ i = 2 ∨ i = 3 by simp at hl; omega) with rfl | rfl | rfl
      · have : a < 256 := h1; omega
      · have : a < 65536 := h1; omega
      · exact h1
    have hb := by_tail ds hs2
    have hl' : i + ((ds.length : Int) + 1) = 4 := by simpa using hl
    have hlen : ∀ es : List Nat, (tail es).length ≤ 4 * es.length := by
      intro es
      induction es with
      | nil => simp [tail]
      | cons e es ih => simp only [tail, List.length_cons, List.length_append]; have := dg_len e; omega
    have hln := hlen ds
    have hdl := dg_len d
    refine parse_dot (L := dg d ++ tail ds) (m := d) (c := ((dg d).length : Nat)) ((by_dg d (by omega)).app hb) (by simp; omega) (by omega) ⟨h0, ha3⟩ (by omega)
      (num_dg (R := tail ds) (top := 255) hb (stop_tail ds) (by omega) (by omega)) (by simp; omega) ?_
    have e : (dg d ++ tail ds).drop (((dg d).length : Nat) : Int).toNat = tail ds := by simp
    rw [e]
    exact ih (i + 1) (a * 256 + d) (by omega) (by omega) hs2 (by omega) (by
          rw [show (i + 1).toNat = i.toNat + 1 from by omega, Int.pow_succ]; omega)
theorem parse_quad {d : Nat} {ds : List Nat} (h : d < 256) (hs : sm ds) (hl : ds.length = 3) : Ev (fun k => addr_Parse.f k (strOfNums (quad d ds))) (val d ds, 0) := by
  have hdl := dg_len d
  refine parse_first (m := d) (c := ((dg d).length : Nat)) (by omega) (num_dg (by_tail ds hs) (stop_tail ds) (by omega) (by omega)) (by simp [quad]; omega) ?_
  have e : (quad d ds).drop (((dg d).length : Nat) : Int).toNat = tail ds := by simp [quad]
  rw [e]
  exact parse_tail ds 1 d (by omega) (by omega) hs (by omega) (by show (d : Int) < 256; omega)

/-! Format. -/
/-- the bytes of an address, from the one named on -/
def byteOf (a : Int) (i : Nat) : Nat := (a / 2 ^ (24 - 8 * i) % 256).toNat
theorem byteOf_lt (a : Int) (i : Nat) : byteOf a i < 256 := by unfold byteOf; omega
theorem fmt_first {a : Int} {r : ByteArray} (h0 : 0 ≤ a) (h1 : a < 4294967296)
    (hr : Ev (fun k => addr_Format.l0 k a (strOfNums (dg (byteOf a 0))) 1) r) : Ev (fun k => addr_Format.f k a) r := by
  have hx : shr .u32 a 24 = a / 16777216 := rfl
  have hd := digits_ev (n := a / 16777216) (by omega) (by omega)
  obtain ⟨K1, h1'⟩ := hd; dsimp only at h1'
  obtain ⟨K2, h2'⟩ := hr; dsimp only at h2'
  refine ⟨max K1 K2 + 1, fun k hk => ?_⟩
  obtain ⟨k, rfl⟩ : ∃ m, k = m + 1 := ⟨k - 1, by omega⟩
  have g1 := h1' k (by omega)
  have g2 := h2' k (by omega)
  unfold addr_Format.f
  simp only [addr_Format.l0]
  have hl := dg_len (a / 16777216).toNat
  rw [if_pos (by omega), if_neg (by omega), show wrap64 (24 - wrap64 (8 * 0)) = 24 from by unfold wrap64; omega, if_pos (by omega), hx, and_byte (by omega) (by omega), w64 (by omega) (by omega),
    show a / 16777216 % 256 = a / 16777216 from by omega, g1, Option.bind_some, if_pos (by rw [txt_size]; show 0 + _ ≤ _; omega), w64 (by omega) (by omega)]
  have e : (⟨#[]⟩ : ByteArray) ++ strOfNums (dg (a / 16777216).toNat) = strOfNums (dg (byteOf a 0)) := by
    show strOfNums [] ++ _ = _
    rw [txt_app]
    unfold byteOf
    rw [List.nil_append, show a / 2 ^ (24 - 8 * 0) % 256 = a / 16777216 from by show a / 16777216 % 256 = _; omega]
  rw [e]
  exact g2
theorem fmt_step {a : Int} {i : Nat} {T : List Int} {r : ByteArray} (h0 : 0 ≤ a) (h1 : a < 4294967296) (hi : 0 < i ∧ i < 4) (hT : T.length ≤ 1000)
    (hr : Ev (fun k => addr_Format.l0 k a (strOfNums (T ++ 46 :: dg (byteOf a i))) ((i + 1 : Nat) : Int)) r) : Ev (fun k => addr_Format.l0 k a (strOfNums T) (i : Int)) r := by
  have hd := digits_ev (n := (byteOf a i : Int)) (by omega) (by have := byteOf_lt a i; omega)
  obtain ⟨K1, h1'⟩ := hd; dsimp only at h1'
  obtain ⟨K2, h2'⟩ := hr; dsimp only at h2'
  refine ⟨max K1 K2 + 1, fun k hk => ?_⟩
  obtain ⟨k, rfl⟩ : ∃ m, k = m + 1 := ⟨k - 1, by omega⟩
  have g1 := h1' k (by omega)
  have g2 := h2' k (by omega)
  have hb : 0 ≤ a / 2 ^ (24 - 8 * i) ∧ a / 2 ^ (24 - 8 * i) < 4294967296 := by
    have : i = 1 ∨ i = 2 ∨ i = 3 := by omega
    rcases this with rfl | rfl | rfl
    · show 0 ≤ a / 65536 ∧ a / 65536 < _; omega
    · show 0 ≤ a / 256 ∧ a / 256 < _; omega
    · show 0 ≤ a / 1 ∧ a / 1 < _; omega
  have e2 : shr .u32 a (24 - 8 * (i : Int)) = a / 2 ^ (24 - 8 * i) := by
    have : i = 1 ∨ i = 2 ∨ i = 3 := by omega
    rcases this with rfl | rfl | rfl <;> rfl
  have e3 : wrap64 (a / 2 ^ (24 - 8 * i) % 256) = (byteOf a i : Int) := by
    unfold byteOf
    rw [w64 (by omega) (by omega), Int.toNat_of_nonneg (by omega)]
  simp only [addr_Format.l0]
  have hl := dg_len (byteOf a i)
  rw [if_pos (by omega), if_pos (by omega), if_pos (by rw [txt_size]; omega), w64 (n := 8 * (i : Int)) (by omega) (by omega), w64 (n := 24 - 8 * (i : Int)) (by omega) (by omega),
    if_pos (by omega), e2, and_byte hb.1 hb.2, e3, g1, Option.bind_some]
  have e : strOfNums T ++ (⟨#[46]⟩ : ByteArray) ++ strOfNums (dg ((byteOf a i : Int)).toNat) = strOfNums (T ++ 46 :: dg (byteOf a i)) := by
    rw [show (⟨#[46]⟩ : ByteArray) = strOfNums [46] from by decide, txt_app, txt_app, Int.toNat_natCast, List.append_assoc, List.singleton_append]
  rw [e, if_pos (by rw [show (⟨#[46]⟩ : ByteArray) = strOfNums [46] from by decide, txt_app, txt_size, txt_size, Int.toNat_natCast]; simp; omega), w64 (by omega) (by omega),
    show (i : Int) + 1 = ((i + 1 : Nat) : Int) from by omega]
  exact g2
def fmt (a : Int) : List Int := quad (byteOf a 0) [byteOf a 1, byteOf a 2, byteOf a 3]
theorem format_ev {a : Int} (h0 : 0 ≤ a) (h1 : a < 4294967296) : Ev (fun k => addr_Format.f k a) (strOfNums (fmt a)) := by
  have l0 := dg_len (byteOf a 0)
  have l1 := dg_len (byteOf a 1)
  have l2 := dg_len (byteOf a 2)
  have l3 := dg_len (byteOf a 3)
  refine fmt_first h0 h1 (fmt_step (i := 1) h0 h1 (by omega) (by omega) (fmt_step (i := 2) h0 h1 (by omega) (by simp; omega) (fmt_step (i := 3) h0 h1 (by omega) (by simp; omega) ?_)))
  refine ⟨1, fun k hk => ?_⟩
  obtain ⟨k, rfl⟩ : ∃ m, k = m + 1 := ⟨k - 1, by omega⟩
  simp only [addr_Format.l0]
  rw [if_neg (by omega)]
  simp [fmt, quad, tail]
theorem val_fmt {a : Int} (h0 : 0 ≤ a) (h1 : a < 4294967296) : val (byteOf a 0) [byteOf a 1, byteOf a 2, byteOf a 3] = a := by
  simp only [val, byteOf]
  have e0 : a / 2 ^ (24 - 8 * 0) = a / 16777216 := rfl
  have e1 : a / 2 ^ (24 - 8 * 1) = a / 65536 := rfl
  have e2 : a / 2 ^ (24 - 8 * 2) = a / 256 := rfl
  have e3 : a / 2 ^ (24 - 8 * 3) = a / 1 := rfl
  rw [e0, e1, e2, e3]
  omega
theorem fmt_val {d : Nat} {ds : List Nat} (h : d < 256) (hs : sm ds) (hl : ds.length = 3) : 0 ≤ val d ds ∧ val d ds < 4294967296 ∧ fmt (val d ds) = quad d ds := by
  obtain ⟨x, y, z, rfl⟩ : ∃ x y z, ds = [x, y, z] := by
    match ds, hl with
    | [x, y, z], _ => exact ⟨x, y, z, rfl⟩
  have hx := hs x (by simp)
  have hy := hs y (by simp)
  have hz := hs z (by simp)
  have e : val d [x, y, z] = ((d : Int) * 256 + x) * 256 * 256 + y * 256 + z := by simp only [val]; omega
  refine ⟨by omega, by omega, ?_⟩
  unfold fmt
  have e0 : ∀ a : Int, a / 2 ^ (24 - 8 * 0) = a / 16777216 := fun _ => rfl
  have e1 : ∀ a : Int, a / 2 ^ (24 - 8 * 1) = a / 65536 := fun _ => rfl
  have e2 : ∀ a : Int, a / 2 ^ (24 - 8 * 2) = a / 256 := fun _ => rfl
  have e3 : ∀ a : Int, a / 2 ^ (24 - 8 * 3) = a / 1 := fun _ => rfl
  have b0 : byteOf (val d [x, y, z]) 0 = d := by unfold byteOf; rw [e0, e]; omega
  have b1 : byteOf (val d [x, y, z]) 1 = x := by unfold byteOf; rw [e1, e]; omega
  have b2 : byteOf (val d [x, y, z]) 2 = y := by unfold byteOf; rw [e2, e]; omega
  have b3 : byteOf (val d [x, y, z]) 3 = z := by unfold byteOf; rw [e3, e]; omega
  rw [b0, b1, b2, b3]
/-- Parse reads back what Format wrote. -/
theorem parse_fmt {a : Int} (h0 : 0 ≤ a) (h1 : a < 4294967296) : Ev (fun k => addr_Parse.f k (strOfNums (fmt a))) (a, 0) := by
  have := parse_quad (d := byteOf a 0) (ds := [byteOf a 1, byteOf a 2, byteOf a 3]) (byteOf_lt a 0) (by intro d hd; simp at hd; rcases hd with h | h | h <;> subst h <;> exact byteOf_lt _ _) rfl
  rwa [val_fmt h0 h1] at this
theorem by_fmt (a : Int) : By (fmt a) := by_quad (byteOf_lt a 0) (by intro d hd; simp at hd; rcases hd with h | h | h <;> subst h <;> exact byteOf_lt _ _)
/-- What Parse reads is what Format writes. -/
theorem parse_back {L : List Int} (hL : By L) (hlen : L.length ≤ 1000000000000000000) :
    ∃ r, Ev (fun k => addr_Parse.f k (strOfNums L)) r ∧ (r = (0, 10) ∨ ∃ a : Int, 0 ≤ a ∧ a < 4294967296 ∧ L = fmt a ∧ r = (a, 0)) := by
  obtain ⟨r, h, hc⟩ := parse_all hL hlen
  refine ⟨r, h, ?_⟩
  rcases hc with hc | ⟨d, ds, h1, h2, h3, h4, h5⟩
  · exact .inl hc
  · obtain ⟨g0, g1, g2⟩ := fmt_val h1 h2 h3
    exact .inr ⟨val d ds, g0, g1, by rw [g2, h4], h5⟩
end Go.Proofs.YtncpcjphljfcpaaDoor.Txt
