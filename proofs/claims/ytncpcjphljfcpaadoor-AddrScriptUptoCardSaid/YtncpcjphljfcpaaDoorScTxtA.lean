/- Texts as rows of byte numbers: what a text holds at a place, its cuts and joins; the decimal form of a number under 256, that addr.digits writes it and that addr.number reads it. No condition beyond what each law names. addr.Format and addr.Parse over texts: what Format writes, that Parse reads it back, and that what Parse reads is what Format writes. addr.FormatPrefix, addr.ParsePrefix, addr.FormatMAC and addr.ParseMAC over texts, both ways. -/
import Derived.Test.YtncpcjphljfcpaaDoorPScrx
import Derived.Laws.BitsAllLaws
import Derived.Lib.LazyBuf
namespace Go.Proofs.YtncpcjphljfcpaaDoor.Txt
open Go.RowKit Go.Proofs.YtncpcjphljfcpaaDoor.PScr Go.Proofs.YtncpcjphljfcpaaDoorW.PrintWords Go.Proofs.YtncpcjphljfcpaaDoorW.PrintLast Go.Proofs.YtncpcjphljfcpaaDoorW.PrintMore

theorem w64 {n : Int} (h0 : -9223372036854775808 ≤ n) (h1 : n ≤ 9223372036854775807) : wrap64 n = n := by
  unfold wrap64; omega

/-- all are bytes -/
def By (L : List Int) : Prop := ∀ x ∈ L, 0 ≤ x ∧ x < 256
theorem By.app {a b : List Int} (ha : By a) (hb : By b) : By (a ++ b) := by
  intro x hx
  rcases List.mem_append.mp hx with h | h
  · exact ha x h
  · exact hb x h
theorem By.left {a b : List Int} (h : By (a ++ b)) : By a := fun x hx => h x (List.mem_append.mpr (.inl hx))
theorem By.right {a b : List Int} (h : By (a ++ b)) : By b := fun x hx => h x (List.mem_append.mpr (.inr hx))

theorem txt_of (s : ByteArray) : ∃ L, By L ∧ s = strOfNums L := by
  refine ⟨s.data.toList.map fun b => (b.toNat : Int), ?_, ?_⟩
  · intro x hx
    obtain ⟨b, _, rfl⟩ := List.mem_map.mp hx
    have := b.toNat_lt
    omega
  · apply ByteArray.ext
    apply Array.toList_inj.mp
    rw [strOfNums_data, List.map_map]
    conv => lhs; rw [← List.map_id s.data.toList]
    apply List.map_congr_left
    intro b _
    simp
theorem txt_size (L : List Int) : (strOfNums L).size = L.length := strOfNums_size L
theorem byte_back {x : Int} (h0 : 0 ≤ x) (h1 : x < 256) : ((UInt8.ofNat x.toNat).toNat : Int) = x := by
  rw [UInt8.toNat_ofNat']; omega
theorem bt_txt {L : List Int} (hL : By L) (i : Nat) (hi : i < L.length) : bt (strOfNums L) (i : Int) = L[i] := by
  unfold bt
  have hs : (i : Int).toNat < (strOfNums L).size := by rw [txt_size]; simpa using hi
  rw [dif_pos hs]
  have e : (strOfNums L)[(i : Int).toNat]'hs = UInt8.ofNat (L[i]).toNat := by
    show (strOfNums L).data[(i : Int).toNat]'_ = _
    simp [strOfNums]
  rw [e]
  have := hL L[i] (List.getElem_mem hi)
  exact byte_back this.1 this.2
theorem bt_app {a b : List Int} (h : By (a ++ b)) {x : Int} {c : List Int} (hb : b = x :: c) : bt (strOfNums (a ++ b)) (a.length : Int) = x := by
  subst hb
  rw [bt_txt h a.length (by simp)]
  simp
theorem txt_app (a b : List Int) : strOfNums a ++ strOfNums b = strOfNums (a ++ b) := by
  apply ByteArray.ext
  simp [strOfNums, ByteArray.data_append]
theorem txt_toList (L : List Int) : (strOfNums L).toList = L.map fun n => UInt8.ofNat n.toNat := by
  exact Go.Lib.strOfNums_toList L
theorem txt_inj {a b : List Int} (ha : By a) (hb : By b) (h : strOfNums a = strOfNums b) : a = b := by
  have h1 := congrArg (fun s : ByteArray => s.data.toList.map fun b => (b.toNat : Int)) h
  simp only [strOfNums_data, List.map_map] at h1
  have e : ∀ L : List Int, By L → L.map ((fun b : UInt8 => (b.toNat : Int)) ∘ fun n : Int => UInt8.ofNat n.toNat) = L := by
    intro L hL
    induction L with
    | nil => rfl
    | cons x r ih =>
      rw [List.map_cons, ih fun y hy => hL y (List.mem_cons_of_mem _ hy)]
      have := hL x List.mem_cons_self
      simp only [Function.comp]
      rw [byte_back this.1 this.2]
  rwa [e a ha, e b hb] at h1
theorem txt_cut (L : List Int) (a b : Nat) : (strOfNums L).extract a b = strOfNums ((L.take b).drop a) := by
  apply ByteArray.ext
  simp [strOfNums, ByteArray.data_extract, List.drop_take]
theorem txt_drop (L : List Int) (a : Nat) : (strOfNums L).extract a (strOfNums L).size = strOfNums (L.drop a) := by
  rw [txt_cut, txt_size, List.take_length]
theorem txt_nil_iff (L : List Int) : (strOfNums L).toList = ([] : List UInt8) ↔ L = [] := by
  rw [txt_toList]; simp

/-! The decimal form. -/
/-- the decimal form of a number under 1000 -/
def dg (n : Nat) : List Int :=
  if n < 10 then [48 + (n : Int)] else if n < 100 then [48 + (n : Int) / 10, 48 + (n : Int) % 10] else [48 + (n : Int) / 100, 48 + (n : Int) / 10 % 10, 48 + (n : Int) % 10]
def isDg (x : Int) : Prop := 48 ≤ x ∧ x ≤ 57
instance (x : Int) : Decidable (isDg x) := by unfold isDg; exact inferInstance
theorem dg_dg (n : Nat) (h : n < 1000) : ∀ x ∈ dg n, isDg x := by
  unfold dg isDg
  intro x hx
  split at hx
  · simp only [List.mem_singleton] at hx; omega
  · split at hx
    · simp only [List.mem_cons, List.not_mem_nil, or_false] at hx; omega
    · simp only [List.mem_cons, List.not_mem_nil, or_false] at hx; omega
theorem by_dg (n : Nat) (h : n < 1000) : By (dg n) := fun x hx => by have := dg_dg n h x hx; unfold isDg at this; omega
theorem digits_all : ∀ n : Nat, n < 256 → addr_digits.f 4 (n : Int) = some (strOfNums (dg n)) := by decide +kernel
theorem digits_ev {n : Int} (h0 : 0 ≤ n) (h1 : n < 256) : Ev (fun k => addr_digits.f k n) (strOfNums (dg n.toNat)) := by
  refine Ev.of (addr_digits.mono n) (k := 4) ?_
  have := digits_all n.toNat (by omega)
  rwa [Int.toNat_of_nonneg h0] at this
theorem dg_len (n : Nat) : 1 ≤ (dg n).length ∧ (dg n).length ≤ 3 := by
  unfold dg; split
  · simp
  · split <;> simp

/-- the text ends here, or goes on with no digit -/
def Stop (R : List Int) : Prop := ∀ x r, R = x :: r → ¬ isDg x
theorem stop_nil : Stop [] := by intro x r h; cases h
theorem stop_cons {x : Int} {r : List Int} (h : ¬ isDg x) : Stop (x :: r) := by
  intro y s e; cases e; exact h

/-- One round that reads a digit. -/
theorem num_step {k : Nat} {D R : List Int} {x top n : Int} (hb : By (D ++ x :: R)) (hx : isDg x) (hn : 0 ≤ n ∧ n ≤ 1000) (ht : n * 10 + (x - 48) ≤ top) (hlen : D.length ≤ 1000)
    (h0 : ∀ y d, D = y :: d → y ≠ 48) :
    addr_number.l0 (k + 2) (strOfNums (D ++ x :: R)) top n D.length = addr_number.l0 k (strOfNums (D ++ x :: R)) top (n * 10 + (x - 48)) ((D ++ [x]).length : Nat) := by
  have hat := bt_app hb rfl
  obtain ⟨hx0, hx1⟩ := hx
  simp only [addr_number.l0]
  rw [hat, if_pos (by rw [txt_size]; simp; omega), if_pos (by omega), if_pos (by omega), decide_eq_true hx1]
  simp only [addr_number.j1]
  rw [if_pos trivial, if_pos (by omega), if_pos (by rw [txt_size]; simp; omega), hat, show (x - 48) % 256 = x - 48 from by omega, w64 (n := n * 10) (by omega) (by omega),
    w64 (n := n * 10 + (x - 48)) (by omega) (by omega), if_neg (by omega), w64 (n := (D.length : Int) + 1) (by omega) (by omega),
    show (((D ++ [x]).length : Nat) : Int) = (D.length : Int) + 1 from by simp]
  by_cases h1 : (D.length : Int) + 1 > 1
  · rw [if_pos h1, if_pos (by rw [txt_size]; simp; omega)]
    obtain ⟨y, d, rfl⟩ : ∃ y d, D = y :: d := by
      cases D with
      | nil => simp at h1
      | cons y d => exact ⟨y, d, rfl⟩
    have e0 : bt (strOfNums (y :: d ++ x :: R)) 0 = y := by
      have := bt_txt hb 0 (by simp)
      simpa using this
    rw [e0, if_neg (h0 y d rfl)]
  · rw [if_neg h1]
/-- The last round. -/
theorem num_stop {k : Nat} {D R : List Int} {top n : Int} (hb : By (D ++ R)) (hR : Stop R) :
    addr_number.l0 (k + 2) (strOfNums (D ++ R)) top n D.length = some (n, (D.length : Int)) := by
  simp only [addr_number.l0]
  cases R with
  | nil =>
    rw [if_neg (by rw [txt_size]; simp)]
    simp only [addr_number.j1]
    rw [if_neg (by decide)]
  | cons x R =>
    have hat := bt_app hb rfl
    rw [if_pos (by rw [txt_size]; simp; omega), if_pos (by omega), hat]
    have hx := hR x R rfl
    unfold isDg at hx
    by_cases h : x ≥ 48
    · rw [if_pos h, decide_eq_false (by omega)]
      simp only [addr_number.j1]
      rw [if_neg (by decide)]
    · rw [if_neg h]
      simp only [addr_number.j1]
      rw [if_neg (by decide)]
/-- A round that gives up: the number is too large, or a second digit follows a 0. -/
theorem num_fail {k : Nat} {D R : List Int} {x top n : Int} (hb : By (D ++ x :: R)) (hx : isDg x) (hn : 0 ≤ n ∧ n ≤ 1000) (hlen : D.length ≤ 1000)
    (hf : top < n * 10 + (x - 48) ∨ ∃ d, D = 48 :: d) :
    addr_number.l0 (k + 2) (strOfNums (D ++ x :: R)) top n D.length = some (0, 0) := by
  have hat := bt_app hb rfl
  obtain ⟨hx0, hx1⟩ := hx
  simp only [addr_number.l0]
  rw [hat, if_pos (by rw [txt_size]; simp; omega), if_pos (by omega), if_pos (by omega), decide_eq_true hx1]
  simp only [addr_number.j1]
  rw [if_pos trivial, if_pos (by omega), if_pos (by rw [txt_size]; simp; omega), hat, show (x - 48) % 256 = x - 48 from by omega, w64 (n := n * 10) (by omega) (by omega),
    w64 (n := n * 10 + (x - 48)) (by omega) (by omega)]
  by_cases h : n * 10 + (x - 48) > top
  · rw [if_pos h]
  · rw [if_neg h]
    obtain ⟨d, rfl⟩ : ∃ d, D = 48 :: d := by
      rcases hf with hf | hf
      · omega
      · exact hf
    rw [w64 (n := ((48 :: d : List Int).length : Int) + 1) (by omega) (by omega), if_pos (by simp; omega), if_pos (by rw [txt_size]; simp; omega)]
    have e0 : bt (strOfNums (48 :: d ++ x :: R)) 0 = 48 := by
      have := bt_txt hb 0 (by simp)
      simpa using this
    rw [e0, if_pos rfl]

/-- what a decimal form of at most three digits is -/
theorem dg_one : ∀ a : Nat, a < 10 → dg a = [48 + (a : Int)] := by decide +kernel
theorem dg_two : ∀ a : Nat, a < 10 → a ≠ 0 → ∀ b : Nat, b < 10 → dg (a * 10 + b) = [48 + (a : Int), 48 + (b : Int)] := by decide +kernel
theorem dg_three : ∀ a : Nat, a < 10 → a ≠ 0 → ∀ b : Nat, b < 10 → ∀ c : Nat, c < 10 → dg ((a * 10 + b) * 10 + c) = [48 + (a : Int), 48 + (b : Int), 48 + (c : Int)] := by decide +kernel

/-- What addr.number reads: nothing, or a decimal form and no more. -/
theorem num_all {L : List Int} {top : Int} (hb : By L) (ht : 0 ≤ top ∧ top ≤ 255) :
    ∃ m c, Ev (fun k => addr_number.f k (strOfNums L) top) (m, c) ∧ ((m = 0 ∧ c = 0) ∨ (∃ D R, L = D ++ R ∧ D = dg m.toNat ∧ c = (D.length : Int) ∧ 0 ≤ m ∧ m ≤ top ∧ Stop R)) := by
  -- a round's shape
  have start : (∀ k, addr_number.f k (strOfNums L) top = addr_number.l0 k (strOfNums ([] ++ L)) top 0 (([] : List Int).length : Nat)) := fun k => rfl
  have split3 : ∀ R : List Int, Stop R ∨ ∃ x r, R = x :: r ∧ isDg x := by
    intro R
    cases R with
    | nil => exact .inl stop_nil
    | cons x r =>
      by_cases h : isDg x
      · exact .inr ⟨x, r, rfl, h⟩
      · exact .inl (stop_cons h)
  rcases split3 L with hs | ⟨a, r, rfl, ha⟩
  · refine ⟨0, 0, ?_, .inl ⟨rfl, rfl⟩⟩
    refine ⟨2, fun k hk => ?_⟩
    obtain ⟨k, rfl⟩ : ∃ m, k = m + 2 := ⟨k - 2, by omega⟩
    exact num_stop (D := []) hb hs
  have ha' := ha; unfold isDg at ha'
  by_cases h1 : (a - 48) ≤ top
  rotate_left
  · refine ⟨0, 0, ⟨2, fun k hk => ?_⟩, .inl ⟨rfl, rfl⟩⟩
    obtain ⟨k, rfl⟩ : ∃ m, k = m + 2 := ⟨k - 2, by omega⟩
    exact num_fail (D := []) (n := 0) hb ha (by omega) (by simp) (.inl (by omega))
  have s1 : ∀ k, addr_number.f (k + 2) (strOfNums (a :: r)) top = addr_number.l0 k (strOfNums ([a] ++ r)) top (a - 48) (([a] : List Int).length : Nat) := by
    intro k
    have := num_step (k := k) (D := []) (R := r) (top := top) (n := 0) hb ha (by omega) (by omega) (by simp) (by intro y d h; cases h)
    simp only [Int.zero_mul, Int.zero_add] at this
    exact this
  rcases split3 r with hs | ⟨b, r, rfl, hb2⟩
  · refine ⟨a - 48, 1, ⟨4, fun k hk => ?_⟩, .inr ⟨[a], r, rfl, ?_, rfl, by omega, by omega, hs⟩⟩
    · obtain ⟨k, rfl⟩ : ∃ m, k = m + 4 := ⟨k - 4, by omega⟩
      show addr_number.f (k + 2 + 2) _ _ = _
      rw [s1]
      exact num_stop hb hs
    · rw [dg_one _ (by omega)]; congr 1; omega
  have hb2' := hb2; unfold isDg at hb2'
  by_cases h2 : a ≠ 48 ∧ (a - 48) * 10 + (b - 48) ≤ top
  rotate_left
  · refine ⟨0, 0, ⟨4, fun k hk => ?_⟩, .inl ⟨rfl, rfl⟩⟩
    obtain ⟨k, rfl⟩ : ∃ m, k = m + 4 := ⟨k - 4, by omega⟩
    show addr_number.f (k + 2 + 2) _ _ = _
    rw [s1]
    refine num_fail (D := [a]) hb hb2 (by omega) (by simp) ?_
    by_cases h : a = 48
    · exact .inr ⟨[], by rw [h]⟩
    · exact .inl (by omega)
  have s2 : ∀ k, addr_number.f (k + 2 + 2) (strOfNums (a :: b :: r)) top = addr_number.l0 k (strOfNums ([a, b] ++ r)) top ((a - 48) * 10 + (b - 48)) (([a, b] : List Int).length : Nat) := by
    intro k
    rw [s1]
    exact num_step (k := k) (D := [a]) (R := r) hb hb2 (by omega) h2.2 (by simp) (by intro y d h; cases h; exact h2.1)
  rcases split3 r with hs | ⟨c, r, rfl, hb3⟩
  · refine ⟨(a - 48) * 10 + (b - 48), 2, ⟨6, fun k hk => ?_⟩, .inr ⟨[a, b], r, rfl, ?_, rfl, by omega, by omega, hs⟩⟩
    · obtain ⟨k, rfl⟩ : ∃ m, k = m + 6 := ⟨k - 6, by omega⟩
      show addr_number.f (k + 2 + 2 + 2) _ _ = _
      rw [s2]
      exact num_stop hb hs
    · have := dg_two (a - 48).toNat (by omega) (by omega) (b - 48).toNat (by omega)
      rw [show ((a - 48) * 10 + (b - 48)).toNat = (a - 48).toNat * 10 + (b - 48).toNat from by omega, this]
      congr 1
      · omega
      · congr 1; omega
  have hb3' := hb3; unfold isDg at hb3'
  by_cases h3 : ((a - 48) * 10 + (b - 48)) * 10 + (c - 48) ≤ top
  rotate_left
  · refine ⟨0, 0, ⟨6, fun k hk => ?_⟩, .inl ⟨rfl, rfl⟩⟩
    obtain ⟨k, rfl⟩ : ∃ m, k = m + 6 := ⟨k - 6, by omega⟩
    show addr_number.f (k + 2 + 2 + 2) _ _ = _
    rw [s2]
    exact num_fail (D := [a, b]) hb hb3 (by omega) (by simp) (.inl (by omega))
  have s3 : ∀ k, addr_number.f (k + 2 + 2 + 2) (strOfNums (a :: b :: c :: r)) top = addr_number.l0 k (strOfNums ([a, b, c] ++ r)) top (((a - 48) * 10 + (b - 48)) * 10 + (c - 48)) (([a, b, c] : List Int).length : Nat) := by
    intro k
    rw [s2]
    exact num_step (k := k) (D := [a, b]) (R := r) hb hb3 (by omega) h3 (by simp) (by intro y d h; cases h; exact h2.1)
  rcases split3 r with hs | ⟨d, r, rfl, hb4⟩
  · refine ⟨((a - 48) * 10 + (b - 48)) * 10 + (c - 48), 3, ⟨8, fun k hk => ?_⟩, .inr ⟨[a, b, c], r, rfl, ?_, rfl, by omega, by omega, hs⟩⟩
    · obtain ⟨k, rfl⟩ : ∃ m, k = m + 8 := ⟨k - 8, by omega⟩
      show addr_number.f (k + 2 + 2 + 2 + 2) _ _ = _
      rw [s3]
      exact num_stop hb hs
    · have := dg_three (a - 48).toNat (by omega) (by omega) (b - 48).toNat (by omega) (c - 48).toNat (by omega)
      rw [show (((a - 48) * 10 + (b - 48)) * 10 + (c - 48)).toNat = ((a - 48).toNat * 10 + (b - 48).toNat) * 10 + (c - 48).toNat from by omega, this]
      congr 1
      · omega
      · congr 1
        · omega
        · congr 1; omega
  · refine ⟨0, 0, ⟨8, fun k hk => ?_⟩, .inl ⟨rfl, rfl⟩⟩
    obtain ⟨k, rfl⟩ : ∃ m, k = m + 8 := ⟨k - 8, by omega⟩
    show addr_number.f (k + 2 + 2 + 2 + 2) _ _ = _
    rw [s3]
    unfold isDg at hb4
    exact num_fail (D := [a, b, c]) hb hb4 (by omega) (by simp) (.inl (by omega))

/-- the same form is read alike: a decimal form before a stop is read whole -/
theorem num_dg {m : Nat} {R : List Int} {top : Int} (hR : By R) (hs : Stop R) (hm : (m : Int) ≤ top) (ht : top ≤ 255) :
    Ev (fun k => addr_number.f k (strOfNums (dg m ++ R)) top) ((m : Int), ((dg m).length : Int)) := by
  have hB : By (dg m ++ R) := (by_dg m (by omega)).app hR
  unfold dg at hB ⊢
  split
  · rename_i h
    rw [if_pos h] at hB
    refine ⟨4, fun k hk => ?_⟩
    obtain ⟨k, rfl⟩ : ∃ m, k = m + 4 := ⟨k - 4, by omega⟩
    have := num_step (k := k + 2) (D := []) (top := top) (n := 0) hB (by unfold isDg; omega) (by omega) (by omega) (by simp) (by intro y d h; cases h)
    refine Eq.trans this ?_
    rw [show (0 : Int) * 10 + (48 + (m : Int) - 48) = m from by omega]
    exact num_stop (D := [48 + (m : Int)]) hB hs
  · rename_i h
    rw [if_neg h] at hB
    split
    · rename_i h2
      rw [if_pos h2] at hB
      refine ⟨6, fun k hk => ?_⟩
      obtain ⟨k, rfl⟩ : ∃ m, k = m + 6 := ⟨k - 6, by omega⟩
      have s1 := num_step (k := k + 4) (D := []) (top := top) (n := 0) hB (by unfold isDg; omega) (by omega) (by omega) (by simp) (by intro y d h; cases h)
      refine Eq.trans s1 ?_
      have s2 := num_step (k := k + 2) (D := [48 + (m : Int) / 10]) (top := top) (n := (0 : Int) * 10 + (48 + (m : Int) / 10 - 48)) hB (by unfold isDg; omega) (by omega) (by omega) (by simp) (by intro y d h; cases h; omega)
      refine Eq.trans s2 ?_
      rw [show ((0 : Int) * 10 + (48 + (m : Int) / 10 - 48)) * 10 + (48 + (m : Int) % 10 - 48) = m from by omega]
      exact num_stop (D := [48 + (m : Int) / 10, 48 + (m : Int) % 10]) hB hs
    · rename_i h2
      rw [if_neg h2] at hB
      refine ⟨8, fun k hk => ?_⟩
      obtain ⟨k, rfl⟩ : ∃ m, k = m + 8 := ⟨k - 8, by omega⟩
      have s1 := num_step (k := k + 6) (D := []) (top := top) (n := 0) hB (by unfold isDg; omega) (by omega) (by omega) (by simp) (by intro y d h; cases h)
      refine Eq.trans s1 ?_
      have s2 := num_step (k := k + 4) (D := [48 + (m : Int) / 100]) (top := top) (n := (0 : Int) * 10 + (48 + (m : Int) / 100 - 48)) hB (by unfold isDg; omega) (by omega) (by omega) (by simp) (by intro y d h; cases h; omega)
      refine Eq.trans s2 ?_
      have s3 := num_step (k := k + 2) (D := [48 + (m : Int) / 100, 48 + (m : Int) / 10 % 10]) (top := top) (n := ((0 : Int) * 10 + (48 + (m : Int) / 100 - 48)) * 10 + (48 + (m : Int) / 10 % 10 - 48)) hB (by unfold isDg; omega) (by omega) (by omega) (by simp) (by intro y d h; cases h; omega)
      refine Eq.trans s3 ?_
      rw [show (((0 : Int) * 10 + (48 + (m : Int) / 100 - 48)) * 10 + (48 + (m : Int) / 10 % 10 - 48)) * 10 + (48 + (m : Int) % 10 - 48) = m from by omega]
      exact num_stop (D := [48 + (m : Int) / 100, 48 + (m : Int) / 10 % 10, 48 + (m : Int) % 10]) hB hs
end Go.Proofs.YtncpcjphljfcpaaDoor.Txt

namespace Go.Proofs.YtncpcjphljfcpaaDoor.Txt
open Go.RowKit Go.Proofs.YtncpcjphljfcpaaDoor.PScr Go.Proofs.YtncpcjphljfcpaaDoorW.PrintWords Go.Proofs.YtncpcjphljfcpaaDoorW.PrintLast Go.Proofs.YtncpcjphljfcpaaDoorW.PrintMore

/-- the further numbers, each behind its dot -/
def tail : List Nat → List Int
  | [] => []
  | d :: ds => 46 :: (dg d ++ tail ds)
def val (a : Int) : List Nat → Int
  | [] => a
  | d :: ds => val (a * 256 + d) ds
def sm (ds : List Nat) : Prop := ∀ d ∈ ds, d < 256
theorem sm_tail {d : Nat} {ds : List Nat} (h : sm (d :: ds)) : d < 256 ∧ sm ds := ⟨h d List.mem_cons_self, fun x hx => h x (List.mem_cons_of_mem _ hx)⟩
theorem by_tail : ∀ ds : List Nat, sm ds → By (tail ds) := by
  intro ds
  induction ds with
  | nil => intro _ x hx; cases hx
  | cons d ds ih =>
    intro h
    obtain ⟨h1, h2⟩ := sm_tail h
    show By ([46] ++ (dg d ++ tail ds))
    exact By.app (by intro x hx; simp at hx; omega) ((by_dg d (by omega)).app (ih h2))
theorem stop_tail (ds : List Nat) : Stop (tail ds) := by
  cases ds with
  | nil => exact stop_nil
  | cons d ds => exact stop_cons (by unfold isDg; omega)

theorem or_byte {a m : Int} (h0 : 0 ≤ a) (h1 : a < 16777216) (hm : 0 ≤ m) (hm2 : m ≤ 255) : Go.bits .or .u32 ((a * 256) % 4294967296) (m % 4294967296) = a * 256 + m := by
  rw [show (a * 256) % 4294967296 = a * 256 from by omega, show m % 4294967296 = m from by omega, Go.u32_or _ _ (by omega) (by omega) (by omega) (by omega),
    Go.nat_join 8 (a * 256).toNat m.toNat (by omega) (by omega)]
  omega
theorem and_byte {a : Int} (h0 : 0 ≤ a) (h1 : a < 4294967296) : Go.bits .and .u32 a 255 = a % 256 := by
  rw [Go.u32_and _ _ h0 h1 (by omega) (by omega)]
  have := Nat.and_two_pow_sub_one_eq_mod a.toNat 8
  rw [show ((255 : Int).toNat) = 2 ^ 8 - 1 from rfl, this]
  omega

/-- One round behind a dot, a number being read. -/
theorem parse_dot {L : List Int} {a m c i : Int} {r : Int × Int} (hL : By L) (hlen : L.length ≤ 1000000000000000000) (hi : 0 < i ∧ i < 4) (ha : 0 ≤ a ∧ a < 16777216) (hm : 0 ≤ m ∧ m ≤ 255)
    (hn : Ev (fun k => addr_number.f k (strOfNums L) 255) (m, c)) (hc : 0 < c ∧ c ≤ L.length)
    (hr : Ev (fun k => addr_Parse.l0 k (strOfNums (L.drop c.toNat)) (a * 256 + m) (i + 1)) r) :
    Ev (fun k => addr_Parse.l0 k (strOfNums (46 :: L)) a i) r := by
  have hB : By (46 :: L) := by
    intro x hx
    rcases List.mem_cons.mp hx with h | h
    · omega
    · exact hL x h
  have hb : bt (strOfNums (46 :: L)) 0 = 46 := by
    have := bt_txt hB 0 (by simp)
    simpa using this
  have hd : (strOfNums (46 :: L)).extract 1 (strOfNums (46 :: L)).size = strOfNums L := txt_drop (46 :: L) 1
  obtain ⟨K1, h1⟩ := hn; dsimp only at h1
  obtain ⟨K2, h2⟩ := hr; dsimp only at h2
  refine ⟨max K1 K2 + 2, fun k hk => ?_⟩
  obtain ⟨k, rfl⟩ : ∃ m, k = m + 2 := ⟨k - 2, by omega⟩
  have g1 := h1 k (by omega)
  have g2 := h2 k (by omega)
  have hs : (strOfNums (46 :: L)).size = L.length + 1 := by rw [txt_size]; rfl
  simp only [addr_Parse.l0]
  rw [if_pos hi.2, if_pos hi.1, if_neg (by rw [txt_nil_iff]; simp), if_pos (by omega), hb]
  simp only [addr_Parse.j1]
  rw [if_neg (by decide), if_pos (by omega), hd, g1, Option.bind_some]
  dsimp only
  rw [if_neg (by omega), if_pos (by omega), if_pos (by rw [txt_size]; omega), or_byte ha.1 ha.2 hm.1 hm.2, w64 (by omega) (by omega), txt_drop]
  exact g2
/-- No dot, or no number behind it. -/
theorem parse_nodot {L : List Int} {a i : Int} (hL : By L) (hlen : L.length ≤ 1000000000000000000) (hi : 0 < i ∧ i < 4) (h : ∀ r, L ≠ 46 :: r) :
    Ev (fun k => addr_Parse.l0 k (strOfNums L) a i) (0, 10) := by
  refine ⟨2, fun k hk => ?_⟩
  obtain ⟨k, rfl⟩ : ∃ m, k = m + 2 := ⟨k - 2, by omega⟩
  simp only [addr_Parse.l0]
  rw [if_pos hi.2, if_pos hi.1]
  cases L with
  | nil =>
    rw [if_pos (by rw [txt_nil_iff])]
    simp only [addr_Parse.j1]
    rw [if_pos trivial]
  | cons x L =>
    have hb : bt (strOfNums (x :: L)) 0 = x := by
      have := bt_txt hL 0 (by simp)
      simpa using this
    have hx : x ≠ 46 := fun e => h L (by rw [e])
    have hs : (strOfNums (x :: L)).size = L.length + 1 := by rw [txt_size]; rfl
    rw [if_neg (by rw [txt_nil_iff]; simp), if_pos (by omega), hb, show (x != 46) = true from by simpa using hx]
    simp only [addr_Parse.j1]
    rw [if_pos trivial]
theorem parse_nonum {L : List Int} {a i : Int} (hL : By L) (hlen : L.length ≤ 1000000000000000000) (hi : 0 < i ∧ i < 4)
    (hn : Ev (fun k => addr_number.f k (strOfNums L) 255) (0, 0)) :
    Ev (fun k => addr_Parse.l0 k (strOfNums (46 :: L)) a i) (0, 10) := by
  have hB : By (46 :: L) := by
    intro x hx
    rcases List.mem_cons.mp hx with h | h
    · omega
    · exact hL x h
  have hb : bt (strOfNums (46 :: L)) 0 = 46 := by
    have := bt_txt hB 0 (by simp)
    simpa using this
  have hd : (strOfNums (46 :: L)).extract 1 (strOfNums (46 :: L)).size = strOfNums L := txt_drop (46 :: L) 1
  obtain ⟨K1, h1⟩ := hn; dsimp only at h1
  refine ⟨K1 + 2, fun k hk => ?_⟩
  obtain ⟨k, rfl⟩ : ∃ m, k = m + 2 := ⟨k - 2, by omega⟩
  have g1 := h1 k (by omega)
  have hs : (strOfNums (46 :: L)).size = L.length + 1 := by rw [txt_size]; rfl
  simp only [addr_Parse.l0]
  rw [if_pos hi.2, if_pos hi.1, if_neg (by rw [txt_nil_iff]; simp), if_pos (by omega), hb]
  simp only [addr_Parse.j1]
  rw [if_neg (by decide), if_pos (by omega), hd, g1, Option.bind_some]
  dsimp only
  rw [if_pos rfl]
/-- the first round -/
theorem parse_first {L : List Int} {m c : Int} {r : Int × Int} (hm : 0 ≤ m ∧ m ≤ 255)
    (hn : Ev (fun k => addr_number.f k (strOfNums L) 255) (m, c)) (hc : 0 < c ∧ c ≤ L.length)
    (hr : Ev (fun k => addr_Parse.l0 k (strOfNums (L.drop c.toNat)) m 1) r) :
    Ev (fun k => addr_Parse.f k (strOfNums L)) r := by
  obtain ⟨K1, h1⟩ := hn; dsimp only at h1
  obtain ⟨K2, h2⟩ := hr; dsimp only at h2
  refine ⟨max K1 K2 + 1, fun k hk => ?_⟩
  obtain ⟨k, rfl⟩ : ∃ m, k = m + 1 := ⟨k - 1, by omega⟩
  have g1 := h1 k (by omega)
  have g2 := h2 k (by omega)
  unfold addr_Parse.f
  simp only [addr_Parse.l0]
  rw [if_pos (by omega), if_neg (by omega), g1, Option.bind_some]
  dsimp only
  rw [if_neg (by omega), if_pos (by omega), if_pos (by rw [txt_size]; omega), or_byte (by omega) (by omega) hm.1 hm.2, w64 (by omega) (by omega), txt_drop]
  simpa using g2
theorem parse_none {L : List Int} (hn : Ev (fun k => addr_number.f k (strOfNums L) 255) (0, 0)) : Ev (fun k => addr_Parse.f k (strOfNums L)) (0, 10) := by
  obtain ⟨K1, h1⟩ := hn; dsimp only at h1
  refine ⟨K1 + 1, fun k hk => ?_⟩
  obtain ⟨k, rfl⟩ : ∃ m, k = m + 1 := ⟨k - 1, by omega⟩
  have g1 := h1 k (by omega)
  unfold addr_Parse.f
  simp only [addr_Parse.l0]
  rw [if_pos (by omega), if_neg (by omega), g1, Option.bind_some]
  dsimp only
  rw [if_pos rfl]
/-- the end -/
theorem parse_end (L : List Int) (a : Int) : Ev (fun k => addr_Parse.l0 k (strOfNums L) a 4) (if L = [] then (a, 0) else (0, 10)) := by
  refine ⟨1, fun k hk => ?_⟩
  obtain ⟨k, rfl⟩ : ∃ m, k = m + 1 := ⟨k - 1, by omega⟩
  simp only [addr_Parse.l0]
  rw [if_neg (by omega)]
  by_cases h : L = []
  · rw [if_pos ((txt_nil_iff L).mpr h), if_pos h]
  · rw [if_neg (fun e => h ((txt_nil_iff L).mp e)), if_neg h]

/-- What addr.Parse reads behind the first number. -/
theorem parse_rest : ∀ (j : Nat) (i : Int), 0 < i → i + j = 4 → ∀ (L : List Int) (a : Int), By L → L.length ≤ 1000000000000000000 → 0 ≤ a → a < 256 ^ i.toNat →
    ∃ r, Ev (fun k => addr_Parse.l0 k (strOfNums L) a i) r ∧ (r = (0, 10) ∨ ∃ ds : List Nat, sm ds ∧ ds.length = j ∧ L = tail ds ∧ r = (val a ds, 0)) := by
  intro j
  induction j with
  | zero =>
    intro i hi hij L a hL hlen ha ha2
    obtain rfl : i = 4 := by omega
    refine ⟨_, parse_end L a, ?_⟩
    by_cases h : L = []
    · rw [if_pos h]; exact .inr ⟨[], (by intro d hd; cases hd), rfl, h, rfl⟩
    · rw [if_neg h]; exact .inl rfl
  | succ j ih =>
    intro i hi hij L a hL hlen ha ha2
    have ha3 : a < 16777216 := by
      rcases (show i = 1 ∨ i = 2 ∨ i = 3 by omega) with rfl | rfl | rfl
      · have : a < 256 := ha2; omega
      · have : a < 65536 := ha2; omega
      · exact ha2
    by_cases hd : ∃ r, L = 46 :: r
    · obtain ⟨L, rfl⟩ := hd
      have hL' : By L := fun x hx => hL x (List.mem_cons_of_mem _ hx)
      have hlen' : L.length ≤ 1000000000000000000 := by simp at hlen; omega
      obtain ⟨m, c, hn, hcase⟩ := num_all (top := 255) hL' (by omega)
      rcases hcase with ⟨rfl, rfl⟩ | ⟨D, R, rfl, hD, rfl, hm0, hm1, hs⟩
      · exact ⟨_, parse_nonum hL' hlen' (by omega) hn, .inl rfl⟩
      · have hDl := dg_len m.toNat
        rw [← hD] at hDl
        have e : (D ++ R).drop ((D.length : Int)).toNat = R := by simp
        obtain ⟨r, hr, hrc⟩ := ih (i + 1) (by omega) (by omega) R (a * 256 + m) hL'.right (by simp at hlen'; omega) (by omega) (by
          rw [show (i + 1).toNat = i.toNat + 1 from by omega, Int.pow_succ]; omega)
        refine ⟨r, parse_dot hL' hlen' (by omega) (by omega) (by omega) hn (by simp; omega) (by rw [e]; exact hr), ?_⟩
        rcases hrc with hrc | ⟨ds, h1, h2, h3, h4⟩
        · exact .inl hrc
        · refine .inr ⟨m.toNat :: ds, ?_, by simp [h2], ?_, ?_⟩
          · intro d hd
            rcases List.mem_cons.mp hd with h | h
            · omega
            · exact h1 d h
          · rw [h3, hD]; rfl
          · rw [h4]; show _ = (val (a * 256 + (m.toNat : Int)) ds, _); rw [Int.toNat_of_nonneg hm0]
    · exact ⟨_, parse_nodot hL hlen (by omega) (fun r h => hd ⟨r, h⟩), .inl rfl⟩
/-- The text of four numbers. -/
def quad (d : Nat) (ds : List Nat) : List Int := dg d ++ tail ds
theorem by_quad {d : Nat} {ds : List Nat} (h : d < 256) (hs : sm ds) : By (quad d ds) := (by_dg d (by omega)).app (by_tail ds hs)
/-- What addr.Parse makes of any text. -/
theorem parse_all {L : List Int} (hL : By L) (hlen : L.length ≤ 1000000000000000000) :
    ∃ r, Ev (fun k => addr_Parse.f k (strOfNums L)) r ∧ (r = (0, 10) ∨ ∃ (d : Nat) (ds : List Nat), d < 256 ∧ sm ds ∧ ds.length = 3 ∧ L = quad d ds ∧ r = (val d ds, 0)) := by
  obtain ⟨m, c, hn, hcase⟩ := num_all (top := 255) hL (by omega)
  rcases hcase with ⟨rfl, rfl⟩ | ⟨D, R, rfl, hD, rfl, hm0, hm1, hs⟩
  · exact ⟨_, parse_none hn, .inl rfl⟩
  · have hDl := dg_len m.toNat
    rw [← hD] at hDl
    have e : (D ++ R).drop ((D.length : Int)).toNat = R := by simp
    obtain ⟨r, hr, hrc⟩ := parse_rest 3 1 (by omega) (by omega) R m hL.right (by simp at hlen; omega) hm0 (by show m < 256; omega)
    refine ⟨r, parse_first (by omega) hn (by simp; omega) (by rw [e]; exact hr), ?_⟩
    rcases hrc with hrc | ⟨ds, h1, h2, h3, h4⟩
    · exact .inl hrc
    · refine .inr ⟨m.toNat, ds, by omega, h1, h2, by rw [h3, hD]; rfl, ?_⟩
      rw [h4, Int.toNat_of_nonneg hm0]
/-- A text of four numbers is read. -/
theorem parse_tail : ∀ (ds : List Nat) (i a : Int), 0 < i → i + ds.length = 4 → sm ds → 0 ≤ a → a < 256 ^ i.toNat → Ev (fun k => addr_Parse.l0 k (strOfNums (tail ds)) a i) (val a ds, 0) := by
  intro ds
  induction ds with
  | nil =>
    intro i a hi hl hs h0 h1
    obtain rfl : i = 4 := by simpa using hl
    have := parse_end [] a
    rwa [if_pos rfl] at this
  | cons d ds ih =>
    intro i a hi hl hs h0 h1
    obtain ⟨hs1, hs2⟩ := sm_tail hs
    have ha3 : a < 16777216 := by
      rcases (show i = 1 ∨ i = 2 ∨ i = 3 by simp at hl; omega) with rfl | rfl | rfl
      · have : a < 256 := h1; omega
      · have : a < 65536 := h1; omega
      · exact h1
    have hb := by_tail ds hs2
    have hl' : i + ((ds.length : Int) + 1) = 4 := by simpa using hl
    have hlen : ∀ es : List Nat, (tail es).length ≤ 4 * es.length := by
      intro es
      induction es with
      | nil => simp [tail]
      | cons e es ih => simp only [tail, List.length_cons, List.length_append]; have := dg_len e; omega
    have hln := hlen ds
    have hdl := dg_len d
    refine parse_dot (L := dg d ++ tail ds) (m := d) (c := ((dg d).length : Nat)) ((by_dg d (by omega)).app hb) (by simp; omega) (by omega) ⟨h0, ha3⟩ (by omega)
      (num_dg (R := tail ds) (top := 255) hb (stop_tail ds) (by omega) (by omega)) (by simp; omega) ?_
    have e : (dg d ++ tail ds).drop (((dg d).length : Nat) : Int).toNat = tail ds := by simp
    rw [e]
    exact ih (i + 1) (a * 256 + d) (by omega) (by omega) hs2 (by omega) (by
          rw [show (i + 1).toNat = i.toNat + 1 from by omega, Int.pow_succ]; omega)
theorem parse_quad {d : Nat} {ds : List Nat} (h : d < 256) (hs : sm ds) (hl : ds.length = 3) : Ev (fun k => addr_Parse.f k (strOfNums (quad d ds))) (val d ds, 0) := by
  have hdl := dg_len d
  refine parse_first (m := d) (c := ((dg d).length : Nat)) (by omega) (num_dg (by_tail ds hs) (stop_tail ds) (by omega) (by omega)) (by simp [quad]; omega) ?_
  have e : (quad d ds).drop (((dg d).length : Nat) : Int).toNat = tail ds := by simp [quad]
  rw [e]
  exact parse_tail ds 1 d (by omega) (by omega) hs (by omega) (by show (d : Int) < 256; omega)

/-! Format. -/
/-- the bytes of an address, from the one named on -/
def byteOf (a : Int) (i : Nat) : Nat := (a / 2 ^ (24 - 8 * i) % 256).toNat
theorem byteOf_lt (a : Int) (i : Nat) : byteOf a i < 256 := by unfold byteOf; omega
theorem fmt_first {a : Int} {r : ByteArray} (h0 : 0 ≤ a) (h1 : a < 4294967296)
    (hr : Ev (fun k => addr_Format.l0 k a (strOfNums (dg (byteOf a 0))) 1) r) : Ev (fun k => addr_Format.f k a) r := by
  have hx : shr .u32 a 24 = a / 16777216 := rfl
  have hd := digits_ev (n := a / 16777216) (by omega) (by omega)
  obtain ⟨K1, h1'⟩ := hd; dsimp only at h1'
  obtain ⟨K2, h2'⟩ := hr; dsimp only at h2'
  refine ⟨max K1 K2 + 1, fun k hk => ?_⟩
  obtain ⟨k, rfl⟩ : ∃ m, k = m + 1 := ⟨k - 1, by omega⟩
  have g1 := h1' k (by omega)
  have g2 := h2' k (by omega)
  unfold addr_Format.f
  simp only [addr_Format.l0]
  have hl := dg_len (a / 16777216).toNat
  rw [if_pos (by omega), if_neg (by omega), show wrap64 (24 - wrap64 (8 * 0)) = 24 from by unfold wrap64; omega, if_pos (by omega), hx, and_byte (by omega) (by omega), w64 (by omega) (by omega),
    show a / 16777216 % 256 = a / 16777216 from by omega, g1, Option.bind_some, if_pos (by rw [txt_size]; show 0 + _ ≤ _; omega), w64 (by omega) (by omega)]
  have e : (⟨#[]⟩ : ByteArray) ++ strOfNums (dg (a / 16777216).toNat) = strOfNums (dg (byteOf a 0)) := by
    show strOfNums [] ++ _ = _
    rw [txt_app]
    unfold byteOf
    rw [List.nil_append, show a / 2 ^ (24 - 8 * 0) % 256 = a / 16777216 from by show a / 16777216 % 256 = _; omega]
  rw [e]
  exact g2
theorem fmt_step {a : Int} {i : Nat} {T : List Int} {r : ByteArray} (h0 : 0 ≤ a) (h1 : a < 4294967296) (hi : 0 < i ∧ i < 4) (hT : T.length ≤ 1000)
    (hr : Ev (fun k => addr_Format.l0 k a (strOfNums (T ++ 46 :: dg (byteOf a i))) ((i + 1 : Nat) : Int)) r) : Ev (fun k => addr_Format.l0 k a (strOfNums T) (i : Int)) r := by
  have hd := digits_ev (n := (byteOf a i : Int)) (by omega) (by have := byteOf_lt a i; omega)
  obtain ⟨K1, h1'⟩ := hd; dsimp only at h1'
  obtain ⟨K2, h2'⟩ := hr; dsimp only at h2'
  refine ⟨max K1 K2 + 1, fun k hk => ?_⟩
  obtain ⟨k, rfl⟩ : ∃ m, k = m + 1 := ⟨k - 1, by omega⟩
  have g1 := h1' k (by omega)
  have g2 := h2' k (by omega)
  have hb : 0 ≤ a / 2 ^ (24 - 8 * i) ∧ a / 2 ^ (24 - 8 * i) < 4294967296 := by
    have : i = 1 ∨ i = 2 ∨ i = 3 := by omega
    rcases this with rfl | rfl | rfl
    · show 0 ≤ a / 65536 ∧ a / 65536 < _; omega
    · show 0 ≤ a / 256 ∧ a / 256 < _; omega
    · show 0 ≤ a / 1 ∧ a / 1 < _; omega
  have e2 : shr .u32 a (24 - 8 * (i : Int)) = a / 2 ^ (24 - 8 * i) := by
    have : i = 1 ∨ i = 2 ∨ i = 3 := by omega
    rcases this with rfl | rfl | rfl <;> rfl
  have e3 : wrap64 (a / 2 ^ (24 - 8 * i) % 256) = (byteOf a i : Int) := by
    unfold byteOf
    rw [w64 (by omega) (by omega), Int.toNat_of_nonneg (by omega)]
  simp only [addr_Format.l0]
  have hl := dg_len (byteOf a i)
  rw [if_pos (by omega), if_pos (by omega), if_pos (by rw [txt_size]; omega), w64 (n := 8 * (i : Int)) (by omega) (by omega), w64 (n := 24 - 8 * (i : Int)) (by omega) (by omega),
    if_pos (by omega), e2, and_byte hb.1 hb.2, e3, g1, Option.bind_some]
  have e : strOfNums T ++ (⟨#[46]⟩ : ByteArray) ++ strOfNums (dg ((byteOf a i : Int)).toNat) = strOfNums (T ++ 46 :: dg (byteOf a i)) := by
    rw [show (⟨#[46]⟩ : ByteArray) = strOfNums [46] from by decide, txt_app, txt_app, Int.toNat_natCast, List.append_assoc, List.singleton_append]
  rw [e, if_pos (by rw [show (⟨#[46]⟩ : ByteArray) = strOfNums [46] from by decide, txt_app, txt_size, txt_size, Int.toNat_natCast]; simp; omega), w64 (by omega) (by omega),
    show (i : Int) + 1 = ((i + 1 : Nat) : Int) from by omega]
  exact g2
def fmt (a : Int) : List Int := quad (byteOf a 0) [byteOf a 1, byteOf a 2, byteOf a 3]
theorem format_ev {a : Int} (h0 : 0 ≤ a) (h1 : a < 4294967296) : Ev (fun k => addr_Format.f k a) (strOfNums (fmt a)) := by
  have l0 := dg_len (byteOf a 0)
  have l1 := dg_len (byteOf a 1)
  have l2 := dg_len (byteOf a 2)
  have l3 := dg_len (byteOf a 3)
  refine fmt_first h0 h1 (fmt_step (i := 1) h0 h1 (by omega) (by omega) (fmt_step (i := 2) h0 h1 (by omega) (by simp; omega) (fmt_step (i := 3) h0 h1 (by omega) (by simp; omega) ?_)))
  refine ⟨1, fun k hk => ?_⟩
  obtain ⟨k, rfl⟩ : ∃ m, k = m + 1 := ⟨k - 1, by omega⟩
  simp only [addr_Format.l0]
  rw [if_neg (by omega)]
  simp [fmt, quad, tail]
theorem val_fmt {a : Int} (h0 : 0 ≤ a) (h1 : a < 4294967296) : val (byteOf a 0) [byteOf a 1, byteOf a 2, byteOf a 3] = a := by
  simp only [val, byteOf]
  have e0 : a / 2 ^ (24 - 8 * 0) = a / 16777216 := rfl
  have e1 : a / 2 ^ (24 - 8 * 1) = a / 65536 := rfl
  have e2 : a / 2 ^ (24 - 8 * 2) = a / 256 := rfl
  have e3 : a / 2 ^ (24 - 8 * 3) = a / 1 := rfl
  rw [e0, e1, e2, e3]
  omega
theorem fmt_val {d : Nat} {ds : List Nat} (h : d < 256) (hs : sm ds) (hl : ds.length = 3) : 0 ≤ val d ds ∧ val d ds < 4294967296 ∧ fmt (val d ds) = quad d ds := by
  obtain ⟨x, y, z, rfl⟩ : ∃ x y z, ds = [x, y, z] := by
    match ds, hl with
    | [x, y, z], _ => exact ⟨x, y, z, rfl⟩
  have hx := hs x (by simp)
  have hy := hs y (by simp)
  have hz := hs z (by simp)
  have e : val d [x, y, z] = ((d : Int) * 256 + x) * 256 * 256 + y * 256 + z := by simp only [val]; omega
  refine ⟨by omega, by omega, ?_⟩
  unfold fmt
  have e0 : ∀ a : Int, a / 2 ^ (24 - 8 * 0) = a / 16777216 := fun _ => rfl
  have e1 : ∀ a : Int, a / 2 ^ (24 - 8 * 1) = a / 65536 := fun _ => rfl
  have e2 : ∀ a : Int, a / 2 ^ (24 - 8 * 2) = a / 256 := fun _ => rfl
  have e3 : ∀ a : Int, a / 2 ^ (24 - 8 * 3) = a / 1 := fun _ => rfl
  have b0 : byteOf (val d [x, y, z]) 0 = d := by unfold byteOf; rw [e0, e]; omega
  have b1 : byteOf (val d [x, y, z]) 1 = x := by unfold byteOf; rw [e1, e]; omega
  have b2 : byteOf (val d [x, y, z]) 2 = y := by unfold byteOf; rw [e2, e]; omega
  have b3 : byteOf (val d [x, y, z]) 3 = z := by unfold byteOf; rw [e3, e]; omega
  rw [b0, b1, b2, b3]
/-- Parse reads back what Format wrote. -/
theorem parse_fmt {a : Int} (h0 : 0 ≤ a) (h1 : a < 4294967296) : Ev (fun k => addr_Parse.f k (strOfNums (fmt a))) (a, 0) := by
  have := parse_quad (d := byteOf a 0) (ds := [byteOf a 1, byteOf a 2, byteOf a 3]) (byteOf_lt a 0) (by intro d hd; simp at hd; rcases hd with h | h | h <;> subst h <;> exact byteOf_lt _ _) rfl
  rwa [val_fmt h0 h1] at this
theorem by_fmt (a : Int) : By (fmt a) := by_quad (byteOf_lt a 0) (by intro d hd; simp at hd; rcases hd with h | h | h <;> subst h <;> exact byteOf_lt _ _)
/-- What Parse reads is what Format writes. -/
theorem parse_back {L : List Int} (hL : By L) (hlen : L.length ≤ 1000000000000000000) :
    ∃ r, Ev (fun k => addr_Parse.f k (strOfNums L)) r ∧ (r = (0, 10) ∨ ∃ a : Int, 0 ≤ a ∧ a < 4294967296 ∧ L = fmt a ∧ r = (a, 0)) := by
  obtain ⟨r, h, hc⟩ := parse_all hL hlen
  refine ⟨r, h, ?_⟩
  rcases hc with hc | ⟨d, ds, h1, h2, h3, h4, h5⟩
  · exact .inl hc
  · obtain ⟨g0, g1, g2⟩ := fmt_val h1 h2 h3
    exact .inr ⟨val d ds, g0, g1, by rw [g2, h4], h5⟩
end Go.Proofs.YtncpcjphljfcpaaDoor.Txt

namespace Go.Proofs.YtncpcjphljfcpaaDoor.Txt
open Go.RowKit Go.Proofs.YtncpcjphljfcpaaDoor.PScr Go.Proofs.YtncpcjphljfcpaaDoorW.PrintWords Go.Proofs.YtncpcjphljfcpaaDoorW.PrintLast Go.Proofs.YtncpcjphljfcpaaDoorW.PrintMore

/-- the size of a block of length n -/
def sz (n : Nat) : Nat := 2 ^ (32 - n)
theorem sz_pos (n : Nat) : 0 < sz n := Nat.two_pow_pos _
theorem sz_le (n : Nat) : sz n ≤ 4294967296 := by
  unfold sz
  have : 2 ^ (32 - n) ≤ 2 ^ 32 := Nat.pow_le_pow_right (by omega) (by omega)
  omega
theorem mask_all : ∀ n : Nat, n < 33 → addr_mask.f (n : Int) = some ((4294967296 - sz n : Nat) : Int) := by decide +kernel
theorem mod_sz {a : Int} (n : Nat) (h0 : 0 ≤ a) : ((a.toNat % sz n : Nat) : Int) = a % (sz n : Int) := by
  have : ((a.toNat : Nat) : Int) = a := Int.toNat_of_nonneg h0
  rw [Int.natCast_emod, this]
/-- what addr.fault says -/
def flt (a b : Int) : Int := if b < 0 ∨ 32 < b then 11 else if a % (sz b.toNat : Int) = 0 then 0 else 12
theorem fault_ev {a b : Int} (h0 : 0 ≤ a) (h1 : a < 4294967296) : Ev (fun k => addr_fault.f k a b) (flt a b) := by
  refine ⟨1, fun k hk => ?_⟩
  obtain ⟨k, rfl⟩ : ∃ m, k = m + 1 := ⟨k - 1, by omega⟩
  unfold addr_fault.f flt
  dsimp only
  by_cases hb : b < 0
  · rw [if_pos hb, if_pos (.inl hb)]
    simp only [addr_fault.j0]
    rw [if_pos trivial]
  rw [if_neg hb]
  by_cases hb2 : 32 < b
  · rw [if_pos (.inr hb2), decide_eq_true hb2]
    simp only [addr_fault.j0]
    rw [if_pos trivial]
  rw [if_neg (by omega), decide_eq_false hb2]
  simp only [addr_fault.j0]
  obtain ⟨n, rfl⟩ : ∃ n : Nat, b = (n : Int) := ⟨b.toNat, by omega⟩
  have hle := sz_le n
  have hp := sz_pos n
  rw [if_neg (by decide), mask_all n (by omega), Option.bind_some, Go.u32_andNot _ _ h0 h1 (by omega) (by omega)]
  have e : 4294967295 - (((4294967296 - sz n : Nat) : Int)).toNat = sz n - 1 := by omega
  rw [e]
  have hm : a.toNat &&& (sz n - 1) = a.toNat % sz n := Nat.and_two_pow_sub_one_eq_mod _ _
  rw [hm, mod_sz n h0, Int.toNat_natCast]
  split <;> rfl
theorem valid_ev {a b : Int} (h0 : 0 ≤ a) (h1 : a < 4294967296) : Ev (fun k => addr_Valid.f k a b) (flt a b == 0) := by
  unfold addr_Valid.f
  exact Ev.bind (fault_ev h0 h1) (Ev.now _)
theorem flt_zero {a b : Int} (h : flt a b = 0) : 0 ≤ b ∧ b ≤ 32 := by
  unfold flt at h
  split at h
  · omega
  · omega
/-- the text of a prefix -/
def pfx (a : Int) (n : Nat) : List Int := fmt a ++ 47 :: dg n
theorem len_fmt (a : Int) : (fmt a).length ≤ 15 := by
  have h0 := dg_len (byteOf a 0)
  have h1 := dg_len (byteOf a 1)
  have h2 := dg_len (byteOf a 2)
  have h3 := dg_len (byteOf a 3)
  simp [fmt, quad, tail]; omega
theorem pfx_ev {a b : Int} (h0 : 0 ≤ a) (h1 : a < 4294967296) :
    Ev (fun k => addr_FormatPrefix.f k a b) (if flt a b = 0 then (strOfNums (pfx a b.toNat), 0) else (⟨#[]⟩, flt a b)) := by
  unfold addr_FormatPrefix.f
  refine Ev.bind (fault_ev h0 h1) ?_
  by_cases h : flt a b = 0
  · simp only [if_pos h]
    obtain ⟨hb0, hb1⟩ := flt_zero h
    refine Ev.bind (format_ev h0 h1) ?_
    have e : strOfNums (fmt a) ++ (⟨#[47]⟩ : ByteArray) ++ strOfNums (dg b.toNat) = strOfNums (pfx a b.toNat) := by
      rw [show (⟨#[47]⟩ : ByteArray) = strOfNums [47] from by decide, txt_app, txt_app]
      simp [pfx]
    have hl := len_fmt a
    have hd := dg_len b.toNat
    have c1 : (strOfNums (fmt a)).size + 1 ≤ 9223372036854775807 := by rw [txt_size]; omega
    have c2 : (strOfNums (fmt a) ++ (⟨#[47]⟩ : ByteArray)).size + (strOfNums (dg b.toNat)).size ≤ 9223372036854775807 := by
      rw [show (⟨#[47]⟩ : ByteArray) = strOfNums [47] from by decide, txt_app, txt_size, txt_size]; simp; omega
    simp only [if_pos c1]
    refine Ev.bind (digits_ev hb0 (by omega)) ?_
    simp only [if_pos c2, e]
    exact Ev.now _
  · simp only [if_neg h]
    exact Ev.now _
/-- A text up to its first slash. -/
theorem till (L : List Int) : ∃ D R, L = D ++ R ∧ (∀ x ∈ D, x ≠ 47) ∧ (R = [] ∨ ∃ Q, R = 47 :: Q) := by
  induction L with
  | nil => exact ⟨[], [], rfl, (by intro x hx; cases hx), .inl rfl⟩
  | cons x L ih =>
    by_cases h : x = 47
    · exact ⟨[], x :: L, rfl, (by intro x hx; cases hx), .inr ⟨L, by rw [h]⟩⟩
    · obtain ⟨D, R, h1, h2, h3⟩ := ih
      refine ⟨x :: D, R, by rw [h1]; rfl, ?_, h3⟩
      intro y hy
      rcases List.mem_cons.mp hy with e | e
      · rw [e]; exact h
      · exact h2 y e
theorem scan {L : List Int} (hL : By L) (hlen : L.length ≤ 1000000000000000000) (j : Nat) : ∀ (C D R : List Int), L = C ++ (D ++ R) → D.length = j → (∀ x ∈ D, x ≠ 47) → ∀ r,
    Ev (fun k => addr_ParsePrefix.l0 k (strOfNums L) ((strOfNums L).size : Int) ((C ++ D).length : Nat)) r → Ev (fun k => addr_ParsePrefix.l0 k (strOfNums L) ((strOfNums L).size : Int) (C.length : Nat)) r := by
  induction j with
  | zero =>
    intro C D R hLe hD hne r hr
    obtain rfl : D = [] := List.length_eq_zero_iff.mp hD
    rwa [List.append_nil] at hr
  | succ j ih =>
    intro C D R hLe hD hne r hr
    obtain ⟨x, D, rfl⟩ : ∃ x d, D = x :: d := by
      cases D with
      | nil => simp at hD
      | cons x d => exact ⟨x, d, rfl⟩
    have hc : C.length + D.length + 1 ≤ L.length := by rw [hLe]; simp; omega
    have hx : x ≠ 47 := hne x List.mem_cons_self
    have hat : bt (strOfNums L) (C.length : Int) = x := by
      have hb : By (C ++ ((x :: D) ++ R)) := by rw [← hLe]; exact hL
      have := bt_app hb rfl
      rw [← hLe] at this
      exact this
    have := ih (C ++ [x]) D R (by rw [hLe]; simp) (by simpa using hD) (fun y hy => hne y (List.mem_cons_of_mem _ hy)) r (by rwa [List.append_assoc, List.singleton_append])
    refine Ev.step (fun k => ?_) this
    simp only [addr_ParsePrefix.l0]
    rw [if_pos (by rw [txt_size]; omega), if_pos (by omega), if_pos (by rw [txt_size]; omega), hat, if_neg hx, w64 (by omega) (by omega)]
    simp
theorem pp_at {D Q : List Int} {r : Int × Int × Int} {pa pe m c : Int} (hL : By (D ++ 47 :: Q)) (hlen : (D ++ 47 :: Q).length ≤ 1000000000000000000) (hD : ∀ x ∈ D, x ≠ 47)
    (hp : Ev (fun k => addr_Parse.f k (strOfNums D)) (pa, pe)) (hn : Ev (fun k => addr_number.f k (strOfNums Q) 32) (m, c)) (hc : 0 ≤ c ∧ c ≤ Q.length)
    (hr : Ev (fun k => addr_ParsePrefix.j1 k pa m (!decide (pe = 0 ∧ c ≠ 0 ∧ c = Q.length))) r) : Ev (fun k => addr_ParsePrefix.f k (strOfNums (D ++ 47 :: Q))) r := by
  unfold addr_ParsePrefix.f
  refine scan hL hlen D.length [] D (47 :: Q) rfl rfl hD r ?_
  rw [List.nil_append]
  have hat := bt_app hL rfl
  have hs : (strOfNums (D ++ 47 :: Q)).size = D.length + Q.length + 1 := by rw [txt_size]; simp; omega
  obtain ⟨K1, h1⟩ := hp; dsimp only at h1
  obtain ⟨K2, h2⟩ := hn; dsimp only at h2
  obtain ⟨K3, h3⟩ := hr; dsimp only at h3
  refine ⟨max K1 (max K2 K3) + 1, fun k hk => ?_⟩
  obtain ⟨k, rfl⟩ : ∃ m, k = m + 1 := ⟨k - 1, by omega⟩
  have g1 := h1 k (by omega)
  have g2 := h2 k (by omega)
  have g3 := h3 k (by omega)
  have hl : D.length + Q.length + 1 ≤ 1000000000000000000 := by simp at hlen; omega
  have c1 : (strOfNums (D ++ 47 :: Q)).extract 0 ((D.length : Nat) : Int).toNat = strOfNums D := by rw [txt_cut]; simp
  have c2 : (strOfNums (D ++ 47 :: Q)).extract ((D.length : Int) + 1).toNat (strOfNums (D ++ 47 :: Q)).size = strOfNums Q := by
    rw [txt_drop, show ((D.length : Int) + 1).toNat = D.length + 1 from by omega]; simp
  simp only [addr_ParsePrefix.l0]
  rw [if_pos (by omega), if_pos (by omega), if_pos (by omega), hat, if_pos rfl, if_pos (by omega), c1, g1, Option.bind_some, w64 (n := (D.length : Int) + 1) (by omega) (by omega),
    if_pos (by omega), if_pos (by omega), c2, g2, Option.bind_some]
  dsimp only
  rw [w64 (by omega) (by omega)]
  by_cases he : pe = 0
  · rw [if_pos he]
    by_cases hc0 : c = 0
    · rw [if_pos hc0]
      rw [decide_eq_false (by omega)] at g3
      exact g3
    · rw [if_neg hc0]
      by_cases hcq : c = Q.length
      · rw [decide_eq_true ⟨he, hc0, hcq⟩] at g3
        rw [show ((D.length : Int) + 1 + c != ((strOfNums (D ++ 47 :: Q)).size : Int)) = false from by rw [hs]; simp; omega]
        exact g3
      · rw [decide_eq_false (by omega)] at g3
        rw [show ((D.length : Int) + 1 + c != ((strOfNums (D ++ 47 :: Q)).size : Int)) = true from by rw [hs]; simp; omega]
        exact g3
  · rw [if_neg he]
    rw [decide_eq_false (by omega)] at g3
    exact g3
theorem j1_true {a m : Int} : Ev (fun k => addr_ParsePrefix.j1 k a m true) (0, 0, 11) := by
  refine Ev.step (f := fun _ => some (0, 0, 11)) (fun k => ?_) (Ev.now _)
  simp only [addr_ParsePrefix.j1]
  rw [if_pos trivial]
theorem j1_false {a m : Int} (h0 : 0 ≤ a) (h1 : a < 4294967296) : Ev (fun k => addr_ParsePrefix.j1 k a m false) (if flt a m = 0 then (a, m, 0) else (0, 0, 12)) := by
  refine Ev.step (f := fun k => (addr_Valid.f k a m).bind fun t => if t = true then some (a, m, 0) else some (0, 0, 12)) (fun k => ?_) (Ev.bind (valid_ev h0 h1) ?_)
  · simp only [addr_ParsePrefix.j1]
    rw [if_neg (by decide)]
  · by_cases h : flt a m = 0
    · simp only [h]; exact Ev.now _
    · simp only [if_neg h, beq_iff_eq]; exact Ev.now _
/-- What ParsePrefix makes of any text. -/
theorem pp_all {L : List Int} (hL : By L) (hlen : L.length ≤ 1000000000000000000) :
    ∃ r, Ev (fun k => addr_ParsePrefix.f k (strOfNums L)) r ∧ ((∃ e, e ≠ 0 ∧ r = (0, 0, e)) ∨ ∃ (a : Int) (n : Nat), 0 ≤ a ∧ a < 4294967296 ∧ flt a n = 0 ∧ L = pfx a n ∧ r = (a, (n : Int), 0)) := by
  obtain ⟨D, R, rfl, hD, hR⟩ := till L
  rcases hR with rfl | ⟨Q, rfl⟩
  · refine ⟨(0, 0, 11), ?_, .inl ⟨11, by omega, rfl⟩⟩
    unfold addr_ParsePrefix.f
    refine scan hL hlen D.length [] D [] rfl rfl hD _ ?_
    refine Ev.step (f := fun _ => some (0, 0, 11)) (fun k => ?_) (Ev.now _)
    simp only [addr_ParsePrefix.l0]
    rw [if_neg (by rw [txt_size]; simp)]
  · have hBD : By D := hL.left
    have hBQ : By Q := fun x hx => hL x (List.mem_append.mpr (.inr (List.mem_cons_of_mem _ hx)))
    obtain ⟨p, hp, hpc⟩ := parse_back hBD (by simp at hlen; omega)
    obtain ⟨m, c, hn, hnc⟩ := num_all (top := 32) hBQ (by omega)
    have hcr : 0 ≤ c ∧ c ≤ Q.length := by
      rcases hnc with ⟨_, rfl⟩ | ⟨E, R, rfl, _, rfl, _⟩
      · omega
      · rw [List.length_append]; omega
    obtain ⟨pa, pe⟩ := p
    by_cases hg : pe = 0 ∧ c ≠ 0 ∧ c = Q.length
    · rcases hpc with hpc | ⟨a, h0, h1, rfl, hpc⟩
      · cases hpc; omega
      · cases hpc
        have hh := j1_false (m := m) h0 h1
        refine ⟨_, pp_at hL hlen hD hp hn hcr (by rw [decide_eq_true hg]; exact hh), ?_⟩
        by_cases hf : flt pa m = 0
        · rw [if_pos hf]
          rcases hnc with ⟨_, rfl⟩ | ⟨E, R, rfl, hE, rfl, hm0, hm1, _⟩
          · omega
          · have : R = [] := by
              have h9 := hg.2.2
              rw [List.length_append] at h9
              exact List.length_eq_zero_iff.mp (by omega)
            subst this
            refine .inr ⟨pa, m.toNat, h0, h1, ?_, ?_, ?_⟩
            · rw [Int.toNat_of_nonneg hm0]; exact hf
            · rw [pfx, ← hE, List.append_nil]
            · rw [Int.toNat_of_nonneg hm0]
        · rw [if_neg hf]
          exact .inl ⟨12, by omega, rfl⟩
    · refine ⟨_, pp_at hL hlen hD hp hn hcr (by rw [decide_eq_false hg]; exact j1_true), .inl ⟨11, by omega, rfl⟩⟩
theorem no_slash (a : Int) : ∀ x ∈ fmt a, x ≠ 47 := by
  have h : ∀ i x, x ∈ dg (byteOf a i) → x ≠ 47 := by
    intro i x hx
    have := dg_dg _ (by have := byteOf_lt a i; omega) x hx
    unfold isDg at this; omega
  intro x hx
  simp only [fmt, quad, tail, List.mem_append, List.mem_cons, List.not_mem_nil, or_false] at hx
  rcases hx with hx | hx | hx | hx | hx | hx | hx
  · exact h _ _ hx
  · omega
  · exact h _ _ hx
  · omega
  · exact h _ _ hx
  · omega
  · exact h _ _ hx
theorem by_pfx (a : Int) (n : Nat) (hn : n ≤ 32) : By (pfx a n) := (by_fmt a).app (By.app (a := [47]) (by intro x hx; simp at hx; omega) (by_dg n (by omega)))
theorem pp_pfx {a : Int} {n : Nat} (h0 : 0 ≤ a) (h1 : a < 4294967296) (hf : flt a n = 0) : Ev (fun k => addr_ParsePrefix.f k (strOfNums (pfx a n))) (a, (n : Int), 0) := by
  have hn := flt_zero hf
  have hd := dg_len n
  have hl := len_fmt a
  have hnum := num_dg (m := n) (R := []) (top := 32) (by intro x hx; cases hx) stop_nil (by omega) (by omega)
  rw [List.append_nil] at hnum
  have hj := j1_false (m := n) h0 h1
  rw [if_pos hf] at hj
  refine pp_at (D := fmt a) (Q := dg n) (by_pfx a n (by omega)) (by simp; omega) (no_slash a) (parse_fmt h0 h1) hnum (by omega) ?_
  rw [decide_eq_true ⟨rfl, by omega, rfl⟩]
  exact hj

/-! Hardware addresses. -/
theorem hex_all : ∀ m : Nat, m < 256 → 0 ≤ hexD (bt hexs ((m : Int) / 16)) ∧ 0 ≤ hexD (bt hexs ((m : Int) % 16)) ∧ (Go.bits .or .i64 (hexD (bt hexs ((m : Int) / 16)) * 16) (hexD (bt hexs ((m : Int) % 16)))) % 256 = (m : Int) := by
  decide +kernel
theorem or_all : ∀ a : Nat, a < 16 → ∀ b : Nat, b < 16 → (Go.bits .or .i64 ((a : Int) * 16) (b : Int)) % 256 = (a : Int) * 16 + b := by decide +kernel
theorem hexD_all : ∀ c : Nat, c < 256 → 0 ≤ hexD (c : Int) → hexD (c : Int) < 16 ∧ bt hexs (hexD (c : Int)) = if 65 ≤ (c : Int) ∧ (c : Int) ≤ 70 then (c : Int) + 32 else c := by decide +kernel
def mac (M : Nat → Int) : List Int := (List.range 17).map (macByte M)
theorem by_mac (M : Nat → Int) : By (mac M) := by
  intro x hx
  obtain ⟨j, _, rfl⟩ := List.mem_map.mp hx
  unfold macByte
  have h1 := bt_range hexs (M (j / 3) / 16)
  have h2 := bt_range hexs (M (j / 3) % 16)
  split
  · omega
  · split <;> omega
theorem bt_mac (M : Nat → Int) (i : Nat) (hi : i < 17) : bt (strOfNums (mac M)) (i : Int) = macByte M i := by
  rw [bt_txt (by_mac M) i (by simpa [mac] using hi)]
  simp [mac]
theorem mac_here {M : Nat → Int} {j : Nat} (hj : j < 6) (h : 0 ≤ M j ∧ M j < 256) : pok (strOfNums (mac M)) j ∧ pv (strOfNums (mac M)) j = M j := by
  obtain ⟨m, hm⟩ : ∃ m : Nat, M j = (m : Int) := ⟨(M j).toNat, by omega⟩
  obtain ⟨a1, a2, a3⟩ := hex_all m (by omega)
  have b1 : bt (strOfNums (mac M)) (3 * (j : Int)) = bt hexs ((m : Int) / 16) := by
    have := bt_mac M (3 * j) (by omega)
    rw [show 3 * (j : Int) = ((3 * j : Nat) : Int) from by omega, this, macByte, if_pos (by omega), show 3 * j / 3 = j from by omega, hm]
  have b2 : bt (strOfNums (mac M)) (3 * (j : Int) + 1) = bt hexs ((m : Int) % 16) := by
    have := bt_mac M (3 * j + 1) (by omega)
    rw [show 3 * (j : Int) + 1 = ((3 * j + 1 : Nat) : Int) from by omega, this, macByte, if_neg (by omega), if_pos (by omega), show (3 * j + 1) / 3 = j from by omega, hm]
  have b3 : j < 5 → bt (strOfNums (mac M)) (3 * (j : Int) + 2) = 58 := by
    intro hj5
    have := bt_mac M (3 * j + 2) (by omega)
    rw [show 3 * (j : Int) + 2 = ((3 * j + 2 : Nat) : Int) from by omega, this, macByte, if_neg (by omega), if_neg (by omega)]
  unfold pok pv
  rw [b1, b2]
  exact ⟨⟨a1, a2, b3⟩, by rw [a3, hm]⟩
theorem parse_mac {a b c d e f : Int} (ha : byteIn a) (hb : byteIn b) (hc : byteIn c) (hd : byteIn d) (he : byteIn e) (hf : byteIn f) :
    addr_ParseMAC.f (strOfNums (mac (macFn a b c d e f))) = some (a, b, c, d, e, f, 0) := by
  have h : ∀ j, j < 6 → pok (strOfNums (mac (macFn a b c d e f))) j ∧ pv (strOfNums (mac (macFn a b c d e f))) j = macFn a b c d e f j := by
    intro j hj
    refine mac_here hj ?_
    have : j = 0 ∨ j = 1 ∨ j = 2 ∨ j = 3 ∨ j = 4 ∨ j = 5 := by omega
    rcases this with rfl | rfl | rfl | rfl | rfl | rfl
    · exact ha
    · exact hb
    · exact hc
    · exact hd
    · exact he
    · exact hf
  unfold addr_ParseMAC.f
  rw [if_pos]
  · rw [(h 0 (by omega)).2, (h 1 (by omega)).2, (h 2 (by omega)).2, (h 3 (by omega)).2, (h 4 (by omega)).2, (h 5 (by omega)).2]
    rfl
  · refine ⟨by rw [txt_size]; simp [mac], ?_⟩
    unfold macAll
    rw [List.all_eq_true]
    intro j hj
    exact decide_eq_true (h j (List.mem_range.mp hj)).1
theorem format_mac {a b c d e f : Int} (ha : byteIn a) (hb : byteIn b) (hc : byteIn c) (hd : byteIn d) (he : byteIn e) (hf : byteIn f) :
    addr_FormatMAC.f a b c d e f = some (strOfNums (mac (macFn a b c d e f))) := by
  unfold addr_FormatMAC.f
  rw [if_pos ⟨ha, hb, hc, hd, he, hf⟩]
  rfl
/-- the text, small letters for capitals, is what FormatMAC writes of what was read -/
theorem mac_low {s : ByteArray} (hp : ∀ j, j < 6 → pok s j) {M : Nat → Int} (hM : ∀ j, j < 6 → M j = pv s j) (i : Nat) (hi : i < 17) :
    macByte M i = if 65 ≤ bt s (i : Int) ∧ bt s (i : Int) ≤ 70 then bt s (i : Int) + 32 else bt s (i : Int) := by
  have hj : i / 3 < 6 := by omega
  obtain ⟨p1, p2, p3⟩ := hp (i / 3) hj
  have hx : ∀ c : Int, 0 ≤ c ∧ c ≤ 255 → 0 ≤ hexD c → hexD c < 16 ∧ bt hexs (hexD c) = if 65 ≤ c ∧ c ≤ 70 then c + 32 else c := by
    intro c hc h
    obtain ⟨n, rfl⟩ : ∃ n : Nat, c = (n : Int) := ⟨c.toNat, by omega⟩
    exact hexD_all n (by omega) h
  obtain ⟨g1, g2⟩ := hx _ (bt_range s (3 * ((i / 3 : Nat) : Int))) p1
  obtain ⟨g3, g4⟩ := hx _ (bt_range s (3 * ((i / 3 : Nat) : Int) + 1)) p2
  have e : M (i / 3) = hexD (bt s (3 * ((i / 3 : Nat) : Int))) * 16 + hexD (bt s (3 * ((i / 3 : Nat) : Int) + 1)) := by
    rw [hM _ hj]
    unfold pv
    have := or_all (hexD (bt s (3 * ((i / 3 : Nat) : Int)))).toNat (by omega) (hexD (bt s (3 * ((i / 3 : Nat) : Int) + 1))).toNat (by omega)
    rwa [Int.toNat_of_nonneg p1, Int.toNat_of_nonneg p2] at this
  unfold macByte
  by_cases h0 : i % 3 = 0
  · rw [if_pos h0, e, show (hexD (bt s (3 * ((i / 3 : Nat) : Int))) * 16 + hexD (bt s (3 * ((i / 3 : Nat) : Int) + 1))) / 16 = hexD (bt s (3 * ((i / 3 : Nat) : Int))) from by omega, g2,
      show 3 * ((i / 3 : Nat) : Int) = (i : Int) from by omega]
  · rw [if_neg h0]
    by_cases h1 : i % 3 = 1
    · rw [if_pos h1, e, show (hexD (bt s (3 * ((i / 3 : Nat) : Int))) * 16 + hexD (bt s (3 * ((i / 3 : Nat) : Int) + 1))) % 16 = hexD (bt s (3 * ((i / 3 : Nat) : Int) + 1)) from by omega, g4,
        show 3 * ((i / 3 : Nat) : Int) + 1 = (i : Int) from by omega]
    · rw [if_neg h1]
      have := p3 (by omega)
      rw [show 3 * ((i / 3 : Nat) : Int) + 2 = (i : Int) from by omega] at this
      rw [this, if_neg (by omega)]
end Go.Proofs.YtncpcjphljfcpaaDoor.Txt
