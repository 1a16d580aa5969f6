/- Texts as rows of byte numbers: what a text holds at a place, its cuts and joins; the decimal form of a number under 256, that addr.digits writes it and that addr.number reads it. No condition beyond what each law names. -/
import Derived.Test.YtncpcjphljfcpaaDoorPParx9
import Derived.Laws.BitsAllLaws
import Derived.Lib.LazyBuf
namespace Go.Proofs.YtncpcjphljfcpaaDoor.Txt
open Go.RowKit Go.Proofs.YtncpcjphljfcpaaDoor.PPar Go.Proofs.YtncpcjphljfcpaaDoorW.PrintWords Go.Proofs.YtncpcjphljfcpaaDoorW.PrintLast Go.Proofs.YtncpcjphljfcpaaDoorW.PrintMore

theorem w64 {n : Int} (h0 : -9223372036854775808 ≤ n) (h1 : n ≤ 9223372036854775807) : wrap64 n = n := by
  unfold wrap64; omega

/-- all are bytes -/
def By (L : List Int) : Prop := ∀ x ∈ L, 0 ≤ x ∧ x < 256
theorem By.app {a b : List Int} (ha : By a) (hb : By b) : By (a ++ b) := by
  intro x hx
  rcases List.mem_append.mp hx with h | h
  · exact ha x h
  · exact hb x h
theorem By.left {a b : List Int} (h : By (a ++ b)) : By a := fun x hx => h x (List.mem_append.mpr (.inl hx))
theorem By.right {a b : List Int} (h : By (a ++ b)) : By b := fun x hx => h x (List.mem_append.mpr (.inr hx))

theorem txt_of (s : ByteArray) : ∃ L, By L ∧ s = strOfNums L := by
  refine ⟨s.data.toList.map fun b => (b.toNat : Int), ?_, ?_⟩
  · intro x hx
    obtain ⟨b, _, rfl⟩ := List.mem_map.mp hx
    have := b.toNat_lt
    omega
  · apply ByteArray.ext
    apply Array.toList_inj.mp
    rw [strOfNums_data, List.map_map]
    conv => lhs; rw [← List.map_id s.data.toList]
    apply List.map_congr_left
    intro b _
    simp
theorem txt_size (L : List Int) : (strOfNums L).size = L.length := strOfNums_size L
theorem byte_back {x : Int} (h0 : 0 ≤ x) (h1 : x < 256) : ((UInt8.ofNat x.toNat).toNat : Int) = x := by
  rw [UInt8.toNat_ofNat']; omega
theorem bt_txt {L : List Int} (hL : By L) (i : Nat) (hi : i < L.length) : bt (strOfNums L) (i : Int) = L[i] := by
  unfold bt
  have hs : (i : Int).toNat < (strOfNums L).size := by rw [txt_size]; simpa using hi
  rw [dif_pos hs]
  have e : (strOfNums L)[(i : Int).toNat]'hs = UInt8.ofNat (L[i]).toNat := by
    show (strOfNums L).data[(i : Int).toNat]'_ = _
    simp [strOfNums]
  rw [e]
  have := hL L[i] (List.getElem_mem hi)
  exact byte_back this.1 this.2
theorem bt_app {a b : List Int} (h : By (a ++ b)) {x : Int} {c : List Int} (hb : b = x :: c) : bt (strOfNums (a ++ b)) (a.length : Int) = x := by
  subst hb
  rw [bt_txt h a.length (by simp)]
  simp
theorem txt_app (a b : List Int) : strOfNums a ++ strOfNums b = strOfNums (a ++ b) := by
  apply ByteArray.ext
  simp [strOfNums, ByteArray.data_append]
theorem txt_toList (L : List Int) : (strOfNums L).toList = L.map fun n => UInt8.ofNat n.toNat := by
  exact Go.Lib.strOfNums_toList L
theorem txt_inj {a b : List Int} (ha : By a) (hb : By b) (h : strOfNums a = strOfNums b) : a = b := by
  have h1 := congrArg (fun s : ByteArray => s.data.toList.map fun b => (b.toNat : Int)) h
  simp only [strOfNums_data, List.map_map] at h1
  have e : ∀ L : List Int, By L → L.map ((fun b : UInt8 => (b.toNat : Int)) ∘ fun n : Int => UInt8.ofNat n.toNat) = L := by
    intro L hL
    induction L with
    | nil => rfl
    | cons x r ih =>
      rw [List.map_cons, ih fun y hy => hL y (List.mem_cons_of_mem _ hy)]
      have := hL x List.mem_cons_self
      simp only [Function.comp]
      rw [byte_back this.1 this.2]
  rwa [e a ha, e b hb] at h1
theorem txt_cut (L : List Int) (a b : Nat) : (strOfNums L).extract a b = strOfNums ((L.take b).drop a) := by
  apply ByteArray.ext
  simp [strOfNums, ByteArray.data_extract, List.drop_take]
theorem txt_drop (L : List Int) (a : Nat) : (strOfNums L).extract a (strOfNums L).size = strOfNums (L.drop a) := by
  rw [txt_cut, txt_size, List.take_length]
theorem txt_nil_iff (L : List Int) : (strOfNums L).toList = ([] : List UInt8) ↔ L = [] := by
  rw [txt_toList]; simp

/-! The decimal form. -/
/-- the decimal form of a number under 1000 -/
def dg (n : Nat) : List Int :=
  if n < 10 then [48 + (n : Int)] else if n < 100 then [48 + (n : Int) / 10, 48 + (n : Int) % 10] else [48 + (n : Int) / 100, 48 + (n : Int) / 10 % 10, 48 + (n : Int) % 10]
def isDg (x : Int) : Prop := 48 ≤ x ∧ x ≤ 57
instance (x : Int) : Decidable (isDg x) := by unfold isDg; exact inferInstance
theorem dg_dg (n : Nat) (h : n < 1000) : ∀ x ∈ dg n, isDg x := by
  unfold dg isDg
  intro x hx
  split at hx
  · simp only [List.mem_singleton] at hx; omega
  · split at hx
    · simp only [List.mem_cons, List.not_mem_nil, or_false] at hx; omega
    · simp only [List.mem_cons, List.not_mem_nil, or_false] at hx; omega
theorem by_dg (n : Nat) (h : n < 1000) : By (dg n) := fun x hx => by have := dg_dg n h x hx; unfold isDg at this; omega
theorem digits_all : ∀ n : Nat, n < 256 → addr_digits.f 4 (n : Int) = some (strOfNums (dg n)) := by decide +kernel
theorem digits_ev {n : Int} (h0 : 0 ≤ n) (h1 : n < 256) : Ev (fun k => addr_digits.f k n) (strOfNums (dg n.toNat)) := by
  refine Ev.of (addr_digits.mono n) (k := 4) ?_
  have := digits_all n.toNat (by omega)
  rwa [Int.toNat_of_nonneg h0] at this
theorem dg_len (n : Nat) : 1 ≤ (dg n).length ∧ (dg n).length ≤ 3 := by
  unfold dg; split
  · simp
  · split <;> simp

/-- the text ends here, or goes on with no digit -/
def Stop (R : List Int) : Prop := ∀ x r, R = x :: r → ¬ isDg x
theorem stop_nil : Stop [] := by intro x r h; cases h
theorem stop_cons {x : Int} {r : List Int} (h : ¬ isDg x) : Stop (x :: r) := by
  intro y s e; cases e; exact h

/-- One round that reads a digit. -/
theorem num_step {k : Nat} {D R : List Int} {x top n : Int} (hb : By (D ++ x :: R)) (hx : isDg x) (hn : 0 ≤ n ∧ n ≤ 1000) (ht : n * 10 + (x - 48) ≤ top) (hlen : D.length ≤ 1000)
    (h0 : ∀ y d, D = y :: d → y ≠ 48) :
    addr_number.l0 (k + 2) (strOfNums (D ++ x :: R)) top n D.length = addr_number.l0 k (strOfNums (D ++ x :: R)) top (n * 10 + (x - 48)) ((D ++ [x]).length : Nat) := by
  have hat := bt_app hb rfl
  obtain ⟨hx0, hx1⟩ := hx
  simp only [addr_number.l0]
  rw [hat, if_pos (by rw [txt_size]; simp; omega), if_pos (by omega), if_pos (by omega), decide_eq_true hx1]
  simp only [addr_number.j1]
  rw [if_pos trivial, if_pos (by omega), if_pos (by rw [txt_size]; simp; omega), hat, show (x - 48) % 256 = x - 48 from by omega, w64 (n := n * 10) (by omega) (by omega),
    w64 (n := n * 10 + (x - 48)) (by omega) (by omega), if_neg (by omega), w64 (n := (D.length : Int) + 1) (by omega) (by omega),
    show (((D ++ [x]).length : Nat) : Int) = (D.length : Int) + 1 from by simp]
  by_cases h1 : (D.length : Int) + 1 > 1
  · rw [if_pos h1, if_pos (by rw [txt_size]; simp; omega)]
    obtain ⟨y, d, rfl⟩ : ∃ y d, D = y :: d := by
      cases D with
      | nil => simp at h1
      | cons y d => exact ⟨y, d, rfl⟩
    have e0 : bt (strOfNums (y :: d ++ x :: R)) 0 = y := by
      have := bt_txt hb 0 (by simp)
      simpa using this
    rw [e0, if_neg (h0 y d rfl)]
  · rw [if_neg h1]
/-- The last round. -/
theorem num_stop {k : Nat} {D R : List Int} {top n : Int} (hb : By (D ++ R)) (hR : Stop R) :
    addr_number.l0 (k + 2) (strOfNums (D ++ R)) top n D.length = some (n, (D.length : Int)) := by
  simp only [addr_number.l0]
  cases R with
  | nil =>
    rw [if_neg (by rw [txt_size]; simp)]
    simp only [addr_number.j1]
    rw [if_neg (by decide)]
  | cons x R =>
    have hat := bt_app hb rfl
    rw [if_pos (by rw [txt_size]; simp; omega), if_pos (by omega), hat]
    have hx := hR x R rfl
    unfold isDg at hx
    by_cases h : x ≥ 48
    · rw [if_pos h, decide_eq_false (by omega)]
      simp only [addr_number.j1]
      rw [if_neg (by decide)]
    · rw [if_neg h]
      simp only [addr_number.j1]
      rw [if_neg (by decide)]
/-- A round that gives up: the number is too large, or a second digit follows a 0. -/
theorem num_fail {k : Nat} {D R : List Int} {x top n : Int} (hb : By (D ++ x :: R)) (hx : isDg x) (hn : 0 ≤ n ∧ n ≤ 1000) (hlen : D.length ≤ 1000)
    (hf : top < n * 10 + (x - 48) ∨ ∃ d, D = 48 :: d) :
    addr_number.l0 (k + 2) (strOfNums (D ++ x :: R)) top n D.length = some (0, 0) := by
  have hat := bt_app hb rfl
  obtain ⟨hx0, hx1⟩ := hx
  simp only [addr_number.l0]
  rw [hat, if_pos (by rw [txt_size]; simp; omega), if_pos (by omega), if_pos (by omega), decide_eq_true hx1]
  simp only [addr_number.j1]
  rw [if_pos trivial, if_pos (by omega), if_pos (by rw [txt_size]; simp; omega), hat, show (x - 48) % 256 = x - 48 from by omega, w64 (n := n * 10) (by omega) (by omega),
    w64 (n := n * 10 + (x - 48)) (by omega) (by omega)]
  by_cases h : n * 10 + (x - 48) > top
  · rw [if_pos h]
  · rw [if_neg h]
    obtain ⟨d, rfl⟩ : ∃ d, D = 48 :: d := by
      rcases hf with hf | hf
      · omega
      · exact hf
    rw [w64 (n := ((48 :: d : List Int).length : Int) + 1) (by omega) (by omega), if_pos (by simp; omega), if_pos (by rw [txt_size]; simp; omega)]
    have e0 : bt (strOfNums (48 :: d ++ x :: R)) 0 = 48 := by
      have := bt_txt hb 0 (by simp)
      simpa using this
    rw [e0, if_pos rfl]

/-- what a decimal form of at most three digits is -/
theorem dg_one : ∀ a : Nat, a < 10 → dg a = [48 + (a : Int)] := by decide +kernel
theorem dg_two : ∀ a : Nat, a < 10 → a ≠ 0 → ∀ b : Nat, b < 10 → dg (a * 10 + b) = [48 + (a : Int), 48 + (b : Int)] := by decide +kernel
theorem dg_three : ∀ a : Nat, a < 10 → a ≠ 0 → ∀ b : Nat, b < 10 → ∀ c : Nat, c < 10 → dg ((a * 10 + b) * 10 + c) = [48 + (a : Int), 48 + (b : Int), 48 + (c : Int)] := by decide +kernel

/-- What addr.number reads: nothing, or a decimal form and no more. -/
theorem num_all {L : List Int} {top : Int} (hb : By L) (ht : 0 ≤ top ∧ top ≤ 255) :
    ∃ m c, Ev (fun k => addr_number.f k (strOfNums L) top) (m, c) ∧ ((m = 0 ∧ c = 0) ∨ (∃ D R, L = D ++ R ∧ D = dg m.toNat ∧ c = (D.length : Int) ∧ 0 ≤ m ∧ m ≤ top ∧ Stop R)) := by
  -- a round's shape
  have start : (∀ k, addr_number.f k (strOfNums L) top = addr_number.l0 k (strOfNums ([] ++ L)) top 0 (([] : List Int).length : Nat)) := fun k => rfl
  have split3 : ∀ R : List Int, Stop R ∨ ∃ x r, R = x :: r ∧ isDg x := by
    intro R
    cases R with
    | nil => exact .inl stop_nil
    | cons x r =>
      by_cases h : isDg x
      · exact .inr ⟨x, r, rfl, h⟩
      · exact .inl (stop_cons h)
  rcases split3 L with hs | ⟨a, r, rfl, ha⟩
  · refine ⟨0, 0, ?_, .inl ⟨rfl, rfl⟩⟩
    refine ⟨2, fun k hk => ?_⟩
    obtain ⟨k, rfl⟩ : ∃ m, k = m + 2 := ⟨k - 2, by omega⟩
    exact num_stop (D := []) hb hs
  have ha' := ha; unfold isDg at ha'
  by_cases h1 : (a - 48) ≤ top
  rotate_left
  · refine ⟨0, 0, ⟨2, fun k hk => ?_⟩, .inl ⟨rfl, rfl⟩⟩
    obtain ⟨k, rfl⟩ : ∃ m, k = m + 2 := ⟨k - 2, by omega⟩
    exact num_fail (D := []) (n := 0) hb ha (by omega) (by simp) (.inl (by omega))
  have s1 : ∀ k, addr_number.f (k + 2) (strOfNums (a :: r)) top = addr_number.l0 k (strOfNums ([a] ++ r)) top (a - 48) (([a] : List Int).length : Nat) := by
    intro k
    have := num_step (k := k) (D := []) (R := r) (top := top) (n := 0) hb ha (by omega) (by omega) (by simp) (by intro y d h; cases h)
    simp only [Int.zero_mul, Int.zero_add] at this
    exact this
  rcases split3 r with hs | ⟨b, r, rfl, hb2⟩
  · refine ⟨a - 48, 1, ⟨4, fun k hk => ?_⟩, .inr ⟨[a], r, rfl, ?_, rfl, by omega, by omega, hs⟩⟩
    · obtain ⟨k, rfl⟩ : ∃ m, k = m + 4 := ⟨k - 4, by omega⟩
      show addr_number.f (k + 2 + 2) _ _ = _
      rw [s1]
      exact num_stop hb hs
    · rw [dg_one _ (by omega)]; congr 1; omega
  have hb2' := hb2; unfold isDg at hb2'
  by_cases h2 : a ≠ 48 ∧ (a - 48) * 10 + (b - 48) ≤ top
  rotate_left
  · refine ⟨0, 0, ⟨4, fun k hk => ?_⟩, .inl ⟨rfl, rfl⟩⟩
    obtain ⟨k, rfl⟩ : ∃ m, k = m + 4 := ⟨k - 4, by omega⟩
    show addr_number.f (k + 2 + 2) _ _ = _
    rw [s1]
    refine num_fail (D := [a]) hb hb2 (by omega) (by simp) ?_
    by_cases h : a = 48
    · exact .inr ⟨[], by rw [h]⟩
    · exact .inl (by omega)
  have s2 : ∀ k, addr_number.f (k + 2 + 2) (strOfNums (a :: b :: r)) top = addr_number.l0 k (strOfNums ([a, b] ++ r)) top ((a - 48) * 10 + (b - 48)) (([a, b] : List Int).length : Nat) := by
    intro k
    rw [s1]
    exact num_step (k := k) (D := [a]) (R := r) hb hb2 (by omega) h2.2 (by simp) (by intro y d h; cases h; exact h2.1)
  rcases split3 r with hs | ⟨c, r, rfl, hb3⟩
  · refine ⟨(a - 48) * 10 + (b - 48), 2, ⟨6, fun k hk => ?_⟩, .inr ⟨[a, b], r, rfl, ?_, rfl, by omega, by omega, hs⟩⟩
    · obtain ⟨k, rfl⟩ : ∃ m, k = m + 6 := ⟨k - 6, by omega⟩
      show addr_number.f (k + 2 + 2 + 2) _ _ = _
      rw [s2]
      exact num_stop hb hs
    · have := dg_two (a - 48).toNat (by omega) (by omega) (b - 48).toNat (by omega)
      rw [show ((a - 48) * 10 + (b - 48)).toNat = (a - 48).toNat * 10 + (b - 48).toNat from by omega, this]
      congr 1
      · omega
      · congr 1; omega
  have hb3' := hb3; unfold isDg at hb3'
  by_cases h3 : ((a - 48) * 10 + (b - 48)) * 10 + (c - 48) ≤ top
  rotate_left
  · refine ⟨0, 0, ⟨6, fun k hk => ?_⟩, .inl ⟨rfl, rfl⟩⟩
    obtain ⟨k, rfl⟩ : ∃ m, k = m + 6 := ⟨k - 6, by omega⟩
    show addr_number.f (k + 2 + 2 + 2) _ _ = _
    rw [s2]
    exact num_fail (D := [a, b]) hb hb3 (by omega) (by simp) (.inl (by omega))
  have s3 : ∀ k, addr_number.f (k + 2 + 2 + 2) (strOfNums (a :: b :: c :: r)) top = addr_number.l0 k (strOfNums ([a, b, c] ++ r)) top (((a - 48) * 10 + (b - 48)) * 10 + (c - 48)) (([a, b, c] : List Int).length : Nat) := by
    intro k
    rw [s2]
    exact num_step (k := k) (D := [a, b]) (R := r) hb hb3 (by omega) h3 (by simp) (by intro y d h; cases h; exact h2.1)
  rcases split3 r with hs | ⟨d, r, rfl, hb4⟩
  · refine ⟨((a - 48) * 10 + (b - 48)) * 10 + (c - 48), 3, ⟨8, fun k hk => ?_⟩, .inr ⟨[a, b, c], r, rfl, ?_, rfl, by omega, by omega, hs⟩⟩
    · obtain ⟨k, rfl⟩ : ∃ m, k = m + 8 := ⟨k - 8, by omega⟩
      show addr_number.f (k + 2 + 2 + 2 + 2) _ _ = _
      rw [s3]
      exact num_stop hb hs
    · have := dg_three (a - 48).toNat (by omega) (by omega) (b - 48).toNat (by omega) (c - 48).toNat (by omega)
      rw [show (((a - 48) * 10 + (b - 48)) * 10 + (c - 48)).toNat = ((a - 48).toNat * 10 + (b - 48).toNat) * 10 + (c - 48).toNat from by omega, this]
      congr 1
      · omega
      · congr 1
        · omega
        · congr 1; omega
  · refine ⟨0, 0, ⟨8, fun k hk => ?_⟩, .inl ⟨rfl, rfl⟩⟩
    obtain ⟨k, rfl⟩ : ∃ m, k = m + 8 := ⟨k - 8, by omega⟩
    show addr_number.f (k + 2 + 2 + 2 + 2) _ _ = _
    rw [s3]
    unfold isDg at hb4
    exact num_fail (D := [a, b, c]) hb hb4 (by omega) (by simp) (.inl (by omega))

/-- the same form is read alike: a decimal form before a stop is read whole -/
theorem num_dg {m : Nat} {R : List Int} {top : Int} (hR : By R) (hs : Stop R) (hm : (m : Int) ≤ top) (ht : top ≤ 255) :
    Ev (fun k => addr_number.f k (strOfNums (dg m ++ R)) top) ((m : Int), ((dg m).length : Int)) := by
  have hB : By (dg m ++ R) := (by_dg m (by omega)).app hR
  unfold dg at hB ⊢
  split
  · rename_i h
    rw [if_pos h] at hB
    refine ⟨4, fun k hk => ?_⟩
    obtain ⟨k, rfl⟩ : ∃ m, k = m + 4 := ⟨k - 4, by omega⟩
    have := num_step (k := k + 2) (D := []) (top := top) (n := 0) hB (by unfold isDg; omega) (by omega) (by omega) (by simp) (by intro y d h; cases h)
    refine Eq.trans this ?_
    rw [show (0 : Int) * 10 + (48 + (m : Int) - 48) = m from by omega]
    exact num_stop (D := [48 + (m : Int)]) hB hs
  · rename_i h
    rw [if_neg h] at hB
    split
    · rename_i h2
      rw [if_pos h2] at hB
      refine ⟨6, fun k hk => ?_⟩
      obtain ⟨k, rfl⟩ : ∃ m, k = m + 6 := ⟨k - 6, by omega⟩
      have s1 := num_step (k := k + 4) (D := []) (top := top) (n := 0) hB (by unfold isDg; omega) (by omega) (by omega) (by simp) (by intro y d h; cases h)
      refine Eq.trans s1 ?_
      have s2 := num_step (k := k + 2) (D := [48 + (m : Int) / 10]) (top := top) (n := (0 : Int) * 10 + (48 + (m : Int) / 10 - 48)) hB (by unfold isDg; omega) (by omega) (by omega) (by simp) (by intro y d h; cases h; omega)
      refine Eq.trans s2 ?_
      rw [show ((0 : Int) * 10 + (48 + (m : Int) / 10 - 48)) * 10 + (48 + (m : Int) % 10 - 48) = m from by omega]
      exact num_stop (D := [48 + (m : Int) / 10, 48 + (m : Int) % 10]) hB hs
    · rename_i h2
      rw [if_neg h2] at hB
      refine ⟨8, fun k hk => ?_⟩
      obtain ⟨k, rfl⟩ : ∃ m, k = m + 8 := ⟨k - 8, by omega⟩
      have s1 := num_step (k := k + 6) (D := []) (top := top) (n := 0) hB (by unfold isDg; omega) (by omega) (by omega) (by simp) (by intro y d h; cases h)
      refine Eq.trans s1 ?_
      have s2 := num_step (k := k + 4) (D := [48 + (m : Int) / 100]) (top := top) (n := (0 : Int) * 10 + (48 + (m : Int) / 100 - 48)) hB (by unfold isDg; omega) (by omega) (by omega) (by simp) (by intro y d h; cases h; omega)
      refine Eq.trans s2 ?_
      have s3 := num_step (k := k + 2) (D := [48 + (m : Int) / 100, 48 + (m : Int) / 10 % 10]) (top := top) (n := ((0 : Int) * 10 + (48 + (m : Int) / 100 - 48)) * 10 + (48 + (m : Int) / 10 % 10 - 48)) hB (by unfold isDg; omega) (by omega) (by omega) (by simp) (by intro y d h; cases h; omega)
      refine Eq.trans s3 ?_
      rw [show (((0 : Int) * 10 + (48 + (m : Int) / 100 - 48)) * 10 + (48 + (m : Int) / 10 % 10 - 48)) * 10 + (48 + (m : Int) % 10 - 48) = m from by omega]
      exact num_stop (D := [48 + (m : Int) / 100, 48 + (m : Int) / 10 % 10, 48 + (m : Int) % 10]) hB hs
end Go.Proofs.YtncpcjphljfcpaaDoor.Txt
