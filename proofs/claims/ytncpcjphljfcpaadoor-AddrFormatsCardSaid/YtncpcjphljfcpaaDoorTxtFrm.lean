/- The document's writers of addresses and prefixes, and spans, membership and classes: they say just what addr says. -/
import Derived.Test.YtncpcjphljfcpaaDoorTxtPfx
namespace Go.Proofs.YtncpcjphljfcpaaDoor.Txt
open Go.RowKit Go.Proofs.YtncpcjphljfcpaaDoor.PPar Go.Proofs.YtncpcjphljfcpaaDoorW.PrintWords Go.Proofs.YtncpcjphljfcpaaDoorW.PrintLast Go.Proofs.YtncpcjphljfcpaaDoorW.PrintMore

theorem itoa_ev {n : Int} (h0 : 0 ≤ n) (h1 : n < 256) : strconv_Itoa.f n = some (strOfNums (dg n.toNat)) := by
  have := itoa_all n.toNat (by omega)
  rwa [Int.toNat_of_nonneg h0] at this
theorem reffmt_step {n : Int} {i : Nat} {T : List Int} {r : ByteArray} (h0 : 0 ≤ n) (h1 : n < 4294967296) (hi : i < 3) (hT : T.length ≤ 1000)
    (hr : Ev (fun k => weftref1_Format.l0 k (n / 256) (strOfNums (dg (n / 256 % 256).toNat ++ 46 :: T)) ((i + 1 : Nat) : Int)) r) : Ev (fun k => weftref1_Format.l0 k n (strOfNums T) (i : Int)) r := by
  refine Ev.step (fun k => ?_) hr
  have hl := dg_len (n / 256 % 256).toNat
  simp only [weftref1_Format.l0]
  rw [if_pos (by omega), Int.tdiv_eq_ediv_of_nonneg h0, w64 (n := n / 256) (by omega) (by omega), Int.tmod_eq_emod_of_nonneg (by omega), itoa_ev (by omega) (by omega), Option.bind_some,
    if_pos (by rw [txt_size]; omega), show (⟨#[46]⟩ : ByteArray) = strOfNums [46] from by decide, txt_app, if_pos (by rw [txt_size, txt_size]; simp; omega), txt_app, w64 (by omega) (by omega)]
  simp
theorem refformat_ev {a : Int} (h0 : 0 ≤ a) (h1 : a < 4294967296) : Ev (fun k => weftref1_Format.f k a) (strOfNums (fmt a)) := by
  have l0 := dg_len (byteOf a 0)
  have l1 := dg_len (byteOf a 1)
  have l2 := dg_len (byteOf a 2)
  have l3 := dg_len (byteOf a 3)
  have e0 : (a / 256 / 256 / 256 % 256).toNat = byteOf a 0 := by unfold byteOf; rw [show a / 2 ^ (24 - 8 * 0) = a / 16777216 from rfl]; omega
  have e1 : (a / 256 / 256 % 256).toNat = byteOf a 1 := by unfold byteOf; rw [show a / 2 ^ (24 - 8 * 1) = a / 65536 from rfl]; omega
  have e2 : (a / 256 % 256).toNat = byteOf a 2 := by unfold byteOf; rw [show a / 2 ^ (24 - 8 * 2) = a / 256 from rfl]
  have e3 : (a % 256).toNat = byteOf a 3 := by unfold byteOf; rw [show a / 2 ^ (24 - 8 * 3) = a / 1 from rfl]; omega
  have hgo : Ev (fun k => weftref1_Format.l0 k a (strOfNums (dg (byteOf a 3))) 0) (strOfNums (fmt a)) := by
    refine reffmt_step (i := 0) h0 h1 (by omega) (by omega) ?_
    rw [e2]
    refine reffmt_step (i := 1) (by omega) (by omega) (by omega) (by simp; omega) ?_
    rw [e1]
    refine reffmt_step (i := 2) (by omega) (by omega) (by omega) (by simp; omega) ?_
    rw [e0]
    refine Ev.step (f := fun _ => some (strOfNums (fmt a))) (fun k => ?_) (Ev.now _)
    simp only [weftref1_Format.l0]
    rw [if_neg (by omega)]
    simp [fmt, quad, tail]
  refine Ev.congr (fun k => ?_) hgo
  unfold weftref1_Format.f
  rw [w64 (n := a) (by omega) (by omega), Int.tmod_eq_emod_of_nonneg h0, itoa_ev (by omega) (by omega), Option.bind_some, e3]
theorem refpfx_ev {a b : Int} (h0 : 0 ≤ a) (h1 : a < 4294967296) :
    Ev (fun k => weftref1_FormatPrefix.f k a b) (if flt a b = 0 then (strOfNums (pfx a b.toNat), 0) else (⟨#[]⟩, flt a b)) := by
  unfold weftref1_FormatPrefix.f
  refine Ev.bind (reffault_ev h0 h1) ?_
  by_cases h : flt a b = 0
  · simp only [if_pos h]
    obtain ⟨hb0, hb1⟩ := flt_zero h
    refine Ev.bind (refformat_ev h0 h1) ?_
    have e : strOfNums (fmt a) ++ (⟨#[47]⟩ : ByteArray) ++ strOfNums (dg b.toNat) = strOfNums (pfx a b.toNat) := by
      rw [show (⟨#[47]⟩ : ByteArray) = strOfNums [47] from by decide, txt_app, txt_app]
      simp [pfx]
    have hl := len_fmt a
    have hd := dg_len b.toNat
    have c1 : (strOfNums (fmt a)).size + 1 ≤ 9223372036854775807 := by rw [txt_size]; omega
    have c2 : (strOfNums (fmt a) ++ (⟨#[47]⟩ : ByteArray)).size + (strOfNums (dg b.toNat)).size ≤ 9223372036854775807 := by
      rw [show (⟨#[47]⟩ : ByteArray) = strOfNums [47] from by decide, txt_app, txt_size, txt_size]; simp; omega
    simp only [if_pos c1, itoa_ev hb0 (by omega : b < 256), Option.bind_some, if_pos c2, e]
    exact Ev.now _
  · simp only [if_neg h]
    exact Ev.now _

/-! Spans, membership, classes. -/
theorem and_high (x k : Nat) (hk : k ≤ 32) (hx : x < 4294967296) : x &&& (4294967296 - 2 ^ k) = x / 2 ^ k * 2 ^ k := by
  have h1 : x / 2 ^ k * 2 ^ k = (x >>> k) <<< k := by rw [Nat.shiftRight_eq_div_pow, Nat.shiftLeft_eq]
  rw [h1]
  have hp : 0 < 2 ^ k := Nat.two_pow_pos k
  apply Nat.eq_of_testBit_eq
  intro i
  have e : 4294967296 - 2 ^ k = 2 ^ 32 - ((2 ^ k - 1) + 1) := by omega
  have hle : 2 ^ k ≤ 2 ^ 32 := Nat.pow_le_pow_right (by omega) hk
  rw [Nat.testBit_and, e, Nat.testBit_two_pow_sub_succ (by omega), Nat.testBit_two_pow_sub_one, Nat.testBit_shiftLeft, Nat.testBit_shiftRight]
  by_cases hi : k ≤ i
  · rw [show k + (i - k) = i from by omega]
    by_cases h32 : i < 32
    · simp [hi, h32]
    · have : x.testBit i = false := Nat.testBit_lt_two_pow (by
        have : 2 ^ 32 ≤ 2 ^ i := Nat.pow_le_pow_right (by omega) (by omega)
        omega)
      simp [this]
  · simp [hi]; omega
theorem and_mask {x : Int} {n : Nat} (h0 : 0 ≤ x) (h1 : x < 4294967296) (hn : n ≤ 32) : Go.bits .and .u32 x ((4294967296 - sz n : Nat) : Int) = x - x % (sz n : Int) := by
  have hp := sz_pos n
  have hle := sz_le n
  rw [Go.u32_and _ _ h0 h1 (by omega) (by omega), Int.toNat_natCast]
  have := and_high x.toNat (32 - n) (by omega) (by omega)
  unfold sz at *
  rw [this]
  have e := Nat.div_add_mod x.toNat (2 ^ (32 - n))
  have e2 := mod_sz n h0
  unfold sz at e2
  have e3 : x.toNat / 2 ^ (32 - n) * 2 ^ (32 - n) = x.toNat - x.toNat % 2 ^ (32 - n) := by rw [Nat.mul_comm]; omega
  rw [e3, ← e2]
  have := Nat.mod_le x.toNat (2 ^ (32 - n))
  omega
theorem xor_all : ∀ n : Nat, n < 33 → Go.bits .xor .u32 4294967295 ((4294967296 - sz n : Nat) : Int) = ((sz n - 1 : Nat) : Int) := by decide +kernel
theorem last_eq {a : Int} {n : Nat} (h0 : 0 ≤ a) (h1 : a < 4294967296) (hn : n ≤ 32) (hd : a % (sz n : Int) = 0) :
    addr_last.f a n = some (a + sz n - 1) := by
  have hle := sz_le n
  have hp := sz_pos n
  unfold addr_last.f
  rw [mask_all n (by omega), Option.bind_some, xor_all n (by omega), Go.u32_or _ _ h0 h1 (by omega) (by omega)]
  have e : (((sz n - 1 : Nat) : Int)).toNat = sz n - 1 := by omega
  have hd' : a.toNat % sz n = 0 := by have := mod_sz n h0; omega
  have := Go.nat_join (32 - n) a.toNat (sz n - 1) hd' (by unfold sz at *; omega)
  rw [e, this]
  congr 1
  omega
theorem flt_dvd {a b : Int} (h : flt a b = 0) : a % (sz b.toNat : Int) = 0 := by
  unfold flt at h
  split at h
  · omega
  · split at h
    · assumption
    · omega
/-- a block ends within the addresses -/
theorem block_end : ∀ n : Nat, n < 33 → 4294967296 % (sz n : Int) = 0 := by decide +kernel
theorem end_le {a : Int} {n : Nat} (h1 : a < 4294967296) (hn : n ≤ 32) (hd : a % (sz n : Int) = 0) : a + sz n ≤ 4294967296 := by
  have hp := sz_pos n
  have h2 := block_end n (by omega)
  obtain ⟨x, hx⟩ := Int.dvd_of_emod_eq_zero hd
  obtain ⟨y, hy⟩ := Int.dvd_of_emod_eq_zero h2
  have hlt : (sz n : Int) * x < (sz n : Int) * y := by omega
  have hxy : x < y := Int.lt_of_mul_lt_mul_left hlt (by omega)
  have : (sz n : Int) * (x + 1) ≤ (sz n : Int) * y := Int.mul_le_mul_of_nonneg_left (by omega) (by omega)
  rw [Int.mul_add, Int.mul_one] at this
  omega
def spn (a b : Int) : Int × Int × Int := if flt a b = 0 then (a, a + sz b.toNat - 1, 0) else (0, 0, flt a b)
theorem span_ev {a b : Int} (h0 : 0 ≤ a) (h1 : a < 4294967296) : Ev (fun k => addr_Span.f k a b) (spn a b) := by
  unfold addr_Span.f spn
  refine Ev.bind (fault_ev h0 h1) ?_
  by_cases h : flt a b = 0
  · obtain ⟨hb0, hb1⟩ := flt_zero h
    have hl := last_eq (n := b.toNat) h0 h1 (by omega) (flt_dvd h)
    rw [Int.toNat_of_nonneg hb0] at hl
    simp only [if_pos h, hl, Option.bind_some]
    exact Ev.now _
  · simp only [if_neg h]
    exact Ev.now _
theorem refspan_ev {a b : Int} (h0 : 0 ≤ a) (h1 : a < 4294967296) : Ev (fun k => weftref1_Span.f k a b) (spn a b) := by
  unfold weftref1_Span.f spn
  refine Ev.bind (reffault_ev h0 h1) ?_
  by_cases h : flt a b = 0
  · obtain ⟨hb0, hb1⟩ := flt_zero h
    have hs := size_ev (n := b.toNat) (by omega)
    have he := end_le (n := b.toNat) h1 (by omega) (flt_dvd h)
    have hp := sz_pos b.toNat
    have hle := sz_le b.toNat
    rw [Int.toNat_of_nonneg hb0] at hs
    simp only [if_pos h]
    refine Ev.bind hs ?_
    simp only [w64 (n := a) (by omega) (by omega), w64 (n := a + (sz b.toNat : Int)) (by omega) (by omega), w64 (n := a + (sz b.toNat : Int) - 1) (by omega) (by omega),
      show (a + (sz b.toNat : Int) - 1) % 4294967296 = a + sz b.toNat - 1 from by omega]
    exact Ev.now _
  · simp only [if_neg h]
    exact Ev.now _
def cnt (a b x : Int) : Bool := decide (flt a b = 0 ∧ a ≤ x ∧ x ≤ a + sz b.toNat - 1)
theorem contains_ev {a b x : Int} (h0 : 0 ≤ a) (h1 : a < 4294967296) (hx0 : 0 ≤ x) (hx1 : x < 4294967296) : Ev (fun k => addr_Contains.f k a b x) (cnt a b x) := by
  unfold addr_Contains.f cnt
  refine Ev.bind (valid_ev h0 h1) ?_
  by_cases h : flt a b = 0
  · obtain ⟨hb0, hb1⟩ := flt_zero h
    have hd := flt_dvd h
    have hp := sz_pos b.toNat
    have hm := mask_all b.toNat (by omega)
    rw [Int.toNat_of_nonneg hb0] at hm
    simp only [h, beq_self_eq_true, if_true, hm, Option.bind_some, and_mask (n := b.toNat) hx0 hx1 (by omega), true_and]
    have e : (x - x % (sz b.toNat : Int) == a) = decide (a ≤ x ∧ x ≤ a + sz b.toNat - 1) := by
      have hm0 := Int.emod_nonneg x (show (sz b.toNat : Int) ≠ 0 by omega)
      have hm1 := Int.emod_lt_of_pos x (show (0 : Int) < sz b.toNat by omega)
      by_cases hh : a ≤ x ∧ x ≤ a + sz b.toNat - 1
      · rw [decide_eq_true hh, beq_iff_eq]
        have hd' : (x - a) % (sz b.toNat : Int) = x - a := Int.emod_eq_of_lt (by omega) (by omega)
        have hs : (x - a) % (sz b.toNat : Int) = x % (sz b.toNat : Int) := by rw [Int.sub_emod, hd, Int.sub_zero, Int.emod_emod_of_dvd _ (Int.dvd_refl _)]
        omega
      · rw [decide_eq_false hh, beq_eq_false_iff_ne]
        intro e
        exact hh (by omega)
    rw [e]
    exact Ev.now _
  · have hb : (flt a b == 0) = false := by simpa using h
    simp only [hb, h, false_and, decide_false]
    exact Ev.now _
theorem refcontains_ev {a b x : Int} (h0 : 0 ≤ a) (h1 : a < 4294967296) : Ev (fun k => weftref1_Contains.f k a b x) (cnt a b x) := by
  unfold weftref1_Contains.f cnt
  refine Ev.bind (refspan_ev h0 h1) ?_
  unfold spn
  by_cases h : flt a b = 0
  · simp only [if_pos h, if_true]
    by_cases hx : a ≤ x
    · simp only [h, hx, true_and]; exact Ev.now _
    · simp only [h, hx, true_and, false_and, decide_false]; exact Ev.now _
  · simp only [h, if_false, false_and, decide_false]; exact Ev.now _
theorem class_eq {a : Int} (h0 : 0 ≤ a) (h1 : a < 4294967296) : addr_Class.f a = weftref1_Class.f a := by
  have m8 := and_mask (n := 8) h0 h1 (by omega)
  have m4 := and_mask (n := 4) h0 h1 (by omega)
  have e8 : (sz 8 : Nat) = 16777216 := by decide
  have e4 : (sz 4 : Nat) = 268435456 := by decide
  rw [e8] at m8
  rw [e4] at m4
  have m8 : Go.bits .and .u32 a 4278190080 = a - a % 16777216 := m8
  have m4 : Go.bits .and .u32 a 4026531840 = a - a % 268435456 := m4
  unfold addr_Class.f weftref1_Class.f cls_ct
  rw [m8, m4, w64 (n := a) (by omega) (by omega), Int.tdiv_eq_ediv_of_nonneg h0, w64 (by omega) (by omega)]
  simp only [beq_iff_eq]
  by_cases c1 : a / 16777216 = 0
  · rw [if_pos (show a - a % 16777216 = 0 by omega), if_pos c1]
  rw [if_neg (show ¬ (a - a % 16777216 = 0) by omega), if_neg c1]
  by_cases c2 : a / 16777216 = 127
  · rw [if_pos (show a - a % 16777216 = 2130706432 by omega), if_pos c2]
  rw [if_neg (show ¬ (a - a % 16777216 = 2130706432) by omega), if_neg c2]
  by_cases c3 : a / 16777216 ≥ 240
  · rw [if_neg (show ¬ (a - a % 268435456 = 3758096384) by omega), if_pos (show a - a % 268435456 = 4026531840 by omega), if_pos c3]
  rw [if_neg c3]
  by_cases c4 : a / 16777216 ≥ 224
  · rw [if_pos (show a - a % 268435456 = 3758096384 by omega), if_pos c4]
  rw [if_neg (show ¬ (a - a % 268435456 = 3758096384) by omega), if_neg (show ¬ (a - a % 268435456 = 4026531840) by omega), if_neg c4]
end Go.Proofs.YtncpcjphljfcpaaDoor.Txt
