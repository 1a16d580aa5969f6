/- How a Spec, a list of subnets and a script come in; one pool; the rows in numbers. Conditions: what comes in is of its kind. -/
import Derived.Test.YtebnlhjakiipjaaPaF
import Derived.Test.YtebnlhjakiipjaaXOpen
import Derived.KernelRfl
set_option linter.unusedVariables false
set_option linter.unusedSimpArgs false
namespace Go.Proofs.Ytebnlhjakiipjaa.Pl
section P0
open Go.RowKit Go.Maps Go.Proofs.YtebnlhjakiipjaaW.PrintWords Go.Proofs.YtebnlhjakiipjaaW.PrintMore Go.Proofs.Ytebnlhjakiipjaa.PPlf
/-- a Spec as it comes in -/
structure SpIn (w : World) (na nl s lo hi : Int) (A : Option Addr) (kept : List S27) (c : Nat) : Prop where
  na0 : 0 ≤ na
  na1 : na < 4294967296
  lo0 : 0 ≤ lo
  lo1 : lo < 4294967296
  hi0 : 0 ≤ hi
  hi1 : hi < 4294967296
  len : kept.length ≤ 140737488355328
  cap : kept.length ≤ c
  C : Kd.C k27 w A kept.length kept
  W : ∀ k, k ∈ kept → 0 ≤ k.f0 ∧ k.f0 < 4294967296
def spV (na nl s lo hi : Int) (A : Option Addr) (n c : Nat) : Value := .agg #[.int .u32 na, .int .i64 nl, .int .i64 s, .int .u32 lo, .int .u32 hi, .slice A n c]
section
variable {w : World} {na nl s lo hi : Int} {A : Option Addr} {kept : List S27} {c : Nat}
theorem SpIn.below {w' : World} (h : SpIn w na nl s lo hi A kept c) (hb : Below w.heap.size w w') : SpIn w' na nl s lo hi A kept c := ⟨h.na0, h.na1, h.lo0, h.lo1, h.hi0, h.hi1, h.len, h.cap, Kd.C_below h.C hb, h.W⟩
theorem SpIn.bad (h : SpIn w na nl s lo hi A kept c) (hE : newE na nl s lo hi kept ≠ 0) : Calls Try.prog 13 #[.agg #[.int .u32 na, .int .i64 nl, .int .i64 s, .int .u32 lo, .int .u32 hi, .slice A kept.length c]] w fun e w' => e = .returned (.tuple #[.pointer none, .int .i64 (newE na nl s lo hi kept)]) ∧ Below w.heap.size w w' := by
  refine (made13 w na nl s lo hi A kept c (by have := h.len; unfold maxLen; omega) h.na0 h.na1 h.lo0 h.lo1 h.hi0 h.hi1 h.C h.W).mono ?_
  rintro e w' ⟨⟨_, rfl⟩ | ⟨he, _⟩, hb⟩
  · exact ⟨rfl, hb⟩
  · exact absurd he hE
theorem SpIn.good (h : SpIn w na nl s lo hi A kept c) (hE : newE na nl s lo hi kept = 0) : MOk (newM na nl s lo hi kept) ∧ Calls Try.prog 13 #[.agg #[.int .u32 na, .int .i64 nl, .int .i64 s, .int .u32 lo, .int .u32 hi, .slice A kept.length c]] w fun e w' => ∃ b F, e = .returned (.tuple #[.pointer (some ⟨b, 0, none⟩), .int .i64 0]) ∧ Po w' b (newM na nl s lo hi kept) [] F ∧ (∀ k, k ∈ F → w.heap.size ≤ k) ∧ Below w.heap.size w w' := by
  refine ⟨newM_ok h.na0 h.na1 h.lo0 h.hi1 hE, (made13 w na nl s lo hi A kept c (by have := h.len; unfold maxLen; omega) h.na0 h.na1 h.lo0 h.lo1 h.hi0 h.hi1 h.C h.W).mono ?_⟩
  rintro e w' ⟨⟨he, _⟩ | ⟨_, _, b, F, rfl, h1, h2⟩, hb⟩
  · exact absurd hE he
  · exact ⟨b, F, rfl, h1, h2, hb⟩
theorem SpIn.snd (h : SpIn w na nl s lo hi A kept c) : Calls Try.prog 14 #[.agg #[.int .u32 na, .int .i64 nl, .int .i64 s, .int .u32 lo, .int .u32 hi, .slice A kept.length c]] w fun e w' => e = .returned (.bool (decide (newE na nl s lo hi kept = 0))) ∧ Below w.heap.size w w' :=
  weftlaw10_sound.calls 4000 na nl s lo hi A c kept _ w h.C h.cap (sound_all h.na0 h.na1 h.lo0 h.lo1 h.hi0 h.hi1 h.W)
end
/-- a list of subnets as it comes in -/
structure PxIn (w : World) (A : Option Addr) (l : List S27) (c : Nat) : Prop where
  len : l.length ≤ 140737488355328
  cap : l.length ≤ c
  C : Kd.C k27 w A l.length l
  W : ∀ k, k ∈ l → 0 ≤ k.f0 ∧ k.f0 < 4294967296
theorem PxIn.at_ {w wr : World} {A : Option Addr} {l : List S27} {c i : Nat} (h : PxIn w A l c) (hb : Below w.heap.size w wr) (hi : i < l.length) : ∃ ad a b, A = some ad ∧ wr.cell? (ad.add (i * 2)) = some (.int .u32 a) ∧ wr.cell? ⟨(ad.add (i * 2)).block, (ad.add (i * 2)).off + 1, none⟩ = some (.int .i64 b) ∧ l[i] = ⟨a, b⟩ ∧ 0 ≤ a ∧ a < 4294967296 := by
  obtain ⟨ad, e, c0, c1⟩ := at_T27 (Kd.C_below h.C hb) (i : Int) (by omega) (by omega)
  rw [Int.toNat_natCast, rd_at hi] at c0 c1
  have := h.W _ (List.getElem_mem hi)
  exact ⟨ad, _, _, e, c0, c1, rfl, this.1, this.2⟩
end P0
section P1
open Go.RowKit Go.Proofs.YtebnlhjakiipjaaW.PrintWords Go.Proofs.YtebnlhjakiipjaaW.PrintMore Go.Proofs.Ytebnlhjakiipjaa.PPlf Go.Proofs.YtebnlhjakiipjaaW.XOpen
def W27 (x : S27) : Prop := (fun n => (Lit.int .u32 n).wf = true) x.f0 ∧ ((fun n => (Lit.int .i64 n).wf = true) x.f1)
def m27 (x : S27) : Nat := ((fun _ => 1) x.f0 + ((fun _ => 1) x.f1)) + 1
theorem o27 {B : {H : Type} → DataW H → Nat} {BA : {H : Type} → List (DataW H) → Nat} (hB : IsBulk B BA) : Opens B Try.prog 27 k27 W27 m27 :=
  opens_iso (fun x : S27 => (x.f0, x.f1)) (fun a => ⟨⟨a.1, a.2⟩, rfl⟩) (opens_struct hB Try.underlying27 [(25, 0), (3, 1)] (by kernel_rfl) (by kernel_rfl) (fields_cons hB (o := 0) (by kernel_rfl) (opens_int hB Try.underlying25) (fields_one hB (o := 1) (by kernel_rfl) (opens_int hB Try.underlying3))))
structure S30 where
  f0 : S27
  f1 : Int
  f2 : Int
  f3 : Int
  f4 : List S27
def k30 : Kd S30 := Kd.iso (Kd.pair k27 (Kd.pair (Kd.int .i64) (Kd.pair (Kd.int .u32) (Kd.pair (Kd.int .u32) (Kd.slice 27 k27))))) (fun x : S30 => (x.f0, x.f1, x.f2, x.f3, x.f4))
theorem k30_open {w : World} {x : S30} {cs : List Value} (h : k30.K w x cs) : ∃ A c, cs = [.int .u32 x.f0.f0, .int .i64 x.f0.f1, .int .i64 x.f1, .int .u32 x.f2, .int .u32 x.f3, .slice A x.f4.length c] ∧ x.f4.length ≤ c ∧ k27.C w A x.f4.length x.f4 := by
  obtain ⟨c0, _, rfl, h0, _, _, rfl, rfl, _, _, rfl, rfl, _, _, rfl, rfl, A, c, rfl, hl, hC⟩ := h
  obtain rfl := k27_open h0
  exact ⟨A, c, rfl, hl, hC⟩
def W30 (x : S30) : Prop := W27 x.f0 ∧ ((fun n => (Lit.int .i64 n).wf = true) x.f1 ∧ ((fun n => (Lit.int .u32 n).wf = true) x.f2 ∧ ((fun n => (Lit.int .u32 n).wf = true) x.f3 ∧ ((RowOf W27 16) x.f4))))
def m30 (x : S30) : Nat := (m27 x.f0 + ((fun _ => 1) x.f1 + ((fun _ => 1) x.f2 + ((fun _ => 1) x.f3 + ((fun l => sum m27 l + 1) x.f4))))) + 1
theorem o30 {B : {H : Type} → DataW H → Nat} {BA : {H : Type} → List (DataW H) → Nat} (hB : IsBulk B BA) : Opens B Try.prog 30 k30 W30 m30 :=
  opens_iso (fun x : S30 => (x.f0, x.f1, x.f2, x.f3, x.f4)) (fun a => ⟨⟨a.1, a.2.1, a.2.2.1, a.2.2.2.1, a.2.2.2.2⟩, rfl⟩) (opens_struct hB Try.underlying30 [(27, 0), (3, 2), (25, 3), (25, 4), (28, 5)] (by kernel_rfl) (by kernel_rfl) (fields_cons hB (o := 0) (by kernel_rfl) (o27 hB) (fields_cons hB (o := 2) (by kernel_rfl) (opens_int hB Try.underlying3) (fields_cons hB (o := 3) (by kernel_rfl) (opens_int hB Try.underlying25) (fields_cons hB (o := 4) (by kernel_rfl) (opens_int hB Try.underlying25) (fields_one hB (o := 5) (by kernel_rfl) (opens_slice hB Try.underlying28 (by kernel_rfl) (by kernel_rfl) (o27 hB))))))))
/-- a step that comes in -/
structure S49 where
  f0 : Int
  f1 : Int
  f2 : S27
def z49 : S49 := ⟨0, 0, z27⟩
def k49 : Kd S49 := Kd.iso (Kd.pair (Kd.int .i64) (Kd.pair (Kd.int .i64) k27)) (fun x : S49 => (x.f0, x.f1, x.f2))
theorem k49_open {w : World} {x : S49} {cs : List Value} (h : k49.K w x cs) : cs = [.int .i64 x.f0, .int .i64 x.f1, .int .u32 x.f2.f0, .int .i64 x.f2.f1] := by
  obtain ⟨_, _, rfl, rfl, _, _, rfl, rfl, h0⟩ := h
  obtain rfl := k27_open h0
  rfl
def W49 (x : S49) : Prop := (fun n => (Lit.int .i64 n).wf = true) x.f0 ∧ ((fun n => (Lit.int .i64 n).wf = true) x.f1 ∧ W27 x.f2)
def m49 (x : S49) : Nat := ((fun _ => 1) x.f0 + ((fun _ => 1) x.f1 + m27 x.f2)) + 1
theorem o49 {B : {H : Type} → DataW H → Nat} {BA : {H : Type} → List (DataW H) → Nat} (hB : IsBulk B BA) : Opens B Try.prog 49 k49 W49 m49 :=
  opens_iso (fun x : S49 => (x.f0, x.f1, x.f2)) (fun a => ⟨⟨a.1, a.2.1, a.2.2⟩, rfl⟩) (opens_struct hB Try.underlying49 [(3, 0), (3, 1), (27, 2)] (by kernel_rfl) (by kernel_rfl) (fields_cons hB (o := 0) (by kernel_rfl) (opens_int hB Try.underlying3) (fields_cons hB (o := 1) (by kernel_rfl) (opens_int hB Try.underlying3) (fields_one hB (o := 2) (by kernel_rfl) (o27 hB)))))
def rd49 (xs : List S49) (i : Nat) : S49 := xs.getD i z49
theorem at49 {w : World} {A : Option Addr} {n : Nat} {xs : List S49} (h : Kd.C k49 w A n xs) (i : Nat) (h1 : i < n) : ∃ ad, A = some ad ∧ w.cell? (ad.add (i * 4)) = some (.int .i64 (rd49 xs i).f0) ∧ w.cell? ⟨(ad.add (i * 4)).block, (ad.add (i * 4)).off + 1, none⟩ = some (.int .i64 (rd49 xs i).f1) ∧ w.cell? ⟨(ad.add (i * 4)).block, (ad.add (i * 4)).off + 2, none⟩ = some (.int .u32 (rd49 xs i).f2.f0) ∧ w.cell? ⟨(ad.add (i * 4)).block, (ad.add (i * 4)).off + 3, none⟩ = some (.int .i64 (rd49 xs i).f2.f1) := by
  obtain ⟨ad, c, e, _, hK, hc0⟩ := Kd.C_get h z49 (i : Int) (by omega) (by omega)
  have hc : ∀ j u, c[j]? = some u → w.cell? (ad.add (i * 4 + j)) = some u := hc0
  obtain rfl := k49_open hK
  exact ⟨ad, e, hc 0 _ rfl, by rw [← add_field _ _ 1 (by omega)]; exact hc 1 _ rfl, by rw [← add_field _ _ 2 (by omega)]; exact hc 2 _ rfl, by rw [← add_field _ _ 3 (by omega)]; exact hc 3 _ rfl⟩
theorem wf32_inv {a : Int} (h : (Lit.int .u32 a).wf = true) : 0 ≤ a ∧ a < 4294967296 := by
  have e1 : IntKind.u32.min = 0 := by decide
  have e2 : IntKind.u32.max = 4294967295 := by decide
  simp [Lit.wf, e1, e2] at h
  omega
theorem SpIn.of {w : World} {x : S30} {A : Option Addr} {c : Nat} (h : W30 x) (hl : x.f4.length ≤ c) (hC : k27.C w A x.f4.length x.f4) : SpIn w x.f0.f0 x.f0.f1 x.f1 x.f2 x.f3 A x.f4 c := by
  obtain ⟨h0, _, h2, h3, h4⟩ := h
  have a := wf32_inv h0.1
  have b := wf32_inv h2
  have d := wf32_inv h3
  exact ⟨a.1, a.2, b.1, b.2, d.1, d.2, by have := h4.2.1; omega, hl, hC, fun k hk => wf32_inv (h4.2.2 k hk).1⟩
theorem PxIn.of {w : World} {l : List S27} {A : Option Addr} {c : Nat} (h : RowOf W27 16 l) (hl : l.length ≤ c) (hC : k27.C w A l.length l) : PxIn w A l c :=
  ⟨by have := h.2.1; omega, hl, hC, fun k hk => wf32_inv (h.2.2 k hk).1⟩
end P1
section P2
open Go.RowKit Go.Maps Go.Proofs.YtebnlhjakiipjaaW.PrintWords Go.Proofs.YtebnlhjakiipjaaW.PrintMore Go.Proofs.Ytebnlhjakiipjaa.PPlf
theorem filter_rise {l : List Int} {p : Int → Bool} (h : l.Pairwise (· < ·)) : (l.filter p).Pairwise (· < ·) := h.sublist List.filter_sublist
theorem len_parts (l : List Int) (p : Int → Bool) : (l.filter p).length + (l.filter (fun x => !p x)).length = l.length := by
  induction l with
  | nil => rfl
  | cons x l ih =>
    rw [List.filter_cons, List.filter_cons]
    cases h : p x
    · simp only [Bool.not_false, if_true, Bool.false_eq_true, if_false, List.length_cons]; omega
    · simp only [Bool.not_true, if_true, Bool.false_eq_true, if_false, List.length_cons]; omega
theorem upto_len {a b : Int} (h : a ≤ b + 1) : ((upto a b).length : Int) = b + 1 - a := by
  unfold upto
  rw [List.length_map, List.length_range]; omega
/-- free in the row -/
def isFree (M : Pm) (L : List Int) (n : Int) : Bool := !(decide (n ∈ M.kept) || decide (n ∈ L))
def freeN (M : Pm) (L : List Int) : Nat := ((upto M.mn M.mx).filter (isFree M L)).length
theorem roomL_eq {M : Pm} {L : List Int} (hM : MOk M) (hr : L.Pairwise (· < ·)) : roomL M L = (freeN M L : Int) := by
  have h1 := len_parts (upto M.mn M.mx) (fun x => decide (x ∈ L))
  have h2 := len_parts ((upto M.mn M.mx).filter (fun x => !decide (x ∈ L))) (fun x => decide (x ∈ M.kept))
  have e1 : (upto M.mn M.mx).filter (fun x => decide (x ∈ L)) = L.filter (fun x => decide (M.mn ≤ x) && decide (x ≤ M.mx)) :=
    rise_ext (filter_rise (upto_pair _ _)) (filter_rise hr) (fun x => by
      rw [List.mem_filter, List.mem_filter, upto_mem]
      simp only [decide_eq_true_eq, Bool.and_eq_true]
      exact ⟨fun h => ⟨h.2, h.1⟩, fun h => ⟨h.2, h.1⟩⟩)
  have e2 : ((upto M.mn M.mx).filter (fun x => !decide (x ∈ L))).filter (fun x => decide (x ∈ M.kept)) = (M.kept.filter (fun x => !decide (x ∈ L))).filter (fun x => decide (M.mn ≤ x) && decide (x ≤ M.mx)) :=
    rise_ext (filter_rise (filter_rise (upto_pair _ _))) (filter_rise (filter_rise hM.rise.1)) (fun x => by
      rw [List.mem_filter, List.mem_filter, List.mem_filter, List.mem_filter, upto_mem]
      simp only [decide_eq_true_eq, Bool.and_eq_true, Bool.not_eq_true', decide_eq_false_iff_not]
      exact ⟨fun h => ⟨⟨h.2, h.1.2⟩, h.1.1⟩, fun h => ⟨⟨h.2, h.1.2⟩, h.1.1⟩⟩)
  have e3 : ((upto M.mn M.mx).filter (fun x => !decide (x ∈ L))).filter (fun x => !decide (x ∈ M.kept)) = (upto M.mn M.mx).filter (isFree M L) := by
    rw [List.filter_filter]
    congr 1
    funext x
    unfold isFree
    rw [Bool.not_or]
  have h3 := upto_len (a := M.mn) (b := M.mx) (by have := hM.mm; omega)
  unfold roomL cntR freeN
  rw [e1] at h1
  rw [e2, e3] at h2
  omega
theorem free_step {M : Pm} {L L' : List Int} {n : Int} (h0 : M.mn ≤ n) (h1 : n ≤ M.mx) (hk : n ∉ M.kept) (hn : n ∉ L) (h : ∀ x, x ∈ L' ↔ x ∈ L ∨ x = n) : freeN M L = freeN M L' + 1 := by
  have hp := len_parts ((upto M.mn M.mx).filter (isFree M L)) (fun x => decide (x = n))
  have e1 : ((upto M.mn M.mx).filter (isFree M L)).filter (fun x => decide (x = n)) = [n] :=
    rise_ext (filter_rise (filter_rise (upto_pair _ _))) (List.pairwise_singleton _ _) (fun x => by
      rw [List.mem_filter, List.mem_filter, upto_mem, List.mem_singleton]
      simp only [decide_eq_true_eq]
      constructor
      · exact fun h => h.2
      · rintro rfl
        refine ⟨⟨⟨h0, h1⟩, ?_⟩, rfl⟩
        unfold isFree; simp [hk, hn])
  have e2 : ((upto M.mn M.mx).filter (isFree M L)).filter (fun x => !decide (x = n)) = (upto M.mn M.mx).filter (isFree M L') := by
    rw [List.filter_filter]
    congr 1
    funext x
    unfold isFree
    have := h x
    by_cases c1 : x ∈ L
    · simp [c1, this.2 (.inl c1)]
    · by_cases c2 : x = n
      · simp [c2, (h n).2 (.inr rfl)]
      · have c3 : x ∉ L' := fun h => (this.1 h).elim c1 c2
        simp [c1, c2, c3]
  rw [e1, e2] at hp
  unfold freeN
  rw [List.length_singleton] at hp
  omega
theorem takeF_some {M : Pm} {L : List Int} {n : Int} (h : takeF M L = some n) : M.mn ≤ n ∧ n ≤ M.mx ∧ n ∉ M.kept ∧ n ∉ L := by
  have h1 := List.mem_of_find?_eq_some h
  have h2 := List.find?_some h
  rw [upto_mem] at h1
  simp only [Bool.not_eq_true', Bool.or_eq_false_iff, decide_eq_false_iff_not] at h2
  exact ⟨h1.1, h1.2, h2.1, h2.2⟩
theorem takeF_low {M : Pm} {L : List Int} {n : Int} (h : takeF M L = some n) : ∀ x, M.mn ≤ x → x < n → x ∈ M.kept ∨ x ∈ L := fun x h0 h1 => by
  have hs := takeF_some h
  refine Classical.byContradiction fun hc => ?_
  have hk : x ∉ M.kept := fun h => hc (.inl h)
  have hl : x ∉ L := fun h => hc (.inr h)
  have e : upto M.mn M.mx = upto M.mn x ++ upto (x + 1) M.mx := by
    refine rise_ext (upto_pair _ _) ?_ (fun y => ?_)
    · rw [List.pairwise_append]
      exact ⟨upto_pair _ _, upto_pair _ _, fun a ha b hb => by rw [upto_mem] at ha hb; omega⟩
    · rw [List.mem_append, upto_mem, upto_mem, upto_mem]; omega
  unfold takeF at h
  rw [e, List.find?_append] at h
  cases h4 : (upto M.mn x).find? (fun n => !(decide (n ∈ M.kept) || decide (n ∈ L))) with
  | none =>
    have := List.find?_eq_none.1 h4 x (by rw [upto_mem]; omega)
    simp [hk, hl] at this
  | some y =>
    rw [h4] at h
    have hy := List.mem_of_find?_eq_some h4
    rw [upto_mem] at hy
    have : y = n := by simpa using h
    omega
theorem takeF_none {M : Pm} {L : List Int} (h : takeF M L = none) : ∀ x, M.mn ≤ x → x ≤ M.mx → x ∈ M.kept ∨ x ∈ L := fun x h0 h1 => by
  have := List.find?_eq_none.1 h x (by rw [upto_mem]; omega)
  simp only [Bool.not_eq_true', Bool.not_eq_false, Bool.or_eq_true, decide_eq_true_eq] at this
  exact this
theorem takeF_zero {M : Pm} {L : List Int} : takeF M L = none ↔ freeN M L = 0 := by
  constructor
  · intro h
    unfold freeN
    rw [List.length_eq_zero_iff, List.filter_eq_nil_iff]
    exact fun x hx => List.find?_eq_none.1 h x hx
  · intro h
    unfold freeN at h
    rw [List.length_eq_zero_iff, List.filter_eq_nil_iff] at h
    exact List.find?_eq_none.2 h
/-- a pool of the call's own -/
structure Sg (w0 : World) (p : Nat) (M : Pm) (L : List Int) (F : List Nat) (w : World) : Prop where
  p1 : Po w p M L F
  l1 : Lok M L
  n1 : ∀ k, k ∈ F → w0.heap.size ≤ k
  bel : Below w0.heap.size w0 w
section
variable {w0 w w' : World} {p : Nat} {M : Pm} {L : List Int} {F : List Nat} {P : List Int → Prop}
theorem Sg.below (h : Sg w0 p M L F w) (hb : Below w.heap.size w w') : Sg w0 p M L F w' := ⟨h.p1.below hb, h.l1, h.n1, below_step h.bel hb⟩
theorem Sg.left (h : Sg w0 p M L F w) (hl : Left w p M F P w') : ∃ L' F', Sg w0 p M L' F' w' ∧ P L' ∧ Turn w w' F := by
  obtain ⟨L', F', h1, h2, h3, h4, h5⟩ := hl
  refine ⟨L', F', ⟨h1, h2, fun k hk => ?_, h.bel.trans (h4.below h.bel.size h.n1)⟩, h3, h4⟩
  rcases h5 k hk with h6 | h6
  · exact h.n1 k h6
  · have := h.bel.size; omega
/-- a block of prefixes is none of the pool's -/
theorem Po.ne27 (h : Po w p M L F) {k : Nat} {cs : Array Value} (hk : w.heap[k]? = some (.cells cs 27 (0, 0))) : k ∉ F := fun hf => by
  obtain ⟨vk, bm, vr, R, h1, _, rfl⟩ := h
  simp only [PlF, List.mem_cons, List.mem_append, Option.mem_toList, Option.mem_def] at hf
  rcases hf with rfl | rfl | hf | hf
  · rw [h1.blk] at hk; exact absurd (Obj.cells.inj (Option.some.inj hk)).2.1 (by decide)
  · obtain ⟨es, clock, hm⟩ := h1.mp.map
    rw [hm] at hk; cases hk
  · obtain ⟨c, hc⟩ := own_typed h1.rk k hf
    rw [hc] at hk; exact absurd (Obj.cells.inj (Option.some.inj hk)).2.1 (by decide)
  · obtain ⟨c, hc⟩ := own_typed h1.rr k hf
    rw [hc] at hk; exact absurd (Obj.cells.inj (Option.some.inj hk)).2.1 (by decide)
theorem Sg.row (h : Sg w0 p M L F w) {base : Nat} {v : Value} {xs : List S27} (hr : Row w base v xs) (ht : Turn w w' F) : Row w' base v xs :=
  Row.step hr (fun k hk => ht.block k (own_lt hr k hk) (by obtain ⟨c, hc⟩ := own_typed hr k hk; exact h.p1.ne27 hc))
/-- a row of prefixes has grown -/
theorem Sg.grow (h : Sg w0 p M L F w) {v : Value} {xs : List S27} {base : Nat} (hr : Row w base v xs) (hb : w0.heap.size ≤ base) (hg : w.grownBy w' v.ownBlock) : Sg w0 p M L F w' := by
  refine ⟨?_, h.l1, h.n1, h.bel.grown hg h.bel.size (fun k hk => Nat.le_trans hb (own_base hr k hk))⟩
  exact h.p1.turn (G := v.ownBlock.toList) (Turn.of_grown hg (fun b hb => by simp [hb])) (fun k hk hf => by
    have hk2 : v.ownBlock = some k := by simpa using hf
    obtain ⟨c, hc⟩ := own_typed hr k hk2
    exact h.p1.ne27 hc hk)
end
end P2
section P3
open Go.RowKit Go.Maps Go.Proofs.YtebnlhjakiipjaaW.PrintWords Go.Proofs.YtebnlhjakiipjaaW.PrintMore Go.Proofs.Ytebnlhjakiipjaa.PPlf
theorem Row.at_ {w : World} {base : Nat} {v : Value} {xs : List S27} (h : Row w base v xs) {i : Nat} (hi : i < xs.length) : ∃ g c, v = .slice (some ⟨g, 0, none⟩) xs.length c ∧ w.cell? ⟨g, i * 2, none⟩ = some (.int .u32 xs[i].f0) ∧ w.cell? ⟨g, i * 2 + 1, none⟩ = some (.int .i64 xs[i].f1) := by
  obtain ⟨g, c, rfl, _, _⟩ := World.ownsRow.form h (by omega)
  obtain ⟨a, b⟩ := pfC_get xs i xs[i] (List.getElem?_eq_getElem hi)
  have c1 := World.ownsRow.cells h (g := g) rfl _ _ a
  have c2 := World.ownsRow.cells h (g := g) rfl _ _ b
  rw [add_plain] at c1 c2
  exact ⟨g, c, rfl, c1, c2⟩
section
variable {w0 w w' : World} {p : Nat} {M : Pm} {L : List Int} {F : List Nat}
theorem Sg.claimC (hM : MOk M) (h : Sg w0 p M L F w) (a l : Int) (ha0 : 0 ≤ a) (ha1 : a < 4294967296) :
    Calls Try.prog 15 #[.pointer (some ⟨p, 0, none⟩), .agg #[.int .u32 a, .int .i64 l]] w fun e w' => e = .returned (.int .i64 (claimE M L a l)) ∧ ∃ L' F', Sg w0 p M L' F' w' ∧ (∀ x, x ∈ L' ↔ x ∈ L ∨ (claimE M L a l = 0 ∧ x = a / sizeF M.s)) ∧ Turn w w' F := by
  refine (claimP hM h.l1 h.p1 a l ha0 ha1).mono ?_
  rintro e w' ⟨rfl, hl⟩
  exact ⟨rfl, h.left hl⟩
theorem Sg.freeC (hM : MOk M) (h : Sg w0 p M L F w) (a l : Int) (ha0 : 0 ≤ a) (ha1 : a < 4294967296) :
    Calls Try.prog 18 #[.pointer (some ⟨p, 0, none⟩), .agg #[.int .u32 a, .int .i64 l]] w fun e w' => e = .returned (.int .i64 (freeE M L a l)) ∧ ∃ L' F', Sg w0 p M L' F' w' ∧ (∀ x, x ∈ L' ↔ x ∈ L ∧ ¬ (freeE M L a l = 0 ∧ x = a / sizeF M.s)) ∧ Turn w w' F := by
  refine (freeP hM h.l1 h.p1 a l ha0 ha1).mono ?_
  rintro e w' ⟨rfl, hl⟩
  exact ⟨rfl, h.left hl⟩
theorem Sg.takeC (hM : MOk M) (h : Sg w0 p M L F w) :
    Calls Try.prog 17 #[.pointer (some ⟨p, 0, none⟩)] w fun e w' => e = .returned (takeV M (takeF M L)) ∧ ∃ L' F', Sg w0 p M L' F' w' ∧ (∀ x, x ∈ L' ↔ x ∈ L ∨ takeF M L = some x) ∧ Turn w w' F := by
  refine (takeP hM h.l1 h.p1).mono ?_
  rintro e w' ⟨rfl, hl⟩
  exact ⟨rfl, h.left hl⟩
theorem Sg.roomC (hM : MOk M) (h : Sg w0 p M L F w) : Calls Try.prog 16 #[.pointer (some ⟨p, 0, none⟩)] w fun e w' => e = .returned (.int .i64 ((freeN M L : Nat) : Int)) ∧ Below w.heap.size w w' := by
  rw [← roomL_eq hM h.p1.rise]
  exact roomP hM h.l1 h.p1
theorem MOk.rng (hM : MOk M) {n : Int} (h0 : M.mn ≤ n) (h1 : n ≤ M.mx) : 0 ≤ n * sizeF M.s ∧ n * sizeF M.s < 4294967296 := by
  have hs := sizeF_rng hM.ok.s0 hM.ok.s1
  have h3 := Int.mul_le_mul_of_nonneg_right h1 (show 0 ≤ sizeF M.s by omega)
  have := hM.row.mx1
  have := hM.row.mn0
  exact ⟨Int.mul_nonneg (by omega) (by omega), by omega⟩
theorem free_zero (hM : MOk M) {n : Int} (hn : n ∈ L) : freeE M L (n * sizeF M.s) M.s = 0 := freeE_zero.2 ⟨⟨rfl, hM.ok.s0, hM.ok.s1, mul_mod _ _⟩, by rw [mul_div hM.ok.s0 hM.ok.s1]; exact hn⟩
theorem freeN_le (hM : MOk M) : freeN M L ≤ 4294967296 := by
  have h1 := List.length_filter_le (isFree M L) (upto M.mn M.mx)
  have h2 := upto_len (a := M.mn) (b := M.mx) (by have := hM.mm; omega)
  have h3 := fits_sub hM.ok.s0 hM.ok.s1 (show 0 ≤ M.mx by have := hM.row.mn0; have := hM.mm; omega) hM.row.mx1
  have := hM.row.mn0
  unfold freeN
  omega
end
/-- what was got: none twice, all of the row, all taken -/
structure GOk (M : Pm) (L G : List Int) : Prop where
  nd : G.Nodup
  all : ∀ g, g ∈ G → M.mn ≤ g ∧ g ≤ M.mx ∧ g ∉ M.kept ∧ g ∈ L
theorem GOk.snoc {M : Pm} {L L' G : List Int} {n : Int} (h : GOk M L G) (ht : takeF M L = some n) (hm : ∀ x, x ∈ L' ↔ x ∈ L ∨ takeF M L = some x) : GOk M L' (G ++ [n]) := by
  have hs := takeF_some ht
  refine ⟨?_, fun g hg => ?_⟩
  · rw [List.nodup_append]
    exact ⟨h.nd, by simp, fun a ha b hb e => by rw [List.mem_singleton] at hb; subst hb; subst e; exact hs.2.2.2 (h.all a ha).2.2.2⟩
  · rcases List.mem_append.1 hg with hg | hg
    · have := h.all g hg; exact ⟨this.1, this.2.1, this.2.2.1, (hm g).2 (.inl this.2.2.2)⟩
    · rw [List.mem_singleton] at hg; subst hg; exact ⟨hs.1, hs.2.1, hs.2.2.1, (hm g).2 (.inr ht)⟩
end P3
section P4
open Go.RowKit Go.Proofs.YtebnlhjakiipjaaW.PrintWords Go.Proofs.YtebnlhjakiipjaaW.PrintMore Go.Proofs.Ytebnlhjakiipjaa.PPlf
/-- the subnet of a number -/
def px (s x : Int) : S27 := ⟨x * sizeF s, s⟩
theorem px_inj {s x y : Int} (h0 : 0 ≤ s) (h1 : s ≤ 32) (h : px s x = px s y) : x = y := by
  have e : x * sizeF s = y * sizeF s := (S27.ext_iff'.1 h).1
  rw [← mul_div (x := x) h0 h1, e, mul_div h0 h1]
theorem nodup_sub_len {α : Type} [DecidableEq α] : ∀ {l m : List α}, l.Nodup → (∀ x, x ∈ l → x ∈ m) → l.length ≤ m.length
  | [], m, _, _ => Nat.zero_le _
  | x :: l, m, hn, h => by
    obtain ⟨h1, h2⟩ := List.nodup_cons.1 hn
    have hx : x ∈ m := h x List.mem_cons_self
    have := nodup_sub_len (l := l) (m := m.erase x) h2 (fun y hy => (List.mem_erase_of_ne (fun e => h1 (by rw [← e]; exact hy))).2 (h y (List.mem_cons_of_mem _ hy)))
    rw [List.length_erase_of_mem hx] at this
    have : 0 < m.length := List.length_pos_of_mem hx
    rw [List.length_cons]; omega
theorem same_len {α : Type} [DecidableEq α] {l m : List α} (h1 : l.Nodup) (h2 : m.Nodup) (h : ∀ x, x ∈ l ↔ x ∈ m) : l.length = m.length :=
  Nat.le_antisymm (nodup_sub_len h1 (fun x hx => (h x).1 hx)) (nodup_sub_len h2 (fun x hx => (h x).2 hx))
/-- what a Spec that may be and the pool's making have to do with one another -/
structure SpF (M : Pm) (s lo hi : Int) (kept : List S27) : Prop where
  hs : M.s = s
  lo : M.mn * sizeF s = lo
  hi : M.mx * sizeF s = hi
  kn : kept.Nodup
  km : ∀ k, k ∈ kept ↔ ∃ x, x ∈ M.kept ∧ k = px s x
  ki : ∀ x, x ∈ M.kept → ins M.na M.nl (x * sizeF s)
  ri : ∀ x, M.mn ≤ x → x ≤ M.mx → ins M.na M.nl (x * sizeF s)
theorem SpF.of {na nl s lo hi : Int} {kept : List S27} (h : newE na nl s lo hi kept = 0) : SpF (newM na nl s lo hi kept) s lo hi kept := by
  obtain ⟨h1, h2, h3⟩ := newE_ok.1 h
  have s0 : 0 ≤ s := by have := h2.nls; have := h2.nl0; omega
  have hs := sizeF_rng s0 h2.s32
  have hv : vld na nl := ⟨h2.nl0, by have := h2.nls; have := h2.s32; omega, h2.dn⟩
  refine ⟨rfl, div_mul h2.dlo, div_mul h2.dhi, ?_, fun k => ?_, fun x hx => ?_, fun x hx0 hx1 => ?_⟩
  · exact List.Pairwise.of_map (fun x : S27 => x.f0) (fun a b hab e => hab (by rw [e])) h3.nd
  · show _ ↔ ∃ x, x ∈ SortI.srt (kept.map (fun k => k.f0 / sizeF s)) ∧ _
    constructor
    · intro hk
      refine ⟨k.f0 / sizeF s, (SortI.srt_mem _ _).2 (List.mem_map.2 ⟨k, hk, rfl⟩), ?_⟩
      obtain ⟨e1, e2, _⟩ := h3.all k hk
      exact S27.ext_iff'.2 ⟨(div_mul e2.2.2).symm, e1⟩
    · rintro ⟨x, hx, rfl⟩
      obtain ⟨k, hk, rfl⟩ := List.mem_map.1 ((SortI.srt_mem _ _).1 hx)
      obtain ⟨e1, e2, _⟩ := h3.all k hk
      have : px s (k.f0 / sizeF s) = k := S27.ext_iff'.2 ⟨div_mul e2.2.2, e1.symm⟩
      rw [this]; exact hk
  · obtain ⟨k, hk, rfl⟩ := List.mem_map.1 ((SortI.srt_mem _ _).1 hx)
    obtain ⟨e1, e2, e3⟩ := h3.all k hk
    rw [div_mul e2.2.2]; exact e3
  · have e1 := div_mul h2.dlo
    have e2 := div_mul h2.dhi
    have k1 := Int.mul_le_mul_of_nonneg_right (show lo / sizeF s ≤ x from hx0) (show 0 ≤ sizeF s by omega)
    have k2 := Int.mul_le_mul_of_nonneg_right (show x ≤ hi / sizeF s from hx1) (show 0 ≤ sizeF s by omega)
    exact ⟨hv, by have := h2.lo0; show na ≤ _; omega, by have := h2.hi1; show _ < na + sizeF nl; omega⟩
/-- the list of those that are somebody's -/
structure OutOk (M : Pm) (L : List Int) (out : List S27) : Prop where
  nd : out.Nodup
  mem : ∀ k, k ∈ out ↔ ∃ x, x ∈ L ∧ k = px M.s x
section
variable {M : Pm} {L L' : List Int} {out kept : List S27} {s lo hi a l : Int}
theorem OutOk.nil (M : Pm) : OutOk M [] [] := ⟨by simp, fun k => by simp⟩
theorem OutOk.px_mem (hM : MOk M) (h : OutOk M L out) (x : Int) : px M.s x ∈ out ↔ x ∈ L := by
  rw [h.mem]
  constructor
  · rintro ⟨y, hy, e⟩
    rw [px_inj hM.ok.s0 hM.ok.s1 e]; exact hy
  · exact fun hx => ⟨x, hx, rfl⟩
theorem SpF.px_mem (hM : MOk M) (h : SpF M s lo hi kept) (x : Int) : px s x ∈ kept ↔ x ∈ M.kept := by
  rw [h.km]
  constructor
  · rintro ⟨y, hy, e⟩
    have hs := h.hs
    rw [px_inj (by rw [← hs]; exact hM.ok.s0) (by rw [← hs]; exact hM.ok.s1) e]; exact hy
  · exact fun hx => ⟨x, hx, rfl⟩
theorem sub_px (hM : MOk M) : sub M a l ↔ (⟨a, l⟩ : S27) = px M.s (a / sizeF M.s) := by
  constructor
  · rintro ⟨h1, h2⟩
    have h3 : a % sizeF M.s = 0 := by have := h2.2.2; rw [h1] at this; exact this
    exact S27.ext_iff'.2 ⟨(div_mul h3).symm, h1⟩
  · intro h
    obtain ⟨h1, h2⟩ := S27.ext_iff'.1 h
    have h1' : a = a / sizeF M.s * sizeF M.s := h1
    have h2' : l = M.s := h2
    refine ⟨h2', by rw [h2']; exact ⟨hM.ok.s0, hM.ok.s1, by rw [h1']; exact mul_mod _ _⟩⟩
theorem free_iff (hM : MOk M) (h : OutOk M L out) : freeE M L a l = 0 ↔ (⟨a, l⟩ : S27) ∈ out := by
  rw [freeE_zero, sub_px hM]
  constructor
  · rintro ⟨e, hx⟩
    rw [e]; exact (h.px_mem hM _).2 hx
  · intro hm
    obtain ⟨x, hx, e⟩ := (h.mem _).1 hm
    have e1 : a = x * sizeF M.s := (S27.ext_iff'.1 e).1
    have : a / sizeF M.s = x := by rw [e1, mul_div hM.ok.s0 hM.ok.s1]
    rw [this]; exact ⟨e, hx⟩
theorem row_iff (hM : MOk M) (hS : SpF M s lo hi kept) (x : Int) : lo ≤ x * sizeF s ∧ x * sizeF s ≤ hi ↔ M.mn ≤ x ∧ x ≤ M.mx := by
  have hs : 1 ≤ sizeF s := by rw [← hS.hs]; exact (sizeF_rng hM.ok.s0 hM.ok.s1).1
  rw [← hS.lo, ← hS.hi]
  exact and_congr (Int.mul_le_mul_right (by omega)) (Int.mul_le_mul_right (by omega))
/-- what may be claimed, as the statement says it -/
def mayC (s lo hi : Int) (kept out : List S27) (a l : Int) : Prop := ((l = s ∧ a % sizeF s = 0 ∧ lo ≤ a ∧ a ≤ hi) ∨ (⟨a, l⟩ : S27) ∈ kept) ∧ (⟨a, l⟩ : S27) ∉ out
theorem claim_iff (hM : MOk M) (hS : SpF M s lo hi kept) (h : OutOk M L out) : claimE M L a l = 0 ↔ mayC s lo hi kept out a l := by
  have hs := hS.hs
  rw [claimE_zero]
  unfold okC mayC
  constructor
  · rintro ⟨⟨h1, h2, h3⟩, h4⟩
    have e := (sub_px hM).1 h1
    have hr := row_iff hM hS (a / sizeF M.s)
    have ea : a = a / sizeF M.s * sizeF s := by have := (S27.ext_iff'.1 e).1; rw [← hs]; exact this
    refine ⟨?_, fun hm => h4 ?_⟩
    · by_cases c : a / sizeF M.s ∈ M.kept
      · right
        rw [hs] at c
        rw [e, hs]; exact (hS.px_mem hM _).2 c
      · left
        have hrow : M.mn ≤ a / sizeF M.s ∧ a / sizeF M.s ≤ M.mx := by
          unfold away at h3
          refine Classical.byContradiction fun hc => h3 ⟨?_, c⟩
          omega
        have := hr.2 hrow
        rw [← ea] at this
        exact ⟨h1.1.trans hs, by rw [ea]; exact mul_mod _ _, this.1, this.2⟩
    · rw [e] at hm
      exact (h.px_mem hM _).1 hm
  · rintro ⟨h1, h2⟩
    have key : sub M a l ∧ ins M.na M.nl a ∧ ¬ away M (a / sizeF M.s) := by
      rcases h1 with ⟨e1, e2, e3, e4⟩ | hk
      · have hsub : sub M a l := ⟨e1.trans hs.symm, by rw [e1, ← hs]; exact ⟨hM.ok.s0, hM.ok.s1, by rw [hs]; exact e2⟩⟩
        have ea : a / sizeF M.s * sizeF s = a := by rw [hs]; exact div_mul e2
        have hrow := (row_iff hM hS (a / sizeF M.s)).1 (by rw [ea]; exact ⟨e3, e4⟩)
        refine ⟨hsub, ?_, fun haw => ?_⟩
        · have := hS.ri _ hrow.1 hrow.2
          rw [ea] at this; exact this
        · have := haw.1; omega
      · obtain ⟨x, hx, e⟩ := (hS.km _).1 hk
        have e1 : a = x * sizeF s := (S27.ext_iff'.1 e).1
        have e2 : l = s := (S27.ext_iff'.1 e).2
        have ex : a / sizeF M.s = x := by rw [e1, hs, mul_div (by rw [← hs]; exact hM.ok.s0) (by rw [← hs]; exact hM.ok.s1)]
        refine ⟨(sub_px hM).2 (by rw [ex, hs]; exact e), by rw [e1]; exact hS.ki x hx, fun haw => haw.2 (by rw [ex]; exact hx)⟩
    refine ⟨key, fun hc => h2 ?_⟩
    rw [(sub_px hM).1 key.1]
    exact (h.px_mem hM _).2 hc
theorem OutOk.snoc (hM : MOk M) (h : OutOk M L out) {n : Int} (hn : n ∉ L) (hm : ∀ x, x ∈ L' ↔ x ∈ L ∨ x = n) : OutOk M L' (out ++ [px M.s n]) := by
  refine ⟨?_, fun k => ?_⟩
  · rw [List.nodup_append]
    exact ⟨h.nd, by simp, fun x hx y hy e => by rw [List.mem_singleton] at hy; subst hy; subst e; exact hn ((h.px_mem hM n).1 hx)⟩
  · rw [List.mem_append, List.mem_singleton, h.mem]
    constructor
    · rintro (⟨x, hx, e⟩ | e)
      · exact ⟨x, (hm x).2 (.inl hx), e⟩
      · exact ⟨n, (hm n).2 (.inr rfl), e⟩
    · rintro ⟨x, hx, e⟩
      rcases (hm x).1 hx with h1 | rfl
      · exact .inl ⟨x, h1, e⟩
      · exact .inr e
theorem OutOk.claim (hM : MOk M) (h : OutOk M L out) (hc : claimE M L a l = 0) (hm : ∀ x, x ∈ L' ↔ x ∈ L ∨ (claimE M L a l = 0 ∧ x = a / sizeF M.s)) : OutOk M L' (out ++ [⟨a, l⟩]) := by
  obtain ⟨⟨h1, _⟩, h2⟩ := claimE_zero.1 hc
  rw [(sub_px hM).1 h1]
  exact h.snoc hM h2 (fun x => by rw [hm x]; exact or_congr_right ⟨fun h => h.2, fun h => ⟨hc, h⟩⟩)
theorem OutOk.same (h : OutOk M L out) (hm : ∀ x, x ∈ L' ↔ x ∈ L) : OutOk M L' out := ⟨h.nd, fun k => by
  rw [h.mem]
  exact ⟨fun ⟨x, hx, e⟩ => ⟨x, (hm x).2 hx, e⟩, fun ⟨x, hx, e⟩ => ⟨x, (hm x).1 hx, e⟩⟩⟩
theorem OutOk.free (hM : MOk M) (h : OutOk M L out) (hm : ∀ x, x ∈ L' ↔ x ∈ L ∧ ¬ (freeE M L a l = 0 ∧ x = a / sizeF M.s)) : OutOk M L' (out.filter (fun x => decide (x ≠ ⟨a, l⟩))) := by
  refine ⟨h.nd.sublist List.filter_sublist, fun k => ?_⟩
  rw [List.mem_filter, h.mem]
  simp only [decide_eq_true_eq]
  constructor
  · rintro ⟨⟨x, hx, e⟩, hne⟩
    refine ⟨x, (hm x).2 ⟨hx, fun hc => hne ?_⟩, e⟩
    have := (freeE_zero.1 hc.1).1
    rw [e, hc.2, (sub_px hM).1 this]
  · rintro ⟨x, hx, e⟩
    obtain ⟨h1, h2⟩ := (hm x).1 hx
    refine ⟨⟨x, h1, e⟩, fun he => h2 ?_⟩
    rw [e] at he
    have ha : x * sizeF M.s = a := (S27.ext_iff'.1 he).1
    have hl : M.s = l := (S27.ext_iff'.1 he).2
    have hx2 : a / sizeF M.s = x := by rw [← ha, mul_div hM.ok.s0 hM.ok.s1]
    exact ⟨freeE_zero.2 ⟨(sub_px hM).2 (by rw [hx2]; exact he.symm), by rw [hx2]; exact h1⟩, hx2.symm⟩
/-- all of the row below N is kept or somebody's -/
theorem below_cover (hM : MOk M) (hS : SpF M s lo hi kept) (h : OutOk M L out) {N B : Int} (h0 : M.mn ≤ N) (hall : ∀ x, M.mn ≤ x → x < N → x ∈ M.kept ∨ x ∈ L) (hB : ∀ x, x * sizeF s < B ↔ x < N) : belowF kept out lo B = N - M.mn := by
  have hs := hS.hs
  have hz : 1 ≤ sizeF s := by rw [← hs]; exact (sizeF_rng hM.ok.s0 hM.ok.s1).1
  have hlo : ∀ x, lo ≤ x * sizeF s ↔ M.mn ≤ x := fun x => by rw [← hS.lo]; exact Int.mul_le_mul_right (by omega)
  have hU : ((upto M.mn (N - 1)).map (px s)).Nodup := by
    refine List.Pairwise.map (R := fun a b => a < b) _ (fun a b hab e => ?_) (upto_pair _ _)
    have := px_inj (by rw [← hs]; exact hM.ok.s0) (by rw [← hs]; exact hM.ok.s1) e
    omega
  have hl := same_len (l := kept.filter (fun x => decide (lo ≤ x.f0) && decide (x.f0 < B)) ++ (out.filter (fun x => !decide (x ∈ kept))).filter (fun x => decide (lo ≤ x.f0) && decide (x.f0 < B))) (m := (upto M.mn (N - 1)).map (px s)) (by
      rw [List.nodup_append]
      refine ⟨hS.kn.sublist List.filter_sublist, (h.nd.sublist List.filter_sublist).sublist List.filter_sublist, fun x hx y hy e => ?_⟩
      subst e
      have h1 := (List.mem_filter.1 hx).1
      have h2 := (List.mem_filter.1 (List.mem_filter.1 hy).1).2
      simp [h1] at h2) hU (fun k => by
      rw [List.mem_append, List.mem_filter, List.mem_filter, List.mem_filter, List.mem_map]
      simp only [Bool.and_eq_true, decide_eq_true_eq, Bool.not_eq_true', decide_eq_false_iff_not]
      rw [hS.km, h.mem]
      constructor
      · rintro (⟨⟨x, hx, rfl⟩, h1, h2⟩ | ⟨⟨⟨x, hx, rfl⟩, _⟩, h1, h2⟩)
        · exact ⟨x, by rw [upto_mem]; have := (hlo x).1 h1; have := (hB x).1 h2; omega, rfl⟩
        · rw [hs] at h1 h2 ⊢
          exact ⟨x, by rw [upto_mem]; have := (hlo x).1 h1; have := (hB x).1 h2; omega, rfl⟩
      · rintro ⟨x, hx, rfl⟩
        rw [upto_mem] at hx
        have c1 := (hlo x).2 hx.1
        have c2 := (hB x).2 (by omega)
        by_cases ck : x ∈ M.kept
        · exact .inl ⟨⟨x, ck, rfl⟩, c1, c2⟩
        · refine .inr ⟨⟨⟨x, (hall x hx.1 (by omega)).resolve_left ck, by rw [hs]⟩, fun ⟨y, hy, e⟩ => ck ?_⟩, c1, c2⟩
          rw [px_inj (by rw [← hs]; exact hM.ok.s0) (by rw [← hs]; exact hM.ok.s1) e]; exact hy)
  rw [List.length_append, List.length_map] at hl
  have hu := upto_len (a := M.mn) (b := N - 1) (by omega)
  unfold belowF cntB
  omega
/-- at the end -/
theorem OutOk.len (hM : MOk M) (h : OutOk M L out) (hr : L.Pairwise (· < ·)) : (pxs M.s L).length = out.length := by
  refine same_len ?_ h.nd (fun k => ?_)
  · refine List.Pairwise.map (R := fun a b => a < b) _ (fun a b hab e => ?_) hr
    have := px_inj hM.ok.s0 hM.ok.s1 (show px M.s a = px M.s b from e)
    omega
  · rw [h.mem]
    unfold pxs
    rw [List.mem_map]
    exact ⟨fun ⟨x, hx, e⟩ => ⟨x, hx, e.symm⟩, fun ⟨x, hx, e⟩ => ⟨x, hx, e.symm⟩⟩
end
end P4
end Go.Proofs.Ytebnlhjakiipjaa.Pl
