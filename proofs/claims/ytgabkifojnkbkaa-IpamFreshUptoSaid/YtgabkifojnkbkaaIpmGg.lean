/- Which texts are names: both answers alike; equal lists of pods are told to be equal. The program's subnet against the document's: the relation, and what it says of the answers. Plain Lean; no walk. What masks, lengths and block ends of 32-bit addresses come to, over the printed addr.Span and addr.Contains (as in the addr seat). The relation between the program's subnet and the document's is kept by New, Add and Del. Plain Lean. Lists: the program's is the document's. Plain Lean. Then both: made alike, or both refused. -/
import Derived.Test.YtgabkifojnkbkaaIpmB
import Derived.Laws.BitsAllLaws
set_option linter.unusedVariables false
set_option linter.unusedSimpArgs false
namespace Go.Proofs.Ytgabkifojnkbkaa.Ip
open Go.RowKit Go.Maps Go.Sort Go.Shelf Go.WideMaps Go.MapKept Go.Proofs.YtgabkifojnkbkaaW.PrintWords Go.Proofs.Ytgabkifojnkbkaa.PIpf
theorem named_l0 (x : ByteArray) : ∀ (k : Nat) (i : Int), ipam_nameOK.l0 k x (x.size : Int) i = weftref15_Named.l0 k x i
  | 0, i => by rw [ipam_nameOK.l0, weftref15_Named.l0]
  | k + 1, i => by
    rw [ipam_nameOK.l0, weftref15_Named.l0]
    by_cases h : i < (x.size : Int)
    · simp only [if_pos h, named_l0 x k]
    · simp only [if_neg h]
theorem named_j0 (x : ByteArray) : ∀ (k : Nat) (b : Bool), ipam_nameOK.j0 k x b = weftref15_Named.j0 k x b
  | 0, b => by rw [ipam_nameOK.j0, weftref15_Named.j0]
  | k + 1, b => by rw [ipam_nameOK.j0, weftref15_Named.j0]; simp only [named_l0]
theorem named_f (k : Nat) (x : ByteArray) : ipam_nameOK.f k x = weftref15_Named.f k x := by
  rw [ipam_nameOK.f, weftref15_Named.f]
  simp only [named_j0]
theorem wrap64_one {i : Int} (h0 : 0 ≤ i) (h1 : i < 9223372036854775807) : wrap64 (i + 1) = i + 1 := by unfold wrap64; omega
theorem named_l0_ends (x : ByteArray) (hx : x.size ≤ maxLen) : ∀ (n : Nat) (i : Int), 0 ≤ i → (x.size : Int) - i ≤ n → ∃ b, weftref15_Named.l0 (n + 1) x i = some b
  | 0, i, h0, h1 => by
    rw [weftref15_Named.l0]
    rw [if_neg (by omega)]
    exact ⟨_, rfl⟩
  | n + 1, i, h0, h1 => by
    rw [weftref15_Named.l0]
    by_cases h : i < (x.size : Int)
    · have hm : (x.size : Int) ≤ 9223372036854775807 := by unfold maxLen at hx; omega
      obtain ⟨b, hb⟩ := named_l0_ends x hx n (i + 1) (by omega) (by omega)
      simp only [if_pos h, if_pos h0, wrap64_one h0 (by omega), hb]
      repeat' split
      all_goals exact ⟨_, rfl⟩
    · rw [if_neg h]; exact ⟨_, rfl⟩
theorem named_ends (x : ByteArray) (hx : x.size ≤ maxLen) : ∃ k b, weftref15_Named.f k x = some b := by
  obtain ⟨b, hb⟩ := named_l0_ends x hx x.size 0 (by omega) (by omega)
  refine ⟨x.size + 2, ?_⟩
  have hj : ∀ c, ∃ b, weftref15_Named.j0 (x.size + 2) x c = some b := by
    intro c
    rw [weftref15_Named.j0]
    split
    · exact ⟨_, rfl⟩
    · exact ⟨_, hb⟩
  rw [weftref15_Named.f]
  by_cases h1 : (x.size : Int) < 1
  · rw [if_pos h1]; exact hj _
  · rw [if_neg h1]
    have hw : wrap64 ((x.size : Int) - 1) = (x.size : Int) - 1 := by unfold wrap64; unfold maxLen at hx; omega
    split
    · exact hj _
    · rw [if_pos (by omega), hw]
      split
      · exact hj _
      · rw [if_pos (by omega), if_pos (by omega)]; exact hj _
/-- is this text a name? -/
theorem named_both (x : ByteArray) (hx : x.size ≤ maxLen) : ∃ k b, ipam_nameOK.f k x = some b ∧ weftref15_Named.f k x = some b := by
  obtain ⟨k, b, h⟩ := named_ends x hx
  exact ⟨k, b, by rw [named_f]; exact h, h⟩
set_option maxHeartbeats 8000000 in
set_option maxRecDepth 100000 in
theorem pods_same (w : World) (B1 B2 : Nat) (v1 v2 : Value) (l : List Pod) (hl : l.length ≤ 4096) (h1 : w.ownsRow B1 84 2 v1 l.length (podCells l)) (h2 : w.ownsRow B2 84 2 v2 l.length (podCells l)) :
    Calls Try.prog 41 #[v1, v2] w fun e w' => e = .returned (.bool true) ∧ Below w.heap.size w w' := by
  obtain ⟨A1, c1, rfl⟩ := own_slice h1
  obtain ⟨A2, c2, rfl⟩ := own_slice h2
  have H1 := Aside0.mk h1
  have H2 := Aside0.mk h2
  clear h1 h2
  go_enter Try.func41, Try.ntmps41
  go_wp2
  go_loopw [5] (fun vi wr => ∃ (i : Nat), vi = .int .i64 i ∧ i ≤ l.length ∧ Aside0 (wr.ownsRow B1 84 2 (.slice A1 l.length c1) l.length (podCells l)) ∧ Aside0 (wr.ownsRow B2 84 2 (.slice A2 l.length c2) l.length (podCells l)) ∧ Aside0 (Below w.heap.size w wr)) (fun vi _ => l.length - (intOf vi).toNat)
  case atStart => exact ⟨0, rfl, by omega, H1, H2, ⟨Below.refl _ _⟩⟩
  case round =>
    clear H1 H2
    obtain ⟨i, rfl, hi, H1, H2, HB⟩ := hrel
    by_cases hlt : i < l.length
    · have hli : (i : Int) < (l.length : Int) := by omega
      obtain ⟨g1, cap1, e, _, _⟩ := H1.out.form (by omega)
      injection e with e1 e2 e3
      subst e1 e3
      clear e2
      obtain ⟨g2, cap2, e, _, _⟩ := H2.out.form (by omega)
      injection e with e1 e2 e3
      subst e1 e3
      clear e2
      obtain ⟨a0, a1⟩ := pod_atN H1.out i hlt
      obtain ⟨b0, b1⟩ := pod_atN H2.out i hlt
      generalize podAt l i = pd at *
      obtain ⟨nm, ad⟩ := pd
      simp only at a0 a1 b0 b1
      go_wp2
      go_quiet (fail)
      go_wp2
      go_roundw
      case rel => exact ⟨i + 1, by go_num, by omega, ⟨H1.out⟩, ⟨H2.out⟩, ⟨pw_below_drewN HB.out _⟩⟩
      case measure => simp [intOf]; omega
    · go_wp2
      go_ret
      exact ⟨rfl, HB.out⟩
end Go.Proofs.Ytgabkifojnkbkaa.Ip

set_option linter.unusedVariables false
set_option linter.unusedSimpArgs false
namespace Go.Proofs.Ytgabkifojnkbkaa.Ip
theorem nodup_map_inj {α β : Type} {f : α → β} : ∀ {l : List α}, (l.map f).Nodup → ∀ {a b : α}, a ∈ l → b ∈ l → f a = f b → a = b
  | [], _, a, b, ha, _, _ => by cases ha
  | c :: r, h, a, b, ha, hb, he => by
    rw [List.map_cons, List.nodup_cons] at h
    rcases List.mem_cons.1 ha with ea | ha2
    · rcases List.mem_cons.1 hb with eb | hb2
      · rw [ea, eb]
      · have hm : f b ∈ r.map f := List.mem_map_of_mem hb2
        rw [← he, ea] at hm; exact absurd hm h.1
    · rcases List.mem_cons.1 hb with eb | hb2
      · have hm : f a ∈ r.map f := List.mem_map_of_mem ha2
        rw [he, eb] at hm; exact absurd hm h.1
      · exact nodup_map_inj h.2 ha2 hb2 he
theorem nodup_sub_len : ∀ {l m : List Int}, l.Nodup → (∀ x, x ∈ l → x ∈ m) → l.length ≤ m.length
  | [], m, _, _ => Nat.zero_le _
  | a :: r, m, h, hs => by
    rw [List.nodup_cons] at h
    have ha := hs a (List.mem_cons_self ..)
    have h2 : r.length ≤ (m.erase a).length := nodup_sub_len h.2 fun x hx => (List.mem_erase_of_ne (fun e => by rw [e] at hx; exact h.1 hx)).2 (hs x (List.mem_cons_of_mem _ hx))
    rw [List.length_erase_of_mem ha] at h2
    have := List.length_pos_of_mem ha
    simp only [List.length_cons]; omega
structure Rel (M : IpM) (R : RfM) : Prop where
  base : R.base = M.base
  b0 : 0 ≤ M.base
  sz : 4 ≤ R.size
  top : M.base + R.size ≤ 4294967296
  l0 : 1 ≤ M.len
  l1 : M.len ≤ 30
  sl : R.size = sizeF M.len
  al : M.base % R.size = 0
  first : M.first = M.base + 2
  last : M.last = M.base + R.size - 2
  given : M.given = M.base + R.last
  g0 : 1 ≤ R.last
  g1 : R.last ≤ R.size - 2
  cnt : M.cnt = R.pods.length
  lim : R.pods.length ≤ 1024
  nn : (R.pods.map (·.1)).Nodup
  na : (R.pods.map (·.2)).Nodup
  rng : ∀ p, p ∈ R.pods → M.base + 2 ≤ p.2 ∧ p.2 ≤ M.base + R.size - 2
  byN : ∀ s a, M.byN s = some a ↔ (s, a) ∈ R.pods
  byA : ∀ a t, M.byA a = some t → 0 ≤ t ∧ t < M.names.length ∧ t ∉ M.spare ∧ (M.names.getD t.toNat ⟨#[]⟩, a) ∈ R.pods
  hasA : ∀ p, p ∈ R.pods → M.byA p.2 ≠ none
  inj : ∀ a b t, M.byA a = some t → M.byA b = some t → a = b
  spn : M.spare.Nodup
  sp : ∀ x, x ∈ M.spare → 0 ≤ x ∧ x < M.names.length
  sum : M.cnt + M.spare.length = M.names.length
  nl : M.names.length ≤ 1024
section
variable {M : IpM} {R : RfM}
theorem Rel.ok (h : Rel M R) : M.Ok where
  sp := h.sp
  na := fun s a hs => by
    have hp := (h.byN s a).1 hs
    have hr := h.rng _ hp
    have ha := h.hasA _ hp
    have := h.b0; have := h.top
    simp only at hr ha
    refine ⟨by omega, by omega, ?_⟩
    exact Option.ne_none_iff_exists'.1 ha
  at_ := fun a t ha => ⟨(h.byA a t ha).1, (h.byA a t ha).2.1⟩
  sum := h.sum
  lim := h.nl
theorem Rel.num (h : Rel M R) : M.Num where
  f := by have := h.first; have := h.last; have := h.b0; have := h.sz; omega
  l := by have := h.last; have := h.top; omega
  g := by have := h.given; have := h.last; have := h.g0; have := h.g1; have := h.b0; omega
theorem Rel.pin (h : Rel M R) : ∀ p, p ∈ R.pods → 0 ≤ p.2 ∧ p.2 < 4294967296 := fun p hp => by
  have := h.rng p hp; have := h.b0; have := h.top; omega
theorem Rel.rnum (h : Rel M R) : R.Num where
  b := by have := h.base; have := h.b0; have := h.top; omega
  s := h.sz
  l := ⟨h.g0, h.g1⟩
  p := h.pin
theorem placeF_none {f : Pod → Bool} : ∀ {l : List Pod} {i : Int}, 0 ≤ i → placeF f l i < 0 → ∀ p, p ∈ l → f p = false
  | [], i, _, _, p, hp => by cases hp
  | q :: r, i, h0, h, p, hp => by
    rw [placeF] at h
    by_cases hq : f q = true
    · rw [if_pos hq] at h; omega
    · rw [if_neg hq] at h
      rcases List.mem_cons.1 hp with rfl | hp
      · simpa using hq
      · exact placeF_none (by omega) h p hp
theorem podAt_mem {l : List Pod} {i : Nat} (h : i < l.length) : podAt l i ∈ l := by
  simp only [podAt, List.getD_eq_getElem?_getD, List.getElem?_eq_getElem h, Option.getD_some]; exact List.getElem_mem h
/-- the name's place -/
theorem Rel.atF_none (h : Rel M R) {s : ByteArray} (hs : M.byN s = none) : atF R.pods s = -1 := by
  rcases atF_in R.pods s with e | ⟨h0, h1, h2⟩
  · exact e
  · have hm := podAt_mem (l := R.pods) (i := (atF R.pods s).toNat) (by omega)
    generalize podAt R.pods (atF R.pods s).toNat = q at h2 hm
    obtain ⟨q1, q2⟩ := q
    simp only at h2
    subst h2
    have hk := (h.byN q1 q2).2 hm
    rw [hs] at hk; cases hk
theorem Rel.atF_some (h : Rel M R) {s : ByteArray} {a : Int} (hs : M.byN s = some a) : 0 ≤ atF R.pods s ∧ atF R.pods s < R.pods.length ∧ podAt R.pods (atF R.pods s).toNat = (s, a) := by
  have hp := (h.byN s a).1 hs
  rcases atF_in R.pods s with e | ⟨h0, h1, h2⟩
  · have := placeF_none (l := R.pods) (f := fun p => p.1 == s) (i := 0) (by omega) (by rw [show placeF (fun p => p.1 == s) R.pods 0 = atF R.pods s from rfl, e]; omega) _ hp
    simp only at this
    have e2 := (bytes_beq s s).2 rfl
    rw [e2] at this; cases this
  · refine ⟨h0, h1, ?_⟩
    have hm := podAt_mem (l := R.pods) (i := (atF R.pods s).toNat) (by omega)
    exact nodup_map_inj h.nn hm hp h2
theorem Rel.holder_none (h : Rel M R) {a : Int} (ha : M.byA a = none) : holderF R.pods a < 0 := by
  rcases holderF_in R.pods a with e | ⟨h0, h1, h2⟩
  · omega
  · have hm := podAt_mem (l := R.pods) (i := (holderF R.pods a).toNat) (by omega)
    have := h.hasA _ hm
    rw [h2] at this; exact absurd ha this
theorem Rel.holder_some (h : Rel M R) {a t : Int} (ha : M.byA a = some t) : 0 ≤ holderF R.pods a ∧ holderF R.pods a < R.pods.length ∧ podAt R.pods (holderF R.pods a).toNat = (M.names.getD t.toNat ⟨#[]⟩, a) := by
  have hp := (h.byA a t ha).2.2.2
  rcases holderF_in R.pods a with e | ⟨h0, h1, h2⟩
  · have := placeF_none (l := R.pods) (f := fun p => p.2 == a) (i := 0) (by omega) (by rw [show placeF (fun p => p.2 == a) R.pods 0 = holderF R.pods a from rfl, e]; omega) _ hp
    simp at this
  · refine ⟨h0, h1, ?_⟩
    have hm := podAt_mem (l := R.pods) (i := (holderF R.pods a).toNat) (by omega)
    exact nodup_map_inj h.na hm hp h2
theorem Rel.free (h : Rel M R) (a : Int) : M.byA a = none ↔ holderF R.pods a < 0 := by
  refine ⟨h.holder_none, fun hh => ?_⟩
  cases e : M.byA a with
  | none => rfl
  | some t => have := (h.holder_some e).1; omega
theorem Rel.step (h : Rel M R) (x : Int) : stepA M (M.base + x) = M.base + rstep R x := by
  unfold stepA rstep
  rw [h.last, h.first]
  by_cases c : x + 1 > R.size - 2
  · rw [if_pos c, if_pos (by omega)]
  · rw [if_neg c, if_neg (by omega)]; omega
theorem Rel.seek_eq (h : Rel M R) : ∀ (n : Nat) (x : Int), seek M n (M.base + x) = M.base + rseek R n x
  | 0, x => rfl
  | n + 1, x => by
    rw [seek, rseek, h.step, h.base]
    by_cases c : M.byA (M.base + rstep R x) = none
    · rw [if_pos c, if_pos ((h.free _).1 c)]
    · rw [if_neg c, if_neg (fun c2 => c ((h.free _).2 c2)), h.seek_eq n]
/-- the i-th place behind x -/
def posF (R : RfM) (x : Int) (i : Nat) : Int := if x + i ≤ R.size - 2 then x + i else x + i - (R.size - 3)
theorem pos_step (x : Int) (h0 : 1 ≤ x) (h1 : x ≤ R.size - 2) (i : Nat) (hi : (i : Int) + 1 ≤ R.size - 3) : rstep R (posF R x i) = posF R x (i + 1) := by
  unfold posF rstep
  simp only [Int.natCast_add, Int.cast_ofNat_Int]
  by_cases c1 : x + (i : Int) ≤ R.size - 2
  · rw [if_pos c1]
    by_cases c2 : x + (i : Int) + 1 > R.size - 2
    · rw [if_pos c2, if_neg (by omega)]; omega
    · rw [if_neg c2, if_pos (by omega)]; omega
  · rw [if_neg c1, if_neg (by omega), if_neg (by omega)]; omega
theorem held_all (x : Int) (h0 : 1 ≤ x) (h1 : x ≤ R.size - 2) : ∀ (n i : Nat), 1 ≤ n → (i : Int) + n ≤ R.size - 3 → 0 ≤ holderF R.pods (R.base + rseek R n (posF R x i)) → ∀ j, i < j → j ≤ i + n → 0 ≤ holderF R.pods (R.base + posF R x j)
  | n + 1, i, _, hi, hh, j, hj0, hj1 => by
    rw [rseek, pos_step x h0 h1 i (by omega)] at hh
    by_cases c : holderF R.pods (R.base + posF R x (i + 1)) < 0
    · rw [if_pos c] at hh; omega
    · rw [if_neg c] at hh
      by_cases e : j = i + 1
      · subst e; omega
      · have hn : 1 ≤ n := by omega
        exact held_all x h0 h1 n (i + 1) hn (by omega) hh j (by omega) (by omega)
/-- a free place is found -/
theorem Rel.found (h : Rel M R) (hf : (R.pods.length : Int) < R.size - 3) : holderF R.pods (R.base + rseek R (R.pods.length + 1) R.last) < 0 := by
  rcases Int.lt_or_le (holderF R.pods (R.base + rseek R (R.pods.length + 1) R.last)) 0 with c | c
  · exact c
  · exfalso
    have e0 : posF R R.last 0 = R.last := by unfold posF; rw [if_pos (by have := h.g1; omega)]; omega
    have hall := held_all (R := R) R.last h.g0 h.g1 (R.pods.length + 1) 0 (by omega) (by omega) (by rw [e0]; exact c)
    have hle := nodup_sub_len (l := (List.range (R.pods.length + 1)).map fun i => R.base + posF R R.last (i + 1)) (m := R.pods.map (·.2)) (by
      rw [List.Nodup, List.pairwise_map]
      refine List.Pairwise.imp_of_mem (R := fun a b => a < b) ?_ List.pairwise_lt_range
      intro a b ha hb hab he
      rw [List.mem_range] at ha hb
      have g0 := h.g0
      have g1 := h.g1
      unfold posF at he
      split at he <;> split at he <;> omega) (by
      intro y hy
      rw [List.mem_map] at hy
      obtain ⟨i, hi, rfl⟩ := hy
      rw [List.mem_range] at hi
      have hh := hall (i + 1) (by omega) (by omega)
      rcases holderF_in R.pods (R.base + posF R R.last (i + 1)) with e | ⟨q0, q1, q2⟩
      · omega
      · rw [List.mem_map]
        exact ⟨_, podAt_mem (by omega), q2⟩)
    simp at hle
    omega
end
end Go.Proofs.Ytgabkifojnkbkaa.Ip

set_option linter.unusedVariables false
set_option linter.unusedSimpArgs false
namespace Go.Proofs.Ytgabkifojnkbkaa.Ip
open Go.RowKit Go.Maps Go.Proofs.YtgabkifojnkbkaaW.PrintWords Go.Proofs.Ytgabkifojnkbkaa.PIpf
/-- the size of a block of length n -/
def sz (n : Nat) : Nat := 2 ^ (32 - n)
theorem sz_pos (n : Nat) : 0 < sz n := Nat.two_pow_pos _
theorem sz_succ {n : Nat} (h : n < 32) : sz n = 2 * sz (n + 1) := by
  unfold sz
  rw [show 32 - n = (32 - (n + 1)) + 1 from by omega, Nat.pow_succ]; omega
theorem sz_le (n : Nat) : sz n ≤ 4294967296 := by
  unfold sz
  have : 2 ^ (32 - n) ≤ 2 ^ 32 := Nat.pow_le_pow_right (by omega) (by omega)
  omega

theorem mask_all : ∀ n : Nat, n < 33 → addr_mask.f (n : Int) = some ((4294967296 - sz n : Nat) : Int) := by decide +kernel
theorem xor_all : ∀ n : Nat, n < 33 → Go.bits .xor .u32 4294967295 ((4294967296 - sz n : Nat) : Int) = ((sz n - 1 : Nat) : Int) := by decide +kernel

theorem mod_sz {a : Int} (n : Nat) (h0 : 0 ≤ a) : ((a.toNat % sz n : Nat) : Int) = a % (sz n : Int) := by
  have : ((a.toNat : Nat) : Int) = a := Int.toNat_of_nonneg h0
  rw [Int.natCast_emod, this]

theorem fault_eq {a : Int} {n k : Nat} (h0 : 0 ≤ a) (h1 : a < 4294967296) (hn : n ≤ 32) (hk : 1 ≤ k) :
    addr_fault.f k a n = some (if a % (sz n : Int) = 0 then 0 else 12) := by
  obtain ⟨k, rfl⟩ : ∃ m, k = m + 1 := ⟨k - 1, by omega⟩
  have hle := sz_le n
  have hp := sz_pos n
  unfold addr_fault.f
  rw [if_neg (by omega), show decide ((n : Int) > 32) = false from decide_eq_false (by omega)]
  simp only [addr_fault.j0]
  rw [if_neg (by decide), mask_all n (by omega), Option.bind_some, Go.u32_andNot _ _ h0 h1 (by omega) (by omega)]
  have e : 4294967295 - (((4294967296 - sz n : Nat) : Int)).toNat = sz n - 1 := by omega
  rw [e]
  have hm : a.toNat &&& (sz n - 1) = a.toNat % sz n := Nat.and_two_pow_sub_one_eq_mod _ _
  rw [hm, mod_sz n h0]
  split <;> rfl

theorem fault_bad {a m : Int} {k : Nat} (hm : m < 0 ∨ 32 < m) (hk : 1 ≤ k) : addr_fault.f k a m = some 11 := by
  obtain ⟨k, rfl⟩ : ∃ m, k = m + 1 := ⟨k - 1, by omega⟩
  unfold addr_fault.f
  by_cases h : m < 0
  · rw [if_pos h]; simp only [addr_fault.j0]; rw [if_pos trivial]
  · rw [if_neg h, show decide (m > 32) = true from decide_eq_true (by omega)]; simp only [addr_fault.j0]; rw [if_pos trivial]

theorem valid_eq {a : Int} {n k : Nat} (h0 : 0 ≤ a) (h1 : a < 4294967296) (hn : n ≤ 32) (hk : 1 ≤ k) :
    addr_Valid.f k a n = some (decide (a % (sz n : Int) = 0)) := by
  unfold addr_Valid.f
  rw [fault_eq h0 h1 hn hk, Option.bind_some]
  by_cases h : a % (sz n : Int) = 0
  · rw [if_pos h, decide_eq_true h]; rfl
  · rw [if_neg h, decide_eq_false h]; rfl

theorem last_eq {a : Int} {n : Nat} (h0 : 0 ≤ a) (h1 : a < 4294967296) (hn : n ≤ 32) (hd : a % (sz n : Int) = 0) :
    addr_last.f a n = some (a + sz n - 1) := by
  have hle := sz_le n
  have hp := sz_pos n
  unfold addr_last.f
  rw [mask_all n (by omega), Option.bind_some, xor_all n (by omega), Go.u32_or _ _ h0 h1 (by omega) (by omega)]
  have e : (((sz n - 1 : Nat) : Int)).toNat = sz n - 1 := by omega
  have hd' : a.toNat % sz n = 0 := by have := mod_sz n h0; omega
  have := Go.nat_join (32 - n) a.toNat (sz n - 1) hd' (by unfold sz at *; omega)
  rw [e, this]
  congr 1
  omega

theorem and_high (x k : Nat) (hk : k ≤ 32) (hx : x < 4294967296) : x &&& (4294967296 - 2 ^ k) = x / 2 ^ k * 2 ^ k := by
  have h1 : x / 2 ^ k * 2 ^ k = (x >>> k) <<< k := by rw [Nat.shiftRight_eq_div_pow, Nat.shiftLeft_eq]
  rw [h1]
  have hp : 0 < 2 ^ k := Nat.two_pow_pos k
  apply Nat.eq_of_testBit_eq
  intro i
  have e : 4294967296 - 2 ^ k = 2 ^ 32 - ((2 ^ k - 1) + 1) := by omega
  have hle : 2 ^ k ≤ 2 ^ 32 := Nat.pow_le_pow_right (by omega) hk
  rw [Nat.testBit_and, e, Nat.testBit_two_pow_sub_succ (by omega), Nat.testBit_two_pow_sub_one, Nat.testBit_shiftLeft, Nat.testBit_shiftRight]
  by_cases hi : k ≤ i
  · rw [show k + (i - k) = i from by omega]
    by_cases h32 : i < 32
    · simp [hi, h32]
    · have : x.testBit i = false := Nat.testBit_lt_two_pow (by
        have : 2 ^ 32 ≤ 2 ^ i := Nat.pow_le_pow_right (by omega) (by omega)
        omega)
      simp [this]
  · simp [hi]; omega
theorem and_mask {x : Int} {n : Nat} (h0 : 0 ≤ x) (h1 : x < 4294967296) (hn : n ≤ 32) : Go.bits .and .u32 x ((4294967296 - sz n : Nat) : Int) = x - x % (sz n : Int) := by
  have hp := sz_pos n
  have hle := sz_le n
  rw [Go.u32_and _ _ h0 h1 (by omega) (by omega), Int.toNat_natCast]
  have := and_high x.toNat (32 - n) (by omega) (by omega)
  unfold sz at *
  rw [this]
  have e := Nat.div_add_mod x.toNat (2 ^ (32 - n))
  have e2 := mod_sz n h0
  unfold sz at e2
  have e3 : x.toNat / 2 ^ (32 - n) * 2 ^ (32 - n) = x.toNat - x.toNat % 2 ^ (32 - n) := by rw [Nat.mul_comm]; omega
  rw [e3, ← e2]
  have := Nat.mod_le x.toNat (2 ^ (32 - n))
  omega
theorem sz_sizeF {l : Int} (h0 : 0 ≤ l) (h1 : l ≤ 32) : (sz l.toNat : Int) = sizeF l := by
  unfold sz sizeF
  rw [show (32 - l).toNat = 32 - l.toNat from by omega]
  push_cast; rfl
/-- a subnet's span -/
theorem span_all (a l : Int) (h0 : 0 ≤ a) (h1 : a < 4294967296) : addr_Span.f 1 a l = some (if l < 0 ∨ 32 < l then (0, 0, 11) else if a % sizeF l = 0 then (a, a + sizeF l - 1, 0) else (0, 0, 12)) := by
  unfold addr_Span.f
  by_cases h : l < 0 ∨ 32 < l
  · rw [if_pos h, fault_bad h (by omega), Option.bind_some, if_neg (by decide)]
  · rw [if_neg h]
    obtain ⟨n, rfl⟩ : ∃ n : Nat, l = n := ⟨l.toNat, by omega⟩
    rw [fault_eq h0 h1 (by omega) (by omega), Option.bind_some, ← sz_sizeF (by omega) (by omega), Int.toNat_natCast]
    by_cases hd : a % (sz n : Int) = 0
    · rw [if_pos hd, if_pos rfl, if_pos hd, last_eq h0 h1 (by omega) hd, Option.bind_some]
    · rw [if_neg hd, if_neg hd, if_neg (by decide)]
/-- which addresses a subnet contains -/
theorem contains_all (b l a : Int) (hb0 : 0 ≤ b) (hb1 : b < 4294967296) (hl0 : 0 ≤ l) (hl1 : l ≤ 32) (ha0 : 0 ≤ a) (ha1 : a < 4294967296) (hd : b % sizeF l = 0) :
    addr_Contains.f 1 b l a = some (decide (b ≤ a ∧ a < b + sizeF l)) := by
  obtain ⟨n, rfl⟩ : ∃ n : Nat, l = n := ⟨l.toNat, by omega⟩
  have hsz := sz_sizeF (l := (n : Int)) hl0 hl1
  rw [Int.toNat_natCast] at hsz
  rw [← hsz] at hd ⊢
  have hp := sz_pos n
  unfold addr_Contains.f
  rw [valid_eq hb0 hb1 (by omega) (by omega), Option.bind_some, if_pos (by rw [decide_eq_true hd]), mask_all n (by omega), Option.bind_some, and_mask ha0 ha1 (by omega)]
  generalize hz : (sz n : Int) = z at *
  have hz0 : 0 < z := by omega
  congr 1
  have key : a - a % z = b ↔ (b ≤ a ∧ a < b + z) := by
    have e1 := Int.emod_nonneg a (show z ≠ 0 by omega)
    have e2 := Int.emod_lt_of_pos a hz0
    constructor
    · intro e; omega
    · rintro ⟨c1, c2⟩
      have e3 : a % z = a - b := by
        have : a % z = (a - b) % z := by
          rw [Int.sub_emod, hd]; simp
        rw [this]; exact Int.emod_eq_of_lt (by omega) (by omega)
      omega
  by_cases c : b ≤ a ∧ a < b + z
  · rw [decide_eq_true c, key.2 c]; simp
  · rw [decide_eq_false c]
    have : ¬ a - a % z = b := fun e => c (key.1 e)
    simpa using this
end Go.Proofs.Ytgabkifojnkbkaa.Ip

set_option linter.unusedVariables false
set_option linter.unusedSimpArgs false
namespace Go.Proofs.Ytgabkifojnkbkaa.Ip
theorem sizeF_mul {l : Int} (h0 : 1 ≤ l) (h1 : l ≤ 30) : 4 ≤ sizeF l ∧ sizeF l * 2 ^ l.toNat = 4294967296 := by
  have e : ∀ n : Nat, n < 31 → 1 ≤ n → 4 ≤ sizeF (n : Int) ∧ sizeF (n : Int) * 2 ^ n = 4294967296 := by decide +kernel
  have := e l.toNat (by omega) (by omega)
  rwa [Int.toNat_of_nonneg (by omega)] at this
theorem Rel.new {a l : Int} (hl0 : 1 ≤ l) (hl1 : l ≤ 30) (ha0 : 0 ≤ a) (ha1 : a < 4294967296) (hd : a % sizeF l = 0) : Rel (newM a l (a + sizeF l - 1)) (rnewM a l) := by
  obtain ⟨hz, hm⟩ := sizeF_mul hl0 hl1
  have htop : a + sizeF l ≤ 4294967296 := by
    have hq : a = sizeF l * (a / sizeF l) := by have := Int.mul_ediv_add_emod a (sizeF l); omega
    generalize a / sizeF l = q at hq
    generalize sizeF l = z at *
    generalize ((2 : Int) ^ l.toNat) = p at *
    have hlt : q < p := by
      rcases Int.lt_or_le q p with h | h
      · exact h
      · have : z * p ≤ z * q := Int.mul_le_mul_of_nonneg_left h (by omega)
        omega
    have : z * (q + 1) ≤ z * p := Int.mul_le_mul_of_nonneg_left (by omega) (by omega)
    rw [Int.mul_add] at this
    omega
  exact { base := rfl, b0 := ha0, sz := hz, top := htop, l0 := hl0, l1 := hl1, sl := rfl, al := hd, first := rfl, last := by show a + sizeF l - 1 - 1 = a + sizeF l - 2; omega
          given := rfl
          g0 := by show (1 : Int) ≤ 1; decide
          g1 := by show (1 : Int) ≤ sizeF l - 2; omega
          cnt := rfl
          lim := by show ([] : List Pod).length ≤ 1024; decide
          nn := List.nodup_nil
          na := List.nodup_nil
          rng := fun p hp => nomatch hp
          byN := fun s b => ⟨fun h => (by cases h), fun h => (by cases h)⟩
          byA := fun b t h => (by cases h)
          hasA := fun p hp => nomatch hp
          inj := fun b c t h => (by cases h)
          spn := List.nodup_nil
          sp := fun x hx => nomatch hx
          sum := rfl
          nl := by show ([] : List ByteArray).length ≤ 1024; decide }
theorem pods_nn {l : List Pod} {s : ByteArray} {a : Int} (h : (l.map (·.1)).Nodup) (hs : ∀ b, (s, b) ∉ l) : ((l ++ [(s, a)]).map (·.1)).Nodup := by
  rw [List.map_append, List.nodup_append]
  refine ⟨h, by simp, fun x hx y hy e => ?_⟩
  rw [List.map_cons, List.map_nil, List.mem_singleton] at hy
  subst hy; subst e
  rw [List.mem_map] at hx
  obtain ⟨p, hp, he⟩ := hx
  obtain ⟨p1, p2⟩ := p
  simp only at he
  subst he
  exact hs p2 hp
theorem pods_na {l : List Pod} {s : ByteArray} {a : Int} (h : (l.map (·.2)).Nodup) (hs : ∀ p, p ∈ l → p.2 ≠ a) : ((l ++ [(s, a)]).map (·.2)).Nodup := by
  rw [List.map_append, List.nodup_append]
  refine ⟨h, by simp, fun x hx y hy e => ?_⟩
  rw [List.map_cons, List.map_nil, List.mem_singleton] at hy
  subst hy; subst e
  rw [List.mem_map] at hx
  obtain ⟨p, hp, he⟩ := hx
  exact hs p hp he
section
variable {M : IpM} {R : RfM}
theorem Rel.byN_put (h : Rel M R) {s : ByteArray} (hs : M.byN s = none) (a : Int) : ∀ x b, putN M.byN s a x = some b ↔ (x, b) ∈ R.pods ++ [(s, a)] := by
  intro x b
  unfold putN
  rw [List.mem_append, List.mem_singleton]
  by_cases e : x = s
  · subst e
    rw [if_pos rfl]
    constructor
    · intro h1; injection h1 with h1; subst h1; exact .inr rfl
    · rintro (h1 | h1)
      · have := (h.byN x b).2 h1; rw [hs] at this; cases this
      · injection h1 with _ h1; rw [h1]
  · rw [if_neg e, h.byN x b]
    constructor
    · exact .inl
    · rintro (h1 | h1)
      · exact h1
      · injection h1 with h1 _; exact absurd h1 e
theorem getD_set (l : List ByteArray) (i j : Nat) (s : ByteArray) (hi : i < l.length) : (l.set i s).getD j ⟨#[]⟩ = if j = i then s else l.getD j ⟨#[]⟩ := by
  rw [List.getD_eq_getElem?_getD, List.getElem?_set]
  by_cases e : i = j
  · subst e; simp [hi]
  · rw [if_neg e, if_neg (Ne.symm e), List.getD_eq_getElem?_getD]
theorem getD_app (l m : List ByteArray) (j : Nat) (hj : j < l.length) : (l ++ m).getD j ⟨#[]⟩ = l.getD j ⟨#[]⟩ := by
  rw [List.getD_eq_getElem?_getD, List.getElem?_append_left hj, List.getD_eq_getElem?_getD]
theorem Rel.kept (h : Rel M R) {s : ByteArray} (hs : M.byN s = none) (x : Int) (hx0 : 2 ≤ x) (hx1 : x ≤ R.size - 2) (hfree : M.byA (M.base + x) = none) (hl : R.pods.length < 1024) :
    Rel (keptF { M with given := M.base + x } s (M.base + x)) (raddS R s x) := by
  have hb := h.base
  have hnew : ∀ p, p ∈ R.pods → p.2 ≠ M.base + x := fun p hp e => by have := h.hasA p hp; rw [e] at this; exact this hfree
  have hnos : ∀ b, (s, b) ∉ R.pods := fun b hb => by have := (h.byN s b).2 hb; rw [hs] at this; cases this
  have hsum := h.sum
  have hcnt := h.cnt
  have hrng : ∀ p, p ∈ R.pods ++ [(s, M.base + x)] → M.base + 2 ≤ p.2 ∧ p.2 ≤ M.base + R.size - 2 := fun p hp => by
    rcases List.mem_append.1 hp with hp | hp
    · exact h.rng p hp
    · rw [List.mem_singleton] at hp; subst hp; simp only; omega
  have hpods : (raddS R s x).pods = R.pods ++ [(s, M.base + x)] := by show R.pods ++ [(s, R.base + x)] = _; rw [hb]
  unfold keptF
  by_cases hsp : M.spare = []
  · rw [if_pos hsp]
    exact { base := hb, b0 := h.b0, sz := h.sz, top := h.top, l0 := h.l0, l1 := h.l1, sl := h.sl, al := h.al, first := h.first, last := h.last, given := rfl, g0 := by show 1 ≤ x; omega, g1 := hx1,
            cnt := by rw [hpods, List.length_append]; show M.cnt + 1 = _; rw [hcnt]; rfl
            lim := by rw [hpods, List.length_append]; simp; omega
            nn := by rw [hpods]; exact pods_nn h.nn hnos
            na := by rw [hpods]; exact pods_na h.na hnew
            rng := by rw [hpods]; exact hrng
            byN := by rw [hpods]; exact h.byN_put hs _
            byA := by
              rw [hpods]
              intro a t ha
              have ha : (if a = M.base + x then some (M.names.length : Int) else M.byA a) = some t := ha
              by_cases e : a = M.base + x
              · rw [if_pos e] at ha
                injection ha with ha
                subst ha
                refine ⟨by omega, by show (M.names.length : Int) < ((M.names ++ [s]).length : Int); simp; omega, by show _ ∉ M.spare; rw [hsp]; simp, ?_⟩
                show ((M.names ++ [s]).getD (M.names.length : Int).toNat ⟨#[]⟩, a) ∈ _
                rw [e]; simp
              · rw [if_neg e] at ha
                obtain ⟨t0, t1, t2, t3⟩ := h.byA a t ha
                refine ⟨t0, by show t < ((M.names ++ [s]).length : Int); simp; omega, t2, ?_⟩
                show ((M.names ++ [s]).getD t.toNat ⟨#[]⟩, a) ∈ _
                rw [getD_app _ _ _ (by omega)]
                exact List.mem_append_left _ t3
            hasA := by
              rw [hpods]
              intro p hp
              show (if p.2 = M.base + x then some (M.names.length : Int) else M.byA p.2) ≠ none
              by_cases e : p.2 = M.base + x
              · rw [if_pos e]; simp
              · rw [if_neg e]
                rcases List.mem_append.1 hp with hp | hp
                · exact h.hasA p hp
                · rw [List.mem_singleton] at hp; subst hp; exact absurd rfl e
            inj := by
              intro a b t ha hb2
              have ha : (if a = M.base + x then some (M.names.length : Int) else M.byA a) = some t := ha
              have hb2 : (if b = M.base + x then some (M.names.length : Int) else M.byA b) = some t := hb2
              by_cases e : a = M.base + x
              · by_cases e2 : b = M.base + x
                · rw [e, e2]
                · rw [if_pos e] at ha; rw [if_neg e2] at hb2
                  have := (h.byA b t hb2).2.1
                  injection ha with ha; omega
              · by_cases e2 : b = M.base + x
                · rw [if_neg e] at ha; rw [if_pos e2] at hb2
                  have := (h.byA a t ha).2.1
                  injection hb2 with hb2; omega
                · rw [if_neg e] at ha; rw [if_neg e2] at hb2
                  exact h.inj a b t ha hb2
            spn := h.spn
            sp := fun y hy => by have hy : y ∈ M.spare := hy; rw [hsp] at hy; cases hy
            sum := by show M.cnt + 1 + M.spare.length = (M.names ++ [s]).length; simp; omega
            nl := by show (M.names ++ [s]).length ≤ 1024; rw [hsp] at hsum; simp at hsum ⊢; omega }
  · rw [if_neg hsp]
    obtain ⟨q, t0, hq⟩ : ∃ q t0, M.spare = q ++ [t0] := ⟨M.spare.dropLast, M.spare.getLast hsp, (List.dropLast_concat_getLast hsp).symm⟩
    have hget : M.spare.getD (M.spare.length - 1) 0 = t0 := by rw [hq]; simp
    have htake : M.spare.take (M.spare.length - 1) = q := by rw [hq]; simp
    have hspn := h.spn
    rw [hq, List.nodup_append] at hspn
    obtain ⟨hqn, _, hqt⟩ := hspn
    have ht0q : t0 ∉ q := fun hm => hqt t0 hm t0 (List.mem_singleton.2 rfl) rfl
    obtain ⟨ht0, ht1⟩ := h.sp t0 (by rw [hq]; simp)
    have hk : keptO { M with given := M.base + x } s (M.base + x) = { M with given := M.base + x, names := M.names.set t0.toNat s, spare := q, byN := putN M.byN s (M.base + x), byA := putA M.byA (M.base + x) t0, cnt := M.cnt + 1 } := by
      unfold keptO; simp only [hget, htake]
    rw [hk]
    have hlen : (M.names.set t0.toNat s).length = M.names.length := List.length_set ..
    exact { base := hb, b0 := h.b0, sz := h.sz, top := h.top, l0 := h.l0, l1 := h.l1, sl := h.sl, al := h.al, first := h.first, last := h.last, given := rfl, g0 := by show 1 ≤ x; omega, g1 := hx1,
            cnt := by rw [hpods, List.length_append]; show M.cnt + 1 = _; rw [hcnt]; rfl
            lim := by rw [hpods, List.length_append]; simp; omega
            nn := by rw [hpods]; exact pods_nn h.nn hnos
            na := by rw [hpods]; exact pods_na h.na hnew
            rng := by rw [hpods]; exact hrng
            byN := by rw [hpods]; exact h.byN_put hs _
            byA := by
              rw [hpods]
              intro a t ha
              have ha : (if a = M.base + x then some t0 else M.byA a) = some t := ha
              show 0 ≤ t ∧ t < ((M.names.set t0.toNat s).length : Int) ∧ t ∉ q ∧ ((M.names.set t0.toNat s).getD t.toNat ⟨#[]⟩, a) ∈ _
              rw [hlen]
              by_cases e : a = M.base + x
              · rw [if_pos e] at ha
                injection ha with ha
                subst ha
                refine ⟨ht0, ht1, ht0q, ?_⟩
                rw [getD_set _ _ _ _ (by omega), if_pos rfl, e]
                exact List.mem_append_right _ (List.mem_singleton.2 rfl)
              · rw [if_neg e] at ha
                obtain ⟨c0, c1, c2, c3⟩ := h.byA a t ha
                rw [hq] at c2
                have hne : t ≠ t0 := fun e => c2 (by rw [e]; simp)
                refine ⟨c0, c1, fun hm => c2 (List.mem_append_left _ hm), ?_⟩
                rw [getD_set _ _ _ _ (by omega), if_neg (by omega)]
                exact List.mem_append_left _ c3
            hasA := by
              rw [hpods]
              intro p hp
              show (if p.2 = M.base + x then some t0 else M.byA p.2) ≠ none
              by_cases e : p.2 = M.base + x
              · rw [if_pos e]; simp
              · rw [if_neg e]
                rcases List.mem_append.1 hp with hp | hp
                · exact h.hasA p hp
                · rw [List.mem_singleton] at hp; subst hp; exact absurd rfl e
            inj := by
              intro a b t ha hb2
              have ha : (if a = M.base + x then some t0 else M.byA a) = some t := ha
              have hb2 : (if b = M.base + x then some t0 else M.byA b) = some t := hb2
              have hno : ∀ c, M.byA c = some t0 → False := fun c hc => (h.byA c t0 hc).2.2.1 (by rw [hq]; simp)
              by_cases e : a = M.base + x
              · by_cases e2 : b = M.base + x
                · rw [e, e2]
                · rw [if_pos e] at ha; rw [if_neg e2] at hb2
                  injection ha with ha; rw [← ha] at hb2; exact (hno _ hb2).elim
              · by_cases e2 : b = M.base + x
                · rw [if_neg e] at ha; rw [if_pos e2] at hb2
                  injection hb2 with hb2; rw [← hb2] at ha; exact (hno _ ha).elim
                · rw [if_neg e] at ha; rw [if_neg e2] at hb2
                  exact h.inj a b t ha hb2
            spn := hqn
            sp := fun y hy => by
              have := h.sp y (by rw [hq]; exact List.mem_append_left _ hy)
              show 0 ≤ y ∧ y < ((M.names.set t0.toNat s).length : Int)
              rw [hlen]; exact this
            sum := by show M.cnt + 1 + q.length = (M.names.set t0.toNat s).length; rw [hlen, ← hsum, hq]; simp; omega
            nl := by show (M.names.set t0.toNat s).length ≤ 1024; rw [hlen]; exact h.nl }
theorem cut_perm {l : List Pod} {i : Nat} (hi : i < l.length) : (podAt l i :: cutF l i).Perm l := by
  have e : podAt l i = l[i] := by simp [podAt, List.getD_eq_getElem?_getD, List.getElem?_eq_getElem hi]
  have h1 : l = l.take i ++ l[i] :: l.drop (i + 1) := by rw [List.getElem_cons_drop hi, List.take_append_drop]
  rw [e, cutF]
  exact (List.perm_middle.symm).trans (List.Perm.of_eq h1.symm)
theorem Rel.cut (h : Rel M R) {s : ByteArray} {a t : Int} (hs : M.byN s = some a) (ha : M.byA a = some t) : Rel (delS M s a t) { R with pods := cutF R.pods (atF R.pods s).toNat } := by
  obtain ⟨i0, i1, hp⟩ := h.atF_some hs
  have hi : (atF R.pods s).toNat < R.pods.length := by omega
  generalize (atF R.pods s).toNat = i at hp hi
  have hperm := cut_perm hi
  rw [hp] at hperm
  have hnn := (hperm.map (·.1)).nodup_iff.2 h.nn
  have hna := (hperm.map (·.2)).nodup_iff.2 h.na
  rw [List.map_cons, List.nodup_cons] at hnn hna
  have hmem : ∀ p, p ∈ R.pods ↔ p = (s, a) ∨ p ∈ cutF R.pods i := fun p => by rw [← hperm.mem_iff, List.mem_cons]
  have hlen := hperm.length_eq
  rw [List.length_cons] at hlen
  obtain ⟨t0, t1, t2, t3⟩ := h.byA a t ha
  have hset : (M.names.set t.toNat ⟨#[]⟩).length = M.names.length := List.length_set ..
  have hsum := h.sum
  have hcnt := h.cnt
  have hn1 : ∀ b, (s, b) ∉ cutF R.pods i := fun b hb => hnn.1 (List.mem_map_of_mem (f := (·.1)) hb)
  have hn2 : ∀ p, p ∈ cutF R.pods i → p.2 ≠ a := fun p hp2 e => hna.1 (by have := List.mem_map_of_mem (f := (·.2)) hp2; rw [e] at this; exact this)
  exact { base := h.base, b0 := h.b0, sz := h.sz, top := h.top, l0 := h.l0, l1 := h.l1, sl := h.sl, al := h.al, first := h.first, last := h.last, given := h.given, g0 := h.g0, g1 := h.g1,
          cnt := by show M.cnt - 1 = (cutF R.pods i).length; omega
          lim := by show (cutF R.pods i).length ≤ 1024; have := h.lim; omega
          nn := hnn.2
          na := hna.2
          rng := fun p hp2 => h.rng p ((hmem p).2 (.inr hp2))
          byN := by
            intro x b
            show (if x = s then none else M.byN x) = some b ↔ (x, b) ∈ cutF R.pods i
            by_cases e : x = s
            · rw [if_pos e, e]
              exact ⟨fun h => (by cases h), fun h => absurd h (hn1 b)⟩
            · rw [if_neg e, h.byN x b, hmem]
              constructor
              · rintro (h1 | h1)
                · injection h1 with h1 _; exact absurd h1 e
                · exact h1
              · exact .inr
          byA := by
            intro b u hb
            have hb : (if b = a then none else M.byA b) = some u := hb
            show 0 ≤ u ∧ u < ((M.names.set t.toNat ⟨#[]⟩).length : Int) ∧ u ∉ M.spare ++ [t] ∧ ((M.names.set t.toNat ⟨#[]⟩).getD u.toNat ⟨#[]⟩, b) ∈ cutF R.pods i
            rw [hset]
            by_cases e : b = a
            · rw [if_pos e] at hb; cases hb
            · rw [if_neg e] at hb
              obtain ⟨c0, c1, c2, c3⟩ := h.byA b u hb
              have hne : u ≠ t := fun eu => e (h.inj b a u hb (by rw [eu]; exact ha))
              refine ⟨c0, c1, fun hm => ?_, ?_⟩
              · rcases List.mem_append.1 hm with hm | hm
                · exact c2 hm
                · exact hne (List.mem_singleton.1 hm)
              · rw [getD_set _ _ _ _ (by omega), if_neg (by omega)]
                rcases (hmem _).1 c3 with h1 | h1
                · injection h1 with _ h1; exact absurd h1 e
                · exact h1
          hasA := by
            intro p hp2
            show (if p.2 = a then none else M.byA p.2) ≠ none
            rw [if_neg (hn2 p hp2)]
            exact h.hasA p ((hmem p).2 (.inr hp2))
          inj := by
            intro b c u hb hc
            have hb : (if b = a then none else M.byA b) = some u := hb
            have hc : (if c = a then none else M.byA c) = some u := hc
            by_cases e : b = a
            · rw [if_pos e] at hb; cases hb
            · by_cases e2 : c = a
              · rw [if_pos e2] at hc; cases hc
              · rw [if_neg e] at hb; rw [if_neg e2] at hc
                exact h.inj b c u hb hc
          spn := by
            show (M.spare ++ [t]).Nodup
            rw [List.nodup_append]
            exact ⟨h.spn, by simp, fun y hy z hz e => by rw [List.mem_singleton] at hz; subst hz; subst e; exact t2 hy⟩
          sp := by
            intro y hy
            have hy : y ∈ M.spare ++ [t] := hy
            show 0 ≤ y ∧ y < ((M.names.set t.toNat ⟨#[]⟩).length : Int)
            rw [hset]
            rcases List.mem_append.1 hy with hy | hy
            · exact h.sp y hy
            · rw [List.mem_singleton] at hy; subst hy; exact ⟨t0, t1⟩
          sum := by show M.cnt - 1 + (M.spare ++ [t]).length = (M.names.set t.toNat ⟨#[]⟩).length; rw [hset, ← hsum]; simp; omega
          nl := by show (M.names.set t.toNat ⟨#[]⟩).length ≤ 1024; rw [hset]; exact h.nl }
end
end Go.Proofs.Ytgabkifojnkbkaa.Ip

set_option linter.unusedVariables false
set_option linter.unusedSimpArgs false
namespace Go.Proofs.Ytgabkifojnkbkaa.Ip
open Go.RowKit Go.Maps Go.WideMaps Go.MapKept Go.Proofs.YtgabkifojnkbkaaW.PrintWords Go.Proofs.Ytgabkifojnkbkaa.PIpf
theorem atA_map (l : List Pod) (j : Nat) : atA (l.map (·.2)) j = (podAt l j).2 := by
  unfold atA podAt
  rw [List.getD_eq_getElem?_getD, List.getD_eq_getElem?_getD, List.getElem?_map]
  cases l[j]? <;> rfl
theorem swapP_map (l : List Pod) (j : Nat) : (swapP l j).map (·.2) = swA (l.map (·.2)) j := by
  unfold swapP swA
  rw [List.map_set, List.map_set, atA_map, atA_map]
theorem bubble_map : ∀ (j : Nat) (l : List Pod), (bubble j l).map (·.2) = bubA j (l.map (·.2))
  | 0, l => rfl
  | j + 1, l => by
    rw [bubble, bubA, atA_map, atA_map]
    split
    · rw [bubble_map j, swapP_map]
    · rfl
theorem swapP_perm (l : List Pod) (j : Nat) (hj : j + 1 < l.length) : (swapP l j).Perm l := by
  have h := @List.set_set_perm _ l (j + 1) j hj (by omega)
  have e1 : podAt l j = l[j] := by simp [podAt, List.getD_eq_getElem?_getD, List.getElem?_eq_getElem (show j < l.length from by omega)]
  have e2 : podAt l (j + 1) = l[j + 1] := by simp [podAt, List.getD_eq_getElem?_getD, List.getElem?_eq_getElem hj]
  rw [swapP, e1, e2]
  exact h
theorem bubble_perm : ∀ (j : Nat) (l : List Pod), j < l.length → (bubble j l).Perm l
  | 0, l, _ => List.Perm.refl _
  | j + 1, l, h => by
    rw [bubble]
    split
    · exact (bubble_perm j _ (by rw [swapP_length]; omega)).trans (swapP_perm l j h)
    · exact List.Perm.refl _
theorem insF_perm (l : List Pod) (p : Pod) : (insF l p).Perm (p :: l) := by
  rw [insF]
  exact (bubble_perm _ _ (by simp)).trans (List.perm_append_comm (l₁ := l) (l₂ := [p]))
def Srt (l : List Pod) : Prop := ∀ i i', i < i' → i' < l.length → (podAt l i).2 ≤ (podAt l i').2
theorem insF_srt (l : List Pod) (p : Pod) (h : Srt l) : Srt (insF l p) := by
  intro i i' h1 h2
  rw [insF_length] at h2
  have hs := bubA_sort l.length l.length ((l ++ [p]).map (·.2)) (by simp) (Nat.le_refl _) (by
    intro a b ha hb hne
    rw [atA_map, atA_map]
    have e : ∀ k, k < l.length → podAt (l ++ [p]) k = podAt l k := fun k hk => by
      unfold podAt; rw [List.getD_eq_getElem?_getD, List.getElem?_append_left hk, List.getD_eq_getElem?_getD]
    rw [e a (by omega), e b (by omega)]
    exact h a b ha (by omega)) i i' h1 (by omega)
  rw [← bubble_map, atA_map, atA_map] at hs
  exact hs
theorem rlistF_all (l : List Pod) : (rlistF l).Perm l ∧ Srt (rlistF l) := by
  have hh : ∀ (l acc : List Pod), Srt acc → (l.foldl insF acc).Perm (l ++ acc) ∧ Srt (l.foldl insF acc) := by
    intro l
    induction l with
    | nil => intro acc ha; exact ⟨List.Perm.refl _, ha⟩
    | cons p r ih =>
      intro acc ha
      obtain ⟨h1, h2⟩ := ih (insF acc p) (insF_srt acc p ha)
      refine ⟨h1.trans (((insF_perm acc p).append_left r).trans ?_), h2⟩
      exact List.perm_middle
  have := hh l [] (fun i i' _ h2 => by simp at h2)
  rw [List.append_nil] at this
  exact this
theorem Rel.list_eq {M : IpM} {R : RfM} (h : Rel M R) {l : List Int} (hl : KeysIn M.byA l) : listF M l = rlistF R.pods := by
  obtain ⟨hperm, hsrt⟩ := rlistF_all R.pods
  have hnd : ((rlistF R.pods).map (·.2)).Nodup := (hperm.map (·.2)).nodup_iff.2 h.na
  have hlnd : l.Nodup := hl.1.imp (fun hab e => by omega)
  have hsort : ((rlistF R.pods).map (·.2)).Pairwise (· ≤ ·) := by
    rw [List.pairwise_iff_getElem]
    intro i j hi hj hij
    rw [List.length_map] at hi hj
    have hs := hsrt i j hij hj
    simpa [podAt, List.getD_eq_getElem?_getD, List.getElem?_eq_getElem hi, List.getElem?_eq_getElem hj] using hs
  have hpe : ((rlistF R.pods).map (·.2)).Perm l := by
    refine (List.perm_ext_iff_of_nodup hnd hlnd).2 fun x => ?_
    rw [hl.2 x, List.mem_map]
    constructor
    · rintro ⟨p, hp, rfl⟩
      rw [hperm.mem_iff] at hp
      exact ⟨(h.pin p hp).1, (h.pin p hp).2, h.hasA p hp⟩
    · rintro ⟨_, _, hx⟩
      obtain ⟨t, ht⟩ := Option.ne_none_iff_exists'.1 hx
      exact ⟨_, hperm.mem_iff.2 (h.byA x t ht).2.2.2, rfl⟩
  have heq : (rlistF R.pods).map (·.2) = l := List.Perm.eq_of_pairwise (le := fun a b => a ≤ b) (fun a b _ _ h1 h2 => Int.le_antisymm h1 h2) hsort (hl.1.imp (fun hab => Int.le_of_lt hab)) hpe
  have hpod : ∀ p, p ∈ rlistF R.pods → podF M p.2 = p := fun p hp => by
    rw [hperm.mem_iff] at hp
    obtain ⟨t, ht⟩ := Option.ne_none_iff_exists'.1 (h.hasA p hp)
    have hm := (h.byA _ t ht).2.2.2
    rw [podF, ht]
    exact nodup_map_inj h.na hm hp rfl
  rw [← heq, listF, List.map_map]
  conv => rhs; rw [← List.map_id (rlistF R.pods)]
  exact List.map_congr_left fun p hp => hpod p hp
/-- what is asked of a subnet -/
def Good (a l : Int) : Prop := 1 ≤ l ∧ l ≤ 30 ∧ a % sizeF l = 0
theorem new_bad_any (w : World) (a l : Int) (h0 : 0 ≤ a) (h1 : a < 4294967296) (hb : ¬ Good a l) :
    Calls Try.prog 20 #[.agg #[.int .u32 a, .int .i64 l]] w fun e w' => e = .returned (.tuple #[.pointer none, .int .i64 151]) ∧ Below w.heap.size w w' := by
  have hs := span_all a l h0 h1
  by_cases c : l < 0 ∨ 32 < l
  · rw [if_pos c] at hs
    exact new_bad 1 w a l 0 0 11 hs (.inr (by omega))
  · rw [if_neg c] at hs
    by_cases d : a % sizeF l = 0
    · rw [if_pos d] at hs
      refine new_bad 1 w a l _ _ 0 hs (.inr ?_)
      rcases Int.lt_or_le l 1 with q | q
      · exact .inl q
      · rcases Int.lt_or_le 30 l with q2 | q2
        · exact .inr q2
        · exact absurd ⟨q, q2, d⟩ hb
    · rw [if_neg d] at hs
      exact new_bad 1 w a l 0 0 12 hs (.inl (by decide))
theorem rnew_bad_any (w : World) (a l : Int) (h0 : 0 ≤ a) (h1 : a < 4294967296) (hb : ¬ Good a l) :
    Calls Try.prog 35 #[.agg #[.int .u32 a, .int .i64 l]] w fun e w' => e = .returned (.tuple #[.pointer none, .int .i64 151]) ∧ Below w.heap.size w w' := by
  by_cases c : l < 1 ∨ l > 30
  · exact rnew_len w a l c
  · refine (rnew w a l (by omega) (by omega) h0 h1).mono ?_
    rintro e w' ⟨hB, ⟨_, rfl⟩ | ⟨hd, _⟩⟩
    · exact ⟨rfl, hB⟩
    · exact absurd ⟨by omega, by omega, hd⟩ hb
theorem new_good (w : World) (a l : Int) (h0 : 0 ≤ a) (h1 : a < 4294967296) (hg : Good a l) :
    Calls Try.prog 20 #[.agg #[.int .u32 a, .int .i64 l]] w fun e w' => ∃ B b1 b2, e = .returned (.tuple #[.pointer (some ⟨B, 0, none⟩), .int .i64 0]) ∧ IpS w' B b1 b2 (.slice none 0 0) (.slice none 0 0) (newM a l (a + sizeF l - 1)) ∧ Below w.heap.size w w' ∧ ∀ b, b ∈ IpF B b1 b2 (.slice none 0 0) (.slice none 0 0) → w.heap.size ≤ b := by
  obtain ⟨g0, g1, g2⟩ := hg
  have hr := Rel.new g0 g1 h0 h1 g2
  have hs := span_all a l h0 h1
  rw [if_neg (by omega), if_pos g2] at hs
  have hsz : 4 ≤ sizeF l := hr.sz
  have htop : a + sizeF l ≤ 4294967296 := hr.top
  exact new_ok 1 w a l a _ hs g0 g1 h0 (by omega) (by omega) rfl
theorem rnew_good (w : World) (a l : Int) (h0 : 0 ≤ a) (h1 : a < 4294967296) (hg : Good a l) :
    Calls Try.prog 35 #[.agg #[.int .u32 a, .int .i64 l]] w fun e w' => ∃ B, e = .returned (.tuple #[.pointer (some ⟨B, 0, none⟩), .int .i64 0]) ∧ RfS w' B (.slice none 0 0) (rnewM a l) ∧ w.heap.size ≤ B ∧ Below w.heap.size w w' := by
  refine (rnew w a l hg.1 hg.2.1 h0 h1).mono ?_
  rintro e w' ⟨hB, ⟨hd, _⟩ | ⟨_, B, rfl, hS, hle⟩⟩
  · exact absurd hg.2.2 hd
  · exact ⟨B, rfl, hS, hle, hB⟩
/-- the two subnets in memory, alike, with n pods at the most -/
def St (w : World) (B B' n : Nat) (F : List Nat) : Prop := ∃ b1 b2 vn vs M vp R, IpS w B b1 b2 vn vs M ∧ RfS w B' vp R ∧ Rel M R ∧ R.pods.length ≤ n ∧ (∀ b, b ∈ IpF B b1 b2 vn vs → b ∉ RfF B' vp) ∧ F = IpF B b1 b2 vn vs ++ RfF B' vp
theorem St.turn {w w' : World} {B B' n : Nat} {F G : List Nat} (h : St w B B' n F) (ht : Turn w w' G) (hd : ∀ b, b ∈ F → b ∉ G) : St w' B B' n F := by
  obtain ⟨b1, b2, vn, vs, M, vp, R, h1, h2, h3, h4, h5, rfl⟩ := h
  exact ⟨b1, b2, vn, vs, M, vp, R, h1.turn ht (fun b hb => hd b (List.mem_append_left _ hb)), h2.turn ht (fun b hb => hd b (List.mem_append_right _ hb)), h3, h4, h5, rfl⟩
theorem St.lt {w : World} {B B' n : Nat} {F : List Nat} (h : St w B B' n F) : ∀ b, b ∈ F → b < w.heap.size := by
  obtain ⟨b1, b2, vn, vs, M, vp, R, h1, h2, h3, h4, h5, rfl⟩ := h
  intro b hb
  rcases List.mem_append.1 hb with hb | hb
  · exact h1.lt b hb
  · exact h2.lt b hb
theorem St.below {w w' : World} {B B' n : Nat} {F : List Nat} (h : St w B B' n F) (ht : Below w.heap.size w w') : St w' B B' n F := h.turn (Turn.of_below ht []) (fun _ _ hb => by cases hb)
set_option maxHeartbeats 8000000 in
set_option maxRecDepth 100000 in
theorem both_bad (w : World) (a l : Int) (h0 : 0 ≤ a) (h1 : a < 4294967296) (hb : ¬ Good a l) :
    Calls Try.prog 15 #[.agg #[.int .u32 a, .int .i64 l]] w fun e w' => e = .returned (.tuple #[.pointer none, .pointer none, .bool true]) ∧ Below w.heap.size w w' := by
  have hn := Aside0.mk (fun w => new_bad_any w a l h0 h1 hb)
  have hr := Aside0.mk (fun w => rnew_bad_any w a l h0 h1 hb)
  go_enter Try.func15, Try.ntmps15
  go_wp2_with (first | (go_at_call 20; refine (hn.out _).mono ?_; rintro e_ w1 ⟨rfl, hb1⟩
                        have kb := blk_below (blk_new w (.cells #[.int .u32 a, .int .i64 l] 25)) hb1
                        have k0 : w1.cell? ⟨w.heap.size, 0, none⟩ = some (.int .u32 a) := blk_cell kb 0
                        have k1 : w1.cell? ⟨w.heap.size, 1, none⟩ = some (.int .i64 l) := blk_cell kb 1
                        have HB1 := Aside0.mk (below_step (below_alloc (Below.refl _ _) _) hb1)
                        clear hb1 kb)
                     | (go_at_call 35; refine (hr.out _).mono ?_; rintro e_ w2 ⟨rfl, hb2⟩; have HB2 := Aside0.mk (below_step HB1.out hb2); clear hb2) | go_in)
  go_ret3
  exact ⟨rfl, HB2.out⟩
set_option maxHeartbeats 8000000 in
set_option maxRecDepth 100000 in
theorem both_good (w : World) (a l : Int) (h0 : 0 ≤ a) (h1 : a < 4294967296) (hg : Good a l) :
    Calls Try.prog 15 #[.agg #[.int .u32 a, .int .i64 l]] w fun e w' => ∃ B B' F, e = .returned (.tuple #[.pointer (some ⟨B, 0, none⟩), .pointer (some ⟨B', 0, none⟩), .bool true]) ∧ St w' B B' 0 F ∧ Below w.heap.size w w' ∧ ∀ b, b ∈ F → w.heap.size ≤ b := by
  have hrel := Aside0.mk (Rel.new hg.1 hg.2.1 h0 h1 hg.2.2)
  have hn := Aside0.mk (fun w => new_good w a l h0 h1 hg)
  have hr := Aside0.mk (fun w => rnew_good w a l h0 h1 hg)
  clear hg
  go_enter Try.func15, Try.ntmps15
  go_wp2_with (first | (go_at_call 20; refine (hn.out _).mono ?_; rintro e_ w1 ⟨B, b1, b2, rfl, hS, hb1, hF⟩
                        have kb := blk_below (blk_new w (.cells #[.int .u32 a, .int .i64 l] 25)) hb1
                        have k0 : w1.cell? ⟨w.heap.size, 0, none⟩ = some (.int .u32 a) := blk_cell kb 0
                        have k1 : w1.cell? ⟨w.heap.size, 1, none⟩ = some (.int .i64 l) := blk_cell kb 1
                        have HB1 := Aside0.mk (below_step (below_alloc (Below.refl _ _) _) hb1)
                        have HS := Aside0.mk hS
                        have HF := Aside0.mk (fun b hb => Nat.le_trans (by rw [World.size_alloc]; omega : w.heap.size ≤ _) (hF b hb))
                        clear hb1 kb hS hF)
                     | (go_at_call 35; refine (hr.out _).mono ?_; rintro e_ w2 ⟨B', rfl, hR, hB', hb2⟩; have HB2 := Aside0.mk (below_step HB1.out hb2); have HS2 := Aside0.mk (HS.out.below hb2); have HR := Aside0.mk hR; have HLE := Aside0.mk hB'; clear hb2 hR hB') | go_in)
  go_ret3
  have hz := HB1.out.size
  have hle := HLE.out
  refine ⟨B, B', _, rfl, ⟨b1, b2, _, _, _, _, _, HS2.out, HR.out, hrel.out, Nat.le_refl _, fun b hb hb2 => ?_, rfl⟩, HB2.out, fun b hb => ?_⟩
  · have := HS.out.lt b hb
    simp only [RfF, Value.ownBlock, Option.toList_none, List.mem_cons, List.not_mem_nil, or_false] at hb2
    omega
  · rcases List.mem_append.1 hb with hb | hb
    · exact HF.out b hb
    · simp only [RfF, Value.ownBlock, Option.toList_none, List.mem_cons, List.not_mem_nil, or_false] at hb
      omega
end Go.Proofs.Ytgabkifojnkbkaa.Ip
