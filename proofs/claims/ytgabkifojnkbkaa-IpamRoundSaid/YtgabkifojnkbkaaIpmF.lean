/- The program's subnet against the document's: the relation, and what it says of the answers. Plain Lean; no walk. -/
import Derived.Test.YtgabkifojnkbkaaIpmC
set_option linter.unusedVariables false
set_option linter.unusedSimpArgs false
namespace Go.Proofs.Ytgabkifojnkbkaa.Ip
theorem nodup_map_inj {α β : Type} {f : α → β} : ∀ {l : List α}, (l.map f).Nodup → ∀ {a b : α}, a ∈ l → b ∈ l → f a = f b → a = b
  | [], _, a, b, ha, _, _ => by cases ha
  | c :: r, h, a, b, ha, hb, he => by
    rw [List.map_cons, List.nodup_cons] at h
    rcases List.mem_cons.1 ha with ea | ha2
    · rcases List.mem_cons.1 hb with eb | hb2
      · rw [ea, eb]
      · have hm : f b ∈ r.map f := List.mem_map_of_mem hb2
        rw [← he, ea] at hm; exact absurd hm h.1
    · rcases List.mem_cons.1 hb with eb | hb2
      · have hm : f a ∈ r.map f := List.mem_map_of_mem ha2
        rw [he, eb] at hm; exact absurd hm h.1
      · exact nodup_map_inj h.2 ha2 hb2 he
theorem nodup_sub_len : ∀ {l m : List Int}, l.Nodup → (∀ x, x ∈ l → x ∈ m) → l.length ≤ m.length
  | [], m, _, _ => Nat.zero_le _
  | a :: r, m, h, hs => by
    rw [List.nodup_cons] at h
    have ha := hs a (List.mem_cons_self ..)
    have h2 : r.length ≤ (m.erase a).length := nodup_sub_len h.2 fun x hx => (List.mem_erase_of_ne (fun e => by rw [e] at hx; exact h.1 hx)).2 (hs x (List.mem_cons_of_mem _ hx))
    rw [List.length_erase_of_mem ha] at h2
    have := List.length_pos_of_mem ha
    simp only [List.length_cons]; omega
structure Rel (M : IpM) (R : RfM) : Prop where
  base : R.base = M.base
  b0 : 0 ≤ M.base
  sz : 4 ≤ R.size
  top : M.base + R.size ≤ 4294967296
  l0 : 1 ≤ M.len
  l1 : M.len ≤ 30
  sl : R.size = sizeF M.len
  al : M.base % R.size = 0
  first : M.first = M.base + 2
  last : M.last = M.base + R.size - 2
  given : M.given = M.base + R.last
  g0 : 1 ≤ R.last
  g1 : R.last ≤ R.size - 2
  cnt : M.cnt = R.pods.length
  lim : R.pods.length ≤ 1024
  nn : (R.pods.map (·.1)).Nodup
  na : (R.pods.map (·.2)).Nodup
  rng : ∀ p, p ∈ R.pods → M.base + 2 ≤ p.2 ∧ p.2 ≤ M.base + R.size - 2
  byN : ∀ s a, M.byN s = some a ↔ (s, a) ∈ R.pods
  byA : ∀ a t, M.byA a = some t → 0 ≤ t ∧ t < M.names.length ∧ t ∉ M.spare ∧ (M.names.getD t.toNat ⟨#[]⟩, a) ∈ R.pods
  hasA : ∀ p, p ∈ R.pods → M.byA p.2 ≠ none
  inj : ∀ a b t, M.byA a = some t → M.byA b = some t → a = b
  spn : M.spare.Nodup
  sp : ∀ x, x ∈ M.spare → 0 ≤ x ∧ x < M.names.length
  sum : M.cnt + M.spare.length = M.names.length
  nl : M.names.length ≤ 1024
section
variable {M : IpM} {R : RfM}
theorem Rel.ok (h : Rel M R) : M.Ok where
  sp := h.sp
  na := fun s a hs => by
    have hp := (h.byN s a).1 hs
    have hr := h.rng _ hp
    have ha := h.hasA _ hp
    have := h.b0; have := h.top
    simp only at hr ha
    refine ⟨by omega, by omega, ?_⟩
    exact Option.ne_none_iff_exists'.1 ha
  at_ := fun a t ha => ⟨(h.byA a t ha).1, (h.byA a t ha).2.1⟩
  sum := h.sum
  lim := h.nl
theorem Rel.num (h : Rel M R) : M.Num where
  f := by have := h.first; have := h.last; have := h.b0; have := h.sz; omega
  l := by have := h.last; have := h.top; omega
  g := by have := h.given; have := h.last; have := h.g0; have := h.g1; have := h.b0; omega
theorem Rel.pin (h : Rel M R) : ∀ p, p ∈ R.pods → 0 ≤ p.2 ∧ p.2 < 4294967296 := fun p hp => by
  have := h.rng p hp; have := h.b0; have := h.top; omega
theorem Rel.rnum (h : Rel M R) : R.Num where
  b := by have := h.base; have := h.b0; have := h.top; omega
  s := h.sz
  l := ⟨h.g0, h.g1⟩
  p := h.pin
theorem placeF_none {f : Pod → Bool} : ∀ {l : List Pod} {i : Int}, 0 ≤ i → placeF f l i < 0 → ∀ p, p ∈ l → f p = false
  | [], i, _, _, p, hp => by cases hp
  | q :: r, i, h0, h, p, hp => by
    rw [placeF] at h
    by_cases hq : f q = true
    · rw [if_pos hq] at h; omega
    · rw [if_neg hq] at h
      rcases List.mem_cons.1 hp with rfl | hp
      · simpa using hq
      · exact placeF_none (by omega) h p hp
theorem podAt_mem {l : List Pod} {i : Nat} (h : i < l.length) : podAt l i ∈ l := by
  simp only [podAt, List.getD_eq_getElem?_getD, List.getElem?_eq_getElem h, Option.getD_some]; exact List.getElem_mem h
/-- the name's place -/
theorem Rel.atF_none (h : Rel M R) {s : ByteArray} (hs : M.byN s = none) : atF R.pods s = -1 := by
  rcases atF_in R.pods s with e | ⟨h0, h1, h2⟩
  · exact e
  · have hm := podAt_mem (l := R.pods) (i := (atF R.pods s).toNat) (by omega)
    generalize podAt R.pods (atF R.pods s).toNat = q at h2 hm
    obtain ⟨q1, q2⟩ := q
    simp only at h2
    subst h2
    have hk := (h.byN q1 q2).2 hm
    rw [hs] at hk; cases hk
theorem Rel.atF_some (h : Rel M R) {s : ByteArray} {a : Int} (hs : M.byN s = some a) : 0 ≤ atF R.pods s ∧ atF R.pods s < R.pods.length ∧ podAt R.pods (atF R.pods s).toNat = (s, a) := by
  have hp := (h.byN s a).1 hs
  rcases atF_in R.pods s with e | ⟨h0, h1, h2⟩
  · have := placeF_none (l := R.pods) (f := fun p => p.1 == s) (i := 0) (by omega) (by rw [show placeF (fun p => p.1 == s) R.pods 0 = atF R.pods s from rfl, e]; omega) _ hp
    simp only at this
    have e2 := (bytes_beq s s).2 rfl
    rw [e2] at this; cases this
  · refine ⟨h0, h1, ?_⟩
    have hm := podAt_mem (l := R.pods) (i := (atF R.pods s).toNat) (by omega)
    exact nodup_map_inj h.nn hm hp h2
theorem Rel.holder_none (h : Rel M R) {a : Int} (ha : M.byA a = none) : holderF R.pods a < 0 := by
  rcases holderF_in R.pods a with e | ⟨h0, h1, h2⟩
  · omega
  · have hm := podAt_mem (l := R.pods) (i := (holderF R.pods a).toNat) (by omega)
    have := h.hasA _ hm
    rw [h2] at this; exact absurd ha this
theorem Rel.holder_some (h : Rel M R) {a t : Int} (ha : M.byA a = some t) : 0 ≤ holderF R.pods a ∧ holderF R.pods a < R.pods.length ∧ podAt R.pods (holderF R.pods a).toNat = (M.names.getD t.toNat ⟨#[]⟩, a) := by
  have hp := (h.byA a t ha).2.2.2
  rcases holderF_in R.pods a with e | ⟨h0, h1, h2⟩
  · have := placeF_none (l := R.pods) (f := fun p => p.2 == a) (i := 0) (by omega) (by rw [show placeF (fun p => p.2 == a) R.pods 0 = holderF R.pods a from rfl, e]; omega) _ hp
    simp at this
  · refine ⟨h0, h1, ?_⟩
    have hm := podAt_mem (l := R.pods) (i := (holderF R.pods a).toNat) (by omega)
    exact nodup_map_inj h.na hm hp h2
theorem Rel.free (h : Rel M R) (a : Int) : M.byA a = none ↔ holderF R.pods a < 0 := by
  refine ⟨h.holder_none, fun hh => ?_⟩
  cases e : M.byA a with
  | none => rfl
  | some t => have := (h.holder_some e).1; omega
theorem Rel.step (h : Rel M R) (x : Int) : stepA M (M.base + x) = M.base + rstep R x := by
  unfold stepA rstep
  rw [h.last, h.first]
  by_cases c : x + 1 > R.size - 2
  · rw [if_pos c, if_pos (by omega)]
  · rw [if_neg c, if_neg (by omega)]; omega
theorem Rel.seek_eq (h : Rel M R) : ∀ (n : Nat) (x : Int), seek M n (M.base + x) = M.base + rseek R n x
  | 0, x => rfl
  | n + 1, x => by
    rw [seek, rseek, h.step, h.base]
    by_cases c : M.byA (M.base + rstep R x) = none
    · rw [if_pos c, if_pos ((h.free _).1 c)]
    · rw [if_neg c, if_neg (fun c2 => c ((h.free _).2 c2)), h.seek_eq n]
/-- the i-th place behind x -/
def posF (R : RfM) (x : Int) (i : Nat) : Int := if x + i ≤ R.size - 2 then x + i else x + i - (R.size - 3)
theorem pos_step (x : Int) (h0 : 1 ≤ x) (h1 : x ≤ R.size - 2) (i : Nat) (hi : (i : Int) + 1 ≤ R.size - 3) : rstep R (posF R x i) = posF R x (i + 1) := by
  unfold posF rstep
  simp only [Int.natCast_add, Int.cast_ofNat_Int]
  by_cases c1 : x + (i : Int) ≤ R.size - 2
  · rw [if_pos c1]
    by_cases c2 : x + (i : Int) + 1 > R.size - 2
    · rw [if_pos c2, if_neg (by omega)]; omega
    · rw [if_neg c2, if_pos (by omega)]; omega
  · rw [if_neg c1, if_neg (by omega), if_neg (by omega)]; omega
theorem held_all (x : Int) (h0 : 1 ≤ x) (h1 : x ≤ R.size - 2) : ∀ (n i : Nat), 1 ≤ n → (i : Int) + n ≤ R.size - 3 → 0 ≤ holderF R.pods (R.base + rseek R n (posF R x i)) → ∀ j, i < j → j ≤ i + n → 0 ≤ holderF R.pods (R.base + posF R x j)
  | n + 1, i, _, hi, hh, j, hj0, hj1 => by
    rw [rseek, pos_step x h0 h1 i (by omega)] at hh
    by_cases c : holderF R.pods (R.base + posF R x (i + 1)) < 0
    · rw [if_pos c] at hh; omega
    · rw [if_neg c] at hh
      by_cases e : j = i + 1
      · subst e; omega
      · have hn : 1 ≤ n := by omega
        exact held_all x h0 h1 n (i + 1) hn (by omega) hh j (by omega) (by omega)
/-- a free place is found -/
theorem Rel.found (h : Rel M R) (hf : (R.pods.length : Int) < R.size - 3) : holderF R.pods (R.base + rseek R (R.pods.length + 1) R.last) < 0 := by
  rcases Int.lt_or_le (holderF R.pods (R.base + rseek R (R.pods.length + 1) R.last)) 0 with c | c
  · exact c
  · exfalso
    have e0 : posF R R.last 0 = R.last := by unfold posF; rw [if_pos (by have := h.g1; omega)]; omega
    have hall := held_all (R := R) R.last h.g0 h.g1 (R.pods.length + 1) 0 (by omega) (by omega) (by rw [e0]; exact c)
    have hle := nodup_sub_len (l := (List.range (R.pods.length + 1)).map fun i => R.base + posF R R.last (i + 1)) (m := R.pods.map (·.2)) (by
      rw [List.Nodup, List.pairwise_map]
      refine List.Pairwise.imp_of_mem (R := fun a b => a < b) ?_ List.pairwise_lt_range
      intro a b ha hb hab he
      rw [List.mem_range] at ha hb
      have g0 := h.g0
      have g1 := h.g1
      unfold posF at he
      split at he <;> split at he <;> omega) (by
      intro y hy
      rw [List.mem_map] at hy
      obtain ⟨i, hi, rfl⟩ := hy
      rw [List.mem_range] at hi
      have hh := hall (i + 1) (by omega) (by omega)
      rcases holderF_in R.pods (R.base + posF R R.last (i + 1)) with e | ⟨q0, q1, q2⟩
      · omega
      · rw [List.mem_map]
        exact ⟨_, podAt_mem (by omega), q2⟩)
    simp at hle
    omega
end
end Go.Proofs.Ytgabkifojnkbkaa.Ip
