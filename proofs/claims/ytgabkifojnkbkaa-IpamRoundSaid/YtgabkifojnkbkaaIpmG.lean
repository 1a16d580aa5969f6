/- The relation between the program's subnet and the document's is kept by New, Add and Del. Plain Lean. -/
import Derived.Test.YtgabkifojnkbkaaIpmH
set_option linter.unusedVariables false
set_option linter.unusedSimpArgs false
namespace Go.Proofs.Ytgabkifojnkbkaa.Ip
theorem sizeF_mul {l : Int} (h0 : 1 ≤ l) (h1 : l ≤ 30) : 4 ≤ sizeF l ∧ sizeF l * 2 ^ l.toNat = 4294967296 := by
  have e : ∀ n : Nat, n < 31 → 1 ≤ n → 4 ≤ sizeF (n : Int) ∧ sizeF (n : Int) * 2 ^ n = 4294967296 := by decide +kernel
  have := e l.toNat (by omega) (by omega)
  rwa [Int.toNat_of_nonneg (by omega)] at this
theorem Rel.new {a l : Int} (hl0 : 1 ≤ l) (hl1 : l ≤ 30) (ha0 : 0 ≤ a) (ha1 : a < 4294967296) (hd : a % sizeF l = 0) : Rel (newM a l (a + sizeF l - 1)) (rnewM a l) := by
  obtain ⟨hz, hm⟩ := sizeF_mul hl0 hl1
  have htop : a + sizeF l ≤ 4294967296 := by
    have hq : a = sizeF l * (a / sizeF l) := by have := Int.mul_ediv_add_emod a (sizeF l); omega
    generalize a / sizeF l = q at hq
    generalize sizeF l = z at *
    generalize ((2 : Int) ^ l.toNat) = p at *
    have hlt : q < p := by
      rcases Int.lt_or_le q p with h | h
      · exact h
      · have : z * p ≤ z * q := Int.mul_le_mul_of_nonneg_left h (by omega)
        omega
    have : z * (q + 1) ≤ z * p := Int.mul_le_mul_of_nonneg_left (by omega) (by omega)
    rw [Int.mul_add] at this
    omega
  exact { base := rfl, b0 := ha0, sz := hz, top := htop, l0 := hl0, l1 := hl1, sl := rfl, al := hd, first := rfl, last := by show a + sizeF l - 1 - 1 = a + sizeF l - 2; omega
          given := rfl
          g0 := by show (1 : Int) ≤ 1; decide
          g1 := by show (1 : Int) ≤ sizeF l - 2; omega
          cnt := rfl
          lim := by show ([] : List Pod).length ≤ 1024; decide
          nn := List.nodup_nil
          na := List.nodup_nil
          rng := fun p hp => nomatch hp
          byN := fun s b => ⟨fun h => (by cases h), fun h => (by cases h)⟩
          byA := fun b t h => (by cases h)
          hasA := fun p hp => nomatch hp
          inj := fun b c t h => (by cases h)
          spn := List.nodup_nil
          sp := fun x hx => nomatch hx
          sum := rfl
          nl := by show ([] : List ByteArray).length ≤ 1024; decide }
theorem pods_nn {l : List Pod} {s : ByteArray} {a : Int} (h : (l.map (·.1)).Nodup) (hs : ∀ b, (s, b) ∉ l) : ((l ++ [(s, a)]).map (·.1)).Nodup := by
  rw [List.map_append, List.nodup_append]
  refine ⟨h, by simp, fun x hx y hy e => ?_⟩
  rw [List.map_cons, List.map_nil, List.mem_singleton] at hy
  subst hy; subst e
  rw [List.mem_map] at hx
  obtain ⟨p, hp, he⟩ := hx
  obtain ⟨p1, p2⟩ := p
  simp only at he
  subst he
  exact hs p2 hp
theorem pods_na {l : List Pod} {s : ByteArray} {a : Int} (h : (l.map (·.2)).Nodup) (hs : ∀ p, p ∈ l → p.2 ≠ a) : ((l ++ [(s, a)]).map (·.2)).Nodup := by
  rw [List.map_append, List.nodup_append]
  refine ⟨h, by simp, fun x hx y hy e => ?_⟩
  rw [List.map_cons, List.map_nil, List.mem_singleton] at hy
  subst hy; subst e
  rw [List.mem_map] at hx
  obtain ⟨p, hp, he⟩ := hx
  exact hs p hp he
section
variable {M : IpM} {R : RfM}
theorem Rel.byN_put (h : Rel M R) {s : ByteArray} (hs : M.byN s = none) (a : Int) : ∀ x b, putN M.byN s a x = some b ↔ (x, b) ∈ R.pods ++ [(s, a)] := by
  intro x b
  unfold putN
  rw [List.mem_append, List.mem_singleton]
  by_cases e : x = s
  · subst e
    rw [if_pos rfl]
    constructor
    · intro h1; injection h1 with h1; subst h1; exact .inr rfl
    · rintro (h1 | h1)
      · have := (h.byN x b).2 h1; rw [hs] at this; cases this
      · injection h1 with _ h1; rw [h1]
  · rw [if_neg e, h.byN x b]
    constructor
    · exact .inl
    · rintro (h1 | h1)
      · exact h1
      · injection h1 with h1 _; exact absurd h1 e
theorem getD_set (l : List ByteArray) (i j : Nat) (s : ByteArray) (hi : i < l.length) : (l.set i s).getD j ⟨#[]⟩ = if j = i then s else l.getD j ⟨#[]⟩ := by
  rw [List.getD_eq_getElem?_getD, List.getElem?_set]
  by_cases e : i = j
  · subst e; simp [hi]
  · rw [if_neg e, if_neg (Ne.symm e), List.getD_eq_getElem?_getD]
theorem getD_app (l m : List ByteArray) (j : Nat) (hj : j < l.length) : (l ++ m).getD j ⟨#[]⟩ = l.getD j ⟨#[]⟩ := by
  rw [List.getD_eq_getElem?_getD, List.getElem?_append_left hj, List.getD_eq_getElem?_getD]
theorem Rel.kept (h : Rel M R) {s : ByteArray} (hs : M.byN s = none) (x : Int) (hx0 : 2 ≤ x) (hx1 : x ≤ R.size - 2) (hfree : M.byA (M.base + x) = none) (hl : R.pods.length < 1024) :
    Rel (keptF { M with given := M.base + x } s (M.base + x)) (raddS R s x) := by
  have hb := h.base
  have hnew : ∀ p, p ∈ R.pods → p.2 ≠ M.base + x := fun p hp e => by have := h.hasA p hp; rw [e] at this; exact this hfree
  have hnos : ∀ b, (s, b) ∉ R.pods := fun b hb => by have := (h.byN s b).2 hb; rw [hs] at this; cases this
  have hsum := h.sum
  have hcnt := h.cnt
  have hrng : ∀ p, p ∈ R.pods ++ [(s, M.base + x)] → M.base + 2 ≤ p.2 ∧ p.2 ≤ M.base + R.size - 2 := fun p hp => by
    rcases List.mem_append.1 hp with hp | hp
    · exact h.rng p hp
    · rw [List.mem_singleton] at hp; subst hp; simp only; omega
  have hpods : (raddS R s x).pods = R.pods ++ [(s, M.base + x)] := by show R.pods ++ [(s, R.base + x)] = _; rw [hb]
  unfold keptF
  by_cases hsp : M.spare = []
  · rw [if_pos hsp]
    exact { base := hb, b0 := h.b0, sz := h.sz, top := h.top, l0 := h.l0, l1 := h.l1, sl := h.sl, al := h.al, first := h.first, last := h.last, given := rfl, g0 := by show 1 ≤ x; omega, g1 := hx1,
            cnt := by rw [hpods, List.length_append]; show M.cnt + 1 = _; rw [hcnt]; rfl
            lim := by rw [hpods, List.length_append]; simp; omega
            nn := by rw [hpods]; exact pods_nn h.nn hnos
            na := by rw [hpods]; exact pods_na h.na hnew
            rng := by rw [hpods]; exact hrng
            byN := by rw [hpods]; exact h.byN_put hs _
            byA := by
              rw [hpods]
              intro a t ha
              have ha : (if a = M.base + x then some (M.names.length : Int) else M.byA a) = some t := ha
              by_cases e : a = M.base + x
              · rw [if_pos e] at ha
                injection ha with ha
                subst ha
                refine ⟨by omega, by show (M.names.length : Int) < ((M.names ++ [s]).length : Int); simp; omega, by show _ ∉ M.spare; rw [hsp]; simp, ?_⟩
                show ((M.names ++ [s]).getD (M.names.length : Int).toNat ⟨#[]⟩, a) ∈ _
                rw [e]; simp
              · rw [if_neg e] at ha
                obtain ⟨t0, t1, t2, t3⟩ := h.byA a t ha
                refine ⟨t0, by show t < ((M.names ++ [s]).length : Int); simp; omega, t2, ?_⟩
                show ((M.names ++ [s]).getD t.toNat ⟨#[]⟩, a) ∈ _
                rw [getD_app _ _ _ (by omega)]
                exact List.mem_append_left _ t3
            hasA := by
              rw [hpods]
              intro p hp
              show (if p.2 = M.base + x then some (M.names.length : Int) else M.byA p.2) ≠ none
              by_cases e : p.2 = M.base + x
              · rw [if_pos e]; simp
              · rw [if_neg e]
                rcases List.mem_append.1 hp with hp | hp
                · exact h.hasA p hp
                · rw [List.mem_singleton] at hp; subst hp; exact absurd rfl e
            inj := by
              intro a b t ha hb2
              have ha : (if a = M.base + x then some (M.names.length : Int) else M.byA a) = some t := ha
              have hb2 : (if b = M.base + x then some (M.names.length : Int) else M.byA b) = some t := hb2
              by_cases e : a = M.base + x
              · by_cases e2 : b = M.base + x
                · rw [e, e2]
                · rw [if_pos e] at ha; rw [if_neg e2] at hb2
                  have := (h.byA b t hb2).2.1
                  injection ha with ha; omega
              · by_cases e2 : b = M.base + x
                · rw [if_neg e] at ha; rw [if_pos e2] at hb2
                  have := (h.byA a t ha).2.1
                  injection hb2 with hb2; omega
                · rw [if_neg e] at ha; rw [if_neg e2] at hb2
                  exact h.inj a b t ha hb2
            spn := h.spn
            sp := fun y hy => by have hy : y ∈ M.spare := hy; rw [hsp] at hy; cases hy
            sum := by show M.cnt + 1 + M.spare.length = (M.names ++ [s]).length; simp; omega
            nl := by show (M.names ++ [s]).length ≤ 1024; rw [hsp] at hsum; simp at hsum ⊢; omega }
  · rw [if_neg hsp]
    obtain ⟨q, t0, hq⟩ : ∃ q t0, M.spare = q ++ [t0] := ⟨M.spare.dropLast, M.spare.getLast hsp, (List.dropLast_concat_getLast hsp).symm⟩
    have hget : M.spare.getD (M.spare.length - 1) 0 = t0 := by rw [hq]; simp
    have htake : M.spare.take (M.spare.length - 1) = q := by rw [hq]; simp
    have hspn := h.spn
    rw [hq, List.nodup_append] at hspn
    obtain ⟨hqn, _, hqt⟩ := hspn
    have ht0q : t0 ∉ q := fun hm => hqt t0 hm t0 (List.mem_singleton.2 rfl) rfl
    obtain ⟨ht0, ht1⟩ := h.sp t0 (by rw [hq]; simp)
    have hk : keptO { M with given := M.base + x } s (M.base + x) = { M with given := M.base + x, names := M.names.set t0.toNat s, spare := q, byN := putN M.byN s (M.base + x), byA := putA M.byA (M.base + x) t0, cnt := M.cnt + 1 } := by
      unfold keptO; simp only [hget, htake]
    rw [hk]
    have hlen : (M.names.set t0.toNat s).length = M.names.length := List.length_set ..
    exact { base := hb, b0 := h.b0, sz := h.sz, top := h.top, l0 := h.l0, l1 := h.l1, sl := h.sl, al := h.al, first := h.first, last := h.last, given := rfl, g0 := by show 1 ≤ x; omega, g1 := hx1,
            cnt := by rw [hpods, List.length_append]; show M.cnt + 1 = _; rw [hcnt]; rfl
            lim := by rw [hpods, List.length_append]; simp; omega
            nn := by rw [hpods]; exact pods_nn h.nn hnos
            na := by rw [hpods]; exact pods_na h.na hnew
            rng := by rw [hpods]; exact hrng
            byN := by rw [hpods]; exact h.byN_put hs _
            byA := by
              rw [hpods]
              intro a t ha
              have ha : (if a = M.base + x then some t0 else M.byA a) = some t := ha
              show 0 ≤ t ∧ t < ((M.names.set t0.toNat s).length : Int) ∧ t ∉ q ∧ ((M.names.set t0.toNat s).getD t.toNat ⟨#[]⟩, a) ∈ _
              rw [hlen]
              by_cases e : a = M.base + x
              · rw [if_pos e] at ha
                injection ha with ha
                subst ha
                refine ⟨ht0, ht1, ht0q, ?_⟩
                rw [getD_set _ _ _ _ (by omega), if_pos rfl, e]
                exact List.mem_append_right _ (List.mem_singleton.2 rfl)
              · rw [if_neg e] at ha
                obtain ⟨c0, c1, c2, c3⟩ := h.byA a t ha
                rw [hq] at c2
                have hne : t ≠ t0 := fun e => c2 (by rw [e]; simp)
                refine ⟨c0, c1, fun hm => c2 (List.mem_append_left _ hm), ?_⟩
                rw [getD_set _ _ _ _ (by omega), if_neg (by omega)]
                exact List.mem_append_left _ c3
            hasA := by
              rw [hpods]
              intro p hp
              show (if p.2 = M.base + x then some t0 else M.byA p.2) ≠ none
              by_cases e : p.2 = M.base + x
              · rw [if_pos e]; simp
              · rw [if_neg e]
                rcases List.mem_append.1 hp with hp | hp
                · exact h.hasA p hp
                · rw [List.mem_singleton] at hp; subst hp; exact absurd rfl e
            inj := by
              intro a b t ha hb2
              have ha : (if a = M.base + x then some t0 else M.byA a) = some t := ha
              have hb2 : (if b = M.base + x then some t0 else M.byA b) = some t := hb2
              have hno : ∀ c, M.byA c = some t0 → False := fun c hc => (h.byA c t0 hc).2.2.1 (by rw [hq]; simp)
              by_cases e : a = M.base + x
              · by_cases e2 : b = M.base + x
                · rw [e, e2]
                · rw [if_pos e] at ha; rw [if_neg e2] at hb2
                  injection ha with ha; rw [← ha] at hb2; exact (hno _ hb2).elim
              · by_cases e2 : b = M.base + x
                · rw [if_neg e] at ha; rw [if_pos e2] at hb2
                  injection hb2 with hb2; rw [← hb2] at ha; exact (hno _ ha).elim
                · rw [if_neg e] at ha; rw [if_neg e2] at hb2
                  exact h.inj a b t ha hb2
            spn := hqn
            sp := fun y hy => by
              have := h.sp y (by rw [hq]; exact List.mem_append_left _ hy)
              show 0 ≤ y ∧ y < ((M.names.set t0.toNat s).length : Int)
              rw [hlen]; exact this
            sum := by show M.cnt + 1 + q.length = (M.names.set t0.toNat s).length; rw [hlen, ← hsum, hq]; simp; omega
            nl := by show (M.names.set t0.toNat s).length ≤ 1024; rw [hlen]; exact h.nl }
theorem cut_perm {l : List Pod} {i : Nat} (hi : i < l.length) : (podAt l i :: cutF l i).Perm l := by
  have e : podAt l i = l[i] := by simp [podAt, List.getD_eq_getElem?_getD, List.getElem?_eq_getElem hi]
  have h1 : l = l.take i ++ l[i] :: l.drop (i + 1) := by rw [List.getElem_cons_drop hi, List.take_append_drop]
  rw [e, cutF]
  exact (List.perm_middle.symm).trans (List.Perm.of_eq h1.symm)
theorem Rel.cut (h : Rel M R) {s : ByteArray} {a t : Int} (hs : M.byN s = some a) (ha : M.byA a = some t) : Rel (delS M s a t) { R with pods := cutF R.pods (atF R.pods s).toNat } := by
  obtain ⟨i0, i1, hp⟩ := h.atF_some hs
  have hi : (atF R.pods s).toNat < R.pods.length := by omega
  generalize (atF R.pods s).toNat = i at hp hi
  have hperm := cut_perm hi
  rw [hp] at hperm
  have hnn := (hperm.map (·.1)).nodup_iff.2 h.nn
  have hna := (hperm.map (·.2)).nodup_iff.2 h.na
  rw [List.map_cons, List.nodup_cons] at hnn hna
  have hmem : ∀ p, p ∈ R.pods ↔ p = (s, a) ∨ p ∈ cutF R.pods i := fun p => by rw [← hperm.mem_iff, List.mem_cons]
  have hlen := hperm.length_eq
  rw [List.length_cons] at hlen
  obtain ⟨t0, t1, t2, t3⟩ := h.byA a t ha
  have hset : (M.names.set t.toNat ⟨#[]⟩).length = M.names.length := List.length_set ..
  have hsum := h.sum
  have hcnt := h.cnt
  have hn1 : ∀ b, (s, b) ∉ cutF R.pods i := fun b hb => hnn.1 (List.mem_map_of_mem (f := (·.1)) hb)
  have hn2 : ∀ p, p ∈ cutF R.pods i → p.2 ≠ a := fun p hp2 e => hna.1 (by have := List.mem_map_of_mem (f := (·.2)) hp2; rw [e] at this; exact this)
  exact { base := h.base, b0 := h.b0, sz := h.sz, top := h.top, l0 := h.l0, l1 := h.l1, sl := h.sl, al := h.al, first := h.first, last := h.last, given := h.given, g0 := h.g0, g1 := h.g1,
          cnt := by show M.cnt - 1 = (cutF R.pods i).length; omega
          lim := by show (cutF R.pods i).length ≤ 1024; have := h.lim; omega
          nn := hnn.2
          na := hna.2
          rng := fun p hp2 => h.rng p ((hmem p).2 (.inr hp2))
          byN := by
            intro x b
            show (if x = s then none else M.byN x) = some b ↔ (x, b) ∈ cutF R.pods i
            by_cases e : x = s
            · rw [if_pos e, e]
              exact ⟨fun h => (by cases h), fun h => absurd h (hn1 b)⟩
            · rw [if_neg e, h.byN x b, hmem]
              constructor
              · rintro (h1 | h1)
                · injection h1 with h1 _; exact absurd h1 e
                · exact h1
              · exact .inr
          byA := by
            intro b u hb
            have hb : (if b = a then none else M.byA b) = some u := hb
            show 0 ≤ u ∧ u < ((M.names.set t.toNat ⟨#[]⟩).length : Int) ∧ u ∉ M.spare ++ [t] ∧ ((M.names.set t.toNat ⟨#[]⟩).getD u.toNat ⟨#[]⟩, b) ∈ cutF R.pods i
            rw [hset]
            by_cases e : b = a
            · rw [if_pos e] at hb; cases hb
            · rw [if_neg e] at hb
              obtain ⟨c0, c1, c2, c3⟩ := h.byA b u hb
              have hne : u ≠ t := fun eu => e (h.inj b a u hb (by rw [eu]; exact ha))
              refine ⟨c0, c1, fun hm => ?_, ?_⟩
              · rcases List.mem_append.1 hm with hm | hm
                · exact c2 hm
                · exact hne (List.mem_singleton.1 hm)
              · rw [getD_set _ _ _ _ (by omega), if_neg (by omega)]
                rcases (hmem _).1 c3 with h1 | h1
                · injection h1 with _ h1; exact absurd h1 e
                · exact h1
          hasA := by
            intro p hp2
            show (if p.2 = a then none else M.byA p.2) ≠ none
            rw [if_neg (hn2 p hp2)]
            exact h.hasA p ((hmem p).2 (.inr hp2))
          inj := by
            intro b c u hb hc
            have hb : (if b = a then none else M.byA b) = some u := hb
            have hc : (if c = a then none else M.byA c) = some u := hc
            by_cases e : b = a
            · rw [if_pos e] at hb; cases hb
            · by_cases e2 : c = a
              · rw [if_pos e2] at hc; cases hc
              · rw [if_neg e] at hb; rw [if_neg e2] at hc
                exact h.inj b c u hb hc
          spn := by
            show (M.spare ++ [t]).Nodup
            rw [List.nodup_append]
            exact ⟨h.spn, by simp, fun y hy z hz e => by rw [List.mem_singleton] at hz; subst hz; subst e; exact t2 hy⟩
          sp := by
            intro y hy
            have hy : y ∈ M.spare ++ [t] := hy
            show 0 ≤ y ∧ y < ((M.names.set t.toNat ⟨#[]⟩).length : Int)
            rw [hset]
            rcases List.mem_append.1 hy with hy | hy
            · exact h.sp y hy
            · rw [List.mem_singleton] at hy; subst hy; exact ⟨t0, t1⟩
          sum := by show M.cnt - 1 + (M.spare ++ [t]).length = (M.names.set t.toNat ⟨#[]⟩).length; rw [hset, ← hsum]; simp; omega
          nl := by show (M.names.set t.toNat ⟨#[]⟩).length ≤ 1024; rw [hset]; exact h.nl }
end
end Go.Proofs.Ytgabkifojnkbkaa.Ip
