/- The reference's lists beside the pool's numbers. Conditions: none. -/
import Derived.Test.YtebnlhjakiipjaaPrA
set_option linter.unusedVariables false
set_option linter.unusedSimpArgs false
namespace Go.Proofs.Ytebnlhjakiipjaa.Pl
open Go.RowKit Go.Maps Go.Proofs.YtebnlhjakiipjaaW.PrintWords Go.Proofs.YtebnlhjakiipjaaW.PrintMore Go.Proofs.Ytebnlhjakiipjaa.PPlf
theorem rd_int {l : List Int} {i : Nat} (h : i < l.length) : rd l (i : Int) = l[i] := by
  unfold rd
  first
  | rw [List.getD_eq_getElem?_getD, Int.toNat_natCast, List.getElem?_eq_getElem h]; rfl
  | simp [h]
theorem in_l {l : List Int} (a : Int) (hl : l.length ≤ 281474976710656) : ∀ (n i k : Nat), i + n = l.length → n < k → weftref10_in.l0 k l a (i : Int) = some (decide (a ∈ l.drop i))
  | 0, i, k, hn, hk => by
    obtain ⟨k, rfl⟩ : ∃ m, k = m + 1 := ⟨k - 1, by omega⟩
    simp only [weftref10_in.l0]
    rw [if_neg (by omega), List.drop_eq_nil_of_le (by omega)]
    simp
  | n + 1, i, k, hn, hk => by
    obtain ⟨k, rfl⟩ : ∃ m, k = m + 1 := ⟨k - 1, by omega⟩
    have ih := in_l a hl n (i + 1) k (by omega) (by omega)
    simp only [weftref10_in.l0]
    have hd : l.drop i = rd l (i : Int) :: l.drop (i + 1) := by rw [rd_int (show i < l.length by omega)]; exact List.drop_eq_getElem_cons (by omega)
    rw [if_pos (by omega), if_pos (by omega), hd, w64 (by omega) (by omega), show (i : Int) + 1 = ((i + 1 : Nat) : Int) from by omega, ih]
    by_cases c : rd l i = a
    · rw [if_pos c, c]
      simp
    · rw [if_neg c]
      congr 1
      rw [decide_eq_decide, List.mem_cons]
      exact ⟨.inr, fun h => h.elim (fun e => absurd e.symm c) id⟩
theorem in_all {l : List Int} (a : Int) (hl : l.length ≤ 281474976710656) {k : Nat} (hk : l.length < k) : weftref10_in.f k l a = some (decide (a ∈ l)) := in_l a hl l.length 0 k (by omega) hk
/-- what the reference holds: the addresses of the pool's numbers -/
structure RO (M : Pm) (K L T : List Int) : Prop where
  kl : K.length ≤ 1024
  kn : K.Nodup
  km : ∀ k, k ∈ K ↔ ∃ x, x ∈ M.kept ∧ k = x * sizeF M.s
  tn : T.Nodup
  tm : ∀ k, k ∈ T ↔ ∃ x, x ∈ L ∧ k = x * sizeF M.s
section
variable {M : Pm} {K L L' T : List Int}
theorem size_inj (hM : MOk M) {x y : Int} (h : x * sizeF M.s = y * sizeF M.s) : x = y := by
  rw [← mul_div (x := x) hM.ok.s0 hM.ok.s1, h, mul_div hM.ok.s0 hM.ok.s1]
theorem RO.t_mem (hM : MOk M) (h : RO M K L T) (x : Int) : x * sizeF M.s ∈ T ↔ x ∈ L := by
  rw [h.tm]
  exact ⟨fun ⟨y, hy, e⟩ => by rw [size_inj hM e]; exact hy, fun hx => ⟨x, hx, rfl⟩⟩
theorem RO.k_mem (hM : MOk M) (h : RO M K L T) (x : Int) : x * sizeF M.s ∈ K ↔ x ∈ M.kept := by
  rw [h.km]
  exact ⟨fun ⟨y, hy, e⟩ => by rw [size_inj hM e]; exact hy, fun hx => ⟨x, hx, rfl⟩⟩
theorem RO.snoc (hM : MOk M) (h : RO M K L T) {n : Int} (hn : n ∉ L) (hm : ∀ x, x ∈ L' ↔ x ∈ L ∨ x = n) : RO M K L' (T ++ [n * sizeF M.s]) := by
  refine ⟨h.kl, h.kn, h.km, ?_, fun k => ?_⟩
  · rw [List.nodup_append]
    exact ⟨h.tn, by simp, fun x hx y hy e => by rw [List.mem_singleton] at hy; subst hy; subst e; exact hn ((h.t_mem hM n).1 hx)⟩
  · rw [List.mem_append, List.mem_singleton, h.tm]
    constructor
    · rintro (⟨x, hx, e⟩ | e)
      · exact ⟨x, (hm x).2 (.inl hx), e⟩
      · exact ⟨n, (hm n).2 (.inr rfl), e⟩
    · rintro ⟨x, hx, e⟩
      rcases (hm x).1 hx with h1 | h1
      · exact .inl ⟨x, h1, e⟩
      · subst h1; exact .inr e
theorem RO.less (hM : MOk M) (h : RO M K L T) {n : Int} (hm : ∀ x, x ∈ L' ↔ x ∈ L ∧ x ≠ n) : RO M K L' (T.filter (fun k => decide (k ≠ n * sizeF M.s))) := by
  refine ⟨h.kl, h.kn, h.km, h.tn.sublist List.filter_sublist, fun k => ?_⟩
  rw [List.mem_filter, h.tm]
  simp only [decide_eq_true_eq]
  constructor
  · rintro ⟨⟨x, hx, rfl⟩, hne⟩
    exact ⟨x, (hm x).2 ⟨hx, fun e => hne (by rw [e])⟩, rfl⟩
  · rintro ⟨x, hx, rfl⟩
    obtain ⟨h1, h2⟩ := (hm x).1 hx
    exact ⟨⟨x, h1, rfl⟩, fun e => h2 (size_inj hM e)⟩
theorem RO.same (h : RO M K L T) (hm : ∀ x, x ∈ L' ↔ x ∈ L) : RO M K L' T := ⟨h.kl, h.kn, h.km, h.tn, fun k => by
  rw [h.tm]
  exact ⟨fun ⟨x, hx, e⟩ => ⟨x, (hm x).2 hx, e⟩, fun ⟨x, hx, e⟩ => ⟨x, (hm x).1 hx, e⟩⟩⟩
/-- as many as there are taken -/
theorem RO.len (hM : MOk M) (h : RO M K L T) (hr : L.Pairwise (· < ·)) : T.length = L.length := by
  have h1 : (L.map (· * sizeF M.s)).Nodup := by
    refine List.Pairwise.map (R := fun a b => a < b) _ (fun a b hab e => ?_) hr
    have := size_inj hM e
    omega
  have h2 : T.Perm (L.map (· * sizeF M.s)) := (List.perm_ext_iff_of_nodup h.tn h1).2 (fun k => by
    rw [h.tm, List.mem_map]
    exact ⟨fun ⟨x, hx, e⟩ => ⟨x, hx, e.symm⟩, fun ⟨x, hx, e⟩ => ⟨x, hx, e.symm⟩⟩)
  rw [h2.length_eq, List.length_map]
theorem RO.tlen (hM : MOk M) (h : RO M K L T) (hL : Lok M L) (hr : L.Pairwise (· < ·)) : T.length ≤ 4294967296 := by
  rw [h.len hM hr]; exact sizeF_le_S hM hL hr
end
theorem inC {w : World} {base : Nat} {v : Value} {xs : List Int} (h : IRow w base v xs) (hl : xs.length ≤ 4294967296) (a : Int) : Calls Try.prog 36 #[v, .int .i64 a] w fun e w' => e = .returned (.bool (decide (a ∈ xs))) ∧ Below w.heap.size w w' := by
  obtain ⟨A, c, e, hc, hC⟩ := h.C
  subst e
  exact (weftref10_in.calls (xs.length + 1) A c xs a _ w hC hc (in_all a (by omega) (by omega))).mono (fun e w' h => ⟨h.1, h.2.below⟩)
theorem sizeC (w : World) {s : Int} (h0 : 0 ≤ s) (h1 : s ≤ 32) : Calls Try.prog 58 #[.int .i64 s] w fun e w' => e = .returned (.int .i64 (sizeF s)) ∧ Below w.heap.size w w' :=
  (weftref10_size.calls 33 s _ w (r10size_all h0 h1 (Nat.le_refl _))).mono (fun e w' h => ⟨h.1, h.2.below⟩)
/-- the taken ones are put anew -/
theorem RS.put {w w7 : World} {b : Nat} {vk vt v' : Value} {M : Pm} {K T T' : List Int} (h : RS w b vk vt M K T) (o7 : IRow w7 0 v' T') (g7 : w.grownBy w7 vt.ownBlock) (l7 : NB vt v' w) :
    RS (w7.setCell ⟨b, 6, none⟩ v') b vk v' M K T' ∧ Turn w (w7.setCell ⟨b, 6, none⟩ v') (b :: vt.ownBlock.toList) := by
  have hbl := blk_lt h.blk
  have hb7 := (g7.block b hbl (fun e => h.nb.2 e.symm)).trans h.blk
  have hset : ∀ k, k ≠ b → (w7.setCell ⟨b, 6, none⟩ v').heap[k]? = w7.heap[k]? := fun k hk => Below.heap_setCell w7 ⟨b, 6, none⟩ _ k hk
  have hv : ∀ k, v'.ownBlock = some k → k ≠ b := fun k hk e => by
    subst e
    rcases l7 _ hk with h1 | h1
    · exact h.nb.2 h1
    · omega
  refine ⟨⟨blk_put hb7 6 v' rfl, ?_, o7.step (fun k hk => hset k (hv k hk)), fun k hk => ?_⟩, ?_⟩
  · exact h.rk.step (fun k hk => (hset k (fun e => h.nb.1 (e ▸ hk))).trans (g7.block k (h.rk.lt k hk).2 (fun e => h.ap k hk e.symm)))
  · intro e
    rcases l7 _ e with h1 | h1
    · exact h.ap k hk h1
    · have := (h.rk.lt k hk).2; omega
  · refine ⟨g7.os, g7.tape, g7.output, ?_, fun k hk hF => ?_⟩
    · have := g7.size
      have e : (w7.setCell ⟨b, 6, none⟩ v').heap.size = w7.heap.size := by simp
      omega
    · simp only [List.mem_cons, Option.mem_toList, Option.mem_def, not_or] at hF
      exact (hset k hF.1).trans (g7.block k hk (fun e => hF.2 e.symm))
theorem RS.far {w : World} {b : Nat} {vk vt : Value} {M : Pm} {K T : List Int} (h : RS w b vk vt M K T) {p j : Nat} {u : Value} (hp : p ∉ RF b vk vt) : RS (w.setCell ⟨p, j, none⟩ u) b vk vt M K T :=
  h.step (fun k hk => Below.heap_setCell w ⟨p, j, none⟩ u k (fun e => hp (by have e' : k = p := e; rw [← e']; exact hk)))
theorem RS.fresh {w w4 : World} {b : Nat} {vk vt v' : Value} {M : Pm} {K T : List Int} (h : RS w b vk vt M K T) (nb : NB vt v' w4) {p : Nat} (h1 : w.heap.size ≤ p) (h2 : p < w4.heap.size) : p ∉ RF b vk v' := fun hk => by
  simp only [RF, List.mem_cons, List.mem_append, Option.mem_toList, Option.mem_def] at hk
  rcases hk with hk | hk | hk
  · have := h.lt b (by simp [RF]); omega
  · have := (h.rk.lt p hk).2; omega
  · rcases nb p hk with h3 | h3
    · have := (h.rt.lt p h3).2; omega
    · omega
theorem NB.less {vt v' : Value} {w w4 : World} (h : NB vt v' w4) (hs : w.heap.size ≤ w4.heap.size) : NB vt v' w := fun k hk => (h k hk).imp id (fun h => Nat.le_trans hs h)
theorem NB.self (v : Value) (w : World) : NB v v w := fun k hk => .inl hk
/-- the taken ones behind a Take -/
def takeT (s : Int) (o : Option Int) (T : List Int) : List Int := match o with
  | none => T
  | some n => T ++ [n * sizeF s]
theorem u32_id {y : Int} (h0 : 0 ≤ y) (h1 : y < 4294967296) : IntKind.u32.wrap y = y := by
  simp [IntKind.wrap, IntKind.bits, IntKind.signed]
  omega
end Go.Proofs.Ytebnlhjakiipjaa.Pl
