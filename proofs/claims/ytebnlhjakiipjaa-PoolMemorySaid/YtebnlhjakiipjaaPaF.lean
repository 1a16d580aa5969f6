/- A pool in memory by the rising list of the numbers taken; what each call does to it. Conditions: what a pool is made of may be. begun and made walked. Conditions: the numbers are of their kinds. The statements' own helpers in plain words: has, same, without, below, sound. Conditions: lists within the reach, addresses of their kind. Two pools beside one another; PoolSets walked. Conditions: what comes in is of its kind. -/
import Derived.Test.YtebnlhjakiipjaaPaB
import Derived.Test.YtebnlhjakiipjaaPaC
import Derived.Test.YtebnlhjakiipjaaPaD
import Derived.Test.YtebnlhjakiipjaaPaE
set_option linter.unusedVariables false
set_option linter.unusedSimpArgs false
namespace Go.Proofs.Ytebnlhjakiipjaa.Pl
open Go.RowKit Go.Maps Go.Proofs.YtebnlhjakiipjaaW.PrintWords Go.Proofs.Ytebnlhjakiipjaa.PPlf
/-- a pool in memory: the numbers taken, the blocks it lies in -/
def Po (w : World) (b : Nat) (M : Pm) (L : List Int) (F : List Nat) : Prop := ∃ vk bm vr R, PlS w b vk bm vr M R ∧ nums R = L ∧ F = PlF b vk bm vr
/-- what it is made of -/
structure MOk (M : Pm) : Prop where
  ok : M.Ok
  row : M.Row
  mm : M.mn ≤ M.mx
  rise : M.Rise
  kept : M.Kept
def Lok (M : Pm) (L : List Int) : Prop := ∀ x, x ∈ L → 0 ≤ x ∧ x * sizeF M.s < 4294967296
section
variable {w w' : World} {b : Nat} {M : Pm} {L : List Int} {F G : List Nat}
theorem Po.turn (h : Po w b M L F) (ht : Turn w w' G) (hd : ∀ k, k ∈ F → k ∉ G) : Po w' b M L F := by
  obtain ⟨vk, bm, vr, R, h1, h2, rfl⟩ := h
  exact ⟨vk, bm, vr, R, h1.step (fun k hk => ht.block k (h1.lt k hk) (hd k hk)), h2, rfl⟩
theorem Po.below (h : Po w b M L F) (hb : Below w.heap.size w w') : Po w' b M L F := h.turn (Turn.of_below hb []) (fun _ _ hk => by cases hk)
theorem Po.lt (h : Po w b M L F) : ∀ k, k ∈ F → k < w.heap.size := by
  obtain ⟨vk, bm, vr, R, h1, h2, rfl⟩ := h
  exact h1.lt
theorem Po.rise (h : Po w b M L F) : L.Pairwise (· < ·) := by
  obtain ⟨vk, bm, vr, R, h1, rfl, rfl⟩ := h
  exact nums_pair h1.wf
theorem Po.rng {R : List Run} (h : Lok M (nums R)) : Rng M R := fun x hx => h x (nums_mem.2 hx)
end
/-- what a call leaves of a pool -/
def Left (w : World) (b : Nat) (M : Pm) (F : List Nat) (P : List Int → Prop) (w' : World) : Prop := ∃ L' F', Po w' b M L' F' ∧ Lok M L' ∧ P L' ∧ Turn w w' F ∧ ∀ k, k ∈ F' → k ∈ F ∨ w.heap.size ≤ k
section
variable {w w' : World} {b : Nat} {M : Pm} {L : List Int} {F G : List Nat} {P : List Int → Prop}
theorem Left.same (h : Po w b M L F) (hL : Lok M L) (hb : Below w.heap.size w w') (hP : P L) : Left w b M F P w' := ⟨L, F, h.below hb, hL, hP, Turn.of_below hb F, fun k hk => .inl hk⟩
theorem Left.of {bm : Nat} {vk vr vr' : Value} {R' : List Run} (hT : Turn w w' (b :: vr.ownBlock.toList)) (hN : NB vr vr' w) (h : PlS w' b vk bm vr' M R') (hL : Lok M (nums R')) (hP : P (nums R')) : Left w b M (PlF b vk bm vr) P w' :=
  ⟨_, _, ⟨vk, bm, vr', R', h, rfl, rfl⟩, hL, hP, hT.mono (fun k hk => by
    rcases List.mem_cons.1 hk with rfl | hk
    · simp [PlF]
    · exact List.mem_cons_of_mem _ (List.mem_cons_of_mem _ (List.mem_append.2 (.inr hk)))), fun k hk => by
    simp only [PlF, List.mem_cons, List.mem_append, Option.mem_toList, Option.mem_def] at hk ⊢
    rcases hk with rfl | rfl | hk | hk
    · exact .inl (.inl rfl)
    · exact .inl (.inr (.inl rfl))
    · exact .inl (.inr (.inr (.inl hk)))
    · rcases hN k hk with h | h
      · exact .inl (.inr (.inr (.inr h)))
      · exact .inr h⟩
end
/-- Claim's answer -/
def claimE (M : Pm) (L : List Int) (a l : Int) : Int :=
  if ¬ sub M a l then 100 else if ¬ ins M.na M.nl a ∨ away M (a / sizeF M.s) then 101 else if a / sizeF M.s ∈ L then 102 else 0
def freeE (M : Pm) (L : List Int) (a l : Int) : Int := if sub M a l ∧ a / sizeF M.s ∈ L then 0 else 3
/-- the lowest that is free -/
def takeF (M : Pm) (L : List Int) : Option Int := (upto M.mn M.mx).find? (fun n => !(decide (n ∈ M.kept) || decide (n ∈ L)))
def takeV (M : Pm) : Option Int → Value
  | some n => .tuple #[.agg #[.int .u32 (n * sizeF M.s), .int .i64 M.s], .int .i64 0]
  | none => .tuple #[.agg #[.int .u32 0, .int .i64 0], .int .i64 4]
def roomL (M : Pm) (L : List Int) : Int := M.mx - M.mn + 1 - cntR M.mn M.mx L - cntR M.mn M.mx (M.kept.filter (fun x => !decide (x ∈ L)))
section
variable {w : World} {b : Nat} {M : Pm} {L : List Int} {F : List Nat}
theorem claim_num {a l : Int} (hM : MOk M) (ha0 : 0 ≤ a) (ha1 : a < 4294967296) (hs : sub M a l) : 0 ≤ a / sizeF M.s ∧ a / sizeF M.s * sizeF M.s < 4294967296 := by
  have hv : vld a M.s := by have := hs.2; rw [hs.1] at this; exact this
  have e := div_mul hv.2.2
  exact ⟨(div_rng hM.ok.s0 hM.ok.s1 ha0 ha1).1, by omega⟩
theorem claimP (hM : MOk M) (hL : Lok M L) (h : Po w b M L F) (a l : Int) (ha0 : 0 ≤ a) (ha1 : a < 4294967296) :
    Calls Try.prog 15 #[.pointer (some ⟨b, 0, none⟩), .agg #[.int .u32 a, .int .i64 l]] w fun e w' => e = .returned (.int .i64 (claimE M L a l)) ∧ Left w b M F (fun L' => ∀ x, x ∈ L' ↔ x ∈ L ∨ (claimE M L a l = 0 ∧ x = a / sizeF M.s)) w' := by
  have hP := h
  obtain ⟨vk, bm, vr, R, h1, rfl, rfl⟩ := h
  have hR : Rng M R := Po.rng hL
  unfold claimE
  by_cases c1 : sub M a l
  · rw [if_neg (fun h => h c1)]
    by_cases c2 : ¬ ins M.na M.nl a ∨ away M (a / sizeF M.s)
    · rw [if_pos c2]
      refine (claim_out w b vk bm vr M R a l hM.ok hM.kept h1 ha0 ha1 c1 c2).mono ?_
      rintro e w' ⟨rfl, hb⟩
      exact ⟨rfl, Left.same hP hL hb (fun x => ⟨.inl, fun h => h.elim id (fun h => by have := h.1; omega)⟩)⟩
    · rw [if_neg c2]
      refine (claim_in w b vk bm vr M R a l hM.ok hM.kept hR h1 ha0 ha1 c1 (Classical.byContradiction fun h => c2 (.inl h)) (fun h => c2 (.inr h))).mono ?_
      rintro e w' (⟨hin, rfl, hb⟩ | ⟨hin, rfl, vr', R', k1, k2, k3, k4⟩)
      · rw [if_pos (nums_mem.2 hin)]
        exact ⟨rfl, Left.same hP hL hb (fun x => ⟨.inl, fun h => h.elim id (fun h => by have := h.1; omega)⟩)⟩
      · rw [if_neg (fun h => hin (nums_mem.1 h))]
        have hn := claim_num hM ha0 ha1 c1
        refine ⟨rfl, Left.of k3 k4 k1 (fun x hx => ?_) (fun x => ?_)⟩
        · rcases (k2 x).1 (nums_mem.1 hx) with h | rfl
          · exact hL x (nums_mem.2 h)
          · exact hn
        · rw [nums_mem, nums_mem, k2 x]
          exact or_congr_right ⟨fun h => ⟨rfl, h⟩, fun h => h.2⟩
  · rw [if_pos c1]
    refine (claim_align w b vk bm vr M R a l h1 ha0 ha1 c1).mono ?_
    rintro e w' ⟨rfl, hb⟩
    exact ⟨rfl, Left.same hP hL hb (fun x => ⟨.inl, fun h => h.elim id (fun h => by have := h.1; omega)⟩)⟩
theorem freeP (hM : MOk M) (hL : Lok M L) (h : Po w b M L F) (a l : Int) (ha0 : 0 ≤ a) (ha1 : a < 4294967296) :
    Calls Try.prog 18 #[.pointer (some ⟨b, 0, none⟩), .agg #[.int .u32 a, .int .i64 l]] w fun e w' => e = .returned (.int .i64 (freeE M L a l)) ∧ Left w b M F (fun L' => ∀ x, x ∈ L' ↔ x ∈ L ∧ ¬ (freeE M L a l = 0 ∧ x = a / sizeF M.s)) w' := by
  have hP := h
  obtain ⟨vk, bm, vr, R, h1, rfl, rfl⟩ := h
  have hR : Rng M R := Po.rng hL
  unfold freeE
  by_cases c1 : sub M a l
  · refine (free_sub w b vk bm vr M R a l hM.ok hR h1 ha0 ha1 c1).mono ?_
    rintro e w' (⟨hin, rfl, hb⟩ | ⟨hin, rfl, vr', R', k1, k2, k3, k4⟩)
    · rw [if_neg (fun h => hin (nums_mem.1 h.2))]
      exact ⟨rfl, Left.same hP hL hb (fun x => ⟨fun h => ⟨h, fun c => by have := c.1; omega⟩, fun h => h.1⟩)⟩
    · rw [if_pos ⟨c1, nums_mem.2 hin⟩]
      refine ⟨rfl, Left.of k3 k4 k1 (fun x hx => hL x (nums_mem.2 ((k2 x).1 (nums_mem.1 hx)).1)) (fun x => ?_)⟩
      rw [nums_mem, nums_mem, k2 x]
      exact and_congr_right fun _ => ⟨fun h c => h c.2, fun h c => h ⟨rfl, c⟩⟩
  · rw [if_neg (fun h => c1 h.1)]
    refine (free_align w b vk bm vr M R a l h1 ha0 ha1 c1).mono ?_
    rintro e w' ⟨rfl, hb⟩
    exact ⟨rfl, Left.same hP hL hb (fun x => ⟨fun h => ⟨h, fun c => by have := c.1; omega⟩, fun h => h.1⟩)⟩
theorem find_upto {p : Int → Bool} {a b n : Int} (h0 : a ≤ n) (h1 : n ≤ b) (hp : p n = true) (hl : ∀ x, a ≤ x → x < n → p x = false) : (upto a b).find? p = some n := by
  have e : upto a b = upto a (n - 1) ++ upto n b := by
    refine rise_ext (upto_pair _ _) ?_ (fun x => ?_)
    · rw [List.pairwise_append]
      exact ⟨upto_pair _ _, upto_pair _ _, fun x hx y hy => by rw [upto_mem] at hx hy; omega⟩
    · rw [List.mem_append, upto_mem, upto_mem, upto_mem]; omega
  have e2 : upto n b = n :: upto (n + 1) b := by
    refine rise_ext (upto_pair _ _) ?_ (fun x => ?_)
    · rw [List.pairwise_cons]
      exact ⟨fun y hy => by rw [upto_mem] at hy; omega, upto_pair _ _⟩
    · rw [List.mem_cons, upto_mem, upto_mem]; omega
  rw [e, e2, List.find?_append, List.find?_cons_of_pos (by simpa using hp)]
  rw [List.find?_eq_none.2 (fun x hx => by rw [upto_mem] at hx; rw [hl x hx.1 (by omega)]; decide)]
  rfl
theorem takeP (hM : MOk M) (hL : Lok M L) (h : Po w b M L F) :
    Calls Try.prog 17 #[.pointer (some ⟨b, 0, none⟩)] w fun e w' => e = .returned (takeV M (takeF M L)) ∧ Left w b M F (fun L' => ∀ x, x ∈ L' ↔ x ∈ L ∨ takeF M L = some x) w' := by
  have hP := h
  obtain ⟨vk, bm, vr, R, h1, rfl, rfl⟩ := h
  have hR : Rng M R := Po.rng hL
  refine (take17 w b vk bm vr M R hM.ok hM.row hM.rise hR h1).mono ?_
  rintro e w' (⟨n, a1, a2, a3, a4, a5, rfl, vr', R', k1, k2, k3, k4⟩ | ⟨a1, rfl, hb⟩)
  · have ht : takeF M (nums R) = some n := find_upto a1 a2 (by simp [a3, nums_mem, a4]) (fun x h0 h1 => by
      rcases a5 x h0 h1 with h | h
      · simp [nums_mem, h]
      · simp [h])
    rw [ht]
    refine ⟨rfl, Left.of k3 k4 k1 (fun x hx => ?_) (fun x => ?_)⟩
    · rcases (k2 x).1 (nums_mem.1 hx) with h | rfl
      · exact hL x (nums_mem.2 h)
      · refine ⟨by have := hM.row.mn0; omega, ?_⟩
        have hs := sizeF_rng hM.ok.s0 hM.ok.s1
        have h3 := Int.mul_le_mul_of_nonneg_right a2 (show 0 ≤ sizeF M.s by omega)
        have := hM.row.mx1
        omega
    · rw [nums_mem, nums_mem, k2 x]
      exact or_congr_right ⟨fun h => by rw [h], fun h => by injection h with h; exact h.symm⟩
  · have ht : takeF M (nums R) = none := List.find?_eq_none.2 (fun x hx => by
      rw [upto_mem] at hx
      rcases a1 x hx.1 hx.2 with h | h
      · simp [nums_mem, h]
      · simp [h])
    rw [ht]
    exact ⟨rfl, Left.same hP hL hb (fun x => ⟨.inl, fun h => h.elim id (fun h => by cases h)⟩)⟩
theorem takenP (hM : MOk M) (hL : Lok M L) (h : Po w b M L F) :
    Calls Try.prog 23 #[.pointer (some ⟨b, 0, none⟩)] w fun e w' => ∃ v, e = .returned v ∧ Row w' w.heap.size v (pxs M.s L) ∧ Below w.heap.size w w' := by
  obtain ⟨vk, bm, vr, R, h1, rfl, rfl⟩ := h
  exact taken23 w b vk bm vr M R hM.ok (Po.rng hL) h1
theorem roomP (hM : MOk M) (hL : Lok M L) (h : Po w b M L F) :
    Calls Try.prog 16 #[.pointer (some ⟨b, 0, none⟩)] w fun e w' => e = .returned (.int .i64 (roomL M L)) ∧ Below w.heap.size w w' := by
  obtain ⟨vk, bm, vr, R, h1, rfl, rfl⟩ := h
  have e : roomL M (nums R) = roomF M R := by
    unfold roomL roomF offR
    have : (fun x => !decide (x ∈ nums R)) = (fun x => !decide (InR R x)) := by funext x; simp [nums_mem]
    rw [this]
  rw [e]
  exact room16 w b vk bm vr M R hM.ok hM.row hM.mm hM.rise (Po.rng hL) h1
end
/-- what New makes of what it is given -/
def newM (na nl s lo hi : Int) (kept : List S27) : Pm := M0 na nl s lo hi (SortI.srt (kept.map (fun k => k.f0 / sizeF s)))
theorem newM_ok {na nl s lo hi : Int} {kept : List S27} (hb0 : 0 ≤ na) (hb1 : na < 4294967296) (hl0 : 0 ≤ lo) (hh1 : hi < 4294967296) (h : newE na nl s lo hi kept = 0) : MOk (newM na nl s lo hi kept) := by
  obtain ⟨h1, h2, h3⟩ := newE_ok.1 h
  have s0 : 0 ≤ s := by have := h2.nls; have := h2.nl0; omega
  have hs := sizeF_rng s0 h2.s32
  refine ⟨⟨s0, h2.s32, hb0, hb1⟩, ⟨(div_rng s0 h2.s32 hl0 (by have := h2.lohi; omega)).1, ?_⟩, ?_, ⟨?_, ?_⟩, fun x => rfl⟩
  · show hi / sizeF s * sizeF s < 4294967296
    rw [div_mul h2.dhi]; exact hh1
  · exact Int.ediv_le_ediv (by omega) h2.lohi
  · refine SortI.srt_rise ?_
    have hnd := h3.nd
    rw [show (fun k : S27 => k.f0 / sizeF s) = (fun x => x / sizeF s) ∘ (fun k : S27 => k.f0) from rfl, ← List.map_map]
    refine List.Pairwise.map (R := fun a b => a ≠ b ∧ a % sizeF s = 0 ∧ b % sizeF s = 0) _ (fun a b hab e => ?_) ?_
    · have e1 := div_mul hab.2.1
      have e2 := div_mul hab.2.2
      have e' : a / sizeF s = b / sizeF s := e
      rw [e', e2] at e1
      exact hab.1 e1.symm
    · refine List.Pairwise.imp_of_mem (fun {a b} ha hb hab => ⟨hab, ?_, ?_⟩) hnd
      · obtain ⟨k, hk, rfl⟩ := List.mem_map.1 ha
        exact (h3.all k hk).2.1.2.2
      · obtain ⟨k, hk, rfl⟩ := List.mem_map.1 hb
        exact (h3.all k hk).2.1.2.2
  · show (SortI.srt _).length ≤ 1024
    rw [SortI.srt_len, List.length_map]; exact h1
/-- New: its error and no pool, or a pool of which nothing is taken -/
theorem newP (w : World) (na nl s lo hi : Int) (A : Option Addr) (kept : List S27) (c : Nat) (hm : kept.length ≤ maxLen) (hb0 : 0 ≤ na) (hb1 : na < 4294967296) (hl0 : 0 ≤ lo) (hl1 : lo < 4294967296) (hh0 : 0 ≤ hi) (hh1 : hi < 4294967296)
    (hC : Kd.C k27 w A kept.length kept) (hW : ∀ k, k ∈ kept → 0 ≤ k.f0 ∧ k.f0 < 4294967296) :
    Calls Try.prog 10 #[.agg #[.int .u32 na, .int .i64 nl], .int .i64 s, .int .u32 lo, .int .u32 hi, .slice A kept.length c] w fun e w' =>
      ((newE na nl s lo hi kept ≠ 0 ∧ e = .returned (.tuple #[.pointer none, .int .i64 (newE na nl s lo hi kept)])) ∨
       (newE na nl s lo hi kept = 0 ∧ MOk (newM na nl s lo hi kept) ∧ ∃ b F, e = .returned (.tuple #[.pointer (some ⟨b, 0, none⟩), .int .i64 0]) ∧ Po w' b (newM na nl s lo hi kept) [] F ∧ (∀ k, k ∈ F → w.heap.size ≤ k))) ∧ Below w.heap.size w w' := by
  refine (new10 w na nl s lo hi A kept c hm hb0 hb1 hl0 hl1 hh0 hh1 hC hW).mono ?_
  rintro e w' (⟨h1, rfl, hb⟩ | ⟨h1, b, vk, bm, rfl, h2, h3, hb⟩)
  · exact ⟨.inl ⟨h1, rfl⟩, hb⟩
  · exact ⟨.inr ⟨h1, newM_ok hb0 hb1 hl0 hh1 h1, b, _, rfl, ⟨vk, bm, _, [], h2, rfl, rfl⟩, h3⟩, hb⟩
end Go.Proofs.Ytebnlhjakiipjaa.Pl

set_option linter.unusedVariables false
set_option linter.unusedSimpArgs false
namespace Go.Proofs.Ytebnlhjakiipjaa.Pl
open Go.RowKit Go.Maps Go.Proofs.YtebnlhjakiipjaaW.PrintWords Go.Proofs.YtebnlhjakiipjaaW.PrintMore Go.Proofs.Ytebnlhjakiipjaa.PPlf
theorem C_one {w : World} {g t : Nat} {a l : Int} (h : w.heap[g]? = some (.cells #[.int .u32 a, .int .i64 l] t (0, 0))) : Kd.C k27 w (some ⟨g, 0, none⟩) 1 [(⟨a, l⟩ : S27)] := by
  refine ⟨rfl, by omega, fun h0 => ⟨⟨g, 0, none⟩, rfl, fun j p hj => ?_⟩⟩
  match j, hj with
  | 0, hj =>
    obtain rfl : (⟨a, l⟩ : S27) = p := by simpa using hj
    refine ⟨[.int .u32 a, .int .i64 l], rfl, k27_mk w ⟨a, l⟩, fun i u hu => ?_⟩
    have e2 : k27.sz = 2 := rfl
    match i, hu with
    | 0, hu =>
      have : u = .int .u32 a := by simpa using hu.symm
      subst this
      exact blk_cell h 0
    | 1, hu =>
      have : u = .int .i64 l := by simpa using hu.symm
      subst this
      exact blk_cell h 1
    | i + 2, hu => simp at hu
  | j + 1, hj => simp at hj
def bK : List S27 := [⟨167772160, 24⟩]
theorem bE : newE 167772160 8 24 167772160 167772672 bK = 0 := by decide
theorem bM : newM 167772160 8 24 167772160 167772672 bK = M0 167772160 8 24 167772160 167772672 [655360] := by
  unfold newM
  rw [SortI.srt_small (by decide)]
  have : bK.map (fun k => k.f0 / sizeF 24) = [655360] := by decide
  rw [this]
theorem bT : takeF (M0 167772160 8 24 167772160 167772672 [655360]) [] = some 655361 := by decide
theorem bR : roomL (M0 167772160 8 24 167772160 167772672 [655360]) [655361] = 1 := by decide
set_option maxHeartbeats 4000000 in
set_option maxRecDepth 100000 in
theorem begun9 (w : World) : Calls Try.prog 9 #[] w fun e w' => e = .returned (.bool true) ∧ Below w.heap.size w w' := by
  have kb := heap_alloc_new w (.cells #[.int .u32 167772160, .int .i64 24] 27)
  have HN := Aside0.mk (newP (w.alloc (.cells #[.int .u32 167772160, .int .i64 24] 27)) 167772160 8 24 167772160 167772672 (some ⟨w.heap.size, 0, none⟩) bK 1 (by decide) (by omega) (by omega) (by omega) (by omega) (by omega) (by omega) (C_one kb) (fun k hk => by
    unfold bK at hk; rw [List.mem_singleton] at hk; subst hk; decide))
  clear kb
  go_enter Try.func9, Try.ntmps9
  go_wp2_with fail
  refine HN.out.mono ?_
  rintro e_ w1 ⟨⟨hne, _⟩ | ⟨he, hM, b, F, rfl, hP, hF⟩, hb⟩
  · exact absurd bE hne
  rw [bM] at hM hP
  have HB := Aside0.mk (below_step (below_alloc (Below.refl _ _) _) hb)
  have HT := Aside0.mk (takeP hM (fun x hx => by cases hx) hP)
  rw [bT] at HT
  have HM := Aside0.mk hM
  have HF := Aside0.mk hF
  clear HN he hM hP hb hF
  go_wp2_with fail
  refine HT.out.mono ?_
  rintro e_ w2 ⟨rfl, L, F', hP2, hL2, hm, hT, hd⟩
  obtain rfl : L = [655361] := rise_ext hP2.rise (List.pairwise_singleton _ _) (fun x => by rw [hm x]; simp [eq_comm])
  have hB2 : Aside0 (Below w.heap.size w w2) := ⟨HB.out.trans (hT.below HB.out.size (fun k hk => by have := HF.out k hk; rw [World.size_alloc] at this; omega))⟩
  have HR := Aside0.mk (fun W (hb : Below w2.heap.size w2 W) => roomP HM.out hL2 (hP2.below hb))
  rw [bR] at HR
  have hx : (655361 : Int) * sizeF 24 = 167772416 := by decide
  have hv : takeV (M0 167772160 8 24 167772160 167772672 [655360]) (some 655361) = .tuple #[.agg #[.int .u32 167772416, .int .i64 24], .int .i64 0] := by
    show Value.tuple #[.agg #[.int .u32 ((655361 : Int) * sizeF 24), .int .i64 24], .int .i64 0] = _
    rw [hx]
  rw [hv]
  clear hv hx HT HB hP2 hL2 hm hT hd HM HF
  go_wp2_with fail
  refine (HR.out _ (below_alloc (Below.refl _ _) _)).mono ?_
  rintro e_ w3 ⟨rfl, hb3⟩
  have kb := blk_below (heap_alloc_new w2 (.cells #[.int .u32 167772416, .int .i64 24] 27)) hb3
  have k0 := blk_cell kb 0
  have k1 := blk_cell kb 1
  have HB3 : Aside0 (Below w.heap.size w w3) := ⟨below_step (below_alloc hB2.out _) hb3⟩
  have heq := eqA27
  clear hb3 kb HR hB2
  go_wp2_with fail
  go_ret
  exact ⟨rfl, HB3.out⟩
/-- a Spec that comes in -/
theorem made13 (w : World) (na nl s lo hi : Int) (A : Option Addr) (kept : List S27) (c : Nat) (hm : kept.length ≤ maxLen) (hb0 : 0 ≤ na) (hb1 : na < 4294967296) (hl0 : 0 ≤ lo) (hl1 : lo < 4294967296) (hh0 : 0 ≤ hi) (hh1 : hi < 4294967296)
    (hC : Kd.C k27 w A kept.length kept) (hW : ∀ k, k ∈ kept → 0 ≤ k.f0 ∧ k.f0 < 4294967296) :
    Calls Try.prog 13 #[.agg #[.int .u32 na, .int .i64 nl, .int .i64 s, .int .u32 lo, .int .u32 hi, .slice A kept.length c]] w fun e w' =>
      ((newE na nl s lo hi kept ≠ 0 ∧ e = .returned (.tuple #[.pointer none, .int .i64 (newE na nl s lo hi kept)])) ∨
       (newE na nl s lo hi kept = 0 ∧ MOk (newM na nl s lo hi kept) ∧ ∃ b F, e = .returned (.tuple #[.pointer (some ⟨b, 0, none⟩), .int .i64 0]) ∧ Po w' b (newM na nl s lo hi kept) [] F ∧ (∀ k, k ∈ F → w.heap.size ≤ k))) ∧ Below w.heap.size w w' := by
  have hb := below_alloc (Below.refl w.heap.size w) (.cells #[.int .u32 na, .int .i64 nl, .int .i64 s, .int .u32 lo, .int .u32 hi, .slice A kept.length c] 30)
  have HN := Aside0.mk (newP (s := s) (w.alloc (.cells #[.int .u32 na, .int .i64 nl, .int .i64 s, .int .u32 lo, .int .u32 hi, .slice A kept.length c] 30)) na nl lo hi A kept c hm hb0 hb1 hl0 hl1 hh0 hh1 (Kd.C_below hC hb) hW)
  clear hb hC hW
  generalize newE na nl s lo hi kept = E at *
  generalize newM na nl s lo hi kept = M at *
  go_enter Try.func13, Try.ntmps13
  go_wp2_with fail
  refine HN.out.mono ?_
  rintro e_ w1 ⟨⟨hne, rfl⟩ | ⟨he, hM, b, F, rfl, hP, hF⟩, hb⟩
  · have HH := Aside0.mk (And.intro hne hb)
    clear hne hb
    go_wp2_with fail
    go_ret2
    exact ⟨.inl ⟨HH.out.1, rfl⟩, below_step (below_alloc (Below.refl _ _) _) HH.out.2⟩
  · have HH := Aside0.mk (And.intro he (And.intro hM (And.intro hP (And.intro hF hb))))
    clear he hM hP hF hb
    go_wp2_with fail
    go_ret2
    obtain ⟨he, hM, hP, hF, hb⟩ := HH.out
    exact ⟨.inr ⟨he, hM, b, F, rfl, hP, fun k hk => by have := hF k hk; rw [World.size_alloc] at this; omega⟩, below_step (below_alloc (Below.refl _ _) _) hb⟩
end Go.Proofs.Ytebnlhjakiipjaa.Pl

set_option linter.unusedVariables false
set_option linter.unusedSimpArgs false
namespace Go.Proofs.Ytebnlhjakiipjaa.Pl
open Go.RowKit Go.Proofs.YtebnlhjakiipjaaW.PrintWords Go.Proofs.YtebnlhjakiipjaaW.PrintMore Go.Proofs.Ytebnlhjakiipjaa.PPlf
theorem S27.ext_iff' {x y : S27} : x = y ↔ x.f0 = y.f0 ∧ x.f1 = y.f1 := by cases x; cases y; simp
instance : DecidableEq S27 := fun x y => decidable_of_iff _ S27.ext_iff'.symm
theorem rd_at {l : List S27} {i : Nat} (h : i < l.length) : rd_T27 l (i : Int) = l[i] := by
  unfold rd_T27
  rw [List.getD_eq_getElem?_getD, Int.toNat_natCast, List.getElem?_eq_getElem h]; rfl
theorem drop_at {l : List S27} {i : Nat} (h : i < l.length) : l.drop i = rd_T27 l (i : Int) :: l.drop (i + 1) := by rw [rd_at h]; exact List.drop_eq_getElem_cons h
theorem same_l {l m : List S27} (hl : l.length ≤ 281474976710656) (hm : l.length = m.length) : ∀ (n i k : Nat), i + n = l.length → n < k → weftlaw10_same.l0 k l m (i : Int) = some (decide (l.drop i = m.drop i))
  | 0, i, k, hn, hk => by
    obtain ⟨k, rfl⟩ : ∃ m, k = m + 1 := ⟨k - 1, by omega⟩
    simp only [weftlaw10_same.l0]
    rw [if_neg (by omega), List.drop_eq_nil_of_le (by omega), List.drop_eq_nil_of_le (by omega)]
    simp
  | n + 1, i, k, hn, hk => by
    obtain ⟨k, rfl⟩ : ∃ m, k = m + 1 := ⟨k - 1, by omega⟩
    have ih := same_l hl hm n (i + 1) k (by omega) (by omega)
    simp only [weftlaw10_same.l0]
    rw [if_pos (by omega), if_pos (by omega), if_pos (by omega), drop_at (show i < l.length by omega), drop_at (show i < m.length by omega), w64 (by omega) (by omega), show (i : Int) + 1 = ((i + 1 : Nat) : Int) from by omega, ih]
    by_cases c : rd_T27 l i = rd_T27 m i
    · rw [if_neg (by rw [c]; simp)]
      congr 1
      rw [decide_eq_decide, List.cons.injEq]
      exact ⟨fun h => ⟨c, h⟩, fun h => h.2⟩
    · rw [if_pos (by
        rw [Bool.or_eq_true, Bool.not_eq_true', Bool.not_eq_true', beq_eq_false_iff_ne, beq_eq_false_iff_ne]
        by_cases c0 : (rd_T27 l i).f0 = (rd_T27 m i).f0
        · exact .inr (fun h => c (S27.ext_iff'.2 ⟨c0, h⟩))
        · exact .inl c0)]
      congr 1
      rw [eq_comm, decide_eq_false_iff_not, List.cons.injEq]
      exact fun h => c h.1
theorem same_all {l m : List S27} (hl : l.length ≤ 281474976710656) {k : Nat} (hk : l.length < k) : weftlaw10_same.f k l m = some (decide (l = m)) := by
  unfold weftlaw10_same.f
  by_cases hm : l.length = m.length
  · rw [if_pos (by omega)]
    exact same_l hl hm l.length 0 k (by omega) hk
  · rw [if_neg (by omega)]
    congr 1
    rw [eq_comm, decide_eq_false_iff_not]
    exact fun h => hm (by rw [h])
/-- may this one be claimed, the taken ones aside -/
def okC (M : Pm) (a l : Int) : Prop := sub M a l ∧ ins M.na M.nl a ∧ ¬ away M (a / sizeF M.s)
theorem claimE_zero {M : Pm} {L : List Int} {a l : Int} : claimE M L a l = 0 ↔ okC M a l ∧ a / sizeF M.s ∉ L := by
  unfold claimE okC
  by_cases c1 : sub M a l
  · rw [if_neg (show ¬ ¬ sub M a l from fun h => h c1)]
    by_cases c2 : ¬ ins M.na M.nl a ∨ away M (a / sizeF M.s)
    · rw [if_pos c2]
      constructor
      · intro h; omega
      · rintro ⟨⟨_, h1, h2⟩, _⟩
        exact absurd c2 (fun h => h.elim (fun h => h h1) h2)
    · rw [if_neg c2]
      have c3 : ins M.na M.nl a ∧ ¬ away M (a / sizeF M.s) := ⟨Classical.byContradiction fun h => c2 (.inl h), fun h => c2 (.inr h)⟩
      by_cases c4 : a / sizeF M.s ∈ L
      · rw [if_pos c4]
        constructor
        · intro h; omega
        · intro h; exact absurd c4 h.2
      · rw [if_neg c4]; exact ⟨fun _ => ⟨⟨c1, c3⟩, c4⟩, fun _ => rfl⟩
  · rw [if_pos c1]
    constructor
    · intro h; omega
    · intro h; exact absurd h.1.1 c1
theorem freeE_zero {M : Pm} {L : List Int} {a l : Int} : freeE M L a l = 0 ↔ sub M a l ∧ a / sizeF M.s ∈ L := by
  unfold freeE
  by_cases c : sub M a l ∧ a / sizeF M.s ∈ L
  · rw [if_pos c]; exact ⟨fun _ => c, fun _ => rfl⟩
  · rw [if_neg c]; exact ⟨fun h => by omega, fun h => absurd h c⟩
theorem sizeF_le_S {M : Pm} {L : List Int} (hM : MOk M) (hL : Lok M L) (hr : L.Pairwise (· < ·)) : L.length ≤ 4294967296 := by
  have := rise_len (lo := 0) (hi := 4294967296) hr (fun x hx => ⟨(hL x hx).1, fits_sub hM.ok.s0 hM.ok.s1 (hL x hx).1 (hL x hx).2⟩) (by omega)
  omega
end Go.Proofs.Ytebnlhjakiipjaa.Pl
