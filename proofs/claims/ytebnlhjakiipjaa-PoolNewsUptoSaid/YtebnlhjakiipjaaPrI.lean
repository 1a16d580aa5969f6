/- The program's pool and the reference's side by side; a step of both walked (plays). Conditions: the numbers are of their kinds. -/
import Derived.Test.YtebnlhjakiipjaaPrC
import Derived.Test.YtebnlhjakiipjaaPrD
import Derived.Test.YtebnlhjakiipjaaPrE
import Derived.Test.YtebnlhjakiipjaaPrF
import Derived.Test.YtebnlhjakiipjaaPrG
set_option linter.unusedVariables false
set_option linter.unusedSimpArgs false
namespace Go.Proofs.Ytebnlhjakiipjaa.Pl
open Go.RowKit Go.Maps Go.Proofs.YtebnlhjakiipjaaW.PrintWords Go.Proofs.YtebnlhjakiipjaaW.PrintMore Go.Proofs.YtebnlhjakiipjaaW.PrintLast Go.Proofs.Ytebnlhjakiipjaa.PPlf
/-- the program's pool at p and the reference's at r, with the same numbers taken; the blocks both lie in -/
def Duo (w : World) (p r : Nat) (M : Pm) (L : List Int) (G : List Nat) : Prop := ∃ F vk vt K T, Po w p M L F ∧ MOk M ∧ Lok M L ∧ RS w r vk vt M K T ∧ RO M K L T ∧ (∀ k, k ∈ F → k ∉ RF r vk vt) ∧ G = F ++ RF r vk vt
section
variable {w w' : World} {p r : Nat} {M : Pm} {L : List Int} {G H : List Nat}
theorem Duo.turn (h : Duo w p r M L G) (ht : Turn w w' H) (hd : ∀ k, k ∈ G → k ∉ H) : Duo w' p r M L G := by
  obtain ⟨F, vk, vt, K, T, h1, h2, h3, h4, h5, h6, rfl⟩ := h
  exact ⟨F, vk, vt, K, T, h1.turn ht (fun k hk => hd k (List.mem_append.2 (.inl hk))), h2, h3, h4.step (fun k hk => ht.block k (h4.lt k hk) (hd k (List.mem_append.2 (.inr hk)))), h5, h6, rfl⟩
theorem Duo.below (h : Duo w p r M L G) (hb : Below w.heap.size w w') : Duo w' p r M L G := h.turn (Turn.of_below hb []) (fun _ _ hk => by cases hk)
theorem Duo.lt (h : Duo w p r M L G) : ∀ k, k ∈ G → k < w.heap.size := by
  obtain ⟨F, vk, vt, K, T, h1, h2, h3, h4, h5, h6, rfl⟩ := h
  intro k hk
  rcases List.mem_append.1 hk with hk | hk
  · exact h1.lt k hk
  · exact h4.lt k hk
end
/-- what a step leaves -/
def Went (w : World) (p r : Nat) (M : Pm) (G : List Nat) (w' : World) : Prop := ∃ L' G', Duo w' p r M L' G' ∧ Turn w w' G ∧ ∀ k, k ∈ G' → k ∈ G ∨ w.heap.size ≤ k
theorem Went.same {w w' : World} {p r : Nat} {M : Pm} {L : List Int} {G : List Nat} (h : Duo w p r M L G) (hb : Below w.heap.size w w') : Went w p r M G w' := ⟨L, G, h.below hb, Turn.of_below hb G, fun k hk => .inl hk⟩
theorem went {w w1 w2 w3 w4 w5 : World} {p r : Nat} {M : Pm} {L : List Int} {F : List Nat} {vk vt vt' : Value} {K T T' : List Int} {P : List Int → Prop} (hP : Po w p M L F) (hM : MOk M) (hS : RS w r vk vt M K T) (hd : ∀ k, k ∈ F → k ∉ RF r vk vt)
    (b1 : Below w.heap.size w w1) (hl : Left w1 p M F P w2) (b2 : Below w2.heap.size w2 w3) (hr : RS w4 r vk vt' M K T') (ht : Turn w3 w4 (r :: vt.ownBlock.toList)) (hn : NB vt vt' w3) (ho : ∀ L', P L' → RO M K L' T') (b3 : Below w4.heap.size w4 w5) : Went w p r M (F ++ RF r vk vt) w5 := by
  obtain ⟨L', F', p2, l2, hPL, t2, n2⟩ := hl
  have s1 := b1.size
  have s2 := t2.size
  have s3 := b2.size
  have hF2 := p2.lt
  have hRF := hS.lt
  have hsub : ∀ k, k ∈ r :: vt.ownBlock.toList → k ∈ RF r vk vt := fun k hk => by
    rcases List.mem_cons.1 hk with rfl | hk
    · simp [RF]
    · exact List.mem_cons_of_mem _ (List.mem_append.2 (.inr hk))
  have hF1 := hP.lt
  refine ⟨L', F' ++ RF r vk vt', ⟨F', vk, vt', K, T', ((p2.below b2).turn ht (fun k hk h => ?_)).below b3, hM, l2, hr.below b3, ho L' hPL, fun k hk h => ?_, rfl⟩, ?_, fun k hk => ?_⟩
  · rcases n2 k hk with h1 | h1
    · exact hd k h1 (hsub k h)
    · have := hRF k (hsub k h); omega
  · have h3 : k ∈ RF r vk vt ∨ w3.heap.size ≤ k := by
      simp only [RF, List.mem_cons, List.mem_append, Option.mem_toList, Option.mem_def] at h ⊢
      rcases h with h | h | h
      · exact .inl (.inl h)
      · exact .inl (.inr (.inl h))
      · exact (hn k h).imp (fun h => .inr (.inr h)) id
    rcases h3 with h3 | h3
    · rcases n2 k hk with h1 | h1
      · exact hd k h1 h3
      · have := hRF k h3; omega
    · have := hF2 k hk; omega
  · refine (((Turn.of_below b1 (F ++ RF r vk vt)).trans t2 (fun k hk => .inl (List.mem_append.2 (.inl hk)))).trans (Turn.of_below b2 []) (fun k hk => by cases hk)).trans (ht.trans (Turn.of_below b3 []) (fun k hk => by cases hk)) (fun k hk => .inl (List.mem_append.2 (.inr (hsub k hk))))
  · rcases List.mem_append.1 hk with hk | hk
    · rcases n2 k hk with h1 | h1
      · exact .inl (List.mem_append.2 (.inl h1))
      · exact .inr (by omega)
    · simp only [RF, List.mem_cons, List.mem_append, Option.mem_toList, Option.mem_def] at hk ⊢
      rcases hk with h | h | h
      · exact .inl (.inr (.inl h))
      · exact .inl (.inr (.inr (.inl h)))
      · rcases hn k h with h1 | h1
        · exact .inl (.inr (.inr (.inr h1)))
        · exact .inr (by omega)
/-- the reference's list behind a Claim, behind a Free -/
theorem claim_ro {M : Pm} {K L L' T : List Int} {a l : Int} (hM : MOk M) (ho : RO M K L T) (hm : ∀ x, x ∈ L' ↔ x ∈ L ∨ (claimE M L a l = 0 ∧ x = a / sizeF M.s)) : RO M K L' (claimT (claimE M L a l) a T) := by
  unfold claimT
  by_cases c : claimE M L a l = 0
  · rw [if_pos c]
    have h1 := claimE_zero.1 c
    have h2 : a / sizeF M.s * sizeF M.s = a := by have h3 := h1.1.1.2.2.2; rw [h1.1.1.1] at h3; exact div_mul h3
    have := ho.snoc hM (n := a / sizeF M.s) h1.2 (L' := L') (fun x => by rw [hm]; simp [c])
    rw [h2] at this
    exact this
  · rw [if_neg c]
    exact ho.same (fun x => by rw [hm]; simp [c])
theorem free_ro {M : Pm} {K L L' T : List Int} {a l : Int} (hM : MOk M) (ho : RO M K L T) (hm : ∀ x, x ∈ L' ↔ x ∈ L ∧ ¬ (freeE M L a l = 0 ∧ x = a / sizeF M.s)) : RO M K L' (freeT (freeE M L a l) a T) := by
  unfold freeT
  by_cases c : freeE M L a l = 0
  · rw [if_pos c]
    have h1 := freeE_zero.1 c
    have h2 : a / sizeF M.s * sizeF M.s = a := by have h3 := h1.1.2.2.2; rw [h1.1.1] at h3; exact div_mul h3
    have := ho.less hM (n := a / sizeF M.s) (L' := L') (fun x => by rw [hm]; simp [c])
    rw [h2] at this
    exact this
  · rw [if_neg c]
    exact ho.same (fun x => by rw [hm]; simp [c])
theorem take_ro {M : Pm} {K L L' T : List Int} (hM : MOk M) (ho : RO M K L T) (hm : ∀ x, x ∈ L' ↔ x ∈ L ∨ takeF M L = some x) : RO M K L' (takeT M.s (takeF M L) T) := by
  cases c : takeF M L with
  | none => exact ho.same (fun x => by rw [hm, c]; simp)
  | some n =>
    have hn : n ∉ L := fun h => by
      have := List.find?_some c
      simp [h] at this
    exact ho.snoc hM hn (fun x => by rw [hm, c, Option.some.injEq]; exact or_congr Iff.rfl eq_comm)
/-- the row of a step that comes in -/
abbrev opC (k o a l : Int) : Obj := .cells #[.int .i64 k, .int .i64 o, .int .u32 a, .int .i64 l] 49
set_option maxHeartbeats 16000000 in
set_option maxRecDepth 100000 in
theorem plays_claim (w : World) (p r : Nat) (M : Pm) (L : List Int) (G : List Nat) (o a l : Int) (ha0 : 0 ≤ a) (ha1 : a < 4294967296) (h : Duo w p r M L G) :
    Calls Try.prog 19 #[.pointer (some ⟨p, 0, none⟩), .pointer (some ⟨r, 0, none⟩), .agg #[.int .i64 2, .int .i64 o, .int .u32 a, .int .i64 l]] w fun e w' => e = .returned (.bool true) ∧ Went w p r M G w' := by
  have hDU := Aside0.mk h
  obtain ⟨F, vk, vt, K, T, hP, hM, hL, hS, hO, hd, rfl⟩ := h
  have b1 := below_alloc (Below.refl w.heap.size w) (opC 2 o a l)
  have kb := heap_alloc_new w (opC 2 o a l)
  have k0 := blk_cell kb 0
  have k2 := blk_cell kb 2
  have k3 := blk_cell kb 3
  have KB := Aside0.mk kb
  have hM0 := Aside0.mk hM
  have hP0 := Aside0.mk hP
  have hS0 := Aside0.mk hS
  have hO0 := Aside0.mk hO
  have hd0 := Aside0.mk hd
  have hL0 := Aside0.mk hL
  have hA0 := Aside0.mk (And.intro ha0 ha1)
  have hR0 := Aside0.mk hP.rise
  have B1 := Aside0.mk b1
  have HP1 := Aside0.mk (hP.below b1)
  have HS1 := Aside0.mk (hS.below b1)
  clear hP hM hS hO hd hL kb b1 ha0 ha1
  go_enter Try.func19, Try.ntmps19
  unfold opC at *
  go_wp2_with fail
  generalize w.alloc (.cells #[.int .i64 2, .int .i64 o, .int .u32 a, .int .i64 l] 49) = w1 at *
  refine (claimP hM0.out hL0.out HP1.out a l hA0.out.1 hA0.out.2).mono ?_
  rintro e_ w2 ⟨rfl, hl⟩
  have HL2 := Aside0.mk hl
  obtain ⟨L', F', p2, l2, hPL, t2, n2⟩ := hl
  have hFF := hd0.out
  have HS2 : Aside0 (RS w2 r vk vt M K T) := ⟨HS1.out.step (fun k hk => t2.block k (HS1.out.lt k hk) (fun hf => hFF k hf hk))⟩
  have hb2 : w2.heap[w.heap.size]? = _ := (t2.block _ (blk_lt KB.out) (fun hf => by have := hP0.out.lt _ hf; omega)).trans KB.out
  have k0 := blk_cell hb2 0
  have k2 := blk_cell hb2 2
  have k3 := blk_cell hb2 3
  clear hFF p2 l2 hPL t2 n2 hb2
  go_wp2_with fail
  refine (rclaim43 w2 r vk vt M K L T a l hA0.out.1 hA0.out.2 hM0.out hL0.out hR0.out HS2.out hO0.out).mono ?_
  rintro e_ w4 ⟨rfl, vt', T', hr, rfl, ht, hn⟩
  have HR := Aside0.mk hr
  have HT := Aside0.mk ht
  have HN := Aside0.mk hn
  clear hr ht hn k0 k2 k3
  go_wp2_with fail
  go_ret
  exact ⟨rfl, went hP0.out hM0.out hS0.out hd0.out B1.out HL2.out (Below.refl _ _) HR.out HT.out HN.out (fun L' hL' => claim_ro hM0.out hO0.out hL') (Below.refl _ _)⟩
set_option maxHeartbeats 16000000 in
set_option maxRecDepth 100000 in
theorem plays_free (w : World) (p r : Nat) (M : Pm) (L : List Int) (G : List Nat) (o a l : Int) (ha0 : 0 ≤ a) (ha1 : a < 4294967296) (h : Duo w p r M L G) :
    Calls Try.prog 19 #[.pointer (some ⟨p, 0, none⟩), .pointer (some ⟨r, 0, none⟩), .agg #[.int .i64 3, .int .i64 o, .int .u32 a, .int .i64 l]] w fun e w' => e = .returned (.bool true) ∧ Went w p r M G w' := by
  have hDU := Aside0.mk h
  obtain ⟨F, vk, vt, K, T, hP, hM, hL, hS, hO, hd, rfl⟩ := h
  have b1 := below_alloc (Below.refl w.heap.size w) (opC 3 o a l)
  have kb := heap_alloc_new w (opC 3 o a l)
  have k0 := blk_cell kb 0
  have k2 := blk_cell kb 2
  have k3 := blk_cell kb 3
  have KB := Aside0.mk kb
  have hM0 := Aside0.mk hM
  have hP0 := Aside0.mk hP
  have hS0 := Aside0.mk hS
  have hO0 := Aside0.mk hO
  have hd0 := Aside0.mk hd
  have hL0 := Aside0.mk hL
  have hA0 := Aside0.mk (And.intro ha0 ha1)
  have hR0 := Aside0.mk hP.rise
  have B1 := Aside0.mk b1
  have HP1 := Aside0.mk (hP.below b1)
  have HS1 := Aside0.mk (hS.below b1)
  clear hP hM hS hO hd hL kb b1 ha0 ha1
  go_enter Try.func19, Try.ntmps19
  unfold opC at *
  go_wp2_with fail
  generalize w.alloc (.cells #[.int .i64 3, .int .i64 o, .int .u32 a, .int .i64 l] 49) = w1 at *
  refine (freeP hM0.out hL0.out HP1.out a l hA0.out.1 hA0.out.2).mono ?_
  rintro e_ w2 ⟨rfl, hl⟩
  have HL2 := Aside0.mk hl
  obtain ⟨L', F', p2, l2, hPL, t2, n2⟩ := hl
  have hFF := hd0.out
  have HS2 : Aside0 (RS w2 r vk vt M K T) := ⟨HS1.out.step (fun k hk => t2.block k (HS1.out.lt k hk) (fun hf => hFF k hf hk))⟩
  have hb2 : w2.heap[w.heap.size]? = _ := (t2.block _ (blk_lt KB.out) (fun hf => by have := hP0.out.lt _ hf; omega)).trans KB.out
  have k0 := blk_cell hb2 0
  have k2 := blk_cell hb2 2
  have k3 := blk_cell hb2 3
  clear hFF p2 l2 hPL t2 n2 hb2
  go_wp2_with fail
  refine (rfree44 w2 r vk vt M K L T a l hA0.out.1 hA0.out.2 hM0.out hL0.out hR0.out HS2.out hO0.out).mono ?_
  rintro e_ w4 ⟨rfl, vt', T', hr, rfl, ht, hn⟩
  have HR := Aside0.mk hr
  have HT := Aside0.mk ht
  have HN := Aside0.mk hn
  clear hr ht hn k0 k2 k3
  go_wp2_with fail
  go_ret
  exact ⟨rfl, went hP0.out hM0.out hS0.out hd0.out B1.out HL2.out (Below.refl _ _) HR.out HT.out HN.out (fun L' hL' => free_ro hM0.out hO0.out hL') (Below.refl _ _)⟩
set_option maxHeartbeats 16000000 in
set_option maxRecDepth 100000 in
theorem plays_take (w : World) (p r : Nat) (M : Pm) (L : List Int) (G : List Nat) (o a l : Int) (ha0 : 0 ≤ a) (ha1 : a < 4294967296) (h : Duo w p r M L G) :
    Calls Try.prog 19 #[.pointer (some ⟨p, 0, none⟩), .pointer (some ⟨r, 0, none⟩), .agg #[.int .i64 1, .int .i64 o, .int .u32 a, .int .i64 l]] w fun e w' => e = .returned (.bool true) ∧ Went w p r M G w' := by
  have hDU := Aside0.mk h
  obtain ⟨F, vk, vt, K, T, hP, hM, hL, hS, hO, hd, rfl⟩ := h
  have b1 := below_alloc (Below.refl w.heap.size w) (opC 1 o a l)
  have kb := heap_alloc_new w (opC 1 o a l)
  have k0 := blk_cell kb 0
  have k2 := blk_cell kb 2
  have k3 := blk_cell kb 3
  have KB := Aside0.mk kb
  have hM0 := Aside0.mk hM
  have hP0 := Aside0.mk hP
  have hS0 := Aside0.mk hS
  have hO0 := Aside0.mk hO
  have hd0 := Aside0.mk hd
  have hL0 := Aside0.mk hL
  have hA0 := Aside0.mk (And.intro ha0 ha1)
  have hR0 := Aside0.mk hP.rise
  have B1 := Aside0.mk b1
  have HP1 := Aside0.mk (hP.below b1)
  have HS1 := Aside0.mk (hS.below b1)
  clear hP hM hS hO hd hL kb b1 ha0 ha1
  go_enter Try.func19, Try.ntmps19
  unfold opC at *
  go_wp2_with fail
  generalize w.alloc (.cells #[.int .i64 1, .int .i64 o, .int .u32 a, .int .i64 l] 49) = w1 at *
  refine (takeP hM0.out hL0.out HP1.out).mono ?_
  rintro e_ w2 ⟨rfl, hl⟩
  have HL2 := Aside0.mk hl
  obtain ⟨L', F', p2, l2, hPL, t2, n2⟩ := hl
  have hFF := hd0.out
  have HS2 : Aside0 (RS w2 r vk vt M K T) := ⟨HS1.out.step (fun k hk => t2.block k (HS1.out.lt k hk) (fun hf => hFF k hf hk))⟩
  have HSZ : Aside0 (w.heap.size < w2.heap.size) := ⟨by have := blk_lt KB.out; have := t2.size; omega⟩
  clear hFF p2 l2 hPL t2 n2 k0 k2 k3
  obtain ⟨o1, o2, o3, htv⟩ : ∃ o1 o2 o3, takeV M (takeF M L) = .tuple #[.agg #[.int .u32 o1, .int .i64 o2], .int .i64 o3] := by
    cases takeF M L with
    | none => exact ⟨0, 0, 4, rfl⟩
    | some n => exact ⟨n * sizeF M.s, M.s, 0, rfl⟩
  have HTV := Aside0.mk htv
  rw [htv]
  clear htv
  go_wp2_with fail
  have b3 := below_alloc (Below.refl w2.heap.size w2) (.cells #[.int .u32 o1, .int .i64 o2] 27)
  have kn := heap_alloc_new w2 (.cells #[.int .u32 o1, .int .i64 o2] 27)
  have B3 := Aside0.mk b3
  have KN := Aside0.mk kn
  have HS3 := Aside0.mk (HS2.out.below b3)
  generalize w2.alloc (.cells #[.int .u32 o1, .int .i64 o2] 27) = w3 at *
  clear b3 kn
  refine (rtake42 w3 r vk vt M K L T hM0.out hL0.out hR0.out HS3.out hO0.out).mono ?_
  rintro e_ w4 ⟨rfl, vt', T', hr, rfl, ht, hn⟩
  rw [HTV.out]
  have HR := Aside0.mk hr
  have HT := Aside0.mk ht
  have HN := Aside0.mk hn
  have kn4 : w4.heap[w2.heap.size]? = _ := (ht.block _ (blk_lt KN.out) (fun hk => by
    have h1 : ∀ k, k ∈ r :: vt.ownBlock.toList → k < w.heap.size := fun k hk => hS0.out.lt k (by
      rcases List.mem_cons.1 hk with rfl | hk
      · simp [RF]
      · exact List.mem_cons_of_mem _ (List.mem_append.2 (.inr hk)))
    have := h1 _ hk
    have := HSZ.out
    omega)).trans KN.out
  have hne : w2.heap.size < w4.heap.size := blk_lt kn4
  have b5 := below_alloc (Below.refl w4.heap.size w4) (.cells #[.int .u32 o1, .int .i64 o2] 27)
  have km := heap_alloc_new w4 (.cells #[.int .u32 o1, .int .i64 o2] 27)
  have kn5 := blk_below kn4 b5
  have q0 := blk_cell km 0
  have q1 := blk_cell km 1
  have q2 := blk_cell kn5 0
  have q3 := blk_cell kn5 1
  have B5 := Aside0.mk b5
  clear hr ht hn kn4 hne b5 km kn5
  go_wp2_with fail
  go_ret
  exact ⟨by simp, went hP0.out hM0.out hS0.out hd0.out B1.out HL2.out B3.out HR.out HT.out HN.out (fun L' hL' => take_ro hM0.out hO0.out hL') B5.out⟩
set_option maxHeartbeats 16000000 in
set_option maxRecDepth 100000 in
theorem plays_room (w : World) (p r : Nat) (M : Pm) (L : List Int) (G : List Nat) (o a l : Int) (ha0 : 0 ≤ a) (ha1 : a < 4294967296) (h : Duo w p r M L G) :
    Calls Try.prog 19 #[.pointer (some ⟨p, 0, none⟩), .pointer (some ⟨r, 0, none⟩), .agg #[.int .i64 5, .int .i64 o, .int .u32 a, .int .i64 l]] w fun e w' => e = .returned (.bool true) ∧ Went w p r M G w' := by
  have hDU := Aside0.mk h
  obtain ⟨F, vk, vt, K, T, hP, hM, hL, hS, hO, hd, rfl⟩ := h
  have b1 := below_alloc (Below.refl w.heap.size w) (opC 5 o a l)
  have kb := heap_alloc_new w (opC 5 o a l)
  have k0 := blk_cell kb 0
  have k2 := blk_cell kb 2
  have k3 := blk_cell kb 3
  have KB := Aside0.mk kb
  have hM0 := Aside0.mk hM
  have hP0 := Aside0.mk hP
  have hS0 := Aside0.mk hS
  have hO0 := Aside0.mk hO
  have hd0 := Aside0.mk hd
  have hL0 := Aside0.mk hL
  have hA0 := Aside0.mk (And.intro ha0 ha1)
  have hR0 := Aside0.mk hP.rise
  have B1 := Aside0.mk b1
  have HP1 := Aside0.mk (hP.below b1)
  have HS1 := Aside0.mk (hS.below b1)
  clear hP hM hS hO hd hL kb b1 ha0 ha1
  go_enter Try.func19, Try.ntmps19
  unfold opC at *
  go_wp2_with fail
  generalize w.alloc (.cells #[.int .i64 5, .int .i64 o, .int .u32 a, .int .i64 l] 49) = w1 at *
  refine (roomP hM0.out hL0.out HP1.out).mono ?_
  rintro e_ w2 ⟨rfl, b2⟩
  have B2 := Aside0.mk (below_step B1.out b2)
  have HS2 := Aside0.mk (HS1.out.below b2)
  clear b2 k0 k2 k3
  go_wp2_with fail
  refine (rroom46 w2 r vk vt M K L T hM0.out hL0.out hR0.out HS2.out hO0.out).mono ?_
  rintro e_ w3 ⟨rfl, b3⟩
  have B3 := Aside0.mk (below_step B2.out b3)
  clear b3
  go_wp2_with fail
  go_ret
  exact ⟨rfl, Went.same hDU.out B3.out⟩
theorem ro_rise {M : Pm} {K L T : List Int} (hM : MOk M) (hL : Lok M L) (hr : L.Pairwise (· < ·)) (ho : RO M K L T) : (L.map (· * sizeF M.s)).Pairwise (· < ·) ∧ (∀ t, t ∈ L.map (· * sizeF M.s) → 0 ≤ t ∧ t < 4294967296) ∧ (∀ t, t ∈ T ↔ t ∈ L.map (· * sizeF M.s)) ∧ T.length = (L.map (· * sizeF M.s)).length := by
  have hsz := sizeF_rng hM.ok.s0 hM.ok.s1
  refine ⟨List.Pairwise.map (R := (· < ·)) _ (fun a b hab => Int.mul_lt_mul_of_pos_right hab (by omega)) hr, fun t ht => ?_, fun t => ?_, by rw [List.length_map]; exact ho.len hM hr⟩
  · obtain ⟨x, hx, rfl⟩ := List.mem_map.1 ht
    exact ⟨Int.mul_nonneg (hL x hx).1 (by omega), (hL x hx).2⟩
  · rw [ho.tm, List.mem_map]
    exact ⟨fun ⟨x, hx, e⟩ => ⟨x, hx, e.symm⟩, fun ⟨x, hx, e⟩ => ⟨x, hx, e.symm⟩⟩
theorem pxl_pxs (s : Int) (L : List Int) : pxl s (L.map (· * sizeF s)) = pxs s L := by unfold pxl pxs; rw [List.map_map]; rfl
set_option maxHeartbeats 16000000 in
set_option maxRecDepth 100000 in
theorem plays_taken (w : World) (p r : Nat) (M : Pm) (L : List Int) (G : List Nat) (o a l : Int) (ha0 : 0 ≤ a) (ha1 : a < 4294967296) (h : Duo w p r M L G) :
    Calls Try.prog 19 #[.pointer (some ⟨p, 0, none⟩), .pointer (some ⟨r, 0, none⟩), .agg #[.int .i64 4, .int .i64 o, .int .u32 a, .int .i64 l]] w fun e w' => e = .returned (.bool true) ∧ Went w p r M G w' := by
  have hDU := Aside0.mk h
  obtain ⟨F, vk, vt, K, T, hP, hM, hL, hS, hO, hd, rfl⟩ := h
  have b1 := below_alloc (Below.refl w.heap.size w) (opC 4 o a l)
  have kb := heap_alloc_new w (opC 4 o a l)
  have k0 := blk_cell kb 0
  have k2 := blk_cell kb 2
  have k3 := blk_cell kb 3
  have KB := Aside0.mk kb
  have hM0 := Aside0.mk hM
  have hP0 := Aside0.mk hP
  have hS0 := Aside0.mk hS
  have hO0 := Aside0.mk hO
  have hd0 := Aside0.mk hd
  have hL0 := Aside0.mk hL
  have hA0 := Aside0.mk (And.intro ha0 ha1)
  have hR0 := Aside0.mk hP.rise
  have B1 := Aside0.mk b1
  have HP1 := Aside0.mk (hP.below b1)
  have HS1 := Aside0.mk (hS.below b1)
  clear hP hM hS hO hd hL kb b1 ha0 ha1
  go_enter Try.func19, Try.ntmps19
  unfold opC at *
  go_wp2_with fail
  generalize w.alloc (.cells #[.int .i64 4, .int .i64 o, .int .u32 a, .int .i64 l] 49) = w1 at *
  refine (takenP hM0.out hL0.out HP1.out).mono ?_
  rintro e_ w2 ⟨v2, rfl, r2, b2⟩
  have B2 := Aside0.mk (below_step B1.out b2)
  have HS2 := Aside0.mk (HS1.out.below b2)
  obtain ⟨A2, c2, rfl, hc2, hC2⟩ := r2.C
  have R2 := Aside0.mk r2
  clear b2 k0 k2 k3 hc2 hC2 r2
  go_wp2_with fail
  have HRR := Aside0.mk (ro_rise hM0.out hL0.out hR0.out hO0.out)
  have HLL : Aside0 (L.length ≤ 4294967296) := ⟨sizeF_le_S hM0.out hL0.out hR0.out⟩
  refine (taken45 w2 r vk vt M K T (L.map (· * sizeF M.s)) HS2.out HRR.out.1 HRR.out.2.1 HRR.out.2.2.1 HRR.out.2.2.2 (by rw [List.length_map]; exact HLL.out)).mono ?_
  rintro e_ w3 ⟨v3, rfl, r3, b3⟩
  rw [pxl_pxs] at r3
  obtain ⟨A3, c3, rfl, hc3, hC3⟩ := r3.C
  have R3 := Aside0.mk r3
  have R2' := Aside0.mk (R2.out.below b3)
  have B3 := Aside0.mk (below_step B2.out b3)
  clear b3 r3 hc3 hC3
  go_wp2_with fail
  obtain ⟨_, _, e2, hc2, hC2⟩ := R2'.out.C
  injection e2 with e2 _ e3
  subst e2 e3
  obtain ⟨_, _, e2, hc3, hC3⟩ := R3.out.C
  injection e2 with e2 _ e3
  subst e2 e3
  have hlen : (pxs M.s L).length = L.length := by unfold pxs; rw [List.length_map]
  refine (weftlaw10_same.calls (L.length + 1) _ _ (pxs M.s L) _ _ (pxs M.s L) _ w3 hC2 hc2 hC3 hc3 (same_all (by rw [hlen]; have := HLL.out; omega) (by rw [hlen]; omega))).mono ?_
  rintro e_ w4 ⟨rfl, b4⟩
  have B4 := Aside0.mk (below_step B3.out b4.below)
  clear b4 hc2 hC2 hc3 hC3 hlen
  go_wp2_with fail
  go_ret
  exact ⟨by simp, Went.same hDU.out B4.out⟩
set_option maxHeartbeats 16000000 in
set_option maxRecDepth 100000 in
theorem plays_none (w : World) (p r : Nat) (M : Pm) (L : List Int) (G : List Nat) (k o a l : Int) (ha0 : 0 ≤ a) (ha1 : a < 4294967296) (h : Duo w p r M L G) (h1 : k ≠ 1) (h2 : k ≠ 2) (h3 : k ≠ 3) (h4 : k ≠ 4) (h5 : k ≠ 5):
    Calls Try.prog 19 #[.pointer (some ⟨p, 0, none⟩), .pointer (some ⟨r, 0, none⟩), .agg #[.int .i64 k, .int .i64 o, .int .u32 a, .int .i64 l]] w fun e w' => e = .returned (.bool true) ∧ Went w p r M G w' := by
  have hDU := Aside0.mk h
  obtain ⟨F, vk, vt, K, T, hP, hM, hL, hS, hO, hd, rfl⟩ := h
  have b1 := below_alloc (Below.refl w.heap.size w) (opC k o a l)
  have kb := heap_alloc_new w (opC k o a l)
  have k0 := blk_cell kb 0
  have k2 := blk_cell kb 2
  have k3 := blk_cell kb 3
  have KB := Aside0.mk kb
  have hM0 := Aside0.mk hM
  have hP0 := Aside0.mk hP
  have hS0 := Aside0.mk hS
  have hO0 := Aside0.mk hO
  have hd0 := Aside0.mk hd
  have hL0 := Aside0.mk hL
  have hA0 := Aside0.mk (And.intro ha0 ha1)
  have hR0 := Aside0.mk hP.rise
  have B1 := Aside0.mk b1
  have HP1 := Aside0.mk (hP.below b1)
  have HS1 := Aside0.mk (hS.below b1)
  clear hP hM hS hO hd hL kb b1 ha0 ha1
  go_enter Try.func19, Try.ntmps19
  unfold opC at *
  have d1 : (k == 1) = false := by simpa using h1
  have d2 : (k == 2) = false := by simpa using h2
  have d3 : (k == 3) = false := by simpa using h3
  have d4 : (k == 4) = false := by simpa using h4
  have d5 : (k == 5) = false := by simpa using h5
  clear h1 h2 h3 h4 h5
  go_wp2_with fail
  go_ret
  exact ⟨rfl, Went.same hDU.out B1.out⟩
theorem plays19 (w : World) (p r : Nat) (M : Pm) (L : List Int) (G : List Nat) (k o a l : Int) (ha0 : 0 ≤ a) (ha1 : a < 4294967296) (h : Duo w p r M L G) :
    Calls Try.prog 19 #[.pointer (some ⟨p, 0, none⟩), .pointer (some ⟨r, 0, none⟩), .agg #[.int .i64 k, .int .i64 o, .int .u32 a, .int .i64 l]] w fun e w' => e = .returned (.bool true) ∧ Went w p r M G w' := by
  by_cases h1 : k = 1
  · subst h1; exact plays_take w p r M L G o a l ha0 ha1 h
  by_cases h2 : k = 2
  · subst h2; exact plays_claim w p r M L G o a l ha0 ha1 h
  by_cases h3 : k = 3
  · subst h3; exact plays_free w p r M L G o a l ha0 ha1 h
  by_cases h4 : k = 4
  · subst h4; exact plays_taken w p r M L G o a l ha0 ha1 h
  by_cases h5 : k = 5
  · subst h5; exact plays_room w p r M L G o a l ha0 ha1 h
  exact plays_none w p r M L G k o a l ha0 ha1 h h1 h2 h3 h4 h5
end Go.Proofs.Ytebnlhjakiipjaa.Pl
