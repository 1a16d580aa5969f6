/- Lists: the program's is the document's. Plain Lean. Then both: made alike, or both refused. -/
import Derived.Test.YtgabkifojnkbkaaIpmG
set_option linter.unusedVariables false
set_option linter.unusedSimpArgs false
namespace Go.Proofs.Ytgabkifojnkbkaa.Ip
open Go.RowKit Go.Maps Go.WideMaps Go.MapKept Go.Proofs.YtgabkifojnkbkaaW.PrintWords Go.Proofs.Ytgabkifojnkbkaa.PIpf
theorem atA_map (l : List Pod) (j : Nat) : atA (l.map (·.2)) j = (podAt l j).2 := by
  unfold atA podAt
  rw [List.getD_eq_getElem?_getD, List.getD_eq_getElem?_getD, List.getElem?_map]
  cases l[j]? <;> rfl
theorem swapP_map (l : List Pod) (j : Nat) : (swapP l j).map (·.2) = swA (l.map (·.2)) j := by
  unfold swapP swA
  rw [List.map_set, List.map_set, atA_map, atA_map]
theorem bubble_map : ∀ (j : Nat) (l : List Pod), (bubble j l).map (·.2) = bubA j (l.map (·.2))
  | 0, l => rfl
  | j + 1, l => by
    rw [bubble, bubA, atA_map, atA_map]
    split
    · rw [bubble_map j, swapP_map]
    · rfl
theorem swapP_perm (l : List Pod) (j : Nat) (hj : j + 1 < l.length) : (swapP l j).Perm l := by
  have h := @List.set_set_perm _ l (j + 1) j hj (by omega)
  have e1 : podAt l j = l[j] := by simp [podAt, List.getD_eq_getElem?_getD, List.getElem?_eq_getElem (show j < l.length from by omega)]
  have e2 : podAt l (j + 1) = l[j + 1] := by simp [podAt, List.getD_eq_getElem?_getD, List.getElem?_eq_getElem hj]
  rw [swapP, e1, e2]
  exact h
theorem bubble_perm : ∀ (j : Nat) (l : List Pod), j < l.length → (bubble j l).Perm l
  | 0, l, _ => List.Perm.refl _
  | j + 1, l, h => by
    rw [bubble]
    split
    · exact (bubble_perm j _ (by rw [swapP_length]; omega)).trans (swapP_perm l j h)
    · exact List.Perm.refl _
theorem insF_perm (l : List Pod) (p : Pod) : (insF l p).Perm (p :: l) := by
  rw [insF]
  exact (bubble_perm _ _ (by simp)).trans (List.perm_append_comm (l₁ := l) (l₂ := [p]))
def Srt (l : List Pod) : Prop := ∀ i i', i < i' → i' < l.length → (podAt l i).2 ≤ (podAt l i').2
theorem insF_srt (l : List Pod) (p : Pod) (h : Srt l) : Srt (insF l p) := by
  intro i i' h1 h2
  rw [insF_length] at h2
  have hs := bubA_sort l.length l.length ((l ++ [p]).map (·.2)) (by simp) (Nat.le_refl _) (by
    intro a b ha hb hne
    rw [atA_map, atA_map]
    have e : ∀ k, k < l.length → podAt (l ++ [p]) k = podAt l k := fun k hk => by
      unfold podAt; rw [List.getD_eq_getElem?_getD, List.getElem?_append_left hk, List.getD_eq_getElem?_getD]
    rw [e a (by omega), e b (by omega)]
    exact h a b ha (by omega)) i i' h1 (by omega)
  rw [← bubble_map, atA_map, atA_map] at hs
  exact hs
theorem rlistF_all (l : List Pod) : (rlistF l).Perm l ∧ Srt (rlistF l) := by
  have hh : ∀ (l acc : List Pod), Srt acc → (l.foldl insF acc).Perm (l ++ acc) ∧ Srt (l.foldl insF acc) := by
    intro l
    induction l with
    | nil => intro acc ha; exact ⟨List.Perm.refl _, ha⟩
    | cons p r ih =>
      intro acc ha
      obtain ⟨h1, h2⟩ := ih (insF acc p) (insF_srt acc p ha)
      refine ⟨h1.trans (((insF_perm acc p).append_left r).trans ?_), h2⟩
      exact List.perm_middle
  have := hh l [] (fun i i' _ h2 => by simp at h2)
  rw [List.append_nil] at this
  exact this
theorem Rel.list_eq {M : IpM} {R : RfM} (h : Rel M R) {l : List Int} (hl : KeysIn M.byA l) : listF M l = rlistF R.pods := by
  obtain ⟨hperm, hsrt⟩ := rlistF_all R.pods
  have hnd : ((rlistF R.pods).map (·.2)).Nodup := (hperm.map (·.2)).nodup_iff.2 h.na
  have hlnd : l.Nodup := hl.1.imp (fun hab e => by omega)
  have hsort : ((rlistF R.pods).map (·.2)).Pairwise (· ≤ ·) := by
    rw [List.pairwise_iff_getElem]
    intro i j hi hj hij
    rw [List.length_map] at hi hj
    have hs := hsrt i j hij hj
    simpa [podAt, List.getD_eq_getElem?_getD, List.getElem?_eq_getElem hi, List.getElem?_eq_getElem hj] using hs
  have hpe : ((rlistF R.pods).map (·.2)).Perm l := by
    refine (List.perm_ext_iff_of_nodup hnd hlnd).2 fun x => ?_
    rw [hl.2 x, List.mem_map]
    constructor
    · rintro ⟨p, hp, rfl⟩
      rw [hperm.mem_iff] at hp
      exact ⟨(h.pin p hp).1, (h.pin p hp).2, h.hasA p hp⟩
    · rintro ⟨_, _, hx⟩
      obtain ⟨t, ht⟩ := Option.ne_none_iff_exists'.1 hx
      exact ⟨_, hperm.mem_iff.2 (h.byA x t ht).2.2.2, rfl⟩
  have heq : (rlistF R.pods).map (·.2) = l := List.Perm.eq_of_pairwise (le := fun a b => a ≤ b) (fun a b _ _ h1 h2 => Int.le_antisymm h1 h2) hsort (hl.1.imp (fun hab => Int.le_of_lt hab)) hpe
  have hpod : ∀ p, p ∈ rlistF R.pods → podF M p.2 = p := fun p hp => by
    rw [hperm.mem_iff] at hp
    obtain ⟨t, ht⟩ := Option.ne_none_iff_exists'.1 (h.hasA p hp)
    have hm := (h.byA _ t ht).2.2.2
    rw [podF, ht]
    exact nodup_map_inj h.na hm hp rfl
  rw [← heq, listF, List.map_map]
  conv => rhs; rw [← List.map_id (rlistF R.pods)]
  exact List.map_congr_left fun p hp => hpod p hp
/-- what is asked of a subnet -/
def Good (a l : Int) : Prop := 1 ≤ l ∧ l ≤ 30 ∧ a % sizeF l = 0
theorem new_bad_any (w : World) (a l : Int) (h0 : 0 ≤ a) (h1 : a < 4294967296) (hb : ¬ Good a l) :
    Calls Try.prog 20 #[.agg #[.int .u32 a, .int .i64 l]] w fun e w' => e = .returned (.tuple #[.pointer none, .int .i64 151]) ∧ Below w.heap.size w w' := by
  have hs := span_all a l h0 h1
  by_cases c : l < 0 ∨ 32 < l
  · rw [if_pos c] at hs
    exact new_bad 1 w a l 0 0 11 hs (.inr (by omega))
  · rw [if_neg c] at hs
    by_cases d : a % sizeF l = 0
    · rw [if_pos d] at hs
      refine new_bad 1 w a l _ _ 0 hs (.inr ?_)
      rcases Int.lt_or_le l 1 with q | q
      · exact .inl q
      · rcases Int.lt_or_le 30 l with q2 | q2
        · exact .inr q2
        · exact absurd ⟨q, q2, d⟩ hb
    · rw [if_neg d] at hs
      exact new_bad 1 w a l 0 0 12 hs (.inl (by decide))
theorem rnew_bad_any (w : World) (a l : Int) (h0 : 0 ≤ a) (h1 : a < 4294967296) (hb : ¬ Good a l) :
    Calls Try.prog 35 #[.agg #[.int .u32 a, .int .i64 l]] w fun e w' => e = .returned (.tuple #[.pointer none, .int .i64 151]) ∧ Below w.heap.size w w' := by
  by_cases c : l < 1 ∨ l > 30
  · exact rnew_len w a l c
  · refine (rnew w a l (by omega) (by omega) h0 h1).mono ?_
    rintro e w' ⟨hB, ⟨_, rfl⟩ | ⟨hd, _⟩⟩
    · exact ⟨rfl, hB⟩
    · exact absurd ⟨by omega, by omega, hd⟩ hb
theorem new_good (w : World) (a l : Int) (h0 : 0 ≤ a) (h1 : a < 4294967296) (hg : Good a l) :
    Calls Try.prog 20 #[.agg #[.int .u32 a, .int .i64 l]] w fun e w' => ∃ B b1 b2, e = .returned (.tuple #[.pointer (some ⟨B, 0, none⟩), .int .i64 0]) ∧ IpS w' B b1 b2 (.slice none 0 0) (.slice none 0 0) (newM a l (a + sizeF l - 1)) ∧ Below w.heap.size w w' ∧ ∀ b, b ∈ IpF B b1 b2 (.slice none 0 0) (.slice none 0 0) → w.heap.size ≤ b := by
  obtain ⟨g0, g1, g2⟩ := hg
  have hr := Rel.new g0 g1 h0 h1 g2
  have hs := span_all a l h0 h1
  rw [if_neg (by omega), if_pos g2] at hs
  have hsz : 4 ≤ sizeF l := hr.sz
  have htop : a + sizeF l ≤ 4294967296 := hr.top
  exact new_ok 1 w a l a _ hs g0 g1 h0 (by omega) (by omega) rfl
theorem rnew_good (w : World) (a l : Int) (h0 : 0 ≤ a) (h1 : a < 4294967296) (hg : Good a l) :
    Calls Try.prog 35 #[.agg #[.int .u32 a, .int .i64 l]] w fun e w' => ∃ B, e = .returned (.tuple #[.pointer (some ⟨B, 0, none⟩), .int .i64 0]) ∧ RfS w' B (.slice none 0 0) (rnewM a l) ∧ w.heap.size ≤ B ∧ Below w.heap.size w w' := by
  refine (rnew w a l hg.1 hg.2.1 h0 h1).mono ?_
  rintro e w' ⟨hB, ⟨hd, _⟩ | ⟨_, B, rfl, hS, hle⟩⟩
  · exact absurd hg.2.2 hd
  · exact ⟨B, rfl, hS, hle, hB⟩
/-- the two subnets in memory, alike, with n pods at the most -/
def St (w : World) (B B' n : Nat) (F : List Nat) : Prop := ∃ b1 b2 vn vs M vp R, IpS w B b1 b2 vn vs M ∧ RfS w B' vp R ∧ Rel M R ∧ R.pods.length ≤ n ∧ (∀ b, b ∈ IpF B b1 b2 vn vs → b ∉ RfF B' vp) ∧ F = IpF B b1 b2 vn vs ++ RfF B' vp
theorem St.turn {w w' : World} {B B' n : Nat} {F G : List Nat} (h : St w B B' n F) (ht : Turn w w' G) (hd : ∀ b, b ∈ F → b ∉ G) : St w' B B' n F := by
  obtain ⟨b1, b2, vn, vs, M, vp, R, h1, h2, h3, h4, h5, rfl⟩ := h
  exact ⟨b1, b2, vn, vs, M, vp, R, h1.turn ht (fun b hb => hd b (List.mem_append_left _ hb)), h2.turn ht (fun b hb => hd b (List.mem_append_right _ hb)), h3, h4, h5, rfl⟩
theorem St.lt {w : World} {B B' n : Nat} {F : List Nat} (h : St w B B' n F) : ∀ b, b ∈ F → b < w.heap.size := by
  obtain ⟨b1, b2, vn, vs, M, vp, R, h1, h2, h3, h4, h5, rfl⟩ := h
  intro b hb
  rcases List.mem_append.1 hb with hb | hb
  · exact h1.lt b hb
  · exact h2.lt b hb
theorem St.below {w w' : World} {B B' n : Nat} {F : List Nat} (h : St w B B' n F) (ht : Below w.heap.size w w') : St w' B B' n F := h.turn (Turn.of_below ht []) (fun _ _ hb => by cases hb)
set_option maxHeartbeats 8000000 in
set_option maxRecDepth 100000 in
theorem both_bad (w : World) (a l : Int) (h0 : 0 ≤ a) (h1 : a < 4294967296) (hb : ¬ Good a l) :
    Calls Try.prog 15 #[.agg #[.int .u32 a, .int .i64 l]] w fun e w' => e = .returned (.tuple #[.pointer none, .pointer none, .bool true]) ∧ Below w.heap.size w w' := by
  have hn := Aside0.mk (fun w => new_bad_any w a l h0 h1 hb)
  have hr := Aside0.mk (fun w => rnew_bad_any w a l h0 h1 hb)
  go_enter Try.func15, Try.ntmps15
  go_wp2_with (first | (go_at_call 20; refine (hn.out _).mono ?_; rintro e_ w1 ⟨rfl, hb1⟩
                        have kb := blk_below (blk_new w (.cells #[.int .u32 a, .int .i64 l] 25)) hb1
                        have k0 : w1.cell? ⟨w.heap.size, 0, none⟩ = some (.int .u32 a) := blk_cell kb 0
                        have k1 : w1.cell? ⟨w.heap.size, 1, none⟩ = some (.int .i64 l) := blk_cell kb 1
                        have HB1 := Aside0.mk (below_step (below_alloc (Below.refl _ _) _) hb1)
                        clear hb1 kb)
                     | (go_at_call 35; refine (hr.out _).mono ?_; rintro e_ w2 ⟨rfl, hb2⟩; have HB2 := Aside0.mk (below_step HB1.out hb2); clear hb2) | go_in)
  go_ret3
  exact ⟨rfl, HB2.out⟩
set_option maxHeartbeats 8000000 in
set_option maxRecDepth 100000 in
theorem both_good (w : World) (a l : Int) (h0 : 0 ≤ a) (h1 : a < 4294967296) (hg : Good a l) :
    Calls Try.prog 15 #[.agg #[.int .u32 a, .int .i64 l]] w fun e w' => ∃ B B' F, e = .returned (.tuple #[.pointer (some ⟨B, 0, none⟩), .pointer (some ⟨B', 0, none⟩), .bool true]) ∧ St w' B B' 0 F ∧ Below w.heap.size w w' ∧ ∀ b, b ∈ F → w.heap.size ≤ b := by
  have hrel := Aside0.mk (Rel.new hg.1 hg.2.1 h0 h1 hg.2.2)
  have hn := Aside0.mk (fun w => new_good w a l h0 h1 hg)
  have hr := Aside0.mk (fun w => rnew_good w a l h0 h1 hg)
  clear hg
  go_enter Try.func15, Try.ntmps15
  go_wp2_with (first | (go_at_call 20; refine (hn.out _).mono ?_; rintro e_ w1 ⟨B, b1, b2, rfl, hS, hb1, hF⟩
                        have kb := blk_below (blk_new w (.cells #[.int .u32 a, .int .i64 l] 25)) hb1
                        have k0 : w1.cell? ⟨w.heap.size, 0, none⟩ = some (.int .u32 a) := blk_cell kb 0
                        have k1 : w1.cell? ⟨w.heap.size, 1, none⟩ = some (.int .i64 l) := blk_cell kb 1
                        have HB1 := Aside0.mk (below_step (below_alloc (Below.refl _ _) _) hb1)
                        have HS := Aside0.mk hS
                        have HF := Aside0.mk (fun b hb => Nat.le_trans (by rw [World.size_alloc]; omega : w.heap.size ≤ _) (hF b hb))
                        clear hb1 kb hS hF)
                     | (go_at_call 35; refine (hr.out _).mono ?_; rintro e_ w2 ⟨B', rfl, hR, hB', hb2⟩; have HB2 := Aside0.mk (below_step HB1.out hb2); have HS2 := Aside0.mk (HS.out.below hb2); have HR := Aside0.mk hR; have HLE := Aside0.mk hB'; clear hb2 hR hB') | go_in)
  go_ret3
  have hz := HB1.out.size
  have hle := HLE.out
  refine ⟨B, B', _, rfl, ⟨b1, b2, _, _, _, _, _, HS2.out, HR.out, hrel.out, Nat.le_refl _, fun b hb hb2 => ?_, rfl⟩, HB2.out, fun b hb => ?_⟩
  · have := HS.out.lt b hb
    simp only [RfF, Value.ownBlock, Option.toList_none, List.mem_cons, List.not_mem_nil, or_false] at hb2
    omega
  · rcases List.mem_append.1 hb with hb | hb
    · exact HF.out b hb
    · simp only [RfF, Value.ownBlock, Option.toList_none, List.mem_cons, List.not_mem_nil, or_false] at hb
      omega
end Go.Proofs.Ytgabkifojnkbkaa.Ip
