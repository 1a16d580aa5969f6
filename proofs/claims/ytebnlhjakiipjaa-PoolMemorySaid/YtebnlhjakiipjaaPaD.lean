/- Take walked. Conditions: what a pool's numbers are good for; the kept ones rise. Take walked. Conditions: what a pool's numbers are good for; the kept ones rise. Rows of prefixes whose content is known: what an append leaves. Plain words over the kit's laws. Taken walked: the numbers of the runs, rising. Conditions: what a pool's numbers are good for. Room walked: the row's length, less what is taken of it, less the kept ones of it that are not taken. Conditions: what a pool's numbers are good for. -/
import Derived.Test.YtebnlhjakiipjaaPaC
import Derived.WalkMore
set_option linter.unusedVariables false
set_option linter.unusedSimpArgs false
namespace Go.Proofs.Ytebnlhjakiipjaa.Pl
open Go.RowKit Go.Maps Go.WideMaps Go.MapKept Go.Proofs.YtebnlhjakiipjaaW.PrintWords Go.Proofs.YtebnlhjakiipjaaW.PrintMore Go.Proofs.YtebnlhjakiipjaaW.PrintLast Go.Proofs.Ytebnlhjakiipjaa.PPlf
theorem kept_get {w : World} {b : Nat} {vk : Value} {bm : Nat} {vr : Value} {M : Pm} {R : List Run} (hS : PlS w b vk bm vr M R) {j : Nat} (hj : j < M.kept.length) : ∃ g c, vk = .slice (some ⟨g, 0, none⟩) M.kept.length c ∧ w.cell? ⟨g, j, none⟩ = some (.int .i64 (M.kept.getD j 0)) := by
  obtain ⟨g, c, rfl, _, _⟩ := hS.rk.form (by omega)
  have hg : (M.kept.map (Value.int .i64))[j]? = some (.int .i64 (M.kept.getD j 0)) := by
    rw [List.getElem?_map, List.getElem?_eq_getElem hj, List.getD_eq_getElem?_getD, List.getElem?_eq_getElem hj]; rfl
  have kc := hS.rk.cells (g := g) rfl _ _ hg
  rw [add_plain] at kc
  exact ⟨g, c, rfl, kc⟩
set_option maxHeartbeats 4000000 in
set_option maxRecDepth 100000 in
theorem take_less (w : World) (b : Nat) (vk : Value) (bm : Nat) (vr : Value) (M : Pm) (R : List Run) (n : Int) (p q : Nat) (hS : PlS w b vk bm vr M R) (hp : w.cell? ⟨p, 0, none⟩ = some (.pointer (some ⟨b, 0, none⟩))) (hq : w.cell? ⟨q, 0, none⟩ = some (.int .i64 n)) (i : Nat) (hi : i < M.kept.length) (m : Nat) :
    Calls Try.prog 40 #[.int .i64 (i : Int), .pointer (some ⟨p, 0, none⟩), .pointer (some ⟨q, 0, none⟩)] (w.drewN m) fun e w' => e = .returned (.bool (decide (M.kept.getD i 0 ≥ n))) ∧ ∃ q, w' = w.drewN q := by
  obtain ⟨g, cap, rfl, kc⟩ := kept_get hS hi
  have kb := blk_cell hS.blk 5
  have kc' : (w.drewN m).cell? ⟨g, i, none⟩ = some (.int .i64 (M.kept.getD i 0)) := kc
  have kb' : (w.drewN m).cell? ⟨b, 5, none⟩ = some (.slice (some ⟨g, 0, none⟩) M.kept.length cap) := kb
  have hp' : (w.drewN m).cell? ⟨p, 0, none⟩ = some (.pointer (some ⟨b, 0, none⟩)) := hp
  have hq' : (w.drewN m).cell? ⟨q, 0, none⟩ = some (.int .i64 n) := hq
  have hii : (i : Int) < (M.kept.length : Int) := by omega
  generalize M.kept.getD i 0 = t at *
  obtain ⟨W, hW⟩ : ∃ W, W = w.drewN m := ⟨_, rfl⟩
  rw [← hW] at kc' kb' hp' hq' ⊢
  have HW := Aside0.mk hW
  clear hW kc kb hp hq hS
  go_enter Try.func40, Try.ntmps40
  go_wp2_with fail
  go_quiet (fail)
  go_wp2_with fail
  go_ret
  refine ⟨rfl, m + nq, ?_⟩
  rw [HW.out, World.drewN_drewN]
/-- the kept ones rise -/
def Pm.Rise (M : Pm) : Prop := M.kept.Pairwise (· < ·) ∧ M.kept.length ≤ 1024
theorem Pm.Rise.lt {M : Pm} (h : M.Rise) {i j : Nat} (hij : i < j) (hj : j < M.kept.length) : M.kept.getD i 0 < M.kept.getD j 0 := by
  have := List.pairwise_iff_getElem.1 h.1 i j (by omega) hj hij
  rw [List.getD_eq_getElem?_getD, List.getD_eq_getElem?_getD, List.getElem?_eq_getElem (by omega), List.getElem?_eq_getElem hj]
  exact this
theorem Pm.Rise.le {M : Pm} (h : M.Rise) {i j : Nat} (hij : i ≤ j) (hj : j < M.kept.length) : M.kept.getD i 0 ≤ M.kept.getD j 0 := by
  rcases Nat.lt_or_eq_of_le hij with h1 | h1
  · have := h.lt h1 hj; omega
  · subst h1; exact Int.le_refl _
theorem kept_mem {l : List Int} {x : Int} : x ∈ l ↔ ∃ j, j < l.length ∧ l.getD j 0 = x := by
  constructor
  · intro h
    obtain ⟨j, hj, e⟩ := List.getElem_of_mem h
    exact ⟨j, hj, by rw [List.getD_eq_getElem?_getD, List.getElem?_eq_getElem hj]; exact e⟩
  · rintro ⟨j, hj, e⟩
    rw [List.getD_eq_getElem?_getD, List.getElem?_eq_getElem hj] at e
    exact e ▸ List.getElem_mem hj
/-- what Take has behind it: all of the row below n is gone -/
structure Tk (M : Pm) (R : List Run) (n : Int) (i j : Nat) : Prop where
  at_ : At R n i
  jl : j ≤ M.kept.length
  jk : ∀ k, k < j → M.kept.getD k 0 < n
  lo : M.mn ≤ n
  gone : ∀ x, M.mn ≤ x → x < n → InR R x ∨ x ∈ M.kept
theorem Tk.run {M : Pm} {R : List Run} {n : Int} {i j : Nat} (h : Tk M R n i j) (hi : i < R.length) (hf : (R.getD i (0, 0)).1 ≤ n) : n ≤ (R.getD i (0, 0)).2 ∧ Tk M R ((R.getD i (0, 0)).2 + 1) (i + 1) j := by
  have hw := h.at_.part.wf
  rw [List.take_append_drop] at hw
  have hd : R.drop i = R.getD i (0, 0) :: R.drop (i + 1) := by
    rw [List.drop_eq_getElem_cons hi, List.getD_eq_getElem?_getD, List.getElem?_eq_getElem hi]; rfl
  have ht := take_split hi
  have hle := h.at_.part.hi (R.getD i (0, 0)) (by rw [hd]; exact List.mem_cons_self)
  have hmem : R.getD i (0, 0) ∈ R := by
    rw [List.getD_eq_getElem?_getD, List.getElem?_eq_getElem hi]; exact List.getElem_mem hi
  refine ⟨hle, ⟨⟨by omega, ⟨by rw [List.take_append_drop]; exact hw, fun a ha => ?_, fun c hc => ?_⟩⟩, h.jl, fun k hk => by have := h.jk k hk; omega, by have := h.lo; omega, fun x hx0 hx1 => ?_⟩⟩
  · rw [ht] at ha
    rcases List.mem_append.1 ha with ha | ha
    · have := h.at_.part.lo a ha; omega
    · rw [List.mem_singleton] at ha; subst ha; omega
  · have hw2 := (Wf.app.1 h.at_.part.wf).2.1
    rw [hd] at hw2
    have h3 := (Wf.cons.1 hw2).2.2 c hc
    have h4 := (Wf.cons.1 hw2).2.1.1 c hc
    omega
  · by_cases hxn : x < n
    · exact h.gone x hx0 hxn
    · exact .inl ⟨_, hmem, by omega, by omega⟩
theorem Tk.skip {M : Pm} {R : List Run} {n : Int} {i j : Nat} (h : Tk M R n i j) (hj : j < M.kept.length) (hk : M.kept.getD j 0 < n) : Tk M R n i (j + 1) :=
  ⟨h.at_, hj, fun k hk2 => by
    rcases Nat.lt_or_eq_of_le (Nat.le_of_lt_succ hk2) with h1 | h1
    · exact h.jk k h1
    · subst h1; exact hk, h.lo, h.gone⟩
theorem Tk.kept {M : Pm} {R : List Run} {n : Int} {i j : Nat} (h : Tk M R n i j) (hn : ¬ (i < R.length ∧ (R.getD i (0, 0)).1 ≤ n)) (hj : j < M.kept.length) (hk : M.kept.getD j 0 = n) : Tk M R (n + 1) i (j + 1) := by
  have hw := h.at_.part.wf
  rw [List.take_append_drop] at hw
  refine ⟨⟨h.at_.le, ⟨by rw [List.take_append_drop]; exact hw, fun a ha => by have := h.at_.part.lo a ha; omega, fun c hc => ?_⟩⟩, hj, fun k hk2 => ?_, by have := h.lo; omega, fun x hx0 hx1 => ?_⟩
  · have hi : i < R.length := by
      rcases Nat.lt_or_ge i R.length with z | z
      · exact z
      · rw [List.drop_eq_nil_of_le z] at hc; cases hc
    have hd : R.drop i = R.getD i (0, 0) :: R.drop (i + 1) := by
      rw [List.drop_eq_getElem_cons hi, List.getD_eq_getElem?_getD, List.getElem?_eq_getElem hi]; rfl
    have hw2 := (Wf.app.1 h.at_.part.wf).2.1
    rw [hd] at hw2 hc
    rcases List.mem_cons.1 hc with hc | hc
    · subst hc
      have := (Wf.cons.1 hw2).1
      omega
    · have h3 := (Wf.cons.1 hw2).2.2 c hc
      have h4 := (Wf.cons.1 hw2).2.1.1 c hc
      have := (Wf.cons.1 hw2).1
      omega
  · rcases Nat.lt_or_eq_of_le (Nat.le_of_lt_succ hk2) with h1 | h1
    · have := h.jk k h1; omega
    · subst h1; omega
  · by_cases hxn : x < n
    · exact h.gone x hx0 hxn
    · obtain rfl : x = n := by omega
      exact .inr (kept_mem.2 ⟨j, hj, hk⟩)
/-- n is free -/
theorem Tk.free {M : Pm} {R : List Run} {n : Int} {i j : Nat} (h : Tk M R n i j) (hR : M.Rise) (hn : ¬ (i < R.length ∧ (R.getD i (0, 0)).1 ≤ n)) (hj : ¬ (j < M.kept.length ∧ M.kept.getD j 0 ≤ n)) : ¬ InR R n ∧ n ∉ M.kept := by
  refine ⟨fun hc => hn ?_, fun hc => ?_⟩
  · have := h.at_.inn_iff.2 hc
    simp only [inn, Bool.and_eq_true, decide_eq_true_eq] at this
    exact this
  · obtain ⟨k, hk, e⟩ := kept_mem.1 hc
    by_cases hkj : k < j
    · have := h.jk k hkj; omega
    · have := hR.le (i := j) (j := k) (by omega) hk
      exact hj ⟨by omega, by omega⟩
/-- what Take leaves -/
def TakePost (w : World) (b : Nat) (vk : Value) (bm : Nat) (vr : Value) (M : Pm) (R : List Run) (e : Ending) (w' : World) : Prop :=
  (∃ n, M.mn ≤ n ∧ n ≤ M.mx ∧ n ∉ M.kept ∧ ¬ InR R n ∧ (∀ x, M.mn ≤ x → x < n → InR R x ∨ x ∈ M.kept) ∧ e = .returned (.tuple #[.agg #[.int .u32 (n * sizeF M.s), .int .i64 M.s], .int .i64 0]) ∧ One w b vk bm vr M R n w') ∨
  ((∀ x, M.mn ≤ x → x ≤ M.mx → InR R x ∨ x ∈ M.kept) ∧ e = .returned (.tuple #[.agg #[.int .u32 0, .int .i64 0], .int .i64 4]) ∧ Below w.heap.size w w')
/-- the row's numbers are subnets' -/
structure Pm.Row (M : Pm) : Prop where
  mn0 : 0 ≤ M.mn
  mx1 : M.mx * sizeF M.s < 4294967296
end Go.Proofs.Ytebnlhjakiipjaa.Pl

set_option linter.unusedVariables false
set_option linter.unusedSimpArgs false
namespace Go.Proofs.Ytebnlhjakiipjaa.Pl
open Go.RowKit Go.Maps Go.WideMaps Go.MapKept Go.Proofs.YtebnlhjakiipjaaW.PrintWords Go.Proofs.YtebnlhjakiipjaaW.PrintMore Go.Proofs.YtebnlhjakiipjaaW.PrintLast Go.Proofs.Ytebnlhjakiipjaa.PPlf
/-- Take's boxes: p, what is handed back, n -/
structure Tb (w0 : World) (b : Nat) (vk : Value) (bm : Nat) (vr : Value) (M : Pm) (R : List Run) (n : Int) (w : World) : Prop where
  pl : PlS w b vk bm vr M R
  bp : w.heap[w0.heap.size]? = some (.cells #[.pointer (some ⟨b, 0, none⟩)] 31 (0, 0))
  br : w.heap[w0.heap.size + 1]? = some (.cells #[.int .u32 0, .int .i64 0] 27 (0, 0))
  bn : w.heap[w0.heap.size + 1 + 1]? = some (.cells #[.int .i64 n] 2 (0, 0))
  bel : Below w0.heap.size w0 w
section
variable {w0 w w' : World} {b : Nat} {vk : Value} {bm : Nat} {vr : Value} {M : Pm} {R : List Run} {n m : Int}
theorem Tb.drewN (h : Tb w0 b vk bm vr M R n w) (k : Nat) : Tb w0 b vk bm vr M R n (w.drewN k) := ⟨h.pl.drewN k, h.bp, h.br, h.bn, pw_below_drewN h.bel k⟩
theorem Tb.below (h : Tb w0 b vk bm vr M R n w) (hb : Below w.heap.size w w') : Tb w0 b vk bm vr M R n w' := ⟨h.pl.below hb, blk_below h.bp hb, blk_below h.br hb, blk_below h.bn hb, below_step h.bel hb⟩
theorem Tb.put (h : Tb w0 b vk bm vr M R n w) (hp : PlS w0 b vk bm vr M R) (m : Int) : Tb w0 b vk bm vr M R m (w.setCell ⟨w0.heap.size + 1 + 1, 0, none⟩ (.int .i64 m)) := by
  have hset : ∀ k, k ≠ w0.heap.size + 1 + 1 → (w.setCell ⟨w0.heap.size + 1 + 1, 0, none⟩ (.int .i64 m)).heap[k]? = w.heap[k]? := fun k hk => Below.heap_setCell w ⟨w0.heap.size + 1 + 1, 0, none⟩ _ k hk
  refine ⟨h.pl.step (fun k hk => hset k (by have := hp.lt k hk; omega)), (hset _ (by omega)).trans h.bp, (hset _ (by omega)).trans h.br, blk_put h.bn 0 (.int .i64 m) rfl, below_set h.bel (by omega)⟩
end
/-- behind lay: the boxes, the runs with one number more -/
structure Td (w0 : World) (b : Nat) (vk : Value) (bm : Nat) (vr : Value) (M : Pm) (R : List Run) (n : Int) (vr' : Value) (R' : List Run) (w : World) : Prop where
  pl : PlS w b vk bm vr' M R'
  bp : w.heap[w0.heap.size]? = some (.cells #[.pointer (some ⟨b, 0, none⟩)] 31 (0, 0))
  br : w.heap[w0.heap.size + 1]? = some (.cells #[.int .u32 0, .int .i64 0] 27 (0, 0))
  bn : w.heap[w0.heap.size + 1 + 1]? = some (.cells #[.int .i64 n] 2 (0, 0))
  mem : ∀ x, InR R' x ↔ InR R x ∨ x = n
  turn : Turn w0 w (b :: vr.ownBlock.toList)
  nb : NB vr vr' w0
  ne : ∀ k, vr'.ownBlock = some k → k ≠ w0.heap.size + 1
def Tdx (w0 : World) (b : Nat) (vk : Value) (bm : Nat) (vr : Value) (M : Pm) (R : List Run) (n : Int) (w : World) : Prop := ∃ vr' R', Td w0 b vk bm vr M R n vr' R' w
section
variable {w0 w w' : World} {b : Nat} {vk : Value} {bm : Nat} {vr : Value} {M : Pm} {R : List Run} {n m : Int}
theorem Tb.laid (h : Tb w0 b vk bm vr M R n w) (hp : PlS w0 b vk bm vr M R) (ho : One w b vk bm vr M R n w') : Tdx w0 b vk bm vr M R n w' := by
  obtain ⟨vr', R', hP, hx, hT, hN⟩ := ho
  have hF : ∀ k, k ∈ b :: vr.ownBlock.toList → k < w0.heap.size := fun k hk => hp.lt k (by
    rcases List.mem_cons.1 hk with e | hk
    · subst e; exact List.mem_cons_self
    · exact List.mem_cons_of_mem _ (List.mem_cons_of_mem _ (List.mem_append.2 (.inr hk))))
  have keep : ∀ k o, w.heap[k]? = some o → w0.heap.size ≤ k → w'.heap[k]? = some o := fun k o ho hk => (hT.block k (blk_lt ho) (fun hm => by have := hF k hm; omega)).trans ho
  have hsz := blk_lt h.bn
  have hlt := hP.lt
  refine ⟨vr', R', hP, keep _ _ h.bp (Nat.le_refl _), keep _ _ h.br (by omega), keep _ _ h.bn (by omega), hx, (Turn.of_below h.bel _).trans hT (fun k hk => .inl hk), fun k hk => ?_, fun k hk e => ?_⟩
  · rcases hN k hk with h1 | h1
    · exact .inl h1
    · exact .inr (Nat.le_trans h.bel.size h1)
  · rcases hN k hk with h1 | h1
    · have := hp.lt k (by simp [PlF, h1]); omega
    · omega
theorem Tdx.below (h : Tdx w0 b vk bm vr M R n w) (hb : Below w.heap.size w w') : Tdx w0 b vk bm vr M R n w' := by
  obtain ⟨vr', R', h⟩ := h
  exact ⟨vr', R', h.pl.below hb, blk_below h.bp hb, blk_below h.br hb, blk_below h.bn hb, h.mem, h.turn.trans (Turn.of_below hb []) (fun k hk => by cases hk), h.nb, h.ne⟩
theorem Tdx.shape (h : Tdx w0 b vk bm vr M R n w) : ∃ vr' R', Td w0 b vk bm vr M R n vr' R' w ∧ PlS w b vk bm vr' M R' ∧ w.heap[w0.heap.size]? = some (.cells #[.pointer (some ⟨b, 0, none⟩)] 31 (0, 0)) ∧ w.heap[w0.heap.size + 1 + 1]? = some (.cells #[.int .i64 n] 2 (0, 0)) ∧ w.heap[w0.heap.size + 1]? = some (.cells #[.int .u32 0, .int .i64 0] 27 (0, 0)) := by
  obtain ⟨vr', R', h⟩ := h
  exact ⟨vr', R', h, h.pl, h.bp, h.bn, h.br⟩
theorem Tdx.fin (h : Tdx w0 b vk bm vr M R n w) (hp : PlS w0 b vk bm vr M R) {u1 u2 : Value} : One w0 b vk bm vr M R n ((w.setCell ⟨w0.heap.size + 1, 0, none⟩ u1).setCell ⟨w0.heap.size + 1, 1, none⟩ u2) := by
  obtain ⟨vr', R', h⟩ := h
  have hset : ∀ k, k ≠ w0.heap.size + 1 → ((w.setCell ⟨w0.heap.size + 1, 0, none⟩ u1).setCell ⟨w0.heap.size + 1, 1, none⟩ u2).heap[k]? = w.heap[k]? := fun k hk => (Below.heap_setCell _ ⟨w0.heap.size + 1, 1, none⟩ _ k hk).trans (Below.heap_setCell w ⟨w0.heap.size + 1, 0, none⟩ _ k hk)
  refine ⟨vr', R', h.pl.step (fun k hk => hset k ?_), h.mem, (h.turn.set (p := ⟨w0.heap.size + 1, 0, none⟩) (.inr (by show w0.heap.size ≤ w0.heap.size + 1; omega)) _).set (p := ⟨w0.heap.size + 1, 1, none⟩) (.inr (by show w0.heap.size ≤ w0.heap.size + 1; omega)) _, h.nb⟩
  simp only [PlF, List.mem_cons, List.mem_append, Option.mem_toList, Option.mem_def] at hk
  rcases hk with rfl | rfl | hk | hk
  · have := blk_lt hp.blk; omega
  · have := hp.mp.lt; omega
  · have := own_lt hp.rk k hk; omega
  · exact h.ne k hk
end
set_option maxHeartbeats 16000000 in
set_option maxRecDepth 100000 in
theorem take17 (w : World) (b : Nat) (vk : Value) (bm : Nat) (vr : Value) (M : Pm) (R : List Run) (hok : M.Ok) (hrow : M.Row) (hK : M.Rise) (hR : Rng M R) (hS : PlS w b vk bm vr M R) :
    Calls Try.prog 17 #[.pointer (some ⟨b, 0, none⟩)] w fun e w' => TakePost w b vk bm vr M R e w' := by
  obtain ⟨W1, hW1⟩ : ∃ W, W = ((w.alloc (.cells #[.pointer (some ⟨b, 0, none⟩)] 31)).alloc (.cells #[.int .u32 0, .int .i64 0] 27)).alloc (.cells #[.int .i64 M.mn] 2) := ⟨_, rfl⟩
  have HB0 : Aside0 (Below w.heap.size w W1) := ⟨by rw [hW1]; exact below_alloc (below_alloc (below_alloc (Below.refl _ _) _) _) _⟩
  have HTb : Aside0 (Tb w b vk bm vr M R M.mn W1) := ⟨⟨hS.below HB0.out, by
      rw [hW1]; exact blk_below (heap_alloc_new w _) (below_alloc (below_alloc (Below.refl _ _) _) _), by
      rw [hW1]
      have h1 := heap_alloc_new (w.alloc (.cells #[.pointer (some ⟨b, 0, none⟩)] 31)) (.cells #[.int .u32 0, .int .i64 0] 27)
      rw [World.size_alloc] at h1
      exact blk_below h1 (below_alloc (Below.refl _ _) _), by
      rw [hW1]
      have h1 := heap_alloc_new ((w.alloc (.cells #[.pointer (some ⟨b, 0, none⟩)] 31)).alloc (.cells #[.int .u32 0, .int .i64 0] 27)) (.cells #[.int .i64 M.mn] 2)
      rw [World.size_alloc, World.size_alloc] at h1
      exact h1, HB0.out⟩⟩
  have kmn := blk_cell (hS.below (below_alloc (below_alloc (Below.refl w.heap.size w) (.cells #[.pointer (some ⟨b, 0, none⟩)] 31)) (.cells #[.int .u32 0, .int .i64 0] 27))).blk 3
  have HW := Aside0.mk hW1
  have HAT := Aside0.mk (fun (W : World) (h : Tb w b vk bm vr M R M.mn W) => at37 W b vk bm vr M R M.mn h.pl)
  have HSE := Aside0.mk (fun (W : World) (h : Tb w b vk bm vr M R M.mn W) => search40 W M.kept.length w.heap.size (w.heap.size + 1 + 1) (fun k => decide (M.kept.getD k 0 ≥ M.mn)) (by have := hK.2; omega) (fun i j hij hj h => by
    simp only [decide_eq_true_eq] at h ⊢
    have := hK.le hij hj
    omega) (fun m i hi => take_less W b vk bm vr M R M.mn _ _ h.pl (blk_cell h.bp 0) (blk_cell h.bn 0) i hi m))
  have HC := Aside0.mk (And.intro hok (And.intro hrow (And.intro hK hR)))
  have HS := Aside0.mk hS
  clear hW1 hok hrow hK hR hS
  go_enter Try.func17, Try.ntmps17
  go_wp2_with fail
  go_step3
  go_wp2_with fail
  rw [← HW.out]
  refine (HAT.out _ HTb.out).mono ?_
  rintro e_ w1 ⟨i0, rfl, hat, hb⟩
  have HT1 := Aside0.mk (HTb.out.below hb)
  have HA1 := Aside0.mk hat
  have k4 := blk_cell HT1.out.pl.blk 5
  have kp := blk_cell HT1.out.bp 0
  obtain ⟨sK, cK, rfl⟩ := own_slice HT1.out.pl.rk
  clear hat hb HTb HB0 HAT kmn HW
  go_wp2_with fail
  refine (HSE.out _ HT1.out).mono ?_
  rintro e_ w2 ⟨j0, rfl, hj, hlo, hhi, hd⟩
  obtain ⟨q, rfl⟩ := hd
  have HT2 := Aside0.mk (HT1.out.drewN q)
  have HTk : Aside0 (Tk M R M.mn i0 j0) := ⟨⟨HA1.out, hj, fun k hk => by have := hlo k hk; simp only [decide_eq_false_iff_not] at this; omega, Int.le_refl _, fun x h0 h1 => by omega⟩⟩
  generalize w1.drewN q = w2 at *
  clear hj hlo hhi HT1 HA1 HSE k4 kp
  go_wp2_with fail
  go_step3
  go_wp2_with fail
  obtain ⟨sR, cR, rfl⟩ := own_slice HT2.out.pl.rr
  have hlen := HC.out.2.2.2.len HC.out.1 HT2.out.pl.wf
  have HLEN := Aside0.mk hlen
  clear hlen
  go_loopg [5, 7] (M.mx + 1 - M.mn).toNat (fun gg vi vj wr => ∃ (n : Int) (i j : Nat), vi = .int .i64 (i : Int) ∧ vj = .int .i64 (j : Int) ∧ gg = (M.mx + 1 - n).toNat ∧ Aside0 (Tk M R n i j) ∧ Aside0 (Tb w b (.slice sK M.kept.length cK) bm (.slice sR R.length cR) M R n wr))
  case atStart => exact ⟨M.mn, i0, j0, rfl, rfl, rfl, HTk, HT2⟩
  case round =>
    clear HTk HT2
    obtain ⟨n, i, j, rfl, rfl, hg, HTk, HT⟩ := hrel
    have HG := Aside0.mk hg
    clear hg
    have kn := blk_cell HT.out.bn 0
    have fn := blk_frozen HT.out.bn 0
    have kp := blk_cell HT.out.bp 0
    have k4 := blk_cell HT.out.pl.blk 4
    have k5 := blk_cell HT.out.pl.blk 5
    have k7 := blk_cell HT.out.pl.blk 7
    by_cases hle : n ≤ M.mx
    · have hleb : decide (n ≤ M.mx) = true := decide_eq_true hle
      have hn0 : 0 ≤ n := by have := HTk.out.lo; have := HC.out.2.1.mn0; omega
      have hn1 : n < 4294967296 := by
        have hs := sizeF_rng HC.out.1.s0 HC.out.1.s1
        have h1 := Int.mul_le_mul_of_nonneg_right hle (show 0 ≤ sizeF M.s by omega)
        exact fits_sub HC.out.1.s0 HC.out.1.s1 hn0 (by have := HC.out.2.1.mx1; omega)
      have HN := Aside0.mk (And.intro hn0 hn1)
      have HLE := Aside0.mk hle
      clear hle hn0 hn1
      go_wp2_with fail
      go_quiet (fail)
      have HLAY := Aside0.mk (fun (W : World) (h : Tb w b (.slice sK M.kept.length cK) bm (.slice sR R.length cR) M R n W) (hf : ¬ InR R n) => lay_one W b _ bm _ M R n HC.out.1 HC.out.2.2.2 h.pl HN.out.1 HN.out.2 hf)
      have HSUB := Aside0.mk (fun (W : World) (h : W.cell? ⟨b, 2, none⟩ = some (.int .i64 M.s)) => subnet41 W b M.s n h HC.out.1.s0 HC.out.1.s1 HN.out.1 (by
        have hs := sizeF_rng HC.out.1.s0 HC.out.1.s1
        have h1 := Int.mul_le_mul_of_nonneg_right HLE.out (show 0 ≤ sizeF M.s by omega)
        have := HC.out.2.1.mx1
        omega))
      have HMo : Aside0 (∀ m, n < m → (M.mx + 1 - m).toNat < gk) := ⟨fun m hm => by have := HG.out; have := HLE.out; omega⟩
      obtain ⟨dec, hdec⟩ : ∃ d : Bool, d = decide (i < R.length ∧ (R.getD i (0, 0)).1 ≤ n) := ⟨_, rfl⟩
      have HD := Aside0.mk hdec
      clear hdec
      go_upto_region 5 with fail
      go_cut [49] (fun v wx => v = .bool dec ∧ ∃ k, wx = wr.drewN k)
      case first =>
        by_cases hi : i < R.length
        · have hii : (i : Int) < (R.length : Int) := by omega
          obtain ⟨g, c, e, _, k1, k2, _, _⟩ := HT.out.pl.run hi
          injection e with e3 e5 e4
          subst e3 e4
          clear e5
          have HDB : Aside0 (dec = decide ((R.getD i (0, 0)).1 ≤ n)) := ⟨by rw [HD.out]; simp [hi]⟩
          generalize (R.getD i (0, 0)).1 = f at *
          clear hi
          go_quiet (fail)
          go_wp2_with fail
          go_meet
          exact ⟨by rw [HDB.out], _, by first | exact World.drewN_drewN _ _ _ | rfl⟩
        · have hii : ¬ (i : Int) < (R.length : Int) := by omega
          have HDB : Aside0 (dec = false) := ⟨by rw [HD.out]; simp [hi]⟩
          have hib : decide ((i : Int) < (R.length : Int)) = false := decide_eq_false hii
          clear hi
          go_quiet (fail)
          go_wp2_with fail
          go_meet
          exact ⟨by rw [HDB.out], _, by first | exact World.drewN_drewN _ _ _ | rfl⟩
      case rest =>
        obtain ⟨rfl, k, rfl⟩ := hcut
        have hwn : IntKind.i64.wrap (n + 1) = n + 1 := by rw [wrap64_id (by have := HN.out; omega) (by have := HN.out; omega)]
        have HWN := Aside0.mk hwn
        clear hwn
        cases hdd : dec with
        | true =>
          -- in a run
          have hd2 : i < R.length ∧ (R.getD i (0, 0)).1 ≤ n := by have := HD.out; rw [hdd] at this; exact of_decide_eq_true this.symm
          obtain ⟨hi, hf⟩ := hd2
          have hii : (i : Int) < (R.length : Int) := by omega
          obtain ⟨g, c, e, _, k1, k2, _, _⟩ := HT.out.pl.run hi
          injection e with e3 e5 e4
          subst e3 e4
          clear e5
          obtain ⟨hru, htk⟩ := HTk.out.run hi hf
          have hmem : InR R (R.getD i (0, 0)).2 := ⟨_, by rw [List.getD_eq_getElem?_getD, List.getElem?_eq_getElem hi]; exact List.getElem_mem hi, by omega, Int.le_refl _⟩
          have hr2 := HC.out.2.2.2 _ hmem
          have hr3 := fits_sub HC.out.1.s0 HC.out.1.s1 hr2.1 hr2.2
          have HTK2 := Aside0.mk htk
          have hwt : IntKind.i64.wrap ((R.getD i (0, 0)).2 + 1) = (R.getD i (0, 0)).2 + 1 := by rw [wrap64_id (by omega) (by omega)]
          have hwi : IntKind.i64.wrap ((i : Int) + 1) = ((i + 1 : Nat) : Int) := by have := HLEN.out; rw [wrap64_id (by omega) (by omega)]; omega
          have HM : Aside0 ((M.mx + 1 - ((R.getD i (0, 0)).2 + 1)).toNat < gk) := ⟨by have := HG.out; have := HLE.out; omega⟩
          have HT3 := Aside0.mk (fun k => (HT.out.drewN k).put HS.out ((R.getD i (0, 0)).2 + 1))
          clear HD hdd
          generalize (R.getD i (0, 0)).2 = t at *
          clear hru htk hmem hr2 hr3 hi hf
          go_wp2_with fail
          go_roundg ((M.mx + 1 - (t + 1)).toNat)
          case measure => have := HM.out; omega
          case rel => exact ⟨t + 1, i + 1, j, rfl, rfl, rfl, HTK2, ⟨HT3.out _⟩⟩
        | false =>
          have HNO : Aside0 (¬ (i < R.length ∧ (R.getD i (0, 0)).1 ≤ n)) := ⟨by have := HD.out; rw [hdd] at this; exact of_decide_eq_false this.symm⟩
          have HT4 := Aside0.mk (HT.out.drewN k)
          generalize wr.drewN k = w5 at *
          clear HD hdd kn fn kp k4 k5 k7 HT
          go_wp2_with fail
          go_loopg [7] (M.kept.length - j) (fun g2 vj wx => ∃ (j : Nat), vj = .int .i64 (j : Int) ∧ g2 = M.kept.length - j ∧ Aside0 (Tk M R n i j) ∧ Aside0 (Tb w b (.slice sK M.kept.length cK) bm (.slice sR R.length cR) M R n wx))
          case atStart => exact ⟨j, rfl, rfl, HTk, HT4⟩
          case round =>
            clear HTk HT4
            obtain ⟨j, rfl, hg2, HTk, HT⟩ := hrel
            have HG2 := Aside0.mk hg2
            clear hg2
            have kn := blk_cell HT.out.bn 0
            have fn := blk_frozen HT.out.bn 0
            have kp := blk_cell HT.out.bp 0
            have k5 := blk_cell HT.out.pl.blk 5
            by_cases hj : j < M.kept.length
            · have hjj : (j : Int) < (M.kept.length : Int) := by omega
              obtain ⟨g, c, e, kk⟩ := kept_get HT.out.pl hj
              injection e with e3 e5 e4
              subst e3 e4
              clear e5
              have HJ := Aside0.mk hj
              have hwj : IntKind.i64.wrap ((j : Int) + 1) = ((j + 1 : Nat) : Int) := by have hl2 : M.kept.length ≤ 1024 := HC.out.2.2.1.2; rw [wrap64_id (by omega) (by omega)]; omega
              have hwj3 : wrap64 (j : Int) = (j : Int) := by have hl2 : M.kept.length ≤ 1024 := HC.out.2.2.1.2; unfold wrap64; omega
              have hjz : 0 ≤ (j : Int) := by omega
              have hwj2 : IntKind.i64.wrap (((j + 1 : Nat) : Int) - 1) = (j : Int) := by rw [show ((j + 1 : Nat) : Int) - 1 = (j : Int) from by omega]; exact wrap64_id (by omega) (by have hl2 : M.kept.length ≤ 1024 := HC.out.2.2.1.2; omega)
              obtain ⟨y, hy⟩ : ∃ y, y = M.kept.getD j 0 := ⟨_, rfl⟩
              rw [← hy] at kk
              have HY := Aside0.mk hy
              clear hy hj
              by_cases hle2 : y ≤ n
              · have hleb2 : decide (y ≤ n) = true := decide_eq_true hle2
                by_cases heq : y = n
                · have heb : (y == n) = true := by simpa using heq
                  have HTK2 := Aside0.mk (HTk.out.kept HNO.out HJ.out (by rw [← HY.out]; exact heq))
                  have hwn := HWN.out
                  have HT3 := Aside0.mk (fun k => (HT.out.drewN k).put HS.out (n + 1))
                  clear heq hle2
                  go_wp2_with fail
                  go_quiet (fail)
                  go_wp2_with fail
                  go_quiet (fail)
                  go_wp2_with fail
                  go_roundg ((M.mx + 1 - (n + 1)).toNat)
                  case measure => exact HMo.out _ (by omega)
                  case rel => exact ⟨n + 1, i, j + 1, rfl, rfl, rfl, HTK2, ⟨HT3.out _⟩⟩
                · have heb : (y == n) = false := by simpa using heq
                  have HTK2 := Aside0.mk (HTk.out.skip HJ.out (by rw [← HY.out]; omega))
                  have HT3 := Aside0.mk (fun k => HT.out.drewN k)
                  clear heq hle2
                  go_wp2_with fail
                  go_quiet (fail)
                  go_wp2_with fail
                  go_quiet (fail)
                  go_wp2_with fail
                  go_roundg (M.kept.length - (j + 1))
                  case measure => have := HG2.out; have := HJ.out; omega
                  case rel => exact ⟨j + 1, rfl, rfl, HTK2, ⟨by first | exact HT3.out _ | exact (HT3.out _).drewN _⟩⟩
              · have hleb2 : decide (y ≤ n) = false := decide_eq_false hle2
                have HFR := Aside0.mk (HTk.out.free HC.out.2.2.1 HNO.out (fun h => hle2 (by rw [HY.out]; exact h.2)))
                clear hle2
                go_wp2_with fail
                go_quiet (fail)
                go_wp2_with fail
                refine (HLAY.out _ (by first | exact HT.out.drewN _ | exact (HT.out.drewN _).drewN _) HFR.out.1).mono ?_
                rintro e_ w6 ⟨rfl, h6⟩
                have H6 := Aside0.mk (Tb.laid (by first | exact HT.out.drewN _ | exact (HT.out.drewN _).drewN _) HS.out h6)
                obtain ⟨vr6, R6, b6, P6, p6, n6, r6⟩ := H6.out.shape
                have kn6 := blk_cell n6 0
                have kp6 := blk_cell p6 0
                have HP6 := Aside0.mk P6
                clear b6 P6 p6 n6 r6 kn kp fn k5 h6
                go_wp2_with fail
                refine (HSUB.out w6 (blk_cell HP6.out.blk 2)).mono ?_
                rintro e_ w7 ⟨rfl, hb7⟩
                have H7 := Aside0.mk (H6.out.below hb7)
                obtain ⟨vr7, R7, b7, P7, p7, n7, r7⟩ := H7.out.shape
                have kr0 := blk_cell r7 0
                have kr1 := blk_cell r7 1
                have fr0 := blk_frozen r7 0
                have fr1 := blk_frozen r7 1
                have hbr := blk_put (blk_put r7 0 (.int .u32 (n * sizeF M.s)) rfl) 1 (.int .i64 M.s) rfl
                have c0 := blk_cell hbr 0
                have c1 := blk_cell hbr 1
                have C01 := Aside0.mk (And.intro c0 c1)
                clear hbr hb7 kn6 kp6 HP6 b7 P7 p7 n7 r7 c0 c1
                go_wp2_with fail
                rw [Exit.noGoto_ret]
                obtain ⟨c0, c1⟩ := C01.out
                refine bodyPost_ret (v := .tuple #[.agg #[.int .u32 (n * sizeF M.s), .int .i64 M.s], .int .i64 0]) ?_ rfl (.inl ⟨n, HTk.out.lo, HLE.out, HFR.out.2, HFR.out.1, HTk.out.gone, rfl, H7.out.fin HS.out⟩)
                simp [results, Try.results17, go_sem, c0, c1]
            · have hjj : decide ((j : Int) < (M.kept.length : Int)) = false := decide_eq_false (by omega)
              have hjn : decide (j < M.kept.length) = false := decide_eq_false hj
              have HFR := Aside0.mk (HTk.out.free HC.out.2.2.1 HNO.out (fun h => hj h.1))
              clear hj
              go_wp2_with fail
              go_quiet (fail)
              go_wp2_with fail
              refine (HLAY.out _ (by first | exact HT.out.drewN _ | exact (HT.out.drewN _).drewN _) HFR.out.1).mono ?_
              rintro e_ w6 ⟨rfl, h6⟩
              have H6 := Aside0.mk (Tb.laid (by first | exact HT.out.drewN _ | exact (HT.out.drewN _).drewN _) HS.out h6)
              obtain ⟨vr6, R6, b6, P6, p6, n6, r6⟩ := H6.out.shape
              have kn6 := blk_cell n6 0
              have kp6 := blk_cell p6 0
              have HP6 := Aside0.mk P6
              clear b6 P6 p6 n6 r6 kn kp fn k5 h6
              go_wp2_with fail
              refine (HSUB.out w6 (blk_cell HP6.out.blk 2)).mono ?_
              rintro e_ w7 ⟨rfl, hb7⟩
              have H7 := Aside0.mk (H6.out.below hb7)
              obtain ⟨vr7, R7, b7, P7, p7, n7, r7⟩ := H7.out.shape
              have kr0 := blk_cell r7 0
              have kr1 := blk_cell r7 1
              have fr0 := blk_frozen r7 0
              have fr1 := blk_frozen r7 1
              have hbr := blk_put (blk_put r7 0 (.int .u32 (n * sizeF M.s)) rfl) 1 (.int .i64 M.s) rfl
              have c0 := blk_cell hbr 0
              have c1 := blk_cell hbr 1
              have C01 := Aside0.mk (And.intro c0 c1)
              clear hbr hb7 kn6 kp6 HP6 b7 P7 p7 n7 r7 c0 c1
              go_wp2_with fail
              rw [Exit.noGoto_ret]
              obtain ⟨c0, c1⟩ := C01.out
              refine bodyPost_ret (v := .tuple #[.agg #[.int .u32 (n * sizeF M.s), .int .i64 M.s], .int .i64 0]) ?_ rfl (.inl ⟨n, HTk.out.lo, HLE.out, HFR.out.2, HFR.out.1, HTk.out.gone, rfl, H7.out.fin HS.out⟩)
              simp [results, Try.results17, go_sem, c0, c1]
    · have hleb : decide (n ≤ M.mx) = false := decide_eq_false hle
      have HLE := Aside0.mk hle
      have kr0 := blk_cell HT.out.br 0
      have kr1 := blk_cell HT.out.br 1
      have fr0 := blk_frozen HT.out.br 0
      have fr1 := blk_frozen HT.out.br 1
      clear hle
      go_wp2_with fail
      go_quiet (fail)
      go_wp2_with fail
      rw [Exit.noGoto_ret]
      have hbr := blk_put (blk_put (show (wr.drewN nq).heap[w.heap.size + 1]? = _ from HT.out.br) 0 (.int .u32 0) rfl) 1 (.int .i64 0) rfl
      have c0 := blk_cell hbr 0
      have c1 := blk_cell hbr 1
      refine bodyPost_ret (v := .tuple #[.agg #[.int .u32 0, .int .i64 0], .int .i64 4]) ?_ rfl (.inr ⟨fun x h0 h1 => HTk.out.gone x h0 (by have := HLE.out; omega), rfl, below_set (below_set (pw_below_drewN HT.out.bel _) (by omega)) (by omega)⟩)
      simp [results, Try.results17, go_sem, c0, c1]
end Go.Proofs.Ytebnlhjakiipjaa.Pl

set_option linter.unusedVariables false
set_option linter.unusedSimpArgs false
namespace Go.Proofs.Ytebnlhjakiipjaa.Pl
open Go.RowKit Go.Maps Go.Proofs.YtebnlhjakiipjaaW.PrintWords Go.Proofs.YtebnlhjakiipjaaW.PrintMore Go.Proofs.YtebnlhjakiipjaaW.PrintLast Go.Proofs.Ytebnlhjakiipjaa.PPlf
/-! ### the cells of a list of prefixes -/
def pfC : List S27 → List Value
  | [] => []
  | x :: r => .int .u32 x.f0 :: .int .i64 x.f1 :: pfC r
theorem pfC_length : ∀ l : List S27, (pfC l).length = l.length * 2
  | [] => rfl
  | x :: r => by simp only [pfC, List.length_cons, pfC_length r]; omega
theorem pfC_append : ∀ a b : List S27, pfC (a ++ b) = pfC a ++ pfC b
  | [], b => rfl
  | x :: r, b => by simp only [pfC, List.cons_append, pfC_append r b]
theorem pfC_cells : ∀ (l : List S27), ∀ u ∈ pfC l, u.oneCell' = true
  | [], u, h => by cases h
  | x :: r, u, h => by
    simp only [pfC, List.mem_cons] at h
    rcases h with rfl | rfl | h
    · rfl
    · rfl
    · exact pfC_cells r u h
theorem pfC_get : ∀ (l : List S27) (i : Nat) (x : S27), l[i]? = some x → (pfC l)[i * 2]? = some (.int .u32 x.f0) ∧ (pfC l)[i * 2 + 1]? = some (.int .i64 x.f1)
  | [], i, x, h => by simp at h
  | y :: r, 0, x, h => by simp at h; subst h; exact ⟨rfl, rfl⟩
  | y :: r, i + 1, x, h => by
    have := pfC_get r i x (by simpa using h)
    rw [show (i + 1) * 2 = i * 2 + 1 + 1 from by omega]
    exact this
theorem pfC_drop : ∀ (l : List S27) (i : Nat), (pfC l).drop (i * 2) = pfC (l.drop i)
  | [], i => by simp [pfC]
  | y :: r, 0 => rfl
  | y :: r, i + 1 => by rw [show (i + 1) * 2 = i * 2 + 1 + 1 from by omega]; simp only [pfC, List.drop_succ_cons]; exact pfC_drop r i
theorem pfC_take : ∀ (l : List S27) (i : Nat), (pfC l).take (i * 2) = pfC (l.take i)
  | [], i => by simp [pfC]
  | y :: r, 0 => rfl
  | y :: r, i + 1 => by rw [show (i + 1) * 2 = i * 2 + 1 + 1 from by omega]; simp only [pfC, List.take_succ_cons, pfC_take r i]
theorem reps_pfC {R : S27 → List Value → Prop} (hR : ∀ x c, R x c → c = [.int .u32 x.f0, .int .i64 x.f1]) : ∀ {xs : List S27} {cs : List Value}, Reps R 2 xs cs → cs = pfC xs
  | [], cs, h => by have := h.1; simp at this; exact this
  | x :: r, cs, h => by
    have h1 := h.1
    have h2 := hR _ _ (h.2 0 x rfl)
    simp only [Nat.zero_mul, List.drop_zero] at h2
    have h3 : Reps R 2 r (cs.drop 2) := ⟨by rw [List.length_drop, h1, List.length_cons]; omega, fun j p hj => by
      have := h.2 (j + 1) p (by simpa using hj)
      rw [List.drop_drop, show 2 + j * 2 = (j + 1) * 2 from by omega]
      exact this⟩
    have h4 := reps_pfC hR h3
    rw [← List.take_append_drop 2 cs, h2, h4]
    rfl
theorem pfC_reps (w : World) : ∀ xs : List S27, Reps (k27.K w) 2 xs (pfC xs) := fun xs => ⟨pfC_length xs, fun j p hj => by
  obtain ⟨a, b⟩ := pfC_get xs j p hj
  obtain ⟨ha, hb⟩ := List.getElem?_eq_some_iff.1 a
  obtain ⟨hc, hd⟩ := List.getElem?_eq_some_iff.1 b
  rw [List.drop_eq_getElem_cons ha, List.drop_eq_getElem_cons hc, hb, hd]
  exact k27_mk w p⟩
/-- a row of the caller's own that holds xs -/
def Row (w : World) (base : Nat) (v : Value) (xs : List S27) : Prop := w.ownsRow base 27 2 v xs.length (pfC xs)
section
variable {w w1 : World} {base : Nat} {v : Value} {xs ys : List S27}
theorem Row.of_R {ok : Nat → Prop} (h : Kd.R k27 27 w base ok v xs) : Row w base v xs := by
  obtain ⟨_, inner, ho, hr⟩ := h
  have e := reps_pfC (fun x c hx => k27_openM hx) hr
  subst e
  exact ho
theorem Row.C (h : Row w base v xs) : ∃ A c, v = .slice A xs.length c ∧ xs.length ≤ c ∧ Kd.C k27 w A xs.length xs := by
  obtain ⟨A, c, e, hC⟩ := own_reads_row h (pfC_reps w xs) rfl
  subst e
  exact ⟨A, c, rfl, own_cap h, hC⟩
theorem Row.low (h : Row w base v xs) : Row w 0 v xs := own_less h (Nat.zero_le _)
theorem Row.step (h : Row w base v xs) (hb : ∀ k, v.ownBlock = some k → w1.heap[k]? = w.heap[k]?) : Row w1 base v xs := own_move h hb
theorem Row.lt (h : Row w base v xs) : ∀ k, v.ownBlock = some k → base ≤ k ∧ k < w.heap.size := fun k hk => ⟨own_base h k hk, own_lt h k hk⟩
theorem Row.below (h : Row w base v xs) (hb : Below w.heap.size w w1) : Row w1 base v xs := h.step fun k hk => hb.block k (h.lt k hk).2
theorem Row.nil (w : World) (base : Nat) : Row w base (.slice none 0 0) [] := own_nil _ _ _ _
theorem Row.turn {F : List Nat} (h : Row w base v xs) (ht : Turn w w1 F) (hF : ∀ k, v.ownBlock = some k → k ∉ F) : Row w1 base v xs := h.step fun k hk => ht.block k (h.lt k hk).2 (hF k hk)
theorem Row.len (h : Row w base v xs) : xs.length ≤ maxLen := by
  rcases h.2 with ⟨_, h1⟩ | ⟨g, cap, cur, _, _, _, h1, h2, _⟩
  · rw [h1]; exact Nat.zero_le _
  · exact Nat.le_trans h1 h2
/-- what a row's block holds from its first element on -/
theorem Row.prefix_ {g n c : Nat} (h : Row w base (.slice (some ⟨g, 0, none⟩) (xs ++ ys).length c) (xs ++ ys)) (hn : n = xs.length) : Row w base (.slice (some ⟨g, 0, none⟩) n c) xs := by
  subst hn
  rcases h.2 with ⟨h1, _⟩ | ⟨g', cap, cur, h1, h2, h3, h4, h5, h6, h7⟩
  · cases h1
  · injection h1 with e1 e2 e3
    injection e1 with e1
    injection e1 with e1
    subst e1 e3
    have hl : xs.length ≤ (xs ++ ys).length := by simp
    refine ⟨pfC_length xs, .inr ⟨g, c, cur, rfl, h2, h3, Nat.le_trans hl h4, h5, h6, ?_⟩⟩
    have e : (cur.toList.take ((xs ++ ys).length * 2)).take (xs.length * 2) = cur.toList.take (xs.length * 2) := by
      rw [List.take_take, Nat.min_eq_left (Nat.mul_le_mul_right 2 hl)]
    rw [← e, h7, pfC_append, ← pfC_length xs, List.take_left]
/-- the elements from the k-th on, as they are read -/
theorem Row.tail {g n c : Nat} {xs ys : List S27} (h : Row w base (.slice (some ⟨g, 0, none⟩) (xs ++ ys).length c) (xs ++ ys)) : Kd.C k27 w (some ⟨g, xs.length * 2, none⟩) ys.length ys := by
  have hl := h.len
  refine ⟨rfl, by unfold maxLen at hl; rw [List.length_append] at hl; omega, fun h0 => ⟨⟨g, xs.length * 2, none⟩, rfl, fun j p hj => ?_⟩⟩
  have hj' : (xs ++ ys)[xs.length + j]? = some p := by rw [List.getElem?_append_right (by omega), Nat.add_sub_cancel_left]; exact hj
  obtain ⟨a, b⟩ := pfC_get (xs ++ ys) (xs.length + j) p hj'
  refine ⟨[.int .u32 p.f0, .int .i64 p.f1], rfl, k27_mk w p, fun i u hu => ?_⟩
  have ca := h.cells (g := g) rfl _ _ a
  have cb := h.cells (g := g) rfl _ _ b
  rw [add_plain] at ca cb
  have e2 : k27.sz = 2 := rfl
  have key : ∀ m, (⟨g, xs.length * 2, none⟩ : Addr).add m = ⟨g, xs.length * 2 + m, none⟩ := fun m => by
    unfold Addr.add
    split <;> simp_all
  rw [e2, key]
  match i, hu with
  | 0, hu =>
    have : u = .int .u32 p.f0 := by simpa using hu.symm
    subst this
    rw [show xs.length * 2 + (j * 2 + 0) = (xs.length + j) * 2 from by omega]
    exact ca
  | 1, hu =>
    have : u = .int .i64 p.f1 := by simpa using hu.symm
    subst this
    rw [show xs.length * 2 + (j * 2 + 1) = (xs.length + j) * 2 + 1 from by omega]
    exact cb
  | i + 2, hu => simp at hu
end
/-- an append to a row that is known: in its place while there is room, else a new block -/
theorem Row.app {w : World} {A : Option Addr} {c : Nat} {xs news : List S27} (h : Row w 0 (.slice A xs.length c) xs) (k : Nat) (hk : news.length = k) (h0 : 0 < k) (hn : xs.length + k ≤ 8796093022207) (a : Addr) (cc : Nat) (hnews : ∀ j u, (pfC news)[j]? = some u → w.cell? (a.add j) = some u) :
    ∃ w' g' c', (Builtin.append_ #[28, 28] 28 #[.slice A xs.length c, .slice (some a) k cc]).run Try.prog w = .ok (.slice (some ⟨g', 0, none⟩) (xs.length + k) c') w' ∧ Row w' 0 (.slice (some ⟨g', 0, none⟩) (xs ++ news).length c') (xs ++ news) ∧
      ((xs.length + k ≤ c ∧ c' = c ∧ A = some ⟨g', 0, none⟩ ∧ w.grownBy w' (some g')) ∨ (c < xs.length + k ∧ w.heap.size ≤ g' ∧ g' < w'.heap.size ∧ Below w.heap.size w w')) := by
  subst hk
  obtain ⟨i, hi, hzz⟩ := Option.map_eq_some_iff.1 info27
  simp only [Prod.mk.injEq] at hzz
  obtain ⟨hz, hs, hb⟩ := hzz
  obtain ⟨z, hze⟩ : ∃ z, z = Value.agg #[(.int .u32 0), (.int .i64 0)] := ⟨_, rfl⟩
  rw [← hze] at hz
  have hzs : z.cells.size = 2 := by rw [hze]; rfl
  clear hze
  have ht : Try.prog.underlying 28 = some (.slice 27) := Try.underlying28
  have h1 : ∀ u ∈ pfC news, u.oneCell' = true := pfC_cells news
  have hl : (pfC news).length = news.length * i.size := by rw [hs]; exact pfC_length news
  rcases h.2 with ⟨he, hl0⟩ | ⟨g, cap, cur, he, h2, h3, h4, h5, h6, h7⟩
  · injection he with e1 e2 e3
    subst e1 e3
    have hx : xs = [] := List.length_eq_zero_iff.1 hl0
    subst hx
    obtain ⟨v', w', hr, hown, hg, _, hloc⟩ := run_append_own_at (P := Try.prog) w 0 28 28 27 i _ 2 16 ht hi hz hs hb hzs (by omega) (.slice none 0 0) 0 [] (own_nil _ _ _ _) a news.length cc (pfC news) (pfC_length news) hnews h1 (by unfold maxLen; simp at hn; omega) (by simp at hn; omega) (Nat.zero_le _)
    rw [List.nil_append, Nat.zero_add] at hown
    obtain ⟨g', cap, rfl, _, _⟩ := hown.form h0
    simp only [List.length_nil, Nat.zero_add, List.nil_append]
    have hg' : g' = w.heap.size := by
      rcases hloc with hh | hh
      · cases hh
      · have h2 : some g' = some w.heap.size := hh
        injection h2
    subst hg'
    refine ⟨w', w.heap.size, cap, hr, hown, .inr ⟨h0, Nat.le_refl _, (own_lt hown _ rfl), ⟨hg.os, hg.tape, hg.output, hg.size, fun b hb2 => hg.block b hb2 (by simp [Value.ownBlock])⟩⟩⟩
  · injection he with e1 e2 e3
    subst e1 e3
    have htn : cur.toList.take (xs.length * i.size) = pfC xs := by rw [hs]; exact h7
    by_cases hroom : xs.length + news.length ≤ c
    · have hfit : xs.length * i.size + (pfC news).length ≤ cur.size := by rw [hl, hs, h6, ← Nat.add_mul]; exact Nat.mul_le_mul_right _ hroom
      have hr := run_append_room (P := Try.prog) w 28 28 27 i ht hi g xs.length c cur h3 a news.length cc (pfC news) hl hnews h1 hroom hfit
      refine ⟨_, g, c, hr, ⟨pfC_length _, .inr ⟨g, c, _, rfl, Nat.zero_le _, setRow_heap w g cur _ 27 (0, 0) h3, by rw [List.length_append]; exact hroom, h5, ?_, ?_⟩⟩, .inl ⟨hroom, rfl, rfl, ⟨rfl, rfl, rfl, by simp, fun k _ hk => setRow_other w g k _ (fun e => hk (by rw [e]))⟩⟩⟩
      · simp only [List.size_toArray, List.length_append, List.length_take, List.length_drop, Array.length_toList]
        omega
      · show List.take ((xs ++ news).length * 2) (cur.toList.take (xs.length * i.size) ++ pfC news ++ cur.toList.drop (xs.length * i.size + (pfC news).length)) = _
        rw [htn, ← pfC_append, ← pfC_length (xs ++ news), List.take_left]
    · have hown : w.ownsRow 0 27 2 (.slice (some ⟨g, 0, none⟩) xs.length c) xs.length (pfC xs) := h
      have holds : ∀ j u, (pfC xs)[j]? = some u → w.cell? ((⟨g, 0, none⟩ : Addr).add j) = some u := hown.cells (g := g) rfl
      have hr := run_append_grow (P := Try.prog) w 28 28 27 i _ ht hi hz ⟨g, 0, none⟩ xs.length c (pfC xs) (by rw [hs]; exact pfC_length xs) holds a news.length cc (pfC news) hl hnews (by omega) (by omega) (growslice_fits (by omega) (by rw [hb]; omega))
      have hge := grownCap_ge w (xs.length + news.length) c 27
      have hcm : grownCap w (xs.length + news.length) c 27 ≤ maxLen := grownCap_le_maxLen w (xs.length + news.length) c 27 (by unfold maxLen; omega)
      have hbel : Below w.heap.size w (w.drew.alloc (.cells ((pfC xs).toArray ++ (pfC news).toArray ++ Builtin.zeroCells z.cells (grownCap w (xs.length + news.length) c 27 - (xs.length + news.length))) 27)) := (Below.refl _ _).drew.alloc (Nat.le_refl _) _
      refine ⟨_, w.heap.size, _, hr, ⟨pfC_length _, .inr ⟨w.heap.size, _, _, rfl, Nat.zero_le _, heap_alloc_new w.drew _, by rw [List.length_append]; exact hge, hcm, ?_, ?_⟩⟩, .inr ⟨by omega, Nat.le_refl _, by rw [World.size_alloc]; exact Nat.lt_succ_self _, hbel⟩⟩
      · rw [Array.size_append, Array.size_append, List.size_toArray, List.size_toArray, size_zeroCells, hzs, pfC_length, pfC_length, ← Nat.add_mul, ← Nat.add_mul]
        exact congrArg (· * 2) (by omega)
      · simp only [Array.toList_append, List.append_assoc]
        rw [← List.append_assoc, ← pfC_append, ← pfC_length (xs ++ news)]
        exact List.take_left
theorem ownsRow_base2 {w : World} {base e size n : Nat} {v : Value} {xs : List Value} (h : w.ownsRow base e size v n xs) : w.ownsRow 0 e size v n xs := own_less h (Nat.zero_le _)
theorem Row.ne {w : World} {base : Nat} {v : Value} {xs : List S27} (h : Row w base v xs) {g t : Nat} {cs : Array Value} (hg : w.heap[g]? = some (.cells cs t (0, 0))) (ht : t ≠ 27) : some g ≠ v.ownBlock := fun e => by
  obtain ⟨c, hc⟩ := own_typed h g e.symm
  rw [hc] at hg
  exact ht ((Obj.cells.inj (Option.some.inj hg)).2.1.symm)
/-- one element more -/
theorem Row.app1 {w : World} {base : Nat} {v : Value} {xs : List S27} (h : Row w base v xs) (hb : base ≤ w.heap.size) (x : S27) (hlen : xs.length < 8796093022207) :
    ∃ v' w', (Builtin.append_ #[28, 28] 28 #[v, .slice (some ⟨w.heap.size, 0, none⟩) 1 1]).run Try.prog (w.alloc (.cells #[.int .u32 x.f0, .int .i64 x.f1] 27)) = .ok v' w' ∧ Row w' base v' (xs ++ [x]) ∧ Below base w w' ∧ w.grownBy w' v.ownBlock := by
  obtain ⟨i, hi, hzz⟩ := Option.map_eq_some_iff.1 info27
  simp only [Prod.mk.injEq] at hzz
  obtain ⟨hz, hs, hbb⟩ := hzz
  obtain ⟨v', w', h1, h2, h3, h4⟩ := app_any (w.alloc (.cells #[.int .u32 x.f0, .int .i64 x.f1] 27)) (t := 28) (e := 27) (news := pfC [x]) Try.underlying28 hi hz hs hbb rfl (by omega) (World.ownsRow.alloc h _) (by rw [World.size_alloc]; omega) (some ⟨w.heap.size, 0, none⟩) 1 1 rfl (.inr ⟨_, rfl, World.news_of_block (cs := #[.int .u32 x.f0, .int .i64 x.f1]) (t := 27) (fr := (0, 0)) (heap_alloc_new w _)⟩) (pfC_cells _) (by unfold maxLen; omega) (by omega)
  have hg : w.grownBy w' v.ownBlock := World.grownBy.trans (World.grownBy_alloc w _ _) ⟨h3.os, h3.tape, h3.output, h3.size, h3.block⟩
  refine ⟨v', w', h1, ?_, ?_, hg⟩
  · unfold Row
    rw [List.length_append, pfC_append]
    exact h2
  · exact ⟨hg.os, hg.tape, hg.output, hg.size, fun k hk => hg.block k (by omega) (fun e => by have := own_base h k e.symm; omega)⟩
end Go.Proofs.Ytebnlhjakiipjaa.Pl

set_option linter.unusedVariables false
set_option linter.unusedSimpArgs false
namespace Go.Proofs.Ytebnlhjakiipjaa.Pl
open Go.RowKit Go.Maps Go.WideMaps Go.MapKept Go.Proofs.YtebnlhjakiipjaaW.PrintWords Go.Proofs.YtebnlhjakiipjaaW.PrintMore Go.Proofs.YtebnlhjakiipjaaW.PrintLast Go.Proofs.Ytebnlhjakiipjaa.PPlf
/-- the numbers from a to b -/
def upto (a b : Int) : List Int := (List.range (b + 1 - a).toNat).map (fun k : Nat => a + (k : Int))
theorem upto_mem {a b x : Int} : x ∈ upto a b ↔ a ≤ x ∧ x ≤ b := by
  unfold upto
  rw [List.mem_map]
  constructor
  · rintro ⟨k, hk, rfl⟩
    rw [List.mem_range] at hk
    omega
  · intro h
    exact ⟨(x - a).toNat, by rw [List.mem_range]; omega, by omega⟩
theorem upto_snoc {a n : Int} (h : a ≤ n) : upto a n = upto a (n - 1) ++ [n] := by
  unfold upto
  rw [show (n + 1 - a).toNat = (n - 1 + 1 - a).toNat + 1 from by omega, List.range_succ, List.map_append]
  congr 1
  show [a + (((n - 1 + 1 - a).toNat : Nat) : Int)] = [n]
  congr 1
  omega
theorem upto_none {a b : Int} (h : b < a) : upto a b = [] := by
  unfold upto
  rw [show (b + 1 - a).toNat = 0 from by omega]; rfl
theorem upto_pair (a b : Int) : (upto a b).Pairwise (· < ·) := by
  unfold upto
  rw [List.pairwise_map]
  exact List.Pairwise.imp (fun {x y} (h : x < y) => by omega) List.pairwise_lt_range
def nums : List Run → List Int
  | [] => []
  | r :: R => upto r.1 r.2 ++ nums R
theorem nums_append : ∀ A B : List Run, nums (A ++ B) = nums A ++ nums B
  | [], B => rfl
  | r :: A, B => by simp only [nums, List.cons_append, nums_append A B, List.append_assoc]
theorem nums_mem : ∀ {R : List Run} {x : Int}, x ∈ nums R ↔ InR R x
  | [], x => ⟨fun h => (by cases h), fun h => absurd h InR.nil⟩
  | r :: R, x => by
    simp only [nums, List.mem_append, InR.cons, upto_mem, nums_mem (R := R)]
theorem nums_pair : ∀ {R : List Run}, Wf R → (nums R).Pairwise (· < ·)
  | [], _ => List.Pairwise.nil
  | r :: R, h => by
    obtain ⟨h1, h2, h3⟩ := Wf.cons.1 h
    simp only [nums]
    rw [List.pairwise_append]
    refine ⟨upto_pair _ _, nums_pair h2, fun a ha b hb => ?_⟩
    rw [upto_mem] at ha
    rw [nums_mem] at hb
    obtain ⟨s, hs, k1, k2⟩ := hb
    have := h3 s hs
    omega
theorem rise_len : ∀ {l : List Int} {lo hi : Int}, l.Pairwise (· < ·) → (∀ x, x ∈ l → lo ≤ x ∧ x < hi) → lo ≤ hi → (l.length : Int) ≤ hi - lo
  | [], lo, hi, _, _, h => by simp; omega
  | y :: l, lo, hi, hp, hm, h => by
    obtain ⟨h1, h2⟩ := List.pairwise_cons.1 hp
    have hy := hm y List.mem_cons_self
    have := rise_len (l := l) (lo := y + 1) (hi := hi) h2 (fun x hx => ⟨by have := h1 x hx; omega, (hm x (List.mem_cons_of_mem _ hx)).2⟩) (by omega)
    rw [List.length_cons]; push_cast; omega
/-- rising lists with the same members are the same -/
theorem rise_ext : ∀ {l m : List Int}, l.Pairwise (· < ·) → m.Pairwise (· < ·) → (∀ x, x ∈ l ↔ x ∈ m) → l = m
  | [], [], _, _, _ => rfl
  | [], y :: m, _, _, h => by have := (h y).2 List.mem_cons_self; cases this
  | x :: l, [], _, _, h => by have := (h x).1 List.mem_cons_self; cases this
  | x :: l, y :: m, hl, hm, h => by
    obtain ⟨l1, l2⟩ := List.pairwise_cons.1 hl
    obtain ⟨m1, m2⟩ := List.pairwise_cons.1 hm
    have exy : x = y := by
      rcases List.mem_cons.1 ((h x).1 List.mem_cons_self) with e | e
      · exact e
      · rcases List.mem_cons.1 ((h y).2 List.mem_cons_self) with e2 | e2
        · exact e2.symm
        · have := m1 x e; have := l1 y e2; omega
    subst exy
    rw [rise_ext l2 m2 (fun z => ?_)]
    constructor
    · intro hz
      rcases List.mem_cons.1 ((h z).1 (List.mem_cons_of_mem _ hz)) with e | e
      · subst e; have := l1 z hz; omega
      · exact e
    · intro hz
      rcases List.mem_cons.1 ((h z).2 (List.mem_cons_of_mem _ hz)) with e | e
      · subst e; have := m1 z hz; omega
      · exact e
/-- subnets by their numbers -/
def pxs (s : Int) (l : List Int) : List S27 := l.map (fun x => ⟨x * sizeF s, s⟩)
theorem nums_take {R : List Run} {i : Nat} (h : i < R.length) : nums (R.take (i + 1)) = nums (R.take i) ++ upto (R.getD i (0, 0)).1 (R.getD i (0, 0)).2 := by
  rw [take_split h, nums_append]; simp [nums]
theorem Rng.nums_len {M : Pm} {R : List Run} (h : Rng M R) (hok : M.Ok) (hw : Wf R) : (nums R).length ≤ 4294967296 := by
  have := rise_len (lo := 0) (hi := 4294967296) (nums_pair hw) (fun x hx => ⟨(h x (nums_mem.1 hx)).1, fits_sub hok.s0 hok.s1 (h x (nums_mem.1 hx)).1 (h x (nums_mem.1 hx)).2⟩) (by omega)
  omega
theorem part_len {R : List Run} {i : Nat} {n : Int} (hi : i < R.length) (hn : n ≤ (R.getD i (0, 0)).2) : (nums (R.take i) ++ upto (R.getD i (0, 0)).1 n).length ≤ (nums R).length := by
  have e : nums R = nums (R.take i) ++ upto (R.getD i (0, 0)).1 (R.getD i (0, 0)).2 ++ nums (R.drop (i + 1)) := by
    rw [← nums_take hi, ← nums_append, List.take_append_drop]
  rw [e, List.length_append, List.length_append, List.length_append]
  unfold upto
  simp only [List.length_map, List.length_range]
  omega
set_option maxHeartbeats 8000000 in
set_option maxRecDepth 100000 in
theorem taken23 (w : World) (b : Nat) (vk : Value) (bm : Nat) (vr : Value) (M : Pm) (R : List Run) (hok : M.Ok) (hR : Rng M R) (hS : PlS w b vk bm vr M R) :
    Calls Try.prog 23 #[.pointer (some ⟨b, 0, none⟩)] w fun e w' => ∃ v, e = .returned v ∧ Row w' w.heap.size v (pxs M.s (nums R)) ∧ Below w.heap.size w w' := by
  obtain ⟨sR, cR, rfl⟩ := own_slice hS.rr
  have HLEN := Aside0.mk (And.intro (hR.len hok hS.wf) (hR.nums_len hok hS.wf))
  have HS := Aside0.mk hS
  have k7 := blk_cell hS.blk 7
  have HSUB := Aside0.mk (fun (W : World) (x : Int) (h : W.cell? ⟨b, 2, none⟩ = some (.int .i64 M.s)) (hx : InR R x) => subnet41 W b M.s x h hok.s0 hok.s1 (hR x hx).1 (hR x hx).2)
  have HRX := Aside0.mk (fun x (hx : InR R x) => (And.intro (hR x hx).1 (fits_sub hok.s0 hok.s1 (hR x hx).1 (hR x hx).2)))
  clear hS hok hR
  go_enter Try.func23, Try.ntmps23
  go_wp2_with fail
  go_loopg [3, 12] R.length (fun gg v vi wr => ∃ i : Nat, vi = .int .i64 (i : Int) ∧ gg = R.length - i ∧ i ≤ R.length ∧ Aside0 (Row wr w.heap.size v (pxs M.s (nums (R.take i)))) ∧ Aside0 (Below w.heap.size w wr))
  case atStart => exact ⟨0, rfl, rfl, Nat.zero_le _, ⟨Row.nil _ _⟩, ⟨Below.refl _ _⟩⟩
  case round =>
    obtain ⟨i, rfl, hg, hi, HO, HB⟩ := hrel
    have HG := Aside0.mk hg
    clear hg
    by_cases hlt : i < R.length
    · have hii : (i : Int) < (R.length : Int) := by omega
      have HP := Aside0.mk (HS.out.below HB.out)
      obtain ⟨g, c, e, _, k1, k2, _, _⟩ := HP.out.run hlt
      injection e with e3 e5 e4
      subst e3 e4
      clear e5
      have hnn : nums (R.take (i + 1)) = nums (R.take i) ++ upto (R.getD i (0, 0)).1 (R.getD i (0, 0)).2 := nums_take hlt
      have HNN := Aside0.mk hnn
      have hpl := Aside0.mk (fun n h => part_len (R := R) (n := n) hlt h)
      have hrun : ∀ n, (R.getD i (0, 0)).1 ≤ n → n ≤ (R.getD i (0, 0)).2 → InR R n := fun n h1 h2 => ⟨_, by rw [List.getD_eq_getElem?_getD, List.getElem?_eq_getElem hlt]; exact List.getElem_mem hlt, h1, h2⟩
      have HRU := Aside0.mk hrun
      have HLT := Aside0.mk hlt
      have hft := HP.out.wf.1 (R.getD i (0, 0)) (by rw [List.getD_eq_getElem?_getD, List.getElem?_eq_getElem hlt]; exact List.getElem_mem hlt)
      clear hnn hrun hlt
      generalize (R.getD i (0, 0)).1 = f at *
      generalize (R.getD i (0, 0)).2 = t at *
      have hf0 := HRX.out f (HRU.out f (Int.le_refl _) hft)
      have ht0 := HRX.out t (HRU.out t hft (Int.le_refl _))
      have HFT := Aside0.mk (And.intro hft (And.intro hf0 ht0))
      clear hft hf0 ht0
      go_wp2_with fail
      have k8 := heap_alloc_new wr (.cells #[.int .i64 f, .int .i64 t] 81)
      have hb8 := below_alloc (Below.refl wr.heap.size wr) (.cells #[.int .i64 f, .int .i64 t] 81)
      have HO8 := Aside0.mk (HO.out.below hb8)
      have HB8 := Aside0.mk (below_step HB.out hb8)
      generalize wr.alloc (.cells #[.int .i64 f, .int .i64 t] 81) = w8 at *
      obtain ⟨p8, hp8⟩ : ∃ p, p = wr.heap.size := ⟨_, rfl⟩
      rw [← hp8] at k8 ⊢
      have K8 := Aside0.mk k8
      clear hb8 k8 k7 k1 k2 hp8 HP HO HB
      go_loopg [3, 6] (t + 1 - f).toNat (fun g2 v vn wx => ∃ n : Int, vn = .int .i64 n ∧ g2 = (t + 1 - n).toNat ∧ f ≤ n ∧ n ≤ t + 1 ∧ Aside0 (Row wx w.heap.size v (pxs M.s (nums (R.take i) ++ upto f (n - 1)))) ∧ Aside0 (Below w.heap.size w wx) ∧ Aside0 (wx.heap[p8]? = some (.cells #[.int .i64 f, .int .i64 t] 81 (0, 0))))
      case atStart => exact ⟨f, rfl, rfl, Int.le_refl _, by have := HFT.out.1; omega, by rw [upto_none (by omega), List.append_nil]; exact HO8, HB8, K8⟩
      case round =>
        clear HO8 HB8
        obtain ⟨n, rfl, hg2, h1, h2, HO, HB, HB9⟩ := hrel
        have HG2 := Aside0.mk hg2
        have k8 := HB9.out
        have kf := blk_cell k8 0
        have kt := blk_cell k8 1
        have HN := Aside0.mk (And.intro h1 h2)
        clear hg2 k8
        by_cases hle : n ≤ t
        · have hleb : decide (n ≤ t) = true := decide_eq_true hle
          have hsn := upto_snoc h1
          have HSN : Aside0 (upto f n = upto f (n - 1) ++ [n]) := ⟨hsn⟩
          have HLE := Aside0.mk hle
          have k2 : wr.cell? ⟨b, 2, none⟩ = some (.int .i64 M.s) := blk_cell (HS.out.below HB.out).blk 2
          have hwn : IntKind.i64.wrap (n + 1) = n + 1 := by have := HFT.out; rw [wrap64_id (by omega) (by omega)]
          have HWN := Aside0.mk hwn
          clear hsn hle h1 h2 hwn
          go_wp2_with fail
          refine (HSUB.out _ n k2 (HRU.out n HN.out.1 HLE.out)).mono ?_
          rintro e_ w9 ⟨rfl, hb9⟩
          have HOa := Aside0.mk (HO.out.below hb9)
          have HBa := Aside0.mk (below_step HB.out hb9)
          have HBb := Aside0.mk (blk_below HB9.out hb9)
          have hplen : (pxs M.s (nums (R.take i) ++ upto f (n - 1))).length < 8796093022207 := by
            have := hpl.out n HLE.out
            rw [HSN.out, ← List.append_assoc, List.length_append, List.length_singleton] at this
            unfold pxs
            rw [List.length_map]
            have := HLEN.out.2
            omega
          obtain ⟨v1, w10, r1, o1, b1, g1⟩ := HOa.out.app1 HBa.out.size ⟨n * sizeF M.s, M.s⟩ hplen
          have R1 := Aside0.mk r1
          have O1 := Aside0.mk o1
          have B1 := Aside0.mk b1
          have G1 : Aside0 (w10.heap[p8]? = some (.cells #[.int .i64 f, .int .i64 t] 81 (0, 0))) := ⟨(g1.block p8 (blk_lt HBb.out) (HOa.out.ne HBb.out (by decide))).trans HBb.out⟩
          have hwn := HWN.out
          clear hb9 r1 o1 b1 g1 hplen k2 kf kt
          go_wp2_with ((with_reducible refine gate_builtin (b := .append) (xs := #[.tmp 24, .tmp 28]) rfl ?_); at_builtin; refine wpList_append_run rfl (.tmp 24) (.tmp 28) 28 rfl rfl rfl R1.out ?_)
          go_roundg ((t + 1 - (n + 1)).toNat)
          case measure => have := HG2.out; have := HLE.out; omega
          case rel =>
            refine ⟨n + 1, rfl, rfl, by have := HN.out.1; omega, by have := HLE.out; omega, ⟨?_⟩, ⟨HBa.out.trans B1.out⟩, G1⟩
            · rw [show n + 1 - 1 = n from by omega, HSN.out, ← List.append_assoc]
              have := O1.out
              unfold pxs at this ⊢
              rw [List.map_append]
              exact this
        · have hleb : decide (n ≤ t) = false := decide_eq_false hle
          obtain rfl : n = t + 1 := by omega
          have hoa := HO.out
          rw [show t + 1 - 1 = t from by omega, ← HNN.out] at hoa
          have HOa := Aside0.mk hoa
          clear hoa
          have hwi : IntKind.i64.wrap ((i : Int) + 1) = ((i + 1 : Nat) : Int) := by have := HLT.out; have := HLEN.out.1; rw [wrap64_id (by omega) (by omega)]; omega
          clear HO h1 h2 hle
          go_wp2_with fail
          go_roundg (R.length - (i + 1))
          case measure => have := HG.out; have := HLT.out; omega
          case rel => exact ⟨i + 1, rfl, rfl, by have := HLT.out; omega, HOa, HB⟩
    · have hii : ¬ (i : Int) < (R.length : Int) := by omega
      obtain rfl : i = R.length := by omega
      have HO2 := HO.out
      rw [List.take_length] at HO2
      have HO3 := Aside0.mk HO2
      clear HO2 HO
      go_wp2_with fail
      go_ret
      exact ⟨_, rfl, HO3.out, HB.out⟩
end Go.Proofs.Ytebnlhjakiipjaa.Pl

set_option linter.unusedVariables false
set_option linter.unusedSimpArgs false
namespace Go.Proofs.Ytebnlhjakiipjaa.Pl
open Go.RowKit Go.Maps Go.WideMaps Go.MapKept Go.Proofs.YtebnlhjakiipjaaW.PrintWords Go.Proofs.YtebnlhjakiipjaaW.PrintMore Go.Proofs.YtebnlhjakiipjaaW.PrintLast Go.Proofs.Ytebnlhjakiipjaa.PPlf
attribute [local go_sem] max2_int min2_int max_two min_two
/-- how many of a list lie in the row -/
def cntR (mn mx : Int) (l : List Int) : Nat := (l.filter (fun x => decide (mn ≤ x) && decide (x ≤ mx))).length
theorem cntR_append (mn mx : Int) (a b : List Int) : cntR mn mx (a ++ b) = cntR mn mx a + cntR mn mx b := by
  unfold cntR; rw [List.filter_append, List.length_append]
theorem cntR_le (mn mx : Int) (a : List Int) : cntR mn mx a ≤ a.length := List.length_filter_le _ _
theorem cntR_snoc (mn mx : Int) (a : List Int) (x : Int) : cntR mn mx (a ++ [x]) = cntR mn mx a + if mn ≤ x ∧ x ≤ mx then 1 else 0 := by
  rw [cntR_append]
  congr 1
  unfold cntR
  by_cases h : mn ≤ x ∧ x ≤ mx
  · rw [if_pos h, List.filter_cons, if_pos (by rw [decide_eq_true h.1, decide_eq_true h.2]; rfl)]; rfl
  · rw [if_neg h, List.filter_cons, if_neg (by intro hc; rw [Bool.and_eq_true, decide_eq_true_eq, decide_eq_true_eq] at hc; exact h hc)]; rfl
theorem cntR_upto (mn mx : Int) (a : Int) : ∀ n : Nat, ((cntR mn mx (upto a (a + n - 1)) : Nat) : Int) = if max a mn ≤ min (a + n - 1) mx then min (a + n - 1) mx - max a mn + 1 else 0
  | 0 => by
    rw [upto_none (by omega), if_neg (by omega)]; rfl
  | n + 1 => by
    have ih := cntR_upto mn mx a n
    rw [upto_snoc (by omega), cntR_snoc, show a + ((n + 1 : Nat) : Int) - 1 - 1 = a + n - 1 from by omega]
    push_cast
    rw [ih]
    split <;> split <;> split <;> omega
theorem cntR_run (mn mx a b : Int) (h : a ≤ b) : ((cntR mn mx (upto a b) : Nat) : Int) = if max a mn ≤ min b mx then min b mx - max a mn + 1 else 0 := by
  have := cntR_upto mn mx a (b + 1 - a).toNat
  rwa [show a + (((b + 1 - a).toNat : Nat) : Int) - 1 = b from by omega] at this
/-- the kept ones of the row that are not taken -/
def offR (M : Pm) (R : List Run) (l : List Int) : Nat := cntR M.mn M.mx (l.filter (fun x => !decide (InR R x)))
def roomF (M : Pm) (R : List Run) : Int := M.mx - M.mn + 1 - cntR M.mn M.mx (nums R) - offR M R M.kept
theorem offR_snoc (M : Pm) (R : List Run) (l : List Int) (x : Int) : offR M R (l ++ [x]) = offR M R l + if ¬ InR R x ∧ M.mn ≤ x ∧ x ≤ M.mx then 1 else 0 := by
  unfold offR
  rw [List.filter_append]
  by_cases h : InR R x
  · rw [show List.filter (fun x => !decide (InR R x)) [x] = [] from by simp [h], List.append_nil, if_neg (fun c => c.1 h)]; rfl
  · rw [show List.filter (fun x => !decide (InR R x)) [x] = [x] from by simp [h], cntR_snoc]
    congr 1
    by_cases c : M.mn ≤ x ∧ x ≤ M.mx
    · rw [if_pos c, if_pos ⟨h, c⟩]
    · rw [if_neg c, if_neg (fun d => c d.2)]
theorem offR_le (M : Pm) (R : List Run) (l : List Int) : offR M R l ≤ l.length := Nat.le_trans (cntR_le _ _ _) (List.length_filter_le _ _)
set_option maxHeartbeats 16000000 in
set_option maxRecDepth 100000 in
theorem room16 (w : World) (b : Nat) (vk : Value) (bm : Nat) (vr : Value) (M : Pm) (R : List Run) (hok : M.Ok) (hrow : M.Row) (hmm : M.mn ≤ M.mx) (hK : M.Rise) (hR : Rng M R) (hS : PlS w b vk bm vr M R) :
    Calls Try.prog 16 #[.pointer (some ⟨b, 0, none⟩)] w fun e w' => e = .returned (.int .i64 (roomF M R)) ∧ Below w.heap.size w w' := by
  obtain ⟨sR, cR, rfl⟩ := own_slice hS.rr
  obtain ⟨sK, cK, rfl⟩ := own_slice hS.rk
  have HLEN := Aside0.mk (And.intro (hR.len hok hS.wf) (hR.nums_len hok hS.wf))
  have hmx : M.mx < 4294967296 := fits_sub hok.s0 hok.s1 (by have := hrow.mn0; omega) hrow.mx1
  have HROW := Aside0.mk (And.intro hrow.mn0 (And.intro hmm hmx))
  have HK := Aside0.mk hK
  have HS := Aside0.mk hS
  have HRX := Aside0.mk (fun x (hx : InR R x) => (And.intro (hR x hx).1 (fits_sub hok.s0 hok.s1 (hR x hx).1 (hR x hx).2)))
  have HAT := Aside0.mk (fun (W : World) (x : Int) (h : PlS W b (.slice sK M.kept.length cK) bm (.slice sR R.length cR) M R) => at37 W b _ bm _ M R x h)
  have k7 := blk_cell hS.blk 7
  have k4 := blk_cell hS.blk 4
  have k3 := blk_cell hS.blk 3
  have hws : IntKind.i64.wrap (M.mx - M.mn) = M.mx - M.mn := by simp [IntKind.wrap, IntKind.bits, IntKind.signed]; have := hrow.mn0; omega
  have hws1 : IntKind.i64.wrap (M.mx - M.mn + 1) = M.mx - M.mn + 1 := by simp [IntKind.wrap, IntKind.bits, IntKind.signed]; have := hrow.mn0; omega
  clear hS hok hR hrow hmm hmx hK
  go_enter Try.func16, Try.ntmps16
  go_wp2_with fail
  go_quiet (fail)
  go_wp2_with fail
  have HB0 : Aside0 (Below w.heap.size w (w.drewN nq)) := ⟨pw_below_drewN (Below.refl _ _) _⟩
  generalize w.drewN nq = w0 at *
  have HX0 : Aside0 (M.mx - M.mn + 1 = M.mx - M.mn + 1 - cntR M.mn M.mx (nums (R.take 0))) := ⟨by simp [nums, cntR]⟩
  obtain ⟨x0, hx0⟩ : ∃ x, x = M.mx - M.mn + 1 := ⟨_, rfl⟩
  rw [← hx0] at HX0
  have HXX := Aside0.mk hx0
  rw [← hx0]
  clear hws hws1 hx0 k3 k4 k7
  go_loopg [3, 27] R.length (fun gg v vi wr => ∃ (i : Nat) (x : Int), vi = .int .i64 (i : Int) ∧ v = .int .i64 x ∧ gg = R.length - i ∧ i ≤ R.length ∧ Aside0 (x = M.mx - M.mn + 1 - cntR M.mn M.mx (nums (R.take i))) ∧ Aside0 (Below w.heap.size w wr))
  case atStart => exact ⟨0, x0, rfl, rfl, rfl, Nat.zero_le _, ⟨by rw [HXX.out]; simp [nums, cntR]⟩, HB0⟩
  case round =>
    clear HX0
    obtain ⟨i, x, rfl, rfl, hg, hi, HX, HB⟩ := hrel
    have HG := Aside0.mk hg
    clear hg
    by_cases hlt : i < R.length
    · have hii : (i : Int) < (R.length : Int) := by omega
      have HP := Aside0.mk (HS.out.below HB.out)
      obtain ⟨g, c, e, _, k1, k2, _, _⟩ := HP.out.run hlt
      injection e with e3 e5 e4
      subst e3 e4
      clear e5
      have hft := HP.out.wf.1 (R.getD i (0, 0)) (by rw [List.getD_eq_getElem?_getD, List.getElem?_eq_getElem hlt]; exact List.getElem_mem hlt)
      have hmem : R.getD i (0, 0) ∈ R := by rw [List.getD_eq_getElem?_getD, List.getElem?_eq_getElem hlt]; exact List.getElem_mem hlt
      have hf0 := HRX.out (R.getD i (0, 0)).1 ⟨_, hmem, Int.le_refl _, hft⟩
      have ht0 := HRX.out (R.getD i (0, 0)).2 ⟨_, hmem, hft, Int.le_refl _⟩
      have hcnt := cntR_run M.mn M.mx _ _ hft
      have HN : Aside0 (((cntR M.mn M.mx (nums (R.take (i + 1))) : Nat) : Int) = (cntR M.mn M.mx (nums (R.take i)) : Nat) + if max (R.getD i (0, 0)).1 M.mn ≤ min (R.getD i (0, 0)).2 M.mx then min (R.getD i (0, 0)).2 M.mx - max (R.getD i (0, 0)).1 M.mn + 1 else 0) := ⟨by rw [nums_take hlt, cntR_append, ← hcnt]; push_cast; rfl⟩
      have hxb : -8589934592 ≤ x ∧ x ≤ 8589934592 := by
        have := HX.out
        have h1 := cntR_le M.mn M.mx (nums (R.take i))
        have h2 := part_len (R := R) (i := i) (n := (R.getD i (0, 0)).2) hlt (Int.le_refl _)
        rw [List.length_append] at h2
        have := HLEN.out.2
        have := HROW.out
        omega
      have HLT := Aside0.mk hlt
      clear hmem hcnt hlt
      generalize (R.getD i (0, 0)).1 = f at *
      generalize (R.getD i (0, 0)).2 = t at *
      obtain ⟨lo, hlo⟩ : ∃ lo, lo = if f < M.mn then M.mn else f := ⟨_, rfl⟩
      obtain ⟨hi2, hhi⟩ : ∃ hi2, hi2 = if M.mx < t then M.mx else t := ⟨_, rfl⟩
      have hloe : (if f < M.mn then M.mn else f) = lo := hlo.symm
      have hhie : (if M.mx < t then M.mx else t) = hi2 := hhi.symm
      have HLO : Aside0 (lo = max f M.mn ∧ hi2 = min t M.mx) := ⟨by rw [hlo, hhi]; constructor <;> split <;> omega⟩
      have hb0 : 0 ≤ lo ∧ lo < 4294967296 ∧ -1 ≤ hi2 ∧ hi2 < 4294967296 := by
        have := HROW.out
        rw [hlo, hhi]
        refine ⟨?_, ?_, ?_, ?_⟩ <;> split <;> omega
      have k3 := blk_cell (HS.out.below HB.out).blk 3
      have k4 := blk_cell (HS.out.below HB.out).blk 4
      clear hlo hhi hft hf0 ht0
      have k8 := heap_alloc_new wr (.cells #[.int .i64 f, .int .i64 t] 81)
      have hb8 := below_alloc (Below.refl wr.heap.size wr) (.cells #[.int .i64 f, .int .i64 t] 81)
      have HB8 := Aside0.mk (below_step HB.out hb8)
      have HP8 := Aside0.mk (HP.out.below hb8)
      have k3' := blk_cell HP8.out.blk 3
      have k4' := blk_cell HP8.out.blk 4
      have kf := blk_cell k8 0
      have kt := blk_cell k8 1
      clear k8 hb8 HP HB HP8
      go_wp2_with fail
      go_quiet (fail)
      have hwi : IntKind.i64.wrap ((i : Int) + 1) = ((i + 1 : Nat) : Int) := by have := HLT.out; have := HLEN.out.1; rw [wrap64_id (by omega) (by omega)]; omega
      have HNX : Aside0 (∀ y, y = x - (if lo ≤ hi2 then hi2 - lo + 1 else 0) → y = M.mx - M.mn + 1 - cntR M.mn M.mx (nums (R.take (i + 1)))) := ⟨fun y hy => by rw [HN.out, ← HLO.out.1, ← HLO.out.2]; have := HX.out; omega⟩
      by_cases hle : lo ≤ hi2
      · have hleb : decide (lo ≤ hi2) = true := decide_eq_true hle
        have hwa : IntKind.i64.wrap (hi2 - lo) = hi2 - lo := by simp [IntKind.wrap, IntKind.bits, IntKind.signed]; omega
        have hwb : IntKind.i64.wrap (hi2 - lo + 1) = hi2 - lo + 1 := by simp [IntKind.wrap, IntKind.bits, IntKind.signed]; omega
        have hwc : IntKind.i64.wrap (x - (hi2 - lo + 1)) = x - (hi2 - lo + 1) := by simp [IntKind.wrap, IntKind.bits, IntKind.signed]; omega
        have HNY := Aside0.mk (HNX.out (x - (hi2 - lo + 1)) (by rw [if_pos hle]))
        clear hle
        go_wp2_with fail
        go_roundg (R.length - (i + 1))
        case measure => have := HG.out; have := HLT.out; omega
        case rel => exact ⟨i + 1, _, rfl, rfl, rfl, by have := HLT.out; omega, HNY, ⟨pw_below_drewN HB8.out _⟩⟩
      · have hleb : decide (lo ≤ hi2) = false := decide_eq_false hle
        have HNY := Aside0.mk (HNX.out x (by rw [if_neg hle]; omega))
        clear hle
        go_wp2_with fail
        go_roundg (R.length - (i + 1))
        case measure => have := HG.out; have := HLT.out; omega
        case rel => exact ⟨i + 1, _, rfl, rfl, rfl, by have := HLT.out; omega, HNY, ⟨pw_below_drewN HB8.out _⟩⟩
    · have hii : ¬ (i : Int) < (R.length : Int) := by omega
      obtain rfl : i = R.length := by omega
      have hx2 := HX.out
      rw [List.take_length] at hx2
      have HX3 := Aside0.mk hx2
      clear hx2 HX
      have HP := Aside0.mk (HS.out.below HB.out)
      have k5 := blk_cell HP.out.blk 5
      go_wp2_with fail
      go_loopg [3, 60] M.kept.length (fun gg v vi wx => ∃ (j : Nat) (y : Int), vi = .int .i64 (j : Int) ∧ v = .int .i64 y ∧ gg = M.kept.length - j ∧ j ≤ M.kept.length ∧ Aside0 (y = x - offR M R (M.kept.take j)) ∧ Aside0 (Below w.heap.size w wx))
      case atStart => exact ⟨0, x, rfl, rfl, rfl, Nat.zero_le _, ⟨by simp [offR, cntR]⟩, HB⟩
      case round =>
        clear HB HP k5
        obtain ⟨j, y, rfl, rfl, hg, hj, HY, HB⟩ := hrel
        have HG2 := Aside0.mk hg
        clear hg
        have hxb : -8589934592 ≤ y ∧ y ≤ 8589934592 := by
          have := HX3.out
          have h1 := cntR_le M.mn M.mx (nums R)
          have := HLEN.out.2
          have := HROW.out
          have := HY.out
          have h2 := offR_le M R (M.kept.take j)
          rw [List.length_take] at h2
          have h3 : M.kept.length ≤ 1024 := HK.out.2
          omega
        by_cases hlt : j < M.kept.length
        · have hjj : (j : Int) < (M.kept.length : Int) := by omega
          have HP := Aside0.mk (HS.out.below HB.out)
          obtain ⟨g, c, e, kk⟩ := kept_get HP.out hlt
          injection e with e3 e5 e4
          subst e3 e4
          clear e5
          have htk : M.kept.take (j + 1) = M.kept.take j ++ [M.kept.getD j 0] := by
            rw [List.take_succ_eq_append_getElem hlt, List.getD_eq_getElem?_getD, List.getElem?_eq_getElem hlt]; rfl
          have HN : Aside0 (((offR M R (M.kept.take (j + 1)) : Nat) : Int) = (offR M R (M.kept.take j) : Nat) + if ¬ InR R (M.kept.getD j 0) ∧ M.mn ≤ M.kept.getD j 0 ∧ M.kept.getD j 0 ≤ M.mx then 1 else 0) := ⟨by rw [htk, offR_snoc]; split <;> push_cast <;> omega⟩
          have HLT := Aside0.mk hlt
          have hwj : IntKind.i64.wrap ((j : Int) + 1) = ((j + 1 : Nat) : Int) := by have h3 : M.kept.length ≤ 1024 := HK.out.2; rw [wrap64_id (by omega) (by omega)]; omega
          have HWJ := Aside0.mk hwj
          clear htk hlt hwj
          generalize M.kept.getD j 0 = k at *
          go_wp2_with fail
          refine (HAT.out _ k HP.out).mono ?_
          rintro e_ w5 ⟨i5, rfl, hat, hb5⟩
          have HIN := Aside0.mk hat.inn_iff
          have HB5 := Aside0.mk (below_step HB.out hb5)
          have HP5 := Aside0.mk (HP.out.below hb5)
          have k3 := blk_cell HP5.out.blk 3
          have k4 := blk_cell HP5.out.blk 4
          clear hat hb5 HB HP kk
          generalize inn R k i5 = inb at *
          obtain ⟨dec, hdec⟩ : ∃ d : Bool, d = decide (inb = false ∧ M.mn ≤ k ∧ k ≤ M.mx) := ⟨_, rfl⟩
          have HD := Aside0.mk hdec
          clear hdec
          go_upto_region 13 with fail
          go_cut [87] (fun v wx => v = .bool dec ∧ w5 = wx)
          case first =>
            cases inb with
            | true =>
              have HDB : Aside0 (dec = false) := ⟨by rw [HD.out]; simp⟩
              skip
              go_wp2_with fail
              go_meet
              exact ⟨by rw [HDB.out], rfl⟩
            | false =>
              by_cases c1 : M.mn ≤ k
              · have c1b : decide (M.mn ≤ k) = true := decide_eq_true c1
                have HDB : Aside0 (dec = decide (k ≤ M.mx)) := ⟨by rw [HD.out]; simp [c1]⟩
                clear c1
                skip
                go_wp2_with fail
                go_meet
                exact ⟨by rw [HDB.out], rfl⟩
              · have c1b : decide (M.mn ≤ k) = false := decide_eq_false c1
                have HDB : Aside0 (dec = false) := ⟨by rw [HD.out]; simp [c1]⟩
                clear c1
                skip
                go_wp2_with fail
                go_meet
                exact ⟨by rw [HDB.out], rfl⟩
          case rest =>
            obtain ⟨rfl, rfl⟩ := hcut
            have hwj := HWJ.out
            cases hdd : dec with
            | true =>
              have hd2 : inb = false ∧ M.mn ≤ k ∧ k ≤ M.mx := by have := HD.out; rw [hdd] at this; exact of_decide_eq_true this.symm
              have HNY : Aside0 (y - 1 = x - offR M R (M.kept.take (j + 1))) := ⟨by
                rw [HN.out, if_pos ⟨(fun hc => by have := HIN.out.2 hc; rw [hd2.1] at this; cases this), hd2.2⟩]; have := HY.out; omega⟩
              have hwy : IntKind.i64.wrap (y - 1) = y - 1 := by simp [IntKind.wrap, IntKind.bits, IntKind.signed]; omega
              clear hd2 HD hdd
              go_wp2_with fail
              go_roundg (M.kept.length - (j + 1))
              case measure => have := HG2.out; have := HLT.out; omega
              case rel => exact ⟨j + 1, _, rfl, rfl, rfl, by have := HLT.out; omega, HNY, HB5⟩
            | false =>
              have hd2 : ¬ (inb = false ∧ M.mn ≤ k ∧ k ≤ M.mx) := by have := HD.out; rw [hdd] at this; exact of_decide_eq_false this.symm
              have HNY : Aside0 (y = x - offR M R (M.kept.take (j + 1))) := ⟨by
                rw [HN.out, if_neg (fun hc => hd2 ⟨(by cases hb : inb with | true => exact absurd (HIN.out.1 hb) hc.1 | false => rfl), hc.2⟩)]; have := HY.out; omega⟩
              clear hd2 HD hdd
              go_wp2_with fail
              go_roundg (M.kept.length - (j + 1))
              case measure => have := HG2.out; have := HLT.out; omega
              case rel => exact ⟨j + 1, _, rfl, rfl, rfl, by have := HLT.out; omega, HNY, HB5⟩
        · have hjj : ¬ (j : Int) < (M.kept.length : Int) := by omega
          obtain rfl : j = M.kept.length := by omega
          have hy2 := HY.out
          rw [List.take_length, HX3.out] at hy2
          have HY3 := Aside0.mk hy2
          clear hy2 HY HX3 hxb
          go_wp2_with fail
          go_ret
          refine ⟨?_, HB.out⟩
          have := HY3.out
          unfold roomF
          rw [← this]; rfl
end Go.Proofs.Ytebnlhjakiipjaa.Pl
