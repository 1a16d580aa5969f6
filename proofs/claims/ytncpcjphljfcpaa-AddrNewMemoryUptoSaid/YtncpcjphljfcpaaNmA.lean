/- AddrNewMemory: rows of prefixes whose content is known: what an append leaves; what the callees answer. Plain words over the kit's laws; the callees' contracts hold of addresses (below 2^32). -/
import Derived.Test.YtncpcjphljfcpaaNMrgEv
import Derived.Test.YtncpcjphljfcpaaXOpen
import Derived.Deep.DeepCutAuto
import Derived.Deep.CutBlock
import Derived.Deep.LoopGhost
set_option linter.unusedVariables false
set_option linter.unusedSimpArgs false
namespace Go.Proofs.Ytncpcjphljfcpaa.Nm
open Go.RowKit Go.Proofs.YtncpcjphljfcpaaW.PrintWords Go.Proofs.Ytncpcjphljfcpaa.PNmm Go.Proofs.Ytncpcjphljfcpaa.Pure
/-- nothing that was there has turned but blocks of F -/
structure Turn (w w' : World) (F : List Nat) : Prop where
  os : w'.os = w.os
  tape : w'.tape = w.tape
  output : w'.output = w.output
  size : w.heap.size ≤ w'.heap.size
  block : ∀ k, k < w.heap.size → k ∉ F → w'.heap[k]? = w.heap[k]?
section
variable {w w1 w2 : World} {F : List Nat}
theorem Turn.refl (w : World) (F : List Nat) : Turn w w F := ⟨rfl, rfl, rfl, Nat.le_refl _, fun _ _ _ => rfl⟩
theorem Turn.trans {G : List Nat} (h : Turn w w1 F) (k : Turn w1 w2 G) (hG : ∀ b, b ∈ G → b ∈ F ∨ w.heap.size ≤ b) : Turn w w2 F :=
  ⟨k.os.trans h.os, k.tape.trans h.tape, k.output.trans h.output, Nat.le_trans h.size k.size, fun i hi hF => (k.block i (Nat.lt_of_lt_of_le hi h.size) (fun hg => by
    rcases hG i hg with h1 | h1
    · exact hF h1
    · omega)).trans (h.block i hi hF)⟩
theorem Turn.mono {G : List Nat} (h : Turn w w1 F) (hG : ∀ b, b ∈ F → b ∈ G) : Turn w w1 G := ⟨h.os, h.tape, h.output, h.size, fun i hi hF => h.block i hi (fun hf => hF (hG i hf))⟩
theorem Turn.of_below (h : Below w.heap.size w w1) (F : List Nat) : Turn w w1 F := ⟨h.os, h.tape, h.output, h.size, fun i hi _ => h.block i hi⟩
theorem Turn.below {B : Nat} (h : Turn w w1 F) (hB : B ≤ w.heap.size) (hF : ∀ b, b ∈ F → B ≤ b) : Below B w w1 := ⟨h.os, h.tape, h.output, h.size, fun i hi => h.block i (by omega) (fun hf => by have := hF i hf; omega)⟩
theorem Turn.of_grown {row : Option Nat} (h : w.grownBy w1 row) (hF : ∀ b, row = some b → b ∈ F) : Turn w w1 F := ⟨h.os, h.tape, h.output, h.size, fun i hi hf => h.block i hi (fun e => hf (hF i e.symm))⟩
theorem Turn.set (h : Turn w w1 F) {p : Addr} (hp : p.block ∈ F ∨ w.heap.size ≤ p.block) (u : Value) : Turn w (w1.setCell p u) F := by
  refine ⟨h.os, h.tape, h.output, by have := h.size; simpa [World.setCell] using this, fun i hi hf => (Below.heap_setCell w1 p u i (fun e => ?_)).trans (h.block i hi hf)⟩
  subst e
  rcases hp with hp | hp
  · exact hf hp
  · omega
end
theorem wrap64_id {x : Int} (h0 : 0 ≤ x) (h1 : x < 9223372036854775808) : IntKind.i64.wrap x = x := by
  simp [IntKind.wrap, IntKind.bits, IntKind.signed]; omega
theorem wrap32_id {x : Int} (h0 : 0 ≤ x) (h1 : x < 4294967296) : IntKind.u32.wrap x = x := by
  simp [IntKind.wrap, IntKind.bits, IntKind.signed]; omega
/-- append as a step, its run told -/
theorem wpList_append_run {P : Program} {w w1 : World} {ops : Array Oper} {rest : List Oper} {o : Oper} {a : Act} {Q : Exit → Act → World → Prop} (hgd : o.guard = none) (s x : Operand) (t : TypeId)
    (ho : o.op = .call { callee := .builtin .append, args := #[s, x], argTypes := #[t, t] }) {v1 v2 r : Value} (hs : a.eval s = v1) (hx : a.eval x = v2) (hrun : (Builtin.append_ #[t, t] o.type #[v1, v2]).run P w = .ok r w1)
    (h : wpList P ops Q rest (a.put o.dst r) w1) : wpList P ops Q (o :: rest) a w := by
  refine wpList_plain hgd fun K hK => ?_
  unfold Oper.wp execOp
  simp only [ho, resolve, invoke, builtin, Sem.run_bind, Sem.run_pure, Result.andThen_ok, List.map_toArray, List.map_cons, List.map_nil, hs, hx, hrun]
  exact hK _ _ h
/-! ### the cells of a list of prefixes -/
def pfC : List S32 → List Value
  | [] => []
  | x :: r => .int .u32 x.f0 :: .int .i64 x.f1 :: pfC r
theorem pfC_length : ∀ l : List S32, (pfC l).length = l.length * 2
  | [] => rfl
  | x :: r => by simp only [pfC, List.length_cons, pfC_length r]; omega
theorem pfC_append : ∀ a b : List S32, pfC (a ++ b) = pfC a ++ pfC b
  | [], b => rfl
  | x :: r, b => by simp only [pfC, List.cons_append, pfC_append r b]
theorem pfC_cells : ∀ (l : List S32), ∀ u ∈ pfC l, u.oneCell' = true
  | [], u, h => by cases h
  | x :: r, u, h => by
    simp only [pfC, List.mem_cons] at h
    rcases h with rfl | rfl | h
    · rfl
    · rfl
    · exact pfC_cells r u h
theorem pfC_get : ∀ (l : List S32) (i : Nat) (x : S32), l[i]? = some x → (pfC l)[i * 2]? = some (.int .u32 x.f0) ∧ (pfC l)[i * 2 + 1]? = some (.int .i64 x.f1)
  | [], i, x, h => by simp at h
  | y :: r, 0, x, h => by simp at h; subst h; exact ⟨rfl, rfl⟩
  | y :: r, i + 1, x, h => by
    have := pfC_get r i x (by simpa using h)
    rw [show (i + 1) * 2 = i * 2 + 1 + 1 from by omega]
    exact this
theorem pfC_drop : ∀ (l : List S32) (i : Nat), (pfC l).drop (i * 2) = pfC (l.drop i)
  | [], i => by simp [pfC]
  | y :: r, 0 => rfl
  | y :: r, i + 1 => by rw [show (i + 1) * 2 = i * 2 + 1 + 1 from by omega]; simp only [pfC, List.drop_succ_cons]; exact pfC_drop r i
theorem pfC_take : ∀ (l : List S32) (i : Nat), (pfC l).take (i * 2) = pfC (l.take i)
  | [], i => by simp [pfC]
  | y :: r, 0 => rfl
  | y :: r, i + 1 => by rw [show (i + 1) * 2 = i * 2 + 1 + 1 from by omega]; simp only [pfC, List.take_succ_cons, pfC_take r i]
theorem reps_pfC {R : S32 → List Value → Prop} (hR : ∀ x c, R x c → c = [.int .u32 x.f0, .int .i64 x.f1]) : ∀ {xs : List S32} {cs : List Value}, Reps R 2 xs cs → cs = pfC xs
  | [], cs, h => by have := h.1; simp at this; exact this
  | x :: r, cs, h => by
    have h1 := h.1
    have h2 := hR _ _ (h.2 0 x rfl)
    simp only [Nat.zero_mul, List.drop_zero] at h2
    have h3 : Reps R 2 r (cs.drop 2) := ⟨by rw [List.length_drop, h1, List.length_cons]; omega, fun j p hj => by
      have := h.2 (j + 1) p (by simpa using hj)
      rw [List.drop_drop, show 2 + j * 2 = (j + 1) * 2 from by omega]
      exact this⟩
    have h4 := reps_pfC hR h3
    rw [← List.take_append_drop 2 cs, h2, h4]
    rfl
theorem pfC_reps (w : World) : ∀ xs : List S32, Reps (k32.K w) 2 xs (pfC xs) := fun xs => ⟨pfC_length xs, fun j p hj => by
  obtain ⟨a, b⟩ := pfC_get xs j p hj
  obtain ⟨ha, hb⟩ := List.getElem?_eq_some_iff.1 a
  obtain ⟨hc, hd⟩ := List.getElem?_eq_some_iff.1 b
  rw [List.drop_eq_getElem_cons ha, List.drop_eq_getElem_cons hc, hb, hd]
  exact k32_mk w p⟩
/-- a row of the caller's own that holds xs -/
def Row (w : World) (base : Nat) (v : Value) (xs : List S32) : Prop := w.ownsRow base 32 2 v xs.length (pfC xs)
section
variable {w w1 : World} {base : Nat} {v : Value} {xs ys : List S32}
theorem Row.of_R {ok : Nat → Prop} (h : Kd.R k32 32 w base ok v xs) : Row w base v xs := by
  obtain ⟨_, inner, ho, hr⟩ := h
  have e := reps_pfC (fun x c hx => k32_openM hx) hr
  subst e
  exact ho
theorem Row.C (h : Row w base v xs) : ∃ A c, v = .slice A xs.length c ∧ xs.length ≤ c ∧ Kd.C k32 w A xs.length xs := by
  obtain ⟨A, c, e, hC⟩ := own_reads_row h (pfC_reps w xs) rfl
  subst e
  exact ⟨A, c, rfl, own_cap h, hC⟩
theorem Row.low (h : Row w base v xs) : Row w 0 v xs := own_less h (Nat.zero_le _)
theorem Row.step (h : Row w base v xs) (hb : ∀ k, v.ownBlock = some k → w1.heap[k]? = w.heap[k]?) : Row w1 base v xs := own_move h hb
theorem Row.lt (h : Row w base v xs) : ∀ k, v.ownBlock = some k → base ≤ k ∧ k < w.heap.size := fun k hk => ⟨own_base h k hk, own_lt h k hk⟩
theorem Row.below (h : Row w base v xs) (hb : Below w.heap.size w w1) : Row w1 base v xs := h.step fun k hk => hb.block k (h.lt k hk).2
theorem Row.nil (w : World) (base : Nat) : Row w base (.slice none 0 0) [] := own_nil _ _ _ _
theorem Row.turn {F : List Nat} (h : Row w base v xs) (ht : Turn w w1 F) (hF : ∀ k, v.ownBlock = some k → k ∉ F) : Row w1 base v xs := h.step fun k hk => ht.block k (h.lt k hk).2 (hF k hk)
theorem Row.len (h : Row w base v xs) : xs.length ≤ maxLen := by
  rcases h.2 with ⟨_, h1⟩ | ⟨g, cap, cur, _, _, _, h1, h2, _⟩
  · rw [h1]; exact Nat.zero_le _
  · exact Nat.le_trans h1 h2
/-- what a row's block holds from its first element on -/
theorem Row.prefix_ {g n c : Nat} (h : Row w base (.slice (some ⟨g, 0, none⟩) (xs ++ ys).length c) (xs ++ ys)) (hn : n = xs.length) : Row w base (.slice (some ⟨g, 0, none⟩) n c) xs := by
  subst hn
  rcases h.2 with ⟨h1, _⟩ | ⟨g', cap, cur, h1, h2, h3, h4, h5, h6, h7⟩
  · cases h1
  · injection h1 with e1 e2 e3
    injection e1 with e1
    injection e1 with e1
    subst e1 e3
    have hl : xs.length ≤ (xs ++ ys).length := by simp
    refine ⟨pfC_length xs, .inr ⟨g, c, cur, rfl, h2, h3, Nat.le_trans hl h4, h5, h6, ?_⟩⟩
    have e : (cur.toList.take ((xs ++ ys).length * 2)).take (xs.length * 2) = cur.toList.take (xs.length * 2) := by
      rw [List.take_take, Nat.min_eq_left (Nat.mul_le_mul_right 2 hl)]
    rw [← e, h7, pfC_append, ← pfC_length xs, List.take_left]
/-- the elements from the k-th on, as they are read -/
theorem Row.tail {g n c : Nat} {xs ys : List S32} (h : Row w base (.slice (some ⟨g, 0, none⟩) (xs ++ ys).length c) (xs ++ ys)) : Kd.C k32 w (some ⟨g, xs.length * 2, none⟩) ys.length ys := by
  have hl := h.len
  refine ⟨rfl, by unfold maxLen at hl; rw [List.length_append] at hl; omega, fun h0 => ⟨⟨g, xs.length * 2, none⟩, rfl, fun j p hj => ?_⟩⟩
  have hj' : (xs ++ ys)[xs.length + j]? = some p := by rw [List.getElem?_append_right (by omega), Nat.add_sub_cancel_left]; exact hj
  obtain ⟨a, b⟩ := pfC_get (xs ++ ys) (xs.length + j) p hj'
  refine ⟨[.int .u32 p.f0, .int .i64 p.f1], rfl, k32_mk w p, fun i u hu => ?_⟩
  have ca := h.cells (g := g) rfl _ _ a
  have cb := h.cells (g := g) rfl _ _ b
  rw [add_plain] at ca cb
  have e2 : k32.sz = 2 := rfl
  have key : ∀ m, (⟨g, xs.length * 2, none⟩ : Addr).add m = ⟨g, xs.length * 2 + m, none⟩ := fun m => by
    unfold Addr.add
    split <;> simp_all
  rw [e2, key]
  match i, hu with
  | 0, hu =>
    have : u = .int .u32 p.f0 := by simpa using hu.symm
    subst this
    rw [show xs.length * 2 + (j * 2 + 0) = (xs.length + j) * 2 from by omega]
    exact ca
  | 1, hu =>
    have : u = .int .i64 p.f1 := by simpa using hu.symm
    subst this
    rw [show xs.length * 2 + (j * 2 + 1) = (xs.length + j) * 2 + 1 from by omega]
    exact cb
  | i + 2, hu => simp at hu
end
theorem info32 : (Try.prog.info? 32).map (fun i => (i.zero, i.size, i.bytes)) = some (some (.agg #[(.int .u32 0), (.int .i64 0)]), 2, 16) := by kernel_rfl
theorem info25 : (Try.prog.info? 25).map (fun i => (i.zero, i.size, i.bytes)) = some (some (.slice none 0 0), 1, 24) := by kernel_rfl
/-- an append to a row that is known: in its place while there is room, else a new block -/
theorem Row.app {w : World} {A : Option Addr} {c : Nat} {xs news : List S32} (h : Row w 0 (.slice A xs.length c) xs) (k : Nat) (hk : news.length = k) (h0 : 0 < k) (hn : xs.length + k ≤ 8796093022207) (a : Addr) (cc : Nat) (hnews : ∀ j u, (pfC news)[j]? = some u → w.cell? (a.add j) = some u) :
    ∃ w' g' c', (Builtin.append_ #[25, 25] 25 #[.slice A xs.length c, .slice (some a) k cc]).run Try.prog w = .ok (.slice (some ⟨g', 0, none⟩) (xs.length + k) c') w' ∧ Row w' 0 (.slice (some ⟨g', 0, none⟩) (xs ++ news).length c') (xs ++ news) ∧
      ((xs.length + k ≤ c ∧ c' = c ∧ A = some ⟨g', 0, none⟩ ∧ w.grownBy w' (some g')) ∨ (c < xs.length + k ∧ w.heap.size ≤ g' ∧ g' < w'.heap.size ∧ Below w.heap.size w w')) := by
  subst hk
  obtain ⟨i, hi, hzz⟩ := Option.map_eq_some_iff.1 info32
  simp only [Prod.mk.injEq] at hzz
  obtain ⟨hz, hs, hb⟩ := hzz
  obtain ⟨z, hze⟩ : ∃ z, z = Value.agg #[(.int .u32 0), (.int .i64 0)] := ⟨_, rfl⟩
  rw [← hze] at hz
  have hzs : z.cells.size = 2 := by rw [hze]; rfl
  clear hze
  have ht : Try.prog.underlying 25 = some (.slice 32) := Try.underlying25
  have h1 : ∀ u ∈ pfC news, u.oneCell' = true := pfC_cells news
  have hl : (pfC news).length = news.length * i.size := by rw [hs]; exact pfC_length news
  rcases h.2 with ⟨he, hl0⟩ | ⟨g, cap, cur, he, h2, h3, h4, h5, h6, h7⟩
  · injection he with e1 e2 e3
    subst e1 e3
    have hx : xs = [] := List.length_eq_zero_iff.1 hl0
    subst hx
    obtain ⟨v', w', hr, hown, hg, _, hloc⟩ := run_append_own_at (P := Try.prog) w 0 25 25 32 i _ 2 16 ht hi hz hs hb hzs (by omega) (.slice none 0 0) 0 [] (own_nil _ _ _ _) a news.length cc (pfC news) (pfC_length news) hnews h1 (by unfold maxLen; simp at hn; omega) (by simp at hn; omega) (Nat.zero_le _)
    rw [List.nil_append, Nat.zero_add] at hown
    obtain ⟨g', cap, rfl, _, _⟩ := hown.form h0
    simp only [List.length_nil, Nat.zero_add, List.nil_append]
    have hg' : g' = w.heap.size := by
      rcases hloc with hh | hh
      · cases hh
      · have h2 : some g' = some w.heap.size := hh
        injection h2
    subst hg'
    refine ⟨w', w.heap.size, cap, hr, hown, .inr ⟨h0, Nat.le_refl _, (own_lt hown _ rfl), ⟨hg.os, hg.tape, hg.output, hg.size, fun b hb2 => hg.block b hb2 (by simp [Value.ownBlock])⟩⟩⟩
  · injection he with e1 e2 e3
    subst e1 e3
    have htn : cur.toList.take (xs.length * i.size) = pfC xs := by rw [hs]; exact h7
    by_cases hroom : xs.length + news.length ≤ c
    · have hfit : xs.length * i.size + (pfC news).length ≤ cur.size := by rw [hl, hs, h6, ← Nat.add_mul]; exact Nat.mul_le_mul_right _ hroom
      have hr := run_append_room (P := Try.prog) w 25 25 32 i ht hi g xs.length c cur h3 a news.length cc (pfC news) hl hnews h1 hroom hfit
      refine ⟨_, g, c, hr, ⟨pfC_length _, .inr ⟨g, c, _, rfl, Nat.zero_le _, setRow_heap w g cur _ 32 (0, 0) h3, by rw [List.length_append]; exact hroom, h5, ?_, ?_⟩⟩, .inl ⟨hroom, rfl, rfl, ⟨rfl, rfl, rfl, by simp, fun k _ hk => setRow_other w g k _ (fun e => hk (by rw [e]))⟩⟩⟩
      · simp only [List.size_toArray, List.length_append, List.length_take, List.length_drop, Array.length_toList]
        omega
      · show List.take ((xs ++ news).length * 2) (cur.toList.take (xs.length * i.size) ++ pfC news ++ cur.toList.drop (xs.length * i.size + (pfC news).length)) = _
        rw [htn, ← pfC_append, ← pfC_length (xs ++ news), List.take_left]
    · have hown : w.ownsRow 0 32 2 (.slice (some ⟨g, 0, none⟩) xs.length c) xs.length (pfC xs) := h
      have holds : ∀ j u, (pfC xs)[j]? = some u → w.cell? ((⟨g, 0, none⟩ : Addr).add j) = some u := hown.cells (g := g) rfl
      have hr := run_append_grow (P := Try.prog) w 25 25 32 i _ ht hi hz ⟨g, 0, none⟩ xs.length c (pfC xs) (by rw [hs]; exact pfC_length xs) holds a news.length cc (pfC news) hl hnews (by omega) (by omega) (growslice_fits (by omega) (by rw [hb]; omega))
      have hge := grownCap_ge w (xs.length + news.length) c 32
      have hcm : grownCap w (xs.length + news.length) c 32 ≤ maxLen := grownCap_le_maxLen w (xs.length + news.length) c 32 (by unfold maxLen; omega)
      have hbel : Below w.heap.size w (w.drew.alloc (.cells ((pfC xs).toArray ++ (pfC news).toArray ++ Builtin.zeroCells z.cells (grownCap w (xs.length + news.length) c 32 - (xs.length + news.length))) 32)) := (Below.refl _ _).drew.alloc (Nat.le_refl _) _
      refine ⟨_, w.heap.size, _, hr, ⟨pfC_length _, .inr ⟨w.heap.size, _, _, rfl, Nat.zero_le _, heap_alloc_new w.drew _, by rw [List.length_append]; exact hge, hcm, ?_, ?_⟩⟩, .inr ⟨by omega, Nat.le_refl _, by rw [World.size_alloc]; exact Nat.lt_succ_self _, hbel⟩⟩
      · rw [Array.size_append, Array.size_append, List.size_toArray, List.size_toArray, size_zeroCells, hzs, pfC_length, pfC_length, ← Nat.add_mul, ← Nat.add_mul]
        exact congrArg (· * 2) (by omega)
      · simp only [Array.toList_append, List.append_assoc]
        rw [← List.append_assoc, ← pfC_append, ← pfC_length (xs ++ news)]
        exact List.take_left
end Go.Proofs.Ytncpcjphljfcpaa.Nm
