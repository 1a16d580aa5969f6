/- What came in, opened by its type: a datum that can be read is a value of the kind, its numbers of their kinds, its texts and rows within the reach; how much it holds is told by a measure. General words for any program; no condition. -/
import Derived.Test.YtebnlhjakiipjaaWWords
import Derived.Deep.Slices
import Derived.OpenShut
import Derived.SizedLaws
set_option linter.unusedVariables false
namespace Go.Proofs.YtebnlhjakiipjaaW.XOpen
open Go.RowKit Go.Proofs.YtebnlhjakiipjaaW.PrintWords Go.Deep

/-- A measure of data: what a statement counts as bulk. -/
structure IsBulk (B : {H : Type} → DataW H → Nat) (BA : {H : Type} → List (DataW H) → Nat) : Prop where
  str : ∀ {H : Type} (b : List UInt8), b.length + 1 ≤ B (H := H) (.lit (.string b))
  one : ∀ {H : Type} (l : Lit), 1 ≤ B (H := H) (.lit l)
  nil : ∀ {H : Type}, 1 ≤ B (H := H) .nil
  slice : ∀ {H : Type} (e s : List (DataW H)), BA e + 1 ≤ B (.slice e s)
  agg : ∀ {H : Type} (p : List (DataW H)), BA p + 1 ≤ B (.agg p)
  acons : ∀ {H : Type} (d : DataW H) (r : List (DataW H)), B d + BA r ≤ BA (d :: r)

/-- No measure at all. -/
theorem isBulk_any : ∃ (B : {H : Type} → DataW H → Nat) (BA : {H : Type} → List (DataW H) → Nat), IsBulk B BA := by
  refine ⟨fun {H} d => DataW.rec (motive_1 := fun _ => Nat) (motive_2 := fun _ => Nat) (motive_3 := fun _ => Nat) (motive_4 := fun _ => Nat)
    (fun l => match l with | .string b => b.length + 1 | _ => 1) 1 (fun _ n => n + 1) (fun _ _ a _ => a + 1) (fun _ a => a + 1) (fun _ _ a => a + 1) (fun _ a => a + 1) (fun _ => 1) 0 (fun _ _ a b => a + b) 0 (fun _ _ a b => a + b) (fun _ _ a => a) d,
    fun {H} l => DataW.rec_1 (motive_1 := fun _ => Nat) (motive_2 := fun _ => Nat) (motive_3 := fun _ => Nat) (motive_4 := fun _ => Nat)
    (fun l => match l with | .string b => b.length + 1 | _ => 1) 1 (fun _ n => n + 1) (fun _ _ a _ => a + 1) (fun _ a => a + 1) (fun _ _ a => a + 1) (fun _ a => a + 1) (fun _ => 1) 0 (fun _ _ a b => a + b) 0 (fun _ _ a b => a + b) (fun _ _ a => a) l, ?_⟩
  constructor
  · intro H b; exact Nat.le_refl _
  · intro H l; cases l <;> first | exact Nat.le_refl _ | exact Nat.le_add_left _ _
  · intro H; exact Nat.le_refl _
  · intro H e s; exact Nat.le_refl _
  · intro H p; exact Nat.le_refl _
  · intro H d r; exact Nat.le_refl _

section
variable (B : {H : Type} → DataW H → Nat) (BA : {H : Type} → List (DataW H) → Nat) {P : Program}

/-- A datum of type t is a value of the kind d, of which W holds, of measure m. -/
def Opens {α : Type} (P : Program) (t : TypeId) (d : Kd α) (W : α → Prop) (m : α → Nat) : Prop :=
  ∀ {H : Type} (enc : TypeId × Value → H) (w : World) (base : Nat) (spare : Nat → Bool) (held : Bool) (fuel : Nat) (cs : List Value) (x : DataW H × List MemPlace),
    DataW.trod enc P w base spare held fuel t cs = some x → (∀ n ∈ DataW.weights P t x.1, n ≤ reachBytes) → ∃ a, d.K w a cs ∧ W a ∧ m a ≤ B x.1

/-- The fields of a struct, from cell o on. -/
def FieldsOpen {α : Type} (P : Program) (o : Nat) (fs : List (TypeId × Nat)) (d : Kd α) (W : α → Prop) (m : α → Nat) : Prop :=
  ∀ {H : Type} (enc : TypeId × Value → H) (w : World) (base : Nat) (spare : Nat → Bool) (held : Bool) (n : Nat) (cs : List Value) (xs : List (DataW H × List MemPlace)),
    xs.length = fs.length → (∀ (i : Nat) (f : TypeId × Nat), fs[i]? = some f → DataW.trod enc P w base spare held n f.1 ((cs.drop f.2).take (P.cellsOf f.1)) = xs[i]?) → cs.length = o + d.sz →
    (∀ k ∈ DataW.weightsEach P (fs.map (·.1)) (xs.map (·.1)), k ≤ reachBytes) → ∃ a, d.K w a (cs.drop o) ∧ W a ∧ m a ≤ BA (xs.map (·.1))

variable {B BA}
theorem opens_int (hB : IsBulk B BA) {t : TypeId} {k : IntKind} (ht : P.underlying t = some (.int k)) : Opens B P t (Kd.int k) (fun n => (Lit.int k n).wf = true) (fun _ => 1) := by
  intro H enc w base spare held fuel cs x h _
  obtain ⟨n, rfl, rfl, hw⟩ := DataW.trod_int ht h
  exact ⟨n, rfl, hw, hB.one _⟩
theorem opens_bool (hB : IsBulk B BA) {t : TypeId} (ht : P.underlying t = some .bool) : Opens B P t Kd.bool (fun _ => True) (fun _ => 1) := by
  intro H enc w base spare held fuel cs x h _
  obtain ⟨b, rfl, rfl⟩ := DataW.trod_bool ht h
  exact ⟨b, rfl, trivial, hB.one _⟩
theorem opens_string (hB : IsBulk B BA) {t : TypeId} (ht : P.underlying t = some .string) : Opens B P t Kd.string (fun s => s.size ≤ 140737488351232) (fun s => s.size + 1) := by
  intro H enc w base spare held fuel cs x h hn
  obtain ⟨s, rfl, rfl, hs⟩ := DataW.trod_string ht h
  have h1 := hn s.data.toList.length (by simp [DataW.weights])
  have e : s.data.toList.length = s.size := by simp
  refine ⟨s, rfl, by rw [e] at h1; exact h1, ?_⟩
  have := hB.str (H := H) s.data.toList
  rwa [e] at this

theorem weightsAll_mem {H : Type} {e : TypeId} : ∀ {l : List (DataW H)} {d : DataW H}, d ∈ l → ∀ n ∈ d.weights P e, n ∈ DataW.weightsAll P e l
  | _ :: _, _, .head _, n, hn => by rw [DataW.weightsAll]; exact List.mem_append.2 (.inl hn)
  | _ :: _, _, .tail _ h, n, hn => by rw [DataW.weightsAll]; exact List.mem_append.2 (.inr (weightsAll_mem h n hn))

/-- What is told of each element of a list is told of a list. -/
theorem listed {α : Type} {n : Nat} {R : Nat → α → Prop} (h : ∀ i, i < n → ∃ x, R i x) : ∃ l : List α, l.length = n ∧ ∀ (i : Nat) (x : α), l[i]? = some x → R i x := by
  induction n with
  | zero => exact ⟨[], rfl, fun i x hx => by simp at hx⟩
  | succ n ih =>
    obtain ⟨l, hl, hR⟩ := ih (fun i hi => h i (by omega))
    obtain ⟨x, hx⟩ := h n (by omega)
    refine ⟨l ++ [x], by simp [hl], fun i y hy => ?_⟩
    by_cases hi : i < n
    · rw [List.getElem?_append_left (by omega)] at hy; exact hR i y hy
    · have : i = n := by
        have := (List.getElem?_eq_some_iff.1 hy).1
        simp at this; omega
      subst this
      rw [List.getElem?_append_right (by omega), hl] at hy
      simp at hy; subst hy; exact hx

def sum {α : Type} (m : α → Nat) : List α → Nat
  | [] => 0
  | x :: r => m x + sum m r
theorem sum_le (hB : IsBulk B BA) {α H : Type} {m : α → Nat} : ∀ {l : List α} {ds : List (DataW H)}, l.length = ds.length → (∀ (i : Nat) (x : α) (d : DataW H), l[i]? = some x → ds[i]? = some d → m x ≤ B d) → sum m l ≤ BA ds
  | [], [], _, _ => Nat.zero_le _
  | x :: l, d :: ds, hl, h => by
    have h0 := h 0 x d rfl rfl
    have hr := sum_le hB (m := m) (l := l) (ds := ds) (by simpa using hl) (fun i y e hy he => h (i + 1) y e (by simpa using hy) (by simpa using he))
    have := hB.acons d ds
    rw [sum]; omega
  | [], _ :: _, hl, _ => by simp at hl
  | _ :: _, [], hl, _ => by simp at hl

/-- A row of what can be opened. -/
def RowOf {α : Type} (W : α → Prop) (bytes : Nat) (l : List α) : Prop := l.length ≤ 9223372036854775807 ∧ l.length * bytes ≤ 140737488351232 ∧ ∀ x ∈ l, W x
theorem opens_slice (hB : IsBulk B BA) {α : Type} {t e : TypeId} {d : Kd α} {W : α → Prop} {m : α → Nat} {bytes : Nat} (ht : P.underlying t = some (.slice e)) (hc : P.cellsOf e = d.sz) (hb : P.bytesOf e = bytes) (h : Opens B P e d W m) :
    Opens B P t (Kd.slice e d) (RowOf W bytes) (fun l => sum m l + 1) := by
  intro H enc w base spare held fuel cs x hx hn
  rcases DataW.trod_slice ht hx with ⟨rfl, rfl⟩ | ⟨a, len, cap, elems, rest, n, rfl, rfl, rfl, hbl, hlen, hcap, hel, hget, _⟩
  · refine ⟨[], ⟨none, 0, rfl, Nat.le_refl _, by simp, by simp, fun h0 => absurd h0 (by simp)⟩, ⟨by simp, by simp, by simp⟩, ?_⟩
    exact hB.nil
  · have hw0 := hn ((elems.length + rest.length) * P.bytesOf e) (by simp [DataW.weights, ht])
    have hel' : ∀ i, i < len → ∃ y : α, (∃ c, c.length = d.sz ∧ d.K w y c ∧ ∀ j u, c[j]? = some u → w.cell? (a.add (i * d.sz + j)) = some u) ∧ W y ∧ ∀ q, elems[i]? = some q → m y ≤ B q.1 := by
      intro i hi
      have hg := hget i hi
      have hlt : i < elems.length := by omega
      rw [List.getElem?_eq_getElem hlt] at hg
      obtain ⟨c, hcs, htr⟩ := Option.bind_eq_some_iff.1 hg
      obtain ⟨_, hcl, hcell⟩ := World.cells?_some hcs
      obtain ⟨y, hK, hW, hm⟩ := h enc w base spare held n c _ htr (fun k hk => hn k (by
        simp only [DataW.weights, ht, List.mem_cons, List.mem_append]
        exact .inr (.inl (weightsAll_mem (d := elems[i].1) (List.mem_map.2 ⟨elems[i], List.getElem_mem hlt, rfl⟩) k hk))))
      refine ⟨y, ⟨c, by rw [hcl, hc], hK, fun j u hj => ?_⟩, hW, fun q hq => ?_⟩
      · have hjl := (List.getElem?_eq_some_iff.1 hj).1
        have := hcell j (by omega)
        rw [hj, hc] at this
        rw [← this]
        congr 1
        rcases a with ⟨ab, ao, asp⟩
        unfold Addr.add
        repeat' split
        all_goals simp_all <;> omega
      · rw [List.getElem?_eq_getElem hlt] at hq
        obtain rfl := Option.some.inj hq
        exact hm
    obtain ⟨l, hl, hR⟩ := listed hel'
    have hmx : len ≤ 9223372036854775807 := by have : cap ≤ 9223372036854775807 := hcap; omega
    refine ⟨l, ⟨some a, cap, by rw [hl], by omega, rfl, by omega, fun h0 => ⟨a, rfl, fun j p hj => (hR j p hj).1⟩⟩, ⟨by omega, ?_, fun y hy => ?_⟩, ?_⟩
    · have : l.length * bytes ≤ (elems.length + rest.length) * P.bytesOf e := by rw [hb, hl]; exact Nat.mul_le_mul_right _ (by omega)
      exact Nat.le_trans this hw0
    · obtain ⟨i, hi, rfl⟩ := List.mem_iff_getElem.1 hy
      exact (hR i _ (List.getElem?_eq_getElem hi)).2.1
    · have h1 : sum m l ≤ BA (elems.map (·.1)) := sum_le hB (by simp [hl, hel]) (fun i y q hy hq => by
        rw [List.getElem?_map, Option.map_eq_some_iff] at hq
        obtain ⟨q', hq', rfl⟩ := hq
        exact (hR i y hy).2.2 q' hq')
      exact Nat.le_trans (Nat.succ_le_succ h1) (hB.slice (elems.map (·.1)) (rest.map (·.1)))

theorem fields_one (hB : IsBulk B BA) {α : Type} {o : Nat} {t : TypeId} {d : Kd α} {W : α → Prop} {m : α → Nat} (hc : P.cellsOf t = d.sz) (h : Opens B P t d W m) : FieldsOpen BA P o [(t, o)] d W m := by
  intro H enc w base spare held n cs xs hl hx hcs hn
  match xs, hl with
  | [x], _ =>
    have h0 := hx 0 (t, o) rfl
    have e : (cs.drop o).take (P.cellsOf t) = cs.drop o := List.take_of_length_le (by rw [List.length_drop, hc]; omega)
    rw [e] at h0
    obtain ⟨a, hK, hW, hm⟩ := h enc w base spare held n _ x h0 (fun k hk => hn k (by simp [DataW.weightsEach, hk]))
    exact ⟨a, hK, hW, Nat.le_trans hm (Nat.le_trans (Nat.le_add_right _ _) (hB.acons x.1 ([] : List (DataW H))))⟩
theorem fields_cons (hB : IsBulk B BA) {α β : Type} {o : Nat} {t : TypeId} {fs : List (TypeId × Nat)} {d : Kd α} {d2 : Kd β} {W : α → Prop} {W2 : β → Prop} {m : α → Nat} {m2 : β → Nat} (hc : P.cellsOf t = d.sz) (h : Opens B P t d W m) (h2 : FieldsOpen BA P (o + d.sz) fs d2 W2 m2) :
    FieldsOpen BA P o ((t, o) :: fs) (Kd.pair d d2) (fun x => W x.1 ∧ W2 x.2) (fun x => m x.1 + m2 x.2) := by
  intro H enc w base spare held n cs xs hl hx hcs hn
  match xs, hl with
  | x :: xs, hl =>
    have h0 := hx 0 (t, o) rfl
    have hcs' : cs.length = o + (d.sz + d2.sz) := hcs
    obtain ⟨a, hK, hW, hm⟩ := h enc w base spare held n _ x h0 (fun k hk => hn k (by simp [DataW.weightsEach, hk]))
    obtain ⟨b, hK2, hW2, hm2⟩ := h2 enc w base spare held n cs xs (by simpa using hl) (fun i f hf => by have := hx (i + 1) f (by simpa using hf); simpa using this) (by omega)
      (fun k hk => hn k (by simp [DataW.weightsEach, hk]))
    refine ⟨(a, b), ⟨_, _, ?_, hK, hK2⟩, ⟨hW, hW2⟩, ?_⟩
    · rw [hc, ← List.drop_drop, List.take_append_drop]
    · exact Nat.le_trans (Nat.add_le_add hm hm2) (hB.acons x.1 (xs.map (·.1)))
theorem opens_struct (hB : IsBulk B BA) {α : Type} {t : TypeId} {fs : Array Field} {d : Kd α} {W : α → Prop} {m : α → Nat} (ht : P.underlying t = some (.struct fs)) (l : List (TypeId × Nat)) (hl : fs.toList.map (fun f => (f.type, f.offset)) = l) (hc : P.cellsOf t = d.sz)
    (h : FieldsOpen BA P 0 l d W m) : Opens B P t d W (fun a => m a + 1) := by
  subst hl
  intro H enc w base spare held fuel cs x hx hn
  obtain ⟨xs, n, rfl, rfl, hcs, hxl, hget⟩ := DataW.trod_struct ht hx
  obtain ⟨a, hK, hW, hm⟩ := h enc w base spare held n cs xs (by simp [hxl]) (fun i f hf => by
      rw [List.getElem?_map, Option.map_eq_some_iff] at hf
      obtain ⟨f', hf', rfl⟩ := hf
      exact hget i f' (by simpa using hf')) (by omega) (fun k hk => hn k (by
        simp only [DataW.weights, ht]
        simpa [Function.comp_def] using hk))
  refine ⟨a, by simpa using hK, hW, ?_⟩
  exact Nat.le_trans (Nat.succ_le_succ hm) (hB.agg (xs.map (·.1)))
theorem weightsEach_all {H : Type} {e : TypeId} : ∀ {l : List (DataW H)} {fs : List TypeId}, (∀ t ∈ fs, t = e) → ∀ n ∈ DataW.weightsEach P fs l, n ∈ DataW.weightsAll P e l
  | [], [], _, n, hn => by simp [DataW.weightsEach] at hn
  | [], _ :: _, _, n, hn => by simp [DataW.weightsEach] at hn
  | _ :: _, [], _, n, hn => by simp [DataW.weightsEach] at hn
  | d :: l, t :: fs, h, n, hn => by
    rw [DataW.weightsEach] at hn
    rw [DataW.weightsAll]
    rcases List.mem_append.1 hn with hn | hn
    · rw [h t (by simp)] at hn; exact List.mem_append.2 (.inl hn)
    · exact List.mem_append.2 (.inr (weightsEach_all (fun t ht => h t (by simp [ht])) n hn))
theorem opens_array (hB : IsBulk B BA) {α : Type} {t e : TypeId} {n : Nat} {d : Kd α} {W : α → Prop} {m : α → Nat} (ht : P.underlying t = some (.array n e)) (l : List (TypeId × Nat)) (hl : (List.range n).map (fun i => (e, i * P.cellsOf e)) = l) (hc : P.cellsOf t = d.sz)
    (h : FieldsOpen BA P 0 l d W m) : Opens B P t d W (fun a => m a + 1) := by
  subst hl
  intro H enc w base spare held fuel cs x hx hn
  obtain ⟨xs, k, rfl, rfl, hcs, hxl, hget⟩ := DataW.trod_array ht hx
  obtain ⟨a, hK, hW, hm⟩ := h enc w base spare held k cs xs (by simp [hxl]) (fun i f hf => by
      rw [List.getElem?_map, Option.map_eq_some_iff] at hf
      obtain ⟨j, hj, rfl⟩ := hf
      obtain ⟨hjl, rfl⟩ := List.getElem?_eq_some_iff.1 hj
      simp at hjl ⊢
      exact hget i hjl) (by omega) (fun q hq => hn q (by
        simp only [DataW.weights, ht]
        exact weightsEach_all (fun t ht => by simp at ht; exact ht.2.symm) q hq))
  refine ⟨a, by simpa using hK, hW, ?_⟩
  exact Nat.le_trans (Nat.succ_le_succ hm) (hB.agg (xs.map (·.1)))
theorem opens_iso {α β : Type} {t : TypeId} {d : Kd α} {W : α → Prop} {m : α → Nat} (f : β → α) (hf : ∀ a, ∃ b, f b = a) (h : Opens B P t d W m) : Opens B P t (Kd.iso d f) (fun b => W (f b)) (fun b => m (f b)) := by
  intro H enc w base spare held fuel cs x hx hn
  obtain ⟨a, hK, hW, hm⟩ := h enc w base spare held fuel cs x hx hn
  obtain ⟨b, rfl⟩ := hf a
  exact ⟨b, hK, hW, hm⟩
end

/-- A whole argument. -/
theorem open_arg {B : {H : Type} → DataW H → Nat} {P : Program} {α H : Type} {t : TypeId} {d : Kd α} {W : α → Prop} {m : α → Nat} (ho : Opens B P t d W m) {enc : TypeId × Value → H} {w : World} {base : Nat} {spare : Nat → Bool} {held : Bool} {v : Value} {x : DataW H} {ps : List MemPlace}
    (h : DataW.Trod enc P w base spare held t v x ps) {ts : List TypeId} {ds : List (DataW H)} (hs : (DataW.weightsEach P ts ds).all (· ≤ reachBytes) = true) {j : Nat} (hj : ts[j]? = some t) (hd : ds[j]? = some x) :
    ∃ a, d.K w a v.cells.toList ∧ W a ∧ m a ≤ B x := by
  obtain ⟨fuel, hf⟩ := h
  exact ho enc w base spare held fuel _ _ hf (fun n hn => by simpa using List.all_eq_true.1 hs _ (DataW.weights_mem_each hj hd n hn))

/-! ### arrays held against each other -/
section
variable {P : Program} {w : World} {d e n j : Nat} {xs ys : Array Value} {is : List Nat} {a b : Value} {r s : Bool}
theorem eqi_cons (ha : (part e xs (j * n)).run P w = .ok a w) (hb : (part e ys (j * n)).run P w = .ok b w) (he : (Op.equalIn d e a b).run P w = .ok r w) (hr : (Op.eqItems d e n xs ys is).run P w = .ok s w) : (Op.eqItems d e n xs ys (j :: is)).run P w = .ok (r && s) w := by
  rw [Op.eqItems]
  simp only [Sem.run_bind, ha, hb, he, Result.andThen_ok]
  cases r
  · simp
  · simpa using hr
theorem eqi_last (ha : (part e xs (j * n)).run P w = .ok a w) (hb : (part e ys (j * n)).run P w = .ok b w) (he : (Op.equalIn d e a b).run P w = .ok r w) : (Op.eqItems d e n xs ys [j]).run P w = .ok r w := by
  have h := eqi_cons (is := []) (s := true) ha hb he (by simp [Op.eqItems])
  rwa [Bool.and_true] at h
end
end Go.Proofs.YtebnlhjakiipjaaW.XOpen
namespace Go.Proofs
open Go.RowKit Go.Proofs.YtebnlhjakiipjaaW.PrintWords
theorem blk_new2 (w : World) (X Y : Obj) : ((w.alloc X).alloc Y).heap[w.heap.size + 1]? = some Y := by
  have h := blk_new (w.alloc X) Y
  have e : (w.alloc X).heap.size = w.heap.size + 1 := by simp
  rw [e] at h; exact h
theorem cell_blk {w : World} {b j t : Nat} {cs : Array Value} (h : w.heap[b]? = some (.cells cs t (0, 0))) (hj : j < cs.size) : w.cell? ⟨b, j, none⟩ = some cs[j] ∧ w.frozen? ⟨b, j, none⟩ = false := by
  unfold World.cell? World.frozen?
  rw [h]
  simp [hj]
end Go.Proofs
