/- package ipam walked: Del. No condition beyond the state's own. -/
import Derived.Test.YtgabkifojnkbkaaIpmA
set_option linter.unusedVariables false
set_option linter.unusedSimpArgs false
namespace Go.Proofs.Ytgabkifojnkbkaa.Ip
open Go.RowKit Go.Maps Go.WideMaps Go.MapKept Go.Proofs.YtgabkifojnkbkaaW.PrintWords Go.Proofs.Ytgabkifojnkbkaa.PIpf
open Go.ChangeMaps (setBlock)
theorem turned_other {w w1 : World} {b c : Nat} (h : w.mapTurned w1 b) (hc : c ≠ b) : w1.heap[c]? = w.heap[c]? := by
  obtain ⟨es, clock, es', clock', hb, rfl⟩ := h
  exact set_other _ hc
theorem turned_turn {w w1 : World} {b : Nat} (h : w.mapTurned w1 b) : Turn w w1 [b] := Turn.of_grown h.grown (fun c hc => by injection hc with hc; simp [hc])
section
variable {ops : Array Oper} {rest : List Oper} {o : Oper} {a : Act} {Q : Exit → Act → World → Prop}
theorem delete_nm (w : World) (hg : o.guard = none) (m x : Operand) (hop : o.op = Op.call { callee := Callee.builtin Builtin.delete, args := #[m, x], argTypes := #[73, 9] }) {b n : Nat} {f : ByteArray → Option Int} (h : NM w b f n) {s : ByteArray} (hs : s.size ≤ maxLen) {r : Int} (hf : f s = some r)
    (hm : a.eval m = .map (some b)) (hx : a.eval x = .string s) (hK : ∀ w', NM w' b (delN f s) (n - 1) → w.mapTurned w' b → wpList Try.prog ops Q rest (a.put o.dst (.tuple #[])) w') : wpList Try.prog ops Q (o :: rest) a w := by
  obtain ⟨D, hown, hsz, hD⟩ := h
  obtain ⟨h1, h2⟩ := (hD s hs).2 r hf
  refine wpList_delete_own w hg m x 73 9 hop 23 lawS Try.underlying73 _ b n D hm hown _ _ hx (keyOf_string_mk Try.underlying9 hs) ?_
  intro w' hown' ht
  refine hK w' ⟨D.del (Lit.string s.data.toList), ?_, ?_, fun y hy => ?_⟩ ht
  · have hz := size_del (k := Lit.string s.data.toList) (hown.tidy lawS)
    rw [h1] at hz
    simp only [if_true, hsz] at hz
    have e : n - 1 = Maps.size (D.del (Lit.string s.data.toList)) := by omega
    rw [e]; exact ownsMap_tight hown'
  · have hz := size_del (k := Lit.string s.data.toList) (hown.tidy lawS)
    rw [h1] at hz
    simp only [if_true, hsz] at hz
    omega
  · unfold delN
    by_cases e : y = s
    · subst e
      rw [if_pos rfl]
      exact ⟨fun _ => has_del_same, fun a' ha' => by cases ha'⟩
    · rw [if_neg e, has_del_other (bytes_ne e)]
      refine ⟨(hD y hy).1, fun a' ha' => ⟨((hD y hy).2 a' ha').1, fun z => ?_⟩⟩
      rw [atKey_del_other (bytes_ne e)]
      exact ((hD y hy).2 a' ha').2 z
theorem delete_am (w : World) (hg : o.guard = none) (m x : Operand) (hop : o.op = Op.call { callee := Callee.builtin Builtin.delete, args := #[m, x], argTypes := #[74, 23] }) {b n : Nat} {f : Int → Option Int} (h : AM w b f n) {s : Int} (hs : (Lit.int .u32 s).wf = true) {r : Int} (hf : f s = some r)
    (hm : a.eval m = .map (some b)) (hx : a.eval x = .int .u32 s) (hK : ∀ w', AM w' b (delA f s) (n - 1) → w.mapTurned w' b → wpList Try.prog ops Q rest (a.put o.dst (.tuple #[])) w') : wpList Try.prog ops Q (o :: rest) a w := by
  obtain ⟨D, hown, hsz, hD⟩ := h
  obtain ⟨h1, h2⟩ := (hD s hs).2 r hf
  refine wpList_delete_own w hg m x 74 23 hop 3 lawA Try.underlying74 _ b n D hm hown _ _ hx (keyOf_int_mk Try.underlying23 hs) ?_
  intro w' hown' ht
  refine hK w' ⟨D.del (Lit.int .u32 s), ?_, ?_, fun y hy => ?_⟩ ht
  · have hz := size_del (k := Lit.int .u32 s) (hown.tidy lawA)
    rw [h1] at hz
    simp only [if_true, hsz] at hz
    have e : n - 1 = Maps.size (D.del (Lit.int .u32 s)) := by omega
    rw [e]; exact ownsMap_tight hown'
  · have hz := size_del (k := Lit.int .u32 s) (hown.tidy lawA)
    rw [h1] at hz
    simp only [if_true, hsz] at hz
    omega
  · unfold delA
    by_cases e : y = s
    · subst e
      rw [if_pos rfl]
      exact ⟨fun _ => has_del_same, fun a' ha' => by cases ha'⟩
    · have ne : Lit.int .u32 y ≠ Lit.int .u32 s := fun h => e (by injection h)
      rw [if_neg e, has_del_other ne]
      refine ⟨(hD y hy).1, fun a' ha' => ⟨((hD y hy).2 a' ha').1, fun z => ?_⟩⟩
      rw [atKey_del_other ne]
      exact ((hD y hy).2 a' ha').2 z
end
def delS (M : IpM) (s : ByteArray) (a t : Int) : IpM := { M with names := M.names.set t.toNat ⟨#[]⟩, spare := M.spare ++ [t], byN := delN M.byN s, byA := delA M.byA a, cnt := M.cnt - 1 }
/-- what Del answers -/
def delF (M : IpM) (s : ByteArray) : IpM × Int × Int := match M.byN s with | none => (M, 0, 3) | some a => match M.byA a with | none => (M, 0, 3) | some t => (delS M s a t, a, 0)
set_option maxHeartbeats 8000000 in
set_option maxRecDepth 100000 in
theorem del_none (w : World) (B b1 b2 : Nat) (vn vs : Value) (M : IpM) (s : ByteArray) (hs : s.size ≤ maxLen) (HS : IpS w B b1 b2 vn vs M) (hr : M.byN s = none) :
    Calls Try.prog 24 #[.pointer (some ⟨B, 0, none⟩), .string s] w fun e w' => e = .returned (.tuple #[.int .u32 0, .int .i64 3]) ∧ Below w.heap.size w w' := by
  have k5 : w.cell? ⟨B, 5, none⟩ = some (.map (some b1)) := HS.cell 5
  have HSS := Aside0.mk HS
  have hr := Aside0.mk hr
  clear HS
  go_enter Try.func24, Try.ntmps24
  go_wp2_with (first | (at_lookup; refine look_nm_none _ rfl _ _ rfl HSS.out.m1 hs hr.out rfl rfl ?_) | go_in)
  go_ret2
  exact ⟨rfl, Below.refl _ _⟩
theorem ownsRow_val {w : World} {base e size n : Nat} {v : Value} {xs ys : List Value} (h : w.ownsRow base e size v n xs) (hx : xs = ys) : w.ownsRow base e size v n ys := hx ▸ h
set_option maxHeartbeats 8000000 in
set_option maxRecDepth 100000 in
theorem del_ok (w : World) (B b1 b2 : Nat) (vn vs : Value) (M : IpM) (s : ByteArray) (hs : s.size ≤ maxLen) (HS : IpS w B b1 b2 vn vs M) (a t : Int) (hr : M.byN s = some a) (ha0 : 0 ≤ a) (ha1 : a < 4294967296) (hat : M.byA a = some t) (ht0 : 0 ≤ t) (ht1 : t < M.names.length) (hsl : M.spare.length ≤ 1024) :
    Calls Try.prog 24 #[.pointer (some ⟨B, 0, none⟩), .string s] w fun e w' => e = .returned (.tuple #[.int .u32 a, .int .i64 0]) ∧ ∃ vs', IpS w' B b1 b2 vn vs' (delS M s a t) ∧ Turn w w' (IpF B b1 b2 vn vs) ∧ (vs'.ownBlock = vs.ownBlock ∨ ∃ b, vs'.ownBlock = some b ∧ w.heap.size ≤ b) := by
  obtain ⟨gn, cn, rfl, _, _⟩ := HS.nm.form (by omega)
  obtain ⟨As, cs, rfl⟩ := own_slice HS.sp
  have k5 : w.cell? ⟨B, 5, none⟩ = some (.map (some b1)) := HS.cell 5
  have k6 : w.cell? ⟨B, 6, none⟩ = some (.map (some b2)) := HS.cell 6
  have k7 : w.cell? ⟨B, 7, none⟩ = some (.slice (some ⟨gn, 0, none⟩) M.names.length cn) := HS.cell 7
  have hneB : gn ≠ B := fun e => HS.ne_nm.1 (by rw [e]; rfl)
  have nb1 : b1 ≠ gn := fun e => HS.ne_nm.2.1 (by rw [e]; rfl)
  have nb2 : b2 ≠ gn := fun e => HS.ne_nm.2.2 (by rw [e]; rfl)
  have fn := HS.nm.frozenAt t.toNat
  have kn := name_at HS.nm ht0 ht1
  generalize M.names.getD t.toNat ⟨#[]⟩ = onm at kn
  have k8 : (w.setCell ⟨gn, t.toNat, none⟩ (.string ⟨#[]⟩)).cell? ⟨B, 8, none⟩ = some (.slice As M.spare.length cs) := (cell_far (Ne.symm hneB) _).trans (HS.cell 8)
  have hwf := wf32 ha0 ha1
  -- the state behind the store into names
  have HS1 : IpS (w.setCell ⟨gn, t.toNat, none⟩ (.string ⟨#[]⟩)) B b1 b2 (.slice (some ⟨gn, 0, none⟩) M.names.length cn) (.slice As M.spare.length cs) { M with names := M.names.set t.toNat ⟨#[]⟩ } := by
    have old : ∀ b, b ≠ gn → (w.setCell ⟨gn, t.toNat, none⟩ (.string ⟨#[]⟩)).heap[b]? = w.heap[b]? := fun b h2 => Below.heap_setCell _ _ _ b h2
    refine ⟨(old B (Ne.symm hneB)).trans HS.blk, HS.m1.step (old b1 nb1), HS.m2.step (old b2 nb2), HS.ne, ?_, row_step HS.sp (fun k hk => old k (fun e => HS.ne_rows gn rfl (by rw [← e]; exact hk)))⟩
    have h2 := (HS.nm.stored t.toNat (.string ⟨#[]⟩)).1
    simpa [List.map_set] using h2
  have HT1 : Turn w (w.setCell ⟨gn, t.toNat, none⟩ (.string ⟨#[]⟩)) (IpF B b1 b2 (.slice (some ⟨gn, 0, none⟩) M.names.length cn) (.slice As M.spare.length cs)) := (Turn.refl w _).set (Or.inl (by simp [IpF, Value.ownBlock])) _
  have HSZ : Aside0 ((w.setCell ⟨gn, t.toNat, none⟩ (.string ⟨#[]⟩)).heap.size = w.heap.size) := ⟨by simp [World.setCell]⟩
  have HSS := Aside0.mk HS1
  have HTT := Aside0.mk HT1
  have HW := Aside0.mk HS
  have hr := Aside0.mk hr
  have hat := Aside0.mk hat
  have HWF := Aside0.mk hwf
  clear HS HS1 HT1 hwf
  go_enter Try.func24, Try.ntmps24
  go_wp2_with (first
    | (at_lookup; refine look_nm_some _ rfl _ _ rfl HW.out.m1 hs hr.out rfl rfl ?_)
    | (at_lookup; refine look_am _ rfl _ _ rfl HW.out.m2 HWF.out hat.out rfl rfl ?_)
    | ((with_reducible refine gate_builtin (b := .append) (xs := #[.tmp 36, .tmp 38]) rfl ?_); at_builtin
       refine print_append (w0 := w.setCell ⟨gn, t.toNat, none⟩ (.string ⟨#[]⟩)) 0 rfl (.tmp 36) (.tmp 38) 75 3 (.int .i64 0) 8 rfl Try.underlying75 info3 rfl (by decide) (.slice As M.spare.length cs) (M.spare.map (Value.int .i64)) (.int .i64 t) rfl (by rw [HSZ.out]; rfl) rfl (by simpa using HSS.out.sp) (Below.refl _ _) (Nat.zero_le _) (by simp; omega) ?_
       intro v1 w1 ho0 hb hg hloc
       have ho : w1.ownsRow 0 3 1 v1 (M.spare ++ [t]).length ((M.spare ++ [t]).map (Value.int .i64)) := by simpa using ho0
       clear ho0 hb
       obtain ⟨A1, c1, rfl⟩ := own_slice ho
       have hb1 : w1.heap[B]? = some (.cells (IpCells M b1 b2 (.slice (some ⟨gn, 0, none⟩) M.names.length cn) (.slice As M.spare.length cs)) 77 (0, 0)) := (hg.block B (blk_lt HSS.out.blk) HSS.out.ne_sp.1).trans HSS.out.blk
       have ks : w1.cell? ⟨B, 8, none⟩ = some (.slice As M.spare.length cs) := blk_cell hb1 8
       have k5' : w1.cell? ⟨B, 5, none⟩ = some (.map (some b1)) := blk_cell hb1 5
       have fs := blk_frozen hb1 8
       have HLOC := Aside0.mk hloc
       have HT2 := Aside0.mk (((HTT.out.grown hg (fun b hb => Or.inl (by simp [IpF, hb]))).set (p := ⟨B, 8, none⟩) (Or.inl (by simp [IpF]))) (.slice A1 (M.spare ++ [t]).length c1))
       have HS2 : Aside0 (IpS (w1.setCell ⟨B, 8, none⟩ (.slice A1 (M.spare ++ [t]).length c1)) B b1 b2 (.slice (some ⟨gn, 0, none⟩) M.names.length cn) (.slice A1 (M.spare ++ [t]).length c1) { M with names := M.names.set t.toNat ⟨#[]⟩, spare := M.spare ++ [t] }) := by
         have old : ∀ b, b < (w.setCell ⟨gn, t.toNat, none⟩ (.string ⟨#[]⟩)).heap.size → some b ≠ (Value.slice As M.spare.length cs).ownBlock → b ≠ B → (w1.setCell ⟨B, 8, none⟩ (.slice A1 (M.spare ++ [t]).length c1)).heap[b]? = (w.setCell ⟨gn, t.toNat, none⟩ (.string ⟨#[]⟩)).heap[b]? := fun b hb h1 h2 =>
           (Below.heap_setCell w1 ⟨B, 8, none⟩ _ b h2).trans (hg.block b hb h1)
         have hneB' : ∀ k, (Value.slice A1 (M.spare ++ [t]).length c1).ownBlock = some k → k ≠ B := fun k hk e => by
           subst e
           rcases hloc with h | ⟨b, h, hle⟩
           · rw [hk] at h; exact HSS.out.ne_sp.1 h
           · rw [hk] at h; injection h with h; subst h; have := blk_lt HSS.out.blk; omega
         exact ⟨blk_put hb1 8 _ rfl, HSS.out.m1.step (old b1 (HSS.out.lt b1 (by simp [IpF])) HSS.out.ne_sp.2.1 (Ne.symm HSS.out.ne_B.1)), HSS.out.m2.step (old b2 (HSS.out.lt b2 (by simp [IpF])) HSS.out.ne_sp.2.2 (Ne.symm HSS.out.ne_B.2)), HSS.out.ne,
           row_step HSS.out.nm (fun k hk => old k (HSS.out.nm.lt k hk).2 (fun e => HSS.out.ne_rows k hk e.symm) (fun e => HSS.out.ne_nm.1 (by rw [hk, e]))), row_step ho (fun k hk => Below.heap_setCell w1 ⟨B, 8, none⟩ _ k (hneB' k hk))⟩
       rw [show (M.spare ++ [t]).length = M.spare.length + 1 from by simp] at HS2 HT2 HLOC
       clear hb1 hg ho hloc)
    | ((with_reducible refine gate_builtin (b := .delete) (xs := #[.tmp 45, .tmp 46]) rfl ?_); refine delete_nm _ rfl _ _ rfl HS2.out.m1 hs hr.out rfl rfl ?_; intro w3 hn3 ht3
       have HN3 := Aside0.mk hn3
       have HT3 := Aside0.mk ht3
       have k6' : w3.cell? ⟨B, 6, none⟩ = some (.map (some b2)) := blk_cell ((turned_other ht3 HS2.out.ne_B.1).trans HS2.out.blk) 6
       have HA3 := Aside0.mk (HS2.out.m2.step (turned_other ht3 (Ne.symm HS2.out.ne)))
       clear hn3 ht3)
    | ((with_reducible refine gate_builtin (b := .delete) (xs := #[.tmp 50, .tmp 51]) rfl ?_); refine delete_am _ rfl _ _ rfl HA3.out HWF.out hat.out rfl rfl ?_; intro w4 ha4 ht4
       have HA4 := Aside0.mk ha4
       have HT4 := Aside0.mk ht4
       clear ha4 ht4)
    | go_in)
  go_ret2
  have o4 : ∀ b, b ≠ b1 → b ≠ b2 → w4.heap[b]? = (w1.setCell ⟨B, 8, none⟩ (.slice A1 (M.spare.length + 1) c1)).heap[b]? := fun b h1 h2 => (turned_other HT4.out h2).trans (turned_other HT3.out h1)
  have h := HS2.out
  refine ⟨rfl, .slice A1 (M.spare.length + 1) c1, ⟨(o4 B h.ne_B.1 h.ne_B.2).trans h.blk, HN3.out.step (turned_other HT4.out h.ne), HA4.out, h.ne, row_step h.nm (fun k hk => o4 k (fun e => h.ne_nm.2.1 (by rw [hk, e])) (fun e => h.ne_nm.2.2 (by rw [hk, e]))), row_step h.sp (fun k hk => o4 k (fun e => h.ne_sp.2.1 (by rw [hk, e])) (fun e => h.ne_sp.2.2 (by rw [hk, e])))⟩,
    (HT2.out.trans (turned_turn HT3.out) (fun b hb => Or.inl (by simp at hb; subst hb; simp [IpF]))).trans (turned_turn HT4.out) (fun b hb => Or.inl (by simp at hb; subst hb; simp [IpF])), ?_⟩
  rcases HLOC.out with h | ⟨b, h, hle⟩
  · exact .inl h
  · exact .inr ⟨b, h, by simpa [World.setCell] using hle⟩
end Go.Proofs.Ytgabkifojnkbkaa.Ip
