/- package ipam walked: Find, Gateway, Owner. No condition beyond the state's own. -/
import Derived.Test.YtgabkifojnkbkaaIpmS
set_option linter.unusedVariables false
set_option linter.unusedSimpArgs false
namespace Go.Proofs.Ytgabkifojnkbkaa.Ip
open Go.RowKit Go.Maps Go.WideMaps Go.Proofs.YtgabkifojnkbkaaW.PrintWords Go.Proofs.Ytgabkifojnkbkaa.PIpf
section
variable {ops : Array Oper} {rest : List Oper} {o : Oper} {a : Act} {Q : Exit → Act → World → Prop}
theorem look_nm_some (w : World) (hg : o.guard = none) (m x : Operand) (hop : o.op = Op.lookup 73 m x true) {b n : Nat} {f : ByteArray → Option Int} (h : NM w b f n) {s : ByteArray} (hs : s.size ≤ maxLen) {r : Int} (hf : f s = some r)
    (hm : a.eval m = .map (some b)) (hx : a.eval x = .string s) (hK : wpList Try.prog ops Q rest (a.put o.dst (.tuple #[.int .u32 r, .bool true])) w) : wpList Try.prog ops Q (o :: rest) a w := by
  obtain ⟨D, hown, hsz, hD⟩ := h
  obtain ⟨h1, h2⟩ := (hD s hs).2 r hf
  refine wpList_lookup_own_ok_int w hg m x 73 hop 9 23 .u32 lawS Try.underlying73 Try.underlying23 (zero23 _) b _ D hm hown _ _ hx (keyOf_string_mk Try.underlying9 hs) ?_
  intro c hat hwc
  rw [h2] at hat
  have e : r = c := by injection hat with e1; injection e1
  subst e
  rw [h1]; exact hK
theorem look_nm_none (w : World) (hg : o.guard = none) (m x : Operand) (hop : o.op = Op.lookup 73 m x true) {b n : Nat} {f : ByteArray → Option Int} (h : NM w b f n) {s : ByteArray} (hs : s.size ≤ maxLen) (hf : f s = none)
    (hm : a.eval m = .map (some b)) (hx : a.eval x = .string s) (hK : wpList Try.prog ops Q rest (a.put o.dst (.tuple #[.int .u32 0, .bool false])) w) : wpList Try.prog ops Q (o :: rest) a w := by
  obtain ⟨D, hown, hsz, hD⟩ := h
  have h1 := (hD s hs).1 hf
  refine wpList_lookup_own_ok_int w hg m x 73 hop 9 23 .u32 lawS Try.underlying73 Try.underlying23 (zero23 _) b _ D hm hown _ _ hx (keyOf_string_mk Try.underlying9 hs) ?_
  intro c hat hwc
  rw [Maps.atKey_of_not_has h1] at hat
  have e : 0 = c := by injection hat with e1; injection e1
  subst e
  rw [h1]; exact hK
theorem look_am_some (w : World) (hg : o.guard = none) (m x : Operand) (hop : o.op = Op.lookup 74 m x true) {b n : Nat} {f : Int → Option Int} (h : AM w b f n) {k : Int} (hk : (Lit.int .u32 k).wf = true) {r : Int} (hf : f k = some r)
    (hm : a.eval m = .map (some b)) (hx : a.eval x = .int .u32 k) (hK : wpList Try.prog ops Q rest (a.put o.dst (.tuple #[.int .i64 r, .bool true])) w) : wpList Try.prog ops Q (o :: rest) a w := by
  obtain ⟨D, hown, hsz, hD⟩ := h
  obtain ⟨h1, h2⟩ := (hD k hk).2 r hf
  refine wpList_lookup_own_ok_int w hg m x 74 hop 23 3 .i64 lawA Try.underlying74 Try.underlying3 (zero3 _) b _ D hm hown _ _ hx (keyOf_int_mk Try.underlying23 hk) ?_
  intro c hat hwc
  rw [h2] at hat
  have e : r = c := by injection hat with e1; injection e1
  subst e
  rw [h1]; exact hK
theorem look_am_none (w : World) (hg : o.guard = none) (m x : Operand) (hop : o.op = Op.lookup 74 m x true) {b n : Nat} {f : Int → Option Int} (h : AM w b f n) {k : Int} (hk : (Lit.int .u32 k).wf = true) (hf : f k = none)
    (hm : a.eval m = .map (some b)) (hx : a.eval x = .int .u32 k) (hK : wpList Try.prog ops Q rest (a.put o.dst (.tuple #[.int .i64 0, .bool false])) w) : wpList Try.prog ops Q (o :: rest) a w := by
  obtain ⟨D, hown, hsz, hD⟩ := h
  have h1 := (hD k hk).1 hf
  refine wpList_lookup_own_ok_int w hg m x 74 hop 23 3 .i64 lawA Try.underlying74 Try.underlying3 (zero3 _) b _ D hm hown _ _ hx (keyOf_int_mk Try.underlying23 hk) ?_
  intro c hat hwc
  rw [Maps.atKey_of_not_has h1] at hat
  have e : 0 = c := by injection hat with e1; injection e1
  subst e
  rw [h1]; exact hK
/-- without 'ok' -/
theorem look_am (w : World) (hg : o.guard = none) (m x : Operand) (hop : o.op = Op.lookup 74 m x false) {b n : Nat} {f : Int → Option Int} (h : AM w b f n) {k : Int} (hk : (Lit.int .u32 k).wf = true) {r : Int} (hf : f k = some r)
    (hm : a.eval m = .map (some b)) (hx : a.eval x = .int .u32 k) (hK : wpList Try.prog ops Q rest (a.put o.dst (.int .i64 r)) w) : wpList Try.prog ops Q (o :: rest) a w := by
  obtain ⟨D, hown, hsz, hD⟩ := h
  obtain ⟨h1, h2⟩ := (hD k hk).2 r hf
  refine wpList_lookup_own_int w hg m x 74 hop 23 3 .i64 lawA Try.underlying74 Try.underlying3 (zero3 _) b _ D hm hown _ _ hx (keyOf_int_mk Try.underlying23 hk) ?_
  intro c hat hwc
  rw [h2] at hat
  have e : r = c := by injection hat with e1; injection e1
  subst e
  exact hK
theorem len_nm (w : World) (hg : o.guard = none) (m : Operand) (hop : o.op = Op.call { callee := Callee.builtin Builtin.len, args := #[m], argTypes := #[73] }) {b n : Nat} {f : ByteArray → Option Int} (h : NM w b f n)
    (hm : a.eval m = .map (some b)) (hK : wpList Try.prog ops Q rest (a.put o.dst (.int .i64 (n : Int))) w) : wpList Try.prog ops Q (o :: rest) a w := by
  obtain ⟨D, hown, hsz, hD⟩ := h
  refine wpList_len_own w hg m 73 hop 9 23 Try.underlying73 _ b n D hm hown ?_
  rw [hsz]; exact hK
end
theorem wf32 {a : Int} (h0 : 0 ≤ a) (h1 : a < 4294967296) : (Lit.int .u32 a).wf = true := by
  simp [Lit.wf, IntKind.min, IntKind.max, IntKind.bits, IntKind.signed]; omega

/-- what a look by name says -/
def findF (M : IpM) (s : ByteArray) : Int × Int := match M.byN s with | some a => (a, 0) | none => (0, 3)
theorem findF_some {M : IpM} {s : ByteArray} {a : Int} (h : M.byN s = some a) : findF M s = (a, 0) := by simp [findF, h]
theorem findF_none {M : IpM} {s : ByteArray} (h : M.byN s = none) : findF M s = (0, 3) := by simp [findF, h]

set_option maxHeartbeats 2000000 in
set_option maxRecDepth 100000 in
theorem find (w : World) (B b1 b2 : Nat) (vn vs : Value) (M : IpM) (s : ByteArray) (hs : s.size ≤ maxLen) (HS : IpS w B b1 b2 vn vs M) :
    Calls Try.prog 31 #[.pointer (some ⟨B, 0, none⟩), .string s] w fun e w' => e = .returned (.tuple #[.int .u32 (findF M s).1, .int .i64 (findF M s).2]) ∧ Below w.heap.size w w' := by
  have hm1 := Aside0.mk HS.m1
  have k5 : w.cell? ⟨B, 5, none⟩ = some (.map (some b1)) := HS.cell 5
  clear HS
  rcases hf : M.byN s with _ | a
  · rw [findF_none hf]
    have hf := Aside0.mk hf
    go_enter Try.func31, Try.ntmps31
    go_wp2_with (first | (at_lookup; refine look_nm_none _ rfl _ _ rfl hm1.out hs hf.out rfl rfl ?_) | go_in)
    go_ret2
    exact ⟨rfl, Below.refl _ _⟩
  · rw [findF_some hf]
    have hf := Aside0.mk hf
    go_enter Try.func31, Try.ntmps31
    go_wp2_with (first | (at_lookup; refine look_nm_some _ rfl _ _ rfl hm1.out hs hf.out rfl rfl ?_) | go_in)
    go_ret2
    exact ⟨rfl, Below.refl _ _⟩

theorem gateway (w : World) (B b1 b2 : Nat) (vn vs : Value) (M : IpM) (HS : IpS w B b1 b2 vn vs M) :
    Calls Try.prog 43 #[.pointer (some ⟨B, 0, none⟩)] w fun e w' => e = .returned (.int .u32 ((M.base + 1) % 4294967296)) ∧ Below w.heap.size w w' := by
  have k0 : w.cell? ⟨B, 0, none⟩ = some (.int .u32 M.base) := HS.cell 0
  clear HS
  go_enter Try.func43, Try.ntmps43
  go_wp2
  go_ret
  exact ⟨by simp [IntKind.wrap, go_sem], Below.refl _ _⟩
theorem name_at {w : World} {g n cap : Nat} {l : List ByteArray} (h : w.ownsRow 0 9 1 (.slice (some ⟨g, 0, none⟩) n cap) l.length (l.map Value.string)) {t : Int} (h0 : 0 ≤ t) (h1 : t < l.length) : w.cell? ⟨g, t.toNat, none⟩ = some (.string (l.getD t.toNat ⟨#[]⟩)) := by
  have hl : t.toNat < l.length := by omega
  have hc := h.cells (g := g) rfl t.toNat (.string (l.getD t.toNat ⟨#[]⟩)) (by simp [List.getElem?_eq_getElem hl, List.getD_eq_getElem?_getD])
  rwa [add_plain] at hc
theorem num_at {w : World} {g n cap : Nat} {l : List Int} (h : w.ownsRow 0 3 1 (.slice (some ⟨g, 0, none⟩) n cap) l.length (l.map (Value.int .i64))) {t : Int} (h0 : 0 ≤ t) (h1 : t < l.length) : w.cell? ⟨g, t.toNat, none⟩ = some (.int .i64 (l.getD t.toNat 0)) := by
  have hl : t.toNat < l.length := by omega
  have hc := h.cells (g := g) rfl t.toNat (.int .i64 (l.getD t.toNat 0)) (by simp [List.getElem?_eq_getElem hl, List.getD_eq_getElem?_getD])
  rwa [add_plain] at hc
/-- what an asker of an address is told -/
def ownerF (M : IpM) (a : Int) (inside : Bool) : ByteArray × Int := if inside then (match M.byA a with | some t => (M.names.getD t.toNat ⟨#[]⟩, 0) | none => (⟨#[]⟩, 3)) else (⟨#[]⟩, 151)
set_option maxHeartbeats 2000000 in
set_option maxRecDepth 100000 in
theorem owner (k : Nat) (w : World) (B b1 b2 : Nat) (vn vs : Value) (M : IpM) (a : Int) (h0 : 0 ≤ a) (h1 : a < 4294967296) (hok : M.Ok) (HS : IpS w B b1 b2 vn vs M) (c : Bool) (hc : addr_Contains.f k M.base M.len a = some c) :
    Calls Try.prog 39 #[.pointer (some ⟨B, 0, none⟩), .int .u32 a] w fun e w' => e = .returned (.tuple #[.string (ownerF M a c).1, .int .i64 (ownerF M a c).2]) ∧ Below w.heap.size w w' := by
  have k0 : w.cell? ⟨B, 0, none⟩ = some (.int .u32 M.base) := HS.cell 0
  have k1 : w.cell? ⟨B, 1, none⟩ = some (.int .i64 M.len) := HS.cell 1
  have hcon := Aside0.mk (addr_Contains.calls k M.base M.len a c w hc)
  have hS := Aside0.mk HS
  have hO := Aside0.mk hok
  have hwf := Aside0.mk (wf32 h0 h1)
  clear HS hc hok
  cases c with
  | false =>
    go_enter Try.func39, Try.ntmps39
    go_wp2_with (first | (go_at_call 55; refine hcon.out.mono ?_; rintro e_ w1 ⟨rfl, hb1⟩; have hB1 := Aside0.mk hb1; clear hb1) | go_in)
    go_ret2
    exact ⟨rfl, hB1.out⟩
  | true =>
    rcases hf : M.byA a with _ | t
    · have e : ownerF M a true = (⟨#[]⟩, 3) := by simp [ownerF, hf]
      rw [e]
      have hf := Aside0.mk hf
      clear e
      go_enter Try.func39, Try.ntmps39
      go_wp2_with (first | (at_lookup; refine look_am_none _ rfl _ _ rfl hS1.out.m2 hwf.out hf.out rfl rfl ?_) | (go_at_call 55; refine hcon.out.mono ?_; rintro e_ w1 ⟨rfl, hb1⟩; have hB1 := Aside0.mk hb1; have hS1 := Aside0.mk (hS.out.below hb1); have k6 : w1.cell? ⟨B, 6, none⟩ = some (.map (some b2)) := hS1.out.cell 6; have k7 : w1.cell? ⟨B, 7, none⟩ = some vn := hS1.out.cell 7; clear hb1) | go_in)
      go_ret2
      exact ⟨rfl, hB1.out⟩
    · have e : ownerF M a true = (M.names.getD t.toNat ⟨#[]⟩, 0) := by simp [ownerF, hf]
      rw [e]
      generalize hnv : M.names.getD t.toNat ⟨#[]⟩ = nv
      have hnv := Aside0.mk hnv
      obtain ⟨ht0, ht1⟩ := hO.out.at_ a t hf
      have hf := Aside0.mk hf
      clear e
      obtain ⟨g, cap, rfl, _, _⟩ := hS.out.nm.form (by omega)
      go_enter Try.func39, Try.ntmps39
      go_wp2_with (first | (at_lookup; refine look_am_some _ rfl _ _ rfl hS1.out.m2 hwf.out hf.out rfl rfl ?_) | (go_at_call 55; refine hcon.out.mono ?_; rintro e_ w1 ⟨rfl, hb1⟩; have hB1 := Aside0.mk hb1; have hS1 := Aside0.mk (hS.out.below hb1); have k6 : w1.cell? ⟨B, 6, none⟩ = some (.map (some b2)) := hS1.out.cell 6; have k7 : w1.cell? ⟨B, 7, none⟩ = some (.slice (some ⟨g, 0, none⟩) M.names.length cap) := hS1.out.cell 7; have kt : w1.cell? ⟨g, t.toNat, none⟩ = some (.string nv) := (name_at hS1.out.nm ht0 ht1).trans (by rw [hnv.out]); clear hb1) | go_in)
      go_ret2
      exact ⟨rfl, hB1.out⟩
end Go.Proofs.Ytgabkifojnkbkaa.Ip
