/- The state of the document's answer (weftref15.Ipam) in memory: a struct and a row of pods; at, holder, Find, Owner, Gateway walked. No condition beyond the state's own. -/
import Derived.Test.YtgabkifojnkbkaaIpmN
set_option linter.unusedVariables false
set_option linter.unusedSimpArgs false
namespace Go.Proofs.Ytgabkifojnkbkaa.Ip
open Go.RowKit Go.Maps Go.WideMaps Go.MapKept Go.Proofs.YtgabkifojnkbkaaW.PrintWords Go.Proofs.Ytgabkifojnkbkaa.PIpf
abbrev Pod := ByteArray × Int
structure RfM where
  base : Int
  size : Int
  last : Int
  pods : List Pod
def podCells (l : List Pod) : List Value := l.flatMap fun p => [.string p.1, .int .u32 p.2]
theorem podCells_length (l : List Pod) : (podCells l).length = l.length * 2 := by
  induction l with
  | nil => rfl
  | cons p r ih =>
    have e : podCells (p :: r) = .string p.1 :: .int .u32 p.2 :: podCells r := rfl
    rw [e, List.length_cons, List.length_cons, ih, List.length_cons]; omega
theorem podCells_append (l r : List Pod) : podCells (l ++ r) = podCells l ++ podCells r := by simp [podCells]
def podAt (l : List Pod) (i : Nat) : Pod := l.getD i (⟨#[]⟩, 0)
theorem podCells_at : ∀ (l : List Pod) (i : Nat), i < l.length → (podCells l)[i * 2]? = some (.string (podAt l i).1) ∧ (podCells l)[i * 2 + 1]? = some (.int .u32 (podAt l i).2)
  | p :: r, 0, _ => ⟨rfl, rfl⟩
  | p :: r, i + 1, h => by
    have ih := podCells_at r i (by simpa using h)
    have e : podCells (p :: r) = .string p.1 :: .int .u32 p.2 :: podCells r := rfl
    have a : podAt (p :: r) (i + 1) = podAt r i := by simp [podAt]
    rw [e, a, show (i + 1) * 2 = i * 2 + 2 from by omega, show i * 2 + 2 + 1 = i * 2 + 1 + 2 from by omega]
    simpa using ih
def RfCells (R : RfM) (vp : Value) : Array Value := #[.int .i64 R.base, .int .i64 R.size, vp, .int .i64 R.last]
structure RfS (w : World) (B : Nat) (vp : Value) (R : RfM) : Prop where
  blk : w.heap[B]? = some (.cells (RfCells R vp) 93 (0, 0))
  row : w.ownsRow 0 84 2 vp R.pods.length (podCells R.pods)
def RfF (B : Nat) (vp : Value) : List Nat := B :: vp.ownBlock.toList
section
variable {w w1 : World} {B : Nat} {vp : Value} {R : RfM} {F : List Nat}
theorem RfS.lt (h : RfS w B vp R) : ∀ b, b ∈ RfF B vp → b < w.heap.size := by
  intro b hb
  simp only [RfF, List.mem_cons, Option.mem_toList, Option.mem_def] at hb
  rcases hb with rfl | hb
  · exact blk_lt h.blk
  · exact (h.row.lt b hb).2
theorem RfS.step (h : RfS w B vp R) (hb : ∀ b, b ∈ RfF B vp → w1.heap[b]? = w.heap[b]?) : RfS w1 B vp R :=
  ⟨(hb B (by simp [RfF])).trans h.blk, row_step h.row (fun k hk => hb k (by simp [RfF, hk]))⟩
theorem RfS.turn (h : RfS w B vp R) (ht : Turn w w1 F) (hF : ∀ b, b ∈ RfF B vp → b ∉ F) : RfS w1 B vp R := h.step fun b hb => ht.block b (h.lt b hb) (hF b hb)
theorem RfS.drewN (h : RfS w B vp R) (n : Nat) : RfS (w.drewN n) B vp R := h.step fun _ _ => rfl
theorem RfS.below (h : RfS w B vp R) (hb : Below w.heap.size w w1) : RfS w1 B vp R := h.step fun b hb' => hb.block b (h.lt b hb')
theorem RfS.cell (h : RfS w B vp R) (i : Nat) : w.cell? ⟨B, i, none⟩ = (RfCells R vp)[i]? := blk_cell h.blk i
theorem RfS.ne (h : RfS w B vp R) : some B ≠ vp.ownBlock := fun e => by
  obtain ⟨cells, hc⟩ := own_typed h.row _ e.symm
  rw [h.blk] at hc; cases hc
end
theorem pod_at {w : World} {g n cap : Nat} {l : List Pod} (h : w.ownsRow 0 84 2 (.slice (some ⟨g, 0, none⟩) n cap) l.length (podCells l)) (i : Nat) (hi : i < l.length) :
    w.cell? ⟨g, i * 2, none⟩ = some (.string (podAt l i).1) ∧ w.cell? ⟨g, i * 2 + 1, none⟩ = some (.int .u32 (podAt l i).2) := by
  obtain ⟨h1, h2⟩ := podCells_at l i hi
  have a := h.cells (g := g) rfl _ _ h1
  have b := h.cells (g := g) rfl _ _ h2
  rw [add_plain] at a b
  exact ⟨a, b⟩
/-- the place from i on of the first pod that f takes, or -1 -/
def placeF (f : Pod → Bool) : List Pod → Int → Int
  | [], _ => -1
  | p :: r, i => if f p then i else placeF f r (i + 1)
def atF (l : List Pod) (s : ByteArray) : Int := placeF (fun p => p.1 == s) l 0
def holderF (l : List Pod) (a : Int) : Int := placeF (fun p => p.2 == a) l 0
theorem placeF_drop (f : Pod → Bool) (l : List Pod) (i : Nat) (hi : i < l.length) (j : Int) : placeF f (l.drop i) j = if f (podAt l i) then j else placeF f (l.drop (i + 1)) (j + 1) := by
  rw [List.drop_eq_getElem_cons hi]
  simp only [placeF, podAt, List.getD_eq_getElem?_getD, List.getElem?_eq_getElem hi, Option.getD_some]
set_option maxHeartbeats 8000000 in
set_option maxRecDepth 100000 in
theorem rat (w : World) (B : Nat) (vp : Value) (R : RfM) (s : ByteArray) (hl : R.pods.length ≤ 1024) (HS : RfS w B vp R) :
    Calls Try.prog 53 #[.pointer (some ⟨B, 0, none⟩), .string s] w fun e w' => e = .returned (.int .i64 (atF R.pods s)) ∧ w' = w := by
  obtain ⟨Ap, cp, rfl⟩ := own_slice HS.row
  have k2 : w.cell? ⟨B, 2, none⟩ = some (.slice Ap R.pods.length cp) := HS.cell 2
  have HSS := Aside0.mk HS
  have HL := Aside0.mk hl
  clear HS
  go_enter Try.func53, Try.ntmps53
  go_wp2
  go_loop [5] (fun vi => ∃ (i : Nat), vi = .int .i64 i ∧ i ≤ R.pods.length ∧ Aside0 (placeF (fun p => p.1 == s) (R.pods.drop i) i = atF R.pods s)) (fun vi => R.pods.length - (intOf vi).toNat)
  case atStart => exact ⟨0, rfl, by omega, ⟨rfl⟩⟩
  case round =>
    obtain ⟨i, rfl, hi, HK⟩ := hrel
    by_cases hlt : i < R.pods.length
    · have hli : (i : Int) < (R.pods.length : Int) := by omega
      obtain ⟨g, cap, e, _, _⟩ := HSS.out.row.form (by omega)
      injection e with e1 e2 e3
      subst e1 e3
      obtain ⟨hc, _⟩ := pod_at HSS.out.row i hlt
      have hpl := placeF_drop (fun p : Pod => p.1 == s) R.pods i hlt i
      generalize (podAt R.pods i).1 = nm at hc hpl
      rw [Go.beq_toListBytes] at hpl
      have HPL := Aside0.mk hpl
      clear hpl
      go_wp2
      · have h : (nm.toList == s.toList) = true := by assumption
        go_ret
        have h1 := HPL.out
        rw [if_pos h, HK.out] at h1
        exact ⟨by rw [h1]; rfl, rfl⟩
      · have h : (nm.toList == s.toList) = false := by assumption
        refine ⟨⟨i + 1, by go_num, by omega, ⟨?_⟩⟩, by simp [intOf]; omega⟩
        have h1 := HPL.out
        rw [if_neg (by rw [h]; simp), HK.out] at h1
        rw [h1]; simp
    · obtain rfl : i = R.pods.length := by omega
      have hk := HK.out
      rw [List.drop_length] at hk
      go_wp2
      go_ret
      exact ⟨by rw [← hk]; rfl, rfl⟩
set_option maxHeartbeats 8000000 in
set_option maxRecDepth 100000 in
theorem rholder (w : World) (B : Nat) (vp : Value) (R : RfM) (a : Int) (hl : R.pods.length ≤ 1024) (hr : ∀ p, p ∈ R.pods → 0 ≤ p.2 ∧ p.2 < 4294967296) (HS : RfS w B vp R) :
    Calls Try.prog 54 #[.pointer (some ⟨B, 0, none⟩), .int .i64 a] w fun e w' => e = .returned (.int .i64 (holderF R.pods a)) ∧ w' = w := by
  obtain ⟨Ap, cp, rfl⟩ := own_slice HS.row
  have k2 : w.cell? ⟨B, 2, none⟩ = some (.slice Ap R.pods.length cp) := HS.cell 2
  have HSS := Aside0.mk HS
  have HL := Aside0.mk hl
  clear HS
  go_enter Try.func54, Try.ntmps54
  go_wp2
  go_loop [5] (fun vi => ∃ (i : Nat), vi = .int .i64 i ∧ i ≤ R.pods.length ∧ Aside0 (placeF (fun p => p.2 == a) (R.pods.drop i) i = holderF R.pods a)) (fun vi => R.pods.length - (intOf vi).toNat)
  case atStart => exact ⟨0, rfl, by omega, ⟨rfl⟩⟩
  case round =>
    obtain ⟨i, rfl, hi, HK⟩ := hrel
    by_cases hlt : i < R.pods.length
    · have hli : (i : Int) < (R.pods.length : Int) := by omega
      obtain ⟨g, cap, e, _, _⟩ := HSS.out.row.form (by omega)
      injection e with e1 e2 e3
      subst e1 e3
      obtain ⟨_, hc⟩ := pod_at HSS.out.row i hlt
      have hpl := placeF_drop (fun p : Pod => p.2 == a) R.pods i hlt i
      have hin := hr (podAt R.pods i) (by simp only [podAt, List.getD_eq_getElem?_getD, List.getElem?_eq_getElem hlt, Option.getD_some]; exact List.getElem_mem hlt)
      generalize (podAt R.pods i).2 = nm at hc hpl hin
      obtain ⟨hin0, hin1⟩ := hin
      by_cases heq : nm = a
      · subst heq
        have h1 : placeF (fun p => p.2 == nm) (R.pods.drop i) i = i := by rw [hpl, if_pos (by simp)]
        rw [HK.out] at h1
        have H1 := Aside0.mk h1
        clear hpl h1
        go_wp2
        go_ret
        exact ⟨by rw [H1.out]; rfl, rfl⟩
      · have h1 : placeF (fun p => p.2 == a) (R.pods.drop i) i = placeF (fun p => p.2 == a) (R.pods.drop (i + 1)) ((i : Int) + 1) := by rw [hpl, if_neg (by simpa using heq)]
        rw [HK.out] at h1
        have H1 := Aside0.mk h1
        clear hpl h1
        go_wp2
        exact ⟨⟨i + 1, by go_num, by omega, ⟨by rw [H1.out]; simp⟩⟩, by simp [intOf]; omega⟩
    · obtain rfl : i = R.pods.length := by omega
      have hk := HK.out
      rw [List.drop_length] at hk
      go_wp2
      go_ret
      exact ⟨by rw [← hk]; rfl, rfl⟩
/-- what the document says to a look by name -/
def rfindF (R : RfM) (s : ByteArray) : Int × Int := if atF R.pods s < 0 then (0, 3) else ((podAt R.pods (atF R.pods s).toNat).2, 0)
theorem placeF_in (f : Pod → Bool) : ∀ (l : List Pod) (i : Int), placeF f l i = -1 ∨ (i ≤ placeF f l i ∧ placeF f l i < i + l.length ∧ f (podAt l (placeF f l i - i).toNat) = true)
  | [], _ => .inl rfl
  | p :: r, i => by
    rw [placeF]
    by_cases h : f p = true
    · rw [if_pos h]; right
      refine ⟨by omega, by simp only [List.length_cons]; omega, ?_⟩
      rw [show (i - i).toNat = 0 by omega]; exact h
    · rw [if_neg h]
      rcases placeF_in f r (i + 1) with h1 | ⟨h1, h2, h3⟩
      · exact .inl h1
      · right
        refine ⟨by omega, by simp only [List.length_cons]; omega, ?_⟩
        rw [show (placeF f r (i + 1) - i).toNat = (placeF f r (i + 1) - (i + 1)).toNat + 1 by omega]
        simpa [podAt] using h3
theorem bytes_beq (a b : ByteArray) : (a == b) = true ↔ a = b := by
  constructor
  · intro h
    have h1 : a.beq b = true := h
    unfold ByteArray.beq at h1
    cases a; cases b
    simp at h1
    rw [h1]
  · intro h; subst h
    show a.beq a = true
    unfold ByteArray.beq
    simp
theorem atF_in (l : List Pod) (s : ByteArray) : atF l s = -1 ∨ (0 ≤ atF l s ∧ atF l s < l.length ∧ (podAt l (atF l s).toNat).1 = s) := by
  rcases placeF_in (fun p => p.1 == s) l 0 with h | ⟨h1, h2, h3⟩
  · exact .inl h
  · rw [Int.sub_zero] at h3
    exact .inr ⟨h1, by simpa [atF] using h2, (bytes_beq _ _).1 h3⟩
theorem holderF_in (l : List Pod) (a : Int) : holderF l a = -1 ∨ (0 ≤ holderF l a ∧ holderF l a < l.length ∧ (podAt l (holderF l a).toNat).2 = a) := by
  rcases placeF_in (fun p => p.2 == a) l 0 with h | ⟨h1, h2, h3⟩
  · exact .inl h
  · rw [Int.sub_zero] at h3
    exact .inr ⟨h1, by simpa [holderF] using h2, by simpa [holderF] using h3⟩
set_option maxHeartbeats 8000000 in
set_option maxRecDepth 100000 in
theorem rfind (w : World) (B : Nat) (vp : Value) (R : RfM) (s : ByteArray) (hl : R.pods.length ≤ 1024) (HS : RfS w B vp R) :
    Calls Try.prog 38 #[.pointer (some ⟨B, 0, none⟩), .string s] w fun e w' => e = .returned (.tuple #[.int .u32 (rfindF R s).1, .int .i64 (rfindF R s).2]) ∧ w' = w := by
  have hc := Aside0.mk (rat w B vp R s hl HS)
  rcases atF_in R.pods s with hat | ⟨h0, h1, _⟩
  · have e : rfindF R s = (0, 3) := by simp [rfindF, hat]
    rw [e]
    rw [hat] at hc
    clear e hat
    go_enter Try.func38, Try.ntmps38
    go_wp2_with (first | (go_at_call 53; refine hc.out.mono ?_; rintro e_ w1 ⟨rfl, rfl⟩) | go_in)
    go_ret2
    exact ⟨rfl, rfl⟩
  · obtain ⟨g, cap, rfl, _, _⟩ := HS.row.form (by omega)
    have k2 : w.cell? ⟨B, 2, none⟩ = some (.slice (some ⟨g, 0, none⟩) R.pods.length cap) := HS.cell 2
    obtain ⟨_, kc⟩ := pod_at HS.row (atF R.pods s).toNat (by omega)
    have e : rfindF R s = ((podAt R.pods (atF R.pods s).toNat).2, 0) := by simp [rfindF]; omega
    rw [e]
    clear HS e
    generalize podAt R.pods (atF R.pods s).toNat = pd at *
    generalize pd.2 = pa at *
    generalize atF R.pods s = x at *
    go_enter Try.func38, Try.ntmps38
    go_wp2_with (first | (go_at_call 53; refine hc.out.mono ?_; rintro e_ w1 ⟨rfl, rfl⟩) | go_in)
    go_ret2
    exact ⟨rfl, rfl⟩
set_option maxHeartbeats 8000000 in
set_option maxRecDepth 100000 in
theorem rgateway (w : World) (B : Nat) (vp : Value) (R : RfM) (h0 : 0 ≤ R.base) (h1 : R.base < 4294967295) (HS : RfS w B vp R) :
    Calls Try.prog 44 #[.pointer (some ⟨B, 0, none⟩)] w fun e w' => e = .returned (.int .u32 (R.base + 1)) ∧ w' = w := by
  have k0 : w.cell? ⟨B, 0, none⟩ = some (.int .i64 R.base) := HS.cell 0
  clear HS
  go_enter Try.func44, Try.ntmps44
  go_wp2
  go_ret
  exact ⟨by simp, rfl⟩
/-- what the document says to an asker of an address -/
def rownerF (R : RfM) (a : Int) : ByteArray × Int := if a < R.base ∨ a ≥ R.base + R.size then (⟨#[]⟩, 151) else if holderF R.pods a < 0 then (⟨#[]⟩, 3) else ((podAt R.pods (holderF R.pods a).toNat).1, 0)
set_option maxHeartbeats 8000000 in
set_option maxRecDepth 100000 in
theorem rowner (w : World) (B : Nat) (vp : Value) (R : RfM) (a : Int) (ha0 : 0 ≤ a) (ha1 : a < 4294967296) (hb0 : 0 ≤ R.base) (hb1 : R.base < 4294967296) (hs0 : 0 ≤ R.size) (hs1 : R.size ≤ 4294967296) (hl : R.pods.length ≤ 1024) (hr : ∀ p, p ∈ R.pods → 0 ≤ p.2 ∧ p.2 < 4294967296) (HS : RfS w B vp R) :
    Calls Try.prog 40 #[.pointer (some ⟨B, 0, none⟩), .int .u32 a] w fun e w' => e = .returned (.tuple #[.string (rownerF R a).1, .int .i64 (rownerF R a).2]) ∧ Below w.heap.size w w' := by
  have hc := Aside0.mk (fun q => rholder (w.drewN q) B vp R a hl hr (HS.drewN q))
  have k0 : w.cell? ⟨B, 0, none⟩ = some (.int .i64 R.base) := HS.cell 0
  have k1 : w.cell? ⟨B, 1, none⟩ = some (.int .i64 R.size) := HS.cell 1
  by_cases hlo : a < R.base
  · have e : rownerF R a = (⟨#[]⟩, 151) := by simp [rownerF, hlo]
    rw [e]
    clear HS e
    go_enter Try.func40, Try.ntmps40
    go_wp2
    go_quiet (fail)
    go_wp2
    go_ret2
    exact ⟨rfl, pw_below_drewN (Below.refl _ _) _⟩
  by_cases hhi : a ≥ R.base + R.size
  · have e : rownerF R a = (⟨#[]⟩, 151) := by simp [rownerF, hhi]
    rw [e]
    have hd : decide (a < R.base) = false := by simpa using hlo
    clear HS e
    go_enter Try.func40, Try.ntmps40
    go_wp2
    go_quiet (fail)
    go_wp2
    go_ret2
    exact ⟨rfl, pw_below_drewN (Below.refl _ _) _⟩
  have hd : decide (a < R.base) = false := by simpa using hlo
  rcases holderF_in R.pods a with hat | ⟨h0, h1, _⟩
  · have e : rownerF R a = (⟨#[]⟩, 3) := by simp only [rownerF, hat]; rw [if_neg (by omega), if_pos (by omega)]
    rw [e]
    rw [hat] at hc
    clear e hat HS
    go_enter Try.func40, Try.ntmps40
    go_wp2
    go_quiet (fail)
    go_wp2_with (first | (go_at_call 54; refine (hc.out _).mono ?_; rintro e_ w1 ⟨rfl, rfl⟩) | go_in)
    go_ret2
    exact ⟨rfl, pw_below_drewN (Below.refl _ _) _⟩
  · obtain ⟨g, cap, rfl, _, _⟩ := HS.row.form (by omega)
    have k2 : w.cell? ⟨B, 2, none⟩ = some (.slice (some ⟨g, 0, none⟩) R.pods.length cap) := HS.cell 2
    obtain ⟨kc, _⟩ := pod_at HS.row (holderF R.pods a).toNat (by omega)
    have e : rownerF R a = ((podAt R.pods (holderF R.pods a).toNat).1, 0) := by simp only [rownerF]; rw [if_neg (by omega), if_neg (by omega)]
    rw [e]
    clear HS e
    generalize podAt R.pods (holderF R.pods a).toNat = pd at *
    generalize pd.1 = pa at *
    generalize holderF R.pods a = x at *
    go_enter Try.func40, Try.ntmps40
    go_wp2
    go_quiet (fail)
    go_wp2_with (first | (go_at_call 54; refine (hc.out _).mono ?_; rintro e_ w1 ⟨rfl, rfl⟩) | go_in)
    go_ret2
    exact ⟨rfl, pw_below_drewN (Below.refl _ _) _⟩
end Go.Proofs.Ytgabkifojnkbkaa.Ip
