/- The state of the script of weftlaw1.AddrScript: three rows of its own memory; answers and merges walked. No condition. -/
import Derived.Test.YtncpcjphljfcpaaDoorPScrx0
import Derived.Test.YtncpcjphljfcpaaDoorPScrx10
import Derived.Test.YtncpcjphljfcpaaDoorPScrx11
import Derived.Test.YtncpcjphljfcpaaDoorPScrx6
import Derived.Test.YtncpcjphljfcpaaDoorPScrx7
import Derived.Test.YtncpcjphljfcpaaDoorPScrx9
import Derived.Test.YtncpcjphljfcpaaDoorPScrx3
namespace Go.Proofs.YtncpcjphljfcpaaDoor.PScr
open Go.RowKit Go.Proofs.YtncpcjphljfcpaaDoorW.PrintWords Go.Proofs.YtncpcjphljfcpaaDoorW.PrintLast Go.Proofs.YtncpcjphljfcpaaDoorW.PrintMore
attribute [local go_sem] max2_int min2_int max_two min_two max_three min_three max_four min_four
set_option linter.unusedVariables false
set_option linter.unusedSimpArgs false
theorem infoLL : (Tryd.prog.info? 39).map (fun i => (i.zero, i.size, i.bytes)) = some (some (.slice none 0 0), 1, 24) := by kernel_rfl
/-- the steps' state: the list handed in last, the lists answered, what they were: each of its own memory -/
structure StS (w0 : World) (Bs : Nat) (vA vL vW : Value) (L : List S31) (xs ys : List (List S31)) (w : World) : Prop where
  blk : w.heap[Bs]? = some (.cells #[vA, vL, vW] 42 (0, 0))
  bs : w0.heap.size ≤ Bs
  la : Kd.R k31 31 w w0.heap.size (fun k => k ≠ Bs ∧ some k ≠ vL.ownBlock ∧ some k ≠ vW.ownBlock) vA L
  ls : Kd.R (Kd.slice 31 k31) 39 w w0.heap.size (fun k => k ≠ Bs ∧ some k ≠ vA.ownBlock ∧ some k ≠ vW.ownBlock) vL xs
  ws : Kd.R (Kd.slice 31 k31) 39 w w0.heap.size (fun k => k ≠ Bs ∧ some k ≠ vA.ownBlock ∧ some k ≠ vL.ownBlock) vW ys
  bel : Below w0.heap.size w0 w
section
variable {w0 w : World} {Bs : Nat} {vA vL vW : Value} {L : List S31} {xs ys : List (List S31)}
theorem StS.below {w1 : World} (h : StS w0 Bs vA vL vW L xs ys w) (hb : Below w.heap.size w w1) : StS w0 Bs vA vL vW L xs ys w1 :=
  ⟨blk_below h.blk hb, h.bs, Kd.R_below h.la hb, Kd.R_below h.ls hb, Kd.R_below h.ws hb, below_step h.bel hb⟩
theorem StS.drewN (h : StS w0 Bs vA vL vW L xs ys w) (n : Nat) : StS w0 Bs vA vL vW L xs ys (w.drewN n) := h.below (pw_below_drewN (Below.refl _ _) n)
theorem StS.drew (h : StS w0 Bs vA vL vW L xs ys w) : StS w0 Bs vA vL vW L xs ys w.drew := h.below (below_drew (Below.refl _ _))
theorem StS.alloc (h : StS w0 Bs vA vL vW L xs ys w) (o : Obj) : StS w0 Bs vA vL vW L xs ys (w.alloc o) := h.below (below_alloc (Below.refl _ _) o)
theorem StS.cellA (h : StS w0 Bs vA vL vW L xs ys w) : w.cell? ⟨Bs, 0, none⟩ = some vA := (blk_cell h.blk 0).trans rfl
theorem StS.cellL (h : StS w0 Bs vA vL vW L xs ys w) : w.cell? ⟨Bs, 1, none⟩ = some vL := (blk_cell h.blk 1).trans rfl
theorem StS.cellW (h : StS w0 Bs vA vL vW L xs ys w) : w.cell? ⟨Bs, 2, none⟩ = some vW := (blk_cell h.blk 2).trans rfl
theorem StS.freshL (h : StS w0 Bs vA vL vW L xs ys w) : ∀ k, w.heap.size ≤ k → k ≠ Bs ∧ some k ≠ vA.ownBlock ∧ some k ≠ vW.ownBlock := fun k hk =>
  ⟨fun e => by have := blk_lt h.blk; omega, fun e => by have := Kd.R_lt h.la k e.symm; omega, fun e => by have := Kd.R_lt h.ws k e.symm; omega⟩
theorem StS.freshW (h : StS w0 Bs vA vL vW L xs ys w) : ∀ k, w.heap.size ≤ k → k ≠ Bs ∧ some k ≠ vA.ownBlock ∧ some k ≠ vL.ownBlock := fun k hk =>
  ⟨fun e => by have := blk_lt h.blk; omega, fun e => by have := Kd.R_lt h.la k e.symm; omega, fun e => by have := Kd.R_lt h.ls k e.symm; omega⟩
theorem StS.putL {w1 : World} {v1 : Value} {zs : List (List S31)} (h : StS w0 Bs vA vL vW L xs ys w) (ho : Kd.R (Kd.slice 31 k31) 39 w1 w0.heap.size (fun k => k ≠ Bs ∧ some k ≠ vA.ownBlock ∧ some k ≠ vW.ownBlock) v1 zs)
    (hb : Below w0.heap.size w0 w1) (hg : w.grownBy w1 vL.ownBlock) (hat : v1.ownBlock = vL.ownBlock ∨ ∃ b, v1.ownBlock = some b ∧ w.heap.size ≤ b) : StS w0 Bs vA v1 vW L zs ys (w1.setCell ⟨Bs, 1, none⟩ v1) := by
  have hne : some Bs ≠ vL.ownBlock := fun e => (h.ls.1 Bs e.symm).1 rfl
  have la := Kd.R_after (v1 := v1) (ok := fun k => k ≠ Bs ∧ some k ≠ vW.ownBlock) (Kd.R_mono h.la fun k hk => ⟨⟨hk.1, hk.2.2⟩, hk.2.1⟩) hg hat
  have ws := Kd.R_after (v1 := v1) (ok := fun k => k ≠ Bs ∧ some k ≠ vA.ownBlock) (Kd.R_mono h.ws fun k hk => ⟨⟨hk.1, hk.2.1⟩, hk.2.2⟩) hg hat
  exact ⟨blk_put (blk_grown h.blk hg hne) 1 _ rfl, h.bs, Kd.R_far (Kd.R_mono la fun k hk => ⟨hk.1.1, hk.2, hk.1.2⟩) (fun _ hk => hk.1) _, Kd.R_far ho (fun _ hk => hk.1) _, Kd.R_far (Kd.R_mono ws fun k hk => ⟨hk.1.1, hk.1.2, hk.2⟩) (fun _ hk => hk.1) _, below_set hb h.bs⟩
theorem StS.putW {w1 : World} {v1 : Value} {zs : List (List S31)} (h : StS w0 Bs vA vL vW L xs ys w) (ho : Kd.R (Kd.slice 31 k31) 39 w1 w0.heap.size (fun k => k ≠ Bs ∧ some k ≠ vA.ownBlock ∧ some k ≠ vL.ownBlock) v1 zs)
    (hb : Below w0.heap.size w0 w1) (hg : w.grownBy w1 vW.ownBlock) (hat : v1.ownBlock = vW.ownBlock ∨ ∃ b, v1.ownBlock = some b ∧ w.heap.size ≤ b) : StS w0 Bs vA vL v1 L xs zs (w1.setCell ⟨Bs, 2, none⟩ v1) := by
  have hne : some Bs ≠ vW.ownBlock := fun e => (h.ws.1 Bs e.symm).1 rfl
  have la := Kd.R_after (v1 := v1) (ok := fun k => k ≠ Bs ∧ some k ≠ vL.ownBlock) (Kd.R_mono h.la fun k hk => ⟨⟨hk.1, hk.2.1⟩, hk.2.2⟩) hg hat
  have ls := Kd.R_after (v1 := v1) (ok := fun k => k ≠ Bs ∧ some k ≠ vA.ownBlock) (Kd.R_mono h.ls fun k hk => ⟨⟨hk.1, hk.2.1⟩, hk.2.2⟩) hg hat
  exact ⟨blk_put (blk_grown h.blk hg hne) 2 _ rfl, h.bs, Kd.R_far (Kd.R_mono la fun k hk => ⟨hk.1.1, hk.1.2, hk.2⟩) (fun _ hk => hk.1) _, Kd.R_far (Kd.R_mono ls fun k hk => ⟨hk.1.1, hk.1.2, hk.2⟩) (fun _ hk => hk.1) _, Kd.R_far ho (fun _ hk => hk.1) _, below_set hb h.bs⟩
theorem StS.putA {w1 : World} {v1 : Value} {L2 : List S31} (h : StS w0 Bs vA vL vW L xs ys w) (hb : Below w.heap.size w w1) (hr : Kd.R k31 31 w1 w.heap.size (fun _ => True) v1 L2) : StS w0 Bs v1 vL vW L2 xs ys (w1.setCell ⟨Bs, 0, none⟩ v1) := by
  have hv : ∀ k, k < w.heap.size → some k ≠ v1.ownBlock := fun k hk e => by have := Kd.R_base hr k e.symm; omega
  have la := Kd.R_mono (ok' := fun k => k ≠ Bs ∧ some k ≠ vL.ownBlock ∧ some k ≠ vW.ownBlock) (Kd.R_lower (Kd.R_bound hr) h.bel.size) fun k hk => ⟨fun e => by have := blk_lt h.blk; have := hk.2.1; omega, fun e => by have := Kd.R_lt h.ls k e.symm; have := hk.2.1; omega, fun e => by have := Kd.R_lt h.ws k e.symm; have := hk.2.1; omega⟩
  have ls := Kd.R_below (Kd.R_mono (ok' := fun k => k ≠ Bs ∧ some k ≠ v1.ownBlock ∧ some k ≠ vW.ownBlock) (Kd.R_bound h.ls) fun k hk => ⟨hk.1.1, hv k hk.2.2.1, hk.1.2.2⟩) hb
  have ws := Kd.R_below (Kd.R_mono (ok' := fun k => k ≠ Bs ∧ some k ≠ v1.ownBlock ∧ some k ≠ vL.ownBlock) (Kd.R_bound h.ws) fun k hk => ⟨hk.1.1, hv k hk.2.2.1, hk.1.2.2⟩) hb
  exact ⟨blk_put (blk_below h.blk hb) 0 _ rfl, h.bs, Kd.R_far la (fun _ hk => hk.1) _, Kd.R_far ls (fun _ hk => hk.1) _, Kd.R_far ws (fun _ hk => hk.1) _, below_set (below_step h.bel hb) h.bs⟩
end
theorem Kd.R_lowerOk {α : Type} {d : Kd α} {e base b2 : Nat} {w : World} {v : Value} {xs : List α} (h : d.R e w base (fun _ => True) v xs) (hb : b2 ≤ base) : d.R e w b2 (fun k => base ≤ k) v xs :=
  Kd.R_mono (Kd.R_lower (Kd.R_bound h) hb) (fun k hk => hk.2.1)
set_option maxHeartbeats 4000000 in
set_option maxRecDepth 100000 in
theorem answersT (k : Nat) (w0 w : World) (Bs : Nat) (vA vL vW : Value) (L : List S31) (xs ys : List (List S31)) (Al : Option Addr) (l l2 : List S31) (cl : Nat) (HS : StS w0 Bs vA vL vW L xs ys w)
    (hl : Kd.R k31 31 w w0.heap.size (fun k => k ≠ Bs ∧ some k ≠ vA.ownBlock ∧ some k ≠ vL.ownBlock ∧ some k ≠ vW.ownBlock) (.slice Al l.length cl) l) (hx : xs.length < 1000000) (hy : ys.length < 1000000) (hcp : weftlaw1_copied.f k l = some l2) :
    Calls Tryd.prog 34 #[.pointer (some ⟨Bs, 0, none⟩), .slice Al l.length cl] w fun e w' => e = .returned (.tuple #[]) ∧ (∃ vL' vW', StS w0 Bs vA vL' vW' L (xs ++ [l]) (ys ++ [l2]) w') ∧ w.heap.size ≤ w'.heap.size ∧ ∀ b, b < w.heap.size → b ≠ Bs → some b ≠ vL.ownBlock → some b ≠ vW.ownBlock → w'.heap[b]? = w.heap[b]? := by
  have HCP := Aside0.mk hcp
  have HX := Aside0.mk hx
  have HY := Aside0.mk hy
  have HSS := Aside0.mk HS
  have HCL := Aside0.mk (Kd.R_reads' hl).2.2
  have HLE := Aside0.mk (Kd.R_reads' hl).2.1
  have HL := Aside0.mk hl
  have kL := HS.cellL
  clear HS hl hcp hx hy
  go_enter Tryd.func34, Tryd.ntmps34
  go_wp2_with ((with_reducible refine gate_builtin (b := .append) (xs := #[.tmp 8, .tmp 10]) rfl ?_); at_builtin
               refine Kd.R_append (Kd.slice 31 k31) (w0 := w0) w0.heap.size rfl (.tmp 8) (.tmp 10) 40 39 (.slice none 0 0) 24 rfl Tryd.underlying40 infoLL rfl (by decide) (by omega) vL xs l [.slice Al l.length cl] (fun k => k ≠ Bs ∧ some k ≠ vA.ownBlock ∧ some k ≠ vW.ownBlock) (fun k => k ≠ Bs ∧ some k ≠ vA.ownBlock ∧ some k ≠ vL.ownBlock ∧ some k ≠ vW.ownBlock) rfl rfl (Kd.M_row HL.out) (fun k hk => ⟨⟨hk.1, hk.2.1, hk.2.2.2⟩, hk.2.2.1⟩) HSS.out.freshL HSS.out.ls HSS.out.bel HSS.out.bel.size (by have := HX.out; omega) ?_
               intro v1 w1 ho hb hg hat
               have HS1 := Aside0.mk (StS.putL HSS.out ho hb hg hat)
               have KS1 := Aside0.mk (blk_grown HSS.out.blk hg (fun e => (HSS.out.ls.1 Bs e.symm).1 rfl))
               have fs1 := blk_frozen KS1.out 1
               have ks1 : w1.cell? ⟨Bs, 1, none⟩ = some vL := (blk_cell KS1.out 1).trans rfl
               have HCL1 := Aside0.mk (Kd.R_reads' (Kd.R_far (p := ⟨Bs, 1, none⟩) (Kd.R_grown HL.out hg (fun k hk => hk.2.2.1)) (fun _ hk => hk.1) v1)).2.2
               obtain ⟨ino, hown⟩ := Kd.R_own ho
               obtain ⟨A1, c1, hv1⟩ := own_slice hown
               subst hv1
               rw [show (xs ++ [l]).length = xs.length + 1 from by simp] at HS1 HCL1
               have F1 := Aside0.mk (fun (b : Nat) (hb0 : b < w.heap.size) (h1 : b ≠ Bs) (h2 : some b ≠ vL.ownBlock) => (Below.heap_setCell w1 ⟨Bs, 1, none⟩ (.slice A1 (xs.length + 1) c1) b h1).trans (hg.block b hb0 h2))
               have Z1 : Aside0 (w.heap.size ≤ (w1.setCell ⟨Bs, 1, none⟩ (.slice A1 (xs.length + 1) c1)).heap.size) := ⟨by have := hg.size; simpa [World.setCell] using this⟩
               clear ho hb hg hat hown)
  generalize hw2 : w1.setCell ⟨Bs, 1, none⟩ (.slice A1 (xs.length + 1) c1) = w2 at HS1 HCL1 F1 Z1 ⊢
  have HS2 := HS1
  have HCL2 := HCL1
  clear HS1 HCL1
  refine start_ (n := 12) (S := fun w' => w'.cell? ⟨Bs, 2, none⟩ = some vW) (ds := [8, 11]) #[false, false, false, false, false, false, false, false, false, false, false, false] (by kernel_rfl) rfl rfl ((StS.drew HS2.out).cellW) (fun hHeld => ?_)
  refine pure_ (i := 0) (N := some 14) (v := ?_) (a' := ?_) #[true, false, false, false, false, false, false, false, false, false, false, false] rfl rfl (by kernel_rfl) (fun _ _ _ h => h) (Or.inl ⟨by rfl, ?_⟩) ?_ ?_
  rotate_left
  · intro w'
    go_simp
    with_reducible rfl
  rotate_left
  · simp only [Act.put, List.setIfInBounds_toArray, List.set_cons_zero, List.set_cons_succ, i64_w, i32_w]
    rfl
  refine pure_ (i := 1) (N := some 15) (v := ?_) (a' := ?_) #[true, true, false, false, false, false, false, false, false, false, false, false] rfl rfl (by kernel_rfl) (fun _ _ _ h => h) (Or.inl ⟨by rfl, ?_⟩) ?_ ?_
  rotate_left
  · intro w'
    go_simp
    with_reducible rfl
  rotate_left
  · simp only [Act.put, List.setIfInBounds_toArray, List.set_cons_zero, List.set_cons_succ, i64_w, i32_w]
    rfl
  refine pure_ (i := 2) (N := some 16) (v := ?_) (a' := ?_) #[true, true, true, false, false, false, false, false, false, false, false, false] rfl rfl (by kernel_rfl) (fun _ _ _ h => h) (Or.inl ⟨by rfl, ?_⟩) ?_ ?_
  rotate_left
  · intro w'
    go_simp
    with_reducible rfl
  rotate_left
  · simp only [Act.put, List.setIfInBounds_toArray, List.set_cons_zero, List.set_cons_succ, i64_w, i32_w]
    rfl
  refine pure_ (i := 3) (N := some 17) (v := ?_) (a' := ?_) #[true, true, true, true, false, false, false, false, false, false, false, false] rfl rfl (by kernel_rfl) (fun _ _ _ h => h) (Or.inl ⟨by rfl, ?_⟩) ?_ ?_
  rotate_left
  · intro w'
    go_simp
    with_reducible rfl
  rotate_left
  · simp only [Act.put, List.setIfInBounds_toArray, List.set_cons_zero, List.set_cons_succ, i64_w, i32_w]
    rfl
  refine pure_ (i := 5) (N := some 19) (v := ?_) (a' := ?_) #[true, true, true, true, false, true, false, false, false, false, false, false] rfl rfl (by kernel_rfl) (fun _ _ _ h => h) (Or.inl ⟨by rfl, ?_⟩) ?_ ?_
  rotate_left
  · intro w'
    go_simp
    with_reducible rfl
  rotate_left
  · simp only [Act.put, List.setIfInBounds_toArray, List.set_cons_zero, List.set_cons_succ, i64_w, i32_w]
    rfl
  refine take_ (i := 4) (N := some 18) (v := ?_) (a' := ?_) #[true, true, true, true, true, true, false, false, false, false, false, false] rfl rfl (by kernel_rfl) (fun _ _ _ h => h) (Or.inl ⟨by rfl, ?_⟩) hHeld ?_ ?_
  rotate_left
  · intro w' s0
    go_simp
    with_reducible rfl
  rotate_left
  · simp only [Act.put, List.setIfInBounds_toArray, List.set_cons_zero, List.set_cons_succ, i64_w, i32_w]
    rfl
  refine one_ (i := 6) (N := some 20) #[true, true, true, true, true, true, true, false, false, false, false, false] rfl rfl (by kernel_rfl) (by decide) (fun K hK => ?_)
  refine goes_ Tryd.func35 (by kernel_rfl) rfl #[.slice Al l.length cl] (by rfl) rfl rfl (by simp only [List.map_toArray, List.map_cons, List.map_nil]; rfl) ?_
  with_reducible refine (weftlaw1_copied.calls k _ _ l l2 _ (Kd.C_drew HCL2.out) HLE.out HCP.out).mono ?_
  rintro e_ w3 ⟨v3, rfl, hr3, hb3⟩
  refine ⟨_, rfl, ?_⟩
  obtain ⟨in3, ho3⟩ := Kd.R_own hr3
  obtain ⟨A3, c3, hv3⟩ := own_slice ho3
  subst hv3
  have F3 := Aside0.mk (fun (b : Nat) (hb0 : b < w2.heap.size) => hb3.block b hb0)
  have Z3 := Aside0.mk hb3.size
  have HS3 := Aside0.mk (StS.below (StS.drew HS2.out) hb3)
  have HV3 := Aside0.mk hr3
  clear hr3 hb3 ho3
  refine hK.out _ _ (HS3.out.cellW) (fun hHeld => ?_)
  clear hK K
  refine norm_ (a' := ?_) ?_ ?_
  rotate_left
  · show Act.put _ (some 20) _ = _
    simp only [Act.put, List.setIfInBounds_toArray, List.set_cons_zero, List.set_cons_succ, i64_w, i32_w]
    rfl
  refine one_ (i := 7) (N := some 21) #[true, true, true, true, true, true, true, true, false, false, false, false] rfl rfl (by kernel_rfl) (by decide) (fun K hK => ?_)
  refine value_ (w1 := ?_) (v := ?_) (by rfl) rfl ?_ ?_
  rotate_left 2
  · go_simp
    constructor
    · rfl
    · rfl
  refine hK.out _ _ ((StS.alloc HS3.out _).cellW) (fun hHeld => ?_)
  clear hK K
  refine norm_ (a' := ?_) ?_ ?_
  rotate_left
  · show Act.put _ (some 21) _ = _
    simp only [Act.put, List.setIfInBounds_toArray, List.set_cons_zero, List.set_cons_succ, i64_w, i32_w]
    rfl
  refine last_ (i := 8) (N := some 22) #[true, true, true, true, true, true, true, true, true, false, false, false] rfl rfl (by kernel_rfl) (by decide) (fun K hK => ?_)
  refine Kd.R_append_step (Kd.slice 31 k31) (w0 := w0) w0.heap.size (by rfl) (.tmp 18) (.tmp 21) 40 39 (.slice none 0 0) 24 rfl Tryd.underlying40 infoLL rfl (by decide) (by omega) vW ys l2 [.slice A3 l2.length c3] (fun k => k ≠ Bs ∧ some k ≠ vA.ownBlock ∧ some k ≠ (Value.slice A1 (xs.length + 1) c1).ownBlock) (fun k => w2.heap.size ≤ k) rfl rfl (Kd.M_row (Kd.R_lowerOk HV3.out HS2.out.bel.size)) (fun k hk => ⟨HS2.out.freshW k hk, fun e => by have := Kd.R_lt HS2.out.ws k e.symm; omega⟩) HS3.out.freshW HS3.out.ws HS3.out.bel HS3.out.bel.size (by have := HY.out; omega) ?_
  intro v6 w6 ho hb hg hat
  obtain ⟨in6, ho6⟩ := Kd.R_own ho
  obtain ⟨A6, c6, hv6⟩ := own_slice ho6
  subst hv6
  have HS6 := Aside0.mk (StS.putW HS3.out ho hb hg hat)
  have KS6 := Aside0.mk (blk_grown HS3.out.blk hg (fun e => (HS3.out.ws.1 Bs e.symm).1 rfl))
  have F6 := Aside0.mk (fun (b : Nat) (hb0 : b < w3.heap.size) (h2 : some b ≠ vW.ownBlock) => hg.block b hb0 h2)
  have Z6 := Aside0.mk hg.size
  have fs6 := blk_frozen KS6.out 2
  have ks6 : w6.cell? ⟨Bs, 2, none⟩ = some vW := (blk_cell KS6.out 2).trans rfl
  clear ho hb hg hat ho6
  refine hK.out _ _ ?_
  clear hK K
  refine norm_ (a' := ?_) ?_ ?_
  rotate_left
  · show Act.put _ (some 22) _ = _
    simp only [Act.put, List.setIfInBounds_toArray, List.set_cons_zero, List.set_cons_succ, i64_w, i32_w]
    rfl
  refine pure_ (i := 9) (N := some 23) (v := ?_) (a' := ?_) #[true, true, true, true, true, true, true, true, true, true, false, false] rfl rfl (by kernel_rfl) (fun _ _ _ h => h) (Or.inl ⟨by rfl, ?_⟩) ?_ ?_
  rotate_left
  · intro w'
    go_simp
    with_reducible rfl
  rotate_left
  · simp only [Act.put, List.setIfInBounds_toArray, List.set_cons_zero, List.set_cons_succ, i64_w, i32_w]
    rfl
  refine pure_ (i := 10) (N := some 24) (v := ?_) (a' := ?_) #[true, true, true, true, true, true, true, true, true, true, true, false] rfl rfl (by kernel_rfl) (fun _ _ _ h => h) (Or.inl ⟨by rfl, ?_⟩) ?_ ?_
  rotate_left
  · intro w'
    go_simp
    with_reducible rfl
  rotate_left
  · simp only [Act.put, List.setIfInBounds_toArray, List.set_cons_zero, List.set_cons_succ, i64_w, i32_w]
    rfl
  refine last_ (i := 11) (N := none) #[true, true, true, true, true, true, true, true, true, true, true, true] rfl rfl (by kernel_rfl) (by decide) (fun K hK => ?_)
  refine skip_ (w1 := ?_) (by rfl) rfl ?_ ?_
  rotate_left
  · go_simp
    rfl
  refine hK.out _ _ ?_
  clear hK K
  refine done_ (by kernel_rfl) ?_
  go_end0
  have h := HS6.out
  rw [show (ys ++ [l2]).length = ys.length + 1 from by simp] at h
  refine ⟨rfl, ⟨_, _, h⟩, ?_, fun b hb0 h1 h2 h3 => ?_⟩
  · have z1 := Z1.out
    have z3 : w2.heap.size ≤ w3.heap.size := Z3.out
    have z6 := Z6.out
    show w.heap.size ≤ (w6.setCell ⟨Bs, 2, none⟩ _).heap.size
    simp only [World.setCell, Array.size_modify]
    omega
  · have z1 := Z1.out
    have z3 : w2.heap.size ≤ w3.heap.size := Z3.out
    have e1 := F1.out b hb0 h1 h2
    have e3 : w3.heap[b]? = w2.heap[b]? := F3.out b (by omega)
    have e6 := F6.out b (by omega) h3
    exact (Below.heap_setCell w6 ⟨Bs, 2, none⟩ _ b h1).trans (e6.trans (e3.trans e1))
theorem if_someS {α : Type} {c : Prop} [Decidable c] {a : Option α} {r : α} (h : (if c then a else none) = some r) : c ∧ a = some r := by
  by_cases hc : c
  · rw [if_pos hc] at h; exact ⟨hc, h⟩
  · rw [if_neg hc] at h; cases h
/-- a merge of the list that stands: the answer, and its copy -/
def mergesF (k : Nat) (L : List S31) : Option (List S31 × List S31) :=
  (weftlaw1_copied.f k L).bind fun was => (addr_Merge.f k L).bind fun x => (weftref1_Merge.f k was).bind fun y => (weftlaw1_same.f k x.1 y.1).bind fun s1 => (weftlaw1_same.f k L was).bind fun s2 => (weftlaw1_copied.f k x.1).bind fun c =>
    if x.2 = y.2 ∧ s1 = true ∧ s2 = true then some (x.1, c) else none
theorem mergesF_parts {k : Nat} {L l l2 : List S31} (h : mergesF k L = some (l, l2)) : ∃ was e m, weftlaw1_copied.f k L = some was ∧ addr_Merge.f k L = some (l, e) ∧ weftref1_Merge.f k was = some (m, e) ∧ weftlaw1_same.f k l m = some true ∧ weftlaw1_same.f k L was = some true ∧ weftlaw1_copied.f k l = some l2 := by
  obtain ⟨was, h1, h⟩ := Option.bind_eq_some_iff.1 h
  obtain ⟨⟨x1, x2⟩, h2, h⟩ := Option.bind_eq_some_iff.1 h
  obtain ⟨⟨y1, y2⟩, h3, h⟩ := Option.bind_eq_some_iff.1 h
  obtain ⟨s1, h4, h⟩ := Option.bind_eq_some_iff.1 h
  obtain ⟨s2, h5, h⟩ := Option.bind_eq_some_iff.1 h
  obtain ⟨c, h6, h⟩ := Option.bind_eq_some_iff.1 h
  have h7 := if_someS h
  obtain ⟨⟨e1, e2, e3⟩, h8⟩ := h7
  subst e2; subst e3
  simp only at e1 h8
  subst e1
  injection h8 with h8
  injection h8 with h9 h10
  subst h9; subst h10
  exact ⟨was, x2, y1, h1, h2, h3, h4, h5, h6⟩
set_option maxHeartbeats 4000000 in
set_option maxRecDepth 100000 in
theorem mergesT (k : Nat) (w0 w : World) (Bs : Nat) (vA vL vW : Value) (L : List S31) (xs ys : List (List S31)) (l l2 : List S31) (HS : StS w0 Bs vA vL vW L xs ys w) (hx : xs.length < 1000000) (hy : ys.length < 1000000) (hf : mergesF k L = some (l, l2)) :
    Calls Tryd.prog 36 #[.pointer (some ⟨Bs, 0, none⟩)] w fun e w' => e = .returned (.bool true) ∧ ∃ vL' vW', StS w0 Bs vA vL' vW' L (xs ++ [l]) (ys ++ [l2]) w' := by
  obtain ⟨was, er, m, h1, h2, h3, h4, h5, h6⟩ := mergesF_parts hf
  have H1 := Aside0.mk h1
  have H2 := Aside0.mk h2
  have H3 := Aside0.mk h3
  have H4 := Aside0.mk h4
  have H5 := Aside0.mk h5
  have H6 := Aside0.mk h6
  have HX := Aside0.mk hx
  have HY := Aside0.mk hy
  obtain ⟨inA, howA⟩ := Kd.R_own HS.la
  obtain ⟨Aa, ca, hva⟩ := own_slice howA
  subst hva
  have HSS := Aside0.mk HS
  have HCA := Aside0.mk (Kd.R_reads' HS.la).2.2
  have HLA := Aside0.mk (Kd.R_reads' HS.la).2.1
  have kA := HS.cellA
  clear HS h1 h2 h3 h4 h5 h6 hx hy hf howA
  go_enter Tryd.func36, Tryd.ntmps36
  go_wp2_with (first
    | (go_at_call 35; (with_reducible refine (weftlaw1_copied.calls k _ _ L was _ HCA.out HLA.out H1.out).mono ?_); rintro e_ w1 ⟨v1, rfl, hr1, hb1⟩
       obtain ⟨in1, ho1⟩ := Kd.R_own hr1
       obtain ⟨A1, c1, hv1⟩ := own_slice ho1
       subst hv1
       have HS1 := Aside0.mk (StS.below HSS.out hb1)
       have HCA1 := Aside0.mk (Kd.C_below HCA.out hb1)
       have HW1 := Aside0.mk (Kd.R_reads' hr1).2.2
       have HWL := Aside0.mk (Kd.R_reads' hr1).2.1
       have kA1 := HS1.out.cellA
       clear hr1 hb1 ho1)
    | (go_at_call 50; (with_reducible refine (addr_Merge.calls k _ _ L l er _ HCA1.out HLA.out H2.out).mono ?_); rintro e_ w2 ⟨v2, rfl, hr2, hb2⟩
       obtain ⟨in2, ho2⟩ := Kd.R_own hr2
       obtain ⟨A2, c2, hv2⟩ := own_slice ho2
       subst hv2
       have HS2 := Aside0.mk (StS.below HS1.out hb2)
       have HCA2 := Aside0.mk (Kd.C_below HCA1.out hb2)
       have HW2 := Aside0.mk (Kd.C_below HW1.out hb2)
       have HR2 := Aside0.mk hr2
       have HWB := Aside0.mk HS1.out
       clear hr2 hb2 ho2)
    | (go_at_call 51; (with_reducible refine (weftref1_Merge.calls k _ _ was m er _ HW2.out HWL.out H3.out).mono ?_); rintro e_ w3 ⟨v3, rfl, hr3, hb3⟩
       obtain ⟨in3, ho3⟩ := Kd.R_own hr3
       obtain ⟨A3, c3, hv3⟩ := own_slice ho3
       subst hv3
       have HS3 := Aside0.mk (StS.below HS2.out hb3)
       have HCA3 := Aside0.mk (Kd.C_below HCA2.out hb3)
       have HW3 := Aside0.mk (Kd.C_below HW2.out hb3)
       have HR3 := Aside0.mk (Kd.R_below HR2.out hb3)
       have HM3 := Aside0.mk (Kd.R_reads' hr3).2.2
       have HML := Aside0.mk (Kd.R_reads' hr3).2.1
       have HL3 := Aside0.mk (Kd.R_reads' HR3.out).2.2
       have HLL := Aside0.mk (Kd.R_reads' HR3.out).2.1
       have kA3 := HS3.out.cellA
       clear hr3 hb3 ho3)
    | (go_at_call 11; (with_reducible refine (weftlaw1_same.calls k _ _ l _ _ m true _ HL3.out HLL.out HM3.out HML.out H4.out).mono ?_); rintro e_ w4 ⟨rfl, ⟨nd4, rfl⟩⟩
       have HS4 := Aside0.mk (StS.drewN HS3.out nd4)
       have HCA4 := Aside0.mk (Kd.C_drewN HCA3.out nd4)
       have HW4 := Aside0.mk (Kd.C_drewN HW3.out nd4)
       have kA4 := HS4.out.cellA)
    | (go_at_call 11; (with_reducible refine (weftlaw1_same.calls k _ _ L _ _ was true _ HCA4.out HLA.out HW4.out HWL.out H5.out).mono ?_); rintro e_ w5 ⟨rfl, ⟨nd5, rfl⟩⟩
       have HS5 := Aside0.mk (StS.drewN HS3.out (nd4 + nd5))
       have HR5 := Aside0.mk (Kd.R_drewN HR3.out (nd4 + nd5))
       have HA5 := Aside0.mk (answersT k w0 _ Bs _ vL vW L xs ys A2 l l2 c2 HS5.out (Kd.R_mono (Kd.R_lowerOk HR5.out HS1.out.bel.size) (fun k_ hk => ⟨fun e => by have := blk_lt HS1.out.blk; omega, fun e => by have := Kd.R_lt HS1.out.la k_ e.symm; omega, fun e => by have := Kd.R_lt HS1.out.ls k_ e.symm; omega, fun e => by have := Kd.R_lt HS1.out.ws k_ e.symm; omega⟩)) HX.out HY.out H6.out))
    | (go_at_call 34; (with_reducible refine HA5.out.mono ?_); rintro e_ w6 ⟨rfl, ⟨vL6, vW6, hs6⟩, _, _⟩
       have HS6 := Aside0.mk hs6
       clear hs6))
  go_ret
  exact ⟨rfl, _, _, HS6.out⟩

end Go.Proofs.YtncpcjphljfcpaaDoor.PScr
