/- IpamOnce: what was given, in memory: its words, at and holder walked. No condition beyond the state's own. IpamOnce: told and edges walked. IpamOnce walked: no address twice. No condition. IpamOnce's own walk. No condition. -/
import Derived.Test.YtgabkifojnkbkaaIpmFu
import Derived.Deep.RegionHeld3
import Derived.Deep.DeepCutAuto
import Derived.Deep.CutBlock
import Derived.Deep.LoopGhost
set_option linter.unusedVariables false
set_option linter.unusedSimpArgs false
namespace Go.Proofs.Ytgabkifojnkbkaa.Ip
open Go.RowKit Go.Maps Go.WideMaps Go.MapKept Go.Proofs.YtgabkifojnkbkaaW.PrintWords Go.Proofs.Ytgabkifojnkbkaa.PIpf
structure GvS (w : World) (B : Nat) (vp : Value) (ps : List Pod) : Prop where
  blk : w.heap[B]? = some (.cells #[vp] 47 (0, 0))
  row : w.ownsRow 0 84 2 vp ps.length (podCells ps)
def GvF (B : Nat) (vp : Value) : List Nat := B :: vp.ownBlock.toList
section
variable {w w1 : World} {B : Nat} {vp : Value} {ps : List Pod} {F : List Nat}
theorem GvS.lt (h : GvS w B vp ps) : ∀ b, b ∈ GvF B vp → b < w.heap.size := by
  intro b hb
  simp only [GvF, List.mem_cons, Option.mem_toList, Option.mem_def] at hb
  rcases hb with rfl | hb
  · exact blk_lt h.blk
  · exact (h.row.lt b hb).2
theorem GvS.step (h : GvS w B vp ps) (hb : ∀ b, b ∈ GvF B vp → w1.heap[b]? = w.heap[b]?) : GvS w1 B vp ps :=
  ⟨(hb B (by simp [GvF])).trans h.blk, row_step h.row (fun k hk => hb k (by simp [GvF, hk]))⟩
theorem GvS.turn (h : GvS w B vp ps) (ht : Turn w w1 F) (hF : ∀ b, b ∈ GvF B vp → b ∉ F) : GvS w1 B vp ps := h.step fun b hb => ht.block b (h.lt b hb) (hF b hb)
theorem GvS.drewN (h : GvS w B vp ps) (n : Nat) : GvS (w.drewN n) B vp ps := h.step fun _ _ => rfl
theorem GvS.below (h : GvS w B vp ps) (hb : Below w.heap.size w w1) : GvS w1 B vp ps := h.step fun b hb' => hb.block b (h.lt b hb')
theorem GvS.cell (h : GvS w B vp ps) : w.cell? ⟨B, 0, none⟩ = some vp := blk_cell h.blk 0
theorem GvS.ne (h : GvS w B vp ps) : some B ≠ vp.ownBlock := fun e => by
  obtain ⟨cells, hc⟩ := own_typed h.row _ e.symm
  rw [h.blk] at hc; cases hc
end
set_option maxHeartbeats 8000000 in
set_option maxRecDepth 100000 in
theorem gat (w : World) (B : Nat) (vp : Value) (ps : List Pod) (s : ByteArray) (hl : ps.length ≤ 1024) (HS : GvS w B vp ps) :
    Calls Try.prog 48 #[.pointer (some ⟨B, 0, none⟩), .string s] w fun e w' => e = .returned (.int .i64 (atF ps s)) ∧ w' = w := by
  obtain ⟨Ap, cp, rfl⟩ := own_slice HS.row
  have k2 : w.cell? ⟨B, 0, none⟩ = some (.slice Ap ps.length cp) := HS.cell
  have HSS := Aside0.mk HS
  have HL := Aside0.mk hl
  clear HS
  go_enter Try.func48, Try.ntmps48
  go_wp2
  go_loop [5] (fun vi => ∃ (i : Nat), vi = .int .i64 i ∧ i ≤ ps.length ∧ Aside0 (placeF (fun p => p.1 == s) (ps.drop i) i = atF ps s)) (fun vi => ps.length - (intOf vi).toNat)
  case atStart => exact ⟨0, rfl, by omega, ⟨rfl⟩⟩
  case round =>
    obtain ⟨i, rfl, hi, HK⟩ := hrel
    by_cases hlt : i < ps.length
    · have hli : (i : Int) < (ps.length : Int) := by omega
      obtain ⟨g, cap, e, _, _⟩ := HSS.out.row.form (by omega)
      injection e with e1 e2 e3
      subst e1 e3
      obtain ⟨hc, _⟩ := pod_at HSS.out.row i hlt
      have hpl := placeF_drop (fun p : Pod => p.1 == s) ps i hlt i
      generalize (podAt ps i).1 = nm at hc hpl
      rw [Go.beq_toListBytes] at hpl
      have HPL := Aside0.mk hpl
      clear hpl
      go_wp2
      · have h : (nm.toList == s.toList) = true := by assumption
        go_ret
        have h1 := HPL.out
        rw [if_pos h, HK.out] at h1
        exact ⟨by rw [h1]; rfl, rfl⟩
      · have h : (nm.toList == s.toList) = false := by assumption
        refine ⟨⟨i + 1, by go_num, by omega, ⟨?_⟩⟩, by simp [intOf]; omega⟩
        have h1 := HPL.out
        rw [if_neg (by rw [h]; simp), HK.out] at h1
        rw [h1]; simp
    · obtain rfl : i = ps.length := by omega
      have hk := HK.out
      rw [List.drop_length] at hk
      go_wp2
      go_ret
      exact ⟨by rw [← hk]; rfl, rfl⟩
set_option maxHeartbeats 8000000 in
set_option maxRecDepth 100000 in
theorem gholder (w : World) (B : Nat) (vp : Value) (ps : List Pod) (a : Int) (hl : ps.length ≤ 1024) (hr : ∀ p, p ∈ ps → 0 ≤ p.2 ∧ p.2 < 4294967296) (HS : GvS w B vp ps) :
    Calls Try.prog 49 #[.pointer (some ⟨B, 0, none⟩), .int .u32 a] w fun e w' => e = .returned (.int .i64 (holderF ps a)) ∧ w' = w := by
  obtain ⟨Ap, cp, rfl⟩ := own_slice HS.row
  have k2 : w.cell? ⟨B, 0, none⟩ = some (.slice Ap ps.length cp) := HS.cell
  have HSS := Aside0.mk HS
  have HL := Aside0.mk hl
  clear HS
  go_enter Try.func49, Try.ntmps49
  go_wp2
  go_loop [5] (fun vi => ∃ (i : Nat), vi = .int .i64 i ∧ i ≤ ps.length ∧ Aside0 (placeF (fun p => p.2 == a) (ps.drop i) i = holderF ps a)) (fun vi => ps.length - (intOf vi).toNat)
  case atStart => exact ⟨0, rfl, by omega, ⟨rfl⟩⟩
  case round =>
    obtain ⟨i, rfl, hi, HK⟩ := hrel
    by_cases hlt : i < ps.length
    · have hli : (i : Int) < (ps.length : Int) := by omega
      obtain ⟨g, cap, e, _, _⟩ := HSS.out.row.form (by omega)
      injection e with e1 e2 e3
      subst e1 e3
      obtain ⟨_, hc⟩ := pod_at HSS.out.row i hlt
      have hpl := placeF_drop (fun p : Pod => p.2 == a) ps i hlt i
      have hin := hr (podAt ps i) (by simp only [podAt, List.getD_eq_getElem?_getD, List.getElem?_eq_getElem hlt, Option.getD_some]; exact List.getElem_mem hlt)
      generalize (podAt ps i).2 = nm at hc hpl hin
      obtain ⟨hin0, hin1⟩ := hin
      by_cases heq : nm = a
      · subst heq
        have h1 : placeF (fun p => p.2 == nm) (ps.drop i) i = i := by rw [hpl, if_pos (by simp)]
        rw [HK.out] at h1
        have H1 := Aside0.mk h1
        clear hpl h1
        go_wp2
        go_ret
        exact ⟨by rw [H1.out]; rfl, rfl⟩
      · have h1 : placeF (fun p => p.2 == a) (ps.drop i) i = placeF (fun p => p.2 == a) (ps.drop (i + 1)) ((i : Int) + 1) := by rw [hpl, if_neg (by simpa using heq)]
        rw [HK.out] at h1
        have H1 := Aside0.mk h1
        clear hpl h1
        go_wp2
        exact ⟨⟨i + 1, by go_num, by omega, ⟨by rw [H1.out]; simp⟩⟩, by simp [intOf]; omega⟩
    · obtain rfl : i = ps.length := by omega
      have hk := HK.out
      rw [List.drop_length] at hk
      go_wp2
      go_ret
      exact ⟨by rw [← hk]; rfl, rfl⟩
section
variable {w : World} {g : Nat} {ps : List Pod}
/-- one more at the end -/
theorem GvS.app {A : Option Addr} {cp : Nat} (h : GvS w g (.slice A ps.length cp) ps) (s : ByteArray) (z : Int) {v' : Value} {w5 : World}
    (hown : w5.ownsRow 0 84 2 v' (ps.length + 1) (podCells ps ++ [.string s, .int .u32 z])) (hG : (w.alloc (.cells #[.string s, .int .u32 z] 84)).grownBy w5 (Value.slice A ps.length cp).ownBlock) (hloc : v'.ownBlock = (Value.slice A ps.length cp).ownBlock ∨ v'.ownBlock = some (w.alloc (.cells #[.string s, .int .u32 z] 84)).heap.size) :
    w5.cell? ⟨g, 0, none⟩ = some (.slice A ps.length cp) ∧ w5.frozen? ⟨g, 0, none⟩ = false ∧ GvS (w5.setCell ⟨g, 0, none⟩ v') g v' (ps ++ [(s, z)]) ∧ Turn w (w5.setCell ⟨g, 0, none⟩ v') (GvF g (.slice A ps.length cp)) ∧ ∀ b, b ∈ GvF g v' → b ∈ GvF g (.slice A ps.length cp) ∨ w.heap.size ≤ b := by
  have hG2 : w.grownBy w5 (Value.slice A ps.length cp).ownBlock := World.grownBy.trans (World.grownBy_alloc w (.cells #[.string s, .int .u32 z] 84) _) hG
  have hown' : w5.ownsRow 0 84 2 v' (ps ++ [(s, z)]).length (podCells (ps ++ [(s, z)])) := by
    rw [podCells_append, show podCells [(s, z)] = [.string s, .int .u32 z] from rfl, List.length_append]; exact hown
  have hb : w5.heap[g]? = some (.cells #[.slice A ps.length cp] 47 (0, 0)) := (hG2.block g (blk_lt h.blk) h.ne).trans h.blk
  have hneB : ∀ k, v'.ownBlock = some k → k ≠ g := fun k hk e => by
    subst e
    rcases hloc with h1 | h1
    · rw [hk] at h1; exact h.ne h1
    · rw [hk] at h1; injection h1 with h1; have := blk_lt h.blk; simp at h1; omega
  refine ⟨blk_cell hb 0, blk_frozen hb 0, ⟨blk_put hb 0 _ rfl, row_step hown' (fun k hk => Below.heap_setCell w5 ⟨g, 0, none⟩ _ k (hneB k hk))⟩, ((Turn.refl w _).grown hG2 (fun b hb => Or.inl (by simp [GvF, hb]))).set (Or.inl (by simp [GvF])) _, fun b hb => ?_⟩
  simp only [GvF, List.mem_cons, Option.mem_toList, Option.mem_def] at hb ⊢
  rcases hb with rfl | hb
  · exact .inl (.inl rfl)
  · rcases hloc with h1 | h1
    · rw [h1] at hb; exact .inl (.inr hb)
    · rw [h1] at hb; injection hb with hb; right; simp at hb; omega
end
set_option maxHeartbeats 8000000 in
set_option maxRecDepth 100000 in
theorem added_ok (w : World) (g : Nat) (vg : Value) (ps : List Pod) (a l y : Int) (s : ByteArray) (h0 : 0 ≤ a) (hg : Good a l) (htop : a + sizeF l ≤ 4294967296) (hl : ps.length < 1024) (hp : ∀ p, p ∈ ps → 0 ≤ p.2 ∧ p.2 < 4294967296)
    (hat : atF ps s = -1) (hho : holderF ps (a + y) < 0) (hy0 : 2 ≤ y) (hy1 : y ≤ sizeF l - 2) (HG : GvS w g vg ps) :
    Calls Try.prog 23 #[.pointer (some ⟨g, 0, none⟩), .agg #[.int .u32 a, .int .i64 l], .string s, .int .u32 (a + y), .int .i64 0] w fun e w' => e = .returned (.bool true) ∧ ∃ vg', GvS w' g vg' (ps ++ [(s, a + y)]) ∧ Turn w w' (GvF g vg) ∧ ∀ b, b ∈ GvF g vg' → b ∈ GvF g vg ∨ w.heap.size ≤ b := by
  obtain ⟨A, cp, rfl⟩ := own_slice HG.row
  obtain ⟨i0, hi, hzz⟩ := Option.map_eq_some_iff.1 info84
  simp only [Prod.mk.injEq] at hzz
  obtain ⟨hz0, hz1, hz2⟩ := hzz
  have HG1 : GvS (w.alloc (.cells #[.int .u32 a, .int .i64 l] 25)) g (.slice A ps.length cp) ps := HG.below (below_alloc (Below.refl _ _) _)
  have hA := Aside0.mk (gat (w.alloc (.cells #[.int .u32 a, .int .i64 l] 25)) g _ ps s (by omega) HG1)
  rw [hat] at hA
  have hH := Aside0.mk (gholder (w.alloc (.cells #[.int .u32 a, .int .i64 l] 25)) g _ ps (a + y) (by omega) hp HG1)
  generalize holderF ps (a + y) = ho at hH hho
  have hszv : weftlaw15_size.f 40 a l = some (sizeF l) := by
    have := size_val l.toNat (by have := hg.2.1; omega) (by have := hg.1; omega)
    rw [Int.toNat_of_nonneg (by have := hg.1; omega)] at this
    exact this
  have hSz := Aside0.mk (fun w => weftlaw15_size.calls 40 a l _ w hszv)
  have kb := heap_alloc_new w (.cells #[.int .u32 a, .int .i64 l] 25)
  have k0 : (w.alloc (.cells #[.int .u32 a, .int .i64 l] 25)).cell? ⟨w.heap.size, 0, none⟩ = some (.int .u32 a) := blk_cell kb 0
  have k1 : (w.alloc (.cells #[.int .u32 a, .int .i64 l] 25)).cell? ⟨w.heap.size, 1, none⟩ = some (.int .i64 l) := blk_cell kb 1
  have HB1 := Aside0.mk (show Below w.heap.size w (w.alloc (.cells #[.int .u32 a, .int .i64 l] 25)) from below_alloc (Below.refl _ _) _)
  have HTOP := Aside0.mk htop
  generalize sizeF l = z at *
  have hwd : IntKind.i64.wrap (a + y - a) = y := by rw [show a + y - a = y from by omega]; exact wrap64_id (by omega) (by have := HTOP.out; omega)
  have hws : IntKind.i64.wrap (z - 2) = z - 2 := wrap64_id (by omega) (by have := HTOP.out; omega)
  have hwa : IntKind.i64.wrap (a + y) = a + y := wrap64_id (by omega) (by have := HTOP.out; omega)
  have hwb : IntKind.i64.wrap a = a := wrap64_id (by omega) (by have := HTOP.out; omega)
  have HHG := Aside0.mk HG1
  have HL := Aside0.mk hl
  have HI0 := Aside0.mk (show Try.prog.info? 84 = some i0 ∧ _ ∧ _ ∧ _ from ⟨hi, hz0, hz1, hz2⟩)
  clear htop hszv kb HG HG1 hg hat hp h0 hi hz0 hz1 hz2
  go_enter Try.func23, Try.ntmps23
  go_wp2_with fail
  refine hA.out.mono ?_
  rintro e_ w2 ⟨rfl, rfl⟩
  go_wp2_with fail
  refine hH.out.mono ?_
  rintro e_ w3 ⟨rfl, rfl⟩
  go_wp2_with fail
  refine (hSz.out _).mono ?_
  rintro e_ w4 ⟨rfl, hd⟩
  have HB4 := Aside0.mk (below_step HB1.out hd)
  have HG4 := Aside0.mk (HHG.out.below hd)
  have kc := HG4.out.cell
  clear hd k0 k1
  go_wp2_with ((with_reducible refine gate_builtin (b := .append) (xs := #[.tmp 45, .tmp 49]) rfl ?_); at_builtin
               refine wpList_append_own_at (w := w4.alloc (.cells #[.string s, .int .u32 (a + y)] 84)) rfl (.tmp 45) (.tmp 49) 45 rfl 0 84 i0 _ 2 24 Try.underlying45 HI0.out.1 HI0.out.2.1 HI0.out.2.2.1 HI0.out.2.2.2 rfl (by decide) (.slice A ps.length cp) ps.length (podCells ps) rfl (HG4.out.row.alloc _) ⟨w4.heap.size, 0, none⟩ 1 1 [.string s, .int .u32 (a + y)] rfl rfl (World.news_of_block (cs := #[.string s, .int .u32 (a + y)]) (t := 84) (fr := (0, 0)) (heap_alloc_new w4 _)) (by intro u hu; simp at hu; rcases hu with rfl | rfl <;> rfl) (by unfold maxLen; have := HL.out; omega) (by have := HL.out; omega) (Nat.zero_le _) ?_
               intro v5 w5 hown hgr hnil hloc
               obtain ⟨A5, c5, rfl⟩ := own_slice hown
               obtain ⟨q1, q2, q3, q4, q5⟩ := GvS.app HG4.out s (a + y) hown hgr hloc
               have HQ3 := Aside0.mk q3
               have HQ4 := Aside0.mk q4
               have HQ5 := Aside0.mk q5
               clear hown hgr hnil hloc q3 q4 q5 kc)
  go_ret
  exact ⟨rfl, _, HQ3.out, ((Turn.of_below HB4.out _).trans HQ4.out (fun b hb => Or.inl hb)), fun b hb => (HQ5.out b hb).elim Or.inl (fun h => Or.inr (Nat.le_trans HB4.out.size h))⟩
theorem size_ok {a l : Int} (hg : Good a l) : weftlaw15_size.f 40 a l = some (sizeF l) := by
  have := size_val l.toNat (by have := hg.2.1; omega) (by have := hg.1; omega)
  rw [Int.toNat_of_nonneg (by have := hg.1; omega)] at this
  exact this
set_option maxHeartbeats 8000000 in
set_option maxRecDepth 100000 in
theorem added_dup (w : World) (g : Nat) (vg : Value) (ps : List Pod) (a l : Int) (s : ByteArray) (hl : ps.length ≤ 1024) (hat : 0 ≤ atF ps s) (HG : GvS w g vg ps) :
    Calls Try.prog 23 #[.pointer (some ⟨g, 0, none⟩), .agg #[.int .u32 a, .int .i64 l], .string s, .int .u32 0, .int .i64 5] w fun e w' => e = .returned (.bool true) ∧ Below w.heap.size w w' := by
  have HB1 := Aside0.mk (below_alloc (Below.refl w.heap.size w) (.cells #[.int .u32 a, .int .i64 l] 25))
  have hA := Aside0.mk (gat _ g _ ps s hl (HG.below HB1.out))
  generalize atF ps s = o at *
  clear HG
  go_enter Try.func23, Try.ntmps23
  go_wp2_with fail
  refine hA.out.mono ?_
  rintro e_ w2 ⟨rfl, rfl⟩
  go_wp2_with fail
  go_ret
  exact ⟨by simp [hat], HB1.out⟩
set_option maxHeartbeats 8000000 in
set_option maxRecDepth 100000 in
theorem added_name (w : World) (g : Nat) (vg : Value) (ps : List Pod) (a l : Int) (s : ByteArray) (hl : ps.length ≤ 1024) (hat : atF ps s < 0) (HG : GvS w g vg ps) :
    Calls Try.prog 23 #[.pointer (some ⟨g, 0, none⟩), .agg #[.int .u32 a, .int .i64 l], .string s, .int .u32 0, .int .i64 150] w fun e w' => e = .returned (.bool true) ∧ Below w.heap.size w w' := by
  have HB1 := Aside0.mk (below_alloc (Below.refl w.heap.size w) (.cells #[.int .u32 a, .int .i64 l] 25))
  have hA := Aside0.mk (gat _ g _ ps s hl (HG.below HB1.out))
  generalize atF ps s = o at *
  clear HG
  go_enter Try.func23, Try.ntmps23
  go_wp2_with fail
  refine hA.out.mono ?_
  rintro e_ w2 ⟨rfl, rfl⟩
  go_wp2_with fail
  go_ret
  exact ⟨by simp [hat], HB1.out⟩
abbrev SG (w0 : World) (g b : Nat) (v : Value) (ps : List Pod) (a l : Int) (w : World) : Prop := w.cell? ⟨g, 0, none⟩ = some v ∧ w.cell? ⟨b, 0, none⟩ = some (.int .u32 a) ∧ w.cell? ⟨b, 1, none⟩ = some (.int .i64 l) ∧ GvS w g v ps ∧ b < w.heap.size ∧ Below w0.heap.size w0 w
section
variable {w0 : World} {g b : Nat} {v : Value} {ps : List Pod} {a l : Int} {w w' : World}
theorem SG.keep (hb : Below w.heap.size w w') (h : SG w0 g b v ps a l w) : SG w0 g b v ps a l w' :=
  ⟨(hb.cell (p := ⟨g, 0, none⟩) (h.2.2.2.1.lt g (by simp [GvF]))).trans h.1, (hb.cell (p := ⟨b, 0, none⟩) h.2.2.2.2.1).trans h.2.1, (hb.cell (p := ⟨b, 1, none⟩) h.2.2.2.2.1).trans h.2.2.1, h.2.2.2.1.below hb, Nat.lt_of_lt_of_le h.2.2.2.2.1 hb.size, below_step h.2.2.2.2.2 hb⟩
theorem SG.gv (h : SG w0 g b v ps a l w) : GvS w g v ps := h.2.2.2.1
theorem SG.bel (h : SG w0 g b v ps a l w) : Below w0.heap.size w0 w := h.2.2.2.2.2
theorem SG.drew (h : SG w0 g b v ps a l w) : SG w0 g b v ps a l w.drew := h.keep ((Below.refl _ _).drew)
end
set_option maxHeartbeats 8000000 in
set_option maxRecDepth 100000 in
theorem added_full (w : World) (g : Nat) (vg : Value) (ps : List Pod) (a l : Int) (s : ByteArray) (hg : Good a l) (hl : ps.length ≤ 1024) (hat : atF ps s < 0) (hf : ps.length = 1024 ∨ (ps.length : Int) = sizeF l - 3) (HG : GvS w g vg ps) :
    Calls Try.prog 23 #[.pointer (some ⟨g, 0, none⟩), .agg #[.int .u32 a, .int .i64 l], .string s, .int .u32 0, .int .i64 4] w fun e w' => e = .returned (.bool true) ∧ Below w.heap.size w w' := by
  obtain ⟨A, cp, rfl⟩ := own_slice HG.row
  have HB1 := Aside0.mk (below_alloc (Below.refl w.heap.size w) (.cells #[.int .u32 a, .int .i64 l] 25))
  have HG1 := Aside0.mk (HG.below HB1.out)
  have hA := Aside0.mk (gat _ g _ ps s hl HG1.out)
  have hAn := Aside0.mk (fun n => gat ((w.alloc (.cells #[.int .u32 a, .int .i64 l] 25)).drewN n) g _ ps s hl (HG1.out.drewN n))
  have hSz := Aside0.mk (fun w => weftlaw15_size.calls 40 a l _ w (size_ok hg))
  have kc := HG1.out.cell
  have kb := heap_alloc_new w (.cells #[.int .u32 a, .int .i64 l] 25)
  have k0 : (w.alloc (.cells #[.int .u32 a, .int .i64 l] 25)).cell? ⟨w.heap.size, 0, none⟩ = some (.int .u32 a) := blk_cell kb 0
  have k1 : (w.alloc (.cells #[.int .u32 a, .int .i64 l] 25)).cell? ⟨w.heap.size, 1, none⟩ = some (.int .i64 l) := blk_cell kb 1
  have hzr : 0 ≤ sizeF l ∧ sizeF l ≤ 4294967296 := by
    have e : ∀ n : Nat, n < 31 → 1 ≤ n → 0 ≤ sizeF (n : Int) ∧ sizeF (n : Int) ≤ 4294967296 := by decide +kernel
    have := e l.toNat (by have := hg.2.1; omega) (by have := hg.1; omega)
    rwa [Int.toNat_of_nonneg (by have := hg.1; omega)] at this
  obtain ⟨o, ho⟩ : ∃ o, atF ps s = o := ⟨_, rfl⟩
  have HAT := Aside0.mk ho
  rw [ho] at hat hA hAn
  clear ho
  have HLL := Aside0.mk hl
  generalize sizeF l = z at *
  clear HG hg kb
  by_cases h1024 : ps.length = 1024
  · have hc : (((ps.length : Nat) : Int) == 1024) = true := by simp; omega
    clear hf hSz hzr h1024 hl
    go_enter Try.func23, Try.ntmps23
    go_wp2_with fail
    go_quiet ((go_at_call 48; exact Calls.quiet_of_same (hAn.out _)))
    go_wp2_with fail
    go_ret
    exact ⟨by simp [hat], pw_below_drewN HB1.out _⟩
  · have hc : (((ps.length : Nat) : Int) == 1024) = false := by simp; omega
    have hz : z - 3 = (ps.length : Int) := by omega
    have hw3 : IntKind.i64.wrap (z - 3) = (ps.length : Int) := by rw [hz]; exact wrap64_id (by omega) (by omega)
    have heq : (((ps.length : Nat) : Int) == ((ps.length : Nat) : Int)) = true := by simp
    clear hf h1024 hl hzr hz
    go_enter Try.func23, Try.ntmps23
    go_wp2_with fail
    have hGG := HG1.out
    have hsz : w.heap.size < (w.alloc (.cells #[.int .u32 a, .int .i64 l] 25)).heap.size := by rw [World.size_alloc]; omega
    go_region_held3 (fun w' => w'.cell? ⟨g, 0, none⟩ = some (.slice A ps.length cp) ∧ w'.cell? ⟨w.heap.size, 0, none⟩ = some (.int .u32 a) ∧ w'.cell? ⟨w.heap.size, 1, none⟩ = some (.int .i64 l) ∧ GvS w' g (.slice A ps.length cp) ps ∧ w.heap.size < w'.heap.size ∧ Below w.heap.size w w')
      (first | assumption | (exact SG.keep hb4 (by assumption)) | (exact SG.drew (by assumption)) | (exact SG.drew ⟨kc, k0, k1, hGG, hsz, HB1.out⟩) | (exact ⟨kc, k0, k1, hGG, hsz, HB1.out⟩))
      (first | (go_at_call 48; refine (gat _ g _ ps s (Aside0.out HLL) (SG.gv (by assumption))).mono ?_; rw [HAT.out]; rintro e_ w2 ⟨rfl, rfl⟩) | (go_at_call 28; refine (hSz.out _).mono ?_; rintro e_ w4 ⟨rfl, hb4⟩))
    go_wp2_with fail
    go_ret
    exact ⟨by simp [hat], SG.bel (w0 := w) (by assumption)⟩
set_option maxHeartbeats 8000000 in
set_option maxRecDepth 100000 in
theorem deleted_none (w : World) (g : Nat) (vg : Value) (ps : List Pod) (s : ByteArray) (hl : ps.length ≤ 1024) (hat : atF ps s < 0) (HG : GvS w g vg ps) :
    Calls Try.prog 25 #[.pointer (some ⟨g, 0, none⟩), .string s, .int .u32 0, .int .i64 3] w fun e w' => e = .returned (.bool true) ∧ Below w.heap.size w w' := by
  have hA := Aside0.mk (gat _ g _ ps s hl HG)
  generalize atF ps s = o at *
  clear HG
  go_enter Try.func25, Try.ntmps25
  go_wp2_with fail
  refine hA.out.mono ?_
  rintro e_ w2 ⟨rfl, rfl⟩
  go_wp2_with fail
  go_ret
  exact ⟨by simp, Below.refl _ _⟩
theorem cut_snoc {L : List Pod} (p : Pod) (i : Nat) : cutF (L ++ [p]) i = if L.length = i then cutF L i else cutF L i ++ [p] := by
  unfold cutF
  by_cases h : L.length = i
  · rw [if_pos h, List.take_append_of_le_length (by omega), List.drop_eq_nil_of_le (by simp; omega), List.drop_eq_nil_of_le (by omega)]
  · rw [if_neg h]
    rcases Nat.lt_or_ge i L.length with c | c
    · rw [List.take_append_of_le_length (by omega), List.drop_append_of_le_length (by omega), List.append_assoc]
    · rw [List.take_of_length_le (by simp; omega), List.take_of_length_le (by omega), List.drop_eq_nil_of_le (by simp; omega), List.drop_eq_nil_of_le (by omega)]; simp
theorem cut_zero (ps : List Pod) (i : Nat) : cutF (ps.take 0) i = [] := by simp [cutF]
theorem cut_take {ps : List Pod} {i j : Nat} (hj : j < ps.length) : cutF (ps.take (j + 1)) i = if j = i then cutF (ps.take j) i else cutF (ps.take j) i ++ [podAt ps j] := by
  have hl : (ps.take j).length = j := by simp; omega
  rw [List.take_succ_eq_append_getElem hj, cut_snoc, hl]
  simp [podAt, List.getD_eq_getElem?_getD, List.getElem?_eq_getElem hj]
theorem ownsRow_base {w : World} {base e size n : Nat} {v : Value} {xs : List Value} (h : w.ownsRow base e size v n xs) : w.ownsRow 0 e size v n xs := by
  obtain ⟨h1, h2⟩ := h
  refine ⟨h1, ?_⟩
  rcases h2 with h2 | ⟨g, cap, cur, h3, h4, h5⟩
  · exact .inl h2
  · exact .inr ⟨g, cap, cur, h3, Nat.zero_le _, h5⟩
set_option maxHeartbeats 8000000 in
set_option maxRecDepth 100000 in
theorem deleted_ok (w : World) (g : Nat) (vg : Value) (ps : List Pod) (s : ByteArray) (x : Int) (i : Nat) (hl : ps.length ≤ 1024) (hat : atF ps s = (i : Int)) (hi : i < ps.length) (hp : podAt ps i = (s, x)) (HG : GvS w g vg ps) :
    Calls Try.prog 25 #[.pointer (some ⟨g, 0, none⟩), .string s, .int .u32 x, .int .i64 0] w fun e w' => e = .returned (.bool true) ∧ ∃ vg', GvS w' g vg' (cutF ps i) ∧ Turn w w' (GvF g vg) ∧ ∀ b, b ∈ GvF g vg' → b = g ∨ w.heap.size ≤ b := by
  obtain ⟨i0, hi0, hzz⟩ := Option.map_eq_some_iff.1 info84
  simp only [Prod.mk.injEq] at hzz
  obtain ⟨hz0, hz1, hz2⟩ := hzz
  have HI0 := Aside0.mk (show Try.prog.info? 84 = some i0 ∧ _ ∧ _ ∧ _ from ⟨hi0, hz0, hz1, hz2⟩)
  obtain ⟨gp, cap, rfl, _, _⟩ := HG.row.form (by omega)
  have hA := Aside0.mk (gat _ g _ ps s hl HG)
  rw [hat] at hA
  have hgs : g < w.heap.size := blk_lt HG.blk
  have kc := HG.cell
  have kx : w.cell? ⟨gp, i * 2 + 1, none⟩ = some (.int .u32 x) := by have := (pod_at HG.row i hi).2; rwa [hp] at this
  have hii : (i : Int) < (ps.length : Int) := by omega
  have HGG := Aside0.mk HG
  have HP := Aside0.mk hp
  have HL := Aside0.mk hl
  have hxx : (x == x) = true := by simp
  clear HG hat hl hi0 hz0 hz1 hz2 hp
  go_enter Try.func25, Try.ntmps25
  go_wp2_with fail
  refine hA.out.mono ?_
  rintro e_ w2 ⟨rfl, hw2⟩
  subst w2
  go_wp2_with fail
  clear hA kx hxx hgs kc
  go_loopg [10, 11] ps.length (fun k vl vj wr => ∃ j : Nat, vj = .int .i64 (j : Int) ∧ j + k = ps.length ∧ Aside0 (wr.ownsRow w.heap.size 84 2 vl (cutF (ps.take j) i).length (podCells (cutF (ps.take j) i))) ∧ Aside0 (Below w.heap.size w wr))
  case atStart => exact ⟨0, rfl, by omega, ⟨by rw [cut_zero ps i]; exact own_nil _ _ _ _⟩, ⟨Below.refl _ _⟩⟩
  case round =>
    obtain ⟨j, rfl, hj, HO, HB⟩ := hrel
    have HGr := Aside0.mk (HGG.out.below HB.out)
    have kc := HGr.out.cell
    obtain ⟨A3, c3, rfl⟩ := own_slice HO.out
    cases gk with
    | zero =>
      obtain rfl : j = ps.length := by omega
      have hfin : ps.take ps.length = ps := List.take_length
      have HO2 : Aside0 (wr.ownsRow w.heap.size 84 2 (.slice A3 (cutF ps i).length c3) (cutF ps i).length (podCells (cutF ps i))) := ⟨by have h := HO.out; rw [hfin] at h; exact h⟩
      have hlen : (cutF (ps.take ps.length) i).length = (cutF ps i).length := by rw [hfin]
      rw [hlen]
      clear HO hfin hlen
      have hgr : g < wr.heap.size := blk_lt HGr.out.blk
      have hfz := blk_frozen HGr.out.blk 0
      go_wp2_with fail
      go_ret
      have hne : ∀ k, (Value.slice A3 (cutF ps i).length c3).ownBlock = some k → k ≠ g := fun k hk e => by
        have := (HO2.out.lt k hk).1
        have := blk_lt HGG.out.blk
        omega
      refine ⟨rfl, _, ⟨blk_put HGr.out.blk 0 _ rfl, row_step (ownsRow_base HO2.out) (fun k hk => Below.heap_setCell wr ⟨g, 0, none⟩ _ k (hne k hk))⟩, (Turn.of_below HB.out _).set (Or.inl (by simp [GvF])) _, fun b hb => ?_⟩
      simp only [GvF, List.mem_cons, Option.mem_toList, Option.mem_def] at hb
      rcases hb with rfl | hb
      · exact .inl rfl
      · exact .inr (HO2.out.lt b hb).1
    | succ k =>
      have hjl : (j : Int) < (ps.length : Int) := by omega
      have hjn : j < ps.length := by omega
      have hw1 : IntKind.i64.wrap ((j : Int) + 1) = ((j + 1 : Nat) : Int) := by rw [show (j : Int) + 1 = ((j + 1 : Nat) : Int) from by omega]; exact wrap64_id (by omega) (by have := HL.out; omega)
      have hct := cut_take (i := i) hjn
      by_cases hji : j = i
      · have hB : (((j : Nat) : Int) == ((i : Nat) : Int)) = true := by simp [hji]
        rw [if_pos hji] at hct
        have HO2 : Aside0 (wr.ownsRow w.heap.size 84 2 (.slice A3 (cutF (ps.take j) i).length c3) (cutF (ps.take (j + 1)) i).length (podCells (cutF (ps.take (j + 1)) i))) := ⟨by rw [hct]; exact HO.out⟩
        clear hct hji
        go_wp2_with fail
        go_roundg k
        case measure => omega
        case rel => exact ⟨j + 1, rfl, by omega, HO2, HB⟩
      · have hB : (((j : Nat) : Int) == ((i : Nat) : Int)) = false := by simp; omega
        rw [if_neg hji] at hct
        have HCT := Aside0.mk hct
        obtain ⟨kp0, kp1⟩ := pod_at HGr.out.row j hjn
        generalize podAt ps j = pj at *
        obtain ⟨ps0, px0⟩ := pj
        simp only at kp0 kp1
        have hcl : (cutF (ps.take j) i).length ≤ 1024 := by have := HL.out; unfold cutF; simp; omega
        have HCL := Aside0.mk hcl
        clear hct hji hcl
        go_wp2_with ((with_reducible refine gate_builtin (b := .append) (xs := #[.tmp 49, .tmp 57]) rfl ?_); at_builtin
                     refine wpList_append_own_at (w := wr.alloc (.cells #[.string ps0, .int .u32 px0] 84)) rfl (.tmp 49) (.tmp 57) 45 rfl w.heap.size 84 i0 _ 2 24 Try.underlying45 HI0.out.1 HI0.out.2.1 HI0.out.2.2.1 HI0.out.2.2.2 rfl (by decide) (.slice A3 (cutF (ps.take j) i).length c3) (cutF (ps.take j) i).length (podCells (cutF (ps.take j) i)) rfl (HO.out.alloc _) ⟨wr.heap.size, 0, none⟩ 1 1 [.string ps0, .int .u32 px0] rfl rfl (World.news_of_block (cs := #[.string ps0, .int .u32 px0]) (t := 84) (fr := (0, 0)) (heap_alloc_new wr _)) (by intro u hu; simp at hu; rcases hu with rfl | rfl <;> rfl) (by unfold maxLen; have := HCL.out; omega) (by have := HCL.out; omega) (by have := HB.out.size; rw [World.size_alloc]; omega) ?_
                     intro v5 w5 hown hgr hnil hloc
                     have HOWN := Aside0.mk hown
                     have HGRN := Aside0.mk hgr
                     clear hown hgr hnil hloc)
        go_roundg k
        case measure => omega
        case rel =>
          refine ⟨j + 1, rfl, by omega, ⟨?_⟩, ⟨?_⟩⟩
          · rw [HCT.out, podCells_append, List.length_append]; exact HOWN.out
          · exact (HB.out.alloc HB.out.size _).grown HGRN.out (by have := HB.out.size; rw [World.size_alloc]; omega) (fun k e => (HO.out.lt k e).1)
end Go.Proofs.Ytgabkifojnkbkaa.Ip

set_option linter.unusedVariables false
set_option linter.unusedSimpArgs false
namespace Go.Proofs.Ytgabkifojnkbkaa.Ip
open Go.RowKit Go.Maps Go.WideMaps Go.MapKept Go.Proofs.YtgabkifojnkbkaaW.PrintWords Go.Proofs.Ytgabkifojnkbkaa.PIpf
section
variable {w0 w : World} {S : Nat} {a l : Int} {B b1 b2 : Nat} {vn vs : Value} {M : IpM} {R : RfM}
theorem RI.list2 (h : RI w0 w S a l B b1 b2 vn vs M R) :
    Calls Try.prog 30 #[.pointer (some ⟨B, 0, none⟩)] w fun e w' => ∃ v L, e = .returned v ∧ L.length = R.pods.length ∧ (∀ p, p ∈ L → p ∈ R.pods) ∧ L.Pairwise (fun p q : Pod => p.2 < q.2) ∧ w'.ownsRow w.heap.size 84 2 v L.length (podCells L) ∧ Below w.heap.size w w' := by
  have hc := h.rel.cnt
  have hl := h.rel.lim
  refine (list30a w B b1 b2 vn vs M h.rel.ok (by omega) h.st).mono ?_
  rintro e w' ⟨v, lk, rfl, hK, _, hrow, hb⟩
  have heq := h.rel.list_eq hK
  have hl2 : (listF M lk).length = R.pods.length := by rw [heq, rlistF_length]
  have hl3 : lk.length = (listF M lk).length := by rw [listF, List.length_map]
  rw [hl3] at hrow
  refine ⟨v, listF M lk, rfl, hl2, fun p hp => ?_, ?_, hrow, hb⟩
  · obtain ⟨x, hx, rfl⟩ := List.mem_map.1 hp
    obtain ⟨_, _, hn⟩ := (hK.2 x).1 hx
    obtain ⟨t, ht⟩ := Option.ne_none_iff_exists'.1 hn
    have := (h.rel.byA x t ht).2.2.2
    simpa [podF, ht] using this
  · rw [listF, List.pairwise_map]
    exact hK.1.imp (fun {p q} hpq => hpq)
theorem RI.find (h : RI w0 w S a l B b1 b2 vn vs M R) (s : ByteArray) (hs : s.size ≤ maxLen) (x : Int) (hp : (s, x) ∈ R.pods) :
    Calls Try.prog 31 #[.pointer (some ⟨B, 0, none⟩), .string s] w fun e w' => e = .returned (.tuple #[.int .u32 x, .int .i64 0]) ∧ Below w.heap.size w w' := by
  have hh := Ip.find w B b1 b2 vn vs M s hs h.st
  rw [findF_some ((h.rel.byN s x).2 hp)] at hh
  exact hh
theorem RI.owner_any (h : RI w0 w S a l B b1 b2 vn vs M R) (x : Int) (h0 : 0 ≤ x) (h1 : x < 4294967296) :
    Calls Try.prog 39 #[.pointer (some ⟨B, 0, none⟩), .int .u32 x] w fun e w' => e = .returned (.tuple #[.string (ownerF M x (decide (a ≤ x ∧ x < a + R.size))).1, .int .i64 (ownerF M x (decide (a ≤ x ∧ x < a + R.size))).2]) ∧ Below w.heap.size w w' := by
  have hsz := h.rel.sz
  have htop := h.rel.top
  have hb0 := h.rel.b0
  have hal := h.rel.al
  rw [h.rel.sl] at hal
  have hl0 := h.rel.l0
  have hl1 := h.rel.l1
  have hc := contains_all M.base M.len x hb0 (by omega) (by omega) (by omega) h0 h1 hal
  rw [← h.rel.sl, h.mb] at hc
  exact owner 1 w B b1 b2 vn vs M x h0 h1 h.rel.ok h.st _ (by rw [h.mb]; exact hc)
theorem RI.owner_of (h : RI w0 w S a l B b1 b2 vn vs M R) (s : ByteArray) (x : Int) (hp : (s, x) ∈ R.pods) :
    Calls Try.prog 39 #[.pointer (some ⟨B, 0, none⟩), .int .u32 x] w fun e w' => e = .returned (.tuple #[.string s, .int .i64 0]) ∧ Below w.heap.size w w' := by
  obtain ⟨p0, p1⟩ := h.rel.pin _ hp
  have hr := h.rel.rng _ hp
  rw [h.mb] at hr
  have hh := h.owner_any x p0 p1
  have hd : decide (a ≤ x ∧ x < a + R.size) = true := decide_eq_true ⟨by simp only at hr; omega, by simp only at hr; omega⟩
  obtain ⟨t, ht⟩ := Option.ne_none_iff_exists'.1 (h.rel.hasA _ hp)
  simp only at ht
  have hm := (h.rel.byA x t ht).2.2.2
  have hname : M.names.getD t.toNat ⟨#[]⟩ = s := by
    have hi := h.rel.na
    obtain ⟨i, hi1, hi2⟩ := List.getElem_of_mem hm
    obtain ⟨j, hj1, hj2⟩ := List.getElem_of_mem hp
    have : i = j := by
      rcases Nat.lt_trichotomy i j with c | c | c
      · have h := List.pairwise_iff_getElem.1 hi i j (by simpa using hi1) (by simpa using hj1) c
        simp [hi2, hj2] at h
      · exact c
      · have h := List.pairwise_iff_getElem.1 hi j i (by simpa using hj1) (by simpa using hi1) c
        simp [hi2, hj2] at h
    subst this
    rw [hi2] at hj2
    exact (Prod.mk.inj hj2).1
  have ho : ownerF M x true = (s, 0) := by unfold ownerF; rw [if_pos rfl, ht]; simp only [hname]
  rw [hd, ho] at hh
  exact hh
theorem RI.owner_no (h : RI w0 w S a l B b1 b2 vn vs M R) (x : Int) (h0 : 0 ≤ x) (h1 : x < 4294967296) (hin : a ≤ x ∧ x < a + R.size) (hno : ∀ p, p ∈ R.pods → p.2 ≠ x) :
    Calls Try.prog 39 #[.pointer (some ⟨B, 0, none⟩), .int .u32 x] w fun e w' => ∃ s, e = .returned (.tuple #[.string s, .int .i64 3]) ∧ Below w.heap.size w w' := by
  have hh := h.owner_any x h0 h1
  have hn : M.byA x = none := by
    cases hx : M.byA x with
    | none => rfl
    | some t => exact absurd rfl (hno _ (h.rel.byA x t hx).2.2.2)
  have ho : ownerF M x true = (⟨#[]⟩, 3) := by unfold ownerF; rw [if_pos rfl, hn]
  rw [decide_eq_true hin, ho] at hh
  exact hh.mono fun e w' ⟨h1, h2⟩ => ⟨_, h1, h2⟩
theorem RI.owner_out (h : RI w0 w S a l B b1 b2 vn vs M R) (x : Int) (h0 : 0 ≤ x) (h1 : x < 4294967296) (hin : ¬ (a ≤ x ∧ x < a + R.size)) :
    Calls Try.prog 39 #[.pointer (some ⟨B, 0, none⟩), .int .u32 x] w fun e w' => ∃ s, e = .returned (.tuple #[.string s, .int .i64 151]) ∧ Below w.heap.size w w' := by
  have hh := h.owner_any x h0 h1
  have ho : ownerF M x false = (⟨#[]⟩, 151) := by unfold ownerF; rw [if_neg (by decide)]
  rw [decide_eq_false hin, ho] at hh
  exact hh.mono fun e w' ⟨h1, h2⟩ => ⟨_, h1, h2⟩
theorem RI.at_of (h : RI w0 w S a l B b1 b2 vn vs M R) (s : ByteArray) (x : Int) (hp : (s, x) ∈ R.pods) : ∃ j : Nat, atF R.pods s = (j : Int) ∧ j < R.pods.length ∧ podAt R.pods j = (s, x) := by
  obtain ⟨i0, i1, hpa⟩ := h.rel.atF_some ((h.rel.byN s x).2 hp)
  exact ⟨(atF R.pods s).toNat, by omega, by omega, hpa⟩
end
set_option maxHeartbeats 8000000 in
set_option maxRecDepth 100000 in
theorem told26 (w0 w : World) (S : Nat) (a l : Int) (B b1 b2 : Nat) (vn vs : Value) (M : IpM) (R : RfM) (g : Nat) (vg : Value) (h : RI w0 w S a l B b1 b2 vn vs M R) (HG : GvS w g vg R.pods) (hsz : ∀ p, p ∈ R.pods → p.1.size ≤ maxLen) :
    Calls Try.prog 26 #[.pointer (some ⟨g, 0, none⟩), .pointer (some ⟨B, 0, none⟩)] w fun e w' => e = .returned (.bool true) ∧ Below w.heap.size w w' := by
  have H := Aside0.mk h
  have HL := Aside0.mk h.list2
  have HGG := Aside0.mk HG
  have HSZ := Aside0.mk hsz
  have HLIM := Aside0.mk h.rel.lim
  obtain ⟨Ag, cg, rfl⟩ := own_slice HG.row
  clear h HG hsz
  go_enter Try.func26, Try.ntmps26
  go_wp2_with fail
  refine HL.out.mono ?_
  rintro e_ w1 ⟨v, L, rfl, hlen, hmem, hpw, hrow, hb1⟩
  obtain ⟨Av, cv, rfl⟩ := own_slice hrow
  have HLEN := Aside0.mk hlen
  have HMEM := Aside0.mk hmem
  have HPW := Aside0.mk hpw
  have HROW := Aside0.mk (ownsRow_base hrow)
  have HB := Aside0.mk hb1
  have kg := (HGG.out.below hb1).cell
  have hnn : (((L.length : Nat) : Int) != ((R.pods.length : Nat) : Int)) = false := by simp; omega
  clear hlen hmem hpw hrow hb1 HL
  go_wp2_with fail
  clear kg hnn
  go_loopg [6] L.length (fun k vi wr => ∃ i : Nat, vi = .int .i64 (i : Int) ∧ i + k = L.length ∧ Aside0 (wr.ownsRow 0 84 2 (.slice Av L.length cv) L.length (podCells L)) ∧ Aside0 (Below w.heap.size w wr))
  case atStart => exact ⟨0, rfl, by omega, HROW, HB⟩
  case round =>
    clear HROW HB
    obtain ⟨i, rfl, hi, HROW, HB⟩ := hrel
    cases gk with
    | zero =>
      obtain rfl : i = L.length := by omega
      go_wp2_with fail
      go_ret
      exact ⟨rfl, HB.out⟩
    | succ k =>
      have hil : (i : Int) < (L.length : Int) := by omega
      have hin : i < L.length := by omega
      have HIN := Aside0.mk hin
      have hw1 : IntKind.i64.wrap ((i : Int) + 1) = ((i + 1 : Nat) : Int) := by rw [show (i : Int) + 1 = ((i + 1 : Nat) : Int) from by omega]; exact wrap64_id (by omega) (by have := HLEN.out; have := HLIM.out; omega)
      have hm : podAt L i ∈ L := by simp only [podAt, List.getD_eq_getElem?_getD, List.getElem?_eq_getElem hin, Option.getD_some]; exact List.getElem_mem hin
      obtain ⟨s, hs⟩ : ∃ s, s = (podAt L i).1 := ⟨_, rfl⟩
      obtain ⟨x, hx⟩ : ∃ x, x = (podAt L i).2 := ⟨_, rfl⟩
      have hpi : podAt L i = (s, x) := by rw [hs, hx]
      rw [hpi] at hm
      have HM := Aside0.mk (HMEM.out _ hm)
      obtain ⟨gv, cap, e, _, _⟩ := HROW.out.form (by omega)
      injection e with e1 e2 e3
      subst e1 e3
      clear e2
      obtain ⟨kl0, kl1⟩ := pod_at HROW.out i hin
      rw [hpi] at kl0 kl1
      obtain ⟨j, hj, hjl, hpj⟩ := H.out.at_of s x HM.out
      have HG2 := Aside0.mk (HGG.out.below HB.out)
      obtain ⟨gp, capg, eg, _, _⟩ := HG2.out.row.form (by omega)
      injection eg with e1 e2 e3
      subst e1 e3
      clear e2
      have kg := HG2.out.cell
      obtain ⟨_, kp1⟩ := pod_at HG2.out.row j hjl
      rw [hpj] at kp1
      have hjI : (j : Int) < (R.pods.length : Int) := by omega
      have hA := Aside0.mk (gat wr g _ R.pods s HLIM.out HG2.out)
      rw [hj] at hA
      have HPI := Aside0.mk hpi
      have hjz : decide ((j : Int) < 0) = false := by simp
      have hjz2 : ¬ (j : Int) < 0 := by omega
      have hxx : (x != x) = false := by simp
      clear hm hs hx hj hjl hpj hpi hin
      go_wp2_with fail
      refine hA.out.mono ?_
      rintro e_ w2 ⟨rfl, hw2⟩
      subst w2
      go_upto_region 8 with fail
      go_cut [70] (fun v wx => v = .bool false ∧ Aside0 (Below wr.heap.size wr wx))
      case first =>
        by_cases hi0 : i = 0
        · have hz : ¬ (0 : Int) < (i : Int) := by omega
          have hz2 : ¬ 0 < i := by omega
          have hz3 : decide (0 < i) = false := by simp; omega
          clear hi0 hw1
          go_wp2_with fail
          go_quiet (fail)
          go_wp2_with fail
          go_meet
          refine ⟨?_, ⟨pw_below_drewN (Below.refl _ _) _⟩⟩
          first | rfl | (simp [*]; done)
        · have hz : (0 : Int) < (i : Int) := by omega
          have hz2 : 0 < i := by omega
          obtain ⟨i1, hi1⟩ : ∃ i1, i1 = i - 1 := ⟨_, rfl⟩
          have hw2 : IntKind.i64.wrap ((i : Int) - 1) = (i1 : Int) := by rw [show (i : Int) - 1 = (i1 : Int) from by omega]; exact wrap64_id (by omega) (by have := HIN.out; have := HLEN.out; have := HLIM.out; omega)
          have hi1l : (i1 : Int) < (L.length : Int) := by omega
          obtain ⟨_, km1⟩ := pod_at HROW.out i1 (by omega)
          have hlt : (podAt L i1).2 < x := by
            have h1 := List.pairwise_iff_getElem.1 HPW.out i1 i (by have := HIN.out; omega) HIN.out (by omega)
            have e1 : podAt L i1 = L[i1]'(by have := HIN.out; omega) := by simp [podAt, List.getD_eq_getElem?_getD, List.getElem?_eq_getElem (show i1 < L.length from by have := HIN.out; omega)]
            have e2 : podAt L i = L[i]'HIN.out := by simp [podAt, List.getD_eq_getElem?_getD, List.getElem?_eq_getElem HIN.out]
            rw [← e1, ← e2, HPI.out] at h1
            exact h1
          generalize (podAt L i1).2 = y at *
          have hdec : decide (x ≤ y) = false := by simp; omega
          clear hi0 hw1 hi1
          go_wp2_with fail
          go_quiet (fail)
          go_wp2_with fail
          go_meet
          refine ⟨?_, ⟨pw_below_drewN (Below.refl _ _) _⟩⟩
          first | rfl | (simp [*]; done)
      case rest =>
        obtain ⟨rfl, HB2⟩ := hcut
        have HC : Aside0 (∀ w', Below wr.heap.size wr w' → w'.cell? ⟨gv, i * 2, none⟩ = some (.string s) ∧ w'.cell? ⟨gv, i * 2 + 1, none⟩ = some (.int .u32 x)) := ⟨fun w' hb => by
          have hp := pod_at (row_step HROW.out (fun k hk => hb.block k (HROW.out.lt k hk).2)) i HIN.out
          rw [HPI.out] at hp
          exact hp⟩
        have HSS : Aside0 (s.size ≤ maxLen) := ⟨HSZ.out _ HM.out⟩
        clear kg kp1 kl0 kl1 hA
        obtain ⟨kl0, kl1⟩ := HC.out wc HB2.out
        go_wp2_with fail
        refine ((H.out.below (below_step HB.out HB2.out)).find s HSS.out x HM.out).mono ?_
        rintro e_ w3 ⟨rfl, hb3⟩
        have HB3 := Aside0.mk (below_step HB2.out hb3)
        clear hb3 kl0 kl1
        obtain ⟨kl0, kl1⟩ := HC.out w3 HB3.out
        go_wp2_with fail
        refine ((H.out.below (below_step HB.out HB3.out)).owner_of s x HM.out).mono ?_
        rintro e_ w4 ⟨rfl, hb4⟩
        have HB4 := Aside0.mk (below_step HB3.out hb4)
        clear hb4 kl0 kl1
        obtain ⟨kl0, kl1⟩ := HC.out w4 HB4.out
        have hss : (s.toList != s.toList) = false := by simp
        go_wp2_with fail
        go_roundg k
        case measure => omega
        case rel => exact ⟨i + 1, by first | rfl | go_num, by omega, ⟨row_step HROW.out (fun k hk => HB4.out.block k (HROW.out.lt k hk).2)⟩, ⟨below_step HB.out HB4.out⟩⟩
theorem gateway0 (w : World) (B b1 b2 : Nat) (vn vs : Value) (M : IpM) (HS : IpS w B b1 b2 vn vs M) :
    Calls Try.prog 43 #[.pointer (some ⟨B, 0, none⟩)] w fun e w' => e = .returned (.int .u32 ((M.base + 1) % 4294967296)) ∧ w' = w := by
  have k0 : w.cell? ⟨B, 0, none⟩ = some (.int .u32 M.base) := HS.cell 0
  clear HS
  go_enter Try.func43, Try.ntmps43
  go_wp2
  go_ret
  exact ⟨by simp [IntKind.wrap, go_sem], rfl⟩
theorem u32_w (x : Int) : IntKind.u32.wrap x = x % 4294967296 := by simp [IntKind.wrap, IntKind.bits, IntKind.signed]
set_option maxHeartbeats 8000000 in
set_option maxRecDepth 100000 in
theorem edges27 (w0 w : World) (S : Nat) (a l : Int) (B b1 b2 : Nat) (vn vs : Value) (M : IpM) (R : RfM) (hg : Good a l) (h : RI w0 w S a l B b1 b2 vn vs M R) (hz : R.size = sizeF l) :
    Calls Try.prog 27 #[.pointer (some ⟨B, 0, none⟩), .agg #[.int .u32 a, .int .i64 l]] w fun e w' => e = .returned (.bool true) ∧ Below w.heap.size w w' := by
  have hb0 := h.rel.b0
  have htop := h.rel.top
  have hsz := h.rel.sz
  rw [h.mb] at hb0 htop
  have hrng := h.rel.rng
  rw [h.mb] at hrng
  have hzr : sizeF l ≤ 2147483648 := by
    have e : ∀ n : Nat, n < 31 → 1 ≤ n → sizeF (n : Int) ≤ 2147483648 := by decide +kernel
    have := e l.toNat (by have := hg.2.1; omega) (by have := hg.1; omega)
    rwa [Int.toNat_of_nonneg (by have := hg.1; omega)] at this
  have hSz := Aside0.mk (fun w => weftlaw15_size.calls 40 a l _ w (size_ok hg))
  rw [← hz] at hSz hzr
  obtain ⟨z, hzz⟩ : ∃ z, z = R.size := ⟨_, rfl⟩
  rw [← hzz] at hSz hzr htop hsz
  have H := Aside0.mk h
  obtain ⟨x4, hx4⟩ : ∃ x, x = (a - 1) % 4294967296 := ⟨_, rfl⟩
  obtain ⟨x5, hx5⟩ : ∃ x, x = (a + z) % 4294967296 := ⟨_, rfl⟩
  have hwc : IntKind.u32.wrap z = z := by rw [u32_w]; omega
  have hw2 : IntKind.u32.wrap (a + 1) = a + 1 := by rw [u32_w]; omega
  have hw3 : IntKind.u32.wrap (z - 1) = z - 1 := by rw [u32_w]; omega
  have hw3b : IntKind.u32.wrap (a + (z - 1)) = a + (z - 1) := by rw [u32_w]; omega
  have hw4 : IntKind.u32.wrap (a - 1) = x4 := by rw [u32_w, hx4]
  have hw5 : IntKind.u32.wrap (a + z) = x5 := by rw [u32_w, hx5]
  have h1 := Aside0.mk (fun (w' : World) (h : RI w0 w' S a l B b1 b2 vn vs M R) => h.owner_no a (by omega) (by omega) (by omega) (fun p hp => by have := hrng p hp; omega))
  have h2 := Aside0.mk (fun (w' : World) (h : RI w0 w' S a l B b1 b2 vn vs M R) => h.owner_no (a + 1) (by omega) (by omega) (by omega) (fun p hp => by have := hrng p hp; omega))
  have h3 := Aside0.mk (fun (w' : World) (h : RI w0 w' S a l B b1 b2 vn vs M R) => h.owner_no (a + (z - 1)) (by omega) (by omega) (by omega) (fun p hp => by have := hrng p hp; omega))
  have h4 := Aside0.mk (fun (w' : World) (h : RI w0 w' S a l B b1 b2 vn vs M R) => h.owner_out x4 (by omega) (by omega) (by omega))
  have h5 := Aside0.mk (fun (w' : World) (h : RI w0 w' S a l B b1 b2 vn vs M R) => h.owner_out x5 (by omega) (by omega) (by omega))
  have hgm : (M.base + 1) % 4294967296 = a + 1 := by rw [h.mb]; omega
  have h6 := Aside0.mk (fun (w' : World) (h : RI w0 w' S a l B b1 b2 vn vs M R) => (show Calls Try.prog 43 #[.pointer (some ⟨B, 0, none⟩)] w' fun e w'' => e = .returned (.int .u32 (a + 1)) ∧ w'' = w' from by have := gateway0 w' B b1 b2 vn vs M h.st; rwa [hgm] at this))
  have HB := Aside0.mk (below_alloc (Below.refl w.heap.size w) (.cells #[.int .u32 a, .int .i64 l] 25))
  have HK := Aside0.mk (heap_alloc_new w (.cells #[.int .u32 a, .int .i64 l] 25))
  have k0 : (w.alloc (.cells #[.int .u32 a, .int .i64 l] 25)).cell? ⟨w.heap.size, 0, none⟩ = some (.int .u32 a) := blk_cell HK.out 0
  have k1 : (w.alloc (.cells #[.int .u32 a, .int .i64 l] 25)).cell? ⟨w.heap.size, 1, none⟩ = some (.int .i64 l) := blk_cell HK.out 1
  clear h hg hz hb0 htop hsz hrng hzr hzz hx4 hx5 hgm
  go_enter Try.func27, Try.ntmps27
  go_wp2_with fail
  refine (hSz.out _).mono ?_
  rintro e_ w1 ⟨rfl, hb⟩
  have HB1 := Aside0.mk (below_step HB.out hb)
  have HK1 := Aside0.mk (blk_below HK.out hb)
  clear hb k0 k1
  have k0 : w1.cell? ⟨w.heap.size, 0, none⟩ = some (.int .u32 a) := blk_cell HK1.out 0
  go_wp2_with fail
  refine (h1.out _ (H.out.below HB1.out)).mono ?_
  rintro e_ w2 ⟨s1, rfl, hb⟩
  have HB2 := Aside0.mk (below_step HB1.out hb)
  have HK2 := Aside0.mk (blk_below HK1.out hb)
  clear hb k0
  have k0 : w2.cell? ⟨w.heap.size, 0, none⟩ = some (.int .u32 a) := blk_cell HK2.out 0
  go_wp2_with fail
  refine (h2.out _ (H.out.below HB2.out)).mono ?_
  rintro e_ w3 ⟨s2, rfl, hb⟩
  have HB3 := Aside0.mk (below_step HB2.out hb)
  have HK3 := Aside0.mk (blk_below HK2.out hb)
  clear hb k0
  have k0 : w3.cell? ⟨w.heap.size, 0, none⟩ = some (.int .u32 a) := blk_cell HK3.out 0
  go_wp2_with fail
  refine (h3.out _ (H.out.below HB3.out)).mono ?_
  rintro e_ w4 ⟨s3, rfl, hb⟩
  have HB4 := Aside0.mk (below_step HB3.out hb)
  have HK4 := Aside0.mk (blk_below HK3.out hb)
  clear hb k0
  have k0 : w4.cell? ⟨w.heap.size, 0, none⟩ = some (.int .u32 a) := blk_cell HK4.out 0
  go_wp2_with fail
  refine (h4.out _ (H.out.below HB4.out)).mono ?_
  rintro e_ w5 ⟨s4, rfl, hb⟩
  have HB5 := Aside0.mk (below_step HB4.out hb)
  have HK5 := Aside0.mk (blk_below HK4.out hb)
  clear hb k0
  have k0 : w5.cell? ⟨w.heap.size, 0, none⟩ = some (.int .u32 a) := blk_cell HK5.out 0
  go_wp2_with fail
  refine (h5.out _ (H.out.below HB5.out)).mono ?_
  rintro e_ w6 ⟨s5, rfl, hb⟩
  have HB6 := Aside0.mk (below_step HB5.out hb)
  have HK6 := Aside0.mk (blk_below HK5.out hb)
  clear hb k0
  have k0 : w6.cell? ⟨w.heap.size, 0, none⟩ = some (.int .u32 a) := blk_cell HK6.out 0
  have hxx : (a + 1 == a + 1) = true := by simp
  have hq := Aside0.mk (fun n => h6.out (w6.drewN n) ((H.out.below HB6.out).below (pw_below_drewN (Below.refl _ _) n)))
  clear hw3 hw3b hw4 hw5 hwc
  go_wp2_with fail
  go_quiet ((go_at_call 43; exact Calls.quiet_of_same (hq.out _)))
  go_wp2_with fail
  go_ret
  exact ⟨by simp, pw_below_drewN HB6.out _⟩
end Go.Proofs.Ytgabkifojnkbkaa.Ip

set_option linter.unusedVariables false
set_option linter.unusedSimpArgs false
namespace Go.Proofs.Ytgabkifojnkbkaa.Ip
open Go.RowKit Go.Maps Go.WideMaps Go.MapKept Go.Proofs.YtgabkifojnkbkaaW.PrintWords Go.Proofs.Ytgabkifojnkbkaa.PIpf
def NameOk (s : ByteArray) : Prop := ∃ k, ipam_nameOK.f k s = some true
theorem nameOk_le (s : ByteArray) {k : Nat} {r : Bool} (h : ipam_nameOK.f k s = some r) : ∀ n, ipam_nameOK.f (k + n) s = some r
  | 0 => h
  | n + 1 => ipam_nameOK.mono s (k + n) r (nameOk_le s h n)
theorem nameOk_not {s : ByteArray} {k : Nat} (h : ipam_nameOK.f k s = some false) : ¬ NameOk s := fun ⟨k2, h2⟩ => by
  have a := nameOk_le s h k2
  have b := nameOk_le s h2 k
  rw [Nat.add_comm] at b
  rw [a] at b
  cases b
structure OnS (w0 w : World) (S : Nat) (a l : Int) (B b1 b2 : Nat) (vn vs : Value) (M : IpM) (R : RfM) (g : Nat) (vg : Value) : Prop where
  ri : RI w0 w S a l B b1 b2 vn vs M R
  gv : GvS w g vg R.pods
  sz : R.size = sizeF l
  ne : ∀ b, b ∈ IpF B b1 b2 vn vs → b ∉ GvF g vg
  new : ∀ b, b ∈ GvF g vg → w0.heap.size ≤ b ∧ b ≠ S
  len : ∀ p, p ∈ R.pods → p.1.size ≤ maxLen
  ok : ∀ p, p ∈ R.pods → NameOk p.1
/-- the state: footprint F -/
def On (w0 w : World) (S : Nat) (a l : Int) (B g : Nat) (F : List Nat) : Prop := ∃ b1 b2 vn vs M R vg, OnS w0 w S a l B b1 b2 vn vs M R g vg ∧ F = IpF B b1 b2 vn vs ++ GvF g vg
section
variable {w0 w w' : World} {S : Nat} {a l : Int} {B b1 b2 : Nat} {vn vs : Value} {M : IpM} {R : RfM} {g : Nat} {vg : Value} {F : List Nat}
theorem OnS.below (h : OnS w0 w S a l B b1 b2 vn vs M R g vg) (hb : Below w.heap.size w w') : OnS w0 w' S a l B b1 b2 vn vs M R g vg := ⟨h.ri.below hb, h.gv.below hb, h.sz, h.ne, h.new, h.len, h.ok⟩
theorem On.below (h : On w0 w S a l B g F) (hb : Below w.heap.size w w') : On w0 w' S a l B g F := by
  obtain ⟨b1, b2, vn, vs, M, R, vg, h1, rfl⟩ := h
  exact ⟨b1, b2, vn, vs, M, R, vg, h1.below hb, rfl⟩
theorem On.lt (h : On w0 w S a l B g F) : ∀ b, b ∈ F → b < w.heap.size := by
  obtain ⟨b1, b2, vn, vs, M, R, vg, h1, rfl⟩ := h
  intro b hb
  rcases List.mem_append.1 hb with hb | hb
  · exact h1.ri.st.lt b hb
  · exact h1.gv.lt b hb
theorem On.obj (h : On w0 w S a l B g F) : w.heap[S]? = some (.cells #[.int .u32 a, .int .i64 l] 25) := by
  obtain ⟨b1, b2, vn, vs, M, R, vg, h1, rfl⟩ := h
  exact h1.ri.obj
theorem On.bel (h : On w0 w S a l B g F) : Below w0.heap.size w0 w := by
  obtain ⟨b1, b2, vn, vs, M, R, vg, h1, rfl⟩ := h
  exact h1.ri.bel
theorem Rel.room (h : Rel M R) : (R.pods.length : Int) ≤ R.size - 3 := by
  have hsz := h.sz
  have hle := nodup_sub_len (l := R.pods.map (·.2)) (m := (List.range (R.size - 3).toNat).map (fun (i : Nat) => M.base + 2 + (i : Int))) h.na (by
    intro y hy
    obtain ⟨p, hp, rfl⟩ := List.mem_map.1 hy
    have hr := h.rng p hp
    refine List.mem_map.2 ⟨(p.2 - M.base - 2).toNat, List.mem_range.2 (by omega), by omega⟩)
  simp at hle
  omega
theorem OnS.atNone (h : OnS w0 w S a l B b1 b2 vn vs M R g vg) {s : ByteArray} (hs : M.byN s = none) : atF R.pods s = -1 := h.ri.rel.atF_none hs
/-- an Add, and what is asked of its answer -/
theorem On.add (h : On w0 w S a l B g F) (hg : Good a l) (s : ByteArray) (hs : s.size ≤ maxLen) :
    Calls Try.prog 22 #[.pointer (some ⟨B, 0, none⟩), .string s] w fun e w' => ∃ x z, e = .returned (.tuple #[.int .u32 x, .int .i64 z]) ∧ Turn w w' F ∧ w'.heap[S]? = some (.cells #[.int .u32 a, .int .i64 l] 25) ∧
      Calls Try.prog 23 #[.pointer (some ⟨g, 0, none⟩), .agg #[.int .u32 a, .int .i64 l], .string s, .int .u32 x, .int .i64 z] w' fun e w2 => e = .returned (.bool true) ∧ ∃ F', On w0 w2 S a l B g F' := by
  have hO := h
  obtain ⟨b1, b2, vn, vs, M, R, vg, h, rfl⟩ := h
  have hrel := h.ri.rel
  have hlim := hrel.lim
  have hcnt := hrel.cnt
  have hb0 := hrel.b0
  rw [h.ri.mb] at hb0
  have htop := hrel.top
  rw [h.ri.mb, h.sz] at htop
  obtain ⟨k, ok, hok, _⟩ := named_both s hs
  cases ok with
  | false =>
    have hno : M.byN s = none := by
      cases hx : M.byN s with
      | none => rfl
      | some x => exact absurd (h.ok _ ((hrel.byN s x).1 hx)) (nameOk_not hok)
    refine (add_bad k w B b1 b2 vn vs M s hs h.ri.st hok).mono ?_
    rintro e w1 ⟨rfl, hb⟩
    refine ⟨_, _, rfl, Turn.of_below hb _, (hO.below hb).obj, ?_⟩
    refine (added_name w1 g vg R.pods a l s hlim (by rw [hrel.atF_none hno]; omega) (h.gv.below hb)).mono ?_
    rintro e w2 ⟨rfl, hb2⟩
    exact ⟨rfl, _, (hO.below hb).below hb2⟩
  | true =>
    cases hx : M.byN s with
    | some x =>
      obtain ⟨hat, _, _⟩ := hrel.atF_some hx
      refine (add_dup k w B b1 b2 vn vs M s hs h.ri.st hok x hx).mono ?_
      rintro e w1 ⟨rfl, hb⟩
      refine ⟨_, _, rfl, Turn.of_below hb _, (hO.below hb).obj, ?_⟩
      refine (added_dup w1 g vg R.pods a l s hlim hat (h.gv.below hb)).mono ?_
      rintro e w2 ⟨rfl, hb2⟩
      exact ⟨rfl, _, (hO.below hb).below hb2⟩
    | none =>
      have hat := hrel.atF_none hx
      have hno : ∀ b, (s, b) ∉ R.pods := fun b hb => by have := (hrel.byN s b).2 hb; rw [hx] at this; cases this
      have hroom := hrel.room
      by_cases hfull : R.pods.length ≥ 1024 ∨ (R.pods.length : Int) ≥ R.size - 3
      · refine (h.ri.add_full k s hs hok hno hfull).mono ?_
        rintro e w1 ⟨rfl, hb⟩
        refine ⟨_, _, rfl, Turn.of_below hb _, (hO.below hb).obj, ?_⟩
        refine (added_full w1 g vg R.pods a l s hg hlim (by rw [hat]; omega) (by rw [← h.sz]; omega) (h.gv.below hb)).mono ?_
        rintro e w2 ⟨rfl, hb2⟩
        exact ⟨rfl, _, (hO.below hb).below hb2⟩
      · have hfound := hrel.found (by omega)
        obtain ⟨hx0, hx1⟩ := hrel.rseek_in R.pods.length R.last hrel.g0
        rw [h.ri.rbase] at hfound
        refine (add_rel k w B b1 b2 vn vs s hs h.ri.st hrel hok hno (by omega) (by omega) _ rfl).mono ?_
        generalize rseek R (R.pods.length + 1) R.last = y at *
        rintro e w1 ⟨rfl, vn', vs', M', hI, hr, hm, _, hT, hF⟩
        have hri := h.ri.step hI hr hm hT hF
        have hgv : GvS w1 g vg R.pods := h.gv.turn hT (fun b hb hb2 => h.ne b hb2 hb)
        refine ⟨_, _, rfl, hT.mono (fun b hb => List.mem_append_left _ hb), hri.obj, ?_⟩
        rw [h.ri.mb]
        refine (added_ok w1 g vg R.pods a l y s hb0 hg htop (by omega) hrel.pin hat hfound hx0 (by rw [← h.sz]; exact hx1) hgv).mono ?_
        rintro e w2 ⟨rfl, vg', hgv2, hT2, hF2⟩
        have hd : ∀ b, b ∈ IpF B b1 b2 vn' vs' → b ∉ GvF g vg := fun b hb hb2 => by
          rcases hF b hb with h3 | h3
          · exact h.ne b h3 hb2
          · have := h.gv.lt b hb2; omega
        have hI2 : IpS w2 B b1 b2 vn' vs' M' := hI.turn hT2 hd
        refine ⟨rfl, _, b1, b2, vn', vs', M', raddS R s y, vg', ⟨⟨hI2, hr, hri.mb, hri.bel.trans (hT2.below hri.bel.size (fun b hb => (h.new b hb).1)), (hT2.block S (blk_lt hri.obj) (fun hS => (h.new S hS).2 rfl)).trans hri.obj, hri.new⟩, ?_, h.sz, fun b hb hb2 => ?_, fun b hb => ?_, fun p hp => ?_, fun p hp => ?_⟩, rfl⟩
        · have e : (raddS R s y).pods = R.pods ++ [(s, a + y)] := by show R.pods ++ [(s, R.base + y)] = _; rw [h.ri.rbase]
          rw [e]; exact hgv2
        · rcases hF2 b hb2 with h3 | h3
          · exact hd b hb h3
          · have := hI.lt b hb; omega
        · rcases hF2 b hb with h3 | h3
          · exact h.new b h3
          · have := hri.bel.size; have := blk_lt hri.obj; exact ⟨by omega, by omega⟩
        · have hp2 : p ∈ R.pods ++ [(s, R.base + y)] := hp
          rcases List.mem_append.1 hp2 with h3 | h3
          · exact h.len p h3
          · rw [List.mem_singleton.1 h3]; exact hs
        · have hp2 : p ∈ R.pods ++ [(s, R.base + y)] := hp
          rcases List.mem_append.1 hp2 with h3 | h3
          · exact h.ok p h3
          · rw [List.mem_singleton.1 h3]; exact ⟨k, hok⟩
/-- a Del, and what is asked of its answer -/
theorem On.del (h : On w0 w S a l B g F) (s : ByteArray) (hs : s.size ≤ maxLen) :
    Calls Try.prog 24 #[.pointer (some ⟨B, 0, none⟩), .string s] w fun e w' => ∃ x z, e = .returned (.tuple #[.int .u32 x, .int .i64 z]) ∧ Turn w w' F ∧
      Calls Try.prog 25 #[.pointer (some ⟨g, 0, none⟩), .string s, .int .u32 x, .int .i64 z] w' fun e w2 => e = .returned (.bool true) ∧ ∃ F', On w0 w2 S a l B g F' := by
  have hO := h
  obtain ⟨b1, b2, vn, vs, M, R, vg, h, rfl⟩ := h
  have hrel := h.ri.rel
  have hlim := hrel.lim
  cases hby : M.byN s with
  | none =>
    refine (del_none w B b1 b2 vn vs M s hs h.ri.st hby).mono ?_
    rintro e w1 ⟨rfl, hb⟩
    refine ⟨_, _, rfl, Turn.of_below hb _, ?_⟩
    refine (deleted_none w1 g vg R.pods s hlim (by rw [hrel.atF_none hby]; omega) (h.gv.below hb)).mono ?_
    rintro e w2 ⟨rfl, hb2⟩
    exact ⟨rfl, _, (hO.below hb).below hb2⟩
  | some x =>
    obtain ⟨i0, i1, hpa⟩ := hrel.atF_some hby
    obtain ⟨hx0, hx1, t, ht⟩ := hrel.ok.na s x hby
    obtain ⟨ht0, ht1⟩ := hrel.ok.at_ x t ht
    have hk := hrel.cut hby ht
    have hsum := hrel.sum
    have hnl := hrel.nl
    obtain ⟨i, hi⟩ : ∃ i : Nat, atF R.pods s = (i : Int) := ⟨(atF R.pods s).toNat, by omega⟩
    rw [hi] at i0 i1 hpa hk
    rw [Int.toNat_natCast] at hpa hk
    refine (del_ok w B b1 b2 vn vs M s hs h.ri.st x t hby hx0 hx1 ht ht0 ht1 (by omega)).mono ?_
    rintro e w1 ⟨rfl, vs', hI, hT, hF0⟩
    have hF : ∀ b, b ∈ IpF B b1 b2 vn vs' → b ∈ IpF B b1 b2 vn vs ∨ w.heap.size ≤ b := fun b hb2 => by
      simp only [IpF, List.mem_cons, List.mem_append, Option.mem_toList, Option.mem_def] at hb2 ⊢
      rcases hF0 with hF | ⟨c, hc, hle⟩
      · rw [hF] at hb2; exact .inl hb2
      · rcases hb2 with hb2 | hb2 | hb2 | hb2 | hb2
        · exact .inl (.inl hb2)
        · exact .inl (.inr (.inl hb2))
        · exact .inl (.inr (.inr (.inl hb2)))
        · exact .inl (.inr (.inr (.inr (.inl hb2))))
        · rw [hc] at hb2; injection hb2 with hb2; right; omega
    have hri := h.ri.step hI hk rfl hT hF
    have hgv : GvS w1 g vg R.pods := h.gv.turn hT (fun b hb hb2 => h.ne b hb2 hb)
    refine ⟨_, _, rfl, hT.mono (fun b hb => List.mem_append_left _ hb), ?_⟩
    refine (deleted_ok w1 g vg R.pods s x i hlim hi (by omega) hpa hgv).mono ?_
    rintro e w2 ⟨rfl, vg', hgv2, hT2, hF2⟩
    have hd : ∀ b, b ∈ IpF B b1 b2 vn vs' → b ∉ GvF g vg := fun b hb hb2 => by
      rcases hF b hb with h3 | h3
      · exact h.ne b h3 hb2
      · have := h.gv.lt b hb2; omega
    have hI2 : IpS w2 B b1 b2 vn vs' (delS M s x t) := hI.turn hT2 hd
    have hmem : ∀ p, p ∈ cutF R.pods i → p ∈ R.pods := fun p hp => by
      rcases List.mem_append.1 hp with h3 | h3
      · exact List.mem_of_mem_take h3
      · exact List.mem_of_mem_drop h3
    refine ⟨rfl, _, b1, b2, vn, vs', delS M s x t, _, vg', ⟨⟨hI2, hk, hri.mb, hri.bel.trans (hT2.below hri.bel.size (fun b hb => (h.new b hb).1)), (hT2.block S (blk_lt hri.obj) (fun hS => (h.new S hS).2 rfl)).trans hri.obj, hri.new⟩, hgv2, h.sz, fun b hb hb2 => ?_, fun b hb => ?_, fun p hp => h.len p (hmem p hp), fun p hp => h.ok p (hmem p hp)⟩, rfl⟩
    · rcases hF2 b hb2 with h3 | h3
      · subst h3; exact hd b hb (by simp [GvF])
      · have := hI.lt b hb; omega
    · rcases hF2 b hb with h3 | h3
      · subst h3; exact h.new b (by simp [GvF])
      · have := hri.bel.size; have := blk_lt hri.obj; exact ⟨by omega, by omega⟩
theorem On.told (h : On w0 w S a l B g F) :
    Calls Try.prog 26 #[.pointer (some ⟨g, 0, none⟩), .pointer (some ⟨B, 0, none⟩)] w fun e w' => e = .returned (.bool true) ∧ Below w.heap.size w w' := by
  obtain ⟨b1, b2, vn, vs, M, R, vg, h, rfl⟩ := h
  exact told26 w0 w S a l B b1 b2 vn vs M R g vg h.ri h.gv h.len
theorem On.edges (h : On w0 w S a l B g F) (hg : Good a l) :
    Calls Try.prog 27 #[.pointer (some ⟨B, 0, none⟩), .agg #[.int .u32 a, .int .i64 l]] w fun e w' => e = .returned (.bool true) ∧ Below w.heap.size w w' := by
  obtain ⟨b1, b2, vn, vs, M, R, vg, h, rfl⟩ := h
  exact edges27 w0 w S a l B b1 b2 vn vs M R hg h.ri h.sz
end
end Go.Proofs.Ytgabkifojnkbkaa.Ip

set_option linter.unusedVariables false
set_option linter.unusedSimpArgs false
namespace Go.Proofs.Ytgabkifojnkbkaa.Ip
open Go.RowKit Go.Maps Go.WideMaps Go.MapKept Go.Proofs.YtgabkifojnkbkaaW.PrintWords Go.Proofs.Ytgabkifojnkbkaa.PIpf Go.Proofs.YtgabkifojnkbkaaW.XOpen
theorem W39_opO {xs : List S39} {i : Nat} (hW : ∀ x, x ∈ xs → W39 x) (hlt : i < xs.length) : (rd39 xs i).f1.size ≤ maxLen ∧ 0 ≤ (rd39 xs i).f2 ∧ (rd39 xs i).f2 < 4294967296 := by
  obtain ⟨_, hs, hu⟩ := hW _ (rd39_mem hlt)
  obtain ⟨hu0, hu1⟩ := wf32_inv hu
  exact ⟨by unfold maxLen; omega, hu0, hu1⟩
set_option maxHeartbeats 16000000 in
set_option maxRecDepth 100000 in
theorem once_good (w : World) (a l : Int) (A : Option Addr) (c : Nat) (xs : List S39) (h0 : 0 ≤ a) (h1 : a < 4294967296) (hg : Good a l) (hC : Kd.C k39 w A xs.length xs) (hc : xs.length ≤ c) (hlen : xs.length ≤ maxLen) (hW : ∀ x, x ∈ xs → W39 x) :
    Calls Try.prog 10 #[.agg #[.int .u32 a, .int .i64 l], .slice A xs.length c] w fun e w' => e = .returned (.bool true) ∧ Below w.heap.size w w' := by
  have HC := Aside0.mk hC
  have HLEN := Aside0.mk hlen
  have HW := Aside0.mk hW
  have HGOOD := Aside0.mk hg
  obtain ⟨mb, hmay, hmb⟩ := may_val a l h0 h1
  obtain rfl : mb = true := hmb.2 hg
  have hrel := Aside0.mk (Rel.new hg.1 hg.2.1 h0 h1 hg.2.2)
  have hMay := Aside0.mk (fun w => weftlaw15_may.calls 40 a l true w hmay)
  have hNew := Aside0.mk (fun w => new_good w a l h0 h1 hg)
  have hFst := Aside0.mk first16
  clear hC hlen hW hmay hmb hg
  go_enter Try.func10, Try.ntmps10
  go_wp2_with fail
  have KB := Aside0.mk (blk_new w (.cells #[.int .u32 a, .int .i64 l] 25))
  have HB1 := Aside0.mk (below_alloc (Below.refl w.heap.size w) (.cells #[.int .u32 a, .int .i64 l] 25))
  refine (hNew.out _).mono ?_
  rintro e_ w2 ⟨B, b1, b2, rfl, hS, hb2, hF⟩
  have HR : Aside0 (RI w w2 w.heap.size a l B b1 b2 _ _ _ _) := ⟨⟨hS, hrel.out, rfl, below_step HB1.out hb2, blk_below KB.out hb2, fun b hb => by
    have := hF b hb; have := HB1.out.size; have := blk_lt KB.out; exact ⟨by omega, by omega⟩⟩⟩
  clear hS hb2 hF
  go_wp2_with fail
  refine (hFst.out _).mono ?_
  rintro e_ w3 ⟨rfl, hb3⟩
  have HR := Aside0.mk (HR.out.below hb3)
  have k0 : w3.cell? ⟨w.heap.size, 0, none⟩ = some (.int .u32 a) := blk_cell HR.out.obj 0
  have k1 : w3.cell? ⟨w.heap.size, 1, none⟩ = some (.int .i64 l) := blk_cell HR.out.obj 1
  clear hb3
  go_wp2_with fail
  refine (hMay.out _).mono ?_
  rintro e_ w4 ⟨rfl, hb4⟩
  have HR := Aside0.mk (HR.out.below hb4)
  clear hb4 k0 k1
  go_wp2_with fail
  have HS : Aside0 (∃ F, On w (w4.alloc (.cells #[.slice none 0 0] 47)) w.heap.size a l B w4.heap.size F) := ⟨⟨_, b1, b2, _, _, _, _, .slice none 0 0, ⟨HR.out.below (below_alloc (Below.refl _ _) _), ⟨heap_alloc_new w4 _, own_nil _ _ _ _⟩, rfl, fun b hb hb2 => by
      have := HR.out.st.lt b hb
      have e : b = w4.heap.size := by simpa [GvF, Value.ownBlock] using hb2
      omega, fun b hb => by
      have e : b = w4.heap.size := by simpa [GvF, Value.ownBlock] using hb
      have h1 := HR.out.bel.size
      have h2 := blk_lt HR.out.obj
      exact ⟨by omega, by omega⟩, fun p hp => (by cases hp), fun p hp => (by cases hp)⟩, rfl⟩⟩
  clear HR hrel hNew hFst hMay KB HB1
  generalize w4.alloc (.cells #[.slice none 0 0] 47) = w5 at *
  generalize w4.heap.size = g at *
  go_loopg [8] xs.length (fun k vi wr => ∃ i : Nat, vi = .int .i64 (i : Int) ∧ i + k = xs.length ∧ Aside0 (∃ F, On w wr w.heap.size a l B g F))
  case atStart => exact ⟨0, rfl, by omega, HS⟩
  case round =>
    clear HS
    obtain ⟨i, rfl, hi, HS⟩ := hrel
    obtain ⟨F, hO⟩ := HS.out
    have HO := Aside0.mk hO
    clear hO HS
    cases gk with
    | zero =>
      obtain rfl : i = xs.length := by omega
      go_wp2_with fail
      refine HO.out.told.mono ?_
      rintro e_ w6 ⟨rfl, hb6⟩
      have HO := Aside0.mk (HO.out.below hb6)
      have k0 : w6.cell? ⟨w.heap.size, 0, none⟩ = some (.int .u32 a) := blk_cell HO.out.obj 0
      have k1 : w6.cell? ⟨w.heap.size, 1, none⟩ = some (.int .i64 l) := blk_cell HO.out.obj 1
      clear hb6
      go_wp2_with fail
      refine (HO.out.edges HGOOD.out).mono ?_
      rintro e_ w7 ⟨rfl, hb7⟩
      have HO := Aside0.mk (HO.out.below hb7)
      clear hb7 k0 k1
      go_wp2_with fail
      go_ret
      exact ⟨rfl, HO.out.bel⟩
    | succ k =>
      have hli : (i : Int) < (xs.length : Int) := by omega
      have hlt : i < xs.length := by omega
      have hw1 : IntKind.i64.wrap ((i : Int) + 1) = ((i + 1 : Nat) : Int) := by rw [show (i : Int) + 1 = ((i + 1 : Nat) : Int) from by omega]; exact wrap64_id (by omega) (by have := HLEN.out; unfold maxLen at this; omega)
      have HOP := Aside0.mk (W39_opO HW.out hlt)
      obtain ⟨ad, rfl, c0, c1, c2⟩ := at39 (Kd.C_below HC.out HO.out.bel) i hlt
      generalize rd39 xs i = x at *
      obtain ⟨kk, s, u⟩ := x
      simp only at c0 c1 c2 HOP
      have HO1 := Aside0.mk (HO.out.below (below_alloc (Below.refl _ _) (.cells #[.int .i64 kk, .string s, .int .u32 u] 39)))
      have HPB := Aside0.mk (blk_new wr (.cells #[.int .i64 kk, .string s, .int .u32 u] 39))
      have HPF : Aside0 (wr.heap.size ∉ F) := ⟨fun hf => by have := HO.out.lt _ hf; omega⟩
      have HSZ : Aside0 (wr.heap.size < (wr.alloc (.cells #[.int .i64 kk, .string s, .int .u32 u] 39)).heap.size) := ⟨by rw [World.size_alloc]; omega⟩
      clear hlt
      by_cases hk1 : kk = 1
      · subst hk1
        have hadd := Aside0.mk (HO1.out.add HGOOD.out s HOP.out.1)
        clear HO1
        go_wp2_with fail
        refine hadd.out.mono ?_
        rintro e_ w6 ⟨x6, z6, rfl, hT, hobj, hnext⟩
        have kp := (hT.block wr.heap.size HSZ.out HPF.out).trans HPB.out
        have kp1 : w6.cell? ⟨wr.heap.size, 1, none⟩ = some (.string s) := blk_cell kp 1
        have k0 : w6.cell? ⟨w.heap.size, 0, none⟩ = some (.int .u32 a) := blk_cell hobj 0
        have k1 : w6.cell? ⟨w.heap.size, 1, none⟩ = some (.int .i64 l) := blk_cell hobj 1
        have HN := Aside0.mk hnext
        clear hT hobj hnext kp hadd
        go_wp2_with fail
        refine HN.out.mono ?_
        rintro e_ w7 ⟨rfl, F', hO7⟩
        have HO7 := Aside0.mk (show ∃ F, On w w7 w.heap.size a l B g F from ⟨F', hO7⟩)
        clear hO7 k0 k1 kp1 HN
        go_wp2_with fail
        go_roundg k
        case measure => omega
        case rel => exact ⟨i + 1, by first | rfl | go_num, by omega, HO7⟩
      · by_cases hk2 : kk = 2
        · subst hk2
          have hdel := Aside0.mk (HO1.out.del s HOP.out.1)
          clear HO1 hk1
          go_wp2_with fail
          refine hdel.out.mono ?_
          rintro e_ w6 ⟨x6, z6, rfl, hT, hnext⟩
          have kp := (hT.block wr.heap.size HSZ.out HPF.out).trans HPB.out
          have kp1 : w6.cell? ⟨wr.heap.size, 1, none⟩ = some (.string s) := blk_cell kp 1
          have HN := Aside0.mk hnext
          clear hT hnext kp hdel
          go_wp2_with fail
          refine HN.out.mono ?_
          rintro e_ w7 ⟨rfl, F', hO7⟩
          have HO7 := Aside0.mk (show ∃ F, On w w7 w.heap.size a l B g F from ⟨F', hO7⟩)
          clear hO7 kp1 HN
          go_wp2_with fail
          go_roundg k
          case measure => omega
          case rel => exact ⟨i + 1, by first | rfl | go_num, by omega, HO7⟩
        · by_cases hk3 : kk = 3 ∨ kk = 4 ∨ kk = 5
          · have htold := Aside0.mk HO1.out.told
            rcases hk3 with rfl | rfl | rfl
            all_goals
              clear hk1 hk2
              go_wp2_with fail
              refine htold.out.mono ?_
              rintro e_ w6 ⟨rfl, hb6⟩
              have HO6 := Aside0.mk (HO1.out.below hb6)
              have k0 : w6.cell? ⟨w.heap.size, 0, none⟩ = some (.int .u32 a) := blk_cell HO6.out.obj 0
              have k1 : w6.cell? ⟨w.heap.size, 1, none⟩ = some (.int .i64 l) := blk_cell HO6.out.obj 1
              clear hb6 htold HO1
              go_wp2_with fail
              refine (HO6.out.edges HGOOD.out).mono ?_
              rintro e_ w7 ⟨rfl, hb7⟩
              have HO7 := Aside0.mk (show ∃ F, On w w7 w.heap.size a l B g F from ⟨F, HO6.out.below hb7⟩)
              clear hb7 k0 k1
              go_wp2_with fail
              go_roundg k
              case measure => omega
              case rel => exact ⟨i + 1, by first | rfl | go_num, by omega, HO7⟩
          · have d1 : (kk == 1) = false := by simp [hk1]
            have d2 : (kk == 2) = false := by simp [hk2]
            have d3 : (kk == 3) = false := by simp; omega
            have d4 : (kk == 4) = false := by simp; omega
            have d5 : (kk == 5) = false := by simp; omega
            have HO7 := Aside0.mk (show ∃ F, On w (wr.alloc (.cells #[.int .i64 kk, .string s, .int .u32 u] 39)) w.heap.size a l B g F from ⟨F, HO1.out⟩)
            clear hk1 hk2 hk3 HO1
            go_wp2_with fail
            go_roundg k
            case measure => omega
            case rel => exact ⟨i + 1, by first | rfl | go_num, by omega, HO7⟩
set_option maxHeartbeats 16000000 in
set_option maxRecDepth 100000 in
theorem once_bad (w : World) (a l : Int) (A : Option Addr) (c n : Nat) (h0 : 0 ≤ a) (h1 : a < 4294967296) (hg : ¬ Good a l) :
    Calls Try.prog 10 #[.agg #[.int .u32 a, .int .i64 l], .slice A n c] w fun e w' => e = .returned (.bool true) ∧ Below w.heap.size w w' := by
  obtain ⟨mb, hmay, hmb⟩ := may_val a l h0 h1
  obtain rfl : mb = false := by cases mb with | false => rfl | true => exact absurd (hmb.1 rfl) hg
  have hMay := Aside0.mk (fun w => weftlaw15_may.calls 40 a l false w hmay)
  have hNew := Aside0.mk (fun w => new_bad_any w a l h0 h1 hg)
  have hFst := Aside0.mk first16
  clear hg hmay hmb
  go_enter Try.func10, Try.ntmps10
  go_wp2_with fail
  have KB := Aside0.mk (blk_new w (.cells #[.int .u32 a, .int .i64 l] 25))
  have HB1 := Aside0.mk (below_alloc (Below.refl w.heap.size w) (.cells #[.int .u32 a, .int .i64 l] 25))
  refine (hNew.out _).mono ?_
  rintro e_ w2 ⟨rfl, hb2⟩
  have KB2 := Aside0.mk (blk_below KB.out hb2)
  have HB2 := Aside0.mk (below_step HB1.out hb2)
  clear hb2
  go_wp2_with fail
  refine (hFst.out _).mono ?_
  rintro e_ w3 ⟨rfl, hb3⟩
  have k0 : w3.cell? ⟨w.heap.size, 0, none⟩ = some (.int .u32 a) := blk_cell (blk_below KB2.out hb3) 0
  have k1 : w3.cell? ⟨w.heap.size, 1, none⟩ = some (.int .i64 l) := blk_cell (blk_below KB2.out hb3) 1
  have HB3 := Aside0.mk (below_step HB2.out hb3)
  clear hb3
  go_wp2_with fail
  refine (hMay.out _).mono ?_
  rintro e_ w4 ⟨rfl, hb4⟩
  have HB4 := Aside0.mk (below_step HB3.out hb4)
  clear hb4 k0 k1
  go_wp2_with fail
  go_ret
  exact ⟨by simp, HB4.out⟩
theorem once_law (w : World) (a l : Int) (A : Option Addr) (c : Nat) (xs : List S39) (h0 : 0 ≤ a) (h1 : a < 4294967296) (hC : Kd.C k39 w A xs.length xs) (hc : xs.length ≤ c) (hlen : xs.length ≤ maxLen) (hW : ∀ x, x ∈ xs → W39 x) :
    Calls Try.prog 10 #[.agg #[.int .u32 a, .int .i64 l], .slice A xs.length c] w fun e w' => e = .returned (.bool true) ∧ Below w.heap.size w w' := by
  rcases Classical.em (Good a l) with hg | hb
  · exact once_good w a l A c xs h0 h1 hg hC hc hlen hW
  · exact once_bad w a l A c xs.length h0 h1 hb
end Go.Proofs.Ytgabkifojnkbkaa.Ip
