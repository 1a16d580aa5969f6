/- PoolPlays walked. Conditions: what comes in is of its kinds. -/
import Derived.Test.YtebnlhjakiipjaaPrJ
set_option linter.unusedVariables false
set_option linter.unusedSimpArgs false
namespace Go.Proofs.Ytebnlhjakiipjaa.Pl
open Go.RowKit Go.Maps Go.Proofs.YtebnlhjakiipjaaW.PrintWords Go.Proofs.YtebnlhjakiipjaaW.PrintMore Go.Proofs.YtebnlhjakiipjaaW.PrintLast Go.Proofs.Ytebnlhjakiipjaa.PPlf Go.Proofs.YtebnlhjakiipjaaW.XOpen
theorem C_cells {w : World} {A : Option Addr} {l : List S27} (h : Kd.C k27 w A l.length l) : l.length = 0 ∨ ∃ a, A = some a ∧ ∀ j u, (pfC l)[j]? = some u → w.cell? (a.add j) = some u := by
  by_cases h0 : l.length = 0
  · exact .inl h0
  · obtain ⟨ad, e, _⟩ := at_T27 h 0 (by omega) (by omega)
    refine .inr ⟨ad, e, fun j u hj => ?_⟩
    obtain ⟨hj1, _⟩ := List.getElem?_eq_some_iff.1 hj
    rw [pfC_length] at hj1
    obtain ⟨ad2, c, e2, _, hK, hc⟩ := Kd.C_get h z27 ((j / 2 : Nat) : Int) (by omega) (by omega)
    rw [e] at e2; injection e2 with e2; subst e2
    obtain rfl := k27_open hK
    rw [Int.toNat_natCast] at hc
    have hg := pfC_get l (j / 2) l[j / 2] (List.getElem?_eq_getElem (by omega))
    have hrd : l.getD (j / 2) z27 = l[j / 2] := by rw [List.getD_eq_getElem?_getD, List.getElem?_eq_getElem (by omega)]; rfl
    have hc0 : ∀ i u, ([Value.int .u32 l[j / 2].f0, .int .i64 l[j / 2].f1] : List Value)[i]? = some u → w.cell? (ad.add (j / 2 * 2 + i)) = some u := by
      intro i u hi
      exact hc i u (by rw [← hrd] at hi; exact hi)
    rcases Nat.mod_two_eq_zero_or_one j with h2 | h2
    · have e3 : j / 2 * 2 = j := by omega
      rw [e3] at hg
      rw [hg.1] at hj
      have := hc0 0 u hj
      rw [Nat.add_zero, e3] at this
      exact this
    · have e3 : j / 2 * 2 + 1 = j := by omega
      rw [e3] at hg
      rw [hg.2] at hj
      have := hc0 1 u hj
      rw [e3] at this
      exact this
theorem Tri.nils {w0 w : World} {B : Nat} {vp vr vq vs vx vy : Value} {X : Nat → Prop} (h : Tri w0 B X vp vr vq vs vx vy w) : ((vp = .pointer none ∧ vr = .pointer none) ∨ ∃ p r, vp = .pointer (some ⟨p, 0, none⟩) ∧ vr = .pointer (some ⟨r, 0, none⟩)) ∧ ((vq = .pointer none ∧ vs = .pointer none) ∨ ∃ p r, vq = .pointer (some ⟨p, 0, none⟩) ∧ vs = .pointer (some ⟨r, 0, none⟩)) := by
  obtain ⟨⟨G1, G2, G3, h1, h2, h3, _⟩, _⟩ := h
  constructor
  · rcases h1 with ⟨h, h', _⟩ | ⟨p, r, M, L, h, h', _⟩
    · exact .inl ⟨h, h'⟩
    · exact .inr ⟨p, r, h, h'⟩
  · rcases h2 with ⟨h, h', _⟩ | ⟨p, r, M, L, h, h', _⟩
    · exact .inl ⟨h, h'⟩
    · exact .inr ⟨p, r, h, h'⟩
/-- a list's copy -/
theorem row_copy {w : World} {A : Option Addr} {l : List S27} {c : Nat} (h : Kd.C k27 w A l.length l) (hl : l.length ≤ 8796093022207) :
    ∃ v' w', (Builtin.append_ #[28, 28] 28 #[.slice none 0 0, .slice A l.length c]).run Try.prog w = .ok v' w' ∧ Row w' w.heap.size v' l ∧ Below w.heap.size w w' := by
  obtain ⟨i, hi, hzz⟩ := Option.map_eq_some_iff.1 info27
  simp only [Prod.mk.injEq] at hzz
  obtain ⟨hz, hs, hb⟩ := hzz
  obtain ⟨v', w', h1, h2, h3, h4⟩ := app_any w (t := 28) (e := 27) (news := pfC l) (base := w.heap.size) Try.underlying28 hi hz hs hb rfl (by omega) (v := .slice none 0 0) (n := 0) (xs := []) (own_nil _ _ _ _) (Nat.le_refl _) A l.length c (pfC_length l) (C_cells h) (pfC_cells l) (by unfold maxLen; omega) (by omega)
  refine ⟨v', w', h1, ?_, ⟨h3.os, h3.tape, h3.output, h3.size, fun k hk => h3.block k hk (by simp [Value.ownBlock])⟩⟩
  unfold Row
  rw [Nat.zero_add, List.nil_append] at h2
  exact h2
theorem blk_low {w w' : World} {b t B : Nat} {cs : Array Value} (h : w.heap[b]? = some (.cells cs t (0, 0))) (hb : Below B w w') (hB : b < B) : w'.heap[b]? = some (.cells cs t (0, 0)) := (hb.block b hB).trans h
abbrev spC (na nl s lo hi : Int) (A : Option Addr) (n c : Nat) : Obj := .cells #[.int .u32 na, .int .i64 nl, .int .i64 s, .int .u32 lo, .int .u32 hi, .slice A n c] 30
set_option maxHeartbeats 16000000 in
set_option maxRecDepth 100000 in
theorem plays_law (w : World) (na nl s lo hi : Int) (A : Option Addr) (kept : List S27) (c : Nat) (nb ml t lo2 hi2 : Int) (A2 : Option Addr) (kept2 : List S27) (c2 : Nat) (A3 : Option Addr) (sc : List S49) (c3 : Nat)
    (hS : SpIn w na nl s lo hi A kept c) (hS2 : SpIn w nb ml t lo2 hi2 A2 kept2 c2) (hk : kept.length ≤ 8796093021952) (hC3 : Kd.C k49 w A3 sc.length sc) (hl3 : sc.length ≤ 140737488355328) (hW3 : ∀ x, x ∈ sc → 0 ≤ x.f2.f0 ∧ x.f2.f0 < 4294967296) :
    Calls Try.prog 5 #[.agg #[.int .u32 na, .int .i64 nl, .int .i64 s, .int .u32 lo, .int .u32 hi, .slice A kept.length c], .agg #[.int .u32 nb, .int .i64 ml, .int .i64 t, .int .u32 lo2, .int .u32 hi2, .slice A2 kept2.length c2], .slice A3 sc.length c3] w fun e w' => e = .returned (.bool true) ∧ Below w.heap.size w w' := by
  obtain ⟨w2, hw2⟩ : ∃ w2, w2 = (w.alloc (spC na nl s lo hi A kept.length c)).alloc (spC nb ml t lo2 hi2 A2 kept2.length c2) := ⟨_, rfl⟩
  have e1 : (w.alloc (spC na nl s lo hi A kept.length c)).heap.size = w.heap.size + 1 := by simp
  have kp := heap_alloc_new w (spC na nl s lo hi A kept.length c)
  have kq := heap_alloc_new (w.alloc (spC na nl s lo hi A kept.length c)) (spC nb ml t lo2 hi2 A2 kept2.length c2)
  rw [e1] at kq
  have KP : Aside0 (w2.heap[w.heap.size]? = some (.cells #[.int .u32 na, .int .i64 nl, .int .i64 s, .int .u32 lo, .int .u32 hi, .slice A kept.length c] 30 (0, 0))) := ⟨by rw [hw2]; exact blk_alloc kp _⟩
  have KQ : Aside0 (w2.heap[w.heap.size + 1]? = some (.cells #[.int .u32 nb, .int .i64 ml, .int .i64 t, .int .u32 lo2, .int .u32 hi2, .slice A2 kept2.length c2] 30 (0, 0))) := ⟨by rw [hw2]; exact kq⟩
  have HB2 : Aside0 (Below w.heap.size w w2) := ⟨by rw [hw2]; exact below_alloc (below_alloc (Below.refl _ _) _) _⟩
  have HS := Aside0.mk hS
  have HS2 := Aside0.mk hS2
  have HK := Aside0.mk hk
  have HSC := Aside0.mk (And.intro hC3 (And.intro hl3 hW3))
  clear kp kq hS hS2 hk hC3 hl3 hW3
  go_enter Try.func5, Try.ntmps5
  unfold spC at *
  go_wp2_with fail
  rw [← hw2]
  clear hw2 e1
  refine (begun9 w2).mono ?_
  rintro e_ w3 ⟨rfl, hb3⟩
  have HB3 := Aside0.mk (below_step HB2.out hb3)
  have KP3 := Aside0.mk (blk_below KP.out hb3)
  have KQ3 := Aside0.mk (blk_below KQ.out hb3)
  have kp5 := blk_cell KP3.out 5
  clear hb3 KP KQ HB2
  go_upto_region 4 with fail
  obtain ⟨v4, w4, r4, o4, b4⟩ := row_copy (c := c) (Kd.C_below HS.out.C HB3.out) (by have := HK.out; omega)
  obtain ⟨A4, c4, e4, _⟩ := o4.C
  subst e4
  have R4 := Aside0.mk r4
  have O4 := Aside0.mk o4
  have HB4 := Aside0.mk (below_step HB3.out b4)
  have KP4 := Aside0.mk (blk_below KP3.out b4)
  have KQ4 := Aside0.mk (blk_below KQ3.out b4)
  clear r4 o4 b4
  have kkp40 := blk_cell KP4.out 0
  have kkp41 := blk_cell KP4.out 1
  have kkp42 := blk_cell KP4.out 2
  have kkp43 := blk_cell KP4.out 3
  have kkp44 := blk_cell KP4.out 4
  have kkp45 := blk_cell KP4.out 5
  go_wp2_with ((with_reducible refine gate_builtin (b := .append) (xs := #[.const (.slice none 0 0), .tmp 26]) rfl ?_); at_builtin; refine wpList_append_run rfl (.const (.slice none 0 0)) (.tmp 26) 28 rfl rfl rfl R4.out ?_)
  obtain ⟨E1, hE1⟩ : ∃ E, E = newE na nl s lo hi kept := ⟨_, rfl⟩
  obtain ⟨E2, hE2⟩ : ∃ E, E = newE nb ml t lo2 hi2 kept2 := ⟨_, rfl⟩
  have HE1 := Aside0.mk hE1
  have HE2 := Aside0.mk hE2
  have HNC : Aside0 (Kd.C k27 w4 A4 kept.length kept) := ⟨by obtain ⟨_, _, e, _, h⟩ := O4.out.C; injection e with e _ _; subst e; exact h⟩
  refine (newQ w4 na nl s lo hi A4 kept c4 (by have := HS.out.len; unfold maxLen; omega) HS.out.na0 HS.out.na1 HS.out.lo0 HS.out.lo1 HS.out.hi0 HS.out.hi1 (HNC.out) HS.out.W).mono ?_
  rintro e_ w5 ⟨vp, rfl, hp, b_w5⟩
  rw [← hE1] at hp ⊢
  have HP5 := Aside0.mk hp
  have HB5 := Aside0.mk (below_step HB4.out b_w5)
  have KP5 := Aside0.mk (blk_below KP4.out b_w5)
  have KQ5 := Aside0.mk (blk_below KQ4.out b_w5)
  have O5 := Aside0.mk (O4.out.below b_w5)
  have HZ5 : Aside0 (w4.heap.size ≤ w5.heap.size) := ⟨b_w5.size⟩
  clear hp b_w5 hE1 hE2 HNC kp5 kkp40 kkp41 kkp42 kkp43 kkp44 kkp45 R4
  have kkp50 := blk_cell KP5.out 0
  have kkp51 := blk_cell KP5.out 1
  have kkp52 := blk_cell KP5.out 2
  have kkp53 := blk_cell KP5.out 3
  have kkp54 := blk_cell KP5.out 4
  have kkp55 := blk_cell KP5.out 5
  go_wp2_with fail
  refine (rnewQ w5 na nl s lo hi A kept c (by have := HS.out.len; unfold maxLen; omega) HS.out.na0 HS.out.na1 HS.out.lo0 HS.out.lo1 HS.out.hi0 HS.out.hi1 (Kd.C_below HS.out.C HB5.out) HS.out.W).mono ?_
  rintro e_ w6 ⟨vr, rfl, hr, b_w6⟩
  rw [← HE1.out] at hr ⊢
  have HR6 := Aside0.mk hr
  have HP6 := Aside0.mk (HP5.out.below b_w6)
  have HB6 := Aside0.mk (below_step HB5.out b_w6)
  have KP6 := Aside0.mk (blk_below KP5.out b_w6)
  have KQ6 := Aside0.mk (blk_below KQ5.out b_w6)
  have O6 := Aside0.mk (O5.out.below b_w6)
  have HZ6 : Aside0 (w5.heap.size ≤ w6.heap.size) := ⟨b_w6.size⟩
  have HD6 := Aside0.mk (duoN (HP5.out.below b_w6) hr (Nat.le_refl _) HZ5.out)
  clear hr b_w6 kkp50 kkp51 kkp52 kkp53 kkp54 kkp55 HP5 O5 KP5 KQ5
  have kkq60 := blk_cell KQ6.out 0
  have kkq61 := blk_cell KQ6.out 1
  have kkq62 := blk_cell KQ6.out 2
  have kkq63 := blk_cell KQ6.out 3
  have kkq64 := blk_cell KQ6.out 4
  have kkq65 := blk_cell KQ6.out 5
  go_wp2_with fail
  refine (madeQ w6 nb ml t lo2 hi2 A2 kept2 c2 (by have := HS2.out.len; unfold maxLen; omega) HS2.out.na0 HS2.out.na1 HS2.out.lo0 HS2.out.lo1 HS2.out.hi0 HS2.out.hi1 (Kd.C_below HS2.out.C HB6.out) HS2.out.W).mono ?_
  rintro e_ w7 ⟨vq, rfl, hq, b_w7⟩
  rw [← HE2.out] at hq ⊢
  have HQ7 := Aside0.mk hq
  have HP7 := Aside0.mk (HP6.out.below b_w7)
  have HR7 := Aside0.mk (HR6.out.below b_w7)
  have HB7 := Aside0.mk (below_step HB6.out b_w7)
  have KP7 := Aside0.mk (blk_below KP6.out b_w7)
  have KQ7 := Aside0.mk (blk_below KQ6.out b_w7)
  have O7 := Aside0.mk (O6.out.below b_w7)
  have HZ7 : Aside0 (w6.heap.size ≤ w7.heap.size) := ⟨b_w7.size⟩
  have HZ7b : Aside0 (Below w6.heap.size w6 w7) := ⟨b_w7⟩
  clear hq b_w7 kkq60 kkq61 kkq62 kkq63 kkq64 kkq65 HP6 HR6 O6 KP6 KQ6
  have kkq70 := blk_cell KQ7.out 0
  have kkq71 := blk_cell KQ7.out 1
  have kkq72 := blk_cell KQ7.out 2
  have kkq73 := blk_cell KQ7.out 3
  have kkq74 := blk_cell KQ7.out 4
  have kkq75 := blk_cell KQ7.out 5
  go_wp2_with fail
  refine (rnewQ w7 nb ml t lo2 hi2 A2 kept2 c2 (by have := HS2.out.len; unfold maxLen; omega) HS2.out.na0 HS2.out.na1 HS2.out.lo0 HS2.out.lo1 HS2.out.hi0 HS2.out.hi1 (Kd.C_below HS2.out.C HB7.out) HS2.out.W).mono ?_
  rintro e_ w8 ⟨vs, rfl, hs, b_w8⟩
  rw [← HE2.out] at hs ⊢
  have HS8 := Aside0.mk hs
  have HQ8 := Aside0.mk (HQ7.out.below b_w8)
  have HP8 := Aside0.mk (HP7.out.below b_w8)
  have HR8 := Aside0.mk (HR7.out.below b_w8)
  have HB8 := Aside0.mk (below_step HB7.out b_w8)
  have KP8 := Aside0.mk (blk_below KP7.out b_w8)
  have KQ8 := Aside0.mk (blk_below KQ7.out b_w8)
  have O8 := Aside0.mk (O7.out.below b_w8)
  have HZ8 : Aside0 (w7.heap.size ≤ w8.heap.size) := ⟨b_w8.size⟩
  have HZ8b : Aside0 (Below w6.heap.size w6 w8) := ⟨below_step HZ7b.out b_w8⟩
  clear hs b_w8 kkq70 kkq71 kkq72 kkq73 kkq74 kkq75 HP7 HR7 HQ7 O7 KP7 KQ7
  have HT8 : Aside0 (Tri w w4.heap.size (fun _ => False) vp vr vq vs (.pointer none) (.pointer none) w8) := ⟨by
    obtain ⟨G1, hd1, hg1⟩ := HD6.out
    obtain ⟨G2, hd2, hg2⟩ := duoN HQ8.out HS8.out (Nat.le_refl _) HZ7.out
    exact Tri.two hd1 (HZ8b.out) hd2 hg1 hg2 (Nat.le_trans HZ5.out HZ6.out) HB4.out.size HB8.out⟩
  clear HP8 HR8 HQ8 HS8 HD6 HZ7b HZ5 HZ6 HZ7 HZ8 HZ8b HE1 HE2
  go_upto_region 9 with fail
  go_cut [95] (fun v wx => v = .bool false ∧ w8 = wx)
  case first =>
    have hT := HT8.out.nils
    obtain ⟨n1, n2⟩ := hT
    rcases n1 with ⟨rfl, rfl⟩ | ⟨p, r, rfl, rfl⟩
    · rcases n2 with ⟨rfl, rfl⟩ | ⟨q, s2, rfl, rfl⟩
      · go_wp2_with fail
        go_meet
        exact ⟨by simp, rfl⟩
      · go_wp2_with fail
        go_meet
        exact ⟨by simp, rfl⟩
    · rcases n2 with ⟨rfl, rfl⟩ | ⟨q, s2, rfl, rfl⟩
      · go_wp2_with fail
        go_meet
        exact ⟨by simp, rfl⟩
      · go_wp2_with fail
        go_meet
        exact ⟨by simp, rfl⟩
  case rest =>
    obtain ⟨rfl, rfl⟩ := hcut
    have HOB : Aside0 (∀ k, (Value.slice A4 kept.length c4).ownBlock = some k → w.heap.size + 2 ≤ k ∧ k < w4.heap.size) := ⟨fun k hk => by
      have h1 := O4.out.lt k hk
      have h2 := blk_lt KQ3.out
      omega⟩
    go_wp2_with fail
    go_loopg [17] kept.length (fun gg v wr => ∃ i : Nat, v = .int .i64 (i : Int) ∧ i + gg = kept.length ∧ Aside0 (∃ xs, wr.ownsRow w3.heap.size 27 2 (.slice A4 kept.length c4) kept.length xs) ∧ Aside0 (Turn w8 wr (Value.slice A4 kept.length c4).ownBlock.toList))
    case atStart => exact ⟨0, rfl, by omega, ⟨_, O8.out⟩, ⟨Turn.refl _ _⟩⟩
    case round =>
      obtain ⟨i, rfl, hiN, HR, HT⟩ := hrel
      cases gk with
      | succ k =>
        have hin : i < kept.length := by omega
        have hii : (i : Int) < (kept.length : Int) := by omega
        obtain ⟨xs, hr⟩ := HR.out
        obtain ⟨g, cap, e, _, hgr⟩ := hr.form (by omega)
        injection e with e1 e2 e3
        subst e1 e3
        clear e2
        have hw1 : IntKind.i64.wrap ((i : Int) + 1) = ((i + 1 : Nat) : Int) := by rw [show (i : Int) + 1 = ((i + 1 : Nat) : Int) from by omega]; exact wrap64_id (by omega) (by have := HK.out; omega)
        have hf0 := hr.frozenAt (g := g) (i * 2)
        have hf1 := hr.frozenAt (g := g) (i * 2 + 1)
        have hs := ((hr.stored (i * 2) (.int .u32 1)).1.stored (i * 2 + 1) (.int .i64 77)).1
        have hll : xs.length = kept.length * 2 := hr.1
        obtain ⟨v0, hv0⟩ : ∃ v0, xs[i * 2]? = some v0 := ⟨_, List.getElem?_eq_getElem (by omega)⟩
        obtain ⟨v1, hv1⟩ : ∃ v1, xs[i * 2 + 1]? = some v1 := ⟨_, List.getElem?_eq_getElem (by omega)⟩
        have kc0 := hr.cells (g := g) rfl (i * 2) v0 hv0
        have kc1 := hr.cells (g := g) rfl (i * 2 + 1) v1 hv1
        rw [add_plain] at kc0 kc1
        have HSS := Aside0.mk hs
        clear hv0 hv1 hll hs hr
        go_wp2_with fail
        go_roundg k
        case measure => omega
        case rel => exact ⟨i + 1, rfl, by omega, ⟨_, HSS.out⟩, ⟨(HT.out.set (p := ⟨g, i * 2, none⟩) (Or.inl (by simp [Value.ownBlock])) _).set (p := ⟨g, i * 2 + 1, none⟩) (Or.inl (by simp [Value.ownBlock])) _⟩⟩
      | zero =>
        obtain rfl : i = kept.length := by omega
        have HB9 : Aside0 (Below w.heap.size w wr) := ⟨HB8.out.trans (HT.out.below HB8.out.size (fun k hk => by have := (HOB.out k (by simpa using hk)).1; omega))⟩
        have HT9 : Aside0 (Tri w w4.heap.size (fun _ => False) vp vr vq vs (.pointer none) (.pointer none) wr) := ⟨HT8.out.put HT.out (fun k hk => (HOB.out k (by simpa using hk)).2) HB9.out⟩
        have KP9 : Aside0 (wr.heap[w.heap.size]? = _) := ⟨(HT.out.block _ (blk_lt KP8.out) (fun hk => by have := (HOB.out _ (by simpa using hk)).1; omega)).trans KP8.out⟩
        have HSB : Aside0 (w.heap.size + 2 ≤ w4.heap.size) := ⟨by have := blk_lt KQ4.out; omega⟩
        clear HR HT HT8 HB8 KP8 KQ8 O8 HOB O4 KP4 KQ4 KP3 KQ3 HB7 HB6 HB5 HB4 HB3
        go_wp2_with fail
        go_loopg [7, 10, 12, 18, 19, 20] sc.length (fun gg v7 v10 v12 v18 v19 v20 w9 => ∃ (i : Nat) (e f : Int), v7 = .bool true ∧ v10 = .int .i64 e ∧ v12 = .int .i64 f ∧ v20 = .int .i64 (i : Int) ∧ i + gg = sc.length ∧ Aside0 (Tri w w4.heap.size (fun _ => False) vp vr vq vs v18 v19 w9) ∧ Aside0 (w9.heap[w.heap.size]? = some (.cells #[.int .u32 na, .int .i64 nl, .int .i64 s, .int .u32 lo, .int .u32 hi, .slice A kept.length c] 30 (0, 0))))
        case atStart => exact ⟨0, E1, E1, rfl, rfl, rfl, rfl, by omega, HT9, KP9⟩
        case round =>
          clear HT9 KP9 HB9
          obtain ⟨i, e, f, rfl, rfl, rfl, rfl, hiN, HT, KP⟩ := hrel
          cases gk with
          | zero =>
            have hii : ¬ (i : Int) < (sc.length : Int) := by omega
            go_wp2_with fail
            go_ret
            exact ⟨rfl, HT.out.bel⟩
          | succ gk =>
            have hlt : i < sc.length := by omega
            have hii : (i : Int) < (sc.length : Int) := by omega
            obtain ⟨ad, rfl, c0, c1, c2, c3⟩ := at49 (Kd.C_below HSC.out.1 HT.out.bel) i hlt
            have hmem : rd49 sc i ∈ sc := by
              unfold rd49
              rw [List.getD_eq_getElem?_getD, List.getElem?_eq_getElem hlt]; exact List.getElem_mem hlt
            have HU := Aside0.mk (HSC.out.2.2 _ hmem)
            have HIN := Aside0.mk hiN
            have hw1 : IntKind.i64.wrap ((i : Int) + 1) = ((i + 1 : Nat) : Int) := by rw [show (i : Int) + 1 = ((i + 1 : Nat) : Int) from by omega]; exact wrap64_id (by omega) (by have := HSC.out.2.1; omega)
            clear hmem hlt hiN
            generalize rd49 sc i = x at *
            obtain ⟨k, o, a, l⟩ := x
            simp only at c0 c1 c2 c3 HU
            have kb := heap_alloc_new wr (.cells #[.int .i64 k, .int .i64 o, .int .u32 a, .int .i64 l] 49)
            have hb10 := below_alloc (Below.refl wr.heap.size wr) (.cells #[.int .i64 k, .int .i64 o, .int .u32 a, .int .i64 l] 49)
            have HT10 := Aside0.mk (HT.out.new hb10 (by simp))
            have KP10 := Aside0.mk (blk_below KP.out hb10)
            have KO10 := Aside0.mk kb
            have HSZ : Aside0 (w4.heap.size ≤ wr.heap.size) := ⟨HT.out.hw⟩
            clear hb10 kb HT KP
            have k10 := blk_cell KO10.out 0
            have k11 := blk_cell KO10.out 1
            have k12 := blk_cell KO10.out 2
            have k13 := blk_cell KO10.out 3
            go_upto_region 21 with fail
            generalize wr.alloc (.cells #[.int .i64 k, .int .i64 o, .int .u32 a, .int .i64 l] 49) = w10 at *
            generalize wr.heap.size = bo at *
            go_cut [122] (fun v wx => ∃ b1 : Bool, v = .bool b1 ∧ Aside0 (b1 = true → vr ≠ .pointer none) ∧ w10 = wx)
            case first =>
              by_cases hob : o = 0
              · subst hob
                by_cases hn : vr = .pointer none
                · subst hn
                  go_wp2_with fail
                  go_meet
                  exact ⟨false, by first | rfl | simp, ⟨fun h => by cases h⟩, rfl⟩
                · obtain ⟨p_, r_, e1_, e2_, hc⟩ := HT10.out.plays hn k 0 a l HU.out.1 HU.out.2
                  subst e1_ e2_
                  clear hc
                  go_wp2_with fail
                  go_meet
                  exact ⟨true, by first | rfl | simp, ⟨fun _ => hn⟩, rfl⟩
              · have hob1 : (o == 0) = false := by simpa using hob
                clear hob
                go_wp2_with fail
                go_meet
                exact ⟨false, by first | rfl | simp, ⟨fun h => by cases h⟩, rfl⟩
            case rest =>
            obtain ⟨b1, rfl, hb1, rfl⟩ := hcut
            go_upto_if 122 with (fail)
            go_cut [7] (fun v wx => v = .bool true ∧ Aside0 (Tri w w4.heap.size (fun k => k = bo) vp vr vq vs u18 u19 wx) ∧ Aside0 (wx.heap[w.heap.size]? = some (.cells #[.int .u32 na, .int .i64 nl, .int .i64 s, .int .u32 lo, .int .u32 hi, .slice A kept.length c] 30 (0, 0))) ∧ Aside0 (wx.heap[bo]? = some (.cells #[.int .i64 k, .int .i64 o, .int .u32 a, .int .i64 l] 49 (0, 0))))
            case first =>
              cases b1 with
              | true =>
                have hn := hb1.out rfl
                obtain ⟨p_, r_, e1_, e2_, hc⟩ := (HT10.out).plays hn k o a l HU.out.1 HU.out.2
                subst e1_ e2_
                go_wp2_with fail
                refine hc.mono ?_
                rintro e_ w12 ⟨rfl, ht, hb, hx⟩
                have HT12 := Aside0.mk (ht)
                have KP12 := Aside0.mk (blk_low KP10.out hb (by have := HSB.out; omega))
                have KO12 := Aside0.mk ((hx _ rfl).trans KO10.out)
                clear ht hb hx
                go_wp2_with fail
                go_meet
                exact ⟨rfl, HT12, KP12, KO12⟩
              | false =>
                by_cases hob : o = 0
                · subst hob
                  go_wp2_with fail
                  go_meet
                  exact ⟨rfl, HT10, KP10, KO10⟩
                · have hob1 : (o == 0) = false := by simpa using hob
                  have hob2 : (o != 0) = true := by simpa using hob
                  clear hob
                  by_cases hn : vs = .pointer none
                  · subst hn
                    go_wp2_with fail
                    go_meet
                    exact ⟨rfl, HT10, KP10, KO10⟩
                  · skip
                    obtain ⟨p_, r_, e1_, e2_, hc⟩ := (HT10.out.rot).plays hn k o a l HU.out.1 HU.out.2
                    subst e1_ e2_
                    go_wp2_with fail
                    refine hc.mono ?_
                    rintro e_ w12 ⟨rfl, ht, hb, hx⟩
                    have HT12 := Aside0.mk (ht.rot.rot)
                    have KP12 := Aside0.mk (blk_low KP10.out hb (by have := HSB.out; omega))
                    have KO12 := Aside0.mk ((hx _ rfl).trans KO10.out)
                    clear ht hb hx
                    go_wp2_with fail
                    go_meet
                    exact ⟨rfl, HT12, KP12, KO12⟩
            case rest =>
              obtain ⟨rfl, HT, KP, KO⟩ := hcut
              rename World => we
              clear HT10 KP10 KO10 hb1 k10 k11 k12 k13 c0 c1 c2 c3
              have kkp0 := blk_cell KP.out 0
              have kkp1 := blk_cell KP.out 1
              have kkp2 := blk_cell KP.out 2
              have kkp3 := blk_cell KP.out 3
              have kkp4 := blk_cell KP.out 4
              have kkp5 := blk_cell KP.out 5
              go_wp2_with fail
              refine (madeQ we na nl s lo hi A kept c (by have := HS.out.len; unfold maxLen; omega) HS.out.na0 HS.out.na1 HS.out.lo0 HS.out.lo1 HS.out.hi0 HS.out.hi1 (Kd.C_below HS.out.C HT.out.bel) HS.out.W).mono ?_
              rintro e_ w13 ⟨vz, rfl, _, b13⟩
              have HT13 := Aside0.mk (HT.out.below b13)
              have KP13 := Aside0.mk (blk_below KP.out b13)
              have KO13 := Aside0.mk (blk_below KO.out b13)
              clear b13 HT KO KP kkp0 kkp1 kkp2 kkp3 kkp4 kkp5
              have hq1 : wrap64 ((sc.length : Int) / 2) = (sc.length : Int) / 2 := w64 (by omega) (by have := HSC.out.2.1; omega)
              go_upto_region 26 with fail
              obtain ⟨b2, hb2⟩ : ∃ b2 : Bool, b2 = ((i : Int) == (sc.length : Int) / 2) := ⟨_, rfl⟩
              go_cut [144] (fun v wx => v = .bool b2 ∧ w13 = wx)
              case first =>
                go_wp2_with fail
                go_meet
                exact ⟨by rw [hb2], rfl⟩
              case rest =>
              obtain ⟨rfl, rfl⟩ := hcut
              clear hb2 hq1
              go_upto_if 144 with (fail)
              go_cut [7, 10, 12, 18, 19] (fun v7 v10 v12 v18 v19 wx => ∃ e f : Int, v7 = .bool true ∧ v10 = .int .i64 e ∧ v12 = .int .i64 f ∧ Aside0 (Tri w w4.heap.size (fun k => k = bo) vp vr vq vs v18 v19 wx) ∧ Aside0 (wx.heap[w.heap.size]? = some (.cells #[.int .u32 na, .int .i64 nl, .int .i64 s, .int .u32 lo, .int .u32 hi, .slice A kept.length c] 30 (0, 0))) ∧ Aside0 (wx.heap[bo]? = some (.cells #[.int .i64 k, .int .i64 o, .int .u32 a, .int .i64 l] 49 (0, 0))))
              case first =>
                cases b2 with
                | false =>
                  go_wp2_with fail
                  go_meet
                  exact ⟨e, f, rfl, rfl, rfl, HT13, KP13, KO13⟩
                | true =>
                  have kkp130 := blk_cell KP13.out 0
                  have kkp131 := blk_cell KP13.out 1
                  have kkp132 := blk_cell KP13.out 2
                  have kkp133 := blk_cell KP13.out 3
                  have kkp134 := blk_cell KP13.out 4
                  have kkp135 := blk_cell KP13.out 5
                  go_wp2_with fail
                  refine (madeQ w13 na nl s lo hi A kept c (by have := HS.out.len; unfold maxLen; omega) HS.out.na0 HS.out.na1 HS.out.lo0 HS.out.lo1 HS.out.hi0 HS.out.hi1 (Kd.C_below HS.out.C HT13.out.bel) HS.out.W).mono ?_
                  rintro e_ w14 ⟨vx, rfl, hp, b14⟩
                  obtain ⟨E3, hE3⟩ : ∃ E, E = newE na nl s lo hi kept := ⟨_, rfl⟩
                  rw [← hE3] at hp ⊢
                  have HE3 := Aside0.mk hE3
                  have HPN := Aside0.mk hp
                  have HT14 := Aside0.mk (HT13.out.below b14)
                  have KP14 := Aside0.mk (blk_below KP13.out b14)
                  have B14 := Aside0.mk b14
                  clear hE3 hp b14 kkp130 kkp131 kkp132 kkp133 kkp134 kkp135
                  have kkp140 := blk_cell KP14.out 0
                  have kkp141 := blk_cell KP14.out 1
                  have kkp142 := blk_cell KP14.out 2
                  have kkp143 := blk_cell KP14.out 3
                  have kkp144 := blk_cell KP14.out 4
                  have kkp145 := blk_cell KP14.out 5
                  go_wp2_with fail
                  refine (rnewQ w14 na nl s lo hi A kept c (by have := HS.out.len; unfold maxLen; omega) HS.out.na0 HS.out.na1 HS.out.lo0 HS.out.lo1 HS.out.hi0 HS.out.hi1 (Kd.C_below HS.out.C HT14.out.bel) HS.out.W).mono ?_
                  rintro e_ w15 ⟨vy, rfl, hr, b15⟩
                  rw [← HE3.out] at hr ⊢
                  obtain ⟨G, hd, hg⟩ := duoN (HPN.out.below b15) hr (Nat.le_refl _) B14.out.size
                  have HT15 := Aside0.mk (HT13.out.third (below_step B14.out b15) hd hg)
                  have KP15 := Aside0.mk (blk_below KP14.out b15)
                  have KO15 := Aside0.mk (blk_below KO13.out (below_step B14.out b15))
                  have hnn := HT15.out.rot.rot.nils.1
                  clear hd hg hr b15 HPN HT14 HT13 KP13 KO13 KP14 B14 kkp140 kkp141 kkp142 kkp143 kkp144 kkp145
                  rcases hnn with ⟨rfl, rfl⟩ | ⟨p_, r_, rfl, rfl⟩
                  · go_wp2_with fail
                    go_meet
                    exact ⟨E3, E3, by first | rfl | simp, rfl, rfl, HT15, KP15, KO15⟩
                  · go_wp2_with fail
                    go_meet
                    exact ⟨E3, E3, by first | rfl | simp, rfl, rfl, HT15, KP15, KO15⟩
              case rest =>
              obtain ⟨e2, f2, rfl, rfl, rfl, HT, KP, KO⟩ := hcut
              rename World => wf
              clear HT13 KP13 KO13
              have k10 := blk_cell KO.out 0
              have k11 := blk_cell KO.out 1
              have k12 := blk_cell KO.out 2
              have k13 := blk_cell KO.out 3
              by_cases hn : u19 = .pointer none
              · subst hn
                go_wp2_with fail
                go_roundg gk
                case measure => omega
                case rel => exact ⟨i + 1, e2, f2, by first | rfl | simp, rfl, rfl, rfl, by have := HIN.out; omega, ⟨HT.out.forget⟩, KP⟩
              · skip
                obtain ⟨p_, r_, e1_, e2_, hc⟩ := (HT.out.rot.rot).plays hn k o a l HU.out.1 HU.out.2
                subst e1_ e2_
                go_wp2_with fail
                refine hc.mono ?_
                rintro e_ w12 ⟨rfl, ht, hb, hx⟩
                have HT12 := Aside0.mk (ht.rot)
                have KP12 := Aside0.mk (blk_low KP.out hb (by have := HSB.out; omega))
                have KO12 := Aside0.mk ((hx _ rfl).trans KO.out)
                clear ht hb hx
                go_wp2_with fail
                go_roundg gk
                case measure => omega
                case rel => exact ⟨i + 1, e2, f2, by first | rfl | simp, rfl, rfl, rfl, by have := HIN.out; omega, ⟨HT12.out.forget⟩, KP12⟩
/-- a Spec that comes in, its list no longer than any that may come in -/
structure SpT (w : World) (x : S30) (A : Option Addr) (c : Nat) : Prop where
  sp : SpIn w x.f0.f0 x.f0.f1 x.f1 x.f2 x.f3 A x.f4 c
  len : x.f4.length ≤ 8796093021952
theorem SpT.of {w : World} {x : S30} {A : Option Addr} {c : Nat} (h : W30 x) (hl : x.f4.length ≤ c) (hC : k27.C w A x.f4.length x.f4) : SpT w x A c := ⟨SpIn.of h hl hC, by have := h.2.2.2.2.2.1; omega⟩
/-- a script that comes in -/
structure OpI (w : World) (A : Option Addr) (l : List S49) (c : Nat) : Prop where
  len : l.length ≤ 140737488355328
  cap : l.length ≤ c
  C : Kd.C k49 w A l.length l
  W : ∀ x, x ∈ l → 0 ≤ x.f2.f0 ∧ x.f2.f0 < 4294967296
theorem OpI.of {w : World} {l : List S49} {A : Option Addr} {c : Nat} (h : RowOf W49 32 l) (hl : l.length ≤ c) (hC : k49.C w A l.length l) : OpI w A l c :=
  ⟨by have := h.2.1; omega, hl, hC, fun x hx => wf32_inv (h.2.2 x hx).2.2.1⟩
theorem plays_all {w : World} {x y : S30} {A : Option Addr} {c : Nat} {A2 : Option Addr} {c2 : Nat} {A3 : Option Addr} {sc : List S49} {c3 : Nat} (hS : SpT w x A c) (hS2 : SpT w y A2 c2) (hO : OpI w A3 sc c3) :
    Calls Try.prog 5 #[.agg #[.int .u32 x.f0.f0, .int .i64 x.f0.f1, .int .i64 x.f1, .int .u32 x.f2, .int .u32 x.f3, .slice A x.f4.length c], .agg #[.int .u32 y.f0.f0, .int .i64 y.f0.f1, .int .i64 y.f1, .int .u32 y.f2, .int .u32 y.f3, .slice A2 y.f4.length c2], .slice A3 sc.length c3] w fun e w' => e = .returned (.bool true) ∧ Below w.heap.size w w' :=
  plays_law w _ _ _ _ _ _ _ _ _ _ _ _ _ _ _ _ _ _ _ hS.sp hS2.sp hS.len hO.C hO.len (fun x hx => hO.W x hx)
end Go.Proofs.Ytebnlhjakiipjaa.Pl
