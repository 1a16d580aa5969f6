/- marked walked. Conditions: the list is the caller's own, the numbers are small. -/
import Derived.Test.YtebnlhjakiipjaaPmD
set_option linter.unusedVariables false
set_option linter.unusedSimpArgs false
namespace Go.Proofs.Ytebnlhjakiipjaa.Pl
open Go.RowKit Go.Maps Go.Proofs.YtebnlhjakiipjaaW.PrintWords Go.Proofs.YtebnlhjakiipjaaW.PrintMore Go.Proofs.YtebnlhjakiipjaaW.PrintLast Go.Proofs.Ytebnlhjakiipjaa.PPlf
/-- the list, what goes on behind it, and what these must be -/
structure Mkd (w0 w : World) (l g h vj wa lo lt vm : Value) (x0 x1 x2 js : List S27) : Prop where
  pl : Pfx w l x0 vj js
  pg : Pfx w g x1 vj js
  ph : Pfx w h x2 vj js
  rj : Row w 0 vj js
  rm : Row w 0 vm js
  r0 : Row w 0 wa x0
  r1 : Row w 0 lo x1
  r2 : Row w 0 lt x2
  a0 : Ap wa vj ∧ Ap wa vm
  a1 : Ap lo vj ∧ Ap lo vm
  a2 : Ap lt vj ∧ Ap lt vm
  am : Ap l vm ∧ Ap g vm ∧ Ap h vm ∧ Ap vj vm
  nj : NB l vj w0
  nm : NB l vm w0
  ns : NB l g w0 ∧ NB l h w0 ∧ NB l wa w0 ∧ NB l lo w0 ∧ NB l lt w0
  sz : w0.heap.size ≤ w.heap.size
  tn : Turn w0 w l.ownBlock.toList
theorem Mkd.step {w0 w w1 w2 : World} {l g h vj wa lo lt vm vj' vm' : Value} {x0 x1 x2 js ys : List S27} (hm : Mkd w0 w l g h vj wa lo lt vm x0 x1 x2 js) (h1 : App w w1 vj js vj' ys) (h2 : App w1 w2 vm js vm' ys) : Mkd w0 w2 l g h vj' wa lo lt vm' x0 x1 x2 (js ++ ys) := by
  have s1 := h1.tn.size
  have s2 := h2.tn.size
  have q0 := hm.r0.ap h1.tn hm.a0.1
  have q1 := hm.r1.ap h1.tn hm.a1.1
  have q2 := hm.r2.ap h1.tn hm.a2.1
  have qm := hm.rm.ap h1.tn hm.am.2.2.2.symm
  have p0 := h1.px l x0 hm.pl
  have p1 := h1.px g x1 hm.pg
  have p2 := h1.px h x2 hm.ph
  have ajm : Ap vj' vm := (hm.am.2.2.2.symm.nb hm.rm h1.nb).symm
  have trn : ∀ {u : Value} {xu : List S27}, Pfx w1 u xu vj' (js ++ ys) → Ap u vm → Pfx w2 u xu vj' (js ++ ys) := fun hp ha => hp.turn h2.tn (fun k hk hmm => ha k hk (by simpa using hmm))
  refine ⟨trn p0 hm.am.1, trn p1 hm.am.2.1, trn p2 hm.am.2.2.1, h1.row.ap h2.tn ajm, h2.row, q0.ap h2.tn hm.a0.2, q1.ap h2.tn hm.a1.2, q2.ap h2.tn hm.a2.2, ⟨hm.a0.1.nb hm.r0 h1.nb, hm.a0.2.nb q0 h2.nb⟩, ⟨hm.a1.1.nb hm.r1 h1.nb, hm.a1.2.nb q1 h2.nb⟩, ⟨hm.a2.1.nb hm.r2 h1.nb, hm.a2.2.nb q2 h2.nb⟩, ⟨hm.am.1.nb p0.row h2.nb, hm.am.2.1.nb p1.row h2.nb, hm.am.2.2.1.nb p2.row h2.nb, ajm.nb h1.row h2.nb⟩, hm.nj.trans h1.nb hm.sz, hm.nm.trans h2.nb (Nat.le_trans hm.sz s1), hm.ns, Nat.le_trans hm.sz (Nat.le_trans s1 s2), (hm.tn.nb h1.tn hm.nj).nb h2.tn hm.nm⟩
def flatB : List (Value × Value × List S27) → List Value
  | [] => []
  | p :: r => p.1 :: p.2.1 :: flatB r
/-- what marked leaves -/
def MkdPost (w0 : World) (l : Value) (N : Nat) (e : Ending) (w' : World) : Prop :=
  ∃ (b : Nat) (P : List (Value × Value × List S27)), e = .returned (.slice (some ⟨b, 0, none⟩) 4 4) ∧ P.length = 4 ∧ (∀ j u, (flatB P)[j]? = some u → w'.cell? ((⟨b, 0, none⟩ : Addr).add j) = some u) ∧ (∀ p, p ∈ P → Row w' 0 p.1 p.2.2 ∧ Row w' 0 p.2.1 p.2.2 ∧ p.2.2.length ≤ N ∧ NB l p.1 w0 ∧ NB l p.2.1 w0) ∧ Turn w0 w' l.ownBlock.toList
set_option maxHeartbeats 16000000 in
set_option maxRecDepth 100000 in
theorem marked25 (w : World) (A : Option Addr) (xs : List S27) (c : Nat) (i : Int) (h : Row w 0 (.slice A xs.length c) xs) (hn : xs.length ≤ 4294967296) (hi0 : 0 ≤ i) (hi1 : i ≤ 140737488355328) :
    Calls Try.prog 25 #[.slice A xs.length c, .int .i64 i] w fun e w' => MkdPost w (.slice A xs.length c) (xs.length + 70003) e w' := by
  have H0 := Aside0.mk h
  obtain ⟨n, hnn⟩ : ∃ n, n = xs.length := ⟨_, rfl⟩
  have HN : Aside0 (n ≤ 4294967296) := ⟨by rw [hnn]; exact hn⟩
  have HI := Aside0.mk (And.intro hi0 hi1)
  have HR0 : Aside0 (Row w 0 (.slice A n c) xs) := ⟨by rw [hnn]; exact h⟩
  have hwi : ∀ m : Int, 0 ≤ m → m ≤ 4000 → IntKind.i64.wrap (m + i) = m + i := fun m h1 h2 => wrap64_id (by omega) (by omega)
  have hw100 := hwi 100 (by omega) (by omega)
  have hw1000 := hwi 1000 (by omega) (by omega)
  have hw2000 := hwi 2000 (by omega) (by omega)
  have hw3000 := hwi 3000 (by omega) (by omega)
  have hw4000 := hwi 4000 (by omega) (by omega)
  have hx : xs.length = n := hnn.symm
  rw [← hnn]
  have HX := Aside0.mk hx
  clear h hn hi0 hi1 hwi hnn hx H0
  go_enter Try.func25, Try.ntmps25
  go_upto_block 0 with (fail)
  go_cut [5] (fun v5 wx => ∃ zs : List S27, zs.length = n ∧ Aside0 (Row wx 0 (.slice A n c) zs) ∧ Aside0 (Row wx w.heap.size v5 zs) ∧ Aside0 (Turn w wx (Value.slice A n c).ownBlock.toList))
  case first =>
    go_wp2_with fail
    go_loopg [5, 6] n (fun gg v5 v6 wr => ∃ (k : Nat) (zs : List S27), v6 = .int .i64 (k : Int) ∧ k + gg = n ∧ zs.length = n ∧ Aside0 (Row wr 0 (.slice A n c) zs) ∧ Aside0 (Row wr w.heap.size v5 (zs.take k)) ∧ Aside0 (Turn w wr (Value.slice A n c).ownBlock.toList))
    case atStart => exact ⟨0, xs, rfl, by omega, HX.out, HR0, ⟨Row.nil _ _⟩, ⟨Turn.refl _ _⟩⟩
    case round =>
      obtain ⟨k, zs, rfl, hk, hz, HL, HW, HT⟩ := hrel
      cases gk with
      | zero =>
        obtain rfl : k = n := by omega
        have hkk : ¬ (k : Int) < (k : Int) := by omega
        go_wp2_with fail
        go_meet
        exact ⟨zs, hz, HL, ⟨by have := HW.out; rw [List.take_of_length_le (by omega)] at this; exact this⟩, HT⟩
      | succ gk =>
        have hkk : (k : Int) < (n : Int) := by omega
        have hku : IntKind.u32.wrap (k : Int) = (k : Int) := u32_id (by omega) (by have := HN.out; omega)
        have hw1 : IntKind.i64.wrap ((k : Int) + 1) = ((k + 1 : Nat) : Int) := by rw [show (k : Int) + 1 = ((k + 1 : Nat) : Int) from by omega]; exact wrap64_id (by omega) (by have := HN.out; omega)
        have hkz : k < zs.length := by omega
        obtain ⟨g, c2, e, q0, q1⟩ := HL.out.at_ hkz
        injection e with e1 e2 e3
        subst e1 e3
        clear e2
        obtain ⟨m, hm⟩ : ∃ m : S27, m = ⟨(k : Int), 100 + i⟩ := ⟨_, rfl⟩
        have hr : Row wr 0 (.slice (some ⟨g, 0, none⟩) zs.length c) zs := by rw [hz]; exact HL.out
        have hr2 := hr.set1 k m
        have hown : wr.ownsRow 0 27 2 (.slice (some ⟨g, 0, none⟩) zs.length c) zs.length (pfC zs) := hr
        have hf0 := hown.frozenAt (g := g) (k * 2)
        have hf1 := hown.frozenAt (g := g) (k * 2 + 1)
        obtain ⟨w2, hw2⟩ : ∃ w2, w2 = (wr.setCell ⟨g, k * 2, none⟩ (.int .u32 (k : Int))).setCell ⟨g, k * 2 + 1, none⟩ (.int .i64 (100 + i)) := ⟨_, rfl⟩
        have hr3 : Row w2 0 (.slice (some ⟨g, 0, none⟩) n c) (zs.set k m) := by
          rw [hw2]
          have := hr2
          rw [hz, hm] at this
          rw [hm]
          exact this
        have ht2 : Turn wr w2 [g] := by rw [hw2]; exact ((Turn.refl wr [g]).set (p := ⟨g, k * 2, none⟩) (Or.inl (by simp)) _).set (p := ⟨g, k * 2 + 1, none⟩) (Or.inl (by simp)) _
        have hg0 : g < w.heap.size := (Row.lt HR0.out g rfl).2
        have hw3 : Row w2 w.heap.size u5 (zs.take k) := HW.out.turn ht2 (fun b hb hm2 => by
          have := (Row.lt HW.out b hb).1
          simp at hm2
          omega)
        have HT2 : Aside0 (Turn w w2 (Value.slice (some ⟨g, 0, none⟩) n c).ownBlock.toList) := ⟨HT.out.trans ht2 (fun b hb => .inl (by simpa [Value.ownBlock] using hb))⟩
        obtain ⟨_, _, e4, p0, p1⟩ := hr3.at_ (i := k) (by rw [List.length_set]; omega)
        injection e4 with e4 eN eC
        clear eN eC
        injection e4 with e4
        injection e4 with e4
        subst e4
        rw [List.getElem_set_self, hm] at p0 p1
        simp only at p0 p1
        obtain ⟨A5, c5, e5, _⟩ := hw3.C
        have htl : (zs.take k).length = k := by rw [List.length_take]; omega
        rw [htl] at e5
        subst e5
        obtain ⟨v7, w7, r7, a7⟩ := row_app hw3.low [m] (by simp) (by rw [htl]; have := HN.out; simp; omega) #[.int .u32 m.f0, .int .i64 m.f1] rfl
        have R7 : Aside0 ((Builtin.append_ #[28, 28] 28 #[.slice A5 k c5, .slice (some ⟨w2.heap.size, 0, none⟩) 1 1]).run Try.prog (w2.alloc (.cells #[.int .u32 (k : Int), .int .i64 (100 + i)] 27)) = .ok v7 w7) := ⟨by rw [hm] at r7; exact r7⟩
        have hwb := HW.out
        have HL7 : Aside0 (Row w7 0 (.slice (some ⟨g, 0, none⟩) n c) (zs.set k m)) := ⟨hr3.ap a7.tn (fun b hb hb2 => by
          have hb : some g = some b := hb
          injection hb with hb
          have := (Row.lt hw3 b hb2).1
          omega)⟩
        have HW7 : Aside0 (Row w7 w.heap.size v7 ((zs.set k m).take (k + 1))) := ⟨by
          have e6 : (zs.set k m).take (k + 1) = zs.take k ++ [m] := by
            rw [List.take_add_one, List.take_set_of_le (by omega), List.getElem?_eq_getElem (by rw [List.length_set]; omega), List.getElem_set_self]
            rfl
          rw [e6]
          refine own_raise a7.row (fun b hb => ?_)
          rcases a7.nb b hb with h1 | h1
          · exact (Row.lt hw3 b h1).1
          · have := HT2.out.size; omega⟩
        have HT7 : Aside0 (Turn w w7 (Value.slice (some ⟨g, 0, none⟩) n c).ownBlock.toList) := ⟨HT2.out.trans a7.tn (fun b hb => .inr (Row.lt hw3 b (by simpa using hb)).1)⟩
        have HZ7 : Aside0 ((zs.set k m).length = n) := ⟨by rw [List.length_set]; exact hz⟩
        have hw2' := hw2.symm
        clear hw2 hr hr2 hown hr3 ht2 hg0 hw3 r7 a7 htl hm hwb HL HW HT HT2
        go_wp2_with ((with_reducible refine gate_builtin (b := .append) (xs := #[.tmp 28, .tmp 33]) rfl ?_); at_builtin; refine wpList_append_run rfl (.tmp 28) (.tmp 33) 28 rfl rfl rfl R7.out ?_)
        go_roundg gk
        case measure => omega
        case rel => exact ⟨k + 1, _, rfl, by omega, HZ7.out, HL7, HW7, HT7⟩
  case rest =>
    obtain ⟨zs, hz, HL, HW, HT⟩ := hcut
    obtain ⟨A5, c5, e5, _⟩ := HW.out.C
    rw [hz] at e5
    subst e5
    have hl0 : ∀ b, (Value.slice A n c).ownBlock = some b → b < w.heap.size := fun b hb => (Row.lt HR0.out b hb).2
    have hwl : Ap (.slice A5 n c5) (.slice A n c) := fun b hb hb2 => by
      have := (Row.lt HW.out b hb).1
      have := hl0 b hb2
      omega
    have hs1 := HT.out.size
    obtain ⟨m1, hm1⟩ : ∃ m : S27, m = ⟨1, 1000 + i⟩ := ⟨_, rfl⟩
    obtain ⟨m2, hm2⟩ : ∃ m : S27, m = ⟨2, 2000 + i⟩ := ⟨_, rfl⟩
    obtain ⟨m3, hm3⟩ : ∃ m : S27, m = ⟨3, 3000 + i⟩ := ⟨_, rfl⟩
    have hNN := HN.out
    obtain ⟨vg, w2, r2, a2⟩ := row_app HL.out [m1] (by simp) (by rw [hz]; simp; omega) #[.int .u32 m1.f0, .int .i64 m1.f1] rfl
    have hx1 : (zs ++ [m1]).length = n + 1 := by rw [List.length_append, hz]; rfl
    have hx2 : (zs ++ [m1] ++ [m2, m3]).length = n + 3 := by rw [List.length_append, hx1]; rfl
    have hwa2 : Row w2 0 (.slice A5 n c5) zs := HW.out.low.ap a2.tn hwl
    have hs2 := a2.tn.size
    obtain ⟨Aw, cw, ew, _, hCw⟩ := hwa2.C
    rw [hz] at ew
    injection ew with ew eN ew2
    subst ew ew2
    clear eN
    obtain ⟨v3, w3, vlo, w4, r3, r4, lo4, b4, f4⟩ := row_copy_app (c := c5) hCw [m1] (by simp) (by rw [hz]; simp; omega) #[.int .u32 m1.f0, .int .i64 m1.f1] rfl
    have hb4 := b4.size
    have hp2 := a2.px _ _ (Pfx.refl HL.out)
    have hp4 : Pfx w4 (.slice A n c) zs vg (zs ++ [m1]) := hp2.below b4
    have hg4 : Row w4 0 vg (zs ++ [m1]) := a2.row.below b4
    have hwa4 := hwa2.below b4
    have hgn : NB (.slice A n c) vg w := fun k hk => by
      rcases a2.nb k hk with h1 | h1
      · exact .inl h1
      · exact .inr (by omega)
    have htn2 : Turn w w2 (Value.slice A n c).ownBlock.toList := HT.out.trans a2.tn (fun b hb => .inl hb)
    have htn4 : Turn w w4 (Value.slice A n c).ownBlock.toList := htn2.trans (Turn.of_below b4 []) (fun b hb => by cases hb)
    obtain ⟨vh, w5, r5, a5⟩ := row_app hg4 [m2, m3] (by simp) (by rw [hx1]; simp; omega) #[.int .u32 m2.f0, .int .i64 m2.f1, .int .u32 m3.f0, .int .i64 m3.f1] rfl
    have hs5 := a5.tn.size
    have hlog : Ap vlo vg := (Ap.new a2.row f4).symm
    have hwag : Ap (.slice A5 n c5) vg := hwl.nb HW.out.low a2.nb
    have hlo5 : Row w5 0 vlo (zs ++ [m1]) := lo4.ap a5.tn hlog
    have hwa5 := hwa4.ap a5.tn hwag
    have hp5l := a5.px _ _ hp4
    have hp5g := a5.px _ _ (Pfx.refl hg4)
    have hhn : NB (.slice A n c) vh w := fun k hk => by
      rcases a5.nb k hk with h1 | h1
      · exact hgn k h1
      · exact .inr (by omega)
    have htn5 : Turn w w5 (Value.slice A n c).ownBlock.toList := htn4.nb a5.tn hgn
    obtain ⟨Al, cl, el, hcl, hCl⟩ := hlo5.C
    rw [hx1] at el
    subst el
    obtain ⟨v6, w6, vlt, w7, r6, r7, lt7, b7, f7⟩ := row_copy_app (c := cl) hCl [m2, m3] (by simp) (by rw [hx1]; simp; omega) #[.int .u32 m2.f0, .int .i64 m2.f1, .int .u32 m3.f0, .int .i64 m3.f1] rfl
    rw [hx1] at r6
    have hs7 := b7.size
    obtain ⟨At, ct, et, hct, hCt⟩ := lt7.C
    rw [hx2] at et
    subst et
    obtain ⟨vm, w8, r8, o8, b8⟩ := row_copy (c := ct) hCt (by rw [hx2]; omega)
    rw [hx2] at r8
    have hs8 := b8.size
    have h58 : Below w5.heap.size w5 w8 := b7.trans (Below.mono b8 hs7)
    have hvm : ∀ k, vm.ownBlock = some k → w7.heap.size ≤ k := fun k hk => (Row.lt o8 k hk).1
    have hvm5 : ∀ k, vm.ownBlock = some k → w5.heap.size ≤ k := fun k hk => by have := hvm k hk; omega
    have hMK : Mkd w w8 (.slice A n c) vg vh vh (.slice A5 n c5) (.slice Al (n + 1) cl) (.slice At (n + 3) ct) vm zs (zs ++ [m1]) (zs ++ [m1] ++ [m2, m3]) (zs ++ [m1] ++ [m2, m3]) := by
      refine ⟨hp5l.below h58, hp5g.below h58, (Pfx.refl a5.row).below h58, a5.row.below h58, o8.low, hwa5.below h58, hlo5.below h58, lt7.below b8, ⟨hwag.nb hwa4 a5.nb, Ap.new hwa5 hvm5⟩, ⟨hlog.nb lo4 a5.nb, Ap.new hlo5 hvm5⟩, ⟨(Ap.new a5.row f7).symm, Ap.new lt7 hvm⟩, ⟨Ap.new hp5l.row hvm5, Ap.new hp5g.row hvm5, Ap.new a5.row hvm5, Ap.new a5.row hvm5⟩, hhn, fun k hk => .inr (by have := hvm k hk; omega), ⟨hgn, hhn, fun k hk => .inr (Row.lt HW.out k hk).1, fun k hk => .inr (by have := f4 k hk; omega), fun k hk => .inr (by have := f7 k hk; omega)⟩, by omega, htn5.trans (Turn.of_below h58 []) (fun b hb => by cases hb)⟩
    have HMK := Aside0.mk hMK
    rw [hm1] at r2 r4
    rw [hm2, hm3] at r5 r7
    rw [hz] at r3
    have R2 : Aside0 ((Builtin.append_ #[28, 28] 28 #[.slice A n c, .slice (some ⟨_, 0, none⟩) 1 1]).run Try.prog (World.alloc _ (.cells #[.int .u32 1, .int .i64 (1000 + i)] 27)) = .ok vg w2) := ⟨r2⟩
    have R3 : Aside0 ((Builtin.append_ #[28, 28] 28 #[.slice none 0 0, .slice A5 n c5]).run Try.prog w2 = .ok v3 w3) := ⟨r3⟩
    have R4 : Aside0 ((Builtin.append_ #[28, 28] 28 #[v3, .slice (some ⟨w3.heap.size, 0, none⟩) 1 1]).run Try.prog (w3.alloc (.cells #[.int .u32 1, .int .i64 (1000 + i)] 27)) = .ok (.slice Al (n + 1) cl) w4) := ⟨r4⟩
    have R5 : Aside0 ((Builtin.append_ #[28, 28] 28 #[vg, .slice (some ⟨w4.heap.size, 0, none⟩) 2 2]).run Try.prog (w4.alloc (.cells #[.int .u32 2, .int .i64 (2000 + i), .int .u32 3, .int .i64 (3000 + i)] 27)) = .ok vh w5) := ⟨r5⟩
    have R6 : Aside0 ((Builtin.append_ #[28, 28] 28 #[.slice none 0 0, .slice Al (n + 1) cl]).run Try.prog w5 = .ok v6 w6) := ⟨r6⟩
    have R7 : Aside0 ((Builtin.append_ #[28, 28] 28 #[v6, .slice (some ⟨w6.heap.size, 0, none⟩) 2 2]).run Try.prog (w6.alloc (.cells #[.int .u32 2, .int .i64 (2000 + i), .int .u32 3, .int .i64 (3000 + i)] 27)) = .ok (.slice At (n + 3) ct) w7) := ⟨r7⟩
    have R8 : Aside0 ((Builtin.append_ #[28, 28] 28 #[.slice none 0 0, .slice At (n + 3) ct]).run Try.prog w7 = .ok vm w8) := ⟨r8⟩
    have HX2 := Aside0.mk hx2
    clear r2 r3 r4 r5 r6 r7 r8 hMK hm1 hm2 hm3 hx1 hx2 hNN hl0 hwl hs1 a2 hwa2 hs2 hCw lo4 b4 f4 hb4 hp2 hp4 hg4 hwa4 hgn htn2 htn4 a5 hs5 hlog hwag hlo5 hwa5 hp5l hp5g hhn htn5 hcl hCl lt7 b7 f7 hs7 hct hCt o8 b8 hs8 h58 hvm hvm5 hz HL HW HT
    go_upto_block 2 with (first | ((with_reducible refine gate_builtin (b := .append) (xs := #[.tmp 35, .tmp 39]) rfl ?_); at_builtin; refine wpList_append_run rfl (.tmp 35) (.tmp 39) 28 rfl rfl rfl R2.out ?_) | ((with_reducible refine gate_builtin (b := .append) (xs := #[.const (.slice none 0 0), .tmp 41]) rfl ?_); at_builtin; refine wpList_append_run rfl (.const (.slice none 0 0)) (.tmp 41) 28 rfl rfl rfl R3.out ?_) | ((with_reducible refine gate_builtin (b := .append) (xs := #[.tmp 42, .tmp 46]) rfl ?_); at_builtin; refine wpList_append_run rfl (.tmp 42) (.tmp 46) 28 rfl rfl rfl R4.out ?_) | ((with_reducible refine gate_builtin (b := .append) (xs := #[.tmp 48, .tmp 55]) rfl ?_); at_builtin; refine wpList_append_run rfl (.tmp 48) (.tmp 55) 28 rfl rfl rfl R5.out ?_) | ((with_reducible refine gate_builtin (b := .append) (xs := #[.const (.slice none 0 0), .tmp 57]) rfl ?_); at_builtin; refine wpList_append_run rfl (.const (.slice none 0 0)) (.tmp 57) 28 rfl rfl rfl R6.out ?_) | ((with_reducible refine gate_builtin (b := .append) (xs := #[.tmp 58, .tmp 65]) rfl ?_); at_builtin; refine wpList_append_run rfl (.tmp 58) (.tmp 65) 28 rfl rfl rfl R7.out ?_) | ((with_reducible refine gate_builtin (b := .append) (xs := #[.const (.slice none 0 0), .tmp 68]) rfl ?_); at_builtin; refine wpList_append_run rfl (.const (.slice none 0 0)) (.tmp 68) 28 rfl rfl rfl R8.out ?_))
    go_cut [11, 12] (fun v11 v12 wx => ∃ js : List S27, js.length ≤ n + 70003 ∧ Aside0 (Mkd w wx (.slice A n c) vg vh v11 (.slice A5 n c5) (.slice Al (n + 1) cl) (.slice At (n + 3) ct) v12 zs (zs ++ [m1]) (zs ++ [m1] ++ [m2, m3]) js))
    case first =>
      generalize hX1 : zs ++ [m1] = X1 at *
      generalize hX2 : X1 ++ [m2, m3] = X2 at *
      clear hX1 hX2
      go_wp2_with fail
      go_loopg [11, 12, 13] 70000 (fun gg v11 v12 v13 wx => ∃ (k : Nat) (js : List S27), v13 = .int .i64 (k : Int) ∧ k + gg = 70000 ∧ js.length ≤ n + 3 + k ∧ Aside0 (Mkd w wx (.slice A n c) vg vh v11 (.slice A5 n c5) (.slice Al (n + 1) cl) (.slice At (n + 3) ct) v12 zs X1 X2 js))
      case atStart => exact ⟨0, X2, rfl, by omega, by rw [HX2.out]; exact Nat.le_refl _, HMK⟩
      case round =>
        clear HMK
        obtain ⟨k, js, rfl, hk, hjl, HMK⟩ := hrel
        have hbd : k ≤ 70000 := by omega
        obtain ⟨Aj, cj, ej, _⟩ := HMK.out.rj.C
        subst ej
        by_cases hjc : js.length < c
        · have hji : (js.length : Int) < (c : Int) := by omega
          have hjb : decide ((js.length : Int) < (c : Int)) = true := decide_eq_true hji
          cases gk with
          | zero =>
            have hkk : ¬ (k : Int) < 70000 := by omega
            have hkb : decide ((k : Int) < 70000) = false := decide_eq_false hkk
            go_wp2_with fail
            go_meet
            exact ⟨js, by omega, HMK⟩
          | succ gk =>
            have hkk : (k : Int) < 70000 := by omega
            have hkb : decide ((k : Int) < 70000) = true := decide_eq_true hkk
            have hNN := HN.out
            have hlen1 : js.length + 1 ≤ 8796093022207 := by omega
            have hnew : js.length + 1 ≤ n + 3 + (k + 1) := by omega
            have HNW := Aside0.mk (And.intro hnew (show k + 1 + gk = 70000 by omega))
            have hw4 : IntKind.i64.wrap (4 + (k : Int)) = 4 + (k : Int) := wrap64_id (by omega) (by omega)
            have hu4 : IntKind.u32.wrap (4 + (k : Int)) = 4 + (k : Int) := u32_id (by omega) (by omega)
            have hw1 : IntKind.i64.wrap ((k : Int) + 1) = ((k + 1 : Nat) : Int) := by rw [show (k : Int) + 1 = ((k + 1 : Nat) : Int) from by omega]; exact wrap64_id (by omega) (by omega)
            obtain ⟨vj2, w9, r9, a9⟩ := row_app HMK.out.rj [⟨4 + (k : Int), 4000 + i⟩] (by simp) hlen1 #[.int .u32 (4 + (k : Int)), .int .i64 (4000 + i)] rfl
            have hrm := HMK.out.rm.ap a9.tn HMK.out.am.2.2.2.symm
            obtain ⟨vm2, w10, r10, a10⟩ := row_app hrm [⟨4 + (k : Int), 4000 + i⟩] (by simp) hlen1 #[.int .u32 (4 + (k : Int)), .int .i64 (4000 + i)] rfl
            have HMK2 := Aside0.mk (HMK.out.step a9 a10)
            have R10 : Aside0 ((Builtin.append_ #[28, 28] 28 #[.slice Aj js.length cj, .slice (some ⟨wr.heap.size, 0, none⟩) 1 1]).run Try.prog (wr.alloc (.cells #[.int .u32 (4 + (k : Int)), .int .i64 (4000 + i)] 27)) = .ok vj2 w9) := ⟨r9⟩
            have R11 : Aside0 ((Builtin.append_ #[28, 28] 28 #[u12, .slice (some ⟨w9.heap.size, 0, none⟩) 1 1]).run Try.prog (w9.alloc (.cells #[.int .u32 (4 + (k : Int)), .int .i64 (4000 + i)] 27)) = .ok vm2 w10) := ⟨r10⟩
            clear r9 r10 a9 a10 hrm HMK hNN hjc hlen1 hnew hjl hbd
            go_wp2_with (first | ((with_reducible refine gate_builtin (b := .append) (xs := #[.tmp 81, .tmp 88]) rfl ?_); at_builtin; refine wpList_append_run rfl (.tmp 81) (.tmp 88) 28 rfl rfl rfl R10.out ?_) | ((with_reducible refine gate_builtin (b := .append) (xs := #[.tmp 90, .tmp 97]) rfl ?_); at_builtin; refine wpList_append_run rfl (.tmp 90) (.tmp 97) 28 rfl rfl rfl R11.out ?_))
            go_roundg gk
            case measure => omega
            case rel => exact ⟨k + 1, _, rfl, HNW.out.2, by rw [List.length_append]; exact HNW.out.1, HMK2⟩
        · have hji : ¬ (js.length : Int) < (c : Int) := by omega
          have hjb : decide ((js.length : Int) < (c : Int)) = false := decide_eq_false hji
          clear hjc
          go_wp2_with fail
          go_meet
          exact ⟨js, by omega, HMK⟩
    case rest =>
      obtain ⟨js, hjl, HM⟩ := hcut
      rename World => wz
      clear HMK R2 R3 R4 R5 R6 R7 R8
      obtain ⟨Ag, cg, eg, _⟩ := HM.out.pg.row.C
      obtain ⟨Ah, ch, eh, _⟩ := HM.out.ph.row.C
      obtain ⟨Aj, cj, ej, _⟩ := HM.out.rj.C
      obtain ⟨Am, cm, em, _⟩ := HM.out.rm.C
      generalize (zs ++ [m1]).length = lg at eg
      generalize (zs ++ [m1] ++ [m2, m3]).length = lh at eh
      generalize js.length = lj at ej em
      subst eg eh ej em
      have kz := heap_alloc_new wz (.cells #[.slice A n c, .slice A5 n c5, .slice Ag lg cg, .slice Al (n + 1) cl, .slice Ah lh ch, .slice At (n + 3) ct, .slice Aj lj cj, .slice Am lj cm] 87)
      have KZ := Aside0.mk kz
      clear kz
      go_wp2_with fail
      go_ret
      have hb := below_alloc (Below.refl wz.heap.size wz) (.cells #[.slice A n c, .slice A5 n c5, .slice Ag lg cg, .slice Al (n + 1) cl, .slice Ah lh ch, .slice At (n + 3) ct, .slice Aj lj cj, .slice Am lj cm] 87)
      have hm := HM.out
      have hx2 := HX2.out
      refine ⟨wz.heap.size, [(.slice A n c, .slice A5 n c5, zs), (.slice Ag lg cg, .slice Al (n + 1) cl, zs ++ [m1]), (.slice Ah lh ch, .slice At (n + 3) ct, zs ++ [m1] ++ [m2, m3]), (.slice Aj lj cj, .slice Am lj cm, js)], rfl, rfl, fun j u hj => ?_, fun p hp => ?_, hm.tn.trans (Turn.of_below hb []) (fun b hb => by cases hb)⟩
      · have := World.news_of_block (cs := #[.slice A n c, .slice A5 n c5, .slice Ag lg cg, .slice Al (n + 1) cl, .slice Ah lh ch, .slice At (n + 3) ct, .slice Aj lj cj, .slice Am lj cm]) (t := 87) (fr := (0, 0)) KZ.out
        exact this j u hj
      · have hl2 : (zs ++ [m1] ++ [m2, m3]).length = n + 3 := hx2
        simp only [List.length_append, List.length_cons, List.length_nil] at hl2
        simp only [List.mem_cons, List.not_mem_nil, or_false] at hp
        rcases hp with rfl | rfl | rfl | rfl
        · exact ⟨hm.pl.row.below hb, hm.r0.below hb, by show zs.length ≤ _; omega, fun k hk => .inl hk, hm.ns.2.2.1⟩
        · exact ⟨hm.pg.row.below hb, hm.r1.below hb, by simp only [List.length_append, List.length_cons, List.length_nil]; omega, hm.ns.1, hm.ns.2.2.2.1⟩
        · exact ⟨hm.ph.row.below hb, hm.r2.below hb, by simp only [List.length_append, List.length_cons, List.length_nil]; omega, hm.ns.2.1, hm.ns.2.2.2.2⟩
        · exact ⟨hm.rj.below hb, hm.rm.below hb, hjl, hm.nj, hm.nm⟩
end Go.Proofs.Ytebnlhjakiipjaa.Pl
