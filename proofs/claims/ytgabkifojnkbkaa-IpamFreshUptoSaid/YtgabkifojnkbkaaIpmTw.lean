/- IpamTwo walked: two subnets, their steps in turns, each answers as if it were alone. No condition. -/
import Derived.Test.YtgabkifojnkbkaaIpmHh
import Derived.Deep.DeepCutAuto
import Derived.Deep.CutBlock
import Derived.Deep.LoopGhost
set_option linter.unusedVariables false
set_option linter.unusedSimpArgs false
namespace Go.Proofs.Ytgabkifojnkbkaa.Ip
open Go.RowKit Go.Maps Go.WideMaps Go.MapKept Go.Proofs.YtgabkifojnkbkaaW.PrintWords Go.Proofs.Ytgabkifojnkbkaa.PIpf Go.Proofs.YtgabkifojnkbkaaW.XOpen
theorem begins_ev (l : List Bool) (hl : l.length ≤ maxLen) : ∀ (m i : Nat), l.length - i = m → i ≤ l.length → ∃ k r : Nat, weftlaw15_begins.l0 k l (i : Int) = some (r : Int) ∧ r ≤ l.length := by
  intro m
  unfold maxLen at hl
  induction m with
  | zero =>
    intro i h1 h2
    refine ⟨1, l.length, ?_, Nat.le_refl _⟩
    rw [weftlaw15_begins.l0, if_neg (by omega)]
  | succ m ih =>
    intro i h1 h2
    by_cases hb : rdOf false l (i : Int) = true
    · exact ⟨1, i, by rw [weftlaw15_begins.l0, if_pos (by omega), if_pos (by omega), if_pos hb], h2⟩
    · obtain ⟨k, r, hk, hr⟩ := ih (i + 1) (by omega) (by omega)
      refine ⟨k + 1, r, ?_, hr⟩
      rw [weftlaw15_begins.l0, if_pos (by omega), if_pos (by omega), if_neg hb]
      have e : wrap64 ((i : Int) + 1) = ((i + 1 : Nat) : Int) := by unfold wrap64; omega
      rw [e]; exact hk
/-- one pair of subnets, all of it newer than w0 -/
def One (w0 w : World) (B B' : Nat) : Prop := ∃ F, St w B B' 1024 F ∧ (∀ b, b ∈ F → w0.heap.size ≤ b) ∧ Below w0.heap.size w0 w
/-- two pairs, apart -/
def Two (w0 w : World) (B B' K L : Nat) : Prop := ∃ F G, St w B B' 1024 F ∧ St w K L 1024 G ∧ (∀ b, b ∈ F → b ∉ G) ∧ (∀ b, b ∈ F → w0.heap.size ≤ b) ∧ (∀ b, b ∈ G → w0.heap.size ≤ b) ∧ Below w0.heap.size w0 w
theorem One.below {w0 w w' : World} {B B' : Nat} (h : One w0 w B B') (hb : Below w.heap.size w w') : One w0 w' B B' := by
  obtain ⟨F, h1, h2, h3⟩ := h
  exact ⟨F, h1.below hb, h2, below_step h3 hb⟩
theorem One.bel {w0 w : World} {B B' : Nat} (h : One w0 w B B') : Below w0.heap.size w0 w := by obtain ⟨F, h1, h2, h3⟩ := h; exact h3
theorem Two.bel {w0 w : World} {B B' K L : Nat} (h : Two w0 w B B' K L) : Below w0.heap.size w0 w := by obtain ⟨F, G, h1, h2, h3, h4, h5, h6⟩ := h; exact h6
theorem Two.below {w0 w w' : World} {B B' K L : Nat} (h : Two w0 w B B' K L) (hb : Below w.heap.size w w') : Two w0 w' B B' K L := by
  obtain ⟨F, G, h1, h2, h3, h4, h5, h6⟩ := h
  exact ⟨F, G, h1.below hb, h2.below hb, h3, h4, h5, below_step h6 hb⟩
theorem Two.symm {w0 w : World} {B B' K L : Nat} (h : Two w0 w B B' K L) : Two w0 w K L B B' := by
  obtain ⟨F, G, h1, h2, h3, h4, h5, h6⟩ := h
  exact ⟨G, F, h2, h1, fun b hb hf => h3 b hf hb, h5, h4, h6⟩
theorem One.new {w w' : World} {B B' : Nat} {F : List Nat} (h : St w' B B' 0 F) (hb : Below w.heap.size w w') (hF : ∀ b, b ∈ F → w.heap.size ≤ b) : One w w' B B' := ⟨F, h.cap, hF, hb⟩
theorem Two.new {w0 w w' : World} {B B' K L : Nat} {G : List Nat} (h : One w0 w B B') (hG : St w' K L 0 G) (hb : Below w.heap.size w w') (hl : ∀ b, b ∈ G → w.heap.size ≤ b) : Two w0 w' B B' K L := by
  obtain ⟨F, h1, h2, h3⟩ := h
  exact ⟨F, G, h1.below hb, hG.cap, fun b hF hG2 => by have := h1.lt b hF; have := hl b hG2; omega, h2, fun b hG2 => Nat.le_trans h3.size (hl b hG2), below_step h3 hb⟩
theorem One.play {w0 w : World} {B B' : Nat} (h : One w0 w B B') (k : Int) (s : ByteArray) (a : Int) (hs : s.size ≤ maxLen) (ha0 : 0 ≤ a) (ha1 : a < 4294967296) :
    Calls Try.prog 19 #[ptr B, ptr B', opV k s a] w fun e w' => e = .returned (.bool true) ∧ One w0 w' B B' := by
  obtain ⟨F, h1, h2, h3⟩ := h
  refine (plays_any lists_ok h1 k s a hs ha0 ha1).mono ?_
  rintro e w' ⟨rfl, F', hF, hT, hd⟩
  exact ⟨rfl, F', hF, fun b hb => (hd b hb).elim (h2 b) (fun hl => Nat.le_trans h3.size hl), h3.trans (hT.below h3.size h2)⟩
theorem Two.play {w0 w : World} {B B' K L : Nat} (h : Two w0 w B B' K L) (k : Int) (s : ByteArray) (a : Int) (hs : s.size ≤ maxLen) (ha0 : 0 ≤ a) (ha1 : a < 4294967296) :
    Calls Try.prog 19 #[ptr B, ptr B', opV k s a] w fun e w' => e = .returned (.bool true) ∧ Two w0 w' B B' K L := by
  obtain ⟨F, G, h1, h2, h3, h4, h5, h6⟩ := h
  refine (plays_any lists_ok h1 k s a hs ha0 ha1).mono ?_
  rintro e w' ⟨rfl, F', hF, hT, hd⟩
  refine ⟨rfl, F', G, hF, h2.turn hT (fun b hG hf => h3 b hf hG), fun b hF' hG => ?_, fun b hb => (hd b hb).elim (h4 b) (fun hl => Nat.le_trans h6.size hl), h5, h6.trans (hT.below h6.size h4)⟩
  rcases hd b hF' with hf | hl
  · exact h3 b hf hG
  · have := h2.lt b hG; omega
theorem Two.play2 {w0 w : World} {B B' K L : Nat} (h : Two w0 w B B' K L) (k : Int) (s : ByteArray) (a : Int) (hs : s.size ≤ maxLen) (ha0 : 0 ≤ a) (ha1 : a < 4294967296) :
    Calls Try.prog 19 #[ptr K, ptr L, opV k s a] w fun e w' => e = .returned (.bool true) ∧ Two w0 w' B B' K L :=
  (h.symm.play k s a hs ha0 ha1).mono fun e w' ⟨h1, h2⟩ => ⟨h1, h2.symm⟩
/-- a bool that comes in -/
theorem atBool {w : World} {A : Option Addr} {n : Nat} {xs : List Bool} (h : Kd.C Kd.bool w A n xs) (i : Nat) (h1 : i < n) : ∃ ad, A = some ad ∧ ∃ b : Bool, w.cell? (ad.add i) = some (.bool b) := by
  obtain ⟨ad, c, e, _, hK, hc0⟩ := Kd.C_get h false (i : Int) (by omega) (by omega)
  have hc : ∀ j u, c[j]? = some u → w.cell? (ad.add (i * 1 + j)) = some u := hc0
  have hK2 : c = [.bool (rdOf false xs (i : Int))] := hK
  subst hK2
  exact ⟨ad, e, _, by have := hc 0 _ rfl; simpa using this⟩
theorem drawn_below {w w' : World} (h : Drawn0 w w') : Below w.heap.size w w' := by
  obtain ⟨n, rfl⟩ := h
  exact pw_below_drewN (Below.refl _ _) n
theorem W39_op {xs : List S39} {i : Nat} (hW : ∀ x, x ∈ xs → W39 x) (hlt : i < xs.length) : (rd39 xs i).f1.size ≤ maxLen ∧ 0 ≤ (rd39 xs i).f2 ∧ (rd39 xs i).f2 < 4294967296 := by
  obtain ⟨_, hs, hu⟩ := hW _ (rd39_mem hlt)
  obtain ⟨hu0, hu1⟩ := wf32_inv hu
  exact ⟨by unfold maxLen; omega, hu0, hu1⟩
set_option maxHeartbeats 16000000 in
set_option maxRecDepth 100000 in
theorem two_law (w : World) (a l a2 l2 : Int) (A : Option Addr) (c : Nat) (xs : List S39) (A3 : Option Addr) (c3 : Nat) (ts : List Bool) (h0 : 0 ≤ a) (h1 : a < 4294967296) (h20 : 0 ≤ a2) (h21 : a2 < 4294967296)
    (hC : Kd.C k39 w A xs.length xs) (hc : xs.length ≤ c) (hlen : xs.length ≤ maxLen) (hW : ∀ x, x ∈ xs → W39 x) (hC3 : Kd.C Kd.bool w A3 ts.length ts) (hc3 : ts.length ≤ c3) (hlen3 : ts.length ≤ maxLen) :
    Calls Try.prog 9 #[.agg #[.int .u32 a, .int .i64 l], .agg #[.int .u32 a2, .int .i64 l2], .slice A xs.length c, .slice A3 ts.length c3] w fun e w' => e = .returned (.bool true) ∧ Below w.heap.size w w' := by
  have hFst := Aside0.mk first16
  have HC := Aside0.mk hC
  have HC3 := Aside0.mk hC3
  have HLEN := Aside0.mk hlen
  have HW := Aside0.mk hW
  have HC3L := Aside0.mk hc3
  obtain ⟨wa, hwa⟩ : ∃ x, x = w.alloc (.cells #[.int .u32 a, .int .i64 l] 25) := ⟨_, rfl⟩
  obtain ⟨W0, hW0⟩ : ∃ x, x = wa.alloc (.cells #[.int .u32 a2, .int .i64 l2] 25) := ⟨_, rfl⟩
  have HB00 : Aside0 (Below w.heap.size w W0) := ⟨by rw [hW0, hwa]; exact below_alloc (below_alloc (Below.refl _ _) _) _⟩
  have HK0 : Aside0 (W0.heap[w.heap.size]? = some (.cells #[.int .u32 a, .int .i64 l] 25 (0, 0)) ∧ W0.heap[w.heap.size + 1]? = some (.cells #[.int .u32 a2, .int .i64 l2] 25 (0, 0))) := by
    refine ⟨?_, ?_⟩
    · rw [hW0]; exact blk_below (by rw [hwa]; exact heap_alloc_new w _) (below_alloc (Below.refl _ _) _)
    · rw [hW0]; have e := heap_alloc_new wa (.cells #[.int .u32 a2, .int .i64 l2] 25); rw [show wa.heap.size = w.heap.size + 1 from by rw [hwa, World.size_alloc]] at e; exact e
  have HWA := Aside0.mk (show wa = w.alloc _ ∧ W0 = wa.alloc _ from ⟨hwa, hW0⟩)
  have HSZ : Aside0 (w.heap.size + 1 < W0.heap.size) := ⟨by rw [hW0, World.size_alloc, hwa, World.size_alloc]; omega⟩
  clear hC hC3 hlen hW hwa hW0
  have HBG := Aside0.mk (fun hg w => both_good w a l h0 h1 hg)
  have HBB := Aside0.mk (fun hg w => both_bad w a l h0 h1 hg)
  have HBG2 := Aside0.mk (fun hg w => both_good w a2 l2 h20 h21 hg)
  have HBB2 := Aside0.mk (fun hg w => both_bad w a2 l2 h20 h21 hg)
  obtain ⟨kb, at_, hbe, hatl⟩ := begins_ev ts hlen3 ts.length 0 (by omega) (by omega)
  have HBE := Aside0.mk (fun (w : World) (h : Kd.C Kd.bool w A3 ts.length ts) => weftlaw15_begins.calls kb A3 c3 ts at_ w h HC3L.out hbe)
  have HLEN3 := Aside0.mk hlen3
  have HATL := Aside0.mk hatl
  clear h0 h1 h20 h21 hbe hatl hlen3 hc3
  have hcell : Aside0 (∀ w', Below W0.heap.size W0 w' → (w'.cell? ⟨w.heap.size, 0, none⟩ = some (.int .u32 a) ∧ w'.cell? ⟨w.heap.size, 1, none⟩ = some (.int .i64 l)) ∧ (w'.cell? ⟨w.heap.size + 1, 0, none⟩ = some (.int .u32 a2) ∧ w'.cell? ⟨w.heap.size + 1, 1, none⟩ = some (.int .i64 l2))) :=
    ⟨fun w' hb => by
      have e1 := hb.block w.heap.size (by have := HSZ.out; omega)
      have e2 := hb.block (w.heap.size + 1) (by have := HSZ.out; omega)
      rw [HK0.out.1] at e1
      rw [HK0.out.2] at e2
      exact ⟨⟨blk_cell e1 0, blk_cell e1 1⟩, blk_cell e2 0, blk_cell e2 1⟩⟩
  by_cases hg : Good a l
  · have HG := Aside0.mk hg
    clear hg
    go_enter Try.func9, Try.ntmps9
    go_wp2_with fail
    rw [← HWA.out.1, ← HWA.out.2]
    refine (HBG.out HG.out _).mono ?_
    rintro e_ w1 ⟨B, B', F, rfl, hS, hbel, hF⟩
    have H1 := Aside0.mk (One.new hS hbel hF)
    clear hS hbel hF HBG HBB HG HWA
    go_wp2_with fail
    refine (hFst.out _).mono ?_
    rintro e_ w2 ⟨rfl, hb⟩
    have H1 := Aside0.mk (H1.out.below hb)
    clear hb hFst
    go_wp2_with fail
    refine (HBE.out _ (Kd.C_below HC3.out (below_step HB00.out H1.out.bel))).mono ?_
    rintro e_ w3 ⟨rfl, hd⟩
    have H1 := Aside0.mk (H1.out.below (drawn_below hd))
    clear hd HBE
    go_upto_block 0 with fail
    go_cut [13] (fun v wx => Aside0 (One W0 wx B B'))
    case first =>
      go_wp2_with fail
      go_loopg [13] xs.length (fun k v wr => ∃ i : Nat, v = .int .i64 (i : Int) ∧ k = xs.length - i ∧ i ≤ xs.length ∧ Aside0 (One W0 wr B B'))
      case atStart => exact ⟨0, rfl, rfl, Nat.zero_le _, H1⟩
      case round =>
        clear H1
        obtain ⟨i, rfl, hk, hi, H1⟩ := hrel
        by_cases hgo : i < xs.length ∧ i < at_
        · obtain ⟨hlt, hla⟩ := hgo
          have hli : (i : Int) < (xs.length : Int) := by omega
          have hlai : (i : Int) < (at_ : Int) := by omega
          have HOP := Aside0.mk (W39_op HW.out hlt)
          obtain ⟨ad, rfl, c0, c1, c2⟩ := at39 (Kd.C_below HC.out (below_step HB00.out H1.out.bel)) i hlt
          generalize rd39 xs i = x at *
          obtain ⟨k, s, u⟩ := x
          simp only at c0 c1 c2 HOP
          have hw1 : IntKind.i64.wrap ((i : Int) + 1) = ((i + 1 : Nat) : Int) := by rw [show (i : Int) + 1 = ((i + 1 : Nat) : Int) from by omega]; exact wrap64_id (by omega) (by have := HLEN.out; unfold maxLen at this; omega)
          go_wp2_with fail
          refine (H1.out.play k s u HOP.out.1 HOP.out.2.1 HOP.out.2.2).mono ?_
          rintro e_ w6 ⟨rfl, h6⟩
          have H6 := Aside0.mk h6
          clear h6 H1
          go_wp2_with fail
          go_roundg (xs.length - (i + 1))
          case measure => omega
          case rel => exact ⟨i + 1, rfl, rfl, by omega, H6⟩
        · by_cases hlt : i < xs.length
          · have hli : (i : Int) < (xs.length : Int) := by omega
            have hlai : ¬ (i : Int) < (at_ : Int) := by omega
            go_wp2_with fail
            go_meet
            exact H1
          · have hli : ¬ (i : Int) < (xs.length : Int) := by omega
            go_wp2_with fail
            go_meet
            exact H1
    case rest =>
      clear H1
      have H1 : Aside0 (One W0 wc B B') := hcut
      clear hcut
      obtain ⟨_, k20, k21⟩ := hcell.out wc H1.out.bel
      by_cases hg : Good a2 l2
      · have HG := Aside0.mk hg
        clear hg
        go_wp2_with fail
        refine (HBG2.out HG.out _).mono ?_
        rintro e_ w5 ⟨K, L, G, rfl, hS, hbel, hF⟩
        have H2 := Aside0.mk (Two.new H1.out hS hbel hF)
        clear hS hbel hF H1 k20 k21 HBB2
        go_wp2_with fail
        refine (H2.out.play 5 _ 0 (by decide) (by omega) (by omega)).mono ?_
        rintro e_ w6 ⟨rfl, h6⟩
        have H2 := Aside0.mk h6
        clear h6
        go_wp2_with fail
        go_loopg [17] (xs.length - at_) (fun k v wr => ∃ i : Nat, v = .int .i64 (i : Int) ∧ k = xs.length - i ∧ Aside0 (Two W0 wr B B' K L))
        case atStart => exact ⟨at_, rfl, rfl, H2⟩
        case round =>
          clear H2
          obtain ⟨i, rfl, hk, H2⟩ := hrel
          by_cases hlt : i < xs.length
          · have hli : (i : Int) < (xs.length : Int) := by omega
            have hw1 : IntKind.i64.wrap ((i : Int) + 1) = ((i + 1 : Nat) : Int) := by rw [show (i : Int) + 1 = ((i + 1 : Nat) : Int) from by omega]; exact wrap64_id (by omega) (by have := HLEN.out; unfold maxLen at this; omega)
            go_upto_region 20 with fail
            go_cut [18] (fun v wx => (∃ b : Bool, v = .bool b) ∧ Aside0 (Two W0 wx B B' K L))
            case first =>
              by_cases hts : i < ts.length
              · have hti : (i : Int) < (ts.length : Int) := by omega
                obtain ⟨ad3, rfl, b, cb⟩ := atBool (Kd.C_below HC3.out (below_step HB00.out H2.out.bel)) i hts
                go_wp2_with fail
                go_meet
                exact ⟨⟨_, rfl⟩, H2⟩
              · have hti : ¬ (i : Int) < (ts.length : Int) := by omega
                go_wp2_with fail
                go_meet
                exact ⟨⟨_, rfl⟩, H2⟩
            case rest =>
              clear H2
              obtain ⟨⟨b, rfl⟩, H2⟩ := hcut
              have HOP := Aside0.mk (W39_op HW.out hlt)
              have HOP2 := Aside0.mk (fun (w' : World) (hb : Below W0.heap.size W0 w') => at39 (Kd.C_below HC.out (below_step HB00.out hb)) i hlt)
              obtain ⟨ad, rfl, c0, c1, c2⟩ := at39 (Kd.C_below HC.out (below_step HB00.out H2.out.bel)) i hlt
              generalize rd39 xs i = x at *
              obtain ⟨k, s, u⟩ := x
              simp only at c0 c1 c2 HOP HOP2
              cases b with
              | true =>
                go_wp2_with fail
                refine (H2.out.play2 k s u HOP.out.1 HOP.out.2.1 HOP.out.2.2).mono ?_
                rintro e_ w7 ⟨rfl, h7⟩
                have H2 := Aside0.mk h7
                clear h7 c0 c1 c2
                obtain ⟨_, k20, k21⟩ := hcell.out w7 H2.out.bel
                go_wp2_with fail
                refine (HBG2.out HG.out _).mono ?_
                rintro e_ w8 ⟨X, Y, G3, rfl, hS, hbel, hF⟩
                have H3 := Aside0.mk (One.new hS hbel hF)
                have H4 := H2
                have H2 := Aside0.mk (H2.out.below hbel)
                obtain ⟨ad2, he2, c0, c1, c2⟩ := HOP2.out w8 H2.out.bel
                cases he2
                clear hS hbel hF k20 k21
                go_wp2_with fail
                refine (H3.out.play k s u HOP.out.1 HOP.out.2.1 HOP.out.2.2).mono ?_
                rintro e_ w9 ⟨rfl, h9⟩
                have H2 := Aside0.mk (H4.out.below h9.bel)
                clear h9 H3 c0 c1 c2
                go_wp2_with fail
                go_roundg (xs.length - (i + 1))
                case measure => omega
                case rel => exact ⟨i + 1, rfl, rfl, H2⟩
              | false =>
                go_wp2_with fail
                refine (H2.out.play k s u HOP.out.1 HOP.out.2.1 HOP.out.2.2).mono ?_
                rintro e_ w7 ⟨rfl, h7⟩
                have H2 := Aside0.mk h7
                clear h7 c0 c1 c2
                go_wp2_with fail
                go_roundg (xs.length - (i + 1))
                case measure => omega
                case rel => exact ⟨i + 1, rfl, rfl, H2⟩
          · have hli : ¬ (i : Int) < (xs.length : Int) := by omega
            go_wp2_with fail
            refine (H2.out.play 5 _ 0 (by decide) (by omega) (by omega)).mono ?_
            rintro e_ w7 ⟨rfl, h7⟩
            have H2 := Aside0.mk h7
            clear h7
            go_wp2_with fail
            refine (H2.out.play2 5 _ 0 (by decide) (by omega) (by omega)).mono ?_
            rintro e_ w8 ⟨rfl, h8⟩
            have H2 := Aside0.mk h8
            clear h8
            go_wp2_with fail
            go_ret
            exact ⟨rfl, below_step HB00.out H2.out.bel⟩
      · have HG := Aside0.mk hg
        clear hg
        go_wp2_with fail
        refine (HBB2.out HG.out _).mono ?_
        rintro e_ w5 ⟨rfl, hbel⟩
        have H1 := Aside0.mk (H1.out.below hbel)
        clear hbel
        go_wp2_with fail
        refine (H1.out.play 5 _ 0 (by decide) (by omega) (by omega)).mono ?_
        rintro e_ w6 ⟨rfl, h6⟩
        have H6 := Aside0.mk h6
        clear h6 H1
        go_wp2_with fail
        go_ret
        exact ⟨rfl, below_step HB00.out H6.out.bel⟩
  · have HG := Aside0.mk hg
    clear hg
    go_enter Try.func9, Try.ntmps9
    go_wp2_with fail
    rw [← HWA.out.1, ← HWA.out.2]
    refine (HBB.out HG.out _).mono ?_
    rintro e_ w1 ⟨rfl, hbel⟩
    have H1 := Aside0.mk (below_step HB00.out hbel)
    clear hbel
    go_wp2_with fail
    refine (hFst.out _).mono ?_
    rintro e_ w2 ⟨rfl, hb⟩
    have H1 := Aside0.mk (below_step H1.out hb)
    clear hb
    go_wp2_with fail
    go_ret
    exact ⟨rfl, H1.out⟩
end Go.Proofs.Ytgabkifojnkbkaa.Ip
