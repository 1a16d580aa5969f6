/- plays for subnets of any size, where the program's List has its law (ListsOk: to be proved when the sort is walked in full). package ipam's List has its law, whatever the number of pods (up to 1024). holds: a script played on both subnets, walked (given List's law). IpamAdds, IpamDels, IpamFinds, IpamLists, IpamAll walked (given List's law), and how a script that comes in is opened. -/
import Derived.Test.YtgabkifojnkbkaaIpmPl
import Derived.Test.YtgabkifojnkbkaaIpsS
import Derived.Test.YtgabkifojnkbkaaIpmOp
set_option linter.unusedVariables false
set_option linter.unusedSimpArgs false
namespace Go.Proofs.Ytgabkifojnkbkaa.Ip
open Go.RowKit Go.Maps Go.WideMaps Go.MapKept Go.Proofs.YtgabkifojnkbkaaW.PrintWords Go.Proofs.Ytgabkifojnkbkaa.PIpf
/-- what List does, whatever the number of pods -/
def ListsOk : Prop := ∀ (w : World) (B b1 b2 : Nat) (vn vs : Value) (M : IpM), M.Ok → M.cnt ≤ 1024 → IpS w B b1 b2 vn vs M →
  Calls Try.prog 30 #[.pointer (some ⟨B, 0, none⟩)] w fun e w' => ∃ v l, e = .returned v ∧ KeysIn M.byA l ∧ l.length ≤ M.cnt ∧ w'.ownsRow w.heap.size 84 2 v l.length (podCells (listF M l)) ∧ Below w.heap.size w w'
theorem St.cap {w : World} {B B' n : Nat} {F : List Nat} (h : St w B B' n F) : St w B B' 1024 F := by
  obtain ⟨b1, b2, vn, vs, M, vp, R, h1, h2, h3, h4, h5, rfl⟩ := h
  exact ⟨b1, b2, vn, vs, M, vp, R, h1, h2, h3, h3.lim, h5, rfl⟩
section
variable (HL : ListsOk)
include HL
theorem plays_list_any {w : World} {B B' n : Nat} {F : List Nat} (h : St w B B' n F) (s : ByteArray) (a : Int) :
    Calls Try.prog 19 #[ptr B, ptr B', opV 5 s a] w fun e w' => e = .returned (.bool true) ∧ Below w.heap.size w w' := by
  obtain ⟨b1, b2, vn, vs, M, vp, R, HS, HR, hrel, hn, hd, rfl⟩ := h
  have hcnt := hrel.cnt
  have hlim := hrel.lim
  have hlen := rlistF_length R.pods
  refine play_list w B B' s a (fun w v => ∃ bs, w.ownsRow bs 84 2 v (rlistF R.pods).length (podCells (rlistF R.pods))) (fun w v => ∃ bs, w.ownsRow bs 84 2 v (rlistF R.pods).length (podCells (rlistF R.pods))) (fun w1 hb => ?_) (fun w1 v hb hv => ?_) (fun w1 v u hv hu => ?_)
  · refine (HL w1 B b1 b2 vn vs M hrel.ok (by omega) (HS.below hb)).mono ?_
    rintro e w2 ⟨v, l, rfl, hK, hll, hrow, hb2⟩
    have heq := hrel.list_eq hK
    have hl2 : l.length = (rlistF R.pods).length := by rw [← heq, listF, List.length_map]
    rw [heq, hl2] at hrow
    exact ⟨⟨v, rfl, _, hrow⟩, hb2⟩
  · refine (rlist w1 B' vp R hlim hrel.pin (HR.below hb)).mono ?_
    rintro e w2 ⟨u, rfl, hrow, hb2⟩
    obtain ⟨bs, hv⟩ := hv
    exact ⟨⟨u, rfl, ⟨bs, row_step hv (fun k hk => hb2.block k (hv.lt k hk).2)⟩, _, hrow⟩, hb2⟩
  · obtain ⟨bs, hv⟩ := hv
    obtain ⟨bu, hu⟩ := hu
    exact pods_same w1 bs bu v u (rlistF R.pods) (by omega) hv hu
theorem plays_any {w : World} {B B' n : Nat} {F : List Nat} (h : St w B B' n F) (k : Int) (s : ByteArray) (a : Int) (hs : s.size ≤ maxLen) (ha0 : 0 ≤ a) (ha1 : a < 4294967296) :
    Calls Try.prog 19 #[ptr B, ptr B', opV k s a] w fun e w' => e = .returned (.bool true) ∧ ∃ F', St w' B B' 1024 F' ∧ Turn w w' F ∧ ∀ b, b ∈ F' → b ∈ F ∨ w.heap.size ≤ b := by
  by_cases c5 : k = 5
  · subst c5
    refine (plays_list_any HL h s a).mono ?_
    rintro e w' ⟨rfl, hb⟩
    exact ⟨rfl, still h.cap hb⟩
  · refine (plays_all h k s a hs ha0 ha1 (fun e => absurd e c5)).mono ?_
    rintro e w' ⟨rfl, F', hF, hT, hd⟩
    exact ⟨rfl, F', hF.cap, hT, hd⟩
end
/-- a step that comes in -/
structure S39 where
  f0 : Int
  f1 : ByteArray
  f2 : Int
def z39 : S39 := ⟨0, ⟨#[]⟩, 0⟩
def k39 : Kd S39 := Kd.iso (Kd.pair (Kd.int .i64) (Kd.pair Kd.string (Kd.int .u32))) (fun x : S39 => (x.f0, x.f1, x.f2))
theorem k39_open {w : World} {x : S39} {cs : List Value} (h : k39.K w x cs) : cs = [.int .i64 x.f0, .string x.f1, .int .u32 x.f2] := by
  obtain ⟨_, _, rfl, rfl, _, _, rfl, rfl, rfl⟩ := h
  exact rfl
def rd39 (xs : List S39) (i : Nat) : S39 := xs.getD i z39
theorem at39 {w : World} {A : Option Addr} {n : Nat} {xs : List S39} (h : Kd.C k39 w A n xs) (i : Nat) (h1 : i < n) : ∃ ad, A = some ad ∧ w.cell? (ad.add (i * 3)) = some (.int .i64 (rd39 xs i).f0) ∧ w.cell? ⟨(ad.add (i * 3)).block, (ad.add (i * 3)).off + 1, none⟩ = some (.string (rd39 xs i).f1) ∧ w.cell? ⟨(ad.add (i * 3)).block, (ad.add (i * 3)).off + 2, none⟩ = some (.int .u32 (rd39 xs i).f2) := by
  obtain ⟨ad, c, e, _, hK, hc0⟩ := Kd.C_get h z39 (i : Int) (by omega) (by omega)
  have hc : ∀ j u, c[j]? = some u → w.cell? (ad.add (i * 3 + j)) = some u := hc0
  obtain rfl := k39_open hK
  exact ⟨ad, e, hc 0 _ rfl, by rw [← add_field _ _ 1 (by omega)]; exact hc 1 _ rfl, by rw [← add_field _ _ 2 (by omega)]; exact hc 2 _ rfl⟩
end Go.Proofs.Ytgabkifojnkbkaa.Ip

namespace Go.Proofs.Ytgabkifojnkbkaa.Ip
theorem lists_ok : ListsOk := fun w B b1 b2 vn vs M hok hcnt HS => list30a w B b1 b2 vn vs M hok hcnt HS
end Go.Proofs.Ytgabkifojnkbkaa.Ip

set_option linter.unusedVariables false
set_option linter.unusedSimpArgs false
namespace Go.Proofs.Ytgabkifojnkbkaa.Ip
open Go.RowKit Go.Maps Go.WideMaps Go.MapKept Go.Proofs.YtgabkifojnkbkaaW.PrintWords Go.Proofs.Ytgabkifojnkbkaa.PIpf
def W39 (x : S39) : Prop := (Lit.int .i64 x.f0).wf = true ∧ x.f1.size ≤ 140737488351232 ∧ (Lit.int .u32 x.f2).wf = true
theorem wf32_inv {a : Int} (h : (Lit.int .u32 a).wf = true) : 0 ≤ a ∧ a < 4294967296 := by
  have e1 : IntKind.u32.min = 0 := by decide
  have e2 : IntKind.u32.max = 4294967295 := by decide
  simp [Lit.wf, e1, e2] at h
  omega
theorem rd39_mem {xs : List S39} {i : Nat} (h : i < xs.length) : rd39 xs i ∈ xs := by
  simp only [rd39, List.getD_eq_getElem?_getD, List.getElem?_eq_getElem h, Option.getD_some]; exact List.getElem_mem h
set_option maxHeartbeats 16000000 in
set_option maxRecDepth 100000 in
theorem holds17 (HL : ListsOk) (w : World) (a l : Int) (A : Option Addr) (c : Nat) (xs : List S39) (lo hi : Int) (h0 : 0 ≤ a) (h1 : a < 4294967296) (hC : Kd.C k39 w A xs.length xs) (hc : xs.length ≤ c) (hlen : xs.length ≤ maxLen) (hW : ∀ x, x ∈ xs → W39 x) :
    Calls Try.prog 17 #[.agg #[.int .u32 a, .int .i64 l], .slice A xs.length c, .int .i64 lo, .int .i64 hi] w fun e w' => e = .returned (.bool true) ∧ Below w.heap.size w w' := by
  have hFst := Aside0.mk first16
  have HC := Aside0.mk hC
  have HLEN := Aside0.mk hlen
  have HW := Aside0.mk hW
  clear hC hlen hW
  by_cases hg : Good a l
  · have hB := Aside0.mk (fun w => both_good w a l h0 h1 hg)
    have HP := Aside0.mk (fun (w : World) (B B' n : Nat) (F : List Nat) (h : St w B B' n F) (k : Int) (s : ByteArray) (a : Int) => plays_any HL h k s a)
    clear HL hg
    go_enter Try.func17, Try.ntmps17
    go_wp2_with (first | (go_at_call 15; refine (hB.out _).mono ?_; rintro e_ w1 ⟨B, B', F, rfl, hS, hbel, hF⟩
                          have HS := Aside0.mk hS
                          have HB := Aside0.mk (below_step (below_alloc (Below.refl _ _) _) hbel)
                          have HF := Aside0.mk (fun b hb => Nat.le_trans (by rw [World.size_alloc]; omega : w.heap.size ≤ _) (hF b hb))
                          clear hS hbel hF)
                       | (go_at_call 16; refine (hFst.out _).mono ?_; rintro e_ w3 ⟨rfl, hb3⟩
                          have HS3 := Aside0.mk (HS.out.cap.below hb3)
                          have HB3 := Aside0.mk (below_step HB.out hb3)
                          clear hb3) | go_in)
    go_loopw [12] (fun vi wr => ∃ (i : Nat) (F : List Nat), vi = .int .i64 i ∧ i ≤ xs.length ∧ Aside0 (St wr B B' 1024 F) ∧ Aside0 (∀ b, b ∈ F → w.heap.size ≤ b) ∧ Aside0 (Below w.heap.size w wr)) (fun vi _ => xs.length - (intOf vi).toNat)
    case atStart => exact ⟨0, F, rfl, by omega, HS3, HF, HB3⟩
    case round =>
      clear HS HF HB HS3 HB3
      obtain ⟨i, F, rfl, hi2, HS, HF, HB⟩ := hrel
      by_cases hlt : i < xs.length
      · have hli : (i : Int) < (xs.length : Int) := by omega
        obtain ⟨ad, rfl, c0, c1, c2⟩ := at39 (Kd.C_below HC.out HB.out) i hlt
        obtain ⟨_, hs, hu⟩ := HW.out _ (rd39_mem hlt)
        obtain ⟨hu0, hu1⟩ := wf32_inv hu
        have HU0 := Aside0.mk hu0
        have HU1 := Aside0.mk hu1
        have HSS : Aside0 ((rd39 xs i).f1.size ≤ maxLen) := ⟨by unfold maxLen; omega⟩
        clear hs hu hu0 hu1
        generalize rd39 xs i = x at *
        obtain ⟨k, s, u⟩ := x
        simp only at c0 c1 c2 HSS HU0 HU1
        have HLL : Aside0 ((i : Int) + 1 < 9223372036854775808) := ⟨by have := HLEN.out; unfold maxLen at this; omega⟩
        have hw1 : IntKind.i64.wrap ((i : Int) + 1) = (i : Int) + 1 := wrap64_id (by omega) (by have := HLL.out; omega)
        have HS2 := Aside0.mk (HS.out.below (below_alloc (Below.refl _ _) (.cells #[.int .i64 k, .string s, .int .u32 u] 39)))
        have HB2 := Aside0.mk (below_alloc HB.out (.cells #[.int .i64 k, .string s, .int .u32 u] 39))
        clear hlt HS HB
        go_wp2_with (first | (go_at_call 19; refine (HP.out _ _ _ _ _ HS2.out _ _ _ HSS.out HU0.out HU1.out).mono ?_; rintro e_ w6 ⟨rfl, F', hF, hT, hd⟩
                              have HF2 := Aside0.mk (fun b (hb : b ∈ F') => (hd b hb).elim (HF.out b) (fun hl => Nat.le_trans HB2.out.size hl))
                              have HB6 := Aside0.mk (HB2.out.trans (hT.below HB2.out.size HF.out))
                              have HS6 := Aside0.mk hF
                              clear hF hT hd) | go_in)
        exact ⟨⟨i + 1, F', by simp, by omega, HS6, HF2, HB6⟩, by simp [intOf]; omega⟩
      · go_wp2
        go_ret
        exact ⟨rfl, HB.out⟩
  · have hB := Aside0.mk (fun w => both_bad w a l h0 h1 hg)
    go_enter Try.func17, Try.ntmps17
    go_wp2_with (first | (go_at_call 15; refine (hB.out _).mono ?_; rintro e_ w1 ⟨rfl, hbel⟩; have HB := Aside0.mk (below_step (below_alloc (Below.refl _ _) _) hbel); clear hbel)
                       | (go_at_call 16; refine (hFst.out _).mono ?_; rintro e_ w3 ⟨rfl, hb3⟩; have HB3 := Aside0.mk (below_step HB.out hb3); clear hb3) | go_in)
    go_ret
    exact ⟨rfl, HB3.out⟩
end Go.Proofs.Ytgabkifojnkbkaa.Ip

set_option linter.unusedVariables false
set_option linter.unusedSimpArgs false
namespace Go.Proofs.Ytgabkifojnkbkaa.Ip
open Go.RowKit Go.Maps Go.WideMaps Go.MapKept Go.Proofs.YtgabkifojnkbkaaW.PrintWords Go.Proofs.Ytgabkifojnkbkaa.PIpf Go.Proofs.YtgabkifojnkbkaaW.XOpen
def m39 (x : S39) : Nat := ((fun _ => 1) x.f0 + ((fun s : ByteArray => s.size + 1) x.f1 + (fun _ => 1) x.f2)) + 1
theorem o39 {B : {H : Type} → DataW H → Nat} {BA : {H : Type} → List (DataW H) → Nat} (hB : IsBulk B BA) : Opens B Try.prog 39 k39 W39 m39 :=
  opens_iso (fun x : S39 => (x.f0, x.f1, x.f2)) (fun a => ⟨⟨a.1, a.2.1, a.2.2⟩, rfl⟩) (opens_struct hB Try.underlying39 [(3, 0), (9, 1), (23, 2)] (by kernel_rfl) (by kernel_rfl) (fields_cons hB (o := 0) (by kernel_rfl) (opens_int hB Try.underlying3) (fields_cons hB (o := 1) (by kernel_rfl) (opens_string hB Try.underlying9) (fields_one hB (o := 2) (by kernel_rfl) (opens_int hB Try.underlying23)))))
set_option maxHeartbeats 4000000 in
theorem adds_law (HL : ListsOk) (w : World) (a l : Int) (A : Option Addr) (c : Nat) (xs : List S39) (h0 : 0 ≤ a) (h1 : a < 4294967296) (hC : Kd.C k39 w A xs.length xs) (hc : xs.length ≤ c) (hlen : xs.length ≤ maxLen) (hW : ∀ x, x ∈ xs → W39 x) :
    Calls Try.prog 4 #[.agg #[.int .u32 a, .int .i64 l], .slice A xs.length c] w fun e w' => e = .returned (.bool true) ∧ Below w.heap.size w w' := by
  have hb1 : Below w.heap.size w (w.alloc (.cells #[.int .u32 a, .int .i64 l] 25)) := below_alloc (Below.refl _ _) _
  have hh := Aside0.mk (holds17 HL (w.alloc (.cells #[.int .u32 a, .int .i64 l] 25)) a l A c xs 1 1 h0 h1 (Kd.C_below hC hb1) hc hlen hW)
  have HB1 := Aside0.mk hb1
  clear hC hW hb1
  go_enter Try.func4, Try.ntmps4
  go_wp2_with (first | (go_at_call 17; refine hh.out.mono ?_; rintro e_ w2 ⟨rfl, hb2⟩; have HB2 := Aside0.mk (below_step HB1.out hb2); clear hb2) | go_in)
  go_ret
  exact ⟨rfl, HB2.out⟩
set_option maxHeartbeats 4000000 in
theorem dels_law (HL : ListsOk) (w : World) (a l : Int) (A : Option Addr) (c : Nat) (xs : List S39) (h0 : 0 ≤ a) (h1 : a < 4294967296) (hC : Kd.C k39 w A xs.length xs) (hc : xs.length ≤ c) (hlen : xs.length ≤ maxLen) (hW : ∀ x, x ∈ xs → W39 x) :
    Calls Try.prog 5 #[.agg #[.int .u32 a, .int .i64 l], .slice A xs.length c] w fun e w' => e = .returned (.bool true) ∧ Below w.heap.size w w' := by
  have hb1 : Below w.heap.size w (w.alloc (.cells #[.int .u32 a, .int .i64 l] 25)) := below_alloc (Below.refl _ _) _
  have hh := Aside0.mk (holds17 HL (w.alloc (.cells #[.int .u32 a, .int .i64 l] 25)) a l A c xs 2 2 h0 h1 (Kd.C_below hC hb1) hc hlen hW)
  have HB1 := Aside0.mk hb1
  clear hC hW hb1
  go_enter Try.func5, Try.ntmps5
  go_wp2_with (first | (go_at_call 17; refine hh.out.mono ?_; rintro e_ w2 ⟨rfl, hb2⟩; have HB2 := Aside0.mk (below_step HB1.out hb2); clear hb2) | go_in)
  go_ret
  exact ⟨rfl, HB2.out⟩
set_option maxHeartbeats 4000000 in
theorem finds_law (HL : ListsOk) (w : World) (a l : Int) (A : Option Addr) (c : Nat) (xs : List S39) (h0 : 0 ≤ a) (h1 : a < 4294967296) (hC : Kd.C k39 w A xs.length xs) (hc : xs.length ≤ c) (hlen : xs.length ≤ maxLen) (hW : ∀ x, x ∈ xs → W39 x) :
    Calls Try.prog 6 #[.agg #[.int .u32 a, .int .i64 l], .slice A xs.length c] w fun e w' => e = .returned (.bool true) ∧ Below w.heap.size w w' := by
  have hb1 : Below w.heap.size w (w.alloc (.cells #[.int .u32 a, .int .i64 l] 25)) := below_alloc (Below.refl _ _) _
  have hh := Aside0.mk (holds17 HL (w.alloc (.cells #[.int .u32 a, .int .i64 l] 25)) a l A c xs 3 4 h0 h1 (Kd.C_below hC hb1) hc hlen hW)
  have HB1 := Aside0.mk hb1
  clear hC hW hb1
  go_enter Try.func6, Try.ntmps6
  go_wp2_with (first | (go_at_call 17; refine hh.out.mono ?_; rintro e_ w2 ⟨rfl, hb2⟩; have HB2 := Aside0.mk (below_step HB1.out hb2); clear hb2) | go_in)
  go_ret
  exact ⟨rfl, HB2.out⟩
set_option maxHeartbeats 4000000 in
theorem lists_law (HL : ListsOk) (w : World) (a l : Int) (A : Option Addr) (c : Nat) (xs : List S39) (h0 : 0 ≤ a) (h1 : a < 4294967296) (hC : Kd.C k39 w A xs.length xs) (hc : xs.length ≤ c) (hlen : xs.length ≤ maxLen) (hW : ∀ x, x ∈ xs → W39 x) :
    Calls Try.prog 7 #[.agg #[.int .u32 a, .int .i64 l], .slice A xs.length c] w fun e w' => e = .returned (.bool true) ∧ Below w.heap.size w w' := by
  have hb1 : Below w.heap.size w (w.alloc (.cells #[.int .u32 a, .int .i64 l] 25)) := below_alloc (Below.refl _ _) _
  have hh := Aside0.mk (holds17 HL (w.alloc (.cells #[.int .u32 a, .int .i64 l] 25)) a l A c xs 5 6 h0 h1 (Kd.C_below hC hb1) hc hlen hW)
  have HB1 := Aside0.mk hb1
  clear hC hW hb1
  go_enter Try.func7, Try.ntmps7
  go_wp2_with (first | (go_at_call 17; refine hh.out.mono ?_; rintro e_ w2 ⟨rfl, hb2⟩; have HB2 := Aside0.mk (below_step HB1.out hb2); clear hb2) | go_in)
  go_ret
  exact ⟨rfl, HB2.out⟩
set_option maxHeartbeats 4000000 in
theorem all_law (HL : ListsOk) (w : World) (a l : Int) (A : Option Addr) (c : Nat) (xs : List S39) (h0 : 0 ≤ a) (h1 : a < 4294967296) (hC : Kd.C k39 w A xs.length xs) (hc : xs.length ≤ c) (hlen : xs.length ≤ maxLen) (hW : ∀ x, x ∈ xs → W39 x) :
    Calls Try.prog 8 #[.agg #[.int .u32 a, .int .i64 l], .slice A xs.length c] w fun e w' => e = .returned (.bool true) ∧ Below w.heap.size w w' := by
  have hb1 : Below w.heap.size w (w.alloc (.cells #[.int .u32 a, .int .i64 l] 25)) := below_alloc (Below.refl _ _) _
  have hh := Aside0.mk (holds17 HL (w.alloc (.cells #[.int .u32 a, .int .i64 l] 25)) a l A c xs 1 6 h0 h1 (Kd.C_below hC hb1) hc hlen hW)
  have HB1 := Aside0.mk hb1
  clear hC hW hb1
  go_enter Try.func8, Try.ntmps8
  go_wp2_with (first | (go_at_call 17; refine hh.out.mono ?_; rintro e_ w2 ⟨rfl, hb2⟩; have HB2 := Aside0.mk (below_step HB1.out hb2); clear hb2) | go_in)
  go_ret
  exact ⟨rfl, HB2.out⟩
end Go.Proofs.Ytgabkifojnkbkaa.Ip
