/- IpamFull: just so many pods find room: the single subnet's laws, and the statement walked. No condition. -/
import Derived.Test.YtgabkifojnkbkaaIpmRx
import Derived.Test.YtgabkifojnkbkaaIpmHh
import Derived.Deep.DeepCutAuto
import Derived.Deep.CutBlock
import Derived.Deep.LoopGhost
set_option linter.unusedVariables false
set_option linter.unusedSimpArgs false
namespace Go.Proofs.Ytgabkifojnkbkaa.Ip
open Go.RowKit Go.Maps Go.WideMaps Go.MapKept Go.Proofs.YtgabkifojnkbkaaW.PrintWords Go.Proofs.Ytgabkifojnkbkaa.PIpf
section
variable {w0 w : World} {S : Nat} {a l : Int} {B b1 b2 : Nat} {vn vs : Value} {M : IpM} {R : RfM}
theorem RI.rbase (h : RI w0 w S a l B b1 b2 vn vs M R) : R.base = a := h.rel.base.trans h.mb
/-- Add where all is taken -/
theorem RI.add_full (h : RI w0 w S a l B b1 b2 vn vs M R) (k : Nat) (s : ByteArray) (hs : s.size ≤ maxLen) (hok : ipam_nameOK.f k s = some true) (hno : ∀ b, (s, b) ∉ R.pods) (hf : R.pods.length ≥ 1024 ∨ (R.pods.length : Int) ≥ R.size - 3) :
    Calls Try.prog 22 #[.pointer (some ⟨B, 0, none⟩), .string s] w fun e w' => e = .returned (.tuple #[.int .u32 0, .int .i64 4]) ∧ Below w.heap.size w w' := by
  have hc := h.rel.cnt
  have h1 := h.rel.first
  have h2 := h.rel.last
  have h3 := h.rel.lim
  exact Ip.add_full k w B b1 b2 vn vs M s hs h.st hok (h.rel.no_name hno) h.rel.num (by omega) (by omega)
/-- Add of a new name where there is room -/
theorem RI.add_new (h : RI w0 w S a l B b1 b2 vn vs M R) (k : Nat) (s : ByteArray) (hs : s.size ≤ maxLen) (hok : ipam_nameOK.f k s = some true) (hno : ∀ b, (s, b) ∉ R.pods) (hl : R.pods.length < 1024) (hr : (R.pods.length : Int) < R.size - 3) :
    Calls Try.prog 22 #[.pointer (some ⟨B, 0, none⟩), .string s] w fun e w' => ∃ y, e = .returned (.tuple #[.int .u32 (a + y), .int .i64 0]) ∧ 2 ≤ y ∧ y ≤ R.size - 2 ∧ holderF R.pods (a + y) < 0 ∧ ∃ vn' vs' M', RI w0 w' S a l B b1 b2 vn' vs' M' (raddS R s y) := by
  have hfound := h.rel.found hr
  obtain ⟨hx0, hx1⟩ := h.rel.rseek_in R.pods.length R.last h.rel.g0
  have hrb := h.rbase
  rw [hrb] at hfound
  refine (add_rel k w B b1 b2 vn vs s hs h.st h.rel hok hno hl hr _ rfl).mono ?_
  rintro e w' ⟨rfl, vn', vs', M', hI, hrl, hm, _, hT, hF⟩
  exact ⟨_, by rw [h.mb], hx0, hx1, hfound, vn', vs', M', h.step hI hrl hm hT hF⟩
/-- Del of one who is there -/
theorem RI.del (h : RI w0 w S a l B b1 b2 vn vs M R) (s : ByteArray) (hs : s.size ≤ maxLen) (x : Int) (hp : (s, x) ∈ R.pods) :
    Calls Try.prog 24 #[.pointer (some ⟨B, 0, none⟩), .string s] w fun e w' => e = .returned (.tuple #[.int .u32 x, .int .i64 0]) ∧ ∃ vs' M' pods2, RI w0 w' S a l B b1 b2 vn vs' M' { R with pods := pods2 } ∧ R.pods.Perm ((s, x) :: pods2) := by
  have hby : M.byN s = some x := (h.rel.byN s x).2 hp
  obtain ⟨i0, i1, hpa⟩ := h.rel.atF_some hby
  obtain ⟨hx0, hx1, t, ht⟩ := h.rel.ok.na s x hby
  obtain ⟨ht0, ht1⟩ := h.rel.ok.at_ x t ht
  have hk := h.rel.cut hby ht
  have hsum := h.rel.sum
  have hnl := h.rel.nl
  have hperm := cut_perm (l := R.pods) (i := (atF R.pods s).toNat) (by omega)
  rw [hpa] at hperm
  refine (del_ok w B b1 b2 vn vs M s hs h.st x t hby hx0 hx1 ht ht0 ht1 (by omega)).mono ?_
  rintro e w2 ⟨rfl, vs', hI, hT, hF⟩
  refine ⟨rfl, vs', _, _, h.step hI hk rfl hT (fun b hb2 => ?_), ?_⟩
  · simp only [IpF, List.mem_cons, List.mem_append, Option.mem_toList, Option.mem_def] at hb2 ⊢
    rcases hF with hF | ⟨c, hc, hle⟩
    · rw [hF] at hb2; exact .inl hb2
    · rcases hb2 with hb2 | hb2 | hb2 | hb2 | hb2
      · exact .inl (.inl hb2)
      · exact .inl (.inr (.inl hb2))
      · exact .inl (.inr (.inr (.inl hb2)))
      · exact .inl (.inr (.inr (.inr (.inl hb2))))
      · rw [hc] at hb2; injection hb2 with hb2; right; omega
  · first | exact hperm | exact hperm.symm
/-- List -/
theorem RI.list (h : RI w0 w S a l B b1 b2 vn vs M R) :
    Calls Try.prog 30 #[.pointer (some ⟨B, 0, none⟩)] w fun e w' => ∃ v, e = .returned v ∧ w'.ownsRow w.heap.size 84 2 v R.pods.length (podCells (rlistF R.pods)) ∧ Below w.heap.size w w' := by
  have hc := h.rel.cnt
  have hl := h.rel.lim
  refine (list30a w B b1 b2 vn vs M h.rel.ok (by omega) h.st).mono ?_
  rintro e w' ⟨v, lk, rfl, hK, _, hrow, hb⟩
  have heq := h.rel.list_eq hK
  have hl2 : lk.length = R.pods.length := by rw [← rlistF_length R.pods, ← heq, listF, List.length_map]
  rw [heq, hl2] at hrow
  exact ⟨v, rfl, hrow, hb⟩
end
theorem one_more : ipam_nameOK.f 12 ⟨#[111, 110, 101, 45, 109, 111, 114, 101]⟩ = some true := by decide +kernel
theorem two_more : ipam_nameOK.f 12 ⟨#[116, 119, 111, 45, 109, 111, 114, 101]⟩ = some true := by decide +kernel
theorem not_in_podsTo {b : Int} {n : Nat} (hn : n ≤ 1024) {s : ByteArray} (hs : s.size = 8) : ∀ c, (s, c) ∉ podsTo b n := fun c hc => by
  obtain ⟨j, hj, e⟩ := podsTo_mem hc
  injection e with e1 e2
  have h7 := (names_all j (by omega)).2.2.2
  rw [← e1, hs] at h7
  exact absurd h7 (by decide)
theorem perm_has {b : Int} {n g : Nat} {p2 : List Pod} (hp : (podsTo b n).Perm ((nameV g, b + 2 + g) :: p2)) {j : Nat} (hj : j < n) (hne : j ≠ g) : (nameV j, b + 2 + j) ∈ p2 := by
  have h := hp.mem_iff.1 (podsTo_has b hj)
  rcases List.mem_cons.1 h with h | h
  · injection h with _ e2; omega
  · exact h
/-- what the last address must be -/
theorem full_addr {b z : Int} {n g : Nat} {p2 : List Pod} (hp : (podsTo b n).Perm ((nameV g, b + 2 + g) :: p2)) (hz : z - 3 = n) {y : Int} (h0 : 2 ≤ y) (h1 : y ≤ z - 2) (hf : holderF p2 (b + y) < 0) : b + 2 + (g : Int) = b + y := by
  rcases Classical.em (y = 2 + (g : Int)) with h | h
  · omega
  · exfalso
    have hm := perm_has hp (j := (y - 2).toNat) (by omega) (by omega)
    have := holder_pos hm
    simp only at this
    rw [show b + 2 + (((y - 2).toNat : Nat) : Int) = b + y from by omega] at this
    omega
set_option maxHeartbeats 16000000 in
set_option maxRecDepth 100000 in
theorem full_main (w : World) (a l gone : Int) (h0 : 0 ≤ a) (h1 : a < 4294967296) (hg : Good a l) (hk0 : -9223372036854775808 ≤ gone) (hk1 : gone < 9223372036854775808) :
    Calls Try.prog 12 #[.agg #[.int .u32 a, .int .i64 l], .int .i64 gone] w fun e w' => e = .returned (.bool true) ∧ Below w.heap.size w w' := by
  obtain ⟨mb, hmay, hmb⟩ := may_val a l h0 h1
  obtain rfl : mb = true := hmb.2 hg
  have hrel := Aside0.mk (Rel.new hg.1 hg.2.1 h0 h1 hg.2.2)
  have hMay := Aside0.mk (fun w => weftlaw15_may.calls 40 a l true w hmay)
  have hNew := Aside0.mk (fun w => new_good w a l h0 h1 hg)
  have hFst := Aside0.mk first16
  have hszv : weftlaw15_size.f 40 a l = some (sizeF l) := by
    have := size_val l.toNat (by have := hg.2.1; omega) (by have := hg.1; omega)
    rw [Int.toNat_of_nonneg (by have := hg.1; omega)] at this
    exact this
  have hSz := Aside0.mk (fun w => weftlaw15_size.calls 40 a l _ w hszv)
  have htop := hrel.out.top
  have hz0 := hrel.out.sz
  have htop2 : a + sizeF l ≤ 4294967296 := htop
  have hz1 : 4 ≤ sizeF l := hz0
  have HTOP := Aside0.mk htop2
  clear hg hmay hmb hszv htop htop2 hz0
  generalize hz : sizeF l = z at *
  have HZ1 := Aside0.mk hz1
  have hw3 : IntKind.i64.wrap (z - 3) = z - 3 := wrap64_id (by omega) (by have := HTOP.out; omega)
  obtain ⟨N, hN⟩ : ∃ N : Nat, (N : Int) = if z - 3 > 1024 then 1024 else z - 3 := ⟨(if z - 3 > 1024 then 1024 else z - 3).toNat, by split <;> omega⟩
  have HN : Aside0 ((N : Int) ≤ 1024 ∧ (N : Int) ≤ z - 3 ∧ (N = 1024 ∨ (N : Int) = z - 3) ∧ 1 ≤ N) := ⟨by split at hN <;> omega⟩
  clear hz1
  go_enter Try.func12, Try.ntmps12
  go_wp2_with fail
  refine (hMay.out _).mono ?_
  rintro e_ w1 ⟨rfl, hb1⟩
  have kb := blk_below (blk_new w (.cells #[.int .u32 a, .int .i64 l] 25)) hb1
  have k0 : w1.cell? ⟨w.heap.size, 0, none⟩ = some (.int .u32 a) := blk_cell kb 0
  have k1 : w1.cell? ⟨w.heap.size, 1, none⟩ = some (.int .i64 l) := blk_cell kb 1
  have KB := Aside0.mk kb
  have HB1 := Aside0.mk (below_step (below_alloc (Below.refl _ _) _) hb1)
  clear hb1 kb
  go_wp2_with fail
  refine (hNew.out _).mono ?_
  rintro e_ w2 ⟨B, b1, b2, rfl, hS, hb2, hF⟩
  have HR : Aside0 (RI w w2 w.heap.size a l B b1 b2 _ _ _ _) := ⟨⟨hS, hrel.out, rfl, below_step HB1.out hb2, blk_below KB.out hb2, fun b hb => by
    have := hF b hb; have := HB1.out.size; have := blk_lt KB.out; exact ⟨by omega, by omega⟩⟩⟩
  clear hS hb2 hF k0 k1
  go_wp2_with fail
  refine (hFst.out _).mono ?_
  rintro e_ w3 ⟨rfl, hb3⟩
  have HR := Aside0.mk (HR.out.below hb3)
  have k0 : w3.cell? ⟨w.heap.size, 0, none⟩ = some (.int .u32 a) := blk_cell HR.out.obj 0
  have k1 : w3.cell? ⟨w.heap.size, 1, none⟩ = some (.int .i64 l) := blk_cell HR.out.obj 1
  clear hb3 hMay hNew hFst KB HB1
  go_wp2_with fail
  refine (hSz.out _).mono ?_
  rintro e_ w4 ⟨rfl, hb4⟩
  have HR := Aside0.mk (HR.out.below hb4)
  clear hb4 k0 k1
  have hz4 : (rnewM a l).size = z := hz
  have HQ := Aside0.mk (show (rnewM a l).pods = podsTo a 0 ∧ (rnewM a l).last = 1 + ((0 : Nat) : Int) ∧ (rnewM a l).size = z from ⟨rfl, rfl, hz4⟩)
  clear hz4 hz hrel
  generalize newM a l (a + z - 1) = M4 at *
  generalize rnewM a l = R4 at *
  generalize Value.slice none 0 0 = vn4 at HR
  go_upto_if 53 with fail
  go_cut [9] (fun v wx => v = .int .i64 (N : Int) ∧ wx = w4)
  case first =>
    by_cases hbig : z - 3 > 1024
    · rw [if_pos hbig] at hN
      go_wp2_with fail
      go_meet
      exact ⟨by rw [hN], rfl⟩
    · rw [if_neg hbig] at hN
      go_wp2_with fail
      go_meet
      exact ⟨by rw [hN], rfl⟩
  case rest =>
    obtain ⟨rfl, rfl⟩ := hcut
    clear hN
    go_wp2_with fail
    go_loopg [10] N (fun k v wr => ∃ (i : Nat) (vn vs : Value) (M : IpM) (R : RfM), v = .int .i64 (i : Int) ∧ i + k = N ∧ Aside0 (RI w wr w.heap.size a l B b1 b2 vn vs M R) ∧ Aside0 (R.pods = podsTo a i ∧ R.last = 1 + (i : Int) ∧ R.size = z))
    case atStart => exact ⟨0, vn4, vn4, M4, R4, rfl, by omega, HR, HQ⟩
    case round =>
      clear HR HQ
      obtain ⟨i, vn, vs, M, R, rfl, hi, HR, HQ⟩ := hrel
      cases gk with
      | succ k =>
        have hli : (i : Int) < (N : Int) := by omega
        have hnm := Aside0.mk (fun w => weftlaw15_name.calls 8 (i : Int) (nameV i) w (names_all i (by have := HN.out; omega)).1)
        have hadd := Aside0.mk (fun (w' : World) (h : RI w w' w.heap.size a l B b1 b2 vn vs M R) => add_i h i HQ.out.1 HQ.out.2.1 (by rw [HQ.out.2.2]; have := HN.out; omega) (by have := HN.out; omega))
        have HSZ := Aside0.mk HQ.out.2.2
        have hw1 : IntKind.i64.wrap ((i : Int) + 1) = ((i + 1 : Nat) : Int) := by rw [show (i : Int) + 1 = ((i + 1 : Nat) : Int) from by omega]; exact wrap64_id (by omega) (by have := HN.out; omega)
        clear HQ
        go_wp2_with fail
        refine (hnm.out _).mono ?_
        rintro e_ w5 ⟨rfl, hb5⟩
        have HR5 := Aside0.mk (HR.out.below hb5)
        clear hb5
        go_wp2_with fail
        refine (hadd.out _ HR5.out).mono ?_
        rintro e_ w6 ⟨rfl, vn', vs', M', R', hI, hp, hla, hsz⟩
        have HI := Aside0.mk hI
        have HQ := Aside0.mk (show R'.pods = podsTo a (i + 1) ∧ R'.last = 1 + ((i + 1 : Nat) : Int) ∧ R'.size = z from ⟨hp, hla, hsz.trans HSZ.out⟩)
        clear hI hp hla hsz HR5 hadd hnm
        go_wp2_with fail
        go_roundg k
        case measure => omega
        case rel => exact ⟨i + 1, vn', vs', M', R', rfl, by omega, HI, HQ⟩
      | zero =>
        obtain rfl : i = N := by omega
        have hlen : R.pods.length = i := by rw [HQ.out.1, podsTo_length]
        have hno : ∀ (s : ByteArray), s.size = 8 → ∀ c, (s, c) ∉ R.pods := fun s hs => by rw [HQ.out.1]; exact not_in_podsTo (by have := HN.out; omega) hs
        have HNO := Aside0.mk hno
        have HLEN := Aside0.mk hlen
        have hfull := Aside0.mk (HR.out.add_full 12 ⟨#[111, 110, 101, 45, 109, 111, 114, 101]⟩ (by decide) one_more (hno _ (by decide)) (by rw [hlen, HQ.out.2.2]; have := HN.out; omega))
        clear hno hlen
        go_wp2_with fail
        refine hfull.out.mono ?_
        rintro e_ w5 ⟨rfl, hb5⟩
        have HR := Aside0.mk (HR.out.below hb5)
        clear hb5 hfull
        go_wp2_with fail
        refine HR.out.list.mono ?_
        rintro e_ w6 ⟨v, rfl, hrow, hb6⟩
        obtain ⟨Av, cv, rfl⟩ := own_slice hrow
        have HR := Aside0.mk (HR.out.below hb6)
        rw [HLEN.out]
        clear hb6 hrow
        go_upto_if 83 with fail
        go_cut [1] (fun v wx => ∃ g0 : Int, v = .int .i64 g0 ∧ 0 ≤ g0 ∧ wx = w6)
        case first =>
          by_cases hneg : gone < 0
          · have hw1 : IntKind.i64.wrap (gone + 1) = gone + 1 := IntWalk.i64_in _ (by omega)
            have hw2 : IntKind.i64.wrap (-(gone + 1)) = -(gone + 1) := IntWalk.i64_in _ (by omega)
            go_wp2_with fail
            go_meet
            exact ⟨-(gone + 1), rfl, by omega, rfl⟩
          · go_wp2_with fail
            go_meet
            exact ⟨gone, rfl, by omega, rfl⟩
        case rest =>
          obtain ⟨g0, rfl, hg0, rfl⟩ := hcut
          obtain ⟨g, hgm⟩ : ∃ g : Nat, g0 % (i : Int) = (g : Int) := ⟨(g0 % (i : Int)).toNat, (Int.toNat_of_nonneg (Int.emod_nonneg _ (by have := HN.out; omega))).symm⟩
          have hgl : g < i := by have := Int.emod_lt_of_pos g0 (show (0 : Int) < (i : Int) by have := HN.out; omega); omega
          have htm : Int.tmod g0 (i : Int) = (g : Int) := (Int.tmod_eq_emod_of_nonneg hg0).trans hgm
          have hi0 : ¬ (i : Int) = 0 := by have := HN.out; omega
          have hi0B : ((i : Int) == 0) = false := by simp; have := HN.out; omega
          clear hgm hg0
          have hnm := Aside0.mk (fun w => weftlaw15_name.calls 8 (g : Int) (nameV g) w (names_all g (by have := HN.out; omega)).1)
          have hn7 : (nameV g).size ≤ maxLen := by rw [(names_all g (by have := HN.out; omega)).2.2.2]; decide
          have hdel := Aside0.mk (fun (w' : World) (h : RI w w' w.heap.size a l B b1 b2 vn vs M R) => h.del (nameV g) hn7 (a + 2 + g) (by rw [HQ.out.1]; exact podsTo_has a hgl))
          have HGL := Aside0.mk hgl
          clear hn7 hgl
          go_wp2_with fail
          refine (hnm.out _).mono ?_
          rintro e_ w7 ⟨rfl, hb7⟩
          have HR := Aside0.mk (HR.out.below hb7)
          clear hb7 hnm htm hi0 hi0B
          go_wp2_with fail
          refine (hdel.out _ HR.out).mono ?_
          rintro e_ w8 ⟨rfl, vs8, M8, p8, hI, hperm⟩
          have HP := Aside0.mk (show (podsTo a i).Perm ((nameV g, a + 2 + g) :: p8) from by rw [← HQ.out.1]; exact hperm)
          have hl8 : p8.length + 1 = i := by have := hperm.length_eq; rw [List.length_cons, HLEN.out] at this; omega
          have hno8 : ∀ (s : ByteArray), s.size = 8 → ∀ c, (s, c) ∉ p8 := fun s hs c hm => HNO.out s hs c (hperm.mem_iff.2 (List.mem_cons_of_mem _ hm))
          have HNO8 := Aside0.mk hno8
          have HL8 := Aside0.mk hl8
          have HI := Aside0.mk hI
          have hnew := Aside0.mk (hI.add_new 12 ⟨#[111, 110, 101, 45, 109, 111, 114, 101]⟩ (by decide) one_more (hno8 _ (by decide)) (by show p8.length < 1024; have := HN.out; omega) (by show (p8.length : Int) < R.size - 3; rw [HQ.out.2.2]; have := HN.out; omega))
          clear hperm hl8 hno8 hI hdel HR
          go_wp2_with fail
          refine hnew.out.mono ?_
          rintro e_ w9 ⟨y, rfl, hy0, hy1, hyf, vn9, vs9, M9, hI9⟩
          have HY : Aside0 (2 ≤ y ∧ y ≤ z - 2 ∧ holderF p8 (a + y) < 0) := ⟨hy0, by rw [← HQ.out.2.2]; exact hy1, hyf⟩
          have hfull2 := Aside0.mk (hI9.add_full 12 ⟨#[116, 119, 111, 45, 109, 111, 114, 101]⟩ (by decide) two_more (fun c hm => by
            have hm2 : (⟨#[116, 119, 111, 45, 109, 111, 114, 101]⟩, c) ∈ p8 ++ [((⟨#[111, 110, 101, 45, 109, 111, 114, 101]⟩ : ByteArray), R.base + y)] := hm
            rcases List.mem_append.1 hm2 with h | h
            · exact HNO8.out _ (by decide) _ h
            · have h2 := List.mem_singleton.1 h
              injection h2 with h3 _
              injection h3 with h4
              exact absurd h4 (by decide))
            (by
              have e : (raddS { R with pods := p8 } ⟨#[111, 110, 101, 45, 109, 111, 114, 101]⟩ y).pods.length = i := by
                show (p8 ++ [_]).length = i
                rw [List.length_append]; exact HL8.out
              have e2 : (raddS { R with pods := p8 } ⟨#[111, 110, 101, 45, 109, 111, 114, 101]⟩ y).size = z := HQ.out.2.2
              rw [e, e2]; have := HN.out; omega))
          have HI9 := Aside0.mk hI9
          clear hy0 hy1 hyf hI9 hnew HI
          go_wp2_with fail
          refine hfull2.out.mono ?_
          rintro e_ w10 ⟨rfl, hb10⟩
          have HR := Aside0.mk (HI9.out.below hb10)
          clear hb10 hfull2 HI9
          have k0 : w10.cell? ⟨w.heap.size, 0, none⟩ = some (.int .u32 a) := blk_cell HR.out.obj 0
          have k1 : w10.cell? ⟨w.heap.size, 1, none⟩ = some (.int .i64 l) := blk_cell HR.out.obj 1
          go_wp2_with fail
          refine (hSz.out _).mono ?_
          rintro e_ w11 ⟨rfl, hb11⟩
          have HR := Aside0.mk (HR.out.below hb11)
          clear hb11 k0 k1
          have HEQ : Aside0 (¬ z - 3 > (i : Int) → a + 2 + (g : Int) = a + y) := ⟨fun h => full_addr HP.out (by have := HN.out; omega) HY.out.1 HY.out.2.1 HY.out.2.2⟩
          by_cases hbig : z - 3 > (i : Int)
          · go_wp2_with fail
            go_ret
            exact ⟨rfl, HR.out.bel⟩
          · have he := HEQ.out hbig
            rw [he]
            go_wp2_with fail
            go_ret
            exact ⟨by simp, HR.out.bel⟩
set_option maxHeartbeats 16000000 in
set_option maxRecDepth 100000 in
theorem full_bad (w : World) (a l gone : Int) (h0 : 0 ≤ a) (h1 : a < 4294967296) (hg : ¬ Good a l) :
    Calls Try.prog 12 #[.agg #[.int .u32 a, .int .i64 l], .int .i64 gone] w fun e w' => e = .returned (.bool true) ∧ Below w.heap.size w w' := by
  obtain ⟨mb, hmay, hmb⟩ := may_val a l h0 h1
  obtain rfl : mb = false := by cases mb with | false => rfl | true => exact absurd (hmb.1 rfl) hg
  have hMay := Aside0.mk (fun w => weftlaw15_may.calls 40 a l false w hmay)
  have hNew := Aside0.mk (fun w => new_bad_any w a l h0 h1 hg)
  have hFst := Aside0.mk first16
  clear hg hmay hmb
  go_enter Try.func12, Try.ntmps12
  go_wp2_with fail
  refine (hMay.out _).mono ?_
  rintro e_ w1 ⟨rfl, hb1⟩
  have kb := blk_below (blk_new w (.cells #[.int .u32 a, .int .i64 l] 25)) hb1
  have k0 : w1.cell? ⟨w.heap.size, 0, none⟩ = some (.int .u32 a) := blk_cell kb 0
  have k1 : w1.cell? ⟨w.heap.size, 1, none⟩ = some (.int .i64 l) := blk_cell kb 1
  have HB1 := Aside0.mk (below_step (below_alloc (Below.refl _ _) _) hb1)
  clear hb1 kb
  go_wp2_with fail
  refine (hNew.out _).mono ?_
  rintro e_ w2 ⟨rfl, hb2⟩
  have HB2 := Aside0.mk (below_step HB1.out hb2)
  clear hb2 k0 k1
  go_wp2_with fail
  refine (hFst.out _).mono ?_
  rintro e_ w3 ⟨rfl, hb3⟩
  have HB3 := Aside0.mk (below_step HB2.out hb3)
  clear hb3
  go_wp2_with fail
  go_ret
  exact ⟨rfl, HB3.out⟩
theorem full_all (w : World) (a l gone : Int) (h0 : 0 ≤ a) (h1 : a < 4294967296) (hk : (Lit.int .i64 gone).wf = true) :
    Calls Try.prog 12 #[.agg #[.int .u32 a, .int .i64 l], .int .i64 gone] w fun e w' => e = .returned (.bool true) ∧ Below w.heap.size w w' := by
  have e1 : IntKind.i64.min = -9223372036854775808 := by decide
  have e2 : IntKind.i64.max = 9223372036854775807 := by decide
  simp [Lit.wf, e1, e2] at hk
  rcases Classical.em (Good a l) with hg | hb
  · exact full_main w a l gone h0 h1 hg (by omega) (by omega)
  · exact full_bad w a l gone h0 h1 hb
end Go.Proofs.Ytgabkifojnkbkaa.Ip
