/- package ipam's List walked, for a subnet with up to 12 pods. No condition beyond the state's own. -/
import Derived.Test.YtgabkifojnkbkaaIpmO
set_option linter.unusedVariables false
set_option linter.unusedSimpArgs false
namespace Go.Proofs.Ytgabkifojnkbkaa.Ip
open Go.RowKit Go.Maps Go.Sort Go.Shelf Go.WideMaps Go.MapKept Go.Proofs.YtgabkifojnkbkaaW.PrintWords Go.Proofs.Ytgabkifojnkbkaa.PIpf
set_option maxRecDepth 100000 in
theorem AM.look {w : World} {b n : Nat} {f : Int → Option Int} (h : AM w b f n) {k : Int} (hk0 : 0 ≤ k) (hk1 : k < 4294967296) {r : Int} (hf : f k = some r) : (Instr.lookup 74 (.map (some b)) (.int .u32 k) false).run Try.prog w = .ok (.int .i64 r) w := by
  obtain ⟨D, hown, hsz, hD⟩ := h
  obtain ⟨h1, h2⟩ := (hD k (wf32 hk0 hk1)).2 r hf
  obtain ⟨c, hrun, hat, hwc⟩ := hown.lookup_int lawA Try.underlying74 Try.underlying3 (zero3 w) (keyOf_int_mk Try.underlying23 (wf32 hk0 hk1))
  rw [h2] at hat
  have e : r = c := by injection hat with e1; injection e1
  rw [hrun, e]
/-- an append to a row of pods, as the region that draws makes it -/
theorem pods_app {w4 : World} {base : Nat} {A : Option Addr} {n cp : Nat} {ps : List Pod} (h : w4.ownsRow base 84 2 (.slice A n cp) n (podCells ps)) (hb : base ≤ w4.heap.size) (s : ByteArray) (z : Int) (hl : n < 4096) :
    ∃ (v : Value) (w5 : World), (Builtin.append_ #[45, 45] 45 #[.slice A n cp, .slice (some ⟨w4.heap.size, 0, none⟩) 1 1]).run Try.prog (w4.alloc (.cells #[.string s, .int .u32 z] 84)).drew = .ok v w5 ∧
      w5.ownsRow base 84 2 v (n + 1) (podCells (ps ++ [(s, z)])) ∧ w4.grownBy w5 (Value.slice A n cp).ownBlock := by
  obtain ⟨i0, hi, hzz⟩ := Option.map_eq_some_iff.1 info84
  simp only [Prod.mk.injEq] at hzz
  obtain ⟨hz0, hz1, hz2⟩ := hzz
  have hW : (w4.alloc (.cells #[.string s, .int .u32 z] 84)).drew.ownsRow base 84 2 (.slice A n cp) n (podCells ps) := (h.alloc _).drew
  obtain ⟨v', w5, hrun, hown, hg, _, hloc⟩ := run_append_own_at (P := Try.prog) (w4.alloc (.cells #[.string s, .int .u32 z] 84)).drew base 45 45 84 i0 _ 2 24 Try.underlying45 hi hz0 hz1 hz2 rfl (by omega) (.slice A n cp) n (podCells ps) hW
    ⟨w4.heap.size, 0, none⟩ 1 1 [.string s, .int .u32 z] rfl (World.news_of_block (cs := #[.string s, .int .u32 z]) (t := 84) (fr := (0, 0)) (heap_alloc_new w4 _)) (by intro u hu; simp at hu; rcases hu with rfl | rfl <;> rfl) (by unfold maxLen; omega) (by omega) (by show base ≤ (w4.alloc (.cells #[.string s, .int .u32 z] 84)).heap.size; rw [World.size_alloc]; omega)
  have hG : w4.grownBy w5 (Value.slice A n cp).ownBlock := World.grownBy.trans (World.grownBy_alloc w4 (.cells #[.string s, .int .u32 z] 84) _) ⟨hg.os, hg.tape, hg.output, hg.size, hg.block⟩
  refine ⟨v', w5, hrun, ?_, hG⟩
  rw [podCells_append]; exact hown
def podF (M : IpM) (a : Int) : Pod := (M.names.getD ((M.byA a).getD 0).toNat ⟨#[]⟩, a)
def listF (M : IpM) (l : List Int) : List Pod := l.map (podF M)
theorem listF_snoc (M : IpM) (l : List Int) (i : Nat) (hi : i < l.length) : listF M (l.take (i + 1)) = listF M (l.take i) ++ [podF M (atA l i)] := by
  rw [listF, listF, List.take_succ_eq_append_getElem hi, List.map_append]
  simp [atA, List.getD_eq_getElem?_getD, List.getElem?_eq_getElem hi]
set_option maxHeartbeats 16000000 in
set_option maxRecDepth 100000 in
theorem list30 (w : World) (B b1 b2 : Nat) (vn vs : Value) (M : IpM) (hok : M.Ok) (hcnt : M.cnt ≤ 12) (HS : IpS w B b1 b2 vn vs M) :
    Calls Try.prog 30 #[.pointer (some ⟨B, 0, none⟩)] w fun e w' => ∃ v l, e = .returned v ∧ KeysIn M.byA l ∧ l.length ≤ M.cnt ∧ w'.ownsRow w.heap.size 84 2 v l.length (podCells (listF M l)) ∧ Below w.heap.size w w' := by
  have k6 : w.cell? ⟨B, 6, none⟩ = some (.map (some b2)) := HS.cell 6
  have hk := keys51 w b2
  have hA1 : AM (w.alloc (.cells #[.map (some b2)] 74)) b2 M.byA M.cnt := (HS.below (below_alloc (Below.refl _ _) _)).m2
  have hs := Aside0.mk (sorted50 (w.alloc (.cells #[.map (some b2)] 74)) b2 w.heap.size M.cnt M.byA hA1 (by rw [World.size_alloc]; omega) (blk_cell (heap_alloc_new w _) 0) hcnt)
  have HSS := Aside0.mk HS
  have HOK := Aside0.mk hok
  clear HS hok hA1
  go_enter Try.func30, Try.ntmps30
  go_wp2_with (first | (go_at_call 51; refine hk.mono ?_; rintro e_ w1 ⟨rfl, rfl⟩) | (go_at_call 50; refine hs.out.mono ?_; rintro e_ w2 ⟨vk, l, rfl, hK, hlen, hrow, hb2⟩; obtain ⟨Ak, ck, rfl⟩ := own_slice hrow; have HB2 := Aside0.mk ((below_alloc (Below.refl _ w) _).trans (hb2.mono (by rw [World.size_alloc]; omega))); have HROW := Aside0.mk hrow; have HK := Aside0.mk hK; have HLEN := Aside0.mk hlen; clear hrow hb2 hK hlen) | go_in)
  have hl12 : l.length ≤ 12 := Nat.le_trans HLEN.out hcnt
  clear hs hk k6
  generalize (w.alloc (Obj.cells #[Value.map (some b2)] 74)).heap.size = bs at HROW
  go_loopw [3, 13] (fun vl vi wr => ∃ (i : Nat), vi = .int .i64 i ∧ i ≤ l.length ∧ Aside0 (wr.ownsRow w.heap.size 84 2 vl i (podCells (listF M (l.take i)))) ∧ Aside0 (wr.ownsRow bs 23 1 (.slice Ak l.length ck) l.length (l.map encA)) ∧ Aside0 (Below w.heap.size w wr)) (fun _ vi _ => l.length - (intOf vi).toNat)
  case atStart => exact ⟨0, rfl, by omega, ⟨own_nil _ _ _ _⟩, HROW, HB2⟩
  case round =>
    clear HROW HB2
    obtain ⟨i, rfl, hi, HO, HR, HB⟩ := hrel
    by_cases hlt : i < l.length
    · have hli : (i : Int) < (l.length : Int) := by omega
      obtain ⟨gk, cap, e, _, _⟩ := HR.out.form (by omega)
      injection e with e1 e2 e3
      subst e1 e3
      clear e2
      have hc := row_atA HR.out i hlt
      have hts := listF_snoc M l i hlt
      have hmem : atA l i ∈ l := by simp only [atA, List.getD_eq_getElem?_getD, List.getElem?_eq_getElem hlt, Option.getD_some]; exact List.getElem_mem hlt
      obtain ⟨ha0, ha1, han⟩ := (HK.out.2 _).1 hmem
      have HTS := Aside0.mk hts
      clear hts hmem
      generalize listF M (l.take i) = li at *
      generalize atA l i = a at *
      obtain ⟨t, hbt⟩ := Option.ne_none_iff_exists'.1 han
      obtain ⟨ht0, ht1⟩ := HOK.out.at_ a t hbt
      have HS1 := Aside0.mk (HSS.out.below HB.out)
      obtain ⟨gn, cn, rfl, _, _⟩ := HS1.out.nm.form (by omega)
      have klk := (HS1.out.m2.step (w1 := wr.drew) rfl).look ha0 ha1 hbt
      have k6 : wr.cell? ⟨B, 6, none⟩ = some (.map (some b2)) := HS1.out.cell 6
      have k7 : wr.cell? ⟨B, 7, none⟩ = some (.slice (some ⟨gn, 0, none⟩) M.names.length cn) := HS1.out.cell 7
      have kt := name_at HS1.out.nm ht0 ht1
      have hpod : podF M a = (M.names.getD t.toNat ⟨#[]⟩, a) := by simp [podF, hbt]
      rw [hpod] at HTS
      generalize M.names.getD t.toNat ⟨#[]⟩ = nv at *
      obtain ⟨A3, c3, rfl⟩ := own_slice HO.out
      obtain ⟨v5, w5, r5, ho5, hg5⟩ := pods_app HO.out HB.out.size nv a (by omega)
      have R5 := Aside0.mk r5
      have HO5 := Aside0.mk ho5
      have HG5 := Aside0.mk hg5
      clear r5 ho5 hg5 hpod hbt
      go_wp2
      go_region_law (refine step_append_run rfl (.tmp 17) (.tmp 32) 45 rfl (by rfl) (by rfl) R5.out ?_)
      all_goals
        go_wp2
        have hne : some gk ≠ (Value.slice A3 i c3).ownBlock := fun e => by
          obtain ⟨x1, h1⟩ := own_typed HO.out _ e.symm
          obtain ⟨x2, h2⟩ := own_typed HR.out gk rfl
          rw [h1] at h2; cases h2
        exact ⟨⟨i + 1, by simp, by omega, ⟨by rw [HTS.out]; exact HO5.out⟩, ⟨row_step HR.out (fun k hk => by cases hk; exact HG5.out.block gk (HR.out.lt gk rfl).2 hne)⟩, ⟨HB.out.grown HG5.out HB.out.size (fun k e => (HO.out.lt k e).1)⟩⟩, by simp [intOf]; omega⟩
    · obtain rfl : i = l.length := by omega
      rw [List.take_length] at HO
      go_wp2
      go_ret
      exact ⟨_, l, rfl, HK.out, HLEN.out, HO.out, HB.out⟩
end Go.Proofs.Ytgabkifojnkbkaa.Ip
