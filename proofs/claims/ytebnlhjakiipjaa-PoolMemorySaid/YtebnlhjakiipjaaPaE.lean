/- What New finds wrong of the kept ones, in plain words; the map of kept numbers. No condition beyond the kinds' own ranges. New walked. Conditions: the numbers are of their kinds. -/
import Derived.Test.YtebnlhjakiipjaaPaD
import Derived.Test.YtebnlhjakiipjaaSortI
set_option linter.unusedVariables false
set_option linter.unusedSimpArgs false
namespace Go.Proofs.Ytebnlhjakiipjaa.Pl
open Go.RowKit Go.Maps Go.WideMaps Go.MapKept Go.WideShapes Go.Proofs.YtebnlhjakiipjaaW.PrintWords Go.Proofs.YtebnlhjakiipjaaW.PrintMore Go.Proofs.YtebnlhjakiipjaaW.PrintLast Go.Proofs.Ytebnlhjakiipjaa.PPlf
open Go.ChangeMaps (setBlock)
def isKf (l : List Int) : Int → Option Int := fun x => if x ∈ l then some 1 else none
def M0 (na nl s lo hi : Int) (ks : List Int) : Pm := ⟨na, nl, s, lo / sizeF s, hi / sizeF s, ks, isKf ks⟩
def keptE (na nl s : Int) : List Int → List S27 → Int
  | _, [] => 0
  | seen, k :: r => if ¬ sub ⟨na, nl, s, 0, 0, [], fun _ => none⟩ k.f0 k.f1 then 100 else if ¬ ins na nl k.f0 then 101 else if k.f0 ∈ seen then 5 else keptE na nl s (seen ++ [k.f0]) r
def newE (na nl s lo hi : Int) (kept : List S27) : Int := if 1024 < kept.length then 2 else if faultF na nl s lo hi ≠ 0 then faultF na nl s lo hi else keptE na nl s [] kept
/-- what the kept ones must be -/
structure KeptOk (na nl s : Int) (kept : List S27) : Prop where
  all : ∀ k, k ∈ kept → k.f1 = s ∧ vld k.f0 s ∧ ins na nl k.f0
  nd : (kept.map (·.f0)).Nodup
theorem keptE_ok {na nl s : Int} : ∀ (kept : List S27) (seen : List Int), keptE na nl s seen kept = 0 ↔ (∀ k, k ∈ kept → k.f1 = s ∧ vld k.f0 s ∧ ins na nl k.f0) ∧ (kept.map (·.f0)).Nodup ∧ ∀ k, k ∈ kept → k.f0 ∉ seen
  | [], seen => by simp [keptE]
  | k :: r, seen => by
    unfold keptE
    by_cases c1 : sub ⟨na, nl, s, 0, 0, [], fun _ => none⟩ k.f0 k.f1
    · rw [if_neg (fun h => h c1)]
      have e1 : k.f1 = s := c1.1
      have v1 := c1.2
      by_cases c2 : ins na nl k.f0
      · rw [if_neg (fun h => h c2)]
        by_cases c3 : k.f0 ∈ seen
        · rw [if_pos c3]
          constructor
          · intro h; omega
          · rintro ⟨_, _, h⟩; exact absurd c3 (h k List.mem_cons_self)
        · rw [if_neg c3, keptE_ok r, List.map_cons, List.nodup_cons]
          constructor
          · rintro ⟨h1, h2, h3⟩
            refine ⟨fun x hx => ?_, ⟨fun hm => ?_, h2⟩, fun x hx => ?_⟩
            · rcases List.mem_cons.1 hx with rfl | hx
              · exact ⟨e1, e1 ▸ v1, c2⟩
              · exact h1 x hx
            · obtain ⟨y, hy, e⟩ := List.mem_map.1 hm
              exact h3 y hy (by rw [e]; simp)
            · rcases List.mem_cons.1 hx with rfl | hx
              · exact c3
              · exact fun hc => h3 x hx (List.mem_append.2 (.inl hc))
          · rintro ⟨h1, ⟨h2, h3⟩, h4⟩
            refine ⟨fun x hx => h1 x (List.mem_cons_of_mem _ hx), h3, fun x hx hc => ?_⟩
            rcases List.mem_append.1 hc with hc | hc
            · exact h4 x (List.mem_cons_of_mem _ hx) hc
            · rw [List.mem_singleton] at hc
              exact h2 (List.mem_map.2 ⟨x, hx, hc⟩)
      · rw [if_pos c2]
        constructor
        · intro h; omega
        · rintro ⟨h, _⟩; exact absurd (h k List.mem_cons_self).2.2 c2
    · rw [if_pos c1]
      constructor
      · intro h; omega
      · rintro ⟨h, _⟩
        have := h k List.mem_cons_self
        exact absurd ⟨this.1, by rw [this.1]; exact this.2.1⟩ c1
theorem newE_ok {na nl s lo hi : Int} {kept : List S27} : newE na nl s lo hi kept = 0 ↔ kept.length ≤ 1024 ∧ GoodP na nl s lo hi ∧ KeptOk na nl s kept := by
  unfold newE
  by_cases c1 : 1024 < kept.length
  · rw [if_pos c1]
    constructor
    · intro h; omega
    · rintro ⟨h, _⟩; omega
  · rw [if_neg c1]
    by_cases c2 : faultF na nl s lo hi = 0
    · rw [if_neg (fun h => h c2), keptE_ok]
      constructor
      · rintro ⟨h1, h2, _⟩; exact ⟨by omega, faultF_ok.1 c2, h1, h2⟩
      · rintro ⟨_, _, h1, h2⟩; exact ⟨h1, h2, fun _ _ hc => by cases hc⟩
    · rw [if_pos c2]
      constructor
      · intro h; exact absurd h c2
      · rintro ⟨_, h, _⟩; exact absurd (faultF_ok.2 h) c2
theorem keptE_cons (na nl s : Int) (seen : List Int) (k : S27) (r : List S27) : keptE na nl s seen (k :: r) = if ¬ sub ⟨na, nl, s, 0, 0, [], fun _ => none⟩ k.f0 k.f1 then 100 else if ¬ ins na nl k.f0 then 101 else if k.f0 ∈ seen then 5 else keptE na nl s (seen ++ [k.f0]) r := rfl
/-- numbers and addresses tell the same -/
theorem num_mem {s : Int} (h0 : 0 ≤ s) (h1 : s ≤ 32) {l : List Int} {a : Int} (hl : ∀ x, x ∈ l → x % sizeF s = 0) (ha : a % sizeF s = 0) : a / sizeF s ∈ l.map (· / sizeF s) ↔ a ∈ l := by
  constructor
  · intro h
    obtain ⟨x, hx, e⟩ := List.mem_map.1 h
    have e1 := div_mul (hl x hx)
    have e2 := div_mul ha
    have e' : x / sizeF s = a / sizeF s := e
    rw [e', e2] at e1
    rw [e1]; exact hx
  · intro h
    exact List.mem_map.2 ⟨a, h, rfl⟩
theorem isKf_put (l : List Int) (k : Int) : (fun x => if x = k then some 1 else isKf l x) = isKf (l ++ [k]) := by
  funext x
  unfold isKf
  by_cases e : x = k
  · subst e; rw [if_pos rfl, if_pos (by simp)]
  · rw [if_neg e]
    by_cases h : x ∈ l
    · rw [if_pos h, if_pos (by simp [h])]
    · rw [if_neg h, if_neg (by simp [h, e])]
theorem int_ne {s x : Int} (h : x ≠ s) : (Lit.int .i64 x) ≠ Lit.int .i64 s := fun e => by injection e with _ e; exact h e
set_option maxRecDepth 100000 in
theorem KM.put {w : World} {b n : Nat} {f : Int → Option Int} (h : KM w b f n) (hn : n < maxLen) {k : Int} (hk : (Lit.int .i64 k).wf = true) (hf : f k = none) :
    ∃ w', (Instr.mapUpdate 62 (.map (some b)) (.int .i64 k) (.int .i64 1)).run Try.prog w = .ok () w' ∧ KM w' b (fun x => if x = k then some 1 else f x) (n + 1) ∧ w.grownBy w' (some b) := by
  obtain ⟨D, hown, hsz, hD⟩ := h
  have hkey := keyOf_int_mk Try.underlying2 hk
  obtain ⟨w', hrun, r1, es, cl, es', cl', hb, hw⟩ := hown.store lawK Try.underlying62 hn hkey (plainElem_int Try.underlying3 (wf64 (a := 1) (by omega) (by omega)))
  refine ⟨w', hrun, ⟨_, r1, ?_, fun x hx => ?_⟩, ?_⟩
  · rw [size_put (hown.tidy lawK), (hD k hk).1 hf]; simp [hsz]
  · by_cases e : x = k
    · subst e
      show (_ = none → _) ∧ _
      simp only [if_pos rfl]
      refine ⟨fun h => (by cases h), fun a' ha' => ?_⟩
      obtain rfl := Option.some.inj ha'
      exact ⟨has_put_same hown.isMap (lawK.key hkey) _, fun z => atKey_put_same hown.isMap (lawK.key hkey) _ _⟩
    · simp only [if_neg e]
      rw [has_put_other (int_ne e)]
      refine ⟨(hD x hx).1, fun a' ha' => ⟨((hD x hx).2 a' ha').1, fun z => ?_⟩⟩
      rw [atKey_put_other (int_ne e)]
      exact ((hD x hx).2 a' ha').2 z
  · subst hw
    exact ⟨rfl, rfl, rfl, by simp [setBlock], fun j hj hne => by simp [setBlock, Array.getElem?_setIfInBounds, show b ≠ j from fun e => hne (by rw [e])]⟩
theorem KM.made {w : World} {b : Nat} (h : w.heap[b]? = some (.map #[] 0)) : KM w b (fun _ => none) 0 := by
  refine ⟨.map [], ⟨#[], 0, h, ?_, by simp, by simp⟩, rfl, fun s hs => ⟨fun _ => rfl, fun a ha => by cases ha⟩⟩
  obtain ⟨es, clock, h1, F, h2, h3⟩ := World.ownsMap_made (H := Unit) w Try.prog 2 (plainElem Try.prog 3)
  rw [heap_alloc_new] at h1
  injection h1 with h1
  injection h1 with h1 h1'
  subst h1 h1'
  exact F
end Go.Proofs.Ytebnlhjakiipjaa.Pl

set_option linter.unusedVariables false
set_option linter.unusedSimpArgs false
namespace Go.Proofs.Ytebnlhjakiipjaa.Pl
open Go.RowKit Go.Maps Go.WideMaps Go.MapKept Go.WideShapes Go.Proofs.YtebnlhjakiipjaaW.PrintWords Go.Proofs.YtebnlhjakiipjaaW.PrintMore Go.Proofs.YtebnlhjakiipjaaW.PrintLast Go.Proofs.Ytebnlhjakiipjaa.PPlf
open Go.ChangeMaps (setBlock)
/-- what New leaves: its error and no pool, or a pool of which nothing is taken -/
def NewPost (w : World) (na nl s lo hi : Int) (kept : List S27) (srt : List Int → List Int) (e : Ending) (w' : World) : Prop :=
  (newE na nl s lo hi kept ≠ 0 ∧ e = .returned (.tuple #[.pointer none, .int .i64 (newE na nl s lo hi kept)]) ∧ Below w.heap.size w w') ∨
  (newE na nl s lo hi kept = 0 ∧ ∃ b vk bm, e = .returned (.tuple #[.pointer (some ⟨b, 0, none⟩), .int .i64 0]) ∧ PlS w' b vk bm (.slice none 0 0) (M0 na nl s lo hi (srt (kept.map (fun k => k.f0 / sizeF s)))) [] ∧ (∀ k, k ∈ PlF b vk bm (.slice none 0 0) → w.heap.size ≤ k) ∧ Below w.heap.size w w')
theorem info2 : (Try.prog.info? 2).map (fun i => (i.zero, i.size, i.bytes)) = some (some (.int .i64 0), 1, 8) := by kernel_rfl
theorem own_ne_block {w : World} {base e s n : Nat} {v : Value} {xs : List Value} (h : w.ownsRow base e s v n xs) {g t : Nat} {cs : Array Value} (hg : w.heap[g]? = some (.cells cs t (0, 0))) (ht : t ≠ e) : some g ≠ v.ownBlock := fun e' => by
  obtain ⟨c, hc⟩ := own_typed h g e'.symm
  rw [hc] at hg
  exact ht ((Obj.cells.inj (Option.some.inj hg)).2.1.symm)
/-- the sort, over any row of the caller's own, nil too -/
theorem sort_any {w : World} {n Ps b cap : Nat} {A : Option Addr} {xs : List Int} (h : w.ownsRow 0 2 1 (.slice A n cap) n (xs.map (Value.int .i64))) (hn : n < 4611686018427387904)
    (hp : w.cell? ⟨Ps, 0, none⟩ = some (.pointer (some ⟨b, 0, none⟩))) (hs : w.cell? ⟨b, 5, none⟩ = some (.slice A n cap)) (hP1 : Ps < w.heap.size) (hP2 : some Ps ≠ (Value.slice A n cap).ownBlock) (hb1 : b < w.heap.size) (hb2 : some b ≠ (Value.slice A n cap).ownBlock) :
    Calls Try.prog 31 #[.iface 63 (.slice A n cap), .func (.func 32) #[] #[.pointer (some ⟨Ps, 0, none⟩)]] w fun e w' =>
      e = .returned (.tuple #[]) ∧ w'.ownsRow 0 2 1 (.slice A n cap) n ((SortI.srt xs).map (Value.int .i64)) ∧ w.grownBy w' (Value.slice A n cap).ownBlock := by
  have h2 := h
  rcases h.2 with ⟨e, h0⟩ | ⟨g, cap', cur, e, _⟩
  · injection e with e1 e2 e3
    subst e1 e2 e3
    have hx : xs = [] := by have := h.1; rw [List.length_map] at this; exact List.eq_nil_of_length_eq_zero (by omega)
    subst hx
    refine (SortI.sort_tiny none 0 0 Ps (by omega) w).mono ?_
    rintro e w' ⟨rfl, os, rfl⟩
    refine ⟨rfl, by rw [SortI.srt_small (by simp)]; exact World.ownsRow_nil _ _ _ _, ⟨rfl, rfl, rfl, ?_, fun k hk _ => ?_⟩⟩
    · show w.heap.size ≤ (w.heap ++ os).size
      rw [Array.size_append]; omega
    · show (w.heap ++ os)[k]? = _
      rw [Array.getElem?_append_left hk]
  · injection e with e1 e2 e3
    subst e1
    exact SortI.sort_own h2 hn hp hs hP1 (fun e => hP2 (by rw [e]; rfl)) hb1 (fun e => hb2 (by rw [e]; rfl))
/-- New's state behind the first i kept ones -/
structure NSt (w : World) (na nl s lo hi : Int) (kept : List S27) (b bm p13 : Nat) (i : Nat) (vk : Value) (wr : World) : Prop where
  pl : PlS wr b vk bm (.slice none 0 0) (M0 na nl s lo hi ((kept.take i).map (fun k => k.f0 / sizeF s))) []
  bp : wr.heap[p13]? = some (.cells #[.pointer (some ⟨b, 0, none⟩)] 31 (0, 0))
  bn : wr.heap[w.heap.size]? = some (.cells #[.int .u32 na, .int .i64 nl] 27 (0, 0))
  bel : Below w.heap.size w wr
  fr : ∀ k, k ∈ PlF b vk bm (.slice none 0 0) → w.heap.size ≤ k
  he : keptE na nl s ((kept.take i).map (·.f0)) (kept.drop i) = keptE na nl s [] kept
  al : ∀ x, x ∈ (kept.take i).map (·.f0) → x % sizeF s = 0
section
variable {w wr w' : World} {na nl s lo hi : Int} {kept : List S27} {b bm p13 i : Nat} {vk : Value}
theorem NSt.below (h : NSt w na nl s lo hi kept b bm p13 i vk wr) (hb : Below wr.heap.size wr w') : NSt w na nl s lo hi kept b bm p13 i vk w' :=
  ⟨h.pl.below hb, blk_below h.bp hb, blk_below h.bn hb, below_step h.bel hb, h.fr, h.he, h.al⟩
theorem NSt.at_ (h : NSt w na nl s lo hi kept b bm p13 i vk wr) (hi2 : i < kept.length) : kept.drop i = rd_T27 kept i :: kept.drop (i + 1) := by
  rw [List.drop_eq_getElem_cons hi2]
  congr 1
  unfold rd_T27
  rw [List.getD_eq_getElem?_getD, Int.toNat_natCast, List.getElem?_eq_getElem hi2]; rfl
theorem take_at (hi2 : i < kept.length) : kept.take (i + 1) = kept.take i ++ [rd_T27 kept i] := by
  rw [List.take_succ_eq_append_getElem hi2]
  congr 2
  unfold rd_T27
  rw [List.getD_eq_getElem?_getD, Int.toNat_natCast, List.getElem?_eq_getElem hi2]; rfl
end
set_option maxHeartbeats 16000000 in
set_option maxRecDepth 100000 in
theorem new_long (w : World) (na nl s lo hi : Int) (A : Option Addr) (kept : List S27) (c : Nat) (h : 1024 < kept.length) (hm : kept.length ≤ maxLen) (srt : List Int → List Int) :
    Calls Try.prog 10 #[.agg #[.int .u32 na, .int .i64 nl], .int .i64 s, .int .u32 lo, .int .u32 hi, .slice A kept.length c] w (NewPost w na nl s lo hi kept srt) := by
  have hE : newE na nl s lo hi kept = 2 := by unfold newE; rw [if_pos h]
  have hcb : decide ((1024 : Int) < (kept.length : Int)) = true := decide_eq_true (by omega)
  have HE := Aside0.mk hE
  clear hE h
  go_enter Try.func10, Try.ntmps10
  go_wp2_with fail
  go_ret2
  refine .inl ⟨by rw [HE.out]; omega, by rw [HE.out]; rfl, below_alloc (Below.refl _ _) _⟩
set_option maxHeartbeats 16000000 in
set_option maxRecDepth 100000 in
theorem new_fault (w : World) (na nl s lo hi : Int) (A : Option Addr) (kept : List S27) (c : Nat) (h : kept.length ≤ 1024) (hb0 : 0 ≤ na) (hb1 : na < 4294967296) (hl0 : 0 ≤ lo) (hl1 : lo < 4294967296) (hh0 : 0 ≤ hi) (hh1 : hi < 4294967296) (hf : faultF na nl s lo hi ≠ 0) (srt : List Int → List Int) :
    Calls Try.prog 10 #[.agg #[.int .u32 na, .int .i64 nl], .int .i64 s, .int .u32 lo, .int .u32 hi, .slice A kept.length c] w (NewPost w na nl s lo hi kept srt) := by
  have hE : newE na nl s lo hi kept = faultF na nl s lo hi := by unfold newE; rw [if_neg (by omega), if_pos hf]
  have hcb : decide ((1024 : Int) < (kept.length : Int)) = false := decide_eq_false (by omega)
  have HE := Aside0.mk hE
  have HF := Aside0.mk (fun W => pool_fault.calls 9 na nl s lo hi _ W (fault_all hb0 hb1 hl0 hl1 hh0 hh1 (by omega)))
  have hfb : (faultF na nl s lo hi != 0) = true := by simpa using hf
  have HFF := Aside0.mk hf
  have kb := heap_alloc_new w (.cells #[.int .u32 na, .int .i64 nl] 27)
  have k0 := blk_cell kb 0
  have k1 := blk_cell kb 1
  generalize faultF na nl s lo hi = fe at *
  clear hE h hf kb
  go_enter Try.func10, Try.ntmps10
  go_wp2_with fail
  refine (HF.out _).mono ?_
  rintro e_ w1 ⟨rfl, hb⟩
  have HB := Aside0.mk (below_step (below_alloc (Below.refl _ _) _) hb)
  clear hb
  go_wp2_with fail
  go_ret2
  refine .inl ⟨by rw [HE.out]; exact HFF.out, by rw [HE.out]; rfl, HB.out⟩
set_option maxHeartbeats 16000000 in
set_option maxRecDepth 100000 in
theorem new_kept (w : World) (na nl s lo hi : Int) (A : Option Addr) (kept : List S27) (c : Nat) (h : kept.length ≤ 1024) (hb0 : 0 ≤ na) (hb1 : na < 4294967296) (hl0 : 0 ≤ lo) (hl1 : lo < 4294967296) (hh0 : 0 ≤ hi) (hh1 : hi < 4294967296) (hf : faultF na nl s lo hi = 0)
    (hC : Kd.C k27 w A kept.length kept) (hW : ∀ k, k ∈ kept → 0 ≤ k.f0 ∧ k.f0 < 4294967296) :
    Calls Try.prog 10 #[.agg #[.int .u32 na, .int .i64 nl], .int .i64 s, .int .u32 lo, .int .u32 hi, .slice A kept.length c] w (NewPost w na nl s lo hi kept SortI.srt) := by
  have hE : newE na nl s lo hi kept = keptE na nl s [] kept := by unfold newE; rw [if_neg (by omega), if_neg (fun h => h hf)]
  have hG := faultF_ok.1 hf
  have hcb : decide ((1024 : Int) < (kept.length : Int)) = false := decide_eq_false (by omega)
  have HE := Aside0.mk hE
  have HF := Aside0.mk (fun W => pool_fault.calls 9 na nl s lo hi _ W (fault_all hb0 hb1 hl0 hl1 hh0 hh1 (by omega)))
  rw [hf] at HF
  have s0 : 0 ≤ s := by have := hG.nls; have := hG.nl0; omega
  have s1 := hG.s32
  have HN := Aside0.mk (fun (W : World) (b : Nat) (a : Int) (hb : W.cell? ⟨b, 2, none⟩ = some (.int .i64 s)) (h0 : 0 ≤ a) (h1 : a < 4294967296) => number28 W b s a hb s0 s1 h0 h1)
  have HS := Aside0.mk (And.intro s0 s1)
  have HG := Aside0.mk hG
  have HNA := Aside0.mk (And.intro hb0 hb1)
  have HLH := Aside0.mk (And.intro (And.intro hl0 hl1) (And.intro hh0 hh1))
  have HC := Aside0.mk (And.intro hC hW)
  have HL := Aside0.mk h
  have kb := heap_alloc_new w (.cells #[.int .u32 na, .int .i64 nl] 27)
  have k0 := blk_cell kb 0
  have k1 := blk_cell kb 1
  have KB := Aside0.mk kb
  have hmm := @run_makeMap Try.prog
  clear hE h hf hC hW hG s0 s1 hb0 hb1 hl0 hl1 hh0 hh1 kb
  go_enter Try.func10, Try.ntmps10
  go_wp2_with fail
  refine (HF.out _).mono ?_
  rintro e_ w1 ⟨rfl, hb⟩
  have HB := Aside0.mk (below_step (below_alloc (Below.refl _ _) _) hb)
  have KB1 := Aside0.mk (blk_below KB.out hb)
  have k0 := blk_cell KB1.out 0
  have k1 := blk_cell KB1.out 1
  clear hb KB
  go_upto_region 7 with fail
  obtain ⟨W7, hW7⟩ : ∃ W, W = ((w1.alloc (.map #[] 0)).alloc (.cells #[.int .u32 na, .int .i64 nl, .int .i64 s, .int .i64 0, .int .i64 0, .slice none 0 0, .map (some w1.heap.size), .slice none 0 0] 66)).alloc (.cells #[.pointer (some ⟨w1.heap.size + 1, 0, none⟩)] 31) := ⟨_, rfl⟩
  have e1 : (w1.alloc (.map #[] 0)).heap.size = w1.heap.size + 1 := by simp
  have e2 : ((w1.alloc (.map #[] 0)).alloc (.cells #[.int .u32 na, .int .i64 nl, .int .i64 s, .int .i64 0, .int .i64 0, .slice none 0 0, .map (some w1.heap.size), .slice none 0 0] 66)).heap.size = w1.heap.size + 1 + 1 := by simp
  have hbm : W7.heap[w1.heap.size]? = some (.map #[] 0) := by rw [hW7]; exact blk_alloc (blk_alloc (heap_alloc_new w1 _) _) _
  have hbb : W7.heap[w1.heap.size + 1]? = some (.cells #[.int .u32 na, .int .i64 nl, .int .i64 s, .int .i64 0, .int .i64 0, .slice none 0 0, .map (some w1.heap.size), .slice none 0 0] 66 (0, 0)) := by
    have := heap_alloc_new (w1.alloc (.map #[] 0)) (.cells #[.int .u32 na, .int .i64 nl, .int .i64 s, .int .i64 0, .int .i64 0, .slice none 0 0, .map (some w1.heap.size), .slice none 0 0] 66)
    rw [e1] at this
    rw [hW7]; exact blk_alloc this _
  have hbp : W7.heap[w1.heap.size + 1 + 1]? = some (.cells #[.pointer (some ⟨w1.heap.size + 1, 0, none⟩)] 31 (0, 0)) := by
    have := heap_alloc_new ((w1.alloc (.map #[] 0)).alloc (.cells #[.int .u32 na, .int .i64 nl, .int .i64 s, .int .i64 0, .int .i64 0, .slice none 0 0, .map (some w1.heap.size), .slice none 0 0] 66)) (.cells #[.pointer (some ⟨w1.heap.size + 1, 0, none⟩)] 31)
    rw [e2] at this
    rw [hW7]; exact this
  have HB7 : Aside0 (Below w.heap.size w W7) := ⟨by rw [hW7]; exact below_alloc (below_alloc (below_alloc HB.out _) _) _⟩
  have hb7 : Below w1.heap.size w1 W7 := by rw [hW7]; exact below_alloc (below_alloc (below_alloc (Below.refl _ _) _) _) _
  have KB7 := Aside0.mk (blk_below KB1.out hb7)
  have hz := blk_lt KB1.out
  rw [← hW7]
  generalize hb : w1.heap.size + 1 = b at *
  generalize hp13 : b + 1 = p13 at *
  generalize hbmm : w1.heap.size = bm at *
  have k2D : W7.drew.cell? ⟨b, 2, none⟩ = some (.int .i64 s) := blk_cell hbb 2
  have k3D : W7.drew.cell? ⟨b, 3, none⟩ = some (.int .i64 0) := blk_cell hbb 3
  have k4D : W7.drew.cell? ⟨b, 4, none⟩ = some (.int .i64 0) := blk_cell hbb 4
  have f3D : W7.drew.frozen? ⟨b, 3, none⟩ = false := blk_frozen hbb 3
  have kpD : W7.drew.cell? ⟨p13, 0, none⟩ = some (.pointer (some ⟨b, 0, none⟩)) := blk_cell hbp 0
  have hbp2 : (W7.drew.setCell ⟨b, 3, none⟩ (.int .i64 (lo / sizeF s))).heap[p13]? = _ := (Below.heap_setCell W7.drew ⟨b, 3, none⟩ _ p13 (by show p13 ≠ b; omega)).trans hbp
  have kp2 := blk_cell hbp2 0
  have hbb2 := blk_put (show W7.drew.heap[b]? = _ from hbb) 3 (.int .i64 (lo / sizeF s)) rfl
  have k4E : W7.cell? ⟨b, 4, none⟩ = some (.int .i64 0) := blk_cell hbb 4
  have f4E : W7.frozen? ⟨b, 4, none⟩ = false := blk_frozen hbb 4
  have hbb3 := blk_put hbb2 4 (.int .i64 (hi / sizeF s)) rfl
  have HX := Aside0.mk (And.intro hbb3 (And.intro hbp (And.intro hbm (And.intro hz (And.intro hb (And.intro hp13 hbmm))))))
  clear hW7 e1 e2 hbm hbb hbp hb7 hbp2 hbb2 hbb3 hz hb hp13 hbmm k0 k1 KB1 hmm HF
  refine start_ (n := 14) (S := fun w' => w'.cell? ⟨p13, 0, none⟩ = some (.pointer (some ⟨b, 0, none⟩))) (ds := [13]) #[false, false, false, false, false, false, false, false, false, false, false, false, false, false] (by kernel_rfl) rfl rfl (kpD) (fun hHeld => ?_)
  refine pure_ (i := 3) (N := some 35) (v := ?_) (a' := ?_) #[false, false, false, true, false, false, false, false, false, false, false, false, false, false] rfl rfl (by kernel_rfl) (fun _ _ _ h => h) (Or.inl ⟨by rfl, ?_⟩) ?_ ?_
  rotate_left
  · intro w'
    go_simp
    with_reducible rfl
  rotate_left
  · simp only [Act.put, List.setIfInBounds_toArray, List.set_cons_zero, List.set_cons_succ, i64_w, i32_w]
    rfl
  refine pure_ (i := 6) (N := some 38) (v := ?_) (a' := ?_) #[false, false, false, true, false, false, true, false, false, false, false, false, false, false] rfl rfl (by kernel_rfl) (fun _ _ _ h => h) (Or.inl ⟨by rfl, ?_⟩) ?_ ?_
  rotate_left
  · intro w'
    go_simp
    with_reducible rfl
  rotate_left
  · simp only [Act.put, List.setIfInBounds_toArray, List.set_cons_zero, List.set_cons_succ, i64_w, i32_w]
    rfl
  refine take_ (i := 0) (N := some 32) (v := ?_) (a' := ?_) #[true, false, false, true, false, false, true, false, false, false, false, false, false, false] rfl rfl (by kernel_rfl) (fun _ _ _ h => h) (Or.inl ⟨by rfl, ?_⟩) hHeld ?_ ?_
  rotate_left
  · intro w' s0
    go_simp
    with_reducible rfl
  rotate_left
  · simp only [Act.put, List.setIfInBounds_toArray, List.set_cons_zero, List.set_cons_succ, i64_w, i32_w]
    rfl
  refine take_ (i := 1) (N := some 33) (v := ?_) (a' := ?_) #[true, true, false, true, false, false, true, false, false, false, false, false, false, false] rfl rfl (by kernel_rfl) (fun _ _ _ h => h) (Or.inl ⟨by rfl, ?_⟩) hHeld ?_ ?_
  rotate_left
  · intro w' s0
    go_simp
    with_reducible rfl
  rotate_left
  · simp only [Act.put, List.setIfInBounds_toArray, List.set_cons_zero, List.set_cons_succ, i64_w, i32_w]
    rfl
  refine take_ (i := 2) (N := some 34) (v := ?_) (a' := ?_) #[true, true, true, true, false, false, true, false, false, false, false, false, false, false] rfl rfl (by kernel_rfl) (fun _ _ _ h => h) (Or.inl ⟨by rfl, ?_⟩) hHeld ?_ ?_
  rotate_left
  · intro w' s0
    go_simp
    with_reducible rfl
  rotate_left
  · simp only [Act.put, List.setIfInBounds_toArray, List.set_cons_zero, List.set_cons_succ, i64_w, i32_w]
    rfl
  refine take_ (i := 5) (N := some 37) (v := ?_) (a' := ?_) #[true, true, true, true, false, true, true, false, false, false, false, false, false, false] rfl rfl (by kernel_rfl) (fun _ _ _ h => h) (Or.inl ⟨by rfl, ?_⟩) hHeld ?_ ?_
  rotate_left
  · intro w' s0
    go_simp
    with_reducible rfl
  rotate_left
  · simp only [Act.put, List.setIfInBounds_toArray, List.set_cons_zero, List.set_cons_succ, i64_w, i32_w]
    rfl
  refine one_ (i := 4) (N := some 36) #[true, true, true, true, true, true, true, false, false, false, false, false, false, false] rfl rfl (by kernel_rfl) (by decide) (fun K hK => ?_)
  refine goes_ Try.func28 (by kernel_rfl) rfl #[.pointer (some ⟨b, 0, none⟩), .int .u32 lo] (by rfl) rfl rfl (by simp only [List.map_toArray, List.map_cons, List.map_nil]; rfl) ?_
  with_reducible refine (HN.out _ b lo k2D HLH.out.1.1 HLH.out.1.2).mono ?_
  rintro e_ w6 ⟨rfl, rfl⟩
  refine ⟨_, rfl, ?_⟩
  refine hK.out _ _ (kpD) (fun hHeld => ?_)
  clear hK K
  refine norm_ (a' := ?_) ?_ ?_
  rotate_left
  · show Act.put _ (some 36) _ = _
    simp only [Act.put, List.setIfInBounds_toArray, List.set_cons_zero, List.set_cons_succ, i64_w, i32_w]
    rfl
  refine one_ (i := 7) (N := some 39) #[true, true, true, true, true, true, true, true, false, false, false, false, false, false] rfl rfl (by kernel_rfl) (by decide) (fun K hK => ?_)
  refine goes_ Try.func28 (by kernel_rfl) rfl #[.pointer (some ⟨b, 0, none⟩), .int .u32 hi] (by rfl) rfl rfl (by simp only [List.map_toArray, List.map_cons, List.map_nil]; rfl) ?_
  with_reducible refine (HN.out _ b hi k2D HLH.out.2.1 HLH.out.2.2).mono ?_
  rintro e_ w6 ⟨rfl, rfl⟩
  refine ⟨_, rfl, ?_⟩
  refine hK.out _ _ (kpD) (fun hHeld => ?_)
  clear hK K
  refine norm_ (a' := ?_) ?_ ?_
  rotate_left
  · show Act.put _ (some 39) _ = _
    simp only [Act.put, List.setIfInBounds_toArray, List.set_cons_zero, List.set_cons_succ, i64_w, i32_w]
    rfl
  refine pure_ (i := 8) (N := some 40) (v := ?_) (a' := ?_) #[true, true, true, true, true, true, true, true, true, false, false, false, false, false] rfl rfl (by kernel_rfl) (fun _ _ _ h => h) (Or.inl ⟨by rfl, ?_⟩) ?_ ?_
  rotate_left
  · intro w'
    go_simp
    with_reducible rfl
  rotate_left
  · simp only [Act.put, List.setIfInBounds_toArray, List.set_cons_zero, List.set_cons_succ, i64_w, i32_w]
    rfl
  refine pure_ (i := 9) (N := some 41) (v := ?_) (a' := ?_) #[true, true, true, true, true, true, true, true, true, true, false, false, false, false] rfl rfl (by kernel_rfl) (fun _ _ _ h => h) (Or.inl ⟨by rfl, ?_⟩) ?_ ?_
  rotate_left
  · intro w'
    go_simp
    with_reducible rfl
  rotate_left
  · simp only [Act.put, List.setIfInBounds_toArray, List.set_cons_zero, List.set_cons_succ, i64_w, i32_w]
    rfl
  refine one_ (i := 10) (N := none) #[true, true, true, true, true, true, true, true, true, true, true, false, false, false] rfl rfl (by kernel_rfl) (by decide) (fun K hK => ?_)
  refine skip_ (w1 := ?_) (by rfl) rfl ?_ ?_
  rotate_left
  · go_simp
    rfl
  refine hK.out _ _ (kp2) (fun hHeld => ?_)
  clear hK K
  refine pure_ (i := 11) (N := some 42) (v := ?_) (a' := ?_) #[true, true, true, true, true, true, true, true, true, true, true, true, false, false] rfl rfl (by kernel_rfl) (fun _ _ _ h => h) (Or.inl ⟨by rfl, ?_⟩) ?_ ?_
  rotate_left
  · intro w'
    go_simp
    with_reducible rfl
  rotate_left
  · simp only [Act.put, List.setIfInBounds_toArray, List.set_cons_zero, List.set_cons_succ, i64_w, i32_w]
    rfl
  refine pure_ (i := 12) (N := some 43) (v := ?_) (a' := ?_) #[true, true, true, true, true, true, true, true, true, true, true, true, true, false] rfl rfl (by kernel_rfl) (fun _ _ _ h => h) (Or.inl ⟨by rfl, ?_⟩) ?_ ?_
  rotate_left
  · intro w'
    go_simp
    with_reducible rfl
  rotate_left
  · simp only [Act.put, List.setIfInBounds_toArray, List.set_cons_zero, List.set_cons_succ, i64_w, i32_w]
    rfl
  refine last_ (i := 13) (N := none) #[true, true, true, true, true, true, true, true, true, true, true, true, true, true] rfl rfl (by kernel_rfl) (by decide) (fun K hK => ?_)
  refine skip_ (w1 := ?_) (by rfl) rfl ?_ ?_
  rotate_left
  · go_simp
    rfl
  refine hK.out _ _ ?_
  clear hK K
  refine done_ (by kernel_rfl) ?_

  go_wp2_with fail
  have HW8 : Aside0 (NSt w na nl s lo hi kept b bm p13 0 (.slice none 0 0) ((W7.setCell ⟨b, 3, none⟩ (.int .i64 (lo / sizeF s))).setCell ⟨b, 4, none⟩ (.int .i64 (hi / sizeF s))).drew) := ⟨by
    obtain ⟨hbb3, hbp, hbm, hz, hb, hp13, hbmm⟩ := HX.out
    have hfar : ∀ k, k ≠ b → (((W7.setCell ⟨b, 3, none⟩ (.int .i64 (lo / sizeF s))).setCell ⟨b, 4, none⟩ (.int .i64 (hi / sizeF s))).drew).heap[k]? = W7.heap[k]? := fun k hk => (Below.heap_setCell _ ⟨b, 4, none⟩ _ k hk).trans (Below.heap_setCell W7 ⟨b, 3, none⟩ _ k hk)
    refine ⟨⟨hbb3, World.ownsRow_nil _ _ _ _, ?_, World.ownsRow_nil _ _ _ _, Wf.nil, by simp⟩, (hfar p13 (by omega)).trans hbp, (hfar _ (by omega)).trans KB7.out, ?_, fun k hk => ?_, rfl, fun x hx => by simp at hx⟩
    · have h0 : (fun _ => none : Int → Option Int) = isKf [] := by funext x; simp [isKf]
      have := KM.made ((hfar bm (by omega)).trans hbm)
      rw [h0] at this
      exact this
    · exact below_drew1 (below_set (below_set HB7.out (by omega)) (by omega))
    · simp only [PlF, Value.ownBlock, Option.toList_none, List.append_nil, List.mem_cons, List.not_mem_nil, or_false] at hk
      omega⟩
  have HBB : Aside0 (w.heap.size < bm ∧ w.heap.size < b ∧ w.heap.size < p13 ∧ b ≠ p13 ∧ bm ≠ p13 ∧ bm ≠ b) := ⟨by obtain ⟨_, _, _, hz, hb, hp13, hbmm⟩ := HX.out; omega⟩
  generalize ((W7.setCell ⟨b, 3, none⟩ (.int .i64 (lo / sizeF s))).setCell ⟨b, 4, none⟩ (.int .i64 (hi / sizeF s))).drew = w8 at *
  clear HX k2D k3D k4D f3D kpD kp2 k4E f4E KB7 HB7 hHeld HB
  go_loopg [46] kept.length (fun gg vi wr => ∃ (i : Nat) (vk : Value), vi = .int .i64 (i : Int) ∧ gg = kept.length - i ∧ i ≤ kept.length ∧ Aside0 (NSt w na nl s lo hi kept b bm p13 i vk wr))
  case atStart => exact ⟨0, _, rfl, rfl, Nat.zero_le _, HW8⟩
  case round =>
    clear HW8
    obtain ⟨i, vk, rfl, hg, hi2, HS8⟩ := hrel
    have HGG := Aside0.mk hg
    clear hg
    by_cases hlt : i < kept.length
    · have hii : (i : Int) < (kept.length : Int) := by omega
      obtain ⟨ad, rfl, c0, c1⟩ := at_T27 (Kd.C_below HC.out.1 HS8.out.bel) (i : Int) (by omega) (by omega)
      rw [Int.toNat_natCast] at c0 c1
      have hat := HS8.out.at_ hlt
      have htk := take_at hlt
      have hmem : rd_T27 kept i ∈ kept := by
        unfold rd_T27
        rw [List.getD_eq_getElem?_getD, Int.toNat_natCast, List.getElem?_eq_getElem hlt]; exact List.getElem_mem hlt
      have hu := HC.out.2 _ hmem
      have hE2 := HS8.out.he
      rw [hat, keptE_cons] at hE2
      have HLT := Aside0.mk hlt
      have HTK := Aside0.mk htk
      clear hat htk hmem hlt
      generalize rd_T27 kept i = x at *
      obtain ⟨f0, f1⟩ := x
      simp only at c0 c1 hu hE2
      have kb := heap_alloc_new wr (.cells #[.int .u32 f0, .int .i64 f1] 27)
      have hb8 := below_alloc (Below.refl wr.heap.size wr) (.cells #[.int .u32 f0, .int .i64 f1] 27)
      have kx0 := blk_cell kb 0
      have kx1 := blk_cell kb 1
      have KX := Aside0.mk kb
      have HS9 := Aside0.mk (HS8.out.below hb8)
      have HV := Aside0.mk (fun W => addr_Valid.calls 1 f0 f1 _ W (valid_all hu.1 hu.2 (Nat.le_refl 1)))
      have HCN := Aside0.mk (fun W => addr_Contains.calls 1 na nl f0 _ W (contains_all HNA.out.1 HNA.out.2 hu.1 hu.2 (Nat.le_refl 1)))
      have HU := Aside0.mk hu
      clear kb hb8 hu HS8
      by_cases c1' : sub ⟨na, nl, s, 0, 0, [], fun _ => none⟩ f0 f1
      · rw [if_neg (fun h => h c1')] at hE2
        obtain ⟨hf1, hv⟩ := c1'
        have hf2 : s = f1 := (show f1 = s from hf1).symm
        clear hf1
        subst hf2
        rw [decide_eq_true hv] at HV
        by_cases c2 : ins na nl f0
        · rw [if_neg (fun h => h c2)] at hE2
          rw [decide_eq_true c2] at HCN
          have HE3 := Aside0.mk hE2
          have hal0 : f0 % sizeF s = 0 := hv.2.2
          have HAL := Aside0.mk hal0
          have hnr := div_rng HS.out.1 HS.out.2 HU.out.1 HU.out.2
          have HNN := Aside0.mk (fun (W : World) (h : W.cell? ⟨b, 2, none⟩ = some (.int .i64 s)) => HN.out W b f0 h HU.out.1 HU.out.2)
          obtain ⟨n, hn⟩ : ∃ n, n = f0 / sizeF s := ⟨_, rfl⟩
          rw [← hn] at hnr HNN
          have HNE := Aside0.mk hn
          have HNR := Aside0.mk hnr
          clear hE2 c2 hv hal0 hn hnr
          go_wp2_with fail
          refine (HV.out _).mono ?_
          rintro e_ w2 ⟨rfl, hb2⟩
          have HS10 := Aside0.mk (HS9.out.below hb2)
          have KX2 := Aside0.mk (blk_below KX.out hb2)
          have kx0 := blk_cell KX2.out 0
          have kx1 := blk_cell KX2.out 1
          have kn0 := blk_cell HS10.out.bn 0
          have kn1 := blk_cell HS10.out.bn 1
          clear hb2 KX HS9
          go_wp2_with fail
          refine (HCN.out _).mono ?_
          rintro e_ w3 ⟨rfl, hb3⟩
          have HS11 := Aside0.mk (HS10.out.below hb3)
          have KX3 := Aside0.mk (blk_below KX2.out hb3)
          clear hb3 kx0 kx1 kn0 kn1 KX2 HS10 HV HCN
          go_upto_region 15 with fail
          have hbk : wr.heap.size < wr.heap.size + 1 := by omega
          generalize hbkk : wr.heap.size = bk at *
          clear hbk
          have q0 : w3.drew.cell? ⟨p13, 0, none⟩ = some (.pointer (some ⟨b, 0, none⟩)) := blk_cell HS11.out.bp 0
          have q1 : w3.drew.cell? ⟨b, 6, none⟩ = some (.map (some bm)) := blk_cell HS11.out.pl.blk 6
          have q2 : w3.drew.cell? ⟨bk, 0, none⟩ = some (.int .u32 f0) := blk_cell KX3.out 0
          have q4 : w3.drew.cell? ⟨b, 2, none⟩ = some (.int .i64 s) := blk_cell HS11.out.pl.blk 2
          have hlk := (HS11.out.pl.drewN 1).mp.look (k := n) (wf64 HNR.out.1 HNR.out.2)
          have hmem : n ∈ (kept.take i).map (fun k => k.f0 / sizeF s) ↔ f0 ∈ (kept.take i).map (·.f0) := by
            have := num_mem HS.out.1 HS.out.2 HS11.out.al HAL.out
            rw [← HNE.out, List.map_map] at this
            exact this
          by_cases c3 : f0 ∈ (kept.take i).map (·.f0)
          · have q3 : (Instr.lookup 62 (.map (some bm)) (.int .i64 n) false).run Try.prog w3.drew = .ok (.int .i64 1) w3.drew := by
              have hh : ((M0 na nl s lo hi ((kept.take i).map (fun k => k.f0 / sizeF s))).isK n).getD 0 = 1 := by
                show (isKf _ n).getD 0 = 1
                unfold isKf
                rw [if_pos (hmem.2 c3)]; rfl
              rw [hh] at hlk; exact hlk
            have hE5 := HE3.out
            rw [if_pos c3] at hE5
            have HE5 := Aside0.mk hE5
            clear hE5 hlk hmem c3
            refine start_ (n := 11) (S := fun w' => w'.cell? ⟨p13, 0, none⟩ = some (.pointer (some ⟨b, 0, none⟩)) ∧ w'.cell? ⟨b, 6, none⟩ = some (.map (some bm)) ∧ w'.cell? ⟨bk, 0, none⟩ = some (.int .u32 f0) ∧ (Instr.lookup 62 (.map (some bm)) (.int .i64 n) false).run Try.prog w' = .ok (.int .i64 1) w') (ds := []) #[false, false, false, false, false, false, false, false, false, false, false] (by kernel_rfl) rfl rfl ⟨q0, q1, q2, q3⟩ (fun hHeld => ?_)
            refine pure_ (i := 5) (N := some 72) (v := ?_) (a' := ?_) #[false, false, false, false, false, true, false, false, false, false, false] rfl rfl (by kernel_rfl) (fun _ _ _ h => h) (Or.inl ⟨by rfl, ?_⟩) ?_ ?_
            rotate_left
            · intro w'
              go_simp
              with_reducible rfl
            rotate_left
            · simp only [Act.put, List.setIfInBounds_toArray, List.set_cons_zero, List.set_cons_succ, i64_w, i32_w]
              rfl
            refine take_ (i := 0) (N := some 67) (v := ?_) (a' := ?_) #[true, false, false, false, false, true, false, false, false, false, false] rfl rfl (by kernel_rfl) (fun _ _ _ h => h) (Or.inl ⟨by rfl, ?_⟩) hHeld ?_ ?_
            rotate_left
            · rintro w' ⟨s0, s1, s2, s3⟩
              go_simp
              with_reducible rfl
            rotate_left
            · simp only [Act.put, List.setIfInBounds_toArray, List.set_cons_zero, List.set_cons_succ, i64_w, i32_w]
              rfl
            refine pure_ (i := 1) (N := some 68) (v := ?_) (a' := ?_) #[true, true, false, false, false, true, false, false, false, false, false] rfl rfl (by kernel_rfl) (fun _ _ _ h => h) (Or.inl ⟨by rfl, ?_⟩) ?_ ?_
            rotate_left
            · intro w'
              go_simp
              with_reducible rfl
            rotate_left
            · simp only [Act.put, List.setIfInBounds_toArray, List.set_cons_zero, List.set_cons_succ, i64_w, i32_w]
              rfl
            refine pure_ (i := 2) (N := some 69) (v := ?_) (a' := ?_) #[true, true, true, false, false, true, false, false, false, false, false] rfl rfl (by kernel_rfl) (fun _ _ _ h => h) (Or.inl ⟨by rfl, ?_⟩) ?_ ?_
            rotate_left
            · intro w'
              go_simp
              with_reducible rfl
            rotate_left
            · simp only [Act.put, List.setIfInBounds_toArray, List.set_cons_zero, List.set_cons_succ, i64_w, i32_w]
              rfl
            refine take_ (i := 3) (N := some 70) (v := ?_) (a' := ?_) #[true, true, true, true, false, true, false, false, false, false, false] rfl rfl (by kernel_rfl) (fun _ _ _ h => h) (Or.inl ⟨by rfl, ?_⟩) hHeld ?_ ?_
            rotate_left
            · rintro w' ⟨s0, s1, s2, s3⟩
              go_simp
              with_reducible rfl
            rotate_left
            · simp only [Act.put, List.setIfInBounds_toArray, List.set_cons_zero, List.set_cons_succ, i64_w, i32_w]
              rfl
            refine take_ (i := 4) (N := some 71) (v := ?_) (a' := ?_) #[true, true, true, true, true, true, false, false, false, false, false] rfl rfl (by kernel_rfl) (fun _ _ _ h => h) (Or.inl ⟨by rfl, ?_⟩) hHeld ?_ ?_
            rotate_left
            · rintro w' ⟨s0, s1, s2, s3⟩
              go_simp
              with_reducible rfl
            rotate_left
            · simp only [Act.put, List.setIfInBounds_toArray, List.set_cons_zero, List.set_cons_succ, i64_w, i32_w]
              rfl
            refine take_ (i := 6) (N := some 73) (v := ?_) (a' := ?_) #[true, true, true, true, true, true, true, false, false, false, false] rfl rfl (by kernel_rfl) (fun _ _ _ h => h) (Or.inl ⟨by rfl, ?_⟩) hHeld ?_ ?_
            rotate_left
            · rintro w' ⟨s0, s1, s2, s3⟩
              go_simp
              with_reducible rfl
            rotate_left
            · simp only [Act.put, List.setIfInBounds_toArray, List.set_cons_zero, List.set_cons_succ, i64_w, i32_w]
              rfl
            refine one_ (i := 7) (N := some 74) #[true, true, true, true, true, true, true, true, false, false, false] rfl rfl (by kernel_rfl) (by decide) (fun K hK => ?_)
            refine goes_ Try.func28 (by kernel_rfl) rfl #[.pointer (some ⟨b, 0, none⟩), .int .u32 f0] (by rfl) rfl rfl (by simp only [List.map_toArray, List.map_cons, List.map_nil]; rfl) ?_
            with_reducible refine (HNN.out _ q4).mono ?_
            rintro e_ w6 ⟨rfl, rfl⟩
            refine ⟨_, rfl, ?_⟩
            refine hK.out _ _ ⟨q0, q1, q2, q3⟩ (fun hHeld => ?_)
            clear hK K
            refine norm_ (a' := ?_) ?_ ?_
            rotate_left
            · show Act.put _ (some 74) _ = _
              simp only [Act.put, List.setIfInBounds_toArray, List.set_cons_zero, List.set_cons_succ, i64_w, i32_w]
              rfl
            refine take_ (i := 8) (N := some 75) (v := ?_) (a' := ?_) #[true, true, true, true, true, true, true, true, true, false, false] rfl rfl (by kernel_rfl) (fun _ _ _ h => h) (Or.inl ⟨by rfl, ?_⟩) hHeld ?_ ?_
            rotate_left
            · rintro w' ⟨s0, s1, s2, s3⟩
              go_simp
              with_reducible rfl
            rotate_left
            · simp only [Act.put, List.setIfInBounds_toArray, List.set_cons_zero, List.set_cons_succ, i64_w, i32_w]
              rfl
            refine pure_ (i := 9) (N := some 76) (v := ?_) (a' := ?_) #[true, true, true, true, true, true, true, true, true, true, false] rfl rfl (by kernel_rfl) (fun _ _ _ h => h) (Or.inl ⟨by rfl, ?_⟩) ?_ ?_
            rotate_left
            · intro w'
              go_simp
              with_reducible rfl
            rotate_left
            · simp only [Act.put, List.setIfInBounds_toArray, List.set_cons_zero, List.set_cons_succ, i64_w, i32_w]
              rfl
            refine pure_ (i := 10) (N := some 66) (v := ?_) (a' := ?_) #[true, true, true, true, true, true, true, true, true, true, true] rfl rfl (by kernel_rfl) (fun _ _ _ h => h) (Or.inl ⟨by rfl, ?_⟩) ?_ ?_
            rotate_left
            · intro w'
              go_simp
              with_reducible rfl
            rotate_left
            · simp only [Act.put, List.setIfInBounds_toArray, List.set_cons_zero, List.set_cons_succ, i64_w, i32_w]
              rfl
            refine done_ (by kernel_rfl) ?_

            go_wp2_with fail
            go_ret2
            exact .inl ⟨by rw [HE.out, ← HE5.out]; omega, by rw [HE.out, ← HE5.out]; rfl, below_drew1 HS11.out.bel⟩
          · have hno : (isKf ((kept.take i).map (fun k => k.f0 / sizeF s))) n = none := by unfold isKf; rw [if_neg (fun h => c3 (hmem.1 h))]
            have q3 : (Instr.lookup 62 (.map (some bm)) (.int .i64 n) false).run Try.prog w3.drew = .ok (.int .i64 0) w3.drew := by
              have hh : ((M0 na nl s lo hi ((kept.take i).map (fun k => k.f0 / sizeF s))).isK n).getD 0 = 0 := by
                show (isKf _ n).getD 0 = 0
                rw [hno]; rfl
              rw [hh] at hlk; exact hlk
            have hE5 := HE3.out
            rw [if_neg c3] at hE5
            have HE5 := Aside0.mk hE5
            have HNO := Aside0.mk hno
            clear hE5 hlk hmem c3 hno
            refine start_ (n := 11) (S := fun w' => w'.cell? ⟨p13, 0, none⟩ = some (.pointer (some ⟨b, 0, none⟩)) ∧ w'.cell? ⟨b, 6, none⟩ = some (.map (some bm)) ∧ w'.cell? ⟨bk, 0, none⟩ = some (.int .u32 f0) ∧ (Instr.lookup 62 (.map (some bm)) (.int .i64 n) false).run Try.prog w' = .ok (.int .i64 0) w') (ds := []) #[false, false, false, false, false, false, false, false, false, false, false] (by kernel_rfl) rfl rfl ⟨q0, q1, q2, q3⟩ (fun hHeld => ?_)
            refine pure_ (i := 5) (N := some 72) (v := ?_) (a' := ?_) #[false, false, false, false, false, true, false, false, false, false, false] rfl rfl (by kernel_rfl) (fun _ _ _ h => h) (Or.inl ⟨by rfl, ?_⟩) ?_ ?_
            rotate_left
            · intro w'
              go_simp
              with_reducible rfl
            rotate_left
            · simp only [Act.put, List.setIfInBounds_toArray, List.set_cons_zero, List.set_cons_succ, i64_w, i32_w]
              rfl
            refine take_ (i := 0) (N := some 67) (v := ?_) (a' := ?_) #[true, false, false, false, false, true, false, false, false, false, false] rfl rfl (by kernel_rfl) (fun _ _ _ h => h) (Or.inl ⟨by rfl, ?_⟩) hHeld ?_ ?_
            rotate_left
            · rintro w' ⟨s0, s1, s2, s3⟩
              go_simp
              with_reducible rfl
            rotate_left
            · simp only [Act.put, List.setIfInBounds_toArray, List.set_cons_zero, List.set_cons_succ, i64_w, i32_w]
              rfl
            refine pure_ (i := 1) (N := some 68) (v := ?_) (a' := ?_) #[true, true, false, false, false, true, false, false, false, false, false] rfl rfl (by kernel_rfl) (fun _ _ _ h => h) (Or.inl ⟨by rfl, ?_⟩) ?_ ?_
            rotate_left
            · intro w'
              go_simp
              with_reducible rfl
            rotate_left
            · simp only [Act.put, List.setIfInBounds_toArray, List.set_cons_zero, List.set_cons_succ, i64_w, i32_w]
              rfl
            refine pure_ (i := 2) (N := some 69) (v := ?_) (a' := ?_) #[true, true, true, false, false, true, false, false, false, false, false] rfl rfl (by kernel_rfl) (fun _ _ _ h => h) (Or.inl ⟨by rfl, ?_⟩) ?_ ?_
            rotate_left
            · intro w'
              go_simp
              with_reducible rfl
            rotate_left
            · simp only [Act.put, List.setIfInBounds_toArray, List.set_cons_zero, List.set_cons_succ, i64_w, i32_w]
              rfl
            refine take_ (i := 3) (N := some 70) (v := ?_) (a' := ?_) #[true, true, true, true, false, true, false, false, false, false, false] rfl rfl (by kernel_rfl) (fun _ _ _ h => h) (Or.inl ⟨by rfl, ?_⟩) hHeld ?_ ?_
            rotate_left
            · rintro w' ⟨s0, s1, s2, s3⟩
              go_simp
              with_reducible rfl
            rotate_left
            · simp only [Act.put, List.setIfInBounds_toArray, List.set_cons_zero, List.set_cons_succ, i64_w, i32_w]
              rfl
            refine take_ (i := 4) (N := some 71) (v := ?_) (a' := ?_) #[true, true, true, true, true, true, false, false, false, false, false] rfl rfl (by kernel_rfl) (fun _ _ _ h => h) (Or.inl ⟨by rfl, ?_⟩) hHeld ?_ ?_
            rotate_left
            · rintro w' ⟨s0, s1, s2, s3⟩
              go_simp
              with_reducible rfl
            rotate_left
            · simp only [Act.put, List.setIfInBounds_toArray, List.set_cons_zero, List.set_cons_succ, i64_w, i32_w]
              rfl
            refine take_ (i := 6) (N := some 73) (v := ?_) (a' := ?_) #[true, true, true, true, true, true, true, false, false, false, false] rfl rfl (by kernel_rfl) (fun _ _ _ h => h) (Or.inl ⟨by rfl, ?_⟩) hHeld ?_ ?_
            rotate_left
            · rintro w' ⟨s0, s1, s2, s3⟩
              go_simp
              with_reducible rfl
            rotate_left
            · simp only [Act.put, List.setIfInBounds_toArray, List.set_cons_zero, List.set_cons_succ, i64_w, i32_w]
              rfl
            refine one_ (i := 7) (N := some 74) #[true, true, true, true, true, true, true, true, false, false, false] rfl rfl (by kernel_rfl) (by decide) (fun K hK => ?_)
            refine goes_ Try.func28 (by kernel_rfl) rfl #[.pointer (some ⟨b, 0, none⟩), .int .u32 f0] (by rfl) rfl rfl (by simp only [List.map_toArray, List.map_cons, List.map_nil]; rfl) ?_
            with_reducible refine (HNN.out _ q4).mono ?_
            rintro e_ w6 ⟨rfl, rfl⟩
            refine ⟨_, rfl, ?_⟩
            refine hK.out _ _ ⟨q0, q1, q2, q3⟩ (fun hHeld => ?_)
            clear hK K
            refine norm_ (a' := ?_) ?_ ?_
            rotate_left
            · show Act.put _ (some 74) _ = _
              simp only [Act.put, List.setIfInBounds_toArray, List.set_cons_zero, List.set_cons_succ, i64_w, i32_w]
              rfl
            refine take_ (i := 8) (N := some 75) (v := ?_) (a' := ?_) #[true, true, true, true, true, true, true, true, true, false, false] rfl rfl (by kernel_rfl) (fun _ _ _ h => h) (Or.inl ⟨by rfl, ?_⟩) hHeld ?_ ?_
            rotate_left
            · rintro w' ⟨s0, s1, s2, s3⟩
              go_simp
              with_reducible rfl
            rotate_left
            · simp only [Act.put, List.setIfInBounds_toArray, List.set_cons_zero, List.set_cons_succ, i64_w, i32_w]
              rfl
            refine pure_ (i := 9) (N := some 76) (v := ?_) (a' := ?_) #[true, true, true, true, true, true, true, true, true, true, false] rfl rfl (by kernel_rfl) (fun _ _ _ h => h) (Or.inl ⟨by rfl, ?_⟩) ?_ ?_
            rotate_left
            · intro w'
              go_simp
              with_reducible rfl
            rotate_left
            · simp only [Act.put, List.setIfInBounds_toArray, List.set_cons_zero, List.set_cons_succ, i64_w, i32_w]
              rfl
            refine pure_ (i := 10) (N := some 66) (v := ?_) (a' := ?_) #[true, true, true, true, true, true, true, true, true, true, true] rfl rfl (by kernel_rfl) (fun _ _ _ h => h) (Or.inl ⟨by rfl, ?_⟩) ?_ ?_
            rotate_left
            · intro w'
              go_simp
              with_reducible rfl
            rotate_left
            · simp only [Act.put, List.setIfInBounds_toArray, List.set_cons_zero, List.set_cons_succ, i64_w, i32_w]
              rfl
            refine done_ (by kernel_rfl) ?_

            have HS12 : Aside0 (NSt w na nl s lo hi kept b bm p13 i vk w3.drew) := ⟨HS11.out.below (Below.refl _ _).drew⟩
            have KX4 : Aside0 (w3.drew.heap[bk]? = some (.cells #[.int .u32 f0, .int .i64 s] 27 (0, 0))) := ⟨KX3.out⟩
            clear q0 q1 q2 q3 q4 HS11 KX3 hHeld
            go_upto_region 17 with fail
            generalize w3.drew = w4 at *
            have hapart := HS12.out.pl.apart
            have hll : ((kept.take i).map (fun k => k.f0 / sizeF s)).length = i := by rw [List.length_map, List.length_take]; omega
            obtain ⟨w5, hr, hkm, hg5⟩ := (show KM w4.drew bm _ _ from HS12.out.pl.mp).put (by show ((kept.take i).map (fun k => k.f0 / sizeF s)).length < maxLen; rw [hll]; have := HL.out; unfold maxLen; omega) (k := n) (wf64 HNR.out.1 HNR.out.2) HNO.out
            have R17 := hr
            have hkm2 : KM w5 bm (isKf ((kept.take i).map (fun k => k.f0 / sizeF s) ++ [n])) (i + 1) := by
              have := hkm
              rw [show (M0 na nl s lo hi ((kept.take i).map (fun k => k.f0 / sizeF s))).isK = isKf ((kept.take i).map (fun k => k.f0 / sizeF s)) from rfl, isKf_put] at this
              rw [show (M0 na nl s lo hi ((kept.take i).map (fun k => k.f0 / sizeF s))).kept.length = i from hll] at this
              exact this
            have HKM := Aside0.mk hkm2
            have HG5 : Aside0 (w4.grownBy w5 (some bm)) := ⟨⟨hg5.os, hg5.tape, hg5.output, hg5.size, hg5.block⟩⟩
            have HLL := Aside0.mk hll
            have hrk := HS12.out.pl.rk
            rw [show (M0 na nl s lo hi ((kept.take i).map (fun k => k.f0 / sizeF s))).kept = (kept.take i).map (fun k => k.f0 / sizeF s) from rfl, hll] at hrk
            obtain ⟨sK, cK, rfl⟩ := own_slice hrk
            have HRK := Aside0.mk hrk
            have HAP := Aside0.mk hapart
            clear hrk hapart
            have q0 : w4.drew.cell? ⟨p13, 0, none⟩ = some (.pointer (some ⟨b, 0, none⟩)) := blk_cell HS12.out.bp 0
            have q1 : w4.drew.cell? ⟨b, 6, none⟩ = some (.map (some bm)) := blk_cell HS12.out.pl.blk 6
            have q2 : w4.drew.cell? ⟨bk, 0, none⟩ = some (.int .u32 f0) := blk_cell KX4.out 0
            have q4 : w4.drew.cell? ⟨b, 2, none⟩ = some (.int .i64 s) := blk_cell HS12.out.pl.blk 2
            clear hr hkm hkm2 hg5 hll
            refine start_ (n := 9) (S := fun w' => w'.cell? ⟨p13, 0, none⟩ = some (.pointer (some ⟨b, 0, none⟩)) ∧ w'.cell? ⟨b, 6, none⟩ = some (.map (some bm)) ∧ w'.cell? ⟨bk, 0, none⟩ = some (.int .u32 f0)) (ds := [8]) #[false, false, false, false, false, false, false, false, false] (by kernel_rfl) rfl rfl ⟨q0, q1, q2⟩ (fun hHeld => ?_)
            refine pure_ (i := 5) (N := some 82) (v := ?_) (a' := ?_) #[false, false, false, false, false, true, false, false, false] rfl rfl (by kernel_rfl) (fun _ _ _ h => h) (Or.inl ⟨by rfl, ?_⟩) ?_ ?_
            rotate_left
            · intro w'
              go_simp
              with_reducible rfl
            rotate_left
            · simp only [Act.put, List.setIfInBounds_toArray, List.set_cons_zero, List.set_cons_succ, i64_w, i32_w]
              rfl
            refine take_ (i := 0) (N := some 77) (v := ?_) (a' := ?_) #[true, false, false, false, false, true, false, false, false] rfl rfl (by kernel_rfl) (fun _ _ _ h => h) (Or.inl ⟨by rfl, ?_⟩) hHeld ?_ ?_
            rotate_left
            · rintro w' ⟨s0, s1, s2⟩
              go_simp
              with_reducible rfl
            rotate_left
            · simp only [Act.put, List.setIfInBounds_toArray, List.set_cons_zero, List.set_cons_succ, i64_w, i32_w]
              rfl
            refine pure_ (i := 1) (N := some 78) (v := ?_) (a' := ?_) #[true, true, false, false, false, true, false, false, false] rfl rfl (by kernel_rfl) (fun _ _ _ h => h) (Or.inl ⟨by rfl, ?_⟩) ?_ ?_
            rotate_left
            · intro w'
              go_simp
              with_reducible rfl
            rotate_left
            · simp only [Act.put, List.setIfInBounds_toArray, List.set_cons_zero, List.set_cons_succ, i64_w, i32_w]
              rfl
            refine pure_ (i := 2) (N := some 79) (v := ?_) (a' := ?_) #[true, true, true, false, false, true, false, false, false] rfl rfl (by kernel_rfl) (fun _ _ _ h => h) (Or.inl ⟨by rfl, ?_⟩) ?_ ?_
            rotate_left
            · intro w'
              go_simp
              with_reducible rfl
            rotate_left
            · simp only [Act.put, List.setIfInBounds_toArray, List.set_cons_zero, List.set_cons_succ, i64_w, i32_w]
              rfl
            refine take_ (i := 3) (N := some 80) (v := ?_) (a' := ?_) #[true, true, true, true, false, true, false, false, false] rfl rfl (by kernel_rfl) (fun _ _ _ h => h) (Or.inl ⟨by rfl, ?_⟩) hHeld ?_ ?_
            rotate_left
            · rintro w' ⟨s0, s1, s2⟩
              go_simp
              with_reducible rfl
            rotate_left
            · simp only [Act.put, List.setIfInBounds_toArray, List.set_cons_zero, List.set_cons_succ, i64_w, i32_w]
              rfl
            refine take_ (i := 4) (N := some 81) (v := ?_) (a' := ?_) #[true, true, true, true, true, true, false, false, false] rfl rfl (by kernel_rfl) (fun _ _ _ h => h) (Or.inl ⟨by rfl, ?_⟩) hHeld ?_ ?_
            rotate_left
            · rintro w' ⟨s0, s1, s2⟩
              go_simp
              with_reducible rfl
            rotate_left
            · simp only [Act.put, List.setIfInBounds_toArray, List.set_cons_zero, List.set_cons_succ, i64_w, i32_w]
              rfl
            refine take_ (i := 6) (N := some 83) (v := ?_) (a' := ?_) #[true, true, true, true, true, true, true, false, false] rfl rfl (by kernel_rfl) (fun _ _ _ h => h) (Or.inl ⟨by rfl, ?_⟩) hHeld ?_ ?_
            rotate_left
            · rintro w' ⟨s0, s1, s2⟩
              go_simp
              with_reducible rfl
            rotate_left
            · simp only [Act.put, List.setIfInBounds_toArray, List.set_cons_zero, List.set_cons_succ, i64_w, i32_w]
              rfl
            refine one_ (i := 7) (N := some 84) #[true, true, true, true, true, true, true, true, false] rfl rfl (by kernel_rfl) (by decide) (fun K hK => ?_)
            refine goes_ Try.func28 (by kernel_rfl) rfl #[.pointer (some ⟨b, 0, none⟩), .int .u32 f0] (by rfl) rfl rfl (by simp only [List.map_toArray, List.map_cons, List.map_nil]; rfl) ?_
            with_reducible refine (HNN.out _ q4).mono ?_
            rintro e_ w6 ⟨rfl, rfl⟩
            refine ⟨_, rfl, ?_⟩
            refine hK.out _ _ ⟨q0, q1, q2⟩ (fun hHeld => ?_)
            clear hK K
            refine norm_ (a' := ?_) ?_ ?_
            rotate_left
            · show Act.put _ (some 84) _ = _
              simp only [Act.put, List.setIfInBounds_toArray, List.set_cons_zero, List.set_cons_succ, i64_w, i32_w]
              rfl
            refine last_ (i := 8) (N := none) #[true, true, true, true, true, true, true, true, true] rfl rfl (by kernel_rfl) (by decide) (fun K hK => ?_)
            refine skip_ (w1 := ?_) (by rfl) rfl ?_ ?_
            rotate_left
            · go_simp
              rfl
            refine hK.out _ _ ?_
            clear hK K
            refine done_ (by kernel_rfl) ?_

            clear q0 q1 q2 q4 R17 hHeld
            go_upto_region 18 with fail
            have hb5 : w5.heap[b]? = some (.cells #[.int .u32 na, .int .i64 nl, .int .i64 s, .int .i64 (lo / sizeF s), .int .i64 (hi / sizeF s), .slice sK i cK, .map (some bm), .slice none 0 0] 66 (0, 0)) := (HG5.out.block b (blk_lt HS12.out.pl.blk) (fun e => by injection e with e; have := HBB.out; omega)).trans HS12.out.pl.blk
            have hp5 : w5.heap[p13]? = some (.cells #[.pointer (some ⟨b, 0, none⟩)] 31 (0, 0)) := (HG5.out.block p13 (blk_lt HS12.out.bp) (fun e => by injection e with e; have := HBB.out; omega)).trans HS12.out.bp
            have hn5 : w5.heap[w.heap.size]? = some (.cells #[.int .u32 na, .int .i64 nl] 27 (0, 0)) := (HG5.out.block w.heap.size (blk_lt HS12.out.bn) (fun e => by injection e with e; have := HBB.out; omega)).trans HS12.out.bn
            have hk5 : w5.heap[bk]? = some (.cells #[.int .u32 f0, .int .i64 s] 27 (0, 0)) := (HG5.out.block bk (blk_lt KX4.out) (fun e => by
              injection e with e
              obtain ⟨es, clock, hm⟩ := HS12.out.pl.mp.map
              have := KX4.out
              rw [e, hm] at this; cases this)).trans KX4.out
            have hrow5 := own_move HRK.out (fun k hk => HG5.out.block k (own_lt HRK.out k hk) (fun e => by injection e with e; exact (HAP.out.2.2 k hk).2 e))
            have hbel5 : Below w.heap.size w w5 := HS12.out.bel.grown HG5.out HS12.out.bel.size (fun j hj => by injection hj with hj; have := HBB.out; omega)
            obtain ⟨i2, hi2', hzz⟩ := Option.map_eq_some_iff.1 info2
            simp only [Prod.mk.injEq] at hzz
            obtain ⟨hz2, hs2, hbb2⟩ := hzz
            have hb6 : Below w5.heap.size w5 (w5.alloc (.cells #[.int .i64 n] 2)).drew := (below_alloc (Below.refl _ _) _).drew
            obtain ⟨v7, w7, r7, o7, g7, l7⟩ := app_any (w5.alloc (.cells #[.int .i64 n] 2)).drew (t := 63) (e := 2) (news := [.int .i64 n]) Try.underlying63 hi2' hz2 hs2 hbb2 rfl (by omega) (World.ownsRow.drew (World.ownsRow.alloc hrow5 _)) (Nat.zero_le _) (some ⟨w5.heap.size, 0, none⟩) 1 1 rfl (.inr ⟨_, rfl, World.news_of_block (cs := #[.int .i64 n]) (t := 2) (fr := (0, 0)) (heap_alloc_new w5 _)⟩) (fun u hu => by rw [List.mem_singleton] at hu; subst hu; rfl) (by have := HL.out; unfold maxLen; omega) (by have := HL.out; omega)
            obtain ⟨s7, c7, rfl⟩ := own_slice o7
            have R18 := Aside0.mk r7
            have hg7 : w5.grownBy w7 (Value.slice sK i cK).ownBlock := World.grownBy.trans (World.grownBy_alloc w5 _ _) ⟨g7.os, g7.tape, g7.output, g7.size, g7.block⟩
            have hb7 : w7.heap[b]? = _ := (hg7.block b (blk_lt hb5) (fun e => (HAP.out.2.2 b e.symm).1 rfl)).trans hb5
            have hp7 : w7.heap[p13]? = _ := (hg7.block p13 (blk_lt hp5) (fun e => own_ne_block HRK.out HS12.out.bp (by decide) e)).trans hp5
            have hk7 : w7.heap[bk]? = _ := (hg7.block bk (blk_lt hk5) (fun e => own_ne_block HRK.out KX4.out (by decide) e)).trans hk5
            have q0 : w5.drew.cell? ⟨p13, 0, none⟩ = some (.pointer (some ⟨b, 0, none⟩)) := blk_cell hp5 0
            have q1 : w5.drew.cell? ⟨b, 5, none⟩ = some (.slice sK i cK) := blk_cell hb5 5
            have q2 : w5.drew.cell? ⟨bk, 0, none⟩ = some (.int .u32 f0) := blk_cell hk5 0
            have q4 : w5.drew.cell? ⟨b, 2, none⟩ = some (.int .i64 s) := blk_cell hb5 2
            have z0 : (w5.alloc (.cells #[.int .i64 n] 2)).drew.cell? ⟨p13, 0, none⟩ = some (.pointer (some ⟨b, 0, none⟩)) := blk_cell (blk_below hp5 hb6) 0
            have z1 : (w5.alloc (.cells #[.int .i64 n] 2)).drew.cell? ⟨b, 5, none⟩ = some (.slice sK i cK) := blk_cell (blk_below hb5 hb6) 5
            have z2 : (w5.alloc (.cells #[.int .i64 n] 2)).drew.cell? ⟨bk, 0, none⟩ = some (.int .u32 f0) := blk_cell (blk_below hk5 hb6) 0
            have y0 : w7.cell? ⟨p13, 0, none⟩ = some (.pointer (some ⟨b, 0, none⟩)) := blk_cell hp7 0
            have y1 : w7.cell? ⟨b, 5, none⟩ = some (.slice sK i cK) := blk_cell hb7 5
            have y2 : w7.cell? ⟨bk, 0, none⟩ = some (.int .u32 f0) := blk_cell hk7 0
            have y3 : w7.frozen? ⟨b, 5, none⟩ = false := blk_frozen hb7 5
            have HFIN : Aside0 (NSt w na nl s lo hi kept b bm p13 (i + 1) (.slice s7 (i + 1) c7) (w7.setCell ⟨b, 5, none⟩ (.slice s7 (i + 1) c7))) := ⟨by
              have hvf : ∀ k, (Value.slice s7 (i + 1) c7).ownBlock = some k → (Value.slice sK i cK).ownBlock = some k ∨ w5.heap.size ≤ k := fun k hk => by
                rcases l7 with h | h
                · exact .inl (h ▸ hk)
                · rw [h] at hk; injection hk with hk
                  have : (w5.alloc (.cells #[.int .i64 n] 2)).drew.heap.size = w5.heap.size + 1 := by simp
                  exact .inr (by omega)
              have hbm5 := HKM.out.lt
              have hne : ∀ k, (Value.slice s7 (i + 1) c7).ownBlock = some k → k ≠ b ∧ k ≠ bm := fun k hk => by
                rcases hvf k hk with h | h
                · exact HAP.out.2.2 k h
                · have := blk_lt hb5; omega
              have hset : ∀ k, k ≠ b → (w7.setCell ⟨b, 5, none⟩ (.slice s7 (i + 1) c7)).heap[k]? = w7.heap[k]? := fun k hk => Below.heap_setCell w7 ⟨b, 5, none⟩ _ k hk
              have htk := HTK.out
              have hnn : (kept.take (i + 1)).map (fun k => k.f0 / sizeF s) = (kept.take i).map (fun k => k.f0 / sizeF s) ++ [n] := by rw [htk, List.map_append, HNE.out]; rfl
              have hff : (kept.take (i + 1)).map (·.f0) = (kept.take i).map (·.f0) ++ [f0] := by rw [htk, List.map_append]; rfl
              refine ⟨⟨blk_put hb7 5 (.slice s7 (i + 1) c7) rfl, ?_, ?_, World.ownsRow_nil _ _ _ _, Wf.nil, by simp⟩, (hset p13 (by have := HBB.out; omega)).trans hp7, (hset _ (by have := HBB.out; omega)).trans ((hg7.block _ (blk_lt hn5) (fun e => own_ne_block HRK.out HS12.out.bn (by decide) e)).trans hn5), ?_, ?_, ?_, ?_⟩
              · show World.ownsRow _ 0 2 1 _ ((kept.take (i + 1)).map (fun k => k.f0 / sizeF s)).length (((kept.take (i + 1)).map (fun k => k.f0 / sizeF s)).map (Value.int .i64))
                rw [hnn, List.map_append, List.length_append, HLL.out]
                exact own_move o7 (fun k hk => hset k (hne k hk).1)
              · have h1 : KM w5 bm (M0 na nl s lo hi ((kept.take (i + 1)).map (fun k => k.f0 / sizeF s))).isK (M0 na nl s lo hi ((kept.take (i + 1)).map (fun k => k.f0 / sizeF s))).kept.length := by
                  show KM w5 bm (isKf ((kept.take (i + 1)).map (fun k => k.f0 / sizeF s))) ((kept.take (i + 1)).map (fun k => k.f0 / sizeF s)).length
                  rw [hnn, List.length_append, HLL.out]; exact HKM.out
                exact h1.step ((hset bm (by have := HBB.out; omega)).trans (hg7.block bm hbm5 (fun e => (HAP.out.2.2 bm e.symm).2 rfl)))
              · exact below_set (hbel5.grown hg7 hbel5.size (fun k hk => HS12.out.fr k (by simp [PlF, hk]))) (by have := HBB.out; omega)
              · intro k hk
                simp only [PlF, List.mem_cons, List.mem_append, Option.mem_toList, Option.mem_def] at hk
                rcases hk with rfl | rfl | hk | hk
                · have := HBB.out; omega
                · have := HBB.out; omega
                · rcases hvf k hk with h | h
                  · exact HS12.out.fr k (by simp [PlF, h])
                  · have := hbel5.size; omega
                · cases hk
              · rw [hff, ← HE5.out]
              · intro x hx
                rw [hff] at hx
                rcases List.mem_append.1 hx with hx | hx
                · exact HS12.out.al x hx
                · rw [List.mem_singleton] at hx; subst hx; exact HAL.out⟩
            have hwi : IntKind.i64.wrap ((i : Int) + 1) = ((i + 1 : Nat) : Int) := by have := HL.out; rw [wrap64_id (by omega) (by omega)]; omega
            clear r7 o7 g7 l7 hg7 hb7 hp7 hk7 hb5 hp5 hn5 hk5 hrow5 hbel5 hb6 hi2' hz2 hs2 hbb2
            refine start_ (n := 14) (S := fun w' => w'.cell? ⟨p13, 0, none⟩ = some (.pointer (some ⟨b, 0, none⟩)) ∧ w'.cell? ⟨b, 5, none⟩ = some (.slice sK i cK) ∧ w'.cell? ⟨bk, 0, none⟩ = some (.int .u32 f0)) (ds := [13]) #[false, false, false, false, false, false, false, false, false, false, false, false, false, false] (by kernel_rfl) rfl rfl ⟨q0, q1, q2⟩ (fun hHeld => ?_)
            refine pure_ (i := 6) (N := some 91) (v := ?_) (a' := ?_) #[false, false, false, false, false, false, true, false, false, false, false, false, false, false] rfl rfl (by kernel_rfl) (fun _ _ _ h => h) (Or.inl ⟨by rfl, ?_⟩) ?_ ?_
            rotate_left
            · intro w'
              go_simp
              with_reducible rfl
            rotate_left
            · simp only [Act.put, List.setIfInBounds_toArray, List.set_cons_zero, List.set_cons_succ, i64_w, i32_w]
              rfl
            refine take_ (i := 0) (N := some 85) (v := ?_) (a' := ?_) #[true, false, false, false, false, false, true, false, false, false, false, false, false, false] rfl rfl (by kernel_rfl) (fun _ _ _ h => h) (Or.inl ⟨by rfl, ?_⟩) hHeld ?_ ?_
            rotate_left
            · rintro w' ⟨s0, s1, s2⟩
              go_simp
              with_reducible rfl
            rotate_left
            · simp only [Act.put, List.setIfInBounds_toArray, List.set_cons_zero, List.set_cons_succ, i64_w, i32_w]
              rfl
            refine take_ (i := 1) (N := some 86) (v := ?_) (a' := ?_) #[true, true, false, false, false, false, true, false, false, false, false, false, false, false] rfl rfl (by kernel_rfl) (fun _ _ _ h => h) (Or.inl ⟨by rfl, ?_⟩) hHeld ?_ ?_
            rotate_left
            · rintro w' ⟨s0, s1, s2⟩
              go_simp
              with_reducible rfl
            rotate_left
            · simp only [Act.put, List.setIfInBounds_toArray, List.set_cons_zero, List.set_cons_succ, i64_w, i32_w]
              rfl
            refine pure_ (i := 2) (N := some 87) (v := ?_) (a' := ?_) #[true, true, true, false, false, false, true, false, false, false, false, false, false, false] rfl rfl (by kernel_rfl) (fun _ _ _ h => h) (Or.inl ⟨by rfl, ?_⟩) ?_ ?_
            rotate_left
            · intro w'
              go_simp
              with_reducible rfl
            rotate_left
            · simp only [Act.put, List.setIfInBounds_toArray, List.set_cons_zero, List.set_cons_succ, i64_w, i32_w]
              rfl
            refine pure_ (i := 3) (N := some 88) (v := ?_) (a' := ?_) #[true, true, true, true, false, false, true, false, false, false, false, false, false, false] rfl rfl (by kernel_rfl) (fun _ _ _ h => h) (Or.inl ⟨by rfl, ?_⟩) ?_ ?_
            rotate_left
            · intro w'
              go_simp
              with_reducible rfl
            rotate_left
            · simp only [Act.put, List.setIfInBounds_toArray, List.set_cons_zero, List.set_cons_succ, i64_w, i32_w]
              rfl
            refine take_ (i := 4) (N := some 89) (v := ?_) (a' := ?_) #[true, true, true, true, true, false, true, false, false, false, false, false, false, false] rfl rfl (by kernel_rfl) (fun _ _ _ h => h) (Or.inl ⟨by rfl, ?_⟩) hHeld ?_ ?_
            rotate_left
            · rintro w' ⟨s0, s1, s2⟩
              go_simp
              with_reducible rfl
            rotate_left
            · simp only [Act.put, List.setIfInBounds_toArray, List.set_cons_zero, List.set_cons_succ, i64_w, i32_w]
              rfl
            refine take_ (i := 5) (N := some 90) (v := ?_) (a' := ?_) #[true, true, true, true, true, true, true, false, false, false, false, false, false, false] rfl rfl (by kernel_rfl) (fun _ _ _ h => h) (Or.inl ⟨by rfl, ?_⟩) hHeld ?_ ?_
            rotate_left
            · rintro w' ⟨s0, s1, s2⟩
              go_simp
              with_reducible rfl
            rotate_left
            · simp only [Act.put, List.setIfInBounds_toArray, List.set_cons_zero, List.set_cons_succ, i64_w, i32_w]
              rfl
            refine take_ (i := 7) (N := some 92) (v := ?_) (a' := ?_) #[true, true, true, true, true, true, true, true, false, false, false, false, false, false] rfl rfl (by kernel_rfl) (fun _ _ _ h => h) (Or.inl ⟨by rfl, ?_⟩) hHeld ?_ ?_
            rotate_left
            · rintro w' ⟨s0, s1, s2⟩
              go_simp
              with_reducible rfl
            rotate_left
            · simp only [Act.put, List.setIfInBounds_toArray, List.set_cons_zero, List.set_cons_succ, i64_w, i32_w]
              rfl
            refine one_ (i := 8) (N := some 93) #[true, true, true, true, true, true, true, true, true, false, false, false, false, false] rfl rfl (by kernel_rfl) (by decide) (fun K hK => ?_)
            refine goes_ Try.func28 (by kernel_rfl) rfl #[.pointer (some ⟨b, 0, none⟩), .int .u32 f0] (by rfl) rfl rfl (by simp only [List.map_toArray, List.map_cons, List.map_nil]; rfl) ?_
            with_reducible refine (HNN.out _ q4).mono ?_
            rintro e_ w6 ⟨rfl, rfl⟩
            refine ⟨_, rfl, ?_⟩
            refine hK.out _ _ ⟨q0, q1, q2⟩ (fun hHeld => ?_)
            clear hK K
            refine norm_ (a' := ?_) ?_ ?_
            rotate_left
            · show Act.put _ (some 93) _ = _
              simp only [Act.put, List.setIfInBounds_toArray, List.set_cons_zero, List.set_cons_succ, i64_w, i32_w]
              rfl
            refine one_ (i := 9) (N := some 94) #[true, true, true, true, true, true, true, true, true, true, false, false, false, false] rfl rfl (by kernel_rfl) (by decide) (fun K hK => ?_)
            refine value_ (w1 := ?_) (v := ?_) (by rfl) rfl ?_ ?_
            rotate_left 2
            · go_simp
              constructor
              · rfl
              · rfl
            refine hK.out _ _ ⟨z0, z1, z2⟩ (fun hHeld => ?_)
            clear hK K
            refine norm_ (a' := ?_) ?_ ?_
            rotate_left
            · show Act.put _ (some 94) _ = _
              simp only [Act.put, List.setIfInBounds_toArray, List.set_cons_zero, List.set_cons_succ, i64_w, i32_w]
              rfl
            refine one_ (i := 10) (N := some 95) #[true, true, true, true, true, true, true, true, true, true, true, false, false, false] rfl rfl (by kernel_rfl) (by decide) (fun K hK => ?_)
            refine step_append_run rfl (.tmp 89) (.tmp 94) 63 rfl (by rfl) (by rfl) R18.out ?_
            refine hK.out _ _ ⟨y0, y1, y2⟩ (fun hHeld => ?_)
            clear hK K
            refine norm_ (a' := ?_) ?_ ?_
            rotate_left
            · show Act.put _ (some 95) _ = _
              simp only [Act.put, List.setIfInBounds_toArray, List.set_cons_zero, List.set_cons_succ, i64_w, i32_w]
              rfl
            refine pure_ (i := 11) (N := some 96) (v := ?_) (a' := ?_) #[true, true, true, true, true, true, true, true, true, true, true, true, false, false] rfl rfl (by kernel_rfl) (fun _ _ _ h => h) (Or.inl ⟨by rfl, ?_⟩) ?_ ?_
            rotate_left
            · intro w'
              go_simp
              with_reducible rfl
            rotate_left
            · simp only [Act.put, List.setIfInBounds_toArray, List.set_cons_zero, List.set_cons_succ, i64_w, i32_w]
              rfl
            refine pure_ (i := 12) (N := some 97) (v := ?_) (a' := ?_) #[true, true, true, true, true, true, true, true, true, true, true, true, true, false] rfl rfl (by kernel_rfl) (fun _ _ _ h => h) (Or.inl ⟨by rfl, ?_⟩) ?_ ?_
            rotate_left
            · intro w'
              go_simp
              with_reducible rfl
            rotate_left
            · simp only [Act.put, List.setIfInBounds_toArray, List.set_cons_zero, List.set_cons_succ, i64_w, i32_w]
              rfl
            refine last_ (i := 13) (N := none) #[true, true, true, true, true, true, true, true, true, true, true, true, true, true] rfl rfl (by kernel_rfl) (by decide) (fun K hK => ?_)
            refine skip_ (w1 := ?_) (by rfl) rfl ?_ ?_
            rotate_left
            · go_simp
              rfl
            refine hK.out _ _ ?_
            clear hK K
            refine done_ (by kernel_rfl) ?_

            go_wp2_with fail
            go_roundg (kept.length - (i + 1))
            case measure => have := HGG.out; have := HLT.out; omega
            case rel => exact ⟨i + 1, _, rfl, rfl, by have := HLT.out; omega, HFIN⟩
        · rw [if_pos c2] at hE2
          rw [decide_eq_false c2] at HCN
          have HE3 := Aside0.mk hE2
          clear hE2 c2 hv
          go_wp2_with fail
          refine (HV.out _).mono ?_
          rintro e_ w2 ⟨rfl, hb2⟩
          have HS10 := Aside0.mk (HS9.out.below hb2)
          have KX2 := Aside0.mk (blk_below KX.out hb2)
          have kx0 := blk_cell KX2.out 0
          have kx1 := blk_cell KX2.out 1
          have kn0 := blk_cell HS10.out.bn 0
          have kn1 := blk_cell HS10.out.bn 1
          clear hb2
          go_wp2_with fail
          refine (HCN.out _).mono ?_
          rintro e_ w3 ⟨rfl, hb3⟩
          have HS11 := Aside0.mk (HS10.out.below hb3)
          clear hb3
          go_wp2_with fail
          go_ret2
          exact .inl ⟨by rw [HE.out, ← HE3.out]; omega, by rw [HE.out, ← HE3.out]; rfl, HS11.out.bel⟩
      · rw [if_pos c1'] at hE2
        have HE3 := Aside0.mk hE2
        clear hE2
        by_cases hl : f1 = s
        · have hlb : (f1 != s) = false := by simp [hl]
          have hv : decide (vld f0 f1) = false := decide_eq_false (fun h => c1' ⟨hl, h⟩)
          rw [hv] at HV
          clear hv hl c1'
          go_wp2_with fail
          refine (HV.out _).mono ?_
          rintro e_ w2 ⟨rfl, hb2⟩
          have HS10 := Aside0.mk (HS9.out.below hb2)
          clear hb2
          go_wp2_with fail
          go_ret2
          exact .inl ⟨by rw [HE.out, ← HE3.out]; omega, by rw [HE.out, ← HE3.out]; rfl, HS10.out.bel⟩
        · have hlb : (f1 != s) = true := by simpa using hl
          clear hl c1'
          go_wp2_with fail
          go_ret2
          exact .inl ⟨by rw [HE.out, ← HE3.out]; omega, by rw [HE.out, ← HE3.out]; rfl, HS9.out.bel⟩
    · have hii : ¬ (i : Int) < (kept.length : Int) := by omega
      obtain rfl : i = kept.length := by omega
      have hE2 := HS8.out.he
      rw [List.drop_length] at hE2
      have hE3 : newE na nl s lo hi kept = 0 := by rw [HE.out, ← hE2]; unfold keptE; rfl
      have HE3 := Aside0.mk hE3
      have hrk := HS8.out.pl.rk
      rw [List.take_length] at hrk
      obtain ⟨sK, cK, rfl⟩ := own_slice hrk
      have HSO := Aside0.mk (sort_any (Ps := p13) (b := b) (show wr.ownsRow 0 2 1 _ _ ((kept.map (fun k => k.f0 / sizeF s)).map (Value.int .i64)) from hrk) (by show (kept.map (fun k => k.f0 / sizeF s)).length < _; rw [List.length_map]; have := HL.out; omega) (blk_cell HS8.out.bp 0) (blk_cell HS8.out.pl.blk 5) (blk_lt HS8.out.bp) (own_ne_block hrk HS8.out.bp (by decide)) (blk_lt HS8.out.pl.blk) (own_ne_block hrk HS8.out.pl.blk (by decide)))
      have q0 : wr.cell? ⟨p13, 0, none⟩ = some (.pointer (some ⟨b, 0, none⟩)) := blk_cell HS8.out.bp 0
      have q1 := blk_cell HS8.out.pl.blk 5
      clear hE2 hE3 hrk
      go_wp2_with fail
      refine HSO.out.mono ?_
      rintro e_ w2 ⟨rfl, hrow, hg⟩
      have hap := HS8.out.pl.apart
      have hb2 : w2.heap[b]? = _ := (hg.block b (blk_lt HS8.out.pl.blk) (fun e => (hap.2.2 b e.symm).1 rfl)).trans HS8.out.pl.blk
      have hp2 : w2.heap[p13]? = _ := (hg.block p13 (blk_lt HS8.out.bp) (fun e => own_ne_block HS8.out.pl.rk HS8.out.bp (by decide) e)).trans HS8.out.bp
      have q2 := blk_cell hp2 0
      have hmp := HS8.out.pl.mp.step (w1 := w2) (hg.block bm HS8.out.pl.mp.lt (fun e => (hap.2.2 bm e.symm).2 rfl))
      have hbel : Below w.heap.size w w2 := HS8.out.bel.grown hg HS8.out.bel.size (fun k hk => HS8.out.fr k (by simp [PlF, hk]))
      have HPL : Aside0 (PlS w2 b (.slice sK (kept.map (fun k => k.f0 / sizeF s)).length cK) bm (.slice none 0 0) (M0 na nl s lo hi (SortI.srt (kept.map (fun k => k.f0 / sizeF s)))) []) := ⟨by
        refine ⟨hb2, ?_, ?_, World.ownsRow_nil _ _ _ _, Wf.nil, by simp⟩
        · show World.ownsRow _ 0 2 1 _ (SortI.srt (kept.map (fun k => k.f0 / sizeF s))).length ((SortI.srt (kept.map (fun k => k.f0 / sizeF s))).map (Value.int .i64))
          rw [SortI.srt_len]; exact hrow
        · show KM w2 bm (isKf (SortI.srt (kept.map (fun k => k.f0 / sizeF s)))) (SortI.srt (kept.map (fun k => k.f0 / sizeF s))).length
          have e : isKf (SortI.srt (kept.map (fun k => k.f0 / sizeF s))) = isKf (kept.map (fun k => k.f0 / sizeF s)) := by
            funext x; unfold isKf; simp only [SortI.srt_mem]
          rw [e, SortI.srt_len]
          have := hmp
          rw [List.take_length] at this
          exact this⟩
      have HBE := Aside0.mk hbel
      clear hrow hg hap hb2 hp2 hmp hbel q0 q1
      go_wp2_with fail
      go_ret2
      exact .inr ⟨HE3.out, b, _, bm, rfl, HPL.out, HS8.out.fr, HBE.out⟩
/-- New, whatever it is given -/
theorem new10 (w : World) (na nl s lo hi : Int) (A : Option Addr) (kept : List S27) (c : Nat) (hm : kept.length ≤ maxLen) (hb0 : 0 ≤ na) (hb1 : na < 4294967296) (hl0 : 0 ≤ lo) (hl1 : lo < 4294967296) (hh0 : 0 ≤ hi) (hh1 : hi < 4294967296)
    (hC : Kd.C k27 w A kept.length kept) (hW : ∀ k, k ∈ kept → 0 ≤ k.f0 ∧ k.f0 < 4294967296) :
    Calls Try.prog 10 #[.agg #[.int .u32 na, .int .i64 nl], .int .i64 s, .int .u32 lo, .int .u32 hi, .slice A kept.length c] w (NewPost w na nl s lo hi kept SortI.srt) := by
  by_cases h : 1024 < kept.length
  · exact new_long w na nl s lo hi A kept c h hm _
  · by_cases hf : faultF na nl s lo hi = 0
    · exact new_kept w na nl s lo hi A kept c (by omega) hb0 hb1 hl0 hl1 hh0 hh1 hf hC hW
    · exact new_fault w na nl s lo hi A kept c (by omega) hb0 hb1 hl0 hl1 hh0 hh1 hf _
end Go.Proofs.Ytebnlhjakiipjaa.Pl
