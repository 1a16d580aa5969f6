/- IpamRound: the plain part: the names, what is given once round. IpamRound: what is given once round, and Add and Del with the relation. IpamRound walked. -/
import Derived.Test.YtgabkifojnkbkaaIpmPl
set_option linter.unusedVariables false
set_option linter.unusedSimpArgs false
namespace Go.Proofs.Ytgabkifojnkbkaa.Ip
open Go.RowKit Go.Maps Go.WideMaps Go.MapKept Go.Proofs.YtgabkifojnkbkaaW.PrintWords Go.Proofs.Ytgabkifojnkbkaa.PIpf
def nameV (n : Nat) : ByteArray := (weftlaw15_name.f 8 (n : Int)).getD ⟨#[]⟩
def decN (s : ByteArray) : Int := (bt s 1 - 48) + 10 * (bt s 2 - 48) + 100 * (bt s 3 - 48) + 1000 * (bt s 4 - 48)
theorem names_all : ∀ n : Nat, n < 1024 → weftlaw15_name.f 8 (n : Int) = some (nameV n) ∧ ipam_nameOK.f 12 (nameV n) = some true ∧ decN (nameV n) = (n : Int) ∧ (nameV n).size = 7 := by decide +kernel
theorem x_name : ipam_nameOK.f 12 ⟨#[120]⟩ = some true := by decide +kernel
theorem size_val : ∀ n : Nat, n < 31 → 1 ≤ n → weftlaw15_size.f 40 0 (n : Int) = some (sizeF (n : Int)) := by decide +kernel
end Go.Proofs.Ytgabkifojnkbkaa.Ip

set_option linter.unusedVariables false
set_option linter.unusedSimpArgs false
namespace Go.Proofs.Ytgabkifojnkbkaa.Ip
open Go.RowKit Go.Maps Go.WideMaps Go.MapKept Go.Proofs.YtgabkifojnkbkaaW.PrintWords Go.Proofs.Ytgabkifojnkbkaa.PIpf
theorem kept_byN2 (M : IpM) (s : ByteArray) (a : Int) : (keptF M s a).byN s = some a := by
  unfold keptF
  split <;> simp [keptN, keptO, putN]
/-- the pods of the first i Adds -/
def podsTo (b : Int) (i : Nat) : List Pod := (List.range i).map fun j => (nameV j, b + 2 + j)
theorem podsTo_succ (b : Int) (i : Nat) : podsTo b (i + 1) = podsTo b i ++ [(nameV i, b + 2 + i)] := by simp [podsTo, List.range_succ]
theorem podsTo_length (b : Int) (i : Nat) : (podsTo b i).length = i := by simp [podsTo]
theorem podsTo_mem {b : Int} {i : Nat} {p : Pod} (h : p ∈ podsTo b i) : ∃ j, j < i ∧ p = (nameV j, b + 2 + j) := by
  rw [podsTo, List.mem_map] at h
  obtain ⟨j, hj, rfl⟩ := h
  exact ⟨j, List.mem_range.1 hj, rfl⟩
theorem podsTo_has (b : Int) {i j : Nat} (h : j < i) : (nameV j, b + 2 + j) ∈ podsTo b i := by
  rw [podsTo, List.mem_map]
  exact ⟨j, List.mem_range.2 h, rfl⟩
theorem nameV_inj {i j : Nat} (hi : i < 1024) (hj : j < 1024) (h : nameV i = nameV j) : i = j := by
  have a := (names_all i hi).2.2.1
  have b := (names_all j hj).2.2.1
  rw [h, b] at a; omega
theorem holder_neg {l : List Pod} {a : Int} (h : ∀ p, p ∈ l → p.2 ≠ a) : holderF l a < 0 := by
  rcases holderF_in l a with e | ⟨h0, h1, h2⟩
  · omega
  · exact absurd h2 (h _ (podAt_mem (by omega)))
theorem holder_pos {l : List Pod} {p : Pod} (h : p ∈ l) : 0 ≤ holderF l p.2 := by
  rcases Int.lt_or_le (holderF l p.2) 0 with c | c
  · have := placeF_none (l := l) (f := fun q => q.2 == p.2) (i := 0) (by omega) c _ h
    simp at this
  · exact c
section
variable {M : IpM} {R : RfM}
theorem Rel.no_name (h : Rel M R) {s : ByteArray} (hs : ∀ b, (s, b) ∉ R.pods) : M.byN s = none := by
  cases e : M.byN s with
  | none => rfl
  | some b => exact absurd ((h.byN s b).1 e) (hs b)
theorem held_iff (b : Int) (K : Nat) (x : Int) : holderF (podsTo b K) (b + x) < 0 ↔ ¬ (2 ≤ x ∧ x < 2 + K) := by
  constructor
  · rintro h ⟨h1, h2⟩
    have := holder_pos (podsTo_has b (i := K) (j := (x - 2).toNat) (by omega))
    simp only at this
    rw [show b + 2 + (((x - 2).toNat : Nat) : Int) = b + x from by omega] at this
    omega
  · intro h
    refine holder_neg fun p hp e => ?_
    obtain ⟨j, hj, rfl⟩ := podsTo_mem hp
    simp only at e
    omega
theorem seek_now {R : RfM} {n : Nat} {x y : Int} (hs : rstep R x = y) (hf : holderF R.pods (R.base + y) < 0) : rseek R (n + 1) x = y := by
  rw [rseek, hs, if_pos hf]
/-- from the front on -/
theorem seek_front {R : RfM} {K : Nat} (hp : R.pods = podsTo R.base K) (hK : (K : Int) + 2 ≤ R.size - 2) : ∀ (n j : Nat), n + j = K → rseek R (n + 1) (1 + j) = 2 + K
  | 0, j, h => by
    have : j = K := by omega
    subst this
    refine (seek_now (y := 2 + j) ?_ ?_)
    · unfold rstep; rw [if_neg (by omega)]; omega
    · rw [hp, held_iff]; omega
  | n + 1, j, h => by
    have hs : rstep R (1 + j) = 1 + ((j + 1 : Nat) : Int) := by unfold rstep; rw [if_neg (by omega)]; omega
    rw [rseek, hs, if_neg (by rw [hp, held_iff]; omega)]
    exact seek_front hp hK n (j + 1) (by omega)
/-- the place of the i-th Add of the second phase -/
def placeR (f K i : Nat) : Int := 2 + K + ((i % f : Nat) : Int)
def lastR (f K i : Nat) : Int := if i = 0 then 1 + K else placeR f K (i - 1)
theorem mod_next (f i : Nat) (hf : 1 ≤ f) : (i + 1) % f = if i % f + 1 < f then i % f + 1 else 0 := by
  have h1 := Nat.mod_lt i (show 0 < f by omega)
  have h2 := Nat.div_add_mod i f
  split
  · rename_i h
    conv => lhs; rw [← h2, Nat.add_assoc, Nat.mul_add_mod]
    exact Nat.mod_eq_of_lt h
  · rename_i h
    have : i + 1 = f * (i / f + 1) := by rw [Nat.mul_add]; omega
    rw [this, Nat.mul_mod_right]
theorem seek_round {R : RfM} {f K : Nat} (hp : R.pods = podsTo R.base K) (hf : 1 ≤ f) (hs : (K : Int) + f = R.size - 3) (i : Nat) (hl : R.last = lastR f K i) : rseek R (K + 1) R.last = placeR f K i := by
  have front : rseek R (K + 1) 1 = 2 + K := seek_front hp (by omega) K 0 (by omega)
  have now : ∀ m : Nat, m < f → 2 + (K : Int) + m ≤ R.size - 2 := fun m hm => by omega
  cases i with
  | zero =>
    rw [hl]
    simp only [lastR, placeR, if_true, Nat.zero_mod]
    refine (seek_now (y := 2 + K) ?_ ?_).trans (by simp)
    · unfold rstep; rw [if_neg (by omega)]; omega
    · rw [hp, held_iff]; omega
  | succ i =>
    rw [hl]
    have hm := Nat.mod_lt i (show 0 < f by omega)
    have hlr : lastR f K (i + 1) = 2 + K + ((i % f : Nat) : Int) := by simp [lastR, placeR]
    rw [hlr, placeR, mod_next f i hf]
    generalize i % f = m at hm
    by_cases c : m + 1 < f
    · rw [if_pos c]
      refine seek_now ?_ ?_
      · unfold rstep; rw [if_neg (by omega)]; push_cast; omega
      · rw [hp, held_iff]; push_cast; omega
    · rw [if_neg c]
      have e1 : rstep R (2 + K + (m : Int)) = 2 := by unfold rstep; rw [if_pos (by omega)]
      have e2 : rstep R 1 = 2 := by unfold rstep; rw [if_neg (by omega)]; rfl
      have : rseek R (K + 1) (2 + K + (m : Int)) = rseek R (K + 1) 1 := by rw [rseek, rseek, e1, e2]
      rw [this, front]; simp
/-- Add of a new name, with the relation -/
theorem add_rel (k : Nat) (w : World) (B b1 b2 : Nat) (vn vs : Value) (s : ByteArray) (hs : s.size ≤ maxLen) (HS : IpS w B b1 b2 vn vs M) (hrel : Rel M R) (hok : ipam_nameOK.f k s = some true) (hno : ∀ b, (s, b) ∉ R.pods)
    (hl : R.pods.length < 1024) (hroom : (R.pods.length : Int) < R.size - 3) (y : Int) (hy : rseek R (R.pods.length + 1) R.last = y) :
    Calls Try.prog 22 #[.pointer (some ⟨B, 0, none⟩), .string s] w fun e w' => e = .returned (.tuple #[.int .u32 (M.base + y), .int .i64 0]) ∧ ∃ vn' vs' M', IpS w' B b1 b2 vn' vs' M' ∧ Rel M' (raddS R s y) ∧ M'.base = M.base ∧ M'.byN s = some (M.base + y) ∧ Turn w w' (IpF B b1 b2 vn vs) ∧ ∀ b, b ∈ IpF B b1 b2 vn' vs' → b ∈ IpF B b1 b2 vn vs ∨ w.heap.size ≤ b := by
  have hby := hrel.no_name hno
  have hfound := hrel.found hroom
  have hcnt := hrel.cnt
  have hseek : seek M (M.cnt + 1) M.given = M.base + rseek R (R.pods.length + 1) R.last := by rw [hcnt, hrel.given, hrel.seek_eq]
  obtain ⟨hx0, hx1⟩ := hrel.rseek_in R.pods.length R.last hrel.g0
  have hlast := hrel.last
  have hfirst := hrel.first
  rw [hy] at hfound hseek hx0 hx1
  have hfree : M.byA (M.base + y) = none := (hrel.free _).2 (by rw [← hrel.base]; exact hfound)
  have hk := hrel.kept hby y hx0 hx1 hfree (by omega)
  have hh := add_ok k w B b1 b2 vn vs M s hs HS hok hby hrel.num hrel.ok (by omega) (by omega) (by rw [hseek]; exact hfree)
  rw [hseek] at hh
  refine hh.mono ?_
  rintro e w2 ⟨rfl, vn', vs', hI, hT, hF⟩
  refine ⟨rfl, vn', vs', _, hI, hk, ?_, kept_byN2 _ _ _, hT, hF⟩
  unfold keptF
  split <;> rfl
/-- Del of the pod that came last, with the relation -/
theorem del_rel (w : World) (B b1 b2 : Nat) (vn vs : Value) (s : ByteArray) (hs : s.size ≤ maxLen) (HS : IpS w B b1 b2 vn vs M) (hrel : Rel M R) (x : Int) (l : List Pod) (hp : R.pods = l ++ [(s, x)]) :
    Calls Try.prog 24 #[.pointer (some ⟨B, 0, none⟩), .string s] w fun e w' => e = .returned (.tuple #[.int .u32 x, .int .i64 0]) ∧ ∃ vs' M', IpS w' B b1 b2 vn vs' M' ∧ Rel M' { R with pods := l } ∧ M'.base = M.base ∧ Turn w w' (IpF B b1 b2 vn vs) ∧ ∀ b, b ∈ IpF B b1 b2 vn vs' → b ∈ IpF B b1 b2 vn vs ∨ w.heap.size ≤ b := by
  have hby : M.byN s = some x := (hrel.byN s x).2 (by rw [hp]; simp)
  obtain ⟨i0, i1, hpa⟩ := hrel.atF_some hby
  obtain ⟨hx0, hx1, t, ht⟩ := hrel.ok.na s x hby
  obtain ⟨ht0, ht1⟩ := hrel.ok.at_ x t ht
  have hk := hrel.cut hby ht
  have hsum := hrel.sum
  have hnl := hrel.nl
  have hpl : R.pods.length = l.length + 1 := by rw [hp]; simp
  have hat : (atF R.pods s).toNat = l.length := by
    have hi : (atF R.pods s).toNat < R.pods.length := by omega
    generalize (atF R.pods s).toNat = i at hpa hi
    rcases Nat.lt_or_ge i l.length with c | c
    · exfalso
      have e1 : podAt R.pods i = podAt l i := by rw [hp]; unfold podAt; rw [List.getD_eq_getElem?_getD, List.getElem?_append_left c, List.getD_eq_getElem?_getD]
      have hm := podAt_mem c
      rw [← e1, hpa] at hm
      have hnn := hrel.nn
      rw [hp, List.map_append, List.nodup_append] at hnn
      exact hnn.2.2 s (List.mem_map_of_mem (f := (·.1)) hm) s (by simp) rfl
    · omega
  rw [hat] at hk
  have hcut : cutF R.pods l.length = l := by rw [hp, cutF]; simp
  rw [hcut] at hk
  refine (del_ok w B b1 b2 vn vs M s hs HS x t hby hx0 hx1 ht ht0 ht1 (by omega)).mono ?_
  rintro e w2 ⟨rfl, vs', hI, hT, hF⟩
  refine ⟨rfl, vs', _, hI, hk, rfl, hT, fun b hb2 => ?_⟩
  simp only [IpF, List.mem_cons, List.mem_append, Option.mem_toList, Option.mem_def] at hb2 ⊢
  rcases hF with hF | ⟨c, hc, hle⟩
  · rw [hF] at hb2; exact .inl hb2
  · rcases hb2 with hb2 | hb2 | hb2 | hb2 | hb2
    · exact .inl (.inl hb2)
    · exact .inl (.inr (.inl hb2))
    · exact .inl (.inr (.inr (.inl hb2)))
    · exact .inl (.inr (.inr (.inr (.inl hb2))))
    · rw [hc] at hb2; injection hb2 with hb2; right; omega
end
theorem may_val (a l : Int) (h0 : 0 ≤ a) (h1 : a < 4294967296) : ∃ b, weftlaw15_may.f 40 a l = some b ∧ (b = true ↔ Good a l) := by
  unfold weftlaw15_may.f Good
  by_cases c : l ≥ 1
  · by_cases d : l ≤ 30
    · have hsz := size_val l.toNat (by omega) (by omega)
      rw [Int.toNat_of_nonneg (by omega)] at hsz
      obtain ⟨hz, _⟩ := sizeF_mul c d
      have hsz2 : weftlaw15_size.f 40 a l = some (sizeF l) := hsz
      rw [if_pos c, if_pos d, hsz2, Option.bind_some, if_neg (by omega)]
      have hw : wrap64 a = a := by unfold wrap64; omega
      rw [hw, Int.tmod_eq_emod_of_nonneg h0]
      exact ⟨_, rfl, by simp; omega⟩
    · rw [if_pos c, if_neg d]; exact ⟨_, rfl, ⟨fun q => (by cases q), fun q => absurd q.2.1 d⟩⟩
  · rw [if_neg c]; exact ⟨_, rfl, ⟨fun q => (by cases q), fun q => absurd q.1 c⟩⟩
end Go.Proofs.Ytgabkifojnkbkaa.Ip

set_option linter.unusedVariables false
set_option linter.unusedSimpArgs false
namespace Go.Proofs.Ytgabkifojnkbkaa.Ip
open Go.RowKit Go.Maps Go.WideMaps Go.MapKept Go.Proofs.YtgabkifojnkbkaaW.PrintWords Go.Proofs.Ytgabkifojnkbkaa.PIpf
structure RI (w0 w : World) (S : Nat) (a l : Int) (B b1 b2 : Nat) (vn vs : Value) (M : IpM) (R : RfM) : Prop where
  st : IpS w B b1 b2 vn vs M
  rel : Rel M R
  mb : M.base = a
  bel : Below w0.heap.size w0 w
  obj : w.heap[S]? = some (.cells #[.int .u32 a, .int .i64 l] 25)
  new : ∀ b, b ∈ IpF B b1 b2 vn vs → w0.heap.size ≤ b ∧ b ≠ S
theorem RI.step {w0 w w' : World} {S : Nat} {a l : Int} {B b1 b2 : Nat} {vn vs vn' vs' : Value} {M M' : IpM} {R R' : RfM} (h : RI w0 w S a l B b1 b2 vn vs M R) (hI : IpS w' B b1 b2 vn' vs' M') (hr : Rel M' R') (hm : M'.base = M.base)
    (hT : Turn w w' (IpF B b1 b2 vn vs)) (hF : ∀ b, b ∈ IpF B b1 b2 vn' vs' → b ∈ IpF B b1 b2 vn vs ∨ w.heap.size ≤ b) : RI w0 w' S a l B b1 b2 vn' vs' M' R' :=
  ⟨hI, hr, hm.trans h.mb, h.bel.trans (hT.below h.bel.size (fun b hb => (h.new b hb).1)), (hT.block S (blk_lt h.obj) (fun hS => (h.new S hS).2 rfl)).trans h.obj, fun b hb => by
    have hz := h.bel.size
    have hS := blk_lt h.obj
    rcases hF b hb with h1 | h1
    · exact h.new b h1
    · exact ⟨by omega, by omega⟩⟩
theorem RI.below {w0 w w' : World} {S : Nat} {a l : Int} {B b1 b2 : Nat} {vn vs : Value} {M : IpM} {R : RfM} (h : RI w0 w S a l B b1 b2 vn vs M R) (hb : Below w.heap.size w w') : RI w0 w' S a l B b1 b2 vn vs M R :=
  ⟨h.st.below hb, h.rel, h.mb, below_step h.bel hb, (hb.block S (blk_lt h.obj)).trans h.obj, h.new⟩
theorem add_i {w0 w : World} {S : Nat} {a l : Int} {B b1 b2 : Nat} {vn vs : Value} {M : IpM} {R : RfM} (h : RI w0 w S a l B b1 b2 vn vs M R) (i : Nat) (hp : R.pods = podsTo a i) (hlast : R.last = 1 + i) (hi : (i : Int) < R.size - 3) (hi2 : i < 1024) :
    Calls Try.prog 22 #[.pointer (some ⟨B, 0, none⟩), .string (nameV i)] w fun e w' => e = .returned (.tuple #[.int .u32 (a + 2 + i), .int .i64 0]) ∧ ∃ vn' vs' M' R', RI w0 w' S a l B b1 b2 vn' vs' M' R' ∧ R'.pods = podsTo a (i + 1) ∧ R'.last = 1 + ((i + 1 : Nat) : Int) ∧ R'.size = R.size := by
  obtain ⟨_, hok, _, h7⟩ := names_all i hi2
  have hb : R.base = a := h.rel.base.trans h.mb
  have hy : rseek R (R.pods.length + 1) R.last = 2 + i := by
    refine seek_now ?_ ?_
    · rw [hlast]; unfold rstep; rw [if_neg (by omega)]; omega
    · rw [hp, hb, held_iff]; omega
  refine (add_rel 12 w B b1 b2 vn vs (nameV i) (by rw [h7]; decide) h.st h.rel hok (fun b hb2 => by
    rw [hp] at hb2
    obtain ⟨j, hj, e⟩ := podsTo_mem hb2
    injection e with e1 e2
    have := nameV_inj hi2 (by omega) e1
    omega) (by rw [hp, podsTo_length]; exact hi2) (by rw [hp, podsTo_length]; exact hi) _ hy).mono ?_
  rintro e w' ⟨rfl, vn', vs', M', hI, hr, hm, _, hT, hF⟩
  refine ⟨by rw [h.mb, show a + (2 + (i : Int)) = a + 2 + i from by omega], vn', vs', M', _, h.step hI hr hm hT hF, ?_, ?_, rfl⟩
  · show R.pods ++ [(nameV i, R.base + (2 + (i : Int)))] = _
    rw [hp, hb, podsTo_succ, show a + (2 + (i : Int)) = a + 2 + i from by omega]
  · show 2 + (i : Int) = _
    omega
theorem add_x {w0 w : World} {S : Nat} {a l : Int} {B b1 b2 : Nat} {vn vs : Value} {M : IpM} {R : RfM} (h : RI w0 w S a l B b1 b2 vn vs M R) (K f i : Nat) (hp : R.pods = podsTo a K) (hf : 1 ≤ f) (hs : (K : Int) + f = R.size - 3) (hK : K < 1024) (hlast : R.last = lastR f K i) :
    Calls Try.prog 22 #[.pointer (some ⟨B, 0, none⟩), .string ⟨#[120]⟩] w fun e w' => e = .returned (.tuple #[.int .u32 (a + 2 + K + ((i % f : Nat) : Int)), .int .i64 0]) ∧ ∃ vn' vs' M' R', RI w0 w' S a l B b1 b2 vn' vs' M' R' ∧ R'.pods = podsTo a K ++ [(⟨#[120]⟩, a + 2 + K + ((i % f : Nat) : Int))] ∧ R'.last = lastR f K (i + 1) ∧ R'.size = R.size := by
  have hb : R.base = a := h.rel.base.trans h.mb
  have hlen : R.pods.length = K := by rw [hp, podsTo_length]
  have hy : rseek R (R.pods.length + 1) R.last = placeR f K i := by
    rw [hlen]; exact seek_round (by rw [hb]; exact hp) hf hs i hlast
  have he : a + placeR f K i = a + 2 + K + ((i % f : Nat) : Int) := by unfold placeR; omega
  refine (add_rel 12 w B b1 b2 vn vs ⟨#[120]⟩ (by decide) h.st h.rel x_name (fun b hb2 => by
    rw [hp] at hb2
    obtain ⟨j, hj, e⟩ := podsTo_mem hb2
    injection e with e1 e2
    have h7 := (names_all j (by omega)).2.2.2
    rw [← e1] at h7
    exact absurd h7 (by decide)) (by omega) (by omega) _ hy).mono ?_
  rintro e w' ⟨rfl, vn', vs', M', hI, hr, hm, _, hT, hF⟩
  refine ⟨by rw [h.mb, he], vn', vs', M', _, h.step hI hr hm hT hF, ?_, ?_, rfl⟩
  · show R.pods ++ [(_, R.base + placeR f K i)] = _
    rw [hp, hb, he]
  · show placeR f K i = _
    simp [lastR]
theorem del_x {w0 w : World} {S : Nat} {a l : Int} {B b1 b2 : Nat} {vn vs : Value} {M : IpM} {R : RfM} (h : RI w0 w S a l B b1 b2 vn vs M R) (x : Int) (pl : List Pod) (hp : R.pods = pl ++ [(⟨#[120]⟩, x)]) :
    Calls Try.prog 24 #[.pointer (some ⟨B, 0, none⟩), .string ⟨#[120]⟩] w fun e w' => e = .returned (.tuple #[.int .u32 x, .int .i64 0]) ∧ ∃ vs' M' R', RI w0 w' S a l B b1 b2 vn vs' M' R' ∧ R'.pods = pl ∧ R'.last = R.last ∧ R'.size = R.size := by
  refine (del_rel w B b1 b2 vn vs ⟨#[120]⟩ (by decide) h.st h.rel x pl hp).mono ?_
  rintro e w' ⟨rfl, vs', M', hI, hr, hm, hT, hF⟩
  exact ⟨rfl, vs', M', _, h.step hI hr hm hT hF, rfl, rfl, rfl⟩
theorem sizeF_small {l : Int} (h0 : 22 ≤ l) (h1 : l ≤ 30) : 4 ≤ sizeF l ∧ sizeF l ≤ 1024 := by
  have e : ∀ n : Nat, n < 31 → 22 ≤ n → 4 ≤ sizeF (n : Int) ∧ sizeF (n : Int) ≤ 1024 := by decide +kernel
  have := e l.toNat (by omega) (by omega)
  rwa [Int.toNat_of_nonneg (by omega)] at this
set_option maxHeartbeats 16000000 in
set_option maxRecDepth 100000 in
theorem round_main (w : World) (a l keep rounds : Int) (h0 : 0 ≤ a) (h1 : a < 4294967296) (hg : Good a l) (hl : 22 ≤ l) (hk0 : 0 ≤ keep) (hk1 : keep < 9223372036854775808) (hr0 : 0 ≤ rounds) (hr1 : rounds ≤ 3000) :
    Calls Try.prog 11 #[.agg #[.int .u32 a, .int .i64 l], .int .i64 keep, .int .i64 rounds] w fun e w' => e = .returned (.bool true) ∧ Below w.heap.size w w' := by
  obtain ⟨mb, hmay, hmb⟩ := may_val a l h0 h1
  obtain rfl : mb = true := hmb.2 hg
  have hrel := Aside0.mk (Rel.new hg.1 hg.2.1 h0 h1 hg.2.2)
  have hMay := Aside0.mk (fun w => weftlaw15_may.calls 40 a l true w hmay)
  have hNew := Aside0.mk (fun w => new_good w a l h0 h1 hg)
  have hFst := Aside0.mk first16
  have hszv : weftlaw15_size.f 40 a l = some (sizeF l) := by
    have := size_val l.toNat (by have := hg.2.1; omega) (by omega)
    rw [Int.toNat_of_nonneg (by omega)] at this
    exact this
  have hSz := Aside0.mk (fun w => weftlaw15_size.calls 40 a l _ w hszv)
  obtain ⟨z0, z1⟩ := sizeF_small hl hg.2.1
  have htop := hrel.out.top
  have hln : ¬ l < 22 := by omega
  have hkn : ¬ keep < 0 := by omega
  have hrn : ¬ rounds < 0 := by omega
  have hrm : ¬ rounds > 3000 := by omega
  have htop2 : a + sizeF l ≤ 4294967296 := htop
  have HTOP := Aside0.mk htop2
  clear hg hmay hmb hszv htop htop2
  generalize hz : sizeF l = z at *
  have hw3 : IntKind.i64.wrap (z - 3) = z - 3 := wrap64_id (by omega) (by omega)
  have hrg : ¬ z - 3 > 1024 := by omega
  have hrz : ¬ z - 3 = 0 := by omega
  obtain ⟨K, hK⟩ : ∃ K : Nat, keep % (z - 3) = (K : Int) := ⟨(keep % (z - 3)).toNat, (Int.toNat_of_nonneg (Int.emod_nonneg _ (by omega))).symm⟩
  have hKl : (K : Int) < z - 3 := by rw [← hK]; exact Int.emod_lt_of_pos _ (by omega)
  have htm : Int.tmod keep (z - 3) = (K : Int) := (Int.tmod_eq_emod_of_nonneg hk0).trans hK
  clear hK
  obtain ⟨f, hf⟩ : ∃ f : Nat, z - 3 - (K : Int) = (f : Int) := ⟨(z - 3 - (K : Int)).toNat, by omega⟩
  go_enter Try.func11, Try.ntmps11
  go_wp2_with (first | (go_at_call 21; refine (hMay.out _).mono ?_; rintro e_ w1 ⟨rfl, hb1⟩
                        have kb := blk_below (blk_new w (.cells #[.int .u32 a, .int .i64 l] 25)) hb1
                        have k0 : w1.cell? ⟨w.heap.size, 0, none⟩ = some (.int .u32 a) := blk_cell kb 0
                        have k1 : w1.cell? ⟨w.heap.size, 1, none⟩ = some (.int .i64 l) := blk_cell kb 1
                        have KB := Aside0.mk kb
                        have HB1 := Aside0.mk (below_step (below_alloc (Below.refl _ _) _) hb1)
                        clear hb1 kb)
                     | (go_at_call 20; refine (hNew.out _).mono ?_; rintro e_ w2 ⟨B, b1, b2, rfl, hS, hb2, hF⟩
                        have HR2 : Aside0 (RI w w2 w.heap.size a l B b1 b2 _ _ _ _) := ⟨⟨hS, hrel.out, rfl, below_step HB1.out hb2, blk_below KB.out hb2, fun b hb => by
                          have := hF b hb; have := HB1.out.size; have := blk_lt KB.out; exact ⟨by omega, by omega⟩⟩⟩
                        clear hS hb2 hF k0 k1)
                     | (go_at_call 16; refine (hFst.out _).mono ?_; rintro e_ w3 ⟨rfl, hb3⟩
                        have HR3 := Aside0.mk (HR2.out.below hb3)
                        have k0 : w3.cell? ⟨w.heap.size, 0, none⟩ = some (.int .u32 a) := blk_cell HR3.out.obj 0
                        have k1 : w3.cell? ⟨w.heap.size, 1, none⟩ = some (.int .i64 l) := blk_cell HR3.out.obj 1
                        clear hb3)
                     | (go_at_call 28; refine (hSz.out _).mono ?_; rintro e_ w4 ⟨rfl, hb4⟩
                        have HR4 := Aside0.mk (HR3.out.below hb4)
                        clear hb4 k0 k1) | go_in)
  clear HR2 HR3 hMay hNew hFst KB HB1 htm
  have hz4 : (rnewM a l).size = z := hz
  have HQ4 := Aside0.mk (show (rnewM a l).pods = podsTo a 0 ∧ (rnewM a l).last = 1 + ((0 : Nat) : Int) ∧ (rnewM a l).size = z from ⟨rfl, rfl, hz4⟩)
  clear hz4 hz hrel
  generalize newM a l (a + z - 1) = M4 at *
  generalize rnewM a l = R4 at *
  generalize Value.slice none 0 0 = vn4 at HR4
  have hwa : IntKind.i64.wrap (a + 2) = a + 2 := wrap64_id (by omega) (by omega)
  have hwf : IntKind.i64.wrap (z - 3 - (K : Int)) = (f : Int) := by rw [hf]; exact wrap64_id (by omega) (by omega)
  have hfn : ¬ (f : Int) = 0 := by omega
  have hf1 : 1 ≤ f := by omega
  have hKf : (K : Int) + f = z - 3 := by omega
  have hK1 : K < 1024 := by omega
  have HKF := Aside0.mk hKf
  clear hf hKf
  go_loopw [10] (fun vi wr => ∃ (i : Nat) (vn vs : Value) (M : IpM) (R : RfM), vi = .int .i64 i ∧ i ≤ K ∧ Aside0 (RI w wr w.heap.size a l B b1 b2 vn vs M R) ∧ Aside0 (R.pods = podsTo a i ∧ R.last = 1 + (i : Int) ∧ R.size = z)) (fun vi _ => K - (intOf vi).toNat)
  case atStart => exact ⟨0, vn4, vn4, M4, R4, rfl, by omega, HR4, HQ4⟩
  case round =>
    clear HR4 HQ4
    obtain ⟨i, vn, vs, M, R, rfl, hi, HR, HQ⟩ := hrel
    by_cases hlt : i < K
    · have hli : (i : Int) < (K : Int) := by omega
      have hnm := Aside0.mk (fun w => weftlaw15_name.calls 8 (i : Int) (nameV i) w (names_all i (by omega)).1)
      have hadd := Aside0.mk (fun (w' : World) (h : RI w w' w.heap.size a l B b1 b2 vn vs M R) => add_i h i HQ.out.1 HQ.out.2.1 (by rw [HQ.out.2.2]; omega) (by omega))
      have HSZ := Aside0.mk HQ.out.2.2
      have htp := HTOP.out
      have hwi : IntKind.i64.wrap (a + 2 + (i : Int)) = a + 2 + i := wrap64_id (by omega) (by omega)
      have hw1 : IntKind.i64.wrap ((i : Int) + 1) = (i : Int) + 1 := wrap64_id (by omega) (by omega)
      clear htp HQ
      go_wp2_with (first | (go_at_call 29; refine (hnm.out _).mono ?_; rintro e_ w5 ⟨rfl, hb5⟩; have HR5 := Aside0.mk (HR.out.below hb5); clear hb5)
                         | (go_at_call 22; refine (hadd.out _ HR5.out).mono ?_; rintro e_ w6 ⟨rfl, vn', vs', M', R', hI, hp, hla, hsz⟩
                            have HI := Aside0.mk hI
                            have HQ := Aside0.mk (show R'.pods = podsTo a (i + 1) ∧ R'.last = 1 + ((i + 1 : Nat) : Int) ∧ R'.size = z from ⟨hp, hla, hsz.trans HSZ.out⟩)
                            have k0 : w6.cell? ⟨w.heap.size, 0, none⟩ = some (.int .u32 a) := blk_cell HI.out.obj 0
                            clear hI hp hla hsz) | go_in)
      exact ⟨⟨i + 1, vn', vs', M', R', by simp, by omega, HI, HQ⟩, by simp [intOf]; omega⟩
    · obtain rfl : i = K := by omega
      have k0 : wr.cell? ⟨w.heap.size, 0, none⟩ = some (.int .u32 a) := blk_cell HR.out.obj 0
      have k1 : wr.cell? ⟨w.heap.size, 1, none⟩ = some (.int .i64 l) := blk_cell HR.out.obj 1
      go_wp2_with (first | (go_at_call 28; refine (hSz.out _).mono ?_; rintro e_ w4 ⟨rfl, hb4⟩
                            have HR4 := Aside0.mk (HR.out.below hb4)
                            clear hb4 k0 k1) | go_in)
      have HQ4 := Aside0.mk (show R.pods = podsTo a i ∧ R.last = lastR f i 0 ∧ R.size = z from ⟨HQ.out.1, by rw [HQ.out.2.1]; rfl, HQ.out.2.2⟩)
      clear HQ HR hlt hi
      have hK0 := hKl
      go_loopw [14] (fun vi wr => ∃ (j : Nat) (vn vs : Value) (M : IpM) (R : RfM), vi = .int .i64 j ∧ (j : Int) ≤ rounds ∧ Aside0 (RI w wr w.heap.size a l B b1 b2 vn vs M R) ∧ Aside0 (R.pods = podsTo a i ∧ R.last = lastR f i j ∧ R.size = z)) (fun vi _ => rounds.toNat - (intOf vi).toNat)
      case atStart => exact ⟨0, vn, vs, M, R, rfl, by omega, HR4, HQ4⟩
      case round =>
        clear HR4 HQ4
        obtain ⟨j, vn, vs, M, R, rfl, hj, HR, HQ⟩ := hrel
        by_cases hlt : (j : Int) < rounds
        · have hmod := Nat.mod_lt j (show 0 < f by omega)
          have htmd : Int.tmod (j : Int) (f : Int) = ((j % f : Nat) : Int) := by rw [Int.tmod_eq_emod_of_nonneg (by omega), Int.natCast_emod]
          have hadd := Aside0.mk (fun (w' : World) (h : RI w w' w.heap.size a l B b1 b2 vn vs M R) => add_x h i f j HQ.out.1 hf1 (by rw [HQ.out.2.2]; exact HKF.out) hK1 HQ.out.2.1)
          have HSZ := Aside0.mk HQ.out.2.2
          have htp := HTOP.out
          have hkf := HKF.out
          generalize j % f = q at *
          have hwk : IntKind.i64.wrap (a + 2 + (i : Int)) = a + 2 + i := wrap64_id (by omega) (by omega)
          have hwq : IntKind.i64.wrap (a + 2 + (i : Int) + (q : Int)) = a + 2 + i + q := wrap64_id (by omega) (by omega)
          have hw1 : IntKind.i64.wrap ((j : Int) + 1) = (j : Int) + 1 := wrap64_id (by omega) (by omega)
          have HJ : Aside0 (j < 3000) := ⟨by omega⟩
          clear htp hkf HQ
          go_wp2_with (first | (go_at_call 22; refine (hadd.out _ HR.out).mono ?_; rintro e_ w6 ⟨rfl, vn', vs', M', R', hI, hp, hla, hsz⟩
                                have HI := Aside0.mk hI
                                have HP := Aside0.mk hp
                                have HL := Aside0.mk hla
                                have HZ := Aside0.mk (hsz.trans HSZ.out)
                                clear hI hp hla hsz)
                             | (go_at_call 24; refine (del_x HI.out _ _ HP.out).mono ?_; rintro e_ w7 ⟨rfl, vs2, M2, R2, hI, hp, hla, hsz⟩
                                have HI2 := Aside0.mk hI
                                have HQ := Aside0.mk (show R2.pods = podsTo a i ∧ R2.last = lastR f i (j + 1) ∧ R2.size = z from ⟨hp, hla.trans HL.out, hsz.trans HZ.out⟩)
                                have k0 : w7.cell? ⟨w.heap.size, 0, none⟩ = some (.int .u32 a) := blk_cell HI2.out.obj 0
                                clear hI hp hla hsz) | go_in)
          go_quiet (fail)
          have HI3 := Aside0.mk (show RI w (w7.drewN nq) w.heap.size a l B b1 b2 vn' vs2 M2 R2 from
            ⟨HI2.out.st.drewN nq, HI2.out.rel, HI2.out.mb, pw_below_drewN HI2.out.bel nq, HI2.out.obj, HI2.out.new⟩)
          clear HI2 k0
          go_wp2
          exact ⟨⟨j + 1, vn', vs2, M2, R2, by simp, by omega, HI3, HQ⟩, by simp [intOf]; omega⟩
        · go_wp2
          go_ret
          exact ⟨rfl, HR.out.bel⟩
set_option maxHeartbeats 16000000 in
set_option maxRecDepth 100000 in
theorem round_first (w : World) (a l keep rounds : Int) (h0 : 0 ≤ a) (h1 : a < 4294967296) (hb : ¬ (Good a l ∧ 22 ≤ l ∧ 0 ≤ keep ∧ 0 ≤ rounds ∧ rounds ≤ 3000)) :
    Calls Try.prog 11 #[.agg #[.int .u32 a, .int .i64 l], .int .i64 keep, .int .i64 rounds] w fun e w' => e = .returned (.bool true) ∧ Below w.heap.size w w' := by
  obtain ⟨mb, hmay, hmb⟩ := may_val a l h0 h1
  have hMay := Aside0.mk (fun w => weftlaw15_may.calls 40 a l mb w hmay)
  have hFst := Aside0.mk first16
  have hc : (mb = false) ∨ (mb = true ∧ l < 22) ∨ (mb = true ∧ ¬ l < 22 ∧ keep < 0) ∨ (mb = true ∧ ¬ l < 22 ∧ ¬ keep < 0 ∧ rounds < 0) ∨ (mb = true ∧ ¬ l < 22 ∧ ¬ keep < 0 ∧ ¬ rounds < 0 ∧ rounds > 3000) := by
    cases mb with
    | false => exact .inl rfl
    | true =>
      right
      have hg := hmb.1 rfl
      by_cases c1 : l < 22
      · exact .inl ⟨rfl, c1⟩
      by_cases c2 : keep < 0
      · exact .inr (.inl ⟨rfl, c1, c2⟩)
      by_cases c3 : rounds < 0
      · exact .inr (.inr (.inl ⟨rfl, c1, c2, c3⟩))
      by_cases c4 : rounds > 3000
      · exact .inr (.inr (.inr ⟨rfl, c1, c2, c3, c4⟩))
      · exact absurd ⟨hg, by omega, by omega, by omega, by omega⟩ hb
  clear hb hmb hmay
  rcases hc with rfl | ⟨rfl, c1⟩ | ⟨rfl, c1, c2⟩ | ⟨rfl, c1, c2, c3⟩ | ⟨rfl, c1, c2, c3, c4⟩
  all_goals
    go_enter Try.func11, Try.ntmps11
    go_wp2_with (first | (go_at_call 21; refine (hMay.out _).mono ?_; rintro e_ w1 ⟨rfl, hb1⟩
                          have kb := blk_below (blk_new w (.cells #[.int .u32 a, .int .i64 l] 25)) hb1
                          have k0 : w1.cell? ⟨w.heap.size, 0, none⟩ = some (.int .u32 a) := blk_cell kb 0
                          have k1 : w1.cell? ⟨w.heap.size, 1, none⟩ = some (.int .i64 l) := blk_cell kb 1
                          have HB1 := Aside0.mk (below_step (below_alloc (Below.refl _ _) _) hb1)
                          clear hb1 kb)
                       | (go_at_call 16; refine (hFst.out _).mono ?_; rintro e_ w3 ⟨rfl, hb3⟩; have HB3 := Aside0.mk (below_step HB1.out hb3); clear hb3) | go_in)
    all_goals
      go_ret
      exact ⟨rfl, HB3.out⟩
theorem round_all (w : World) (a l keep rounds : Int) (h0 : 0 ≤ a) (h1 : a < 4294967296) (hk1 : keep < 9223372036854775808) :
    Calls Try.prog 11 #[.agg #[.int .u32 a, .int .i64 l], .int .i64 keep, .int .i64 rounds] w fun e w' => e = .returned (.bool true) ∧ Below w.heap.size w w' := by
  rcases Classical.em (Good a l ∧ 22 ≤ l ∧ 0 ≤ keep ∧ 0 ≤ rounds ∧ rounds ≤ 3000) with ⟨hg, hl, hk, hr, hr2⟩ | hb
  · exact round_main w a l keep rounds h0 h1 hg hl hk hk1 hr hr2
  · exact round_first w a l keep rounds h0 h1 hb
end Go.Proofs.Ytgabkifojnkbkaa.Ip
