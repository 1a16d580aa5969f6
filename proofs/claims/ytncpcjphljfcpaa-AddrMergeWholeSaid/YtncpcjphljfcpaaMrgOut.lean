/- What a merge looks like: valid prefixes that rise, are apart, no two that follow one another the halves of one; of the same union as the list, and no more than it. Condition: the list's prefixes are valid. -/
import Derived.Test.YtncpcjphljfcpaaMrgEv
namespace Go.Proofs.Ytncpcjphljfcpaa.Pure
open Go.RowKit Go.Proofs.Ytncpcjphljfcpaa.PMrg Go.Proofs.YtncpcjphljfcpaaW.PrintWords Go.Proofs.YtncpcjphljfcpaaW.PrintLast Go.Proofs.YtncpcjphljfcpaaW.PrintMore
open Go.Proofs.Ytncpcjphljfcpaa.Runs

/-- the first address of the block twice as long -/
def par (q : S32) : Int := q.f0 - q.f0 % tp (dd q + 1)
/-- not the two halves of one -/
def NP (q x : S32) : Prop := ¬ (q.f1 = x.f1 ∧ x.f1 > 0 ∧ par q = par x)
def Chn : Option S32 → Int → List S32 → Prop
  | _, _, [] => True
  | o, b, x :: xs => Vp x ∧ b < x.f0 ∧ (∀ q, o = some q → NP q x) ∧ Chn (some x) (sp x).2 xs
theorem Chn.weaken {o : Option S32} {b c : Int} : ∀ {l : List S32}, Chn o c l → b ≤ c → Chn o b l
  | [], _, _ => trivial
  | _ :: _, h, hb => ⟨h.1, Int.lt_of_le_of_lt hb h.2.1, h.2.2.1, h.2.2.2⟩
theorem mod_cases {a : Int} {d : Nat} (h : a % tp d = 0) : a % tp (d + 1) = 0 ∨ a % tp (d + 1) = tp d := by
  obtain ⟨k, rfl⟩ := Int.dvd_of_emod_eq_zero h
  rw [tp_succ, Int.mul_comm 2 (tp d), Int.mul_emod_mul_of_pos _ _ (tp_pos d)]
  have : k % 2 = 0 ∨ k % 2 = 1 := by omega
  rcases this with e | e <;> rw [e]
  · exact .inl (Int.mul_zero _)
  · exact .inr (Int.mul_one _)
theorem np_far {q x : S32} (hq : Vp q) (hx : Vp x) (h : q.f0 + tp (dd q) < x.f0) : NP q x := by
  rintro ⟨e1, _, e3⟩
  have ed : dd q = dd x := by unfold dd; rw [e1]
  have c1 := mod_cases hq.2.2.2.2
  have c2 := mod_cases hx.2.2.2.2
  unfold par at e3
  rw [ed] at e3 c1 h
  generalize tp (dd x + 1) = T at *
  have hp := tp_pos (dd x)
  generalize tp (dd x) = t at *
  omega
theorem np_in {q x : S32} {lo hi : Int} (hq : Vp q) (hx : Vp x) (h0 : lo ≤ q.f0) (h : x.f0 = q.f0 + tp (dd q)) (hh : (sp x).2 ≤ hi) (hb : Big lo hi (dd q) q.f0) : NP q x := by
  rintro ⟨e1, e2, e3⟩
  have ed : dd q = dd x := by unfold dd; rw [e1]
  have hd : dd x < 32 := by have := f1_eq hx; omega
  have c1 := mod_cases hq.2.2.2.2
  have c2 := mod_cases hx.2.2.2.2
  have ht := tp_succ (dd x)
  have hp := tp_pos (dd x)
  unfold par at e3
  simp only [sp] at hh
  rcases hb with hb | hb
  · omega
  · rw [ed] at e3 c1 h hb
    generalize tp (dd x + 1) = T at *
    generalize tp (dd x) = t at *
    rcases c1 with c1 | c1 <;> rcases c2 with c2 | c2 <;> rw [c1, c2] at e3
    · omega
    · rw [c1] at hb; omega
    · omega
    · omega
theorem mk_dd {p : Int} {d : Nat} : dd ⟨p, 32 - (d : Int)⟩ = d := by unfold dd; simp only []; omega
theorem mk_v {p hi : Int} {d : Nat} (hd : d ≤ 32) (h0 : 0 ≤ p) (ha : p % tp d = 0) (hf : p + tp d - 1 ≤ hi) (hh : hi < 4294967296) : Vp ⟨p, 32 - (d : Int)⟩ := by
  have hp := tp_pos d
  refine ⟨by simp only []; omega, by simp only []; omega, h0, by simp only []; generalize tp d = t at *; omega, ?_⟩
  rw [mk_dd]; exact ha
theorem mk_sp {p : Int} {d : Nat} : sp ⟨p, 32 - (d : Int)⟩ = (p, p + tp d - 1) := by unfold sp; rw [mk_dd]
theorem chain_chn {lo hi : Int} (hh : hi < 4294967296) (m : List S32) (hm : ∀ o, (∀ q, o = some q → Vp q ∧ (sp q).2 ≤ hi) → Chn o hi m) : ∀ (l : List S32) (p : Int) (o : Option S32), Chain lo hi p l (hi + 1) → lo ≤ p →
    (∀ q, o = some q → Vp q ∧ (sp q).2 < p) → (∀ q, o = some q → ∀ x, Vp x → x.f0 = p → (sp x).2 ≤ hi → NP q x) → Chn o (p - 1) (l ++ m)
  | [], p, o, hc, hl, hq, hn => by
    have e : p = hi + 1 := hc
    subst e
    rw [List.nil_append, show hi + 1 - 1 = hi from by omega]
    exact hm o fun q h => ⟨(hq q h).1, by have := (hq q h).2; omega⟩
  | x :: xs, p, o, hc, hl, hq, hn => by
    obtain ⟨d, hd, rfl, h0, ha, hf, hb, hc'⟩ := hc
    have hv := mk_v hd h0 ha hf hh
    have hp := tp_pos d
    rw [List.cons_append]
    refine ⟨hv, by simp only []; omega, fun q h => hn q h _ hv rfl (by rw [mk_sp]; exact hf), ?_⟩
    have ih := chain_chn hh m hm xs (p + tp d) (some ⟨p, 32 - (d : Int)⟩) hc' (by generalize tp d = t at *; omega) (fun q h => by
      obtain rfl := Option.some.inj h
      refine ⟨hv, ?_⟩
      rw [mk_sp]; simp only []; generalize tp d = t at *; omega) (fun q h x hx e1 e2 => by
      obtain rfl := Option.some.inj h
      exact np_in (lo := lo) (hi := hi) hv hx hl (by rw [mk_dd]; exact e1) e2 (by rw [mk_dd]; exact hb))
    rw [mk_sp]
    exact ih
theorem runs_chn : ∀ (R : List (Int × Int)) (b : Int) (o : Option S32), Apart b R → (∀ r, r ∈ R → 0 ≤ r.1 ∧ r.2 < 4294967296) → (∀ q, o = some q → Vp q ∧ (sp q).2 ≤ b) → Chn o b (R.flatMap cv)
  | [], _, _, _, _, _ => trivial
  | r :: R, b, o, hA, hR, hq => by
    obtain ⟨h1, h2, h3⟩ := hA
    obtain ⟨r0, r1⟩ := hR r (by simp)
    rw [List.flatMap_cons]
    have hc := cover_chain r0 r1 h2
    refine Chn.weaken (chain_chn r1 (R.flatMap cv) (fun o' ho => runs_chn R r.2 o' h3 (fun x hx => hR x (by simp [hx])) ho) (cover r.1 r.2) r.1 o hc (Int.le_refl _) (fun q h => ⟨(hq q h).1, by have := (hq q h).2; omega⟩) (fun q h x hx e _ => ?_)) (by omega)
    refine np_far (hq q h).1 hx ?_
    have := (hq q h).2
    simp only [sp] at this
    rw [e]
    generalize tp (dd q) = t at *
    omega
theorem rns_bound {l : List S32} (hV : ∀ p, p ∈ l → Vp p) {a : Int} (h : mem (rns l) a) : 0 ≤ a ∧ a < 4294967296 := by
  rw [rns_mem hV] at h
  obtain ⟨r, hr, h1, h2⟩ := h
  obtain ⟨p, hp, rfl⟩ := List.mem_map.1 hr
  have := (hV p hp).2.2.1
  have := sp_lt (hV p hp)
  exact ⟨Int.le_trans (hV p hp).2.2.1 h1, Int.lt_of_le_of_lt h2 (sp_lt (hV p hp))⟩
theorem apart_le : ∀ {R : List (Int × Int)} {b : Int}, Apart b R → ∀ r, r ∈ R → r.1 ≤ r.2
  | [], _, _, _, h => by cases h
  | _ :: _, _, hA, r, h => by
    rcases List.mem_cons.1 h with rfl | h
    · exact hA.2.1
    · exact apart_le hA.2.2 r h
theorem rns_range {l : List S32} (hV : ∀ p, p ∈ l → Vp p) : ∀ r, r ∈ rns l → 0 ≤ r.1 ∧ r.2 < 4294967296 := fun r hr => by
  have hle := apart_le (rns_apart hV) r hr
  exact ⟨(rns_bound hV ⟨r, hr, Int.le_refl _, hle⟩).1, (rns_bound hV ⟨r, hr, hle, Int.le_refl _⟩).2⟩
theorem mrg_chn {l : List S32} (hV : ∀ p, p ∈ l → Vp p) : Chn none (-1) (mrg l) := by
  have hR := rns_range hV
  have hA : Apart (-2) (rns l) := rns_apart hV
  unfold mrg
  cases hr : rns l with
  | nil => trivial
  | cons r R =>
    rw [hr] at hA hR
    obtain ⟨r0, r1⟩ := hR r (by simp)
    have := runs_chn (r :: R) (-2) none hA hR (fun q h => by cases h)
    rw [List.flatMap_cons] at this ⊢
    have hc := cover_chain r0 r1 hA.2.1
    have := chain_chn r1 (R.flatMap cv) (fun o' ho => runs_chn R r.2 o' hA.2.2 (fun x hx => hR x (by simp [hx])) ho) (cover r.1 r.2) r.1 none hc (Int.le_refl _) (fun q h => by cases h) (fun q h => by cases h)
    exact Chn.weaken this (by omega)
theorem Chn.valid : ∀ {l : List S32} {o : Option S32} {b : Int}, Chn o b l → ∀ p, p ∈ l → Vp p
  | [], _, _, _, _, h => by cases h
  | _ :: _, _, _, hc, p, h => by
    rcases List.mem_cons.1 h with rfl | h
    · exact hc.1
    · exact Chn.valid hc.2.2.2 p h
theorem Chn.beyond : ∀ {l : List S32} {o : Option S32} {b : Int}, Chn o b l → ∀ p, p ∈ l → b < p.f0
  | [], _, _, _, _, h => by cases h
  | x :: _, _, _, hc, p, h => by
    rcases List.mem_cons.1 h with rfl | h
    · exact hc.2.1
    · have := Chn.beyond hc.2.2.2 p h
      have h1 := sp_le hc.1
      have h2 := hc.2.1
      have e : (sp x).1 = x.f0 := rfl
      omega
def inn (p x : S32) : Prop := x.f0 ≤ p.f0 ∧ p.f0 ≤ (sp x).2
theorem Chn.pairwise : ∀ {l : List S32} {o : Option S32} {b : Int}, Chn o b l → l.Pairwise (fun x y => ∀ p, ¬ (inn p x ∧ inn p y))
  | [], _, _, _ => List.Pairwise.nil
  | x :: xs, _, _, hc => List.pairwise_cons.2 ⟨fun y hy p ⟨⟨_, h2⟩, ⟨h3, _⟩⟩ => by
      have := Chn.beyond hc.2.2.2 y hy
      omega, Chn.pairwise hc.2.2.2⟩
theorem chain_mem {lo hi : Int} : ∀ (l : List S32) (p q a : Int), Chain lo hi p l q → (mem (l.map sp) a ↔ p ≤ a ∧ a < q)
  | [], p, q, a, h => by
    have e : p = q := h
    subst e
    exact ⟨fun h => absurd h not_mem_nil, fun h => by omega⟩
  | x :: xs, p, q, a, h => by
    obtain ⟨d, _, rfl, _, _, _, _, hc⟩ := h
    have ih := chain_mem xs (p + tp d) q a hc
    have hle := chain_le xs (p + tp d) q hc
    have hp := tp_pos d
    rw [List.map_cons, mem_cons, ih, mk_sp]
    simp only []
    generalize tp d = t at *
    omega
where
  chain_le : ∀ {lo hi : Int} (l : List S32) (p q : Int), Chain lo hi p l q → p ≤ q
    | _, _, [], p, q, h => by have e : p = q := h; omega
    | _, _, _ :: xs, p, q, h => by
      obtain ⟨d, _, _, _, _, _, _, hc⟩ := h
      have := chain_le xs _ q hc
      have hp := tp_pos d
      generalize tp d = t at *
      omega
theorem runs_mem : ∀ (R : List (Int × Int)) (a : Int), (∀ r, r ∈ R → 0 ≤ r.1 ∧ r.1 ≤ r.2 ∧ r.2 < 4294967296) → (mem ((R.flatMap cv).map sp) a ↔ mem R a)
  | [], _, _ => Iff.rfl
  | r :: R, a, h => by
    obtain ⟨h0, h1, h2⟩ := h r (by simp)
    have ih := runs_mem R a fun x hx => h x (by simp [hx])
    have hc := chain_mem (cover r.1 r.2) r.1 (r.2 + 1) a (cover_chain h0 h2 h1)
    rw [List.flatMap_cons, List.map_append, mem_cons, ← ih]
    constructor
    · rintro ⟨x, hx, hxa⟩
      rcases List.mem_append.1 hx with hx | hx
      · have := hc.1 ⟨x, hx, hxa⟩; exact .inl (by omega)
      · exact .inr ⟨x, hx, hxa⟩
    · rintro (hxa | ⟨x, hx, hxa⟩)
      · obtain ⟨x, hx, hxa⟩ := hc.2 (by omega)
        exact ⟨x, List.mem_append.2 (.inl hx), hxa⟩
      · exact ⟨x, List.mem_append.2 (.inr hx), hxa⟩
theorem mrg_mem {l : List S32} (hV : ∀ p, p ∈ l → Vp p) (a : Int) : mem ((mrg l).map sp) a ↔ mem (l.map sp) a := by
  unfold mrg
  rw [runs_mem _ a fun r hr => ⟨(rns_range hV r hr).1, apart_le (rns_apart hV) r hr, (rns_range hV r hr).2⟩]
  exact rns_mem hV a
theorem mrg_valid {l : List S32} (hV : ∀ p, p ∈ l → Vp p) : ∀ p, p ∈ mrg l → Vp p := (mrg_chn hV).valid
end Go.Proofs.Ytncpcjphljfcpaa.Pure
