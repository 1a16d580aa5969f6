/- weftref1.Merge comes to what addr.Merge comes to, list and error, for every list of prefixes; and with that the law weftlaw1.AddrMerges. Conditions: the prefixes' numbers are of their kinds; the law: the list is no longer than 2^20. -/
import Derived.Test.YtncpcjphljfcpaaDoorScMrgEv
namespace Go.Proofs.YtncpcjphljfcpaaDoor.Pure
open Go.RowKit Go.Proofs.YtncpcjphljfcpaaDoor.PScr Go.Proofs.YtncpcjphljfcpaaDoorW.PrintWords Go.Proofs.YtncpcjphljfcpaaDoorW.PrintLast Go.Proofs.YtncpcjphljfcpaaDoorW.PrintMore
open Go.Proofs.YtncpcjphljfcpaaDoor.Runs

/-- a prefix's error, in both -/
def code (p : S31) : Int := if p.f1 < 0 ∨ 32 < p.f1 then 11 else if p.f0 % tp (dd p) = 0 then 0 else 12
theorem code_iff {p : S31} (hU : U32 p) : code p = 0 ↔ Vp p := by
  unfold code
  by_cases hb : p.f1 < 0 ∨ 32 < p.f1
  · rw [if_pos hb]
    constructor
    · intro h; cases h
    · intro h; have := h.1; have := h.2.1; omega
  · rw [if_neg hb]
    by_cases h : p.f0 % tp (dd p) = 0
    · rw [if_pos h]; exact ⟨fun _ => ⟨by omega, by omega, hU.1, hU.2, h⟩, fun _ => rfl⟩
    · rw [if_neg h]; exact ⟨(by intro h; cases h), fun k => absurd k.2.2.2.2 h⟩
theorem fault_code {p : S31} (hU : U32 p) : Ev (fun k => addr_fault.f k p.f0 p.f1) (code p) := by
  refine ⟨1, fun k hk => ?_⟩
  unfold code
  by_cases hb : p.f1 < 0 ∨ 32 < p.f1
  · rw [if_pos hb]; exact fault_bad hb hk
  · rw [if_neg hb]
    have hn : p.f1 = ((p.f1.toNat : Nat) : Int) := by omega
    have h := fault_eq (a := p.f0) (n := p.f1.toNat) hU.1 hU.2 (by omega) hk
    rw [← hn] at h
    have e : (sz p.f1.toNat : Int) = tp (dd p) := by
      show ((2 ^ (32 - p.f1.toNat) : Nat) : Int) = ((2 ^ (32 - p.f1).toNat : Nat) : Int)
      rw [show 32 - p.f1.toNat = (32 - p.f1).toNat from by omega]
    rw [e] at h
    exact h
theorem size_dd {p : S31} {k : Nat} (h0 : 0 ≤ p.f1) (h1 : p.f1 ≤ 32) (hk : 33 ≤ k) : weftref1_size.f k p.f1 = some (tp (dd p)) := by
  have e : p.f1 = 32 - (dd p : Int) := by unfold dd; omega
  conv => lhs; rw [e]
  exact size_tp (by unfold dd; omega) hk
theorem ref_code {p : S31} (hU : U32 p) : Ev (fun k => weftref1_fault.f k p.f0 p.f1) (code p) := by
  refine ⟨40, fun k hk => ?_⟩
  obtain ⟨k, rfl⟩ : ∃ m, k = m + 1 := ⟨k - 1, by omega⟩
  have h0 := hU.1
  have h1 := hU.2
  show weftref1_fault.f (k + 1) p.f0 p.f1 = some (code p)
  unfold weftref1_fault.f code
  by_cases c1 : p.f1 < 0
  · rw [if_pos c1, if_pos (.inl c1)]; simp only [weftref1_fault.j0]; rw [if_pos trivial]
  · rw [if_neg c1]
    by_cases c2 : p.f1 > 32
    · rw [if_pos (.inr c2), decide_eq_true c2]; simp only [weftref1_fault.j0]; rw [if_pos trivial]
    · rw [if_neg (show ¬ (p.f1 < 0 ∨ 32 < p.f1) by omega), decide_eq_false c2]; simp only [weftref1_fault.j0]
      have hp := tp_pos (dd p)
      rw [if_neg (by decide), size_dd (by omega) (by omega) (by omega), Option.bind_some, if_neg (by omega), w64 (n := p.f0) (by omega) (by omega), Int.tmod_eq_emod_of_nonneg h0]
      split <;> rfl
def spR (p : S31) : SRun := ⟨(sp p).1, (sp p).2⟩
def prR (x : SRun) : Int × Int := (x.f0, x.f1)
theorem span_v {p : S31} (h : Vp p) : Ev (fun k => weftref1_Span.f k p.f0 p.f1) (p.f0, (sp p).2, 0) := by
  have hU : U32 p := ⟨h.2.2.1, h.2.2.2.1⟩
  have h1 := ref_code hU
  rw [(code_iff hU).2 h] at h1
  have ht := top_le (dd_le h) h.2.2.2.1 h.2.2.2.2
  have hp := tp_pos (dd p)
  have h0 := hU.1
  have hl : (sp p).2 = p.f0 + tp (dd p) - 1 := rfl
  unfold weftref1_Span.f
  refine Ev.bind h1 ?_
  simp only [if_true]
  refine Ev.bind (a := tp (dd p)) ⟨40, fun k hk => size_dd h.1 h.2.1 (by omega)⟩ ?_
  rw [hl]
  generalize tp (dd p) = t at *
  rw [w64 (n := p.f0) (by omega) (by omega), w64 (n := p.f0 + t) (by omega) (by omega), w64 (n := p.f0 + t - 1) (by omega) (by omega), Int.emod_eq_of_lt (by omega) (by omega)]
  exact Ev.now _
theorem span_i {p : S31} (hU : U32 p) (h : ¬ Vp p) : Ev (fun k => weftref1_Span.f k p.f0 p.f1) (0, 0, code p) := by
  have h1 := ref_code hU
  have h2 : code p ≠ 0 := fun e => h ((code_iff hU).1 e)
  unfold weftref1_Span.f
  refine Ev.bind h1 ?_
  simp only [if_neg h2]
  exact Ev.now _
/-- both find the same error first -/
theorem both_faults : ∀ (l : List S31), (∀ p, p ∈ l → U32 p) → ∃ e, Ev (fun k => faults k l) e ∧ (e = 0 ↔ ∀ p, p ∈ l → Vp p) ∧ (∀ acc, e = 0 → Ev (fun k => spansA k l acc) (acc ++ l.map spR, 0)) ∧ (∀ acc, e ≠ 0 → Ev (fun k => spansA k l acc) ([], e))
  | [], _ => ⟨0, Ev.now 0, by simp, fun acc _ => by rw [List.map_nil, List.append_nil]; exact Ev.now _, fun _ h => absurd rfl h⟩
  | p :: r, h => by
    have hU := h p (by simp)
    obtain ⟨e, h3, h4, h5, h6⟩ := both_faults r fun q hq => h q (by simp [hq])
    by_cases hv : Vp p
    · have hc := (code_iff hU).2 hv
      have hs := span_v hv
      have e1 : (⟨wrap64 p.f0, wrap64 (sp p).2⟩ : SRun) = spR p := by
        have g1 := sp_lt hv
        have g2 := sp_le hv
        have g3 : (sp p).1 = p.f0 := rfl
        have g4 := hU.1
        have g5 := hU.2
        unfold spR
        rw [g3, w64 (n := p.f0) (by omega) (by omega), w64 (n := (sp p).2) (by rw [g3] at g2; generalize (sp p).2 = z at *; omega) (by generalize (sp p).2 = z at *; omega)]
      have step : ∀ acc x, Ev (fun k => spansA k r (acc ++ [spR p])) x → Ev (fun k => spansA k (p :: r) acc) x := fun acc x hx => by
        have hb := Ev.bind (f := fun k (s : Int × Int × Int) => if s.2.2 = 0 then spansA k r (acc ++ [⟨wrap64 s.1, wrap64 s.2.1⟩]) else some ([], s.2.2)) hs (r := x) (by simp only [if_true, e1]; exact hx)
        exact hb
      refine ⟨e, Ev.bind (fault_code hU) (by simp only [hc, if_true]; exact h3), ?_, fun acc he => ?_, fun acc he => ?_⟩
      · rw [h4]; simp only [List.mem_cons, forall_eq_or_imp]
        exact ⟨fun k => ⟨hv, k⟩, fun k => k.2⟩
      · have := step acc _ (h5 (acc ++ [spR p]) he)
        rw [List.map_cons]
        rw [List.append_assoc] at this
        exact this
      · exact step acc _ (h6 (acc ++ [spR p]) he)
    · have hc : code p ≠ 0 := fun k => hv ((code_iff hU).1 k)
      have hs := span_i hU hv
      refine ⟨code p, Ev.bind (fault_code hU) (by simp only [if_neg hc]; exact Ev.now _), ⟨fun k => absurd k hc, fun k => absurd (k p (by simp)) hv⟩, fun acc he => absurd he hc, fun acc _ => ?_⟩
      exact Ev.bind (f := fun k (s : Int × Int × Int) => if s.2.2 = 0 then spansA k r (acc ++ [⟨wrap64 s.1, wrap64 s.2.1⟩]) else some ([], s.2.2)) hs (by simp only [if_neg hc]; exact Ev.now _)
theorem srtR_perm : ∀ (n : Nat) (l : List SRun), (srtR n l).Perm l
  | 0, l => List.Perm.refl l
  | n + 1, l => by
    unfold srtR
    split
    · exact List.Perm.refl l
    · refine (List.merge_perm_append leR).trans ?_
      have h := (srtR_perm n (l.take (l.length / 2))).append (srtR_perm n (l.drop (l.length / 2)))
      rwa [List.take_append_drop] at h
theorem srtR_pair : ∀ (n : Nat) (l : List SRun), l.length ≤ n → (srtR n l).Pairwise (fun x y => leR x y = true)
  | 0, l, h => by
    have : l = [] := List.length_eq_zero_iff.1 (by omega)
    subst this
    exact List.Pairwise.nil
  | n + 1, l, h => by
    unfold srtR
    split
    · rename_i h2
      match l, h2 with
      | [], _ => exact List.Pairwise.nil
      | [x], _ => exact List.pairwise_singleton _ _
    · refine List.pairwise_merge ?_ ?_ _ _ (srtR_pair n _ (by rw [List.length_take]; omega)) (srtR_pair n _ (by rw [List.length_drop]; omega))
      · intro a b c h1 h2
        unfold leR at *
        simp only [decide_eq_true_eq] at *
        omega
      · intro a b
        unfold leR
        simp only [Bool.or_eq_true, decide_eq_true_eq]
        omega
/-- a run of addresses -/
def Rg (x : SRun) : Prop := 0 ≤ x.f0 ∧ x.f0 ≤ x.f1 ∧ x.f1 < 4294967296
theorem riseR : ∀ (S : List SRun) (b : Int), S.Pairwise (fun x y => leR x y = true) → (∀ x, x ∈ S → Rg x) → (∀ x, x ∈ S → b ≤ x.f0) → Rise b (S.map prR)
  | [], _, _, _, _ => trivial
  | x :: r, b, h, hR, hb => by
    obtain ⟨h1, h2⟩ := List.pairwise_cons.1 h
    exact ⟨hb x (by simp), (hR x (by simp)).2.1, riseR r x.f0 h2 (fun q hq => hR q (by simp [hq])) (fun q hq => by have := h1 q hq; unfold leR at this; simpa using this)⟩
theorem covered_ev {lo hi : Int} {acc : List S31} (h0 : 0 ≤ lo) (h1 : lo ≤ hi) (h2 : hi < 4294967296) (hb : acc.length ≤ 1000000000) : Ev (fun k => weftref1_covered.f k acc 0 0 lo hi) (acc ++ cover lo hi) := by
  refine ⟨200, fun k hk => ?_⟩
  have := covered_eq lo hi h0 h1 h2 32 0 acc (by omega) (by omega) (by rw [tp32]; omega) (by omega) k (by omega)
  rw [show (32 : Int) - ((32 : Nat) : Int) = 0 from rfl] at this
  unfold cover
  rw [if_neg (by omega)]
  exact this
theorem refGo_eq_in {p : SRun} {r : List SRun} {lo hh : Int} {out : List S31} (hc : p.f0 ≤ wrap64 (hh + 1)) (k : Nat) : refGo k (p :: r) lo hh out = refGo k r lo (if p.f1 > hh then p.f1 else hh) out := by
  conv => lhs; unfold refGo
  rw [if_pos hc]
theorem refGo_eq_out {p : SRun} {r : List SRun} {lo hh : Int} {out : List S31} (hc : ¬ p.f0 ≤ wrap64 (hh + 1)) (k : Nat) : refGo k (p :: r) lo hh out = (weftref1_covered.f k out 0 0 lo hh).bind fun c => refGo k r p.f0 p.f1 c := by
  conv => lhs; unfold refGo
  rw [if_neg hc]
theorem bndR {a b c : Nat} (h : a + 62 * (b + 1) ≤ 1000000000) (hc : c ≤ 62) : a + c + 62 * b ≤ 1000000000 := by omega
theorem bndR1 {a b : Nat} (h : a + 62 * (b + 1) ≤ 1000000000) : a + 62 * b ≤ 1000000000 := by omega
theorem bndR2 {a b : Nat} (h : a + 62 * b ≤ 1000000000) : a ≤ 1000000000 := by omega
theorem refGo_ev : ∀ (S : List SRun) (lo hh : Int) (out : List S31), (∀ x, x ∈ S → Rg x) → 0 ≤ lo → lo ≤ hh → hh < 4294967296 → out.length + 62 * (S.length + 1) ≤ 1000000000 →
    Ev (fun k => refGo k S lo hh out) (out ++ (runsGo (S.map prR) lo hh).flatMap cv)
  | [], lo, hh, out, _, h0, h1, h2, hb => by
    rw [show (out ++ (runsGo ([].map prR) lo hh).flatMap cv) = out ++ cover lo hh from by simp [runsGo, cv]]
    exact covered_ev h0 h1 h2 (bndR2 hb)
  | p :: r, lo, hh, out, hR, h0, h1, h2, hb => by
    obtain ⟨r0, r1, r2⟩ := hR p (by simp)
    have hr : ∀ q, q ∈ r → Rg q := fun q hq => hR q (by simp [hq])
    have hw : wrap64 (hh + 1) = hh + 1 := w64 (by omega) (by omega)
    simp only [List.length_cons] at hb
    have e1 : (prR p).1 = p.f0 := rfl
    have e2 : (prR p).2 = p.f1 := rfl
    rw [List.map_cons]
    by_cases hc : p.f0 ≤ hh + 1
    · have ih := refGo_ev r lo (max hh p.f1) out hr h0 (Int.le_trans h1 (Int.le_max_left _ _)) (Int.max_lt.2 ⟨h2, r2⟩) (bndR1 hb)
      refine Ev.congr (refGo_eq_in (by rw [hw]; exact hc)) ?_
      have em : (if p.f1 > hh then p.f1 else hh) = max hh p.f1 := by split <;> omega
      rw [em]
      have e3 : runsGo (prR p :: r.map prR) lo hh = runsGo (r.map prR) lo (max hh p.f1) := by
        conv => lhs; unfold runsGo
        rw [e1, e2, if_pos hc]
      rw [e3]
      exact ih
    · have hl := cover_62 lo hh
      have ih := refGo_ev r p.f0 p.f1 (out ++ cover lo hh) hr r0 r1 r2 (by rw [List.length_append]; exact bndR hb hl)
      refine Ev.congr (refGo_eq_out (by rw [hw]; exact hc)) ?_
      have e3 : runsGo (prR p :: r.map prR) lo hh = (lo, hh) :: runsGo (r.map prR) p.f0 p.f1 := by
        conv => lhs; unfold runsGo
        rw [e1, e2, if_neg hc]
      rw [e3, List.flatMap_cons, ← List.append_assoc, show cv (lo, hh) = cover lo hh from rfl]
      exact Ev.bind (covered_ev h0 h1 h2 (bndR2 hb)) ih
theorem rg_of {l : List S31} (hV : ∀ p, p ∈ l → Vp p) : ∀ x, x ∈ l.map spR → Rg x := fun x hx => by
  obtain ⟨p, hp, rfl⟩ := List.mem_map.1 hx
  have h := hV p hp
  exact ⟨h.2.2.1, sp_le h, sp_lt h⟩
theorem ref_runs {l : List S31} (hV : ∀ p, p ∈ l → Vp p) (n : Nat) (hn : l.length ≤ n) : runsOf ((srtR n (l.map spR)).map prR) = rns l := by
  have hp := srtR_perm n (l.map spR)
  have hR : ∀ x, x ∈ srtR n (l.map spR) → Rg x := fun x hx => rg_of hV x (hp.mem_iff.1 hx)
  refine runsOf_eq (b := 0) (c := 0) (riseR _ 0 (srtR_pair n _ (by rw [List.length_map]; exact hn)) hR (fun x hx => (hR x hx).1)) (srt_rise hV) fun a => ?_
  rw [mem_perm (fun p => (srtS_perm l).mem_iff) a]
  constructor <;> rintro ⟨s, hs, hx⟩ <;> obtain ⟨q, hq, rfl⟩ := List.mem_map.1 hs
  · obtain ⟨p, hp', rfl⟩ := List.mem_map.1 (hp.mem_iff.1 hq)
    exact ⟨sp p, List.mem_map.2 ⟨p, hp', rfl⟩, hx⟩
  · exact ⟨prR (spR q), List.mem_map.2 ⟨spR q, hp.mem_iff.2 (List.mem_map.2 ⟨q, hq, rfl⟩), rfl⟩, hx⟩
theorem refOut_ev {l : List S31} (hV : ∀ p, p ∈ l → Vp p) (hn : l.length ≤ 4096) : Ev (fun k => refOut k (srtR (l.map spR).length (l.map spR)) []) (mrg l) := by
  have hr := ref_runs hV (l.map spR).length (by rw [List.length_map]; exact Nat.le_refl _)
  have hp := srtR_perm (l.map spR).length (l.map spR)
  have hR : ∀ x, x ∈ srtR (l.map spR).length (l.map spR) → Rg x := fun x hx => rg_of hV x (hp.mem_iff.1 hx)
  have hs : (srtR (l.map spR).length (l.map spR)).length = l.length := hp.length_eq.trans (List.length_map ..)
  unfold mrg
  rw [← hr]
  generalize srtR (l.map spR).length (l.map spR) = S at *
  cases S with
  | nil => exact Ev.now []
  | cons p r =>
    simp only [List.length_cons] at hs
    obtain ⟨r0, r1, r2⟩ := hR p (by simp)
    have := refGo_ev r p.f0 p.f1 [] (fun q hq => hR q (by simp [hq])) r0 r1 r2 (by simp only [List.length_nil]; omega)
    rw [List.map_cons]
    exact this
/-- the document's Merge is addr's -/
theorem both_ev (l : List S31) (hU : ∀ p, p ∈ l → U32 p) : ∃ x, Ev (fun k => addr_Merge.f k l) x ∧ Ev (fun k => weftref1_Merge.f k l) x := by
  by_cases hn : l.length > 4096
  · refine ⟨([], 2), ?_, ?_⟩
    · unfold addr_Merge.f; simp only [if_pos hn]; exact Ev.now _
    · unfold weftref1_Merge.f; simp only [if_pos hn]; exact Ev.now _
  · obtain ⟨e, h1, h2, h3, h4⟩ := both_faults l hU
    by_cases he : e = 0
    · have hV := h2.1 he
      refine ⟨(mrg l, 0), mrg_ev (by omega) hV, ?_⟩
      have hs := h3 [] he
      rw [List.nil_append] at hs
      unfold weftref1_Merge.f
      simp only [if_neg hn]
      refine Ev.bind hs ?_
      simp only [if_true]
      exact Ev.bind (refOut_ev hV (by omega)) (Ev.now _)
    · refine ⟨([], e), ?_, ?_⟩
      · unfold addr_Merge.f
        simp only [if_neg hn]
        refine Ev.bind h1 ?_
        simp only [if_neg he]
        exact Ev.now _
      · unfold weftref1_Merge.f
        simp only [if_neg hn]
        refine Ev.bind (h4 [] he) ?_
        simp only [if_neg he]
        exact Ev.now _
end Go.Proofs.YtncpcjphljfcpaaDoor.Pure
