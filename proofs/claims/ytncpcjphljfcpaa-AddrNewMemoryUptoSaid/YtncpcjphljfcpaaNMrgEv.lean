/- What addr.Merge comes to on prefixes: the error of one that is none, or else the covers of the runs that the spans are joined to. Conditions: the addresses are addresses, the list is no longer than 4096. -/
import Derived.Test.YtncpcjphljfcpaaNCovTree
import Derived.Test.YtncpcjphljfcpaaMrgMath
namespace Go.Proofs.Ytncpcjphljfcpaa.Pure
open Go.RowKit Go.Proofs.Ytncpcjphljfcpaa.PNmm Go.Proofs.YtncpcjphljfcpaaW.PrintWords Go.Proofs.YtncpcjphljfcpaaW.PrintLast Go.Proofs.YtncpcjphljfcpaaW.PrintMore
open Go.Proofs.Ytncpcjphljfcpaa.Runs

def dd (p : S32) : Nat := (32 - p.f1).toNat
def Vp (p : S32) : Prop := 0 ≤ p.f1 ∧ p.f1 ≤ 32 ∧ 0 ≤ p.f0 ∧ p.f0 < 4294967296 ∧ p.f0 % tp (dd p) = 0
instance (p : S32) : Decidable (Vp p) := inferInstanceAs (Decidable (_ ∧ _))
def U32 (p : S32) : Prop := 0 ≤ p.f0 ∧ p.f0 < 4294967296
def sp (p : S32) : Int × Int := (p.f0, p.f0 + tp (dd p) - 1)
theorem dd_le {p : S32} (h : Vp p) : dd p ≤ 32 := by have := h.1; unfold dd; omega
theorem f1_eq {p : S32} (h : Vp p) : p.f1 = 32 - (dd p : Int) := by have := h.1; have := h.2.1; unfold dd; omega
theorem tp_dvd {a b : Nat} (h : a ≤ b) : tp a ∣ tp b := by
  unfold tp
  exact Int.natCast_dvd_natCast.2 (Nat.pow_dvd_pow 2 h)
set_option linter.unusedVariables false
theorem top_le {a : Int} {d : Nat} (hd : d ≤ 32) (h1 : a < 4294967296) (ha : a % tp d = 0) : a + tp d ≤ 4294967296 := by
  have h32 : (4294967296 : Int) % tp d = 0 := Int.emod_eq_zero_of_dvd (show tp d ∣ tp 32 from tp_dvd hd)
  have hz : (4294967296 - a) % tp d = 0 := by rw [Int.sub_emod, h32, ha]; simp
  have hp := tp_pos d
  by_cases h : 4294967296 - a < tp d
  · rw [Int.emod_eq_of_lt (by omega) h] at hz; omega
  · omega
theorem sp_le {p : S32} (h : Vp p) : (sp p).1 ≤ (sp p).2 := by
  have := tp_pos (dd p); simp only [sp]; omega
theorem sp_lt {p : S32} (h : Vp p) : (sp p).2 < 4294967296 := by
  have := top_le (dd_le h) h.2.2.2.1 h.2.2.2.2; simp only [sp]; omega
theorem fault_ev {p : S32} (hU : U32 p) : ∃ e, Ev (fun k => addr_fault.f k p.f0 p.f1) e ∧ (e = 0 ↔ Vp p) := by
  by_cases hb : p.f1 < 0 ∨ 32 < p.f1
  · refine ⟨11, ⟨1, fun k hk => fault_bad hb hk⟩, ?_⟩
    constructor
    · intro h; cases h
    · intro h; have := h.1; have := h.2.1; omega
  · have hn : p.f1 = ((p.f1.toNat : Nat) : Int) := by omega
    refine ⟨if p.f0 % (sz p.f1.toNat : Int) = 0 then 0 else 12, ⟨1, fun k hk => ?_⟩, ?_⟩
    · have := fault_eq (a := p.f0) (n := p.f1.toNat) hU.1 hU.2 (by omega) hk
      rw [← hn] at this
      exact this
    · have e : (sz p.f1.toNat : Int) = tp (dd p) := by
        show ((2 ^ (32 - p.f1.toNat) : Nat) : Int) = ((2 ^ (32 - p.f1).toNat : Nat) : Int)
        rw [show 32 - p.f1.toNat = (32 - p.f1).toNat from by omega]
      rw [e]
      by_cases h : p.f0 % tp (dd p) = 0
      · rw [if_pos h]; exact ⟨fun _ => ⟨by omega, by omega, hU.1, hU.2, h⟩, fun _ => rfl⟩
      · rw [if_neg h]; exact ⟨(by intro h; cases h), fun k => absurd k.2.2.2.2 h⟩
theorem faults_ev : ∀ (l : List S32), (∀ p, p ∈ l → U32 p) → ∃ e, Ev (fun k => faults k l) e ∧ (e = 0 ↔ ∀ p, p ∈ l → Vp p)
  | [], _ => ⟨0, Ev.now 0, by simp⟩
  | p :: r, h => by
    obtain ⟨e1, h1, h2⟩ := fault_ev (h p (by simp))
    obtain ⟨e, h3, h4⟩ := faults_ev r fun q hq => h q (by simp [hq])
    by_cases e0 : e1 = 0
    · refine ⟨e, Ev.bind h1 ?_, ?_⟩
      · simp only [if_pos e0]; exact h3
      · rw [h4]; simp only [List.mem_cons, forall_eq_or_imp]
        exact ⟨fun k => ⟨h2.1 e0, k⟩, fun k => k.2⟩
    · refine ⟨e1, Ev.bind h1 ?_, ?_⟩
      · simp only [if_neg e0]; exact Ev.now e1
      · exact ⟨fun k => absurd k e0, fun k => h2.2 (k p (by simp))⟩
theorem last_v {p : S32} (h : Vp p) : addr_last.f p.f0 p.f1 = some (sp p).2 := by
  rw [f1_eq h]; exact last_tp h.2.2.1 h.2.2.2.1 (dd_le h) h.2.2.2.2
def cv (r : Int × Int) : List S32 := cover r.1 r.2
theorem mergeGo_eq_in {p : S32} (hp : Vp p) {r out : List S32} {lo hi : Int} (hc : hi = 4294967295 ∨ p.f0 ≤ (hi + 1) % 4294967296) (k : Nat) : mergeGo k (p :: r) lo hi out = mergeGo k r lo (max hi (sp p).2) out := by
  conv => lhs; unfold mergeGo
  rw [if_pos hc, last_v hp, Option.bind_some]
theorem mergeGo_eq_out {p : S32} (hp : Vp p) {r out : List S32} {lo hi : Int} (hc : ¬ (hi = 4294967295 ∨ p.f0 ≤ (hi + 1) % 4294967296)) (k : Nat) :
    mergeGo k (p :: r) lo hi out = (addr_Cover.f k lo hi).bind fun c => if (out.length + c.length) * 16 ≤ 140737488355328 then mergeGo k r p.f0 (sp p).2 (out ++ c) else none := by
  conv => lhs; unfold mergeGo
  rw [if_neg hc, last_v hp]
  simp only [Option.bind_some]
theorem mergeOut_eq {p : S32} (hp : Vp p) {r out : List S32} (k : Nat) : mergeOut k (p :: r) out = mergeGo k r p.f0 (sp p).2 out := by
  show ((addr_last.f p.f0 p.f1).bind fun e => mergeGo k r p.f0 e out) = _
  rw [last_v hp, Option.bind_some]
theorem bnd1 {a b M : Nat} (h : a + 62 * (b + 1 + 1) ≤ M) : a + 62 * (b + 1) ≤ M := by omega
theorem bnd2 {a b c M : Nat} (h : a + 62 * (b + 1 + 1) ≤ M) (hc : c ≤ 62) : a + c + 62 * (b + 1) ≤ M := by omega
theorem bnd3 {a b c : Nat} (h : a + 62 * (b + 1) ≤ 8796093022208) (hc : c ≤ 62) : (a + c) * 16 ≤ 140737488355328 :=
  Nat.mul_le_mul_right 16 (show a + c ≤ 8796093022208 from Nat.le_trans (by omega) h)
theorem mergeGo_ev : ∀ (l : List S32) (lo hi : Int) (out : List S32), (∀ p, p ∈ l → Vp p) → 0 ≤ lo → lo ≤ hi → hi < 4294967296 → out.length + 62 * (l.length + 1) ≤ 8796093022208 →
    Ev (fun k => mergeGo k l lo hi out) (out ++ (runsGo (l.map sp) lo hi).flatMap cv)
  | [], lo, hi, out, _, h0, h1, h2, hb => by
    have hl := cover_62 lo hi
    simp only [List.length_nil] at hb
    have hn : (out.length + (cover lo hi).length) * 16 ≤ 140737488355328 := bnd3 (b := 0) hb hl
    have h := Ev.bind (f := fun _ c => if (out.length + c.length) * 16 ≤ 140737488355328 then some (out ++ c) else none) (cover_ev lo hi h0 h2) (r := out ++ cover lo hi) (by simp only [if_pos hn]; exact Ev.now _)
    rw [show (out ++ (runsGo ([].map sp) lo hi).flatMap cv) = out ++ cover lo hi from by simp [runsGo, cv]]
    exact h
  | p :: r, lo, hi, out, hV, h0, h1, h2, hb => by
    have hp := hV p (by simp)
    have hr : ∀ q, q ∈ r → Vp q := fun q hq => hV q (by simp [hq])
    have s1 := sp_le hp
    have s2 := sp_lt hp
    have p0 := hp.2.2.1
    have p1 := hp.2.2.2.1
    simp only [List.length_cons] at hb
    have e1 : (sp p).1 = p.f0 := rfl
    rw [List.map_cons]
    by_cases hc : (sp p).1 ≤ hi + 1
    · have hc' : hi = 4294967295 ∨ p.f0 ≤ (hi + 1) % 4294967296 := by rw [e1] at hc; clear s1 s2 e1; omega
      refine Ev.congr (mergeGo_eq_in hp hc') ?_
      have ih := mergeGo_ev r lo (max hi (sp p).2) out hr h0 (Int.le_trans h1 (Int.le_max_left _ _)) (Int.max_lt.2 ⟨h2, s2⟩) (bnd1 hb)
      unfold runsGo
      rw [if_pos hc]
      exact ih
    · have hc' : ¬ (hi = 4294967295 ∨ p.f0 ≤ (hi + 1) % 4294967296) := by rw [e1] at hc; clear s1 s2 e1; omega
      have hl := cover_62 lo hi
      have hn : (out.length + (cover lo hi).length) * 16 ≤ 140737488355328 := bnd3 (b := r.length + 1) hb hl
      have ih := mergeGo_ev r p.f0 (sp p).2 (out ++ cover lo hi) hr p0 (by rw [← e1]; exact s1) s2 (by rw [List.length_append]; exact bnd2 hb hl)
      have h := Ev.bind (f := fun k c => if (out.length + c.length) * 16 ≤ 140737488355328 then mergeGo k r p.f0 (sp p).2 (out ++ c) else none) (cover_ev lo hi h0 h2) (r := out ++ cover lo hi ++ (runsGo (r.map sp) p.f0 (sp p).2).flatMap cv) (by simp only [if_pos hn]; exact ih)
      have e2 : runsGo (sp p :: r.map sp) lo hi = (lo, hi) :: runsGo (r.map sp) p.f0 (sp p).2 := by
        conv => lhs; unfold runsGo
        rw [if_neg hc, e1]
      rw [e2, List.flatMap_cons, ← List.append_assoc, show cv (lo, hi) = cover lo hi from rfl]
      exact Ev.congr (mergeGo_eq_out hp hc') h
theorem srtS_perm (l : List S32) : (srtS l).Perm l := by
  unfold srtS SortP.srt
  have h := (List.mergeSort_perm (l.map prS) fun x y => !SortP.ltP y x).map unS
  rw [List.map_map] at h
  have e : (unS ∘ prS : S32 → S32) = id := rfl
  rwa [e, List.map_id] at h
theorem rise_of : ∀ (l : List S32) (b : Int), l.Pairwise (fun x y => x.f0 ≤ y.f0) → (∀ p, p ∈ l → Vp p) → (∀ p, p ∈ l → b ≤ p.f0) → Rise b (l.map sp)
  | [], _, _, _, _ => trivial
  | p :: r, b, h, hV, hb => by
    obtain ⟨h1, h2⟩ := List.pairwise_cons.1 h
    exact ⟨hb p (by simp), sp_le (hV p (by simp)), rise_of r p.f0 h2 (fun q hq => hV q (by simp [hq])) h1⟩
theorem srtS_pair (l : List S32) : (srtS l).Pairwise (fun x y => x.f0 ≤ y.f0) := by
  unfold srtS SortP.srt
  rw [List.pairwise_map]
  refine List.Pairwise.imp ?_ (List.pairwise_mergeSort (le := fun x y => !SortP.ltP y x) ?_ ?_ (l.map prS))
  · intro a b h
    simp only [SortP.ltP, Bool.not_eq_true', decide_eq_false_iff_not] at h
    simp only [unS]; omega
  · intro a b c h1 h2
    simp only [SortP.ltP, Bool.not_eq_true', decide_eq_false_iff_not] at *
    omega
  · intro a b
    simp only [SortP.ltP, Bool.or_eq_true, Bool.not_eq_true', decide_eq_false_iff_not]
    omega
/-- the runs of a list of prefixes -/
def rns (l : List S32) : List (Int × Int) := runsOf ((srtS l).map sp)
/-- what they are merged to -/
def mrg (l : List S32) : List S32 := (rns l).flatMap cv
theorem srt_rise {l : List S32} (h : ∀ p, p ∈ l → Vp p) : Rise 0 ((srtS l).map sp) :=
  rise_of _ 0 (srtS_pair l) (fun p hp => h p ((srtS_perm l).mem_iff.1 hp)) (fun p hp => (h p ((srtS_perm l).mem_iff.1 hp)).2.2.1)
theorem mem_perm {l m : List S32} (h : ∀ p, p ∈ l ↔ p ∈ m) (a : Int) : mem (l.map sp) a ↔ mem (m.map sp) a := by
  constructor <;> rintro ⟨r, hr, hx⟩ <;> obtain ⟨p, hp, rfl⟩ := List.mem_map.1 hr
  · exact ⟨sp p, List.mem_map.2 ⟨p, (h p).1 hp, rfl⟩, hx⟩
  · exact ⟨sp p, List.mem_map.2 ⟨p, (h p).2 hp, rfl⟩, hx⟩
theorem rns_apart {l : List S32} (h : ∀ p, p ∈ l → Vp p) : Apart (-2) (rns l) := runsOf_apart (b := -2) (srt_rise h)
theorem rns_mem {l : List S32} (h : ∀ p, p ∈ l → Vp p) (a : Int) : mem (rns l) a ↔ mem (l.map sp) a := by
  unfold rns
  rw [runsOf_mem (srt_rise h)]
  exact mem_perm (fun p => (srtS_perm l).mem_iff) a
/-- Merge hangs on the union alone. -/
theorem rns_eq {l m : List S32} (hl : ∀ p, p ∈ l → Vp p) (hm : ∀ p, p ∈ m → Vp p) (h : ∀ a, mem (l.map sp) a ↔ mem (m.map sp) a) : rns l = rns m :=
  uniq (rns_apart hl) (rns_apart hm) fun a => by rw [rns_mem hl, rns_mem hm, h a]
theorem mrg_ev {l : List S32} (hn : l.length ≤ 4096) (hV : ∀ p, p ∈ l → Vp p) : Ev (fun k => addr_Merge.f k l) (mrg l, 0) := by
  obtain ⟨e, h1, h2⟩ := faults_ev l fun p hp => ⟨(hV p hp).2.2.1, (hV p hp).2.2.2.1⟩
  have e0 := h2.2 hV
  subst e0
  unfold addr_Merge.f
  simp only [if_neg (show ¬ l.length > 4096 by omega)]
  refine Ev.bind h1 ?_
  simp only [if_true]
  have hs : (srtS l).length = l.length := (srtS_perm l).length_eq
  have hSV : ∀ p, p ∈ srtS l → Vp p := fun p hp => hV p ((srtS_perm l).mem_iff.1 hp)
  refine Ev.bind (a := mrg l) ?_ (Ev.now _)
  unfold mrg rns
  generalize srtS l = S at *
  cases S with
  | nil => exact Ev.now []
  | cons p r =>
    simp only [List.length_cons] at hs
    have hp := hSV p (by simp)
    refine Ev.congr (mergeOut_eq hp) ?_
    have := mergeGo_ev r p.f0 (sp p).2 [] (fun q hq => hSV q (by simp [hq])) hp.2.2.1 (by simpa [sp] using sp_le hp) (sp_lt hp) (by simp; omega)
    rw [List.map_cons]
    exact this
theorem mrg_bad {l : List S32} (hn : l.length ≤ 4096) (hU : ∀ p, p ∈ l → U32 p) (hV : ¬ ∀ p, p ∈ l → Vp p) : ∃ e, e ≠ 0 ∧ Ev (fun k => addr_Merge.f k l) ([], e) := by
  obtain ⟨e, h1, h2⟩ := faults_ev l hU
  have e0 : e ≠ 0 := fun h => hV (h2.1 h)
  refine ⟨e, e0, ?_⟩
  unfold addr_Merge.f
  simp only [if_neg (show ¬ l.length > 4096 by omega)]
  refine Ev.bind h1 ?_
  simp only [if_neg e0]
  exact Ev.now _
end Go.Proofs.Ytncpcjphljfcpaa.Pure
