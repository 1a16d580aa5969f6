/- A merge is no longer than the list that it is of: each of its prefixes has the first address of one of the list's. Condition: the list's prefixes are valid. -/
import Derived.Test.YtncpcjphljfcpaaMrgOut
namespace Go.Proofs.Ytncpcjphljfcpaa.Pure
open Go.RowKit Go.Proofs.Ytncpcjphljfcpaa.PMrg Go.Proofs.YtncpcjphljfcpaaW.PrintWords Go.Proofs.YtncpcjphljfcpaaW.PrintLast Go.Proofs.YtncpcjphljfcpaaW.PrintMore
open Go.Proofs.Ytncpcjphljfcpaa.Runs

theorem chain_each {lo hi : Int} (hh : hi < 4294967296) : ∀ (l : List S32) (p q : Int), Chain lo hi p l q → lo ≤ p → ∀ x, x ∈ l → Vp x ∧ lo ≤ x.f0 ∧ (sp x).2 ≤ hi ∧ Big lo hi (dd x) x.f0
  | [], _, _, _, _, _, h => by cases h
  | y :: ys, p, q, hc, hl, x, hx => by
    obtain ⟨d, hd, rfl, h0, ha, hf, hb, hc'⟩ := hc
    rcases List.mem_cons.1 hx with rfl | hx
    · refine ⟨mk_v hd h0 ha hf hh, hl, by rw [mk_sp]; exact hf, by rw [mk_dd]; exact hb⟩
    · have hp := tp_pos d
      exact chain_each hh ys (p + tp d) q hc' (by generalize tp d = t at *; omega) x hx
theorem apart_edge : ∀ {R : List (Int × Int)} {b : Int}, Apart b R → ∀ r, r ∈ R → ¬ mem R (r.1 - 1) ∧ ¬ mem R (r.2 + 1)
  | [], _, _, _, h => by cases h
  | y :: R, b, hA, r, h => by
    obtain ⟨h1, h2, h3⟩ := hA
    rcases List.mem_cons.1 h with rfl | h
    · constructor <;> intro hm <;> rcases mem_cons.1 hm with hm | hm
      · omega
      · have := h3.beyond hm; omega
      · omega
      · have := h3.beyond hm; omega
    · obtain ⟨g1, g2⟩ := apart_edge h3 r h
      have hle := apart_le h3 r h
      have hb := h3.beyond ⟨r, h, Int.le_refl _, hle⟩
      constructor <;> intro hm <;> rcases mem_cons.1 hm with hm | hm
      · omega
      · exact g1 hm
      · omega
      · exact g2 hm
theorem run_whole {R : List (Int × Int)} {b u v a : Int} {r : Int × Int} (hA : Apart b R) (hr : r ∈ R) (hm : ∀ z, u ≤ z → z ≤ v → mem R z) (h1 : u ≤ a) (h2 : a ≤ v) (h3 : r.1 ≤ a) (h4 : a ≤ r.2) : r.1 ≤ u ∧ v ≤ r.2 := by
  obtain ⟨g1, g2⟩ := apart_edge hA r hr
  constructor
  · apply Decidable.byContradiction
    intro h
    exact g1 (hm _ (by omega) (by omega))
  · apply Decidable.byContradiction
    intro h
    exact g2 (hm _ (by omega) (by omega))
theorem mult_le {a t : Int} (h : a % t = 0) (h0 : 0 < a) : t ≤ a := Int.le_of_dvd h0 (Int.dvd_of_emod_eq_zero h)
theorem sub_mod0 {a b t : Int} (h1 : a % t = 0) (h2 : b % t = 0) : (a - b) % t = 0 :=
  Int.emod_eq_zero_of_dvd (Int.dvd_sub (Int.dvd_of_emod_eq_zero h1) (Int.dvd_of_emod_eq_zero h2))
theorem mod_down {a : Int} {d e : Nat} (h : a % tp e = 0) (hd : d ≤ e) : a % tp d = 0 :=
  Int.emod_eq_zero_of_dvd (Int.dvd_trans (tp_dvd hd) (Int.dvd_of_emod_eq_zero h))
/-- blocks lie one in the other or apart -/
theorem nested {x p : S32} {lo hi : Int} (hx : Vp x) (hp : Vp p) (h1 : p.f0 < x.f0) (h2 : x.f0 ≤ (sp p).2) (h3 : lo ≤ p.f0) (h4 : (sp p).2 ≤ hi) (hb : Big lo hi (dd x) x.f0) : False := by
  have e2 : (sp p).2 = p.f0 + tp (dd p) - 1 := rfl
  rw [e2] at h2 h4
  by_cases hd : dd p ≤ dd x
  · have g1 := mod_down hx.2.2.2.2 hd
    have g2 := mult_le (sub_mod0 g1 hp.2.2.2.2) (by omega)
    omega
  · have hd' : dd x + 1 ≤ dd p := by omega
    have he := dd_le hp
    have g1 := mod_down hp.2.2.2.2 hd'
    have g3 : tp (dd p) % tp (dd x + 1) = 0 := Int.emod_eq_zero_of_dvd (tp_dvd hd')
    have hT := tp_pos (dd x + 1)
    have m0 := Int.emod_nonneg x.f0 (show tp (dd x + 1) ≠ 0 by omega)
    have m1 := Int.emod_lt_of_pos x.f0 hT
    have gP : (x.f0 - x.f0 % tp (dd x + 1)) % tp (dd x + 1) = 0 := by
      rw [Int.sub_emod, Int.emod_emod_of_dvd _ (Int.dvd_refl _), Int.sub_self, Int.zero_emod]
    have gE : (p.f0 + tp (dd p)) % tp (dd x + 1) = 0 := by rw [Int.add_emod, g1, g3]; simp
    have a1 : p.f0 ≤ x.f0 - x.f0 % tp (dd x + 1) := by
      apply Decidable.byContradiction
      intro h
      have := mult_le (sub_mod0 g1 gP) (by omega)
      omega
    have a2 : tp (dd x + 1) ≤ p.f0 + tp (dd p) - (x.f0 - x.f0 % tp (dd x + 1)) := mult_le (sub_mod0 gE gP) (by omega)
    rcases hb with hb | hb
    · omega
    · exact hb ⟨by omega, by omega⟩
theorem mrg_each {l : List S32} (hV : ∀ p, p ∈ l → Vp p) : ∀ x, x ∈ mrg l → ∃ p, p ∈ l ∧ inn p x := by
  intro x hx
  obtain ⟨r, hr, hxr⟩ := List.mem_flatMap.1 (show x ∈ (rns l).flatMap cv from hx)
  have hA := rns_apart hV
  have hle := apart_le hA r hr
  obtain ⟨r0, r1⟩ := rns_range hV r hr
  obtain ⟨v, h1, h2, h3⟩ := chain_each r1 (cover r.1 r.2) r.1 _ (cover_chain r0 r1 hle) (Int.le_refl _) x hxr
  have hs := sp_le v
  have es : (sp x).1 = x.f0 := rfl
  have hm : mem (rns l) x.f0 := ⟨r, hr, h1, by omega⟩
  rw [rns_mem hV] at hm
  obtain ⟨s, hs', g1, g2⟩ := hm
  obtain ⟨p, hp, rfl⟩ := List.mem_map.1 hs'
  have ep : (sp p).1 = p.f0 := rfl
  rw [ep] at g1
  by_cases hq : p.f0 = x.f0
  · exact ⟨p, hp, by unfold inn; omega⟩
  · exfalso
    obtain ⟨k1, k2⟩ := run_whole (u := p.f0) (v := (sp p).2) (a := x.f0) hA hr (fun z z1 z2 => (rns_mem hV z).2 ⟨sp p, hs', z1, z2⟩) g1 g2 h1 (by omega)
    exact nested v (hV p hp) (by omega) g2 k1 k2 h3
instance : DecidableEq S32 := fun a b => by
  cases a; cases b
  rw [S32.mk.injEq]
  exact inferInstance
theorem mrg_len {l : List S32} (hV : ∀ p, p ∈ l → Vp p) : (mrg l).length ≤ l.length :=
  count inn (mrg l) l (mrg_chn hV).pairwise (mrg_each hV)
/-- merged again it is the same; and so is any list of the same union -/
theorem mrg_same {l m : List S32} (hl : ∀ p, p ∈ l → Vp p) (hm : ∀ p, p ∈ m → Vp p) (h : ∀ a, mem (m.map sp) a ↔ mem (l.map sp) a) : mrg m = mrg l := by
  unfold mrg
  rw [rns_eq hm hl h]
theorem mrg_mrg {l : List S32} (hV : ∀ p, p ∈ l → Vp p) : mrg (mrg l) = mrg l := mrg_same hV (mrg_valid hV) (mrg_mem hV)
end Go.Proofs.Ytncpcjphljfcpaa.Pure
