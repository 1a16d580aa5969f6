/- addr.Merge, without the document's answer: of up to 2000 prefixes the merged ones rise, are apart, are no two halves of one, have just the list's addresses, and turned round, doubled and merged again it is the same; a list with a prefix that is none is refused; the statement weftlaw1.AddrMergeWhole. No further condition. -/
import Derived.Test.YtncpcjphljfcpaaMrgLook
import Derived.Test.YtncpcjphljfcpaaStAddrMergeWhole
namespace Go.Proofs.Ytncpcjphljfcpaa.Pure
open Go.RowKit Go.Proofs.Ytncpcjphljfcpaa.PMrg Go.Proofs.YtncpcjphljfcpaaW.PrintWords Go.Proofs.YtncpcjphljfcpaaW.PrintLast Go.Proofs.YtncpcjphljfcpaaW.PrintMore Go.Proofs.YtncpcjphljfcpaaW.XOpen
open Go.Proofs.Ytncpcjphljfcpaa.Runs

theorem u32_of {a : Int} (h : (Lit.int .u32 a).wf = true) : 0 ≤ a ∧ a < 4294967296 := by
  simp [Lit.wf, IntKind.min, IntKind.max, IntKind.bits, IntKind.signed] at h
  omega
section
variable {x0 : List S32} (hn : x0.length ≤ 2000) (hV : ∀ p, p ∈ x0 → Vp p)
include hn hV
theorem twice_end (acc : List S32) (h1 : ∀ p, p ∈ acc ↔ p ∈ x0) (h2 : acc.length ≤ 4000) (x17 : Int) (hx : ¬ x17 ≥ 0) : Ev (fun k => weftlaw1_AddrMergeWhole.l1 k x0 (mrg x0) acc x17) true := by
  have hl := mrg_len hV
  have hVa : ∀ p, p ∈ acc → Vp p := fun p hp => hV p ((h1 p).1 hp)
  have e1 : mrg acc = mrg x0 := mrg_same hV hVa fun a => mem_perm h1 a
  have m1 := mrg_ev (l := acc) (by omega) hVa
  have m2 := mrg_ev (l := mrg x0) (by omega) (mrg_valid hV)
  rw [e1] at m1
  rw [mrg_mrg hV] at m2
  have s := same_self (mrg x0) (by omega)
  refine Ev.step (f := fun k => (addr_Merge.f k acc).bind fun bt184 => (addr_Merge.f k (mrg x0)).bind fun bt188 => if bt184.2 = 0 then (if bt188.2 = 0 then (weftlaw1_same.f k (mrg x0) bt184.1).bind fun t192 => (if t192 = true then (weftlaw1_same.f k (mrg x0) bt188.1).bind fun t193 => some t193 else some false) else some false) else some false) (fun k => ?_) ?_
  · simp only [weftlaw1_AddrMergeWhole.l1]
    rw [if_neg hx]
  · refine Ev.bind m1 (Ev.bind m2 ?_)
    simp only [if_true]
    refine Ev.bind s ?_
    simp only [if_true]
    exact Ev.bind s (Ev.now true)
theorem twice_ev : ∀ (i : Nat) (acc : List S32), i ≤ x0.length → (∀ p, p ∈ acc → p ∈ x0) → (∀ p, p ∈ x0.drop i → p ∈ acc) → acc.length + 2 * i ≤ 4000 → Ev (fun k => weftlaw1_AddrMergeWhole.l1 k x0 (mrg x0) acc ((i : Int) - 1)) true
  | 0, acc, _, h1, h2, h3 => twice_end hn hV acc (fun p => ⟨h1 p, fun hp => h2 p hp⟩) (by omega) _ (by omega)
  | i + 1, acc, hi, h1, h2, h3 => by
    have hil : i < x0.length := by omega
    have hr : rd_T32 x0 i = x0[i] := by simp [rd_T32, List.getD_eq_getElem?_getD, hil]
    have ih := twice_ev i (acc ++ [x0[i]] ++ [x0[i]]) (by omega) (fun p hp => by
      simp only [List.mem_append, List.mem_singleton] at hp
      rcases hp with (hp | hp) | hp
      · exact h1 p hp
      · rw [hp]; exact List.getElem_mem hil
      · rw [hp]; exact List.getElem_mem hil) (fun p hp => by
      rw [List.drop_eq_getElem_cons hil] at hp
      rcases List.mem_cons.1 hp with hp | hp
      · rw [hp]; simp
      · have := h2 p hp; simp [this]) (by simp only [List.length_append, List.length_singleton]; omega)
    refine Ev.step (f := fun k => weftlaw1_AddrMergeWhole.l1 k x0 (mrg x0) (acc ++ [x0[i]] ++ [x0[i]]) ((i : Int) - 1)) (fun k => ?_) ih
    simp only [weftlaw1_AddrMergeWhole.l1]
    rw [show (((i + 1 : Nat) : Int) - 1) = (i : Int) from by omega, if_pos (by omega), if_pos (by omega), if_pos (by omega), hr, w64 (n := (i : Int) - 1) (by omega) (by omega)]
    have c1 : acc.length < 8796093022208 := by omega
    have c2 : (acc ++ [x0[i]]).length < 8796093022208 := by rw [List.length_append, List.length_singleton]; omega
    rw [if_pos c1, Option.bind_some]
    exact if_pos c2
theorem main_ev (a1 : Int) : ∀ (suf pre : List S32) (o : Option S32) (b : Int), mrg x0 = pre ++ suf → pre.getLast? = o → (∀ q, o = some q → Vp q) → Chn o b suf → Ev (fun k => weftlaw1_AddrMergeWhole.l0 k x0 a1 (mrg x0) b pre.length) true
  | [], pre, o, b, e, _, _, _ => by
    have hl := mrg_len hV
    rw [List.append_nil] at e
    have hA : ∀ a, hadB x0 a = hadB (mrg x0) a := fun a => by
      rw [Bool.eq_iff_iff, hadB_iff, hadB_iff, mrg_mem hV]
    have ha := agree_ev (x0 := x0) (x1 := mrg x0) (by omega) (by omega) hV (mrg_valid hV) hA (wrap64 a1)
    have ht := twice_ev hn hV x0.length [] (Nat.le_refl _) (fun p hp => by cases hp) (fun p hp => by rw [List.drop_length] at hp; cases hp) (by simp; omega)
    refine Ev.step (f := fun k => (weftlaw1_agree.f k x0 (mrg x0) (wrap64 a1)).bind fun t175 => if t175 = true then weftlaw1_AddrMergeWhole.l1 k x0 (mrg x0) [] ((x0.length : Int) - 1) else some false) (fun k => ?_) ?_
    · simp only [weftlaw1_AddrMergeWhole.l0]
      rw [if_neg (by rw [e]; omega), w64 (n := (x0.length : Int) - 1) (by omega) (by omega)]
    · refine Ev.bind ha ?_
      simp only [if_true]
      exact ht
  | x :: xs, pre, o, b, e, ho, hq, hc => by
    obtain ⟨hv, hb, hn', hc'⟩ := hc
    have hl := mrg_len hV
    have hlen : pre.length < (mrg x0).length := by rw [e]; simp
    have ih := main_ev a1 xs (pre ++ [x]) (some x) (sp x).2 (by rw [e]; simp) (by simp) (fun q h => by obtain rfl := Option.some.inj h; exact hv) hc'
    rw [List.length_append, List.length_singleton] at ih
    obtain ⟨K, hK⟩ := ih
    refine ⟨K + 2, fun k hk => ?_⟩
    obtain ⟨k, rfl⟩ : ∃ m, k = m + 1 := ⟨k - 1, by omega⟩
    have hK' := hK k (by omega)
    dsimp only at hK'
    obtain ⟨e2, hpx⟩ := parent_v hv
    simp only [weftlaw1_AddrMergeWhole.l0]
    rw [if_pos (by omega), if_pos (by omega), rd_mid e, block_v hv (by omega), Option.bind_some, if_neg (show ¬ (sp x).1 ≤ b from by have : (sp x).1 = x.f0 := rfl; omega), up1 _ (by omega), hK']
    by_cases hp : (pre.length : Int) > 0
    · rw [if_pos hp]
      cases ho' : o with
      | none =>
        rw [ho'] at ho
        rw [List.getLast?_eq_none_iff] at ho
        rw [ho] at hp
        simp at hp
      | some q =>
        rw [ho'] at ho
        obtain ⟨ini, hini⟩ := List.getLast?_eq_some_iff.1 ho
        have hrq : rd_T32 (mrg x0) ((pre.length : Int) - 1) = q := by
          have e3 : mrg x0 = ini ++ q :: (x :: xs) := by rw [e, hini]; simp
          have := rd_mid e3
          rw [hini, List.length_append, List.length_singleton, show (((ini.length + 1 : Nat) : Int) - 1) = (ini.length : Int) from by omega]
          exact this
        obtain ⟨e4, hpq⟩ := parent_v (hq q ho')
        have hnp := hn' q ho'
        rw [w64 (n := (pre.length : Int) - 1) (by omega) (by omega), if_pos (by omega), if_pos (by omega), hrq, hpq, Option.bind_some, hpx, Option.bind_some]
        dsimp only
        by_cases c1 : q.f1 = x.f1
        · rw [if_pos c1]
          by_cases c2 : x.f1 > 0
          · rw [if_pos c2, if_neg (fun c3 => hnp ⟨c1, c2, c3⟩)]
          · rw [if_neg c2]
        · rw [if_neg c1]
    · rw [if_neg hp]
end
theorem AddrMergeWhole : weftlaw1_AddrMergeWhole.Pure := by
  intro l0 a1 hl ha
  have hU : ∀ p, p ∈ l0 → U32 p := fun p hp => u32_of (hl.2.2 p hp).1
  refine Ev.rounds ?_
  unfold weftlaw1_AddrMergeWhole.f
  refine Ev.bind begun_ev ?_
  simp only [if_true]
  by_cases hn : (l0.length : Int) > 2000
  · simp only [if_pos hn]; exact Ev.now true
  · simp only [if_neg hn]
    have hn' : l0.length ≤ 2000 := by omega
    have hs := sound_ev l0 (by omega) hU
    by_cases hV : ∀ p, p ∈ l0 → Vp p
    · have e : (l0.all fun p => decide (Vp p)) = true := List.all_eq_true.2 fun p hp => decide_eq_true (hV p hp)
      rw [e] at hs
      refine Ev.bind (mrg_ev (by omega) hV) (Ev.bind hs ?_)
      simp only [if_true]
      exact main_ev hn' hV a1 (mrg l0) [] none (-1) rfl rfl (fun q h => by cases h) (mrg_chn hV)
    · have e : (l0.all fun p => decide (Vp p)) = false := by
        rw [← Bool.not_eq_true, List.all_eq_true]
        exact fun h => hV fun p hp => of_decide_eq_true (h p hp)
      rw [e] at hs
      obtain ⟨er, he, hm⟩ := mrg_bad (by omega) hU hV
      refine Ev.bind hm (Ev.bind hs ?_)
      simp only [if_neg he, Bool.false_eq_true, if_false]
      exact Ev.now true
end Go.Proofs.Ytncpcjphljfcpaa.Pure
