/- Every address, prefix and hardware address is written and read back, and what is read is written again; the statement weftlaw1.AddrTwoWays. No further condition. -/
import Derived.Test.YtncpcjphljfcpaaStAddrTwoWays
import Derived.Test.YtncpcjphljfcpaaTxtMac
namespace Go.Proofs.Ytncpcjphljfcpaa.Pure
open Go.RowKit Go.Proofs.Ytncpcjphljfcpaa.PTwo Go.Proofs.Ytncpcjphljfcpaa.Txt Go.Proofs.YtncpcjphljfcpaaW.PrintWords Go.Proofs.YtncpcjphljfcpaaW.PrintLast Go.Proofs.YtncpcjphljfcpaaW.PrintMore Go.Proofs.YtncpcjphljfcpaaW.XOpen

theorem begun2_eq : weftlaw1_begun.f 20 = some true := by decide +kernel
theorem begun2_ev : Ev (fun k => weftlaw1_begun.f k) true := Ev.of (weftlaw1_begun.mono) begun2_eq
theorem bne_self (s : List UInt8) : (s != s) = false := by simp

/-- the last loop: letter by letter -/
theorem again_l0 {s t : ByteArray} (hs : s.size = 17) (ht : t.size = 17)
    (h : ∀ i : Nat, i < 17 → bt t (i : Int) = if 65 ≤ bt s (i : Int) ∧ bt s (i : Int) ≤ 70 then bt s (i : Int) + 32 else bt s (i : Int)) (j : Nat) :
    ∀ i : Nat, i + j = 17 → Ev (fun k => weftlaw1_again.l0 k s t (i : Int)) true := by
  induction j with
  | zero =>
    intro i hi
    refine Ev.step (f := fun _ => some true) (fun k => ?_) (Ev.now _)
    simp only [weftlaw1_again.l0]
    rw [if_neg (by omega)]
  | succ j ih =>
    intro i hi
    have hk := h i (by omega)
    refine Ev.step (f := fun k => weftlaw1_again.j3 k s t (i : Int) (bt s (i : Int)) (decide (65 ≤ bt s (i : Int) ∧ bt s (i : Int) ≤ 70))) (fun k => ?_) (Ev.step (f := fun k => weftlaw1_again.l0 k s t ((i + 1 : Nat) : Int)) (fun k => ?_) (ih (i + 1) (by omega)))
    · simp only [weftlaw1_again.l0]
      rw [if_pos (by omega), if_pos (by omega)]
      by_cases h1 : bt s (i : Int) ≥ 65
      · rw [if_pos h1]
        congr 1
        by_cases h2 : bt s (i : Int) ≤ 70
        · rw [decide_eq_true h2, decide_eq_true ⟨h1, h2⟩]
        · rw [decide_eq_false h2, decide_eq_false (fun e => h2 e.2)]
      · rw [if_neg h1, decide_eq_false (fun e => h1 e.1)]
    · have hw : wrap64 ((i : Int) + 1) = ((i + 1 : Nat) : Int) := by rw [w64 (by omega) (by omega)]; omega
      simp only [weftlaw1_again.j3]
      by_cases hc : 65 ≤ bt s (i : Int) ∧ bt s (i : Int) ≤ 70
      · rw [if_pos hc] at hk
        rw [decide_eq_true hc, if_pos rfl, if_pos (by omega), if_pos (by omega), if_pos (by omega), hw]
      · rw [if_neg hc] at hk
        rw [decide_eq_false hc, if_neg (by decide), if_pos (by omega), if_pos (by omega), if_pos (by omega), hw]

theorem again_mac (s : ByteArray) : Ev (fun k => weftlaw1_again.j1 k s false) true := by
  refine Ev.step (f := fun k => (addr_ParseMAC.f s).bind fun bt137 => (if bt137.2.2.2.2.2.2 = 0 then ((addr_FormatMAC.f bt137.1 bt137.2.1 bt137.2.2.1 bt137.2.2.2.1 bt137.2.2.2.2.1 bt137.2.2.2.2.2.1).bind fun t145 => (if (t145.size : Int) = (s.size : Int) then (weftlaw1_again.l0 k s t145 0) else (some false))) else (some true))) (fun k => ?_) ?_
  · simp only [weftlaw1_again.j1]
    rw [if_neg (by decide)]
  by_cases h : s.size = 17 ∧ macAll s = true
  · have hp : ∀ j, j < 6 → pok s j := by
      intro j hj
      have := h.2
      unfold macAll at this
      rw [List.all_eq_true] at this
      exact of_decide_eq_true (this j (List.mem_range.mpr hj))
    have hr : ∀ j, byteIn (pv s j) := by intro j; unfold byteIn pv; omega
    have e1 : addr_ParseMAC.f s = some (pv s 0, pv s 1, pv s 2, pv s 3, pv s 4, pv s 5, 0) := by unfold addr_ParseMAC.f; rw [if_pos h]
    have hM : ∀ j, j < 6 → macFn (pv s 0) (pv s 1) (pv s 2) (pv s 3) (pv s 4) (pv s 5) j = pv s j := by
      intro j hj
      have : j = 0 ∨ j = 1 ∨ j = 2 ∨ j = 3 ∨ j = 4 ∨ j = 5 := by omega
      rcases this with rfl | rfl | rfl | rfl | rfl | rfl <;> rfl
    have hsz : (strOfNums (mac (macFn (pv s 0) (pv s 1) (pv s 2) (pv s 3) (pv s 4) (pv s 5)))).size = 17 := by rw [txt_size]; simp [mac]
    rw [e1]
    simp only [Option.bind_some]
    rw [format_mac (hr 0) (hr 1) (hr 2) (hr 3) (hr 4) (hr 5)]
    simp only [Option.bind_some, if_true]
    simp only [if_pos (show ((strOfNums (mac (macFn (pv s 0) (pv s 1) (pv s 2) (pv s 3) (pv s 4) (pv s 5)))).size : Int) = (s.size : Int) from by rw [hsz, h.1])]
    refine again_l0 h.1 hsz (fun i hi => ?_) 17 0 (by omega)
    rw [bt_mac _ i hi]
    exact mac_low hp hM i hi
  · have e1 : addr_ParseMAC.f s = some (0, 0, 0, 0, 0, 0, 13) := by unfold addr_ParseMAC.f; rw [if_neg h]
    rw [e1]
    exact ⟨0, fun k _ => rfl⟩

theorem flt00 : flt 0 0 = 0 := by decide +kernel
theorem again_pfx {L : List Int} (hL : By L) (hlen : L.length ≤ 1000000000000000000) : Ev (fun k => weftlaw1_again.j0 k (strOfNums L) false) true := by
  obtain ⟨r, hr, hc⟩ := pp_all hL hlen
  refine Ev.step (f := fun k => (addr_ParsePrefix.f k (strOfNums L)).bind fun bt131 => ((addr_FormatPrefix.f k bt131.1 bt131.2.1).bind fun bt135 => (if bt131.2.2 = 0 then (if bt135.2 = 0 then (weftlaw1_again.j1 k (strOfNums L) (bt135.1.toList != (strOfNums L).toList)) else (weftlaw1_again.j1 k (strOfNums L) true)) else (weftlaw1_again.j1 k (strOfNums L) false)))) (fun k => ?_) (Ev.bind hr ?_)
  · simp only [weftlaw1_again.j0]
    rw [if_neg (by decide)]
  rcases hc with ⟨e, he, rfl⟩ | ⟨a, n, h0, h1, hf, rfl, rfl⟩
  · refine Ev.bind (pfx_ev (a := 0) (b := 0) (by omega) (by omega)) ?_
    simp only [if_neg he]
    exact again_mac _
  · refine Ev.bind (pfx_ev (a := a) (b := n) h0 h1) ?_
    simp only [hf, if_true, Int.toNat_natCast, bne_self]
    exact again_mac _
theorem again_ev (s : ByteArray) (hs : s.size ≤ 1000000000000000000) : Ev (fun k => weftlaw1_again.f k s) true := by
  obtain ⟨L, hL, rfl⟩ := txt_of s
  rw [txt_size] at hs
  obtain ⟨r, hr, hc⟩ := parse_back hL hs
  unfold weftlaw1_again.f
  refine Ev.bind hr ?_
  rcases hc with rfl | ⟨a, h0, h1, rfl, rfl⟩
  · refine Ev.bind (format_ev (a := 0) (by omega) (by omega)) ?_
    exact again_pfx hL hs
  · refine Ev.bind (format_ev h0 h1) ?_
    simp only [if_true, bne_self]
    exact again_pfx hL hs

theorem u32_of2 {a : Int} (h : (Lit.int .u32 a).wf = true) : 0 ≤ a ∧ a < 4294967296 := by
  simp [Lit.wf, IntKind.min, IntKind.max, IntKind.bits, IntKind.signed] at h
  omega
theorem u8_of {a : Int} (h : (Lit.int .u8 a).wf = true) : byteIn a := by
  simp [Lit.wf, IntKind.min, IntKind.max, IntKind.bits, IntKind.signed] at h
  unfold byteIn
  omega

theorem texts_l1 (l1 : List ByteArray) (hl : ∀ s ∈ l1, s.size ≤ 140737488351232) (hlen : l1.length ≤ 9223372036854775000) (j : Nat) : ∀ i : Nat, i + j = l1.length → Ev (fun k => weftlaw1_AddrTwoWays.l1 k l1 (i : Int)) true := by
  induction j with
  | zero =>
    intro i hi
    refine Ev.step (f := fun _ => some true) (fun k => ?_) (Ev.now _)
    simp only [weftlaw1_AddrTwoWays.l1]
    rw [if_neg (by omega)]
  | succ j ih =>
    intro i hi
    have hm : rdOf ByteArray.empty l1 (i : Int) ∈ l1 := by
      unfold rdOf
      rw [Int.toNat_natCast, List.getD_eq_getElem?_getD, List.getElem?_eq_getElem (by omega : i < l1.length)]
      exact List.getElem_mem _
    have hs := hl _ hm
    refine Ev.step (f := fun k => (weftlaw1_again.f k (rdOf ByteArray.empty l1 (i : Int))).bind fun t169 => (if t169 = true then (weftlaw1_AddrTwoWays.l1 k l1 ((i + 1 : Nat) : Int)) else (some false))) (fun k => ?_) (Ev.bind (again_ev _ (by omega)) ?_)
    · simp only [weftlaw1_AddrTwoWays.l1]
      rw [if_pos (by omega), if_pos (by omega), w64 (by omega) (by omega)]
      rfl
    · simp only [if_true]
      exact ih (i + 1) (by omega)

theorem items_l0 (l0 : List S38) (l1 : List ByteArray) (h0 : ∀ x ∈ l0, W38 x) (hlen : l0.length ≤ 9223372036854775000) (hr : Ev (fun k => weftlaw1_AddrTwoWays.l1 k l1 0) true) (j : Nat) :
    ∀ i : Nat, i + j = l0.length → Ev (fun k => weftlaw1_AddrTwoWays.l0 k l0 l1 (i : Int)) true := by
  induction j with
  | zero =>
    intro i hi
    refine Ev.step (f := fun k => weftlaw1_AddrTwoWays.l1 k l1 0) (fun k => ?_) hr
    simp only [weftlaw1_AddrTwoWays.l0]
    rw [if_neg (by omega)]
  | succ j ih =>
    intro i hi
    have hm : rd_T38 l0 (i : Int) ∈ l0 := by
      unfold rd_T38
      rw [Int.toNat_natCast, List.getD_eq_getElem?_getD, List.getElem?_eq_getElem (by omega : i < l0.length)]
      exact List.getElem_mem _
    have hw := h0 _ hm
    generalize hx : rd_T38 l0 (i : Int) = x at hw
    obtain ⟨hwa, ⟨hwp, hwn⟩, b0, b1, b2, b3, b4, b5⟩ := hw
    obtain ⟨ha0, ha1⟩ := u32_of2 hwa
    obtain ⟨hp0, hp1⟩ := u32_of2 hwp
    have b0 := u8_of b0
    have b1 := u8_of b1
    have b2 := u8_of b2
    have b3 := u8_of b3
    have b4 := u8_of b4
    have b5 := u8_of b5
    refine Ev.step (f := fun k => (addr_Format.f k x.f0).bind fun t149 => ((addr_Parse.f k t149).bind fun bt150 => (if bt150.2 = 0 then (weftlaw1_AddrTwoWays.j1 k l0 l1 (i : Int) (bt150.1 != x.f0) x.f0 x.f1.f0 x.f1.f1 x.f2.f0 x.f2.f1 x.f2.f2 x.f2.f3 x.f2.f4 x.f2.f5) else (weftlaw1_AddrTwoWays.j1 k l0 l1 (i : Int) true x.f0 x.f1.f0 x.f1.f1 x.f2.f0 x.f2.f1 x.f2.f2 x.f2.f3 x.f2.f4 x.f2.f5)))) (fun k => ?_)
      (Ev.bind (format_ev ha0 ha1) (Ev.bind (parse_fmt ha0 ha1) ?_))
    · simp only [weftlaw1_AddrTwoWays.l0]
      rw [if_pos (by omega), if_pos (by omega), hx]
    simp only [if_true, show (x.f0 != x.f0) = false from by simp]
    refine Ev.step (f := fun k => weftlaw1_AddrTwoWays.j2 k l0 l1 (i : Int) false x.f0 x.f1.f0 x.f1.f1 x.f2.f0 x.f2.f1 x.f2.f2 x.f2.f3 x.f2.f4 x.f2.f5) (fun k => ?_) ?_
    · simp only [weftlaw1_AddrTwoWays.j1]
      rw [if_neg (by decide), format_mac b0 b1 b2 b3 b4 b5, Option.bind_some, parse_mac b0 b1 b2 b3 b4 b5, Option.bind_some]
      simp
    have hgo : Ev (fun k => weftlaw1_AddrTwoWays.j3 k l0 l1 (i : Int) (flt x.f1.f0 x.f1.f1) false x.f0 x.f1.f0 x.f1.f1 x.f2.f0 x.f2.f1 x.f2.f2 x.f2.f3 x.f2.f4 x.f2.f5) true := by
      refine Ev.step (f := fun k => (addr_Valid.f k x.f1.f0 x.f1.f1).bind fun t167 => (if (t167 != (flt x.f1.f0 x.f1.f1 == 0)) = true then (some false) else (weftlaw1_AddrTwoWays.l0 k l0 l1 ((i + 1 : Nat) : Int)))) (fun k => ?_) (Ev.bind (valid_ev hp0 hp1) ?_)
      · simp only [weftlaw1_AddrTwoWays.j3]
        rw [if_neg (by decide), w64 (by omega) (by omega)]
        rfl
      · simp only [bne_self_eq_false]
        exact ih (i + 1) (by omega)
    refine Ev.step (f := fun k => (addr_FormatPrefix.f k x.f1.f0 x.f1.f1).bind fun bt161 => ((addr_ParsePrefix.f k bt161.1).bind fun bt163 => (if bt161.2 = 0 then (if bt163.2.2 = 0 then (weftlaw1_AddrTwoWays.j3 k l0 l1 (i : Int) bt161.2 (!(bt163.1 == x.f1.f0) || (!(bt163.2.1 == x.f1.f1))) x.f0 x.f1.f0 x.f1.f1 x.f2.f0 x.f2.f1 x.f2.f2 x.f2.f3 x.f2.f4 x.f2.f5) else (weftlaw1_AddrTwoWays.j3 k l0 l1 (i : Int) bt161.2 true x.f0 x.f1.f0 x.f1.f1 x.f2.f0 x.f2.f1 x.f2.f2 x.f2.f3 x.f2.f4 x.f2.f5)) else (weftlaw1_AddrTwoWays.j3 k l0 l1 (i : Int) bt161.2 false x.f0 x.f1.f0 x.f1.f1 x.f2.f0 x.f2.f1 x.f2.f2 x.f2.f3 x.f2.f4 x.f2.f5)))) (fun k => ?_)
      (Ev.bind (pfx_ev hp0 hp1) ?_)
    · simp only [weftlaw1_AddrTwoWays.j2]
      rw [if_neg (by decide)]
    by_cases hf : flt x.f1.f0 x.f1.f1 = 0
    · obtain ⟨hn0, hn1⟩ := flt_zero hf
      rw [hf] at hgo
      have hpp := pp_pfx (a := x.f1.f0) (n := x.f1.f1.toNat) hp0 hp1 (by rw [Int.toNat_of_nonneg hn0]; exact hf)
      rw [Int.toNat_of_nonneg hn0] at hpp
      simp only [if_pos hf]
      refine Ev.bind hpp ?_
      simpa using hgo
    · simp only [if_neg hf]
      obtain ⟨r, hpp, _⟩ := pp_all (L := []) (by intro y hy; cases hy) (by simp)
      refine Ev.bind (a := r) hpp ?_
      exact hgo

theorem AddrTwoWays : weftlaw1_AddrTwoWays.Pure := by
  intro l0 l1 h0 h1
  obtain ⟨_, h02, h03⟩ := h0
  obtain ⟨_, h12, h13⟩ := h1
  refine Ev.rounds ?_
  unfold weftlaw1_AddrTwoWays.f
  refine Ev.bind begun2_ev ?_
  simp only [if_true]
  exact items_l0 l0 l1 h03 (by omega) (texts_l1 l1 h13 (by omega) l1.length 0 (by omega)) l0.length 0 (by omega)
end Go.Proofs.Ytncpcjphljfcpaa.Pure
