/- Of every address, prefix and hardware address the texts, Valid, Span, Contains and Class are the document's; the statement weftlaw1.AddrFormats. No further condition. -/
import Derived.Test.YtncpcjphljfcpaaDoorStAddrFormats
import Derived.Test.YtncpcjphljfcpaaDoorTxtFrm
namespace Go.Proofs.YtncpcjphljfcpaaDoor.Pure
open Go.RowKit Go.Proofs.YtncpcjphljfcpaaDoor.PPar Go.Proofs.YtncpcjphljfcpaaDoor.Txt Go.Proofs.YtncpcjphljfcpaaDoorW.PrintWords Go.Proofs.YtncpcjphljfcpaaDoorW.PrintLast Go.Proofs.YtncpcjphljfcpaaDoorW.PrintMore Go.Proofs.YtncpcjphljfcpaaDoorW.XOpen

theorem begunF_eq : weftlaw1_begun.f 20 = some true := by decide +kernel
theorem begunF_ev : Ev (fun k => weftlaw1_begun.f k) true := Ev.of (weftlaw1_begun.mono) begunF_eq
theorem u32_of {a : Int} (h : (Lit.int .u32 a).wf = true) : 0 ≤ a ∧ a < 4294967296 := by
  simp [Lit.wf, IntKind.min, IntKind.max, IntKind.bits, IntKind.signed] at h
  omega
theorem u8_of {a : Int} (h : (Lit.int .u8 a).wf = true) : byteIn a := by
  simp [Lit.wf, IntKind.min, IntKind.max, IntKind.bits, IntKind.signed] at h
  unfold byteIn
  omega
theorem formats_ev {x p n b0 b1 b2 b3 b4 b5 : Int} (hx0 : 0 ≤ x) (hx1 : x < 4294967296) (hp0 : 0 ≤ p) (hp1 : p < 4294967296) (h0 : byteIn b0) (h1 : byteIn b1) (h2 : byteIn b2) (h3 : byteIn b3) (h4 : byteIn b4) (h5 : byteIn b5) :
    Ev (fun k => weftlaw1_formats.f k x p n b0 b1 b2 b3 b4 b5) true := by
  unfold weftlaw1_formats.f
  refine Ev.bind (format_ev hx0 hx1) (Ev.bind (refformat_ev hx0 hx1) ?_)
  simp only [if_true]
  refine Ev.bind (pfx_ev (b := n) hp0 hp1) (Ev.bind (refpfx_ev hp0 hp1) ?_)
  simp only [if_true, bne_self_eq_false]
  refine Ev.step (f := fun _ => some true) (fun k => ?_) (Ev.now _)
  simp only [weftlaw1_formats.j0]
  have e : weftref1_FormatMAC.f b0 b1 b2 b3 b4 b5 = addr_FormatMAC.f b0 b1 b2 b3 b4 b5 := rfl
  rw [if_neg (by decide), e, format_mac h0 h1 h2 h3 h4 h5, Option.bind_some, Option.bind_some]
  simp
theorem holds_ev {x p n b0 b1 b2 b3 b4 b5 : Int} (hx0 : 0 ≤ x) (hx1 : x < 4294967296) (hp0 : 0 ≤ p) (hp1 : p < 4294967296) : Ev (fun k => weftlaw1_holds.f k x p n b0 b1 b2 b3 b4 b5) true := by
  unfold weftlaw1_holds.f
  refine Ev.bind (valid_ev (b := n) hp0 hp1) (Ev.bind (refvalid_ev hp0 hp1) ?_)
  simp only [bne_self_eq_false]
  refine Ev.bind (span_ev (b := n) hp0 hp1) (Ev.bind (refspan_ev hp0 hp1) ?_)
  simp only [if_true, bne_self_eq_false]
  refine Ev.step (f := fun k => (addr_Contains.f k p n x).bind fun t212 => ((weftref1_Contains.f k p n x).bind fun t213 => (if (t212 != t213) = true then (some false) else ((addr_Class.f x).bind fun t214 => ((weftref1_Class.f x).bind fun t215 => (some (t214 == t215))))))) (fun k => ?_) (Ev.bind (contains_ev hp0 hp1 hx0 hx1) (Ev.bind (refcontains_ev hp0 hp1) ?_))
  · simp only [weftlaw1_holds.j0]
    rw [if_neg (by decide)]
  · obtain ⟨c, hc⟩ : ∃ c, addr_Class.f x = some c := ⟨_, rfl⟩
    have hc2 := hc
    rw [class_eq hx0 hx1] at hc2
    simp only [bne_self_eq_false, hc, hc2, Option.bind_some, beq_self_eq_true]
    exact Ev.now _
theorem items_l0 (l0 : List S35) (h0 : ∀ x ∈ l0, W35 x) (hlen : l0.length ≤ 9223372036854775000) (j : Nat) : ∀ i : Nat, i + j = l0.length → Ev (fun k => weftlaw1_AddrFormats.l0 k l0 (i : Int)) true := by
  induction j with
  | zero =>
    intro i hi
    refine Ev.step (f := fun _ => some true) (fun k => ?_) (Ev.now _)
    simp only [weftlaw1_AddrFormats.l0]
    rw [if_neg (by omega)]
  | succ j ih =>
    intro i hi
    have hm : rd_T35 l0 (i : Int) ∈ l0 := by
      unfold rd_T35
      rw [Int.toNat_natCast, List.getD_eq_getElem?_getD, List.getElem?_eq_getElem (by omega : i < l0.length)]
      exact List.getElem_mem _
    have hw := h0 _ hm
    generalize hx : rd_T35 l0 (i : Int) = x at hw
    obtain ⟨hwa, ⟨hwp, hwn⟩, b0, b1, b2, b3, b4, b5⟩ := hw
    obtain ⟨ha0, ha1⟩ := u32_of hwa
    obtain ⟨hp0, hp1⟩ := u32_of hwp
    refine Ev.step (f := fun k => (weftlaw1_formats.f k x.f0 x.f1.f0 x.f1.f1 x.f2.f0 x.f2.f1 x.f2.f2 x.f2.f3 x.f2.f4 x.f2.f5).bind fun t218 => (if t218 = true then ((weftlaw1_holds.f k x.f0 x.f1.f0 x.f1.f1 x.f2.f0 x.f2.f1 x.f2.f2 x.f2.f3 x.f2.f4 x.f2.f5).bind fun t220 => (if t220 = true then (weftlaw1_AddrFormats.l0 k l0 ((i + 1 : Nat) : Int)) else (some false))) else (some false))) (fun k => ?_)
      (Ev.bind (formats_ev ha0 ha1 hp0 hp1 (u8_of b0) (u8_of b1) (u8_of b2) (u8_of b3) (u8_of b4) (u8_of b5)) ?_)
    · simp only [weftlaw1_AddrFormats.l0]
      rw [if_pos (by omega), if_pos (by omega), hx, w64 (by omega) (by omega)]
      rfl
    · simp only [if_true]
      refine Ev.bind (holds_ev ha0 ha1 hp0 hp1) ?_
      simp only [if_true]
      exact ih (i + 1) (by omega)
theorem AddrFormats : weftlaw1_AddrFormats.Pure := by
  intro l0 h0
  obtain ⟨_, h02, h03⟩ := h0
  refine Ev.rounds ?_
  unfold weftlaw1_AddrFormats.f
  refine Ev.bind begunF_ev ?_
  simp only [if_true]
  exact items_l0 l0 h03 (by omega) l0.length 0 (by omega)
end Go.Proofs.YtncpcjphljfcpaaDoor.Pure
