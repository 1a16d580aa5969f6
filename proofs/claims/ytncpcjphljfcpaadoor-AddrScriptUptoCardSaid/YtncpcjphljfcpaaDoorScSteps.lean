/- A text read in all ways and an item's texts are the document's: the steps of weftlaw1.AddrScript that answer no list. Conditions: the numbers are of their kinds, the text is of a size that memory has. -/
import Derived.Test.YtncpcjphljfcpaaDoorScTxtB
namespace Go.Proofs.YtncpcjphljfcpaaDoor.Pure
open Go.RowKit Go.Proofs.YtncpcjphljfcpaaDoor.PScr Go.Proofs.YtncpcjphljfcpaaDoor.Txt Go.Proofs.YtncpcjphljfcpaaDoorW.PrintWords Go.Proofs.YtncpcjphljfcpaaDoorW.PrintLast Go.Proofs.YtncpcjphljfcpaaDoorW.PrintMore Go.Proofs.YtncpcjphljfcpaaDoorW.XOpen

theorem begun_eq : weftlaw1_begun.f 20 = some true := by decide +kernel
theorem begun_ev : Ev (fun k => weftlaw1_begun.f k) true := Ev.of (weftlaw1_begun.mono) begun_eq
theorem parses_mac (s : ByteArray) : Ev (fun k => weftlaw1_parses.j1 k s false) true := by
  obtain ⟨r, hr⟩ : ∃ r, addr_ParseMAC.f s = some r := by
    unfold addr_ParseMAC.f
    split
    · exact ⟨_, rfl⟩
    · exact ⟨_, rfl⟩
  have hr2 : weftref1_ParseMAC.f s = some r := hr
  refine Ev.step (f := fun _ => some true) (fun k => ?_) (Ev.now _)
  simp only [weftlaw1_parses.j1]
  rw [if_neg (by decide), hr, Option.bind_some, hr2, Option.bind_some]
  simp
theorem parses_ev (s : ByteArray) (hs : s.size ≤ 1000000000000000000) : Ev (fun k => weftlaw1_parses.f k s) true := by
  obtain ⟨L, hL, rfl⟩ := txt_of s
  rw [txt_size] at hs
  obtain ⟨r, h1, h2, _⟩ := parse_both hL hs
  obtain ⟨p, g1, g2⟩ := pp_both hL hs
  unfold weftlaw1_parses.f
  refine Ev.bind h1 (Ev.bind h2 ?_)
  simp only [if_true, show (r.2 != r.2) = false from by simp]
  refine Ev.step (f := fun k => (addr_ParsePrefix.f k (strOfNums L)).bind fun bt134 => ((weftref1_ParsePrefix.f k (strOfNums L)).bind fun bt138 => (if (!(bt134.1 == bt138.1) || (!(bt134.2.1 == bt138.2.1))) = true then (weftlaw1_parses.j1 k (strOfNums L) true) else (weftlaw1_parses.j1 k (strOfNums L) (bt134.2.2 != bt138.2.2))))) (fun k => ?_) (Ev.bind g1 (Ev.bind g2 ?_))
  · simp only [weftlaw1_parses.j0]
    rw [if_neg (by decide)]
  · simpa using parses_mac (strOfNums L)
theorem u32_of {a : Int} (h : (Lit.int .u32 a).wf = true) : 0 ≤ a ∧ a < 4294967296 := by
  simp [Lit.wf, IntKind.min, IntKind.max, IntKind.bits, IntKind.signed] at h
  omega
theorem u8_of {a : Int} (h : (Lit.int .u8 a).wf = true) : byteIn a := by
  simp [Lit.wf, IntKind.min, IntKind.max, IntKind.bits, IntKind.signed] at h
  unfold byteIn
  omega
theorem formats_ev {x p n b0 b1 b2 b3 b4 b5 : Int} (hx0 : 0 ≤ x) (hx1 : x < 4294967296) (hp0 : 0 ≤ p) (hp1 : p < 4294967296) (h0 : byteIn b0) (h1 : byteIn b1) (h2 : byteIn b2) (h3 : byteIn b3) (h4 : byteIn b4) (h5 : byteIn b5) :
    Ev (fun k => weftlaw1_formats.f k x p n b0 b1 b2 b3 b4 b5) true := by
  unfold weftlaw1_formats.f
  refine Ev.bind (format_ev hx0 hx1) (Ev.bind (refformat_ev hx0 hx1) ?_)
  simp only [if_true]
  refine Ev.bind (pfx_ev (b := n) hp0 hp1) (Ev.bind (refpfx_ev hp0 hp1) ?_)
  simp only [if_true, bne_self_eq_false]
  refine Ev.step (f := fun _ => some true) (fun k => ?_) (Ev.now _)
  simp only [weftlaw1_formats.j0]
  have e : weftref1_FormatMAC.f b0 b1 b2 b3 b4 b5 = addr_FormatMAC.f b0 b1 b2 b3 b4 b5 := rfl
  rw [if_neg (by decide), e, format_mac h0 h1 h2 h3 h4 h5, Option.bind_some, Option.bind_some]
  simp
theorem holds_ev {x p n b0 b1 b2 b3 b4 b5 : Int} (hx0 : 0 ≤ x) (hx1 : x < 4294967296) (hp0 : 0 ≤ p) (hp1 : p < 4294967296) : Ev (fun k => weftlaw1_holds.f k x p n b0 b1 b2 b3 b4 b5) true := by
  unfold weftlaw1_holds.f
  refine Ev.bind (valid_ev (b := n) hp0 hp1) (Ev.bind (refvalid_ev hp0 hp1) ?_)
  simp only [bne_self_eq_false]
  refine Ev.bind (span_ev (b := n) hp0 hp1) (Ev.bind (refspan_ev hp0 hp1) ?_)
  simp only [if_true, bne_self_eq_false]
  refine Ev.step (f := fun k => (addr_Contains.f k p n x).bind fun t212 => ((weftref1_Contains.f k p n x).bind fun t213 => (if (t212 != t213) = true then (some false) else ((addr_Class.f x).bind fun t214 => ((weftref1_Class.f x).bind fun t215 => (some (t214 == t215))))))) (fun k => ?_) (Ev.bind (contains_ev hp0 hp1 hx0 hx1) (Ev.bind (refcontains_ev hp0 hp1) ?_))
  · simp only [weftlaw1_holds.j0]
    rw [if_neg (by decide)]
  · obtain ⟨c, hc⟩ : ∃ c, addr_Class.f x = some c := ⟨_, rfl⟩
    have hc2 := hc
    rw [class_eq hx0 hx1] at hc2
    simp only [bne_self_eq_false, hc, hc2, Option.bind_some, beq_self_eq_true]
    exact Ev.now _
end Go.Proofs.YtncpcjphljfcpaaDoor.Pure
