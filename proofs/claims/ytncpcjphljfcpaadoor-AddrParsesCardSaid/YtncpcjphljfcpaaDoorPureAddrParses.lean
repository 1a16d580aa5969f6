/- Every text is read alike by addr and by the document: as an address, a prefix, a hardware address; the statement weftlaw1.AddrParses. No further condition. -/
import Derived.Test.YtncpcjphljfcpaaDoorStAddrParses
import Derived.Test.YtncpcjphljfcpaaDoorTxtPfx
namespace Go.Proofs.YtncpcjphljfcpaaDoor.Pure
open Go.RowKit Go.Proofs.YtncpcjphljfcpaaDoor.PPar Go.Proofs.YtncpcjphljfcpaaDoor.Txt Go.Proofs.YtncpcjphljfcpaaDoorW.PrintWords Go.Proofs.YtncpcjphljfcpaaDoorW.PrintLast Go.Proofs.YtncpcjphljfcpaaDoorW.PrintMore Go.Proofs.YtncpcjphljfcpaaDoorW.XOpen

theorem begun_eq : weftlaw1_begun.f 20 = some true := by decide +kernel
theorem begun_ev : Ev (fun k => weftlaw1_begun.f k) true := Ev.of (weftlaw1_begun.mono) begun_eq
theorem parses_mac (s : ByteArray) : Ev (fun k => weftlaw1_parses.j1 k s false) true := by
  obtain ⟨r, hr⟩ : ∃ r, addr_ParseMAC.f s = some r := by
    unfold addr_ParseMAC.f
    split
    · exact ⟨_, rfl⟩
    · exact ⟨_, rfl⟩
  have hr2 : weftref1_ParseMAC.f s = some r := hr
  refine Ev.step (f := fun _ => some true) (fun k => ?_) (Ev.now _)
  simp only [weftlaw1_parses.j1]
  rw [if_neg (by decide), hr, Option.bind_some, hr2, Option.bind_some]
  simp
theorem parses_ev (s : ByteArray) (hs : s.size ≤ 1000000000000000000) : Ev (fun k => weftlaw1_parses.f k s) true := by
  obtain ⟨L, hL, rfl⟩ := txt_of s
  rw [txt_size] at hs
  obtain ⟨r, h1, h2, _⟩ := parse_both hL hs
  obtain ⟨p, g1, g2⟩ := pp_both hL hs
  unfold weftlaw1_parses.f
  refine Ev.bind h1 (Ev.bind h2 ?_)
  simp only [if_true, show (r.2 != r.2) = false from by simp]
  refine Ev.step (f := fun k => (addr_ParsePrefix.f k (strOfNums L)).bind fun bt134 => ((weftref1_ParsePrefix.f k (strOfNums L)).bind fun bt138 => (if (!(bt134.1 == bt138.1) || (!(bt134.2.1 == bt138.2.1))) = true then (weftlaw1_parses.j1 k (strOfNums L) true) else (weftlaw1_parses.j1 k (strOfNums L) (bt134.2.2 != bt138.2.2))))) (fun k => ?_) (Ev.bind g1 (Ev.bind g2 ?_))
  · simp only [weftlaw1_parses.j0]
    rw [if_neg (by decide)]
  · simpa using parses_mac (strOfNums L)
theorem texts_l0 (l0 : List ByteArray) (hl : ∀ s ∈ l0, s.size ≤ 140737488351232) (hlen : l0.length ≤ 9223372036854775000) (j : Nat) : ∀ i : Nat, i + j = l0.length → Ev (fun k => weftlaw1_AddrParses.l0 k l0 (i : Int)) true := by
  induction j with
  | zero =>
    intro i hi
    refine Ev.step (f := fun _ => some true) (fun k => ?_) (Ev.now _)
    simp only [weftlaw1_AddrParses.l0]
    rw [if_neg (by omega)]
  | succ j ih =>
    intro i hi
    have hm : rdOf ByteArray.empty l0 (i : Int) ∈ l0 := by
      unfold rdOf
      rw [Int.toNat_natCast, List.getD_eq_getElem?_getD, List.getElem?_eq_getElem (by omega : i < l0.length)]
      exact List.getElem_mem _
    have hs := hl _ hm
    refine Ev.step (f := fun k => (weftlaw1_parses.f k (rdOf ByteArray.empty l0 (i : Int))).bind fun t160 => (if t160 = true then (weftlaw1_AddrParses.l0 k l0 ((i + 1 : Nat) : Int)) else (some false))) (fun k => ?_) (Ev.bind (parses_ev _ (by omega)) ?_)
    · simp only [weftlaw1_AddrParses.l0]
      rw [if_pos (by omega), if_pos (by omega), w64 (by omega) (by omega)]
      rfl
    · simp only [if_true]
      exact ih (i + 1) (by omega)
theorem AddrParses : weftlaw1_AddrParses.Pure := by
  intro l0 h0
  obtain ⟨_, h02, h03⟩ := h0
  refine Ev.rounds ?_
  unfold weftlaw1_AddrParses.f
  refine Ev.bind begun_ev ?_
  simp only [if_true]
  exact texts_l0 l0 h03 (by omega) l0.length 0 (by omega)
end Go.Proofs.YtncpcjphljfcpaaDoor.Pure
