/- A new key of a map, laid in two steps (the entry, then its value); the maps of package ipam behind a store and behind a delete. Small lemmas; no condition. -/
import Derived.Test.YtgabkifojnkbkaaIpmW1
set_option linter.unusedVariables false
set_option linter.unusedSimpArgs false
namespace Go.Proofs.Ytgabkifojnkbkaa.Ip
open Go.RowKit Go.Maps Go.WideMaps Go.MapKept Go.WideShapes Go.Proofs.YtgabkifojnkbkaaW.PrintWords Go.Proofs.Ytgabkifojnkbkaa.PIpf
open Go.WideElems (Fit rd rg pl rd_val rd_key rg_of elemAt)
open Go.ChangeMaps (setBlock)

theorem owns_step {P : Program} {k : TypeId} {R : Value → Option (DataW Unit × List MemPlace)} {w w1 : World} {b n : Nat} {D : DataW Unit} (h : w.ownsMap P k R b n D) (hb : w1.heap[b]? = w.heap[b]?) : w1.ownsMap P k R b n D := by
  obtain ⟨es, clock, hh, r⟩ := h
  exact ⟨es, clock, hb.trans hh, r⟩
theorem set_at {w : World} {b : Nat} {o o' : Obj} (h : w.heap[b]? = some o) : (setBlock w b o').heap[b]? = some o' := by
  have := (Array.getElem?_eq_some_iff.1 h).1
  simp [setBlock, Array.getElem?_setIfInBounds, this]
theorem set_other {w : World} {b c : Nat} (o : Obj) (h : c ≠ b) : (setBlock w b o).heap[c]? = w.heap[c]? := by
  simp [setBlock, Array.getElem?_setIfInBounds, Ne.symm h]
theorem modify_push {α : Type} (f : α → α) (a : α) (es : Array α) : (es.push a).modify es.size f = es.push (f a) := by
  apply Array.ext
  · simp
  · intro i h1 h2
    simp only [Array.getElem_modify, Array.getElem_push]
    by_cases hi : i < es.size
    · simp [hi, Nat.ne_of_gt hi]
    · have : i = es.size := by simp at h2; omega
      subst this; simp
theorem entry_new {P : Program} {k t e : TypeId} {R : Value → Option (DataW Unit × List MemPlace)} {w : World} {b n : Nat} {D : DataW Unit} (K : Keyed P k) (ht : P.underlying t = some (.map k e)) {z : Value} (hz : ∀ u : World, (zeroValue e).run P u = .ok z u)
    (h : w.ownsMap P k R b n D) (hn : n < maxLen) {key : Value} {kl : Lit} (hkey : keyOf P k key = some kl) (hno : Maps.has D kl = false) :
    ∃ (es1 : Array MapEntry) (c1 st : Nat), (Instr.mapEntry t (.map (some b)) key).run P w = .ok (.tuple #[z, goInt st]) (setBlock w b (.map es1 c1)) ∧
      ∀ (w2 : World) (val : Value) (d : DataW Unit) (ps : List MemPlace), R val = some (d, ps) → w2.heap[b]? = some (.map es1 c1) →
        ∃ (es2 : Array MapEntry) (c2 : Nat), (Instr.entryStore t (.map (some b)) (goInt st) val).run P w2 = .ok () (setBlock w2 b (.map es2 c2)) ∧
          ∀ w3 : World, w3.heap[b]? = some (.map es2 c2) → w3.ownsMap P k R b (n + 1) (D.put kl d) := by
  have h0 := h
  obtain ⟨es, clock, hb, F, hs, rfl⟩ := h
  obtain ⟨s1, s2, _⟩ := F.stamped
  rcases K.find w hkey es.toList F.keys with ⟨h1, h2⟩ | ⟨j, e0, h1, h2, h3⟩
  · refine ⟨es.push ⟨key, z, clock⟩, clock + 1, clock, ?_, fun w2 val d ps hv hw2 => ⟨es.push ⟨key, val, clock⟩, clock + 1, ?_, fun w3 hw3 => ?_⟩⟩
    · simp [Instr.mapEntry, run_underlying ht, MapKept.run_getObj_map hb, K.check w false hkey, h1, hz, MapKept.run_setObj_map _ hb, Result.andThen, setBlock]
    · have hidx : (es.push ⟨key, z, clock⟩).findIdx? (fun e => ((e.born : Nat) : Int) == ((clock : Nat) : Int)) = some es.size := by
        rw [Array.findIdx?_push, Array.findIdx?_eq_none_iff.2 (fun x hx => by
          have := s1 x (by simpa using hx)
          simp; omega)]
        simp
      simp [Instr.entryStore, MapKept.run_getObj_map hw2, asInt, asIntOf, goInt, hidx, modify_push, MapKept.run_setObj_map _ hw2, Result.andThen, setBlock]
    · obtain ⟨w', hrun, r1, _⟩ := h0.store K ht hn hkey hv
      have hrun2 : (Instr.mapUpdate t (.map (some b)) key val).run P w = .ok () (setBlock w b (.map (es.push ⟨key, val, clock⟩) (clock + 1))) := by
        simp [Instr.mapUpdate, run_underlying ht, MapKept.run_getObj_map hb, K.check w false hkey, h1, MapKept.run_setObj_map _ hb, Result.andThen, setBlock]
      rw [hrun2] at hrun
      injection hrun with _ hw
      subst hw
      exact owns_step r1 (hw3.trans (set_at hb).symm)
  · exfalso
    have hm : e0 ∈ es.toList := List.mem_of_getElem? h2
    obtain ⟨y, hy⟩ := F.reads e0 hm
    have hk := rd_key hy
    rw [h3, hkey] at hk
    have hy1 : y.1 = kl := (Option.some.inj hk).symm
    have hin : y ∈ (es.toList.map (rg P k R)).foldr DataW.insert [] := (sorted_perm _).mem_iff.2 (List.mem_map.2 ⟨e0, hm, rg_of hy⟩)
    have : Maps.has (.map ((es.toList.map (rg P k R)).foldr DataW.insert [])) kl = true := List.any_eq_true.2 ⟨y, hin, by rw [hy1]; exact WideAt.sameKey_self (K.key hkey)⟩
    rw [hno] at this; cases this
def putN (f : ByteArray → Option Int) (s : ByteArray) (a : Int) : ByteArray → Option Int := fun x => if x = s then some a else f x
def delN (f : ByteArray → Option Int) (s : ByteArray) : ByteArray → Option Int := fun x => if x = s then none else f x
def putA (f : Int → Option Int) (s : Int) (a : Int) : Int → Option Int := fun x => if x = s then some a else f x
def delA (f : Int → Option Int) (s : Int) : Int → Option Int := fun x => if x = s then none else f x
theorem bytes_ne {s x : ByteArray} (h : x ≠ s) : (Lit.string x.data.toList) ≠ Lit.string s.data.toList := by
  intro e
  injection e with e
  apply h
  cases x; cases s
  simp at e
  subst e; rfl
theorem tidy_isMap {D : DataW Unit} (h : Tidy D) : IsMap D := h.isMap
theorem NM.entry {w : World} {b n : Nat} {f : ByteArray → Option Int} (h : NM w b f n) (hn : n < maxLen) {s : ByteArray} (hs : s.size ≤ maxLen) (hf : f s = none) :
    ∃ (es1 : Array MapEntry) (c1 st : Nat), (Instr.mapEntry 73 (.map (some b)) (.string s)).run Try.prog w = .ok (.tuple #[.int .u32 0, .int .i64 (st : Int)]) (setBlock w b (.map es1 c1)) ∧
      ∀ (w2 : World) (a : Int), 0 ≤ a → a < 4294967296 → w2.heap[b]? = some (.map es1 c1) →
        ∃ (es2 : Array MapEntry) (c2 : Nat), (Instr.entryStore 73 (.map (some b)) (.int .i64 (st : Int)) (.int .u32 a)).run Try.prog w2 = .ok () (setBlock w2 b (.map es2 c2)) ∧
          ∀ w3 : World, w3.heap[b]? = some (.map es2 c2) → NM w3 b (putN f s a) (n + 1) := by
  obtain ⟨D, hown, hsz, hD⟩ := h
  have hkey := keyOf_string_mk Try.underlying9 hs
  have hno := (hD s hs).1 hf
  obtain ⟨es1, c1, st, h1, h2⟩ := entry_new lawS Try.underlying73 zero23 hown hn hkey hno
  refine ⟨es1, c1, st, h1, fun w2 a ha0 ha1 hw2 => ?_⟩
  obtain ⟨es2, c2, h3, h4⟩ := h2 w2 (.int .u32 a) _ _ (plainElem_int Try.underlying23 (wf32 ha0 ha1)) hw2
  refine ⟨es2, c2, h3, fun w3 hw3 => ⟨_, h4 w3 hw3, ?_, fun x hx => ?_⟩⟩
  · rw [size_put (hown.tidy lawS), hno]; simp [hsz]
  · unfold putN
    by_cases e : x = s
    · subst e
      rw [if_pos rfl]
      refine ⟨fun h => (by cases h), fun a' ha' => ?_⟩
      obtain rfl := Option.some.inj ha'
      exact ⟨has_put_same hown.isMap (lawS.key hkey) _, fun z => atKey_put_same hown.isMap (lawS.key hkey) _ _⟩
    · rw [if_neg e, has_put_other (bytes_ne e)]
      refine ⟨(hD x hx).1, fun a' ha' => ⟨((hD x hx).2 a' ha').1, fun z => ?_⟩⟩
      rw [atKey_put_other (bytes_ne e)]
      exact ((hD x hx).2 a' ha').2 z
theorem AM.entry {w : World} {b n : Nat} {f : Int → Option Int} (h : AM w b f n) (hn : n < maxLen) {s : Int} (hs0 : 0 ≤ s) (hs1 : s < 4294967296) (hf : f s = none) :
    ∃ (es1 : Array MapEntry) (c1 st : Nat), (Instr.mapEntry 74 (.map (some b)) (.int .u32 s)).run Try.prog w = .ok (.tuple #[.int .i64 0, .int .i64 (st : Int)]) (setBlock w b (.map es1 c1)) ∧
      ∀ (w2 : World) (a : Int), (Lit.int .i64 a).wf = true → w2.heap[b]? = some (.map es1 c1) →
        ∃ (es2 : Array MapEntry) (c2 : Nat), (Instr.entryStore 74 (.map (some b)) (.int .i64 (st : Int)) (.int .i64 a)).run Try.prog w2 = .ok () (setBlock w2 b (.map es2 c2)) ∧
          ∀ w3 : World, w3.heap[b]? = some (.map es2 c2) → AM w3 b (putA f s a) (n + 1) := by
  obtain ⟨D, hown, hsz, hD⟩ := h
  have hkey := keyOf_int_mk Try.underlying23 (wf32 hs0 hs1)
  have hno := (hD s (wf32 hs0 hs1)).1 hf
  obtain ⟨es1, c1, st, h1, h2⟩ := entry_new lawA Try.underlying74 zero3 hown hn hkey hno
  refine ⟨es1, c1, st, h1, fun w2 a ha hw2 => ?_⟩
  obtain ⟨es2, c2, h3, h4⟩ := h2 w2 (.int .i64 a) _ _ (plainElem_int Try.underlying3 ha) hw2
  refine ⟨es2, c2, h3, fun w3 hw3 => ⟨_, h4 w3 hw3, ?_, fun x hx => ?_⟩⟩
  · rw [size_put (hown.tidy lawA), hno]; simp [hsz]
  · unfold putA
    by_cases e : x = s
    · subst e
      rw [if_pos rfl]
      refine ⟨fun h => (by cases h), fun a' ha' => ?_⟩
      obtain rfl := Option.some.inj ha'
      exact ⟨has_put_same hown.isMap (lawA.key hkey) _, fun z => atKey_put_same hown.isMap (lawA.key hkey) _ _⟩
    · have ne : Lit.int .u32 x ≠ Lit.int .u32 s := fun h => e (by injection h)
      rw [if_neg e, has_put_other ne]
      refine ⟨(hD x hx).1, fun a' ha' => ⟨((hD x hx).2 a' ha').1, fun z => ?_⟩⟩
      rw [atKey_put_other ne]
      exact ((hD x hx).2 a' ha').2 z
end Go.Proofs.Ytgabkifojnkbkaa.Ip
