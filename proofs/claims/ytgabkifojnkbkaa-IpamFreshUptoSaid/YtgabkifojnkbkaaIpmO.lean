/- The insertion sort sorts; slices.Sorted of a map's keys, up to 12 of them. -/
import Derived.Test.YtgabkifojnkbkaaIpmZ
set_option linter.unusedVariables false
set_option linter.unusedSimpArgs false
namespace Go.Proofs.Ytgabkifojnkbkaa.Ip
open Go.RowKit Go.Maps Go.Sort Go.Shelf Go.WideMaps Go.MapKept Go.Proofs.YtgabkifojnkbkaaW.PrintWords Go.Proofs.Ytgabkifojnkbkaa.PIpf
theorem atA_swA (l : List Int) (j i : Nat) (hj : j + 1 < l.length) : atA (swA l j) i = if i = j then atA l (j + 1) else if i = j + 1 then atA l j else atA l i := by
  have e : atA (swA l j) i = ((swA l j)[i]?).getD 0 := List.getD_eq_getElem?_getD ..
  rw [e, swA, List.getElem?_set, List.getElem?_set, List.length_set]
  have e2 : atA l i = (l[i]?).getD 0 := List.getD_eq_getElem?_getD ..
  by_cases h1 : i = j
  · subst h1; simp [show i < l.length from by omega]
  · by_cases h2 : i = j + 1
    · subst h2; simp [hj]
    · rw [if_neg (Ne.symm h1), if_neg (Ne.symm h2), if_neg h1, if_neg h2, e2]
theorem swA_perm (l : List Int) (j : Nat) (hj : j + 1 < l.length) : (swA l j).Perm l := by
  have h := @List.set_set_perm _ l (j + 1) j hj (by omega)
  have e1 : atA l j = l[j] := by simp [atA, List.getD_eq_getElem?_getD, List.getElem?_eq_getElem (show j < l.length from by omega)]
  have e2 : atA l (j + 1) = l[j + 1] := by simp [atA, List.getD_eq_getElem?_getD, List.getElem?_eq_getElem hj]
  rw [swA, e1, e2]
  exact h
theorem bubA_perm : ∀ (j : Nat) (l : List Int), j < l.length → (bubA j l).Perm l
  | 0, l, _ => List.Perm.refl _
  | j + 1, l, h => by
    rw [bubA]
    split
    · exact (bubA_perm j _ (by rw [swA_length]; omega)).trans (swA_perm l j h)
    · exact List.Perm.refl _
theorem runA_perm (l : List Int) : ∀ k, k < l.length → (runA l k).Perm l
  | 0, _ => List.Perm.refl _
  | k + 1, h => (bubA_perm (k + 1) _ (by rw [runA_length]; exact h)).trans (runA_perm l k (by omega))
def SortTo (l : List Int) (k : Nat) : Prop := ∀ i i', i < i' → i' ≤ k → atA l i ≤ atA l i'
theorem bubA_sort (k : Nat) : ∀ (j : Nat) (l : List Int), k < l.length → j ≤ k → (∀ i i', i < i' → i' ≤ k → i' ≠ j → atA l i ≤ atA l i') → SortTo (bubA j l) k
  | 0, l, _, _, h => fun i i' h1 h2 => h i i' h1 h2 (by omega)
  | j + 1, l, hk, hj, h => by
    rw [bubA]
    split
    · rename_i hlt
      refine bubA_sort k j _ (by rw [swA_length]; exact hk) (by omega) fun i i' h1 h2 h3 => ?_
      rw [atA_swA l j i (by omega), atA_swA l j i' (by omega), if_neg h3]
      by_cases e1 : i' = j + 1
      · subst e1
        rw [if_pos rfl, if_neg (show i ≠ j + 1 from by omega)]
        by_cases e2 : i = j
        · rw [if_pos e2]; exact Int.le_of_lt hlt
        · rw [if_neg e2]; exact h i j (by omega) (by omega) (by omega)
      · rw [if_neg e1]
        by_cases e2 : i = j
        · subst e2; rw [if_pos rfl]; exact h (i + 1) i' (by omega) h2 e1
        · rw [if_neg e2]
          by_cases e3 : i = j + 1
          · subst e3; rw [if_pos rfl]; exact h j i' (by omega) h2 e1
          · rw [if_neg e3]; exact h i i' h1 h2 e1
    · rename_i hlt
      intro i i' h1 h2
      by_cases e1 : i' = j + 1
      · subst e1
        by_cases e2 : i = j
        · subst e2; omega
        · exact Int.le_trans (h i j (by omega) (by omega) (by omega)) (by omega)
      · exact h i i' h1 h2 e1
theorem runA_sort (l : List Int) : ∀ k, k < l.length → SortTo (runA l k) k
  | 0, _ => fun i i' h1 h2 => by omega
  | k + 1, h => bubA_sort (k + 1) (k + 1) _ (by rw [runA_length]; exact h) (Nat.le_refl _) fun i i' h1 h2 h3 => runA_sort l k (by omega) i i' h1 (by omega)
theorem insA_perm (l : List Int) : (insA l).Perm l := by
  cases l with
  | nil => exact List.Perm.refl _
  | cons a r => exact runA_perm _ _ (by simp)
/-- these are the keys of f, in order -/
def KeysIn (f : Int → Option Int) (l : List Int) : Prop := l.Pairwise (· < ·) ∧ ∀ x, x ∈ l ↔ (0 ≤ x ∧ x < 4294967296 ∧ f x ≠ none)
def KeysOn (f : Int → Option Int) (l : List Int) : Prop := l.Nodup ∧ ∀ x, x ∈ l ↔ (0 ≤ x ∧ x < 4294967296 ∧ f x ≠ none)
theorem insA_keys {f : Int → Option Int} {l : List Int} (h : KeysOn f l) : KeysIn f (insA l) := by
  have hp := insA_perm l
  have hl : (insA l).length = l.length := hp.length_eq
  refine ⟨?_, fun x => by rw [hp.mem_iff]; exact h.2 x⟩
  have hnd : (insA l).Nodup := hp.nodup_iff.2 h.1
  rw [List.pairwise_iff_getElem]
  intro i j hi hj hij
  have hs := runA_sort l (l.length - 1) (by omega) i j hij (by omega)
  have e : ∀ (k : Nat) (hk : k < (insA l).length), atA (runA l (l.length - 1)) k = (insA l)[k] := by
    intro k hk
    show (insA l).getD k 0 = _
    simp [List.getD_eq_getElem?_getD, List.getElem?_eq_getElem hk]
  rw [e i hi, e j hj] at hs
  have hne : (insA l)[i] ≠ (insA l)[j] := fun e => by
    exact List.pairwise_iff_getElem.1 hnd i j hi hj hij e
  omega
theorem am_keysOn {w : World} {b n : Nat} {f : Int → Option Int} {D : DataW Unit} {l : List Int} (h2 : ∀ a : Int, (Lit.int .u32 a).wf = true → (f a = none → Maps.has D (.int .u32 a) = false) ∧ (∀ t, f a = some t → Maps.has D (.int .u32 a) = true ∧ ∀ z, D.atKey (.int .u32 a) z = .lit (.int .i64 t))) (hK : KeysOf D l) : KeysOn f l := by
  refine ⟨hK.1, fun x => ?_⟩
  rw [hK.2 x]
  have hw : (Lit.int .u32 x).wf = true ↔ (0 ≤ x ∧ x < 4294967296) := by
    have e1 : IntKind.u32.min = 0 := by decide
    have e2 : IntKind.u32.max = 4294967295 := by decide
    simp [Lit.wf, e1, e2]; omega
  constructor
  · rintro ⟨h3, h4⟩
    refine ⟨(hw.1 h3).1, (hw.1 h3).2, fun e => ?_⟩
    rw [(h2 x h3).1 e] at h4; cases h4
  · rintro ⟨h3, h4, h5⟩
    have h6 := hw.2 ⟨h3, h4⟩
    refine ⟨h6, ?_⟩
    cases e : f x with
    | none => exact absurd e h5
    | some t => exact ((h2 x h6).2 t e).1
theorem keys51 (w : World) (b : Nat) : Calls Try.prog 51 #[.map (some b)] w fun e w' => e = .returned (.func (.func 60) #[] #[.pointer (some ⟨w.heap.size, 0, none⟩)]) ∧ w' = w.alloc (.cells #[.map (some b)] 74) :=
  callsIn_wide.1 (it_keys_in Fence.wide 8 trivial rfl (some b) w)
theorem collect58 (w : World) (b Bm cnt : Nat) (f : Int → Option Int) (hA : AM w b f cnt) (hBm : Bm < w.heap.size) (hc : w.cell? ⟨Bm, 0, none⟩ = some (.map (some b))) (hcnt : cnt ≤ 1024) :
    Calls Try.prog 58 #[.func (.func 60) #[] #[.pointer (some ⟨Bm, 0, none⟩)]] w fun e w' => ∃ v l, e = .returned v ∧ KeysOn f l ∧ l.length ≤ cnt ∧ w'.ownsRow w.heap.size 23 1 v l.length (l.map encA) ∧ Below w.heap.size w w' := by
  obtain ⟨D, hown, hsz, h2⟩ := hA
  have hseq := it_keys_gives Fence.wide 6 trivial rfl (by omega) Bm b cnt D w hBm hc hown
  rw [hsz] at hseq
  have hcs := it_collect_in Fence.wide 8 trivial trivial rfl (by omega) 60 #[.pointer (some ⟨Bm, 0, none⟩)] trivial (enters_of Try.func60 (by kernel_rfl) rfl) _ cnt (by unfold maxLen; omega) (by omega) w hseq.bounded
  refine (callsIn_wide.1 hcs).mono ?_
  rintro e w' ⟨v, l, rfl, ⟨hK, hlen⟩, hrow, hnil, hb⟩
  exact ⟨v, l, rfl, am_keysOn (w := w) (b := b) (n := cnt) h2 hK, hlen, hrow, hb⟩
set_option maxHeartbeats 4000000 in
set_option maxRecDepth 100000 in
theorem sorted50 (w : World) (b Bm cnt : Nat) (f : Int → Option Int) (hA : AM w b f cnt) (hBm : Bm < w.heap.size) (hc : w.cell? ⟨Bm, 0, none⟩ = some (.map (some b))) (hcnt : cnt ≤ 12) :
    Calls Try.prog 50 #[.func (.func 60) #[] #[.pointer (some ⟨Bm, 0, none⟩)]] w fun e w' => ∃ v l, e = .returned v ∧ KeysIn f l ∧ l.length ≤ cnt ∧ w'.ownsRow w.heap.size 23 1 v l.length (l.map encA) ∧ Below w.heap.size w w' := by
  have hcol := Aside0.mk (collect58 w b Bm cnt f hA hBm hc (by omega))
  have hsort := Aside0.mk (fun (w1 : World) (v : Value) (l : List Int) (hlen : l.length ≤ cnt) (hrow : w1.ownsRow w.heap.size 23 1 v l.length (l.map encA)) (hb : Below w.heap.size w w1) =>
    (show Calls Try.prog 59 #[v] w1 fun e w' => e = .returned (.tuple #[]) ∧ w'.ownsRow w.heap.size 23 1 v (insA l).length ((insA l).map encA) ∧ Below w.heap.size w1 w' from by
      rw [(insA_perm l).length_eq]
      rcases hrow.2 with ⟨rfl, hz⟩ | ⟨g, cap, cur, rfl, hbase, hgb, r1, r2, r3, r4⟩
      · have hss : l = [] := List.eq_nil_of_length_eq_zero hz
        subst hss
        refine (sort59_nil w1).mono ?_
        rintro e w' ⟨rfl, rfl⟩
        exact ⟨rfl, hrow, Below.refl _ _⟩
      · exact sort59 w1 w.heap.size g l.length cap l rfl (by omega) hrow hb.size))
  go_enter Try.func50, Try.ntmps50
  go_wp2_with (first | (go_at_call 58; refine hcol.out.mono ?_; rintro e_ w1 ⟨v, l, rfl, hK, hlen, hrow, hb⟩) | (go_at_call 59; refine (hsort.out _ _ _ hlen hrow hb).mono ?_; rintro e_ w2 ⟨rfl, hO, hB2⟩) | go_in)
  go_ret
  exact ⟨_, insA l, rfl, insA_keys hK, by rw [(insA_perm l).length_eq]; exact hlen, hO, hb.trans hB2⟩
end Go.Proofs.Ytgabkifojnkbkaa.Ip
