/- The document's own readers of addresses and prefixes over texts: they read just what addr reads. -/
import Derived.Test.YtncpcjphljfcpaaDoorTxtMac
namespace Go.Proofs.YtncpcjphljfcpaaDoor.Txt
open Go.RowKit Go.Proofs.YtncpcjphljfcpaaDoor.PPar Go.Proofs.YtncpcjphljfcpaaDoorW.PrintWords Go.Proofs.YtncpcjphljfcpaaDoorW.PrintLast Go.Proofs.YtncpcjphljfcpaaDoorW.PrintMore

theorem Ev.uniq {α : Type} {g : Nat → Option α} {a b : α} (ha : Ev g a) (hb : Ev g b) : a = b := by
  obtain ⟨K, ha⟩ := ha
  obtain ⟨K', hb⟩ := hb
  have h1 := ha (max K K') (by omega)
  have h2 := hb (max K K') (by omega)
  rw [h1] at h2
  exact Option.some.inj h2
theorem itoa_all : ∀ n : Nat, n < 256 → strconv_Itoa.f (n : Int) = some (strOfNums (dg n)) := by decide +kernel
theorem dg_inj : ∀ m : Nat, m < 256 → ∀ n : Nat, n < 256 → dg m = dg n → m = n := by decide +kernel
theorem txt_eq_iff {a b : List Int} (ha : By a) (hb : By b) : (strOfNums a).toList = (strOfNums b).toList ↔ a = b := by
  constructor
  · intro h
    refine txt_inj ha hb ?_
    rw [Go.Lib.strOfNums_toList, Go.Lib.strOfNums_toList] at h
    apply ByteArray.ext
    apply Array.toList_inj.mp
    exact h
  · rintro rfl; rfl
/-- the loop over all numbers -/
theorem refnum_l0 {T : List Int} (hT : By T) {most : Nat} (hm : most ≤ 255) (m : Nat) (hmm : m ≤ most + 1) (hat : m ≤ most → T = dg m) (j : Nat) : ∀ i : Nat, i + j = m → (∀ n, n < m → T ≠ dg n) →
    Ev (fun k => weftref1_number.l0 k (strOfNums T) most (i : Int)) (if m ≤ most then (m : Int) else -1) := by
  induction j with
  | zero =>
    intro i hi hne
    obtain rfl : i = m := by omega
    by_cases h : i ≤ most
    · rw [if_pos h]
      refine Ev.step (f := fun _ => some (i : Int)) (fun k => ?_) (Ev.now _)
      simp only [weftref1_number.l0]
      rw [if_pos (by omega), itoa_all i (by omega), Option.bind_some, if_pos (by rw [hat h])]
    · rw [if_neg h]
      refine Ev.step (f := fun _ => some (-1)) (fun k => ?_) (Ev.now _)
      simp only [weftref1_number.l0]
      rw [if_neg (by omega)]
  | succ j ih =>
    intro i hi hne
    refine Ev.step (fun k => ?_) (ih (i + 1) (by omega) hne)
    simp only [weftref1_number.l0]
    rw [if_pos (by omega), itoa_all i (by omega), Option.bind_some, if_neg, w64 (by omega) (by omega)]
    · simp
    · rw [txt_eq_iff (by_dg i (by omega)) hT]
      exact fun e => hne i (by omega) e.symm
theorem refnum_go {T : List Int} {most : Int} {r : Int} (h1 : 1 ≤ T.length) (h3 : T.length ≤ 3) (h : Ev (fun k => weftref1_number.l0 k (strOfNums T) most 0) r) : Ev (fun k => weftref1_number.f k (strOfNums T) most) r := by
  refine Ev.congr (f := fun k => weftref1_number.j0 k (strOfNums T) most false) (fun k => ?_) (Ev.step (fun k => ?_) h)
  · unfold weftref1_number.f
    rw [if_neg (by rw [txt_size]; omega), decide_eq_false (by rw [txt_size]; omega)]
  · simp only [weftref1_number.j0]
    rw [if_neg (by decide)]
theorem refnum_yes {m most : Nat} (hm : m ≤ most) (hmost : most ≤ 255) : Ev (fun k => weftref1_number.f k (strOfNums (dg m)) (most : Int)) (m : Int) := by
  have hl := dg_len m
  have := refnum_l0 (by_dg m (by omega)) hmost m (by omega) (fun _ => rfl) m 0 (by omega) (fun n hn e => by have := dg_inj m (by omega) n (by omega) e; omega)
  rw [if_pos hm] at this
  exact refnum_go hl.1 hl.2 this
theorem refnum_no {T : List Int} (hT : By T) {most : Nat} (hmost : most ≤ 255) (h : ∀ n, n ≤ most → T ≠ dg n) : Ev (fun k => weftref1_number.f k (strOfNums T) (most : Int)) (-1) := by
  by_cases hl : 1 ≤ T.length ∧ T.length ≤ 3
  · have := refnum_l0 hT hmost (most + 1) (by omega) (fun h => by omega) (most + 1) 0 (by omega) (fun n hn => h n (by omega))
    rw [if_neg (by omega)] at this
    exact refnum_go hl.1 hl.2 this
  · refine Ev.congr (f := fun k => weftref1_number.j0 k (strOfNums T) most true) (fun k => ?_) (Ev.step (f := fun _ => some (-1)) (fun k => ?_) (Ev.now _))
    · unfold weftref1_number.f
      by_cases h0 : T.length = 0
      · rw [if_pos (by rw [txt_size]; omega)]
      · rw [if_neg (by rw [txt_size]; omega), decide_eq_true (by rw [txt_size]; omega)]
    · simp only [weftref1_number.j0]
      rw [if_pos trivial]

/-- A text up to its first c. -/
theorem till_c (c : Int) (L : List Int) : ∃ D R, L = D ++ R ∧ (∀ x ∈ D, x ≠ c) ∧ (R = [] ∨ ∃ Q, R = c :: Q) := by
  induction L with
  | nil => exact ⟨[], [], rfl, (by intro x hx; cases hx), .inl rfl⟩
  | cons x L ih =>
    by_cases h : x = c
    · exact ⟨[], x :: L, rfl, (by intro x hx; cases hx), .inr ⟨L, by rw [h]⟩⟩
    · obtain ⟨D, R, h1, h2, h3⟩ := ih
      refine ⟨x :: D, R, by rw [h1]; rfl, ?_, h3⟩
      intro y hy
      rcases List.mem_cons.mp hy with e | e
      · rw [e]; exact h
      · exact h2 y e
theorem split_uniq {c : Int} : ∀ {D E Q S : List Int}, (∀ x ∈ D, x ≠ c) → (∀ x ∈ E, x ≠ c) → D ++ c :: Q = E ++ c :: S → D = E ∧ Q = S := by
  intro D
  induction D with
  | nil =>
    intro E Q S _ hE h
    cases E with
    | nil => simp at h; exact ⟨rfl, h⟩
    | cons y E =>
      simp at h
      exact absurd h.1.symm (hE y List.mem_cons_self)
  | cons x D ih =>
    intro E Q S hD hE h
    cases E with
    | nil =>
      simp at h
      exact absurd h.1 (hD x List.mem_cons_self)
    | cons y E =>
      simp at h
      obtain ⟨h1, h2⟩ := ih (fun z hz => hD z (List.mem_cons_of_mem _ hz)) (fun z hz => hE z (List.mem_cons_of_mem _ hz)) h.2
      exact ⟨by rw [h.1, h1], h2⟩
theorem dg_no {c : Int} (hc : ¬ isDg c) (n : Nat) (hn : n < 1000) : ∀ x ∈ dg n, x ≠ c := fun x hx e => hc (e ▸ dg_dg n hn x hx)
theorem until_go {L : List Int} {c : Int} (hL : By L) (hlen : L.length ≤ 1000000000000000000) (j : Nat) : ∀ (C D R : List Int), L = C ++ (D ++ R) → D.length = j → (∀ x ∈ D, x ≠ c) → (R = [] ∨ ∃ Q, R = c :: Q) →
    Ev (fun k => weftref1_until.f k (strOfNums L) (C.length : Nat) c) (((C ++ D).length : Nat) : Int) := by
  unfold weftref1_until.f
  induction j with
  | zero =>
    intro C D R hLe hD hne hR
    obtain rfl : D = [] := List.length_eq_zero_iff.mp hD
    rw [List.append_nil]
    refine Ev.step (f := fun _ => some ((C.length : Nat) : Int)) (fun k => ?_) (Ev.now _)
    simp only [weftref1_until.l0]
    rcases hR with rfl | ⟨Q, rfl⟩
    · rw [if_neg (by rw [txt_size, hLe]; simp)]
    · have hb : By (C ++ (c :: Q)) := by rw [List.nil_append] at hLe; rw [← hLe]; exact hL
      have hat := bt_app hb rfl
      rw [List.nil_append] at hLe
      rw [← hLe] at hat
      rw [if_pos (by rw [txt_size, hLe]; simp; omega), if_pos (by omega), hat, if_pos rfl]
  | succ j ih =>
    intro C D R hLe hD hne hR
    obtain ⟨x, D, rfl⟩ : ∃ x d, D = x :: d := by
      cases D with
      | nil => simp at hD
      | cons x d => exact ⟨x, d, rfl⟩
    have hc : C.length + D.length + 1 ≤ L.length := by rw [hLe]; simp; omega
    have hx : x ≠ c := hne x List.mem_cons_self
    have hat : bt (strOfNums L) (C.length : Int) = x := by
      have hb : By (C ++ ((x :: D) ++ R)) := by rw [← hLe]; exact hL
      have := bt_app hb rfl
      rw [← hLe] at this
      exact this
    have := ih (C ++ [x]) D R (by rw [hLe]; simp) (by simpa using hD) (fun y hy => hne y (List.mem_cons_of_mem _ hy)) hR
    rw [List.append_assoc, List.singleton_append] at this
    refine Ev.step (fun k => ?_) this
    simp only [weftref1_until.l0]
    rw [if_pos (by rw [txt_size]; omega), if_pos (by omega), hat, if_neg hx, w64 (by omega) (by omega)]
    simp
theorem quad_cons (d e : Nat) (ds : List Nat) : quad d (e :: ds) = dg d ++ 46 :: quad e ds := rfl
theorem val_lt (ds : List Nat) : ∀ (a : Int) (i : Nat), sm ds → 0 ≤ a → a < 256 ^ i → 0 ≤ val a ds ∧ val a ds < 256 ^ (i + ds.length) := by
  induction ds with
  | nil => intro a i _ h0 h1; exact ⟨h0, h1⟩
  | cons d ds ih =>
    intro a i hs h0 h1
    obtain ⟨h2, h3⟩ := sm_tail hs
    have := ih (a * 256 + d) (i + 1) h3 (by omega) (by rw [Int.pow_succ]; omega)
    rw [List.length_cons, show i + (ds.length + 1) = i + 1 + ds.length from by omega]
    exact this

theorem cut_mid (C D R : List Int) : (strOfNums (C ++ (D ++ R))).extract ((C.length : Nat) : Int).toNat (((C ++ D).length : Nat) : Int).toNat = strOfNums D := by
  rw [Int.toNat_natCast, Int.toNat_natCast, txt_cut, ← List.append_assoc, List.take_left, List.drop_left]
/-- What the document's Parse makes of what is left. -/
theorem refparse_rest {L : List Int} (hL : By L) (hlen : L.length ≤ 1000000000000000000) (j : Nat) : ∀ (i : Int) (C S : List Int) (a : Int), L = C ++ S → 0 ≤ i → i + (j + 1) = 4 → 0 ≤ a → a < 256 ^ i.toNat →
    ∃ r, Ev (fun k => weftref1_Parse.l0 k (strOfNums L) a (C.length : Nat) i) r ∧
      ((r = (0, 10) ∧ ∀ (d : Nat) (ds : List Nat), d < 256 → sm ds → ds.length = j → S ≠ quad d ds) ∨ ∃ (d : Nat) (ds : List Nat), d < 256 ∧ sm ds ∧ ds.length = j ∧ S = quad d ds ∧ r = (val (a * 256 + d) ds, 0)) := by
  induction j with
  | zero =>
    intro i C S a hLe hi hij ha ha2
    obtain rfl : i = 3 := by omega
    obtain ⟨D, R, rfl, hD, hR⟩ := till_c 46 S
    have hu := until_go hL hlen D.length C D R hLe rfl hD hR
    have hLl : L.length = C.length + D.length + R.length := by rw [hLe]; simp; omega
    rcases hR with rfl | ⟨Q, rfl⟩
    · have hBD : By D := by rw [hLe, List.append_nil] at hL; exact hL.right
      have hcut : (strOfNums L).extract ((C.length : Nat) : Int).toNat (((C ++ D).length : Nat) : Int).toNat = strOfNums D := by
        rw [hLe]; exact cut_mid C D []
      have hgo : ∀ {n : Int} {r : Int × Int}, Ev (fun k => weftref1_number.f k (strOfNums D) 255) n →
          Ev (fun k => if n < 0 then some (0, 10) else weftref1_Parse.l0 k (strOfNums L) (wrap64 (wrap64 (a * 256) + n)) (wrap64 ((((C ++ D).length : Nat) : Int) + 1)) (wrap64 (3 + 1))) r →
          Ev (fun k => weftref1_Parse.l0 k (strOfNums L) a (C.length : Nat) 3) r := by
        intro n r hn hr
        obtain ⟨K1, h1⟩ := hu; dsimp only at h1
        obtain ⟨K2, h2⟩ := hn; dsimp only at h2
        obtain ⟨K3, h3⟩ := hr; dsimp only at h3
        refine ⟨max K1 (max K2 K3) + 1, fun k hk => ?_⟩
        obtain ⟨k, rfl⟩ : ∃ m, k = m + 1 := ⟨k - 1, by omega⟩
        have g1 := h1 k (by omega)
        have g2 := h2 k (by omega)
        have g3 := h3 k (by omega)
        simp only [weftref1_Parse.l0]
        rw [if_pos (by omega), g1, Option.bind_some, if_neg, if_pos (by omega), if_pos (by simp; omega), if_pos (by rw [txt_size, hLl]; simp), hcut, g2, Option.bind_some]
        · exact g3
        · rw [decide_eq_false (by omega), decide_eq_false (by rw [txt_size, hLl]; simp)]; decide
      by_cases hm : ∃ m, m ≤ 255 ∧ D = dg m
      · obtain ⟨m, hm, hDm⟩ := hm
        have hn := refnum_yes (most := 255) hm (by omega)
        rw [← hDm] at hn
        have ha3 : a < 16777216 := ha2
        refine ⟨(a * 256 + m, 0), hgo hn ?_, .inr ⟨m, [], by omega, (by intro x hx; cases hx), rfl, by rw [List.append_nil, hDm]; simp [quad, tail], rfl⟩⟩
        simp only [if_neg (show ¬ ((m : Int) < 0) by omega)]
        refine Ev.step (f := fun _ => some (a * 256 + m, 0)) (fun k => ?_) (Ev.now _)
        simp only [weftref1_Parse.l0]
        rw [w64 (n := 3 + 1) (by omega) (by omega), if_neg (by omega), w64 (n := a * 256) (by omega) (by omega), w64 (n := a * 256 + m) (by omega) (by omega), show (a * 256 + (m : Int)) % 4294967296 = a * 256 + m from by omega]
      · refine ⟨(0, 10), hgo (refnum_no (most := 255) hBD (by omega) (fun n hn e => hm ⟨n, hn, e⟩)) ?_, .inl ⟨rfl, fun d ds hd hs hl e => ?_⟩⟩
        · simp only [if_pos (show (-1 : Int) < 0 by omega)]
          exact Ev.now _
        · obtain rfl := List.length_eq_zero_iff.mp hl
          exact hm ⟨d, by omega, by rw [List.append_nil] at e; rw [e]; simp [quad, tail]⟩
    · refine ⟨(0, 10), ?_, .inl ⟨rfl, fun d ds hd hs hl e => ?_⟩⟩
      · obtain ⟨K1, h1⟩ := hu; dsimp only at h1
        refine ⟨K1 + 1, fun k hk => ?_⟩
        obtain ⟨k, rfl⟩ : ∃ m, k = m + 1 := ⟨k - 1, by omega⟩
        have g1 := h1 k (by omega)
        simp only [weftref1_Parse.l0]
        rw [if_pos (by omega), g1, Option.bind_some, if_pos]
        rw [decide_eq_false (by omega), decide_eq_true (by rw [txt_size, hLl]; simp; omega)]; decide
      · obtain rfl := List.length_eq_zero_iff.mp hl
        have hin : (46 : Int) ∈ dg d := by
          have : (46 : Int) ∈ quad d [] := by rw [← e]; simp
          simpa [quad, tail] using this
        exact dg_no (c := 46) (by unfold isDg; omega) d (by omega) 46 hin rfl
  | succ j ih =>
    intro i C S a hLe hi hij ha ha2
    have hij : i + (j : Int) + 2 = 4 := by omega
    obtain ⟨D, R, rfl, hD, hR⟩ := till_c 46 S
    have hu := until_go hL hlen D.length C D R hLe rfl hD hR
    have hLl : L.length = C.length + D.length + R.length := by rw [hLe]; simp; omega
    have ha3 : a < 16777216 := by
      rcases (show i = 0 ∨ i = 1 ∨ i = 2 by omega) with rfl | rfl | rfl
      · have : a < 1 := ha2; omega
      · have : a < 256 := ha2; omega
      · have : a < 65536 := ha2; omega
    rcases hR with rfl | ⟨Q, rfl⟩
    · refine ⟨(0, 10), ?_, .inl ⟨rfl, fun d ds hd hs hl e => ?_⟩⟩
      · obtain ⟨K1, h1⟩ := hu; dsimp only at h1
        refine ⟨K1 + 1, fun k hk => ?_⟩
        obtain ⟨k, rfl⟩ : ∃ m, k = m + 1 := ⟨k - 1, by omega⟩
        have g1 := h1 k (by omega)
        simp only [weftref1_Parse.l0]
        rw [if_pos (by omega), g1, Option.bind_some, if_pos]
        rw [decide_eq_true (by omega), decide_eq_false (by rw [txt_size, hLl]; simp)]; decide
      · obtain ⟨d', ds', rfl⟩ : ∃ x y, ds = x :: y := by
          cases ds with
          | nil => simp at hl
          | cons x y => exact ⟨x, y, rfl⟩
        rw [List.append_nil] at e
        have : (46 : Int) ∈ D := by rw [e, quad_cons]; simp
        exact hD 46 this rfl
    · have hBD : By D := by rw [hLe] at hL; exact hL.right.left
      have hcut : (strOfNums L).extract ((C.length : Nat) : Int).toNat (((C ++ D).length : Nat) : Int).toNat = strOfNums D := by
        rw [hLe]; exact cut_mid C D (46 :: Q)
      have hgo : ∀ {n : Int} {r : Int × Int}, Ev (fun k => weftref1_number.f k (strOfNums D) 255) n →
          Ev (fun k => if n < 0 then some (0, 10) else weftref1_Parse.l0 k (strOfNums L) (wrap64 (wrap64 (a * 256) + n)) (wrap64 ((((C ++ D).length : Nat) : Int) + 1)) (wrap64 (i + 1))) r →
          Ev (fun k => weftref1_Parse.l0 k (strOfNums L) a (C.length : Nat) i) r := by
        intro n r hn hr
        obtain ⟨K1, h1⟩ := hu; dsimp only at h1
        obtain ⟨K2, h2⟩ := hn; dsimp only at h2
        obtain ⟨K3, h3⟩ := hr; dsimp only at h3
        refine ⟨max K1 (max K2 K3) + 1, fun k hk => ?_⟩
        obtain ⟨k, rfl⟩ : ∃ m, k = m + 1 := ⟨k - 1, by omega⟩
        have g1 := h1 k (by omega)
        have g2 := h2 k (by omega)
        have g3 := h3 k (by omega)
        simp only [weftref1_Parse.l0]
        rw [if_pos (by omega), g1, Option.bind_some, if_neg, if_pos (by omega), if_pos (by simp; omega), if_pos (by rw [txt_size, hLl]; simp; omega), hcut, g2, Option.bind_some]
        · exact g3
        · rw [decide_eq_true (by omega), decide_eq_true (by rw [txt_size, hLl]; simp; omega)]; decide
      by_cases hm : ∃ m, m ≤ 255 ∧ D = dg m
      · obtain ⟨m, hm, hDm⟩ := hm
        have hn := refnum_yes (most := 255) hm (by omega)
        rw [← hDm] at hn
        obtain ⟨r, hr, hrc⟩ := ih (i + 1) (C ++ D ++ [46]) Q (a * 256 + m) (by rw [hLe]; simp) (by omega) (by omega) (by omega) (by
          rw [show (i + 1).toNat = i.toNat + 1 from by omega, Int.pow_succ]; omega)
        refine ⟨r, hgo hn ?_, ?_⟩
        · simp only [if_neg (show ¬ ((m : Int) < 0) by omega)]
          rw [w64 (n := i + 1) (by omega) (by omega), w64 (n := a * 256) (by omega) (by omega), w64 (n := a * 256 + m) (by omega) (by omega), w64 (n := (((C ++ D).length : Nat) : Int) + 1) (by omega) (by simp; omega)]
          have e : ((((C ++ D ++ [46]).length : Nat)) : Int) = (((C ++ D).length : Nat) : Int) + 1 := by simp; omega
          rw [e] at hr
          exact hr
        · rcases hrc with ⟨hr0, hno⟩ | ⟨d, ds, h1, h2, h3, h4, h5⟩
          · refine .inl ⟨hr0, fun d ds hd hs hl e => ?_⟩
            obtain ⟨d', ds', rfl⟩ : ∃ x y, ds = x :: y := by
              cases ds with
              | nil => simp at hl
              | cons x y => exact ⟨x, y, rfl⟩
            obtain ⟨hs1, hs2⟩ := sm_tail hs
            rw [quad_cons] at e
            obtain ⟨_, e2⟩ := split_uniq hD (dg_no (c := 46) (by unfold isDg; omega) d (by omega)) e
            exact hno d' ds' hs1 hs2 (by simpa using hl) e2
          · refine .inr ⟨m, d :: ds, by omega, ?_, by simp [h3], by rw [quad_cons, ← h4, hDm], by rw [h5]; rfl⟩
            intro x hx
            rcases List.mem_cons.mp hx with h | h
            · omega
            · exact h2 x h
      · refine ⟨(0, 10), hgo (refnum_no (most := 255) hBD (by omega) (fun n hn e => hm ⟨n, hn, e⟩)) ?_, .inl ⟨rfl, fun d ds hd hs hl e => ?_⟩⟩
        · simp only [if_pos (show (-1 : Int) < 0 by omega)]
          exact Ev.now _
        · obtain ⟨d', ds', rfl⟩ : ∃ x y, ds = x :: y := by
            cases ds with
            | nil => simp at hl
            | cons x y => exact ⟨x, y, rfl⟩
          rw [quad_cons] at e
          obtain ⟨e1, _⟩ := split_uniq hD (dg_no (c := 46) (by unfold isDg; omega) d (by omega)) e
          exact hm ⟨d, by omega, e1⟩
theorem len_quad3 {d : Nat} {ds : List Nat} (hl : ds.length = 3) : (quad d ds).length ≤ 15 := by
  obtain ⟨x, y, z, rfl⟩ : ∃ x y z, ds = [x, y, z] := by
    match ds, hl with
    | [x, y, z], _ => exact ⟨x, y, z, rfl⟩
  have h0 := dg_len d
  have h1 := dg_len x
  have h2 := dg_len y
  have h3 := dg_len z
  simp [quad, tail]; omega
/-- addr.Parse and the document's say the same of any text. -/
theorem parse_both {L : List Int} (hL : By L) (hlen : L.length ≤ 1000000000000000000) :
    ∃ r, Ev (fun k => addr_Parse.f k (strOfNums L)) r ∧ Ev (fun k => weftref1_Parse.f k (strOfNums L)) r ∧
      ((r = (0, 10) ∧ ∀ a : Int, 0 ≤ a → a < 4294967296 → L ≠ fmt a) ∨ ∃ a : Int, 0 ≤ a ∧ a < 4294967296 ∧ L = fmt a ∧ r = (a, 0)) := by
  have hnot : (∀ (d : Nat) (ds : List Nat), d < 256 → sm ds → ds.length = 3 → L ≠ quad d ds) → Ev (fun k => addr_Parse.f k (strOfNums L)) (0, 10) ∧ ∀ a : Int, 0 ≤ a → a < 4294967296 → L ≠ fmt a := by
    intro hno
    refine ⟨?_, fun a h0 h1 e => hno (byteOf a 0) [byteOf a 1, byteOf a 2, byteOf a 3] (byteOf_lt a 0) (by intro d hd; simp at hd; rcases hd with h | h | h <;> subst h <;> exact byteOf_lt _ _) rfl e⟩
    obtain ⟨r, hr, hc⟩ := parse_all hL hlen
    rcases hc with rfl | ⟨d, ds, h1, h2, h3, h4, h5⟩
    · exact hr
    · exact absurd h4 (hno d ds h1 h2 h3)
  by_cases h15 : L.length ≤ 15
  · obtain ⟨r, hr, hc⟩ := refparse_rest hL hlen 3 0 [] L 0 rfl (by omega) (by omega) (by omega) (by decide)
    have hr' : Ev (fun k => weftref1_Parse.f k (strOfNums L)) r := by
      refine Ev.congr (fun k => ?_) hr
      unfold weftref1_Parse.f
      rw [if_neg (by rw [txt_size]; omega)]
      rfl
    rcases hc with ⟨rfl, hno⟩ | ⟨d, ds, h1, h2, h3, h4, h5⟩
    · obtain ⟨g1, g2⟩ := hnot hno
      exact ⟨_, g1, hr', .inl ⟨rfl, g2⟩⟩
    · have hp := parse_quad h1 h2 h3
      rw [← h4] at hp
      obtain ⟨g0, g1, g2⟩ := fmt_val h1 h2 h3
      have e : r = (val d ds, 0) := by rw [h5]; simp
      rw [e] at hr'
      exact ⟨_, hp, hr', .inr ⟨val d ds, g0, g1, by rw [g2, h4], rfl⟩⟩
  · obtain ⟨g1, g2⟩ := hnot (fun d ds h1 h2 h3 e => by have := len_quad3 (d := d) h3; rw [← e] at this; omega)
    refine ⟨_, g1, ?_, .inl ⟨rfl, g2⟩⟩
    refine Ev.congr (f := fun _ => some (0, 10)) (fun k => ?_) (Ev.now _)
    unfold weftref1_Parse.f
    rw [if_pos (by rw [txt_size]; omega)]
end Go.Proofs.YtncpcjphljfcpaaDoor.Txt
