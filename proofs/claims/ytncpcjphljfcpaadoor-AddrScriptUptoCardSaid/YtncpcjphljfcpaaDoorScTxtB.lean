/- The document's own readers of addresses and prefixes over texts: they read just what addr reads. Prefixes: the document's fault, and its reader of prefixes: they say just what addr says. The document's writers of addresses and prefixes, and spans, membership and classes: they say just what addr says. -/
import Derived.Test.YtncpcjphljfcpaaDoorScTxtA
namespace Go.Proofs.YtncpcjphljfcpaaDoor.Txt
open Go.RowKit Go.Proofs.YtncpcjphljfcpaaDoor.PScr Go.Proofs.YtncpcjphljfcpaaDoorW.PrintWords Go.Proofs.YtncpcjphljfcpaaDoorW.PrintLast Go.Proofs.YtncpcjphljfcpaaDoorW.PrintMore

theorem Ev.uniq {α : Type} {g : Nat → Option α} {a b : α} (ha : Ev g a) (hb : Ev g b) : a = b := by
  obtain ⟨K, ha⟩ := ha
  obtain ⟨K', hb⟩ := hb
  have h1 := ha (max K K') (by omega)
  have h2 := hb (max K K') (by omega)
  rw [h1] at h2
  exact Option.some.inj h2
theorem itoa_all : ∀ n : Nat, n < 256 → strconv_Itoa.f (n : Int) = some (strOfNums (dg n)) := by decide +kernel
theorem dg_inj : ∀ m : Nat, m < 256 → ∀ n : Nat, n < 256 → dg m = dg n → m = n := by decide +kernel
theorem txt_eq_iff {a b : List Int} (ha : By a) (hb : By b) : (strOfNums a).toList = (strOfNums b).toList ↔ a = b := by
  constructor
  · intro h
    refine txt_inj ha hb ?_
    rw [Go.Lib.strOfNums_toList, Go.Lib.strOfNums_toList] at h
    apply ByteArray.ext
    apply Array.toList_inj.mp
    exact h
  · rintro rfl; rfl
/-- the loop over all numbers -/
theorem refnum_l0 {T : List Int} (hT : By T) {most : Nat} (hm : most ≤ 255) (m : Nat) (hmm : m ≤ most + 1) (hat : m ≤ most → T = dg m) (j : Nat) : ∀ i : Nat, i + j = m → (∀ n, n < m → T ≠ dg n) →
    Ev (fun k => weftref1_number.l0 k (strOfNums T) most (i : Int)) (if m ≤ most then (m : Int) else -1) := by
  induction j with
  | zero =>
    intro i hi hne
    obtain rfl : i = m := by omega
    by_cases h : i ≤ most
    · rw [if_pos h]
      refine Ev.step (f := fun _ => some (i : Int)) (fun k => ?_) (Ev.now _)
      simp only [weftref1_number.l0]
      rw [if_pos (by omega), itoa_all i (by omega), Option.bind_some, if_pos (by rw [hat h])]
    · rw [if_neg h]
      refine Ev.step (f := fun _ => some (-1)) (fun k => ?_) (Ev.now _)
      simp only [weftref1_number.l0]
      rw [if_neg (by omega)]
  | succ j ih =>
    intro i hi hne
    refine Ev.step (fun k => ?_) (ih (i + 1) (by omega) hne)
    simp only [weftref1_number.l0]
    rw [if_pos (by omega), itoa_all i (by omega), Option.bind_some, if_neg, w64 (by omega) (by omega)]
    · simp
    · rw [txt_eq_iff (by_dg i (by omega)) hT]
      exact fun e => hne i (by omega) e.symm
theorem refnum_go {T : List Int} {most : Int} {r : Int} (h1 : 1 ≤ T.length) (h3 : T.length ≤ 3) (h : Ev (fun k => weftref1_number.l0 k (strOfNums T) most 0) r) : Ev (fun k => weftref1_number.f k (strOfNums T) most) r := by
  refine Ev.congr (f := fun k => weftref1_number.j0 k (strOfNums T) most false) (fun k => ?_) (Ev.step (fun k => ?_) h)
  · unfold weftref1_number.f
    rw [if_neg (by rw [txt_size]; omega), decide_eq_false (by rw [txt_size]; omega)]
  · simp only [weftref1_number.j0]
    rw [if_neg (by decide)]
theorem refnum_yes {m most : Nat} (hm : m ≤ most) (hmost : most ≤ 255) : Ev (fun k => weftref1_number.f k (strOfNums (dg m)) (most : Int)) (m : Int) := by
  have hl := dg_len m
  have := refnum_l0 (by_dg m (by omega)) hmost m (by omega) (fun _ => rfl) m 0 (by omega) (fun n hn e => by have := dg_inj m (by omega) n (by omega) e; omega)
  rw [if_pos hm] at this
  exact refnum_go hl.1 hl.2 this
theorem refnum_no {T : List Int} (hT : By T) {most : Nat} (hmost : most ≤ 255) (h : ∀ n, n ≤ most → T ≠ dg n) : Ev (fun k => weftref1_number.f k (strOfNums T) (most : Int)) (-1) := by
  by_cases hl : 1 ≤ T.length ∧ T.length ≤ 3
  · have := refnum_l0 hT hmost (most + 1) (by omega) (fun h => by omega) (most + 1) 0 (by omega) (fun n hn => h n (by omega))
    rw [if_neg (by omega)] at this
    exact refnum_go hl.1 hl.2 this
  · refine Ev.congr (f := fun k => weftref1_number.j0 k (strOfNums T) most true) (fun k => ?_) (Ev.step (f := fun _ => some (-1)) (fun k => ?_) (Ev.now _))
    · unfold weftref1_number.f
      by_cases h0 : T.length = 0
      · rw [if_pos (by rw [txt_size]; omega)]
      · rw [if_neg (by rw [txt_size]; omega), decide_eq_true (by rw [txt_size]; omega)]
    · simp only [weftref1_number.j0]
      rw [if_pos trivial]

/-- A text up to its first c. -/
theorem till_c (c : Int) (L : List Int) : ∃ D R, L = D ++ R ∧ (∀ x ∈ D, x ≠ c) ∧ (R = [] ∨ ∃ Q, R = c :: Q) := by
  induction L with
  | nil => exact ⟨[], [], rfl, (by intro x hx; cases hx), .inl rfl⟩
  | cons x L ih =>
    by_cases h : x = c
    · exact ⟨[], x :: L, rfl, (by intro x hx; cases hx), .inr ⟨L, by rw [h]⟩⟩
    · obtain ⟨D, R, h1, h2, h3⟩ := ih
      refine ⟨x :: D, R, by rw [h1]; rfl, ?_, h3⟩
      intro y hy
      rcases List.mem_cons.mp hy with e | e
      · rw [e]; exact h
      · exact h2 y e
theorem split_uniq {c : Int} : ∀ {D E Q S : List Int}, (∀ x ∈ D, x ≠ c) → (∀ x ∈ E, x ≠ c) → D ++ c :: Q = E ++ c :: S → D = E ∧ Q = S := by
  intro D
  induction D with
  | nil =>
    intro E Q S _ hE h
    cases E with
    | nil => simp at h; exact ⟨rfl, h⟩
    | cons y E =>
      simp at h
      exact absurd h.1.symm (hE y List.mem_cons_self)
  | cons x D ih =>
    intro E Q S hD hE h
    cases E with
    | nil =>
      simp at h
      exact absurd h.1 (hD x List.mem_cons_self)
    | cons y E =>
      simp at h
      obtain ⟨h1, h2⟩ := ih (fun z hz => hD z (List.mem_cons_of_mem _ hz)) (fun z hz => hE z (List.mem_cons_of_mem _ hz)) h.2
      exact ⟨by rw [h.1, h1], h2⟩
theorem dg_no {c : Int} (hc : ¬ isDg c) (n : Nat) (hn : n < 1000) : ∀ x ∈ dg n, x ≠ c := fun x hx e => hc (e ▸ dg_dg n hn x hx)
theorem until_go {L : List Int} {c : Int} (hL : By L) (hlen : L.length ≤ 1000000000000000000) (j : Nat) : ∀ (C D R : List Int), L = C ++ (D ++ R) → D.length = j → (∀ x ∈ D, x ≠ c) → (R = [] ∨ ∃ Q, R = c :: Q) →
    Ev (fun k => weftref1_until.f k (strOfNums L) (C.length : Nat) c) (((C ++ D).length : Nat) : Int) := by
  unfold weftref1_until.f
  induction j with
  | zero =>
    intro C D R hLe hD hne hR
    obtain rfl : D = [] := List.length_eq_zero_iff.mp hD
    rw [List.append_nil]
    refine Ev.step (f := fun _ => some ((C.length : Nat) : Int)) (fun k => ?_) (Ev.now _)
    simp only [weftref1_until.l0]
    rcases hR with rfl | ⟨Q, rfl⟩
    · rw [if_neg (by rw [txt_size, hLe]; simp)]
    · have hb : By (C ++ (c :: Q)) := by rw [List.nil_append] at hLe; rw [← hLe]; exact hL
      have hat := bt_app hb rfl
      rw [List.nil_append] at hLe
      rw [← hLe] at hat
      rw [if_pos (by rw [txt_size, hLe]; simp; omega), if_pos (by omega), hat, if_pos rfl]
  | succ j ih =>
    intro C D R hLe hD hne hR
    obtain ⟨x, D, rfl⟩ : ∃ x d, D = x :: d := by
      cases D with
      | nil => simp at hD
      | cons x d => exact ⟨x, d, rfl⟩
    have hc : C.length + D.length + 1 ≤ L.length := by rw [hLe]; simp; omega
    have hx : x ≠ c := hne x List.mem_cons_self
    have hat : bt (strOfNums L) (C.length : Int) = x := by
      have hb : By (C ++ ((x :: D) ++ R)) := by rw [← hLe]; exact hL
      have := bt_app hb rfl
      rw [← hLe] at this
      exact this
    have := ih (C ++ [x]) D R (by rw [hLe]; simp) (by simpa using hD) (fun y hy => hne y (List.mem_cons_of_mem _ hy)) hR
    rw [List.append_assoc, List.singleton_append] at this
    refine Ev.step (fun k => ?_) this
    simp only [weftref1_until.l0]
    rw [if_pos (by rw [txt_size]; omega), if_pos (by omega), hat, if_neg hx, w64 (by omega) (by omega)]
    simp
theorem quad_cons (d e : Nat) (ds : List Nat) : quad d (e :: ds) = dg d ++ 46 :: quad e ds := rfl
theorem val_lt (ds : List Nat) : ∀ (a : Int) (i : Nat), sm ds → 0 ≤ a → a < 256 ^ i → 0 ≤ val a ds ∧ val a ds < 256 ^ (i + ds.length) := by
  induction ds with
  | nil => intro a i _ h0 h1; exact ⟨h0, h1⟩
  | cons d ds ih =>
    intro a i hs h0 h1
    obtain ⟨h2, h3⟩ := sm_tail hs
    have := ih (a * 256 + d) (i + 1) h3 (by omega) (by rw [Int.pow_succ]; omega)
    rw [List.length_cons, show i + (ds.length + 1) = i + 1 + ds.length from by omega]
    exact this

theorem cut_mid (C D R : List Int) : (strOfNums (C ++ (D ++ R))).extract ((C.length : Nat) : Int).toNat (((C ++ D).length : Nat) : Int).toNat = strOfNums D := by
  rw [Int.toNat_natCast, Int.toNat_natCast, txt_cut, ← List.append_assoc, List.take_left, List.drop_left]
/-- What the document's Parse makes of what is left. -/
theorem refparse_rest {L : List Int} (hL : By L) (hlen : L.length ≤ 1000000000000000000) (j : Nat) : ∀ (i : Int) (C S : List Int) (a : Int), L = C ++ S → 0 ≤ i → i + (j + 1) = 4 → 0 ≤ a → a < 256 ^ i.toNat →
    ∃ r, Ev (fun k => weftref1_Parse.l0 k (strOfNums L) a (C.length : Nat) i) r ∧
      ((r = (0, 10) ∧ ∀ (d : Nat) (ds : List Nat), d < 256 → sm ds → ds.length = j → S ≠ quad d ds) ∨ ∃ (d : Nat) (ds : List Nat), d < 256 ∧ sm ds ∧ ds.length = j ∧ S = quad d ds ∧ r = (val (a * 256 + d) ds, 0)) := by
  induction j with
  | zero =>
    intro i C S a hLe hi hij ha ha2
    obtain rfl : i = 3 := by omega
    obtain ⟨D, R, rfl, hD, hR⟩ := till_c 46 S
    have hu := until_go hL hlen D.length C D R hLe rfl hD hR
    have hLl : L.length = C.length + D.length + R.length := by rw [hLe]; simp; omega
    rcases hR with rfl | ⟨Q, rfl⟩
    · have hBD : By D := by rw [hLe, List.append_nil] at hL; exact hL.right
      have hcut : (strOfNums L).extract ((C.length : Nat) : Int).toNat (((C ++ D).length : Nat) : Int).toNat = strOfNums D := by
        rw [hLe]; exact cut_mid C D []
      have hgo : ∀ {n : Int} {r : Int × Int}, Ev (fun k => weftref1_number.f k (strOfNums D) 255) n →
          Ev (fun k => if n < 0 then some (0, 10) else weftref1_Parse.l0 k (strOfNums L) (wrap64 (wrap64 (a * 256) + n)) (wrap64 ((((C ++ D).length : Nat) : Int) + 1)) (wrap64 (3 + 1))) r →
          Ev (fun k => weftref1_Parse.l0 k (strOfNums L) a (C.length : Nat) 3) r := by
        intro n r hn hr
        obtain ⟨K1, h1⟩ := hu; dsimp only at h1
        obtain ⟨K2, h2⟩ := hn; dsimp only at h2
        obtain ⟨K3, h3⟩ := hr; dsimp only at h3
        refine ⟨max K1 (max K2 K3) + 1, fun k hk => ?_⟩
        obtain ⟨k, rfl⟩ : ∃ m, k = m + 1 := ⟨k - 1, by omega⟩
        have g1 := h1 k (by omega)
        have g2 := h2 k (by omega)
        have g3 := h3 k (by omega)
        simp only [weftref1_Parse.l0]
        rw [if_pos (by omega), g1, Option.bind_some, if_neg, if_pos (by omega), if_pos (by simp; omega), if_pos (by rw [txt_size, hLl]; simp), hcut, g2, Option.bind_some]
        · exact g3
        · rw [decide_eq_false (by omega), decide_eq_false (by rw [txt_size, hLl]; simp)]; decide
      by_cases hm : ∃ m, m ≤ 255 ∧ D = dg m
      · obtain ⟨m, hm, hDm⟩ := hm
        have hn := refnum_yes (most := 255) hm (by omega)
        rw [← hDm] at hn
        have ha3 : a < 16777216 := ha2
        refine ⟨(a * 256 + m, 0), hgo hn ?_, .inr ⟨m, [], by omega, (by intro x hx; cases hx), rfl, by rw [List.append_nil, hDm]; simp [quad, tail], rfl⟩⟩
        simp only [if_neg (show ¬ ((m : Int) < 0) by omega)]
        refine Ev.step (f := fun _ => some (a * 256 + m, 0)) (fun k => ?_) (Ev.now _)
        simp only [weftref1_Parse.l0]
        rw [w64 (n := 3 + 1) (by omega) (by omega), if_neg (by omega), w64 (n := a * 256) (by omega) (by omega), w64 (n := a * 256 + m) (by omega) (by omega), show (a * 256 + (m : Int)) % 4294967296 = a * 256 + m from by omega]
      · refine ⟨(0, 10), hgo (refnum_no (most := 255) hBD (by omega) (fun n hn e => hm ⟨n, hn, e⟩)) ?_, .inl ⟨rfl, fun d ds hd hs hl e => ?_⟩⟩
        · simp only [if_pos (show (-1 : Int) < 0 by omega)]
          exact Ev.now _
        · obtain rfl := List.length_eq_zero_iff.mp hl
          exact hm ⟨d, by omega, by rw [List.append_nil] at e; rw [e]; simp [quad, tail]⟩
    · refine ⟨(0, 10), ?_, .inl ⟨rfl, fun d ds hd hs hl e => ?_⟩⟩
      · obtain ⟨K1, h1⟩ := hu; dsimp only at h1
        refine ⟨K1 + 1, fun k hk => ?_⟩
        obtain ⟨k, rfl⟩ : ∃ m, k = m + 1 := ⟨k - 1, by omega⟩
        have g1 := h1 k (by omega)
        simp only [weftref1_Parse.l0]
        rw [if_pos (by omega), g1, Option.bind_some, if_pos]
        rw [decide_eq_false (by omega), decide_eq_true (by rw [txt_size, hLl]; simp; omega)]; decide
      · obtain rfl := List.length_eq_zero_iff.mp hl
        have hin : (46 : Int) ∈ dg d := by
          have : (46 : Int) ∈ quad d [] := by rw [← e]; simp
          simpa [quad, tail] using this
        exact dg_no (c := 46) (by unfold isDg; omega) d (by omega) 46 hin rfl
  | succ j ih =>
    intro i C S a hLe hi hij ha ha2
    have hij : i + (j : Int) + 2 = 4 := by omega
    obtain ⟨D, R, rfl, hD, hR⟩ := till_c 46 S
    have hu := until_go hL hlen D.length C D R hLe rfl hD hR
    have hLl : L.length = C.length + D.length + R.length := by rw [hLe]; simp; omega
    have ha3 : a < 16777216 := by
      rcases (show i = 0 ∨ i = 1 ∨ i = 2 by omega) with rfl | rfl | rfl
      · have : a < 1 := ha2; omega
      · have : a < 256 := ha2; omega
      · have : a < 65536 := ha2; omega
    rcases hR with rfl | ⟨Q, rfl⟩
    · refine ⟨(0, 10), ?_, .inl ⟨rfl, fun d ds hd hs hl e => ?_⟩⟩
      · obtain ⟨K1, h1⟩ := hu; dsimp only at h1
        refine ⟨K1 + 1, fun k hk => ?_⟩
        obtain ⟨k, rfl⟩ : ∃ m, k = m + 1 := ⟨k - 1, by omega⟩
        have g1 := h1 k (by omega)
        simp only [weftref1_Parse.l0]
        rw [if_pos (by omega), g1, Option.bind_some, if_pos]
        rw [decide_eq_true (by omega), decide_eq_false (by rw [txt_size, hLl]; simp)]; decide
      · obtain ⟨d', ds', rfl⟩ : ∃ x y, ds = x :: y := by
          cases ds with
          | nil => simp at hl
          | cons x y => exact ⟨x, y, rfl⟩
        rw [List.append_nil] at e
        have : (46 : Int) ∈ D := by rw [e, quad_cons]; simp
        exact hD 46 this rfl
    · have hBD : By D := by rw [hLe] at hL; exact hL.right.left
      have hcut : (strOfNums L).extract ((C.length : Nat) : Int).toNat (((C ++ D).length : Nat) : Int).toNat = strOfNums D := by
        rw [hLe]; exact cut_mid C D (46 :: Q)
      have hgo : ∀ {n : Int} {r : Int × Int}, Ev (fun k => weftref1_number.f k (strOfNums D) 255) n →
          Ev (fun k => if n < 0 then some (0, 10) else weftref1_Parse.l0 k (strOfNums L) (wrap64 (wrap64 (a * 256) + n)) (wrap64 ((((C ++ D).length : Nat) : Int) + 1)) (wrap64 (i + 1))) r →
          Ev (fun k => weftref1_Parse.l0 k (strOfNums L) a (C.length : Nat) i) r := by
        intro n r hn hr
        obtain ⟨K1, h1⟩ := hu; dsimp only at h1
        obtain ⟨K2, h2⟩ := hn; dsimp only at h2
        obtain ⟨K3, h3⟩ := hr; dsimp only at h3
        refine ⟨max K1 (max K2 K3) + 1, fun k hk => ?_⟩
        obtain ⟨k, rfl⟩ : ∃ m, k = m + 1 := ⟨k - 1, by omega⟩
        have g1 := h1 k (by omega)
        have g2 := h2 k (by omega)
        have g3 := h3 k (by omega)
        simp only [weftref1_Parse.l0]
        rw [if_pos (by omega), g1, Option.bind_some, if_neg, if_pos (by omega), if_pos (by simp; omega), if_pos (by rw [txt_size, hLl]; simp; omega), hcut, g2, Option.bind_some]
        · exact g3
        · rw [decide_eq_true (by omega), decide_eq_true (by rw [txt_size, hLl]; simp; omega)]; decide
      by_cases hm : ∃ m, m ≤ 255 ∧ D = dg m
      · obtain ⟨m, hm, hDm⟩ := hm
        have hn := refnum_yes (most := 255) hm (by omega)
        rw [← hDm] at hn
        obtain ⟨r, hr, hrc⟩ := ih (i + 1) (C ++ D ++ [46]) Q (a * 256 + m) (by rw [hLe]; simp) (by omega) (by omega) (by omega) (by
          rw [show (i + 1).toNat = i.toNat + 1 from by omega, Int.pow_succ]; omega)
        refine ⟨r, hgo hn ?_, ?_⟩
        · simp only [if_neg (show ¬ ((m : Int) < 0) by omega)]
          rw [w64 (n := i + 1) (by omega) (by omega), w64 (n := a * 256) (by omega) (by omega), w64 (n := a * 256 + m) (by omega) (by omega), w64 (n := (((C ++ D).length : Nat) : Int) + 1) (by omega) (by simp; omega)]
          have e : ((((C ++ D ++ [46]).length : Nat)) : Int) = (((C ++ D).length : Nat) : Int) + 1 := by simp; omega
          rw [e] at hr
          exact hr
        · rcases hrc with ⟨hr0, hno⟩ | ⟨d, ds, h1, h2, h3, h4, h5⟩
          · refine .inl ⟨hr0, fun d ds hd hs hl e => ?_⟩
            obtain ⟨d', ds', rfl⟩ : ∃ x y, ds = x :: y := by
              cases ds with
              | nil => simp at hl
              | cons x y => exact ⟨x, y, rfl⟩
            obtain ⟨hs1, hs2⟩ := sm_tail hs
            rw [quad_cons] at e
            obtain ⟨_, e2⟩ := split_uniq hD (dg_no (c := 46) (by unfold isDg; omega) d (by omega)) e
            exact hno d' ds' hs1 hs2 (by simpa using hl) e2
          · refine .inr ⟨m, d :: ds, by omega, ?_, by simp [h3], by rw [quad_cons, ← h4, hDm], by rw [h5]; rfl⟩
            intro x hx
            rcases List.mem_cons.mp hx with h | h
            · omega
            · exact h2 x h
      · refine ⟨(0, 10), hgo (refnum_no (most := 255) hBD (by omega) (fun n hn e => hm ⟨n, hn, e⟩)) ?_, .inl ⟨rfl, fun d ds hd hs hl e => ?_⟩⟩
        · simp only [if_pos (show (-1 : Int) < 0 by omega)]
          exact Ev.now _
        · obtain ⟨d', ds', rfl⟩ : ∃ x y, ds = x :: y := by
            cases ds with
            | nil => simp at hl
            | cons x y => exact ⟨x, y, rfl⟩
          rw [quad_cons] at e
          obtain ⟨e1, _⟩ := split_uniq hD (dg_no (c := 46) (by unfold isDg; omega) d (by omega)) e
          exact hm ⟨d, by omega, e1⟩
theorem len_quad3 {d : Nat} {ds : List Nat} (hl : ds.length = 3) : (quad d ds).length ≤ 15 := by
  obtain ⟨x, y, z, rfl⟩ : ∃ x y z, ds = [x, y, z] := by
    match ds, hl with
    | [x, y, z], _ => exact ⟨x, y, z, rfl⟩
  have h0 := dg_len d
  have h1 := dg_len x
  have h2 := dg_len y
  have h3 := dg_len z
  simp [quad, tail]; omega
/-- addr.Parse and the document's say the same of any text. -/
theorem parse_both {L : List Int} (hL : By L) (hlen : L.length ≤ 1000000000000000000) :
    ∃ r, Ev (fun k => addr_Parse.f k (strOfNums L)) r ∧ Ev (fun k => weftref1_Parse.f k (strOfNums L)) r ∧
      ((r = (0, 10) ∧ ∀ a : Int, 0 ≤ a → a < 4294967296 → L ≠ fmt a) ∨ ∃ a : Int, 0 ≤ a ∧ a < 4294967296 ∧ L = fmt a ∧ r = (a, 0)) := by
  have hnot : (∀ (d : Nat) (ds : List Nat), d < 256 → sm ds → ds.length = 3 → L ≠ quad d ds) → Ev (fun k => addr_Parse.f k (strOfNums L)) (0, 10) ∧ ∀ a : Int, 0 ≤ a → a < 4294967296 → L ≠ fmt a := by
    intro hno
    refine ⟨?_, fun a h0 h1 e => hno (byteOf a 0) [byteOf a 1, byteOf a 2, byteOf a 3] (byteOf_lt a 0) (by intro d hd; simp at hd; rcases hd with h | h | h <;> subst h <;> exact byteOf_lt _ _) rfl e⟩
    obtain ⟨r, hr, hc⟩ := parse_all hL hlen
    rcases hc with rfl | ⟨d, ds, h1, h2, h3, h4, h5⟩
    · exact hr
    · exact absurd h4 (hno d ds h1 h2 h3)
  by_cases h15 : L.length ≤ 15
  · obtain ⟨r, hr, hc⟩ := refparse_rest hL hlen 3 0 [] L 0 rfl (by omega) (by omega) (by omega) (by decide)
    have hr' : Ev (fun k => weftref1_Parse.f k (strOfNums L)) r := by
      refine Ev.congr (fun k => ?_) hr
      unfold weftref1_Parse.f
      rw [if_neg (by rw [txt_size]; omega)]
      rfl
    rcases hc with ⟨rfl, hno⟩ | ⟨d, ds, h1, h2, h3, h4, h5⟩
    · obtain ⟨g1, g2⟩ := hnot hno
      exact ⟨_, g1, hr', .inl ⟨rfl, g2⟩⟩
    · have hp := parse_quad h1 h2 h3
      rw [← h4] at hp
      obtain ⟨g0, g1, g2⟩ := fmt_val h1 h2 h3
      have e : r = (val d ds, 0) := by rw [h5]; simp
      rw [e] at hr'
      exact ⟨_, hp, hr', .inr ⟨val d ds, g0, g1, by rw [g2, h4], rfl⟩⟩
  · obtain ⟨g1, g2⟩ := hnot (fun d ds h1 h2 h3 e => by have := len_quad3 (d := d) h3; rw [← e] at this; omega)
    refine ⟨_, g1, ?_, .inl ⟨rfl, g2⟩⟩
    refine Ev.congr (f := fun _ => some (0, 10)) (fun k => ?_) (Ev.now _)
    unfold weftref1_Parse.f
    rw [if_pos (by rw [txt_size]; omega)]
end Go.Proofs.YtncpcjphljfcpaaDoor.Txt

namespace Go.Proofs.YtncpcjphljfcpaaDoor.Txt
open Go.RowKit Go.Proofs.YtncpcjphljfcpaaDoor.PScr Go.Proofs.YtncpcjphljfcpaaDoorW.PrintWords Go.Proofs.YtncpcjphljfcpaaDoorW.PrintLast Go.Proofs.YtncpcjphljfcpaaDoorW.PrintMore

theorem size_l0 (j : Nat) : ∀ (x : Int) (k : Nat), j ≤ 32 → j < k → 0 ≤ x → x * 2 ^ j ≤ 4294967296 → weftref1_size.l0 k x (32 - j) = some (x * 2 ^ j) := by
  induction j with
  | zero =>
    intro x k _ hk h0 hx
    obtain ⟨k, rfl⟩ : ∃ m, k = m + 1 := ⟨k - 1, by omega⟩
    simp only [weftref1_size.l0]
    rw [if_neg (by omega)]; simp
  | succ j ih =>
    intro x k hj hk h0 hx
    obtain ⟨k, rfl⟩ : ∃ m, k = m + 1 := ⟨k - 1, by omega⟩
    have e : x * 2 ^ (j + 1) = (2 * x) * 2 ^ j := by rw [Int.pow_succ]; rw [Int.mul_comm 2 x, Int.mul_assoc, Int.mul_comm 2]
    have hone : (0 : Int) < 2 ^ j := Int.pow_pos (by omega)
    have hb : 2 * x ≤ 4294967296 := by
      have : (2 * x) * 1 ≤ (2 * x) * 2 ^ j := Int.mul_le_mul_of_nonneg_left (by omega) (by omega)
      omega
    simp only [weftref1_size.l0]
    rw [if_pos (by omega), w64 (by omega) (by omega), w64 (by omega) (by omega), show ((32 : Int) - ((j + 1 : Nat) : Int)) + 1 = 32 - (j : Int) from by omega, e]
    exact ih (2 * x) k (by omega) (by omega) (by omega) (by rw [← e]; exact hx)
theorem size_ev {n : Nat} (hn : n ≤ 32) : Ev (fun k => weftref1_size.f k n) (sz n : Int) := by
  refine ⟨33, fun k hk => ?_⟩
  show weftref1_size.l0 k 1 n = _
  have h := size_l0 (32 - n) 1 k (by omega) (by omega) (by omega) (by have := sz_le n; rw [Int.one_mul]; show ((2 : Nat) : Int) ^ (32 - n) ≤ _; rw [← Int.natCast_pow]; exact Int.ofNat_le.mpr this)
  rw [show (32 : Int) - ((32 - n : Nat) : Int) = (n : Int) from by omega] at h
  rw [h, Int.one_mul]
  show some (((2 : Nat) : Int) ^ (32 - n)) = some (((2 ^ (32 - n) : Nat)) : Int)
  rw [← Int.natCast_pow]
theorem reffault_ev {a b : Int} (h0 : 0 ≤ a) (h1 : a < 4294967296) : Ev (fun k => weftref1_fault.f k a b) (flt a b) := by
  unfold flt
  by_cases hb : b < 0 ∨ 32 < b
  · rw [if_pos hb]
    refine ⟨1, fun k hk => ?_⟩
    obtain ⟨k, rfl⟩ : ∃ m, k = m + 1 := ⟨k - 1, by omega⟩
    show weftref1_fault.f (k + 1) a b = some 11
    unfold weftref1_fault.f
    by_cases hb1 : b < 0
    · rw [if_pos hb1]; simp only [weftref1_fault.j0]; rw [if_pos trivial]
    · rw [if_neg hb1, decide_eq_true (by omega)]; simp only [weftref1_fault.j0]; rw [if_pos trivial]
  · rw [if_neg hb]
    obtain ⟨n, rfl⟩ : ∃ n : Nat, b = (n : Int) := ⟨b.toNat, by omega⟩
    have hp := sz_pos n
    have hs := size_ev (n := n) (by omega)
    refine Ev.congr (f := fun k => weftref1_fault.j0 k false a n) (fun k => ?_) (Ev.step (f := fun k => (weftref1_size.f k n).bind fun t122 => (if t122 = 0 then none else (if (Int.tmod (wrap64 a) t122) = 0 then (some 0) else (some 12)))) (fun k => ?_) (Ev.bind hs ?_))
    · unfold weftref1_fault.f; rw [if_neg (by omega), decide_eq_false (by omega)]
    · simp only [weftref1_fault.j0]; rw [if_neg (by decide)]
    · simp only [if_neg (show ¬ ((sz n : Int) = 0) by omega), w64 (n := a) (by omega) (by omega), Int.tmod_eq_emod_of_nonneg h0, Int.toNat_natCast]
      by_cases h : a % (sz n : Int) = 0
      · simp only [if_pos h]; exact Ev.now _
      · simp only [if_neg h]; exact Ev.now _
theorem refvalid_ev {a b : Int} (h0 : 0 ≤ a) (h1 : a < 4294967296) : Ev (fun k => weftref1_Valid.f k a b) (flt a b == 0) := by
  unfold weftref1_Valid.f
  exact Ev.bind (reffault_ev h0 h1) (Ev.now _)
theorem flt_nat {a : Int} {n : Nat} (hn : n ≤ 32) : flt a n = 0 ∨ flt a n = 12 := by
  unfold flt
  rw [if_neg (by omega)]
  by_cases h : a % (sz ((n : Int)).toNat : Int) = 0
  · rw [if_pos h]; exact .inl rfl
  · rw [if_neg h]; exact .inr rfl

/-- what a text is as a prefix -/
def PP (L : List Int) (r : Int × Int × Int) : Prop :=
  (∃ (a : Int) (n : Nat), 0 ≤ a ∧ a < 4294967296 ∧ n ≤ 32 ∧ L = pfx a n ∧ r = if flt a n = 0 then (a, (n : Int), 0) else (0, 0, 12)) ∨
  ((∀ (a : Int) (n : Nat), 0 ≤ a → a < 4294967296 → n ≤ 32 → L ≠ pfx a n) ∧ r = (0, 0, 11))
theorem fmt_inj {a b : Int} (ha : 0 ≤ a) (ha1 : a < 4294967296) (hb : 0 ≤ b) (hb1 : b < 4294967296) (h : fmt a = fmt b) : a = b := by
  have h1 := parse_fmt ha ha1
  have h2 := parse_fmt hb hb1
  rw [h] at h1
  have := Ev.uniq h1 h2
  exact (Prod.mk.inj this).1
theorem PP.uniq {L : List Int} {r s : Int × Int × Int} (hr : PP L r) (hs : PP L s) : r = s := by
  rcases hr with ⟨a, n, h0, h1, h2, h3, h4⟩ | ⟨h1, h2⟩
  · rcases hs with ⟨b, m, g0, g1, g2, g3, g4⟩ | ⟨g1, g2⟩
    · rw [h3] at g3
      obtain ⟨e1, e2⟩ := split_uniq (no_slash a) (no_slash b) g3
      have e1 := fmt_inj h0 h1 g0 g1 e1
      have e2 := dg_inj n (by omega) m (by omega) e2
      rw [h4, g4, e1, e2]
    · exact absurd h3 (g1 a n h0 h1 h2)
  · rcases hs with ⟨b, m, g0, g1, g2, g3, g4⟩ | ⟨g1, g2⟩
    · exact absurd g3 (h1 b m g0 g1 g2)
    · rw [h2, g2]
theorem no47 {L : List Int} (h : ∀ x ∈ L, x ≠ 47) (a : Int) (n : Nat) : L ≠ pfx a n := by
  intro e
  have : (47 : Int) ∈ L := by rw [e, pfx]; simp
  exact h 47 this rfl
/-- addr.ParsePrefix. -/
theorem pp_addr {L : List Int} (hL : By L) (hlen : L.length ≤ 1000000000000000000) : ∃ r, Ev (fun k => addr_ParsePrefix.f k (strOfNums L)) r ∧ PP L r := by
  obtain ⟨D, R, rfl, hD, hR⟩ := till L
  rcases hR with rfl | ⟨Q, rfl⟩
  · refine ⟨(0, 0, 11), ?_, .inr ⟨fun a n _ _ _ => by rw [List.append_nil]; exact no47 hD a n, rfl⟩⟩
    unfold addr_ParsePrefix.f
    refine scan hL hlen D.length [] D [] rfl rfl hD _ ?_
    refine Ev.step (f := fun _ => some (0, 0, 11)) (fun k => ?_) (Ev.now _)
    simp only [addr_ParsePrefix.l0]
    rw [if_neg (by rw [txt_size]; simp)]
  · have hBD : By D := hL.left
    have hBQ : By Q := fun x hx => hL x (List.mem_append.mpr (.inr (List.mem_cons_of_mem _ hx)))
    obtain ⟨p, hp, _, hpc⟩ := parse_both hBD (by simp at hlen; omega)
    obtain ⟨m, c, hn, hnc⟩ := num_all (top := 32) hBQ (by omega)
    have hcr : 0 ≤ c ∧ c ≤ Q.length := by
      rcases hnc with ⟨_, rfl⟩ | ⟨E, R, rfl, _, rfl, _⟩
      · omega
      · rw [List.length_append]; omega
    have huniq : ∀ (a : Int) (n : Nat), D ++ 47 :: Q = pfx a n → D = fmt a ∧ Q = dg n := fun a n e => split_uniq hD (no_slash a) e
    obtain ⟨pa, pe⟩ := p
    by_cases hg : pe = 0 ∧ c ≠ 0 ∧ c = Q.length
    · rcases hpc with ⟨hpc, _⟩ | ⟨a, h0, h1, hDa, hpc⟩
      · cases hpc; omega
      · obtain ⟨e1, e2⟩ := Prod.mk.inj hpc
        subst e1; subst e2; subst hDa
        have hh := j1_false (m := m) h0 h1
        refine ⟨_, pp_at hL hlen hD hp hn hcr (by rw [decide_eq_true hg]; exact hh), ?_⟩
        rcases hnc with ⟨_, rfl⟩ | ⟨E, R, rfl, hE, rfl, hm0, hm1, _⟩
        · omega
        · have : R = [] := by
            have h9 := hg.2.2
            rw [List.length_append] at h9
            exact List.length_eq_zero_iff.mp (by omega)
          subst this
          refine .inl ⟨pa, m.toNat, h0, h1, by omega, ?_, ?_⟩
          · rw [pfx, ← hE, List.append_nil]
          · rw [Int.toNat_of_nonneg hm0]
    · refine ⟨_, pp_at hL hlen hD hp hn hcr (by rw [decide_eq_false hg]; exact j1_true), .inr ⟨fun a n h0 h1 hn2 e => hg ?_, rfl⟩⟩
      obtain ⟨e1, e2⟩ := huniq a n e
      have hp2 := parse_fmt h0 h1
      rw [← e1] at hp2
      have u1 := Ev.uniq hp hp2
      have hn3 := num_dg (m := n) (R := []) (top := 32) (by intro x hx; cases hx) stop_nil (by omega) (by omega)
      rw [List.append_nil, ← e2] at hn3
      have u2 := Ev.uniq hn hn3
      have hdl := dg_len n
      rw [← e2] at hdl
      exact ⟨(Prod.mk.inj u1).2, by have := (Prod.mk.inj u2).2; omega, (Prod.mk.inj u2).2⟩
theorem len_pfx (a : Int) (n : Nat) (hn : n ≤ 32) : (pfx a n).length ≤ 18 := by
  have h := len_fmt a
  have : (dg n).length ≤ 2 := by
    unfold dg
    split
    · simp
    · rw [if_pos (by omega)]; simp
  simp [pfx]; omega
/-- The document's ParsePrefix. -/
theorem pp_ref {L : List Int} (hL : By L) (hlen : L.length ≤ 1000000000000000000) : ∃ r, Ev (fun k => weftref1_ParsePrefix.f k (strOfNums L)) r ∧ PP L r := by
  by_cases h18 : L.length ≤ 18
  rotate_left
  · refine ⟨(0, 0, 11), ?_, .inr ⟨fun a n _ _ hn e => by have := len_pfx a n hn; rw [← e] at this; omega, rfl⟩⟩
    refine Ev.congr (f := fun _ => some (0, 0, 11)) (fun k => ?_) (Ev.now _)
    unfold weftref1_ParsePrefix.f
    rw [if_pos (by rw [txt_size]; omega)]
  obtain ⟨D, R, rfl, hD, hR⟩ := till_c 47 L
  have hu := until_go hL hlen D.length [] D R rfl rfl hD hR
  rw [List.nil_append] at hu
  rcases hR with rfl | ⟨Q, rfl⟩
  · refine ⟨(0, 0, 11), ?_, .inr ⟨fun a n _ _ _ => by rw [List.append_nil]; exact no47 hD a n, rfl⟩⟩
    obtain ⟨K1, h1⟩ := hu; dsimp only at h1
    refine ⟨K1, fun k hk => ?_⟩
    have g1 := h1 k hk
    dsimp only
    unfold weftref1_ParsePrefix.f
    rw [if_neg (by rw [txt_size]; omega)]
    rw [show (([] : List Int).length : Int) = 0 from rfl] at g1
    rw [g1, Option.bind_some, if_pos (by rw [txt_size]; simp)]
  · have hBD : By D := hL.left
    have hBQ : By Q := fun x hx => hL x (List.mem_append.mpr (.inr (List.mem_cons_of_mem _ hx)))
    have hLl : (D ++ 47 :: Q).length = D.length + Q.length + 1 := by simp; omega
    obtain ⟨p, _, hp, hpc⟩ := parse_both hBD (by omega)
    have huniq : ∀ (a : Int) (n : Nat), D ++ 47 :: Q = pfx a n → D = fmt a ∧ Q = dg n := fun a n e => split_uniq hD (no_slash a) e
    have c1 : (strOfNums (D ++ 47 :: Q)).extract 0 ((D.length : Nat) : Int).toNat = strOfNums D := by rw [txt_cut]; simp
    have c2 : (strOfNums (D ++ 47 :: Q)).extract ((D.length : Int) + 1).toNat (strOfNums (D ++ 47 :: Q)).size = strOfNums Q := by
      rw [txt_drop, show ((D.length : Int) + 1).toNat = D.length + 1 from by omega]; simp
    have hgo : ∀ {n : Int} {r : Int × Int × Int}, Ev (fun k => weftref1_number.f k (strOfNums Q) 32) n → Ev (fun k => weftref1_ParsePrefix.j0 k p.1 n (decide (p.2 ≠ 0 ∨ n < 0))) r →
        Ev (fun k => weftref1_ParsePrefix.f k (strOfNums (D ++ 47 :: Q))) r := by
      intro n r hn hr
      obtain ⟨K1, h1⟩ := hu; dsimp only at h1
      obtain ⟨K2, h2⟩ := hn; dsimp only at h2
      obtain ⟨K3, h3⟩ := hr; dsimp only at h3
      obtain ⟨K4, h4⟩ := hp; dsimp only at h4
      refine ⟨max (max K1 K4) (max K2 K3), fun k hk => ?_⟩
      have g1 := h1 k (by omega)
      have g2 := h2 k (by omega)
      have g3 := h3 k (by omega)
      have g4 := h4 k (by omega)
      dsimp only
      unfold weftref1_ParsePrefix.f
      rw [show (([] : List Int).length : Int) = 0 from rfl] at g1
      rw [if_neg (by rw [txt_size]; omega), g1, Option.bind_some, if_neg (by rw [txt_size, hLl]; omega), if_pos (by omega), if_pos (by rw [txt_size, hLl]; omega), c1, g4, Option.bind_some,
        w64 (n := (D.length : Int) + 1) (by omega) (by omega), if_pos (by omega), if_pos (by rw [txt_size, hLl]; omega), c2, g2, Option.bind_some]
      by_cases he : p.2 = 0
      · rw [if_pos he]
        by_cases hn0 : n < 0
        · rw [decide_eq_true hn0]; rw [decide_eq_true (.inr hn0)] at g3; exact g3
        · rw [decide_eq_false hn0]; rw [decide_eq_false (by omega)] at g3; exact g3
      · rw [if_neg he]; rw [decide_eq_true (.inl he)] at g3; exact g3
    have jt : ∀ {n : Int}, Ev (fun k => weftref1_ParsePrefix.j0 k p.1 n true) (0, 0, 11) := by
      intro n
      refine Ev.step (f := fun _ => some (0, 0, 11)) (fun k => ?_) (Ev.now _)
      simp only [weftref1_ParsePrefix.j0]
      rw [if_pos trivial]
    by_cases hm : ∃ m, m ≤ 32 ∧ Q = dg m
    · obtain ⟨m, hm, hQm⟩ := hm
      have hn := refnum_yes (most := 32) hm (by omega)
      rw [← hQm] at hn
      rcases hpc with ⟨rfl, hno⟩ | ⟨a, h0, h1, hDa, rfl⟩
      · refine ⟨(0, 0, 11), hgo hn (by rw [decide_eq_true (.inl (by decide))]; exact jt), .inr ⟨fun a n h0 h1 h2 e => hno a h0 h1 (huniq a n e).1, rfl⟩⟩
      · refine ⟨if flt a m = 0 then (a, (m : Int), 0) else (0, 0, 12), hgo hn ?_, .inl ⟨a, m, h0, h1, hm, by rw [pfx, hDa, hQm], rfl⟩⟩
        rw [decide_eq_false (by omega)]
        refine Ev.step (f := fun k => (weftref1_fault.f k a m).bind fun t129 => (if t129 = 0 then (some (a, (m : Int), 0)) else (some (0, 0, t129)))) (fun k => ?_) (Ev.bind (reffault_ev h0 h1) ?_)
        · simp only [weftref1_ParsePrefix.j0]
          rw [if_neg (by decide)]
        · rcases flt_nat (a := a) hm with h | h
          · simp only [if_pos h]; exact Ev.now _
          · simp only [h]; exact Ev.now _
    · refine ⟨(0, 0, 11), hgo (refnum_no (most := 32) hBQ (by omega) (fun n hn e => hm ⟨n, hn, e⟩)) (by rw [decide_eq_true (.inr (by omega))]; exact jt), .inr ⟨fun a n h0 h1 h2 e => hm ⟨n, h2, (huniq a n e).2⟩, rfl⟩⟩
theorem pp_both {L : List Int} (hL : By L) (hlen : L.length ≤ 1000000000000000000) : ∃ r, Ev (fun k => addr_ParsePrefix.f k (strOfNums L)) r ∧ Ev (fun k => weftref1_ParsePrefix.f k (strOfNums L)) r := by
  obtain ⟨r, h1, h2⟩ := pp_addr hL hlen
  obtain ⟨s, g1, g2⟩ := pp_ref hL hlen
  rw [← h2.uniq g2] at g1
  exact ⟨r, h1, g1⟩
end Go.Proofs.YtncpcjphljfcpaaDoor.Txt

namespace Go.Proofs.YtncpcjphljfcpaaDoor.Txt
open Go.RowKit Go.Proofs.YtncpcjphljfcpaaDoor.PScr Go.Proofs.YtncpcjphljfcpaaDoorW.PrintWords Go.Proofs.YtncpcjphljfcpaaDoorW.PrintLast Go.Proofs.YtncpcjphljfcpaaDoorW.PrintMore

theorem itoa_ev {n : Int} (h0 : 0 ≤ n) (h1 : n < 256) : strconv_Itoa.f n = some (strOfNums (dg n.toNat)) := by
  have := itoa_all n.toNat (by omega)
  rwa [Int.toNat_of_nonneg h0] at this
theorem reffmt_step {n : Int} {i : Nat} {T : List Int} {r : ByteArray} (h0 : 0 ≤ n) (h1 : n < 4294967296) (hi : i < 3) (hT : T.length ≤ 1000)
    (hr : Ev (fun k => weftref1_Format.l0 k (n / 256) (strOfNums (dg (n / 256 % 256).toNat ++ 46 :: T)) ((i + 1 : Nat) : Int)) r) : Ev (fun k => weftref1_Format.l0 k n (strOfNums T) (i : Int)) r := by
  refine Ev.step (fun k => ?_) hr
  have hl := dg_len (n / 256 % 256).toNat
  simp only [weftref1_Format.l0]
  rw [if_pos (by omega), Int.tdiv_eq_ediv_of_nonneg h0, w64 (n := n / 256) (by omega) (by omega), Int.tmod_eq_emod_of_nonneg (by omega), itoa_ev (by omega) (by omega), Option.bind_some,
    if_pos (by rw [txt_size]; omega), show (⟨#[46]⟩ : ByteArray) = strOfNums [46] from by decide, txt_app, if_pos (by rw [txt_size, txt_size]; simp; omega), txt_app, w64 (by omega) (by omega)]
  simp
theorem refformat_ev {a : Int} (h0 : 0 ≤ a) (h1 : a < 4294967296) : Ev (fun k => weftref1_Format.f k a) (strOfNums (fmt a)) := by
  have l0 := dg_len (byteOf a 0)
  have l1 := dg_len (byteOf a 1)
  have l2 := dg_len (byteOf a 2)
  have l3 := dg_len (byteOf a 3)
  have e0 : (a / 256 / 256 / 256 % 256).toNat = byteOf a 0 := by unfold byteOf; rw [show a / 2 ^ (24 - 8 * 0) = a / 16777216 from rfl]; omega
  have e1 : (a / 256 / 256 % 256).toNat = byteOf a 1 := by unfold byteOf; rw [show a / 2 ^ (24 - 8 * 1) = a / 65536 from rfl]; omega
  have e2 : (a / 256 % 256).toNat = byteOf a 2 := by unfold byteOf; rw [show a / 2 ^ (24 - 8 * 2) = a / 256 from rfl]
  have e3 : (a % 256).toNat = byteOf a 3 := by unfold byteOf; rw [show a / 2 ^ (24 - 8 * 3) = a / 1 from rfl]; omega
  have hgo : Ev (fun k => weftref1_Format.l0 k a (strOfNums (dg (byteOf a 3))) 0) (strOfNums (fmt a)) := by
    refine reffmt_step (i := 0) h0 h1 (by omega) (by omega) ?_
    rw [e2]
    refine reffmt_step (i := 1) (by omega) (by omega) (by omega) (by simp; omega) ?_
    rw [e1]
    refine reffmt_step (i := 2) (by omega) (by omega) (by omega) (by simp; omega) ?_
    rw [e0]
    refine Ev.step (f := fun _ => some (strOfNums (fmt a))) (fun k => ?_) (Ev.now _)
    simp only [weftref1_Format.l0]
    rw [if_neg (by omega)]
    simp [fmt, quad, tail]
  refine Ev.congr (fun k => ?_) hgo
  unfold weftref1_Format.f
  rw [w64 (n := a) (by omega) (by omega), Int.tmod_eq_emod_of_nonneg h0, itoa_ev (by omega) (by omega), Option.bind_some, e3]
theorem refpfx_ev {a b : Int} (h0 : 0 ≤ a) (h1 : a < 4294967296) :
    Ev (fun k => weftref1_FormatPrefix.f k a b) (if flt a b = 0 then (strOfNums (pfx a b.toNat), 0) else (⟨#[]⟩, flt a b)) := by
  unfold weftref1_FormatPrefix.f
  refine Ev.bind (reffault_ev h0 h1) ?_
  by_cases h : flt a b = 0
  · simp only [if_pos h]
    obtain ⟨hb0, hb1⟩ := flt_zero h
    refine Ev.bind (refformat_ev h0 h1) ?_
    have e : strOfNums (fmt a) ++ (⟨#[47]⟩ : ByteArray) ++ strOfNums (dg b.toNat) = strOfNums (pfx a b.toNat) := by
      rw [show (⟨#[47]⟩ : ByteArray) = strOfNums [47] from by decide, txt_app, txt_app]
      simp [pfx]
    have hl := len_fmt a
    have hd := dg_len b.toNat
    have c1 : (strOfNums (fmt a)).size + 1 ≤ 9223372036854775807 := by rw [txt_size]; omega
    have c2 : (strOfNums (fmt a) ++ (⟨#[47]⟩ : ByteArray)).size + (strOfNums (dg b.toNat)).size ≤ 9223372036854775807 := by
      rw [show (⟨#[47]⟩ : ByteArray) = strOfNums [47] from by decide, txt_app, txt_size, txt_size]; simp; omega
    simp only [if_pos c1, itoa_ev hb0 (by omega : b < 256), Option.bind_some, if_pos c2, e]
    exact Ev.now _
  · simp only [if_neg h]
    exact Ev.now _

/-! Spans, membership, classes. -/
theorem and_high (x k : Nat) (hk : k ≤ 32) (hx : x < 4294967296) : x &&& (4294967296 - 2 ^ k) = x / 2 ^ k * 2 ^ k := by
  have h1 : x / 2 ^ k * 2 ^ k = (x >>> k) <<< k := by rw [Nat.shiftRight_eq_div_pow, Nat.shiftLeft_eq]
  rw [h1]
  have hp : 0 < 2 ^ k := Nat.two_pow_pos k
  apply Nat.eq_of_testBit_eq
  intro i
  have e : 4294967296 - 2 ^ k = 2 ^ 32 - ((2 ^ k - 1) + 1) := by omega
  have hle : 2 ^ k ≤ 2 ^ 32 := Nat.pow_le_pow_right (by omega) hk
  rw [Nat.testBit_and, e, Nat.testBit_two_pow_sub_succ (by omega), Nat.testBit_two_pow_sub_one, Nat.testBit_shiftLeft, Nat.testBit_shiftRight]
  by_cases hi : k ≤ i
  · rw [show k + (i - k) = i from by omega]
    by_cases h32 : i < 32
    · simp [hi, h32]
    · have : x.testBit i = false := Nat.testBit_lt_two_pow (by
        have : 2 ^ 32 ≤ 2 ^ i := Nat.pow_le_pow_right (by omega) (by omega)
        omega)
      simp [this]
  · simp [hi]; omega
theorem and_mask {x : Int} {n : Nat} (h0 : 0 ≤ x) (h1 : x < 4294967296) (hn : n ≤ 32) : Go.bits .and .u32 x ((4294967296 - sz n : Nat) : Int) = x - x % (sz n : Int) := by
  have hp := sz_pos n
  have hle := sz_le n
  rw [Go.u32_and _ _ h0 h1 (by omega) (by omega), Int.toNat_natCast]
  have := and_high x.toNat (32 - n) (by omega) (by omega)
  unfold sz at *
  rw [this]
  have e := Nat.div_add_mod x.toNat (2 ^ (32 - n))
  have e2 := mod_sz n h0
  unfold sz at e2
  have e3 : x.toNat / 2 ^ (32 - n) * 2 ^ (32 - n) = x.toNat - x.toNat % 2 ^ (32 - n) := by rw [Nat.mul_comm]; omega
  rw [e3, ← e2]
  have := Nat.mod_le x.toNat (2 ^ (32 - n))
  omega
theorem xor_all : ∀ n : Nat, n < 33 → Go.bits .xor .u32 4294967295 ((4294967296 - sz n : Nat) : Int) = ((sz n - 1 : Nat) : Int) := by decide +kernel
theorem last_eq {a : Int} {n : Nat} (h0 : 0 ≤ a) (h1 : a < 4294967296) (hn : n ≤ 32) (hd : a % (sz n : Int) = 0) :
    addr_last.f a n = some (a + sz n - 1) := by
  have hle := sz_le n
  have hp := sz_pos n
  unfold addr_last.f
  rw [mask_all n (by omega), Option.bind_some, xor_all n (by omega), Go.u32_or _ _ h0 h1 (by omega) (by omega)]
  have e : (((sz n - 1 : Nat) : Int)).toNat = sz n - 1 := by omega
  have hd' : a.toNat % sz n = 0 := by have := mod_sz n h0; omega
  have := Go.nat_join (32 - n) a.toNat (sz n - 1) hd' (by unfold sz at *; omega)
  rw [e, this]
  congr 1
  omega
theorem flt_dvd {a b : Int} (h : flt a b = 0) : a % (sz b.toNat : Int) = 0 := by
  unfold flt at h
  split at h
  · omega
  · split at h
    · assumption
    · omega
/-- a block ends within the addresses -/
theorem block_end : ∀ n : Nat, n < 33 → 4294967296 % (sz n : Int) = 0 := by decide +kernel
theorem end_le {a : Int} {n : Nat} (h1 : a < 4294967296) (hn : n ≤ 32) (hd : a % (sz n : Int) = 0) : a + sz n ≤ 4294967296 := by
  have hp := sz_pos n
  have h2 := block_end n (by omega)
  obtain ⟨x, hx⟩ := Int.dvd_of_emod_eq_zero hd
  obtain ⟨y, hy⟩ := Int.dvd_of_emod_eq_zero h2
  have hlt : (sz n : Int) * x < (sz n : Int) * y := by omega
  have hxy : x < y := Int.lt_of_mul_lt_mul_left hlt (by omega)
  have : (sz n : Int) * (x + 1) ≤ (sz n : Int) * y := Int.mul_le_mul_of_nonneg_left (by omega) (by omega)
  rw [Int.mul_add, Int.mul_one] at this
  omega
def spn (a b : Int) : Int × Int × Int := if flt a b = 0 then (a, a + sz b.toNat - 1, 0) else (0, 0, flt a b)
theorem span_ev {a b : Int} (h0 : 0 ≤ a) (h1 : a < 4294967296) : Ev (fun k => addr_Span.f k a b) (spn a b) := by
  unfold addr_Span.f spn
  refine Ev.bind (fault_ev h0 h1) ?_
  by_cases h : flt a b = 0
  · obtain ⟨hb0, hb1⟩ := flt_zero h
    have hl := last_eq (n := b.toNat) h0 h1 (by omega) (flt_dvd h)
    rw [Int.toNat_of_nonneg hb0] at hl
    simp only [if_pos h, hl, Option.bind_some]
    exact Ev.now _
  · simp only [if_neg h]
    exact Ev.now _
theorem refspan_ev {a b : Int} (h0 : 0 ≤ a) (h1 : a < 4294967296) : Ev (fun k => weftref1_Span.f k a b) (spn a b) := by
  unfold weftref1_Span.f spn
  refine Ev.bind (reffault_ev h0 h1) ?_
  by_cases h : flt a b = 0
  · obtain ⟨hb0, hb1⟩ := flt_zero h
    have hs := size_ev (n := b.toNat) (by omega)
    have he := end_le (n := b.toNat) h1 (by omega) (flt_dvd h)
    have hp := sz_pos b.toNat
    have hle := sz_le b.toNat
    rw [Int.toNat_of_nonneg hb0] at hs
    simp only [if_pos h]
    refine Ev.bind hs ?_
    simp only [w64 (n := a) (by omega) (by omega), w64 (n := a + (sz b.toNat : Int)) (by omega) (by omega), w64 (n := a + (sz b.toNat : Int) - 1) (by omega) (by omega),
      show (a + (sz b.toNat : Int) - 1) % 4294967296 = a + sz b.toNat - 1 from by omega]
    exact Ev.now _
  · simp only [if_neg h]
    exact Ev.now _
def cnt (a b x : Int) : Bool := decide (flt a b = 0 ∧ a ≤ x ∧ x ≤ a + sz b.toNat - 1)
theorem contains_ev {a b x : Int} (h0 : 0 ≤ a) (h1 : a < 4294967296) (hx0 : 0 ≤ x) (hx1 : x < 4294967296) : Ev (fun k => addr_Contains.f k a b x) (cnt a b x) := by
  unfold addr_Contains.f cnt
  refine Ev.bind (valid_ev h0 h1) ?_
  by_cases h : flt a b = 0
  · obtain ⟨hb0, hb1⟩ := flt_zero h
    have hd := flt_dvd h
    have hp := sz_pos b.toNat
    have hm := mask_all b.toNat (by omega)
    rw [Int.toNat_of_nonneg hb0] at hm
    simp only [h, beq_self_eq_true, if_true, hm, Option.bind_some, and_mask (n := b.toNat) hx0 hx1 (by omega), true_and]
    have e : (x - x % (sz b.toNat : Int) == a) = decide (a ≤ x ∧ x ≤ a + sz b.toNat - 1) := by
      have hm0 := Int.emod_nonneg x (show (sz b.toNat : Int) ≠ 0 by omega)
      have hm1 := Int.emod_lt_of_pos x (show (0 : Int) < sz b.toNat by omega)
      by_cases hh : a ≤ x ∧ x ≤ a + sz b.toNat - 1
      · rw [decide_eq_true hh, beq_iff_eq]
        have hd' : (x - a) % (sz b.toNat : Int) = x - a := Int.emod_eq_of_lt (by omega) (by omega)
        have hs : (x - a) % (sz b.toNat : Int) = x % (sz b.toNat : Int) := by rw [Int.sub_emod, hd, Int.sub_zero, Int.emod_emod_of_dvd _ (Int.dvd_refl _)]
        omega
      · rw [decide_eq_false hh, beq_eq_false_iff_ne]
        intro e
        exact hh (by omega)
    rw [e]
    exact Ev.now _
  · have hb : (flt a b == 0) = false := by simpa using h
    simp only [hb, h, false_and, decide_false]
    exact Ev.now _
theorem refcontains_ev {a b x : Int} (h0 : 0 ≤ a) (h1 : a < 4294967296) : Ev (fun k => weftref1_Contains.f k a b x) (cnt a b x) := by
  unfold weftref1_Contains.f cnt
  refine Ev.bind (refspan_ev h0 h1) ?_
  unfold spn
  by_cases h : flt a b = 0
  · simp only [if_pos h, if_true]
    by_cases hx : a ≤ x
    · simp only [h, hx, true_and]; exact Ev.now _
    · simp only [h, hx, true_and, false_and, decide_false]; exact Ev.now _
  · simp only [h, if_false, false_and, decide_false]; exact Ev.now _
theorem class_eq {a : Int} (h0 : 0 ≤ a) (h1 : a < 4294967296) : addr_Class.f a = weftref1_Class.f a := by
  have m8 := and_mask (n := 8) h0 h1 (by omega)
  have m4 := and_mask (n := 4) h0 h1 (by omega)
  have e8 : (sz 8 : Nat) = 16777216 := by decide
  have e4 : (sz 4 : Nat) = 268435456 := by decide
  rw [e8] at m8
  rw [e4] at m4
  have m8 : Go.bits .and .u32 a 4278190080 = a - a % 16777216 := m8
  have m4 : Go.bits .and .u32 a 4026531840 = a - a % 268435456 := m4
  unfold addr_Class.f weftref1_Class.f cls_ct
  rw [m8, m4, w64 (n := a) (by omega) (by omega), Int.tdiv_eq_ediv_of_nonneg h0, w64 (by omega) (by omega)]
  simp only [beq_iff_eq]
  by_cases c1 : a / 16777216 = 0
  · rw [if_pos (show a - a % 16777216 = 0 by omega), if_pos c1]
  rw [if_neg (show ¬ (a - a % 16777216 = 0) by omega), if_neg c1]
  by_cases c2 : a / 16777216 = 127
  · rw [if_pos (show a - a % 16777216 = 2130706432 by omega), if_pos c2]
  rw [if_neg (show ¬ (a - a % 16777216 = 2130706432) by omega), if_neg c2]
  by_cases c3 : a / 16777216 ≥ 240
  · rw [if_neg (show ¬ (a - a % 268435456 = 3758096384) by omega), if_pos (show a - a % 268435456 = 4026531840 by omega), if_pos c3]
  rw [if_neg c3]
  by_cases c4 : a / 16777216 ≥ 224
  · rw [if_pos (show a - a % 268435456 = 3758096384 by omega), if_pos c4]
  rw [if_neg (show ¬ (a - a % 268435456 = 3758096384) by omega), if_neg (show ¬ (a - a % 268435456 = 4026531840) by omega), if_neg c4]
end Go.Proofs.YtncpcjphljfcpaaDoor.Txt
