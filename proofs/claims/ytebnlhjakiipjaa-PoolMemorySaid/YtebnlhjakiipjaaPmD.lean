/- A list, and lists that go on behind it in its block or elsewhere. No condition. -/
import Derived.Test.YtebnlhjakiipjaaPmC
set_option linter.unusedVariables false
set_option linter.unusedSimpArgs false
namespace Go.Proofs.Ytebnlhjakiipjaa.Pl
open Go.RowKit Go.Maps Go.Proofs.YtebnlhjakiipjaaW.PrintWords Go.Proofs.YtebnlhjakiipjaaW.PrintMore Go.Proofs.YtebnlhjakiipjaaW.PrintLast Go.Proofs.Ytebnlhjakiipjaa.PPlf
def Ap (u v : Value) : Prop := ∀ k, u.ownBlock = some k → v.ownBlock ≠ some k
/-- l as it is, whatever is appended to r -/
structure Pfx (w : World) (l : Value) (xl : List S27) (r : Value) (xr : List S27) : Prop where
  row : Row w 0 l xl
  sh : Ap l r ∨ ∃ A c, l = .slice A xl.length c ∧ r = .slice A xr.length c ∧ ∃ ys, xr = xl ++ ys
theorem Pfx.refl {w : World} {r : Value} {xr : List S27} (h : Row w 0 r xr) : Pfx w r xr r xr := by
  obtain ⟨A, c, e, _⟩ := h.C
  exact ⟨h, .inr ⟨A, c, e, e, [], by simp⟩⟩
theorem Pfx.below {w w' : World} {l r : Value} {xl xr : List S27} (h : Pfx w l xl r xr) (hb : Below w.heap.size w w') : Pfx w' l xl r xr := ⟨h.row.below hb, h.sh⟩
theorem Pfx.turn {w w' : World} {l r : Value} {xl xr : List S27} {H : List Nat} (h : Pfx w l xl r xr) (ht : Turn w w' H) (hH : ∀ k, l.ownBlock = some k → k ∉ H) : Pfx w' l xl r xr := ⟨h.row.turn ht hH, h.sh⟩
/-- what an append leaves -/
structure App (w w' : World) (r : Value) (xr : List S27) (r' : Value) (ys : List S27) : Prop where
  row : Row w' 0 r' (xr ++ ys)
  tn : Turn w w' r.ownBlock.toList
  nb : NB r r' w
  px : ∀ (l : Value) (xl : List S27), Pfx w l xl r xr → Pfx w' l xl r' (xr ++ ys)
theorem row_app {w : World} {r : Value} {xr : List S27} (h : Row w 0 r xr) (news : List S27) (h0 : 0 < news.length) (hl : xr.length + news.length ≤ 8796093022207) (cs : Array Value) (hcs : cs.toList = pfC news) :
    ∃ r' w', (Builtin.append_ #[28, 28] 28 #[r, .slice (some ⟨w.heap.size, 0, none⟩) news.length news.length]).run Try.prog (w.alloc (.cells cs 27)) = .ok r' w' ∧ App w w' r xr r' news := by
  have hb := below_alloc (Below.refl w.heap.size w) (.cells cs 27)
  obtain ⟨A, c, e, _⟩ := h.C
  subst e
  obtain ⟨w', g', c', h1, h2, h3⟩ := (h.below hb).app news.length rfl h0 hl ⟨w.heap.size, 0, none⟩ news.length (fun j u hj => by
    have := World.news_of_block (cs := cs) (t := 27) (fr := (0, 0)) (heap_alloc_new w (.cells cs 27))
    rw [hcs] at this
    exact this j u hj)
  have hs : (w.alloc (.cells cs 27)).heap.size = w.heap.size + 1 := by simp
  rcases h3 with ⟨h4, rfl, rfl, hg⟩ | ⟨h4, h5, h6, h7⟩
  · have hg2 : w.grownBy w' (some g') := World.grownBy.trans (World.grownBy_alloc w _ _) hg
    refine ⟨_, w', h1, ⟨by rw [List.length_append] at h2; exact h2, Turn.of_grown hg2 (fun b hb => by injection hb with hb; simp [Value.ownBlock, hb]), fun k hk => .inl hk, fun l xl hp => ?_⟩⟩
    rcases hp.sh with h8 | ⟨A2, c2, e1, e2, ys, e3⟩
    · exact ⟨hp.row.step (fun k hk => hg2.block k (Row.lt hp.row k hk).2 (fun e => h8 k hk (by rw [e]; rfl))), .inl h8⟩
    · injection e2 with e4 _ e5
      subst e4 e5 e1
      refine ⟨?_, .inr ⟨_, _, rfl, by rw [List.length_append], ys ++ news, by rw [e3, List.append_assoc]⟩⟩
      refine Row.prefix_ (ys := ys ++ news) ?_ rfl
      rw [← List.append_assoc, ← e3]
      exact h2
  · have hb2 : Below w.heap.size w w' := hb.trans (Below.mono h7 (by omega))
    refine ⟨_, w', h1, ⟨by rw [List.length_append] at h2; exact h2, Turn.of_below hb2 _, fun k hk => ?_, fun l xl hp => ⟨hp.row.below hb2, .inl (fun k hk hk2 => ?_)⟩⟩⟩
    · have hk : some g' = some k := hk
      injection hk with hk
      exact .inr (by omega)
    · have hk2 : some g' = some k := hk2
      injection hk2 with hk2
      have := (Row.lt hp.row k hk).2
      omega
/-- a copy, and more behind it -/
theorem row_copy_app {w : World} {A : Option Addr} {l : List S27} {c : Nat} (h : Kd.C k27 w A l.length l) (news : List S27) (h0 : 0 < news.length) (hl : l.length + news.length ≤ 8796093022207) (cs : Array Value) (hcs : cs.toList = pfC news) :
    ∃ v1 w1 v2 w2, (Builtin.append_ #[28, 28] 28 #[.slice none 0 0, .slice A l.length c]).run Try.prog w = .ok v1 w1 ∧ (Builtin.append_ #[28, 28] 28 #[v1, .slice (some ⟨w1.heap.size, 0, none⟩) news.length news.length]).run Try.prog (w1.alloc (.cells cs 27)) = .ok v2 w2 ∧ Row w2 0 v2 (l ++ news) ∧ Below w.heap.size w w2 ∧ ∀ k, v2.ownBlock = some k → w.heap.size ≤ k := by
  obtain ⟨v1, w1, h1, h2, h3⟩ := row_copy (c := c) h (by omega)
  obtain ⟨v2, w2, h4, h5⟩ := row_app h2.low news h0 hl cs hcs
  refine ⟨v1, w1, v2, w2, h1, h4, h5.row, h3.trans (h5.tn.below h3.size (fun k hk => (Row.lt h2 k (by simpa using hk)).1)), fun k hk => ?_⟩
  rcases h5.nb k hk with h6 | h6
  · exact (Row.lt h2 k h6).1
  · have := h3.size; omega
theorem Ap.nb {w : World} {u r r' : Value} {xs : List S27} (h : Ap u r) (hu : Row w 0 u xs) (hn : NB r r' w) : Ap u r' := fun k hk hk2 => by
  rcases hn k hk2 with h1 | h1
  · exact h k hk h1
  · have := (Row.lt hu k hk).2; omega
theorem Ap.new {w : World} {u v : Value} {xs : List S27} (hu : Row w 0 u xs) (hv : ∀ k, v.ownBlock = some k → w.heap.size ≤ k) : Ap u v := fun k hk hk2 => by
  have := (Row.lt hu k hk).2
  have := hv k hk2
  omega
theorem Ap.symm {u v : Value} (h : Ap u v) : Ap v u := fun k hk hk2 => h k hk2 hk
theorem Row.ap {w w' : World} {u r : Value} {xs : List S27} (hu : Row w 0 u xs) (ht : Turn w w' r.ownBlock.toList) (h : Ap u r) : Row w' 0 u xs := hu.turn ht (fun k hk hm => h k hk (by simpa using hm))
theorem NB.trans {w0 w : World} {l r r' : Value} (h : NB l r w0) (k : NB r r' w) (hs : w0.heap.size ≤ w.heap.size) : NB l r' w0 := fun b hb => by
  rcases k b hb with h1 | h1
  · exact h b h1
  · exact .inr (Nat.le_trans hs h1)
theorem Turn.nb {w0 w w' : World} {l r : Value} (h : Turn w0 w l.ownBlock.toList) (ht : Turn w w' r.ownBlock.toList) (hn : NB l r w0) : Turn w0 w' l.ownBlock.toList := h.trans ht (fun b hb => by
  rcases hn b (by simpa using hb) with h1 | h1
  · exact .inl (by simpa using h1)
  · exact .inr h1)
end Go.Proofs.Ytebnlhjakiipjaa.Pl
