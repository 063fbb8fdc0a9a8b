/- Entries of books: where they lie; the mark that one was reversed; a line's amount turned in place. -/
import Derived.Test.YtjljfkioiglaiaaPost
set_option linter.unusedVariables false
set_option linter.unusedSimpArgs false
namespace Go.Proofs.Ytjljfkioiglaiaa
open Go.RowKit Go.Shelf

theorem ecells_get {vs : List Value} {es : List (List Ln × Bool)} {i : Nat} {v : Value} {e : List Ln × Bool} (hv : vs[i]? = some v) (he : es[i]? = some e) : (ecells vs es)[i * 2]? = some v ∧ (ecells vs es)[i * 2 + 1]? = some (.bool e.2) := by
  induction vs generalizing es i with
  | nil => simp at hv
  | cons v0 vs ih =>
    cases es with
    | nil => simp at he
    | cons e0 es =>
      cases i with
      | zero =>
        simp at hv he
        subst hv he
        exact ⟨rfl, rfl⟩
      | succ i =>
        have := ih (es := es) (i := i) (by simpa using hv) (by simpa using he)
        rw [show (i + 1) * 2 = i * 2 + 1 + 1 by omega]
        simpa only [ecells, List.getElem?_cons_succ] using this
theorem ecells_mark {vs : List Value} {es : List (List Ln × Bool)} {i : Nat} (h : vs.length = es.length) (hi : i < es.length) (d : Bool) : ecells vs (es.modify i (fun e => (e.1, d))) = (ecells vs es).set (i * 2 + 1) (.bool d) := by
  induction vs generalizing es i with
  | nil => simp at h; omega
  | cons v0 vs ih =>
    cases es with
    | nil => simp at h
    | cons e0 es =>
      cases i with
      | zero => simp [ecells, List.modify]
      | succ i =>
        rw [show (i + 1) * 2 + 1 = (i * 2 + 1) + 1 + 1 by omega]
        simp only [List.modify_succ_cons, ecells, List.set_cons_succ, ih (es := es) (i := i) (by simpa using h) (by simpa using hi)]

theorem BookAt.entry {w : World} {bb mb : Nat} {ev : Value} {B : Bk} (h : BookAt w bb mb ev B) (i : Nat) (e : List Ln × Bool) (he : B.es[i]? = some e) :
    ∃ g c v, ev = .slice (some ⟨g, 0, none⟩) B.es.length c ∧ B.es.length ≤ c ∧ w.cell? ⟨g, i * 2, none⟩ = some v ∧ w.cell? ⟨g, i * 2 + 1, none⟩ = some (.bool e.2) ∧ OwnLines w v e.1 ∧ (∀ k, w.frozen? ⟨g, k, none⟩ = false) ∧ g ≠ bb ∧ g ≠ mb := by
  obtain ⟨h1, ⟨vs, h2, h3, h4⟩, ⟨n0, h5⟩, h6⟩ := h
  have hb1 := own_other h3 h1 (by decide)
  obtain ⟨mes, clock, hmap⟩ := h5.is_map
  have hi := (List.getElem?_eq_some_iff.1 he).1
  obtain ⟨v, hv⟩ : ∃ v, vs[i]? = some v := ⟨_, List.getElem?_eq_getElem (by omega)⟩
  obtain ⟨g0, g1⟩ := ecells_get hv he
  have hcells := fun g e => h3.cells (g := g) e
  rcases h3.2 with ⟨rfl, h0⟩ | ⟨g, cap, cur, rfl, _, hg, hnc, _⟩
  · omega
  · have ha : ∀ i, (⟨g, 0, none⟩ : Addr).add i = ⟨g, i, none⟩ := fun i => by unfold Addr.add; split <;> simp_all
    have q0 := hcells g rfl _ _ g0
    have q1 := hcells g rfl _ _ g1
    rw [ha] at q0 q1
    refine ⟨g, cap, v, rfl, hnc, q0, q1, h4 i v e hv he, fun k => frozen_at hg k, fun e => hb1 (by simp [Value.ownBlock, e]), fun e => ?_⟩
    subst e
    rw [hmap] at hg
    cases hg

def markB (B : Bk) (i : Nat) : Bk := ⟨B.es.modify i (fun e => (e.1, true)), B.bal⟩
theorem markB_comm (B : Bk) (i j : Nat) : markB (markB B i) j = markB (markB B j) i := by
  unfold markB
  congr 1
  apply List.ext_getElem?
  intro k
  simp only [List.getElem?_modify]
  by_cases h1 : i = k <;> by_cases h2 : j = k <;> simp [h1, h2] <;> rfl

theorem BookAt.mark {w : World} {bb mb g c : Nat} {B : Bk} (h : BookAt w bb mb (.slice (some ⟨g, 0, none⟩) B.es.length c) B) (i : Nat) (hi : i < B.es.length) :
    BookAt (w.setCell ⟨g, i * 2 + 1, none⟩ (.bool true)) bb mb (.slice (some ⟨g, 0, none⟩) B.es.length c) (markB B i) := by
  obtain ⟨h1, ⟨vs, h2, h3, h4⟩, ⟨n0, h5⟩, h6⟩ := h
  have hb1 := own_other h3 h1 (by decide)
  obtain ⟨mes, clock, hmap⟩ := h5.is_map
  have hgb : bb ≠ g := fun e => hb1 (by simp [Value.ownBlock, e])
  rcases h3 with ⟨hl, ⟨hn, h0⟩ | ⟨g', cap, cur, he, hle, hg, hnc, hcm, hcs, htk⟩⟩
  · cases hn
  · cases he
    have hgm : mb ≠ g := fun e => by subst e; rw [hmap] at hg; cases hg
    have hset := heap_set_same hg (i * 2 + 1) (.bool true)
    have hsz : (markB B i).es.length = B.es.length := by simp [markB]
    refine ⟨(Below.heap_setCell w ⟨g, i * 2 + 1, none⟩ (.bool true) bb hgb).trans h1, ⟨vs, by rw [hsz]; exact h2, ?_, ?_⟩, ⟨n0, h5.of_block (Below.heap_setCell w ⟨g, i * 2 + 1, none⟩ (.bool true) mb hgm)⟩, h6⟩
    · rw [hsz]
      have hm : ecells vs (markB B i).es = (ecells vs B.es).set (i * 2 + 1) (.bool true) := ecells_mark h2 hi true
      rw [hm]
      refine ⟨by rw [List.length_set]; exact hl, .inr ⟨g, c, _, rfl, hle, hset, hnc, hcm, by simpa using hcs, ?_⟩⟩
      rw [Array.toList_setIfInBounds, List.take_set, htk]
    · intro j v e hv he
      have he' : ∃ e0, B.es[j]? = some e0 ∧ e.1 = e0.1 := by
        simp only [markB, List.getElem?_modify] at he
        cases hj : B.es[j]? with
        | none => rw [hj] at he; simp at he
        | some e0 =>
          rw [hj] at he
          refine ⟨e0, rfl, ?_⟩
          simp at he
          rw [← he]
          split <;> rfl
      obtain ⟨e0, h0, h1'⟩ := he'
      rw [h1']
      refine (h4 j v e0 hv h0).keep ⟨by simp [World.setCell], fun k cs fr hk => Below.heap_setCell w ⟨g, i * 2 + 1, none⟩ (.bool true) k (fun e => ?_)⟩
      subst e
      rw [hg] at hk
      cases hk

/-- A line's amount turned in place. -/
theorem LinesAt.set2 {w : World} {b o c k : Nat} {l : List Ln} {x : Ln} {u : Int} (h : LinesAt w (.slice (some ⟨b, o, none⟩) l.length c) l) (hx : l[k]? = some x) (hu : I64 u) :
    LinesAt (w.setCell ⟨b, o + k * 3 + 2, none⟩ (.int .i64 u)) (.slice (some ⟨b, o, none⟩) l.length c) (l.set k ⟨x.f0, u⟩) := by
  obtain ⟨A, c', e, hm, hok, h⟩ := h
  cases e
  have hk := (List.getElem?_eq_some_iff.1 hx).1
  refine ⟨_, c, by rw [List.length_set], by rw [List.length_set]; exact hm, ?_, fun _ => ?_⟩
  · intro y hy
    rcases List.mem_or_eq_of_mem_set hy with hy | rfl
    · exact hok y hy
    · have := hok x (List.mem_of_getElem? hx)
      exact ⟨this.1, this.2.1, hu⟩
  · obtain ⟨b', o', e, hlt, hc⟩ := h (by omega)
    cases e
    refine ⟨b, o, rfl, by simpa [World.setCell] using hlt, fun j y hj => ?_⟩
    have other : ∀ q, q ≠ o + k * 3 + 2 → (w.setCell ⟨b, o + k * 3 + 2, none⟩ (.int .i64 u)).cell? ⟨b, q, none⟩ = w.cell? ⟨b, q, none⟩ := fun q hq => World.cell?_setCell_other _ _ _ _ (by intro e; cases e; exact hq rfl)
    rw [List.getElem?_set] at hj
    by_cases hjk : k = j
    · subst hjk
      rw [if_pos rfl, if_pos hk] at hj
      cases hj
      obtain ⟨c0, c1, c2⟩ := hc k x hx
      exact ⟨(other _ (by omega)).trans c0, (other _ (by omega)).trans c1, World.cell?_setCell_same _ _ _ c2⟩
    · rw [if_neg hjk] at hj
      obtain ⟨c0, c1, c2⟩ := hc j y hj
      exact ⟨(other _ (by omega)).trans c0, (other _ (by omega)).trans c1, (other _ (by omega)).trans c2⟩
end Go.Proofs.Ytjljfkioiglaiaa
