/- slices.SortFunc at a row of lines of one's own. -/
import Derived.Test.YtjljfkioiglaiaaLess
import Derived.Shelf.GgSortFunc.RowK
set_option linter.unusedVariables false
set_option linter.unusedSimpArgs false
namespace Go.Proofs.Ytjljfkioiglaiaa
open Go.RowKit Go.Shelf Go.Lib

instance : Inhabited Ln := ⟨⟨⟨0, 0⟩, 0⟩⟩
theorem cells_len (x : Ln) : (Ln.cells x).length = 3 := rfl
theorem cells_one (x : Ln) : ∀ v ∈ Ln.cells x, v.oneCell' = true := by
  intro v hv
  simp [Ln.cells] at hv
  rcases hv with rfl | rfl | rfl <;> rfl
theorem lcells_flat (l : List Ln) (t : Nat) (ht : t < l.length * 3) : (lcells l)[t]? = some ((Ln.cells l.toArray[t / 3]!)[t % 3]!) := by
  have hj : t / 3 < l.length := by omega
  obtain ⟨x, hx⟩ : ∃ x, l[t / 3]? = some x := ⟨_, List.getElem?_eq_getElem hj⟩
  have e : l.toArray[t / 3]! = x := by simp [hx]
  rw [e]
  obtain ⟨g0, g1, g2⟩ := lcells_get l (t / 3) x hx
  rcases (show t % 3 = 0 ∨ t % 3 = 1 ∨ t % 3 = 2 by omega) with h | h | h
  · rw [h, show t = t / 3 * 3 by omega]; exact g0
  · rw [h, show t = t / 3 * 3 + 1 by omega]; exact g1
  · rw [h, show t = t / 3 * 3 + 2 by omega]; exact g2
theorem holds_own {w : World} {base blk n cap : Nat} {l : List Ln} (h : w.ownsRow base 43 3 (.slice (some ⟨blk, 0, none⟩) n cap) n (lcells l)) (hl : l.length = n) : Sort.HoldsK Ln.cells 3 w blk 0 l.toArray := by
  intro t ht
  have hc := h.cells (g := blk) rfl
  rcases h.2 with ⟨hn, _⟩ | ⟨g, cap', cur, he, _, hg, _⟩
  · cases hn
  · cases he
    rw [Sort.size_flatK] at ht
    have ht' : t < l.length * 3 := by simpa using ht
    have ha : (⟨blk, 0, none⟩ : Addr).add t = ⟨blk, 0 + t, none⟩ := by unfold Addr.add; split <;> simp_all
    have := hc t _ (lcells_flat l t ht')
    rw [ha] at this
    refine ⟨?_, frozen_at hg _⟩
    rw [Sort.get_flatK _ _ _ _ ht]
    exact this
theorem sortWorld_below {B : Nat} (w : World) (blk n : Nat) (d : Array Ln) (os : Array Obj) (hB : B ≤ blk) (hb : blk < w.heap.size) : Below B w (sortWorldK Ln.cells 3 w blk 0 n d os) := by
  refine ⟨rfl, rfl, rfl, ?_, fun k hk => ?_⟩
  · simp [sortWorldK, Sort.grow, Sort.putRowK]
  · have hne : ¬ blk = k := by omega
    have hk' : k < w.heap.size := by omega
    show ((w.heap.modify blk (Sort.onCells (Sort.putCells id 0 (Sort.flatK Ln.cells 3 d)))) ++ os)[k]? = w.heap[k]?
    rw [Array.getElem?_append_left (by simpa using hk'), Array.getElem?_modify, if_neg hne]
theorem sortWorld_lines (w : World) (blk n cap : Nat) (l : List Ln) (d : Array Ln) (os : Array Obj) (hb : blk < w.heap.size) (h : Sort.HoldsK Ln.cells 3 w blk 0 l.toArray) (hd : d.size = l.length) (hcap : l.length ≤ cap ∧ l.length ≤ 140737488351232) (hok : ∀ x ∈ d.toList, LnOk x) :
    LinesAt (sortWorldK Ln.cells 3 w blk 0 n d os) (.slice (some ⟨blk, 0, none⟩) l.length cap) d.toList := by
  have hH : Sort.HoldsK Ln.cells 3 (sortWorldK Ln.cells 3 w blk 0 n d os) blk 0 d := by
    unfold sortWorldK
    refine Sort.holdsK_grow _ _ _ _ _ _ _ (by simp [Sort.putRowK]; exact hb) ?_
    exact Sort.holdsK_putRowK _ _ _ _ _ l.toArray _ (Sort.holdsK_ahead _ _ _ _ _ _ _ h) (by simpa using hd)
  refine ⟨_, cap, by simp [hd], by simpa [hd] using hcap, hok, fun _ => ⟨blk, 0, rfl, ?_, fun j x hj => ?_⟩⟩
  · have := (sortWorld_below w blk n d os (Nat.zero_le _) hb).size; omega
  · have hj' : j < d.size := by simpa using (List.getElem?_eq_some_iff.1 hj).1
    have e : d[j]! = x := by
      rw [Array.getElem?_toList] at hj
      rw [getElem!_def, hj]
    have q0 := (hH.cell (c := 0) hj' (by omega)).1
    have q1 := (hH.cell (c := 1) hj' (by omega)).1
    have q2 := (hH.cell (c := 2) hj' (by omega)).1
    rw [e] at q0 q1 q2
    exact ⟨q0, q1, q2⟩
end Go.Proofs.Ytjljfkioiglaiaa
