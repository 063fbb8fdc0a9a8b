/- What comes in: deeds, read out of the row's own words. -/
import Derived.Test.YtjljfkioiglaiaaTrialW
import Derived.Deep.Slices
import Derived.Deep.Strs
import Derived.ChangeSame
set_option linter.unusedVariables false
set_option linter.unusedSimpArgs false
namespace Go.Proofs.Ytjljfkioiglaiaa
open Go.RowKit Go.Shelf Go.ChangeShapes Go.WideShapes Go.Deep

section
variable {H : Type} {enc : TypeId × Value → H} {w : World} {base : Nat} {spare : Nat → Bool} {held : Bool}

theorem i64_of_wf {n : Int} (h : (Lit.int .i64 n).wf = true) : I64 n := by
  unfold I64
  simp [Lit.wf, IntKind.min, IntKind.max, IntKind.signed, IntKind.bits] at h
  omega
theorem cells_line : Try.prog.cellsOf 43 = 3 := by kernel_rfl
theorem cells_deed : Try.prog.cellsOf 30 = 3 := by kernel_rfl

theorem open_acc {fuel : Nat} {u0 u1 : Value} {x : DataW H × List MemPlace} (h : DataW.trod enc Try.prog w base spare held fuel 41 [u0, u1] = some x) : ∃ a : Acc, u0 = .int .i64 a.f0 ∧ u1 = .int .i64 a.f1 ∧ AccOk a := by
  obtain ⟨y0, y1, n, _, _, g0, g1⟩ := trod_struct2 Try.underlying41 h
  simp [int_cells] at g0 g1
  obtain ⟨k, hk, _, w0⟩ := DataW.trod_int Try.underlying3 g0
  obtain ⟨o, ho, _, w1⟩ := DataW.trod_int Try.underlying3 g1
  simp at hk ho
  exact ⟨⟨k, o⟩, hk, ho, i64_of_wf w0, i64_of_wf w1⟩
theorem open_line {fuel : Nat} {u0 u1 u2 : Value} {x : DataW H × List MemPlace} (h : DataW.trod enc Try.prog w base spare held fuel 43 [u0, u1, u2] = some x) : ∃ a : Ln, u0 = .int .i64 a.f0.f0 ∧ u1 = .int .i64 a.f0.f1 ∧ u2 = .int .i64 a.f1 ∧ LnOk a := by
  obtain ⟨y0, y1, n, _, _, g0, g1⟩ := trod_struct2 Try.underlying43 h
  have c2 : Try.prog.cellsOf 2 = 1 := by kernel_rfl
  simp [acc_cells, c2] at g0 g1
  obtain ⟨a, rfl, rfl, ha⟩ := open_acc g0
  obtain ⟨o, ho, _, w1⟩ := DataW.trod_int Try.underlying2 g1
  simp at ho
  exact ⟨⟨a, o⟩, rfl, rfl, ho, ha.1, ha.2, i64_of_wf w1⟩

theorem add_plain {b o j : Nat} : (⟨b, o, none⟩ : Addr).add j = ⟨b, o + j, none⟩ := by unfold Addr.add; split <;> simp_all
theorem block_of_cell {b k : Nat} {u : Value} (h : w.cell? ⟨b, k, none⟩ = some u) : b < w.heap.size := by
  obtain ⟨c, e, fr, hb, _⟩ := Sort.cells_of_cell? h
  exact (Array.getElem?_eq_some_iff.1 hb).1

theorem open_lines {fuel : Nat} {v : Value} {x : DataW H × List MemPlace} (h : DataW.trod enc Try.prog w base spare held fuel 28 [v] = some x) :
    ∃ A c l, v = .slice A l.length c ∧ l.length ≤ c ∧ (∀ y ∈ l, LnOk y) ∧ (l.length ≤ 140737488351232 → LinesAt w v l) := by
  rcases open_slice Try.underlying28 h with ⟨hc, _⟩ | ⟨a, len, cap, m, n, D, Pl, hcs, hb, hl, hm, hmm, _, hx⟩
  · simp at hc
    subst hc
    exact ⟨none, 0, [], rfl, Nat.le_refl _, by simp, fun _ => ⟨none, 0, rfl, ⟨by simp, by simp⟩, by simp, fun h => absurd h (by simp)⟩⟩
  · simp at hcs
    subst hcs
    have hlm : len ≤ m := by rw [hmm]; split <;> omega
    have each : ∀ i, i < len → ∃ y : Ln, LnOk y ∧ w.cell? (a.add (i * 3)) = some (.int .i64 y.f0.f0) ∧ w.cell? (a.add (i * 3 + 1)) = some (.int .i64 y.f0.f1) ∧ w.cell? (a.add (i * 3 + 2)) = some (.int .i64 y.f1) := by
      intro i hi
      obtain ⟨cs', h1, h2⟩ := hx i (by omega)
      rw [cells_line] at h1
      obtain ⟨_, hlen, hcell⟩ := World.cells?_some h1
      match cs', hlen with
      | [u0, u1, u2], _ =>
        obtain ⟨y, rfl, rfl, rfl, hy⟩ := open_line h2
        have e0 := hcell 0 (by omega)
        have e1 := hcell 1 (by omega)
        have e2 := hcell 2 (by omega)
        rw [add_add] at e0 e1 e2
        exact ⟨y, hy, by simpa using e0, by simpa using e1, by simpa using e2⟩
    obtain ⟨f, hf⟩ := choose_lt each
    have hlen : ((List.range len).map f).length = len := by simp
    have hget : ∀ (j : Nat) y, ((List.range len).map f)[j]? = some y → j < len ∧ f j = y := fun j y hj => by
      have := (List.getElem?_eq_some_iff.1 hj).1
      rw [hlen] at this
      refine ⟨this, ?_⟩
      simpa [this] using hj
    refine ⟨some a, cap, (List.range len).map f, by rw [hlen], by rw [hlen]; exact hl, fun y hy => ?_, fun hbd => ?_⟩
    · obtain ⟨j, hj⟩ := List.getElem?_of_mem hy
      obtain ⟨h1, rfl⟩ := hget j y hj
      exact (hf j h1).1
    · refine ⟨some a, cap, by rw [hlen], ⟨by rw [hlen]; exact hl, hbd⟩, fun y hy => ?_, fun hp => ?_⟩
      · obtain ⟨j, hj⟩ := List.getElem?_of_mem hy
        obtain ⟨h1, rfl⟩ := hget j y hj
        exact (hf j h1).1
      · rw [hlen] at hp
        have hspot : a.spot = none := by
          have := World.cell?_spot (hf 0 hp).2.1
          simpa [Addr.add] using this
        obtain ⟨b, o, spot⟩ := a
        simp only at hspot
        subst hspot
        refine ⟨b, o, rfl, ?_, fun j y hj => ?_⟩
        · have := (hf 0 hp).2.1
          rw [add_plain] at this
          exact block_of_cell this
        · obtain ⟨h1, rfl⟩ := hget j y hj
          have := hf j h1
          simp only [add_plain, ← Nat.add_assoc] at this
          exact this.2

structure Deed where
  f0 : Int
  f1 : Int
  f2 : List Ln
instance : Inhabited Deed := ⟨⟨0, 0, []⟩⟩
/-- A slice of deeds that reads as ds. -/
def DeedsAt (w : World) (v : Value) (ds : List Deed) : Prop :=
  ∃ A c, v = .slice A ds.length c ∧ ds.length ≤ c ∧ c ≤ 9223372036854775807 ∧ (0 < ds.length → ∃ b o, A = some ⟨b, o, none⟩ ∧ b < w.heap.size ∧
    ∀ j x, ds[j]? = some x → w.cell? ⟨b, o + j * 3, none⟩ = some (.int .i64 x.f0) ∧ w.cell? ⟨b, o + j * 3 + 1, none⟩ = some (.int .i64 x.f1) ∧ I64 x.f0 ∧ I64 x.f1 ∧ (∀ y ∈ x.f2, LnOk y) ∧
      ∃ A2 c2, w.cell? ⟨b, o + j * 3 + 2, none⟩ = some (.slice A2 x.f2.length c2) ∧ x.f2.length ≤ c2 ∧ (x.f2.length ≤ 140737488351232 → LinesAt w (.slice A2 x.f2.length c2) x.f2))

theorem open_deeds {fuel : Nat} {v : Value} {x : DataW H × List MemPlace} (h : DataW.trod enc Try.prog w base spare held fuel 22 [v] = some x) : ∃ ds, DeedsAt w v ds := by
  rcases open_slice Try.underlying22 h with ⟨hc, _⟩ | ⟨a, len, cap, m, n, D, Pl, hcs, hb, hl, hm, hmm, _, hx⟩
  · simp at hc
    subst hc
    exact ⟨[], none, 0, rfl, Nat.le_refl _, by omega, fun h => absurd h (by simp)⟩
  · simp at hcs
    subst hcs
    have hlm : len ≤ m := by rw [hmm]; split <;> omega
    have each : ∀ i, i < len → ∃ y : Deed, w.cell? (a.add (i * 3)) = some (.int .i64 y.f0) ∧ w.cell? (a.add (i * 3 + 1)) = some (.int .i64 y.f1) ∧ I64 y.f0 ∧ I64 y.f1 ∧ (∀ z ∈ y.f2, LnOk z) ∧
        ∃ A2 c2, w.cell? (a.add (i * 3 + 2)) = some (.slice A2 y.f2.length c2) ∧ y.f2.length ≤ c2 ∧ (y.f2.length ≤ 140737488351232 → LinesAt w (.slice A2 y.f2.length c2) y.f2) := by
      intro i hi
      obtain ⟨cs', h1, h2⟩ := hx i (by omega)
      rw [cells_deed] at h1
      obtain ⟨_, hlen, hcell⟩ := World.cells?_some h1
      match cs', hlen with
      | [u0, u1, u2], _ =>
        have e0 := hcell 0 (by omega)
        have e1 := hcell 1 (by omega)
        have e2 := hcell 2 (by omega)
        rw [add_add] at e0 e1 e2
        obtain ⟨y0, y1, y2, n', _, _, g0, g1, g2⟩ := trod_struct3 Try.underlying30 h2
        have c2 : Try.prog.cellsOf 28 = 1 := by kernel_rfl
        simp [int_cells, c2] at g0 g1 g2
        obtain ⟨k, hk, _, w0⟩ := DataW.trod_int Try.underlying3 g0
        obtain ⟨o, ho, _, w1⟩ := DataW.trod_int Try.underlying3 g1
        obtain ⟨A2, c2', l, rfl, hc2, hok, hL⟩ := open_lines g2
        simp at hk ho
        subst hk ho
        exact ⟨⟨k, o, l⟩, by simpa using e0, by simpa using e1, i64_of_wf w0, i64_of_wf w1, hok, A2, c2', by simpa using e2, hc2, hL⟩
    obtain ⟨f, hf⟩ := choose_lt (α := Deed) each
    have hlen : ((List.range len).map f).length = len := by simp
    refine ⟨(List.range len).map f, some a, cap, by rw [hlen], by rw [hlen]; exact hl, hm, fun hp => ?_⟩
    rw [hlen] at hp
    have hspot : a.spot = none := by
      have := World.cell?_spot (hf 0 hp).1
      simpa [Addr.add] using this
    obtain ⟨b, o, spot⟩ := a
    simp only at hspot
    subst hspot
    refine ⟨b, o, rfl, ?_, fun j y hj => ?_⟩
    · have := (hf 0 hp).1
      rw [add_plain] at this
      exact block_of_cell this
    · have h1 := (List.getElem?_eq_some_iff.1 hj).1
      rw [hlen] at h1
      have hy : f j = y := by simpa [h1] using hj
      subst hy
      have := hf j h1
      simp only [add_plain, ← Nat.add_assoc] at this
      exact this
end
end Go.Proofs.Ytjljfkioiglaiaa
