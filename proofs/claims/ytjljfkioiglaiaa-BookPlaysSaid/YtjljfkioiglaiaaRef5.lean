/- The reference's book in memory; sums of an account's amounts. -/
import Derived.Test.YtjljfkioiglaiaaRef4
set_option linter.unusedVariables false
set_option linter.unusedSimpArgs false
namespace Go.Proofs.Ytjljfkioiglaiaa
open Go.RowKit Go.Shelf NumL

structure RefAt (w : World) (rb : Nat) (lv dv : Value) (es : List (List Ln × Bool)) : Prop where
  cell : w.heap[rb]? = some (.cells #[lv, dv] 51 (0, 0))
  rowL : ∃ vs : List Value, vs.length = es.length ∧ w.ownsRow 0 28 1 lv es.length vs ∧ ∀ (i : Nat) v e, vs[i]? = some v → es[i]? = some e → OwnLines w v e.1
  rowD : w.ownsRow 0 4 1 dv es.length (es.map (fun e => Value.bool e.2))
theorem RefAt.below {w w1 : World} {rb : Nat} {lv dv : Value} {es : List (List Ln × Bool)} (h : RefAt w rb lv dv es) (hb : Below w.heap.size w w1) : RefAt w1 rb lv dv es := by
  obtain ⟨h1, ⟨vs, h2, h3, h4⟩, h5⟩ := h
  exact ⟨(hb.block rb (Array.getElem?_eq_some_iff.1 h1).1).trans h1, ⟨vs, h2, own_below h3 hb, fun i v e hv he => (h4 i v e hv he).keep (.of_below hb)⟩, own_below h5 hb⟩
/-- An entry's lines and its mark, where they lie. -/
theorem RefAt.entry {w : World} {rb : Nat} {lv dv : Value} {es : List (List Ln × Bool)} (h : RefAt w rb lv dv es) (i : Nat) (e : List Ln × Bool) (he : es[i]? = some e) :
    ∃ g c VA vc, lv = .slice (some ⟨g, 0, none⟩) es.length c ∧ w.cell? ⟨g, i, none⟩ = some (.slice VA e.1.length vc) ∧ OwnLines w (.slice VA e.1.length vc) e.1 ∧ g < w.heap.size := by
  obtain ⟨h1, ⟨vs, h2, h3, h4⟩, h5⟩ := h
  have hi := (List.getElem?_eq_some_iff.1 he).1
  obtain ⟨v, hv⟩ : ∃ v, vs[i]? = some v := ⟨_, List.getElem?_eq_getElem (by omega)⟩
  have hown := h4 i v e hv he
  obtain ⟨VA, vc, rfl, _⟩ := hown.1
  have hcells := fun g e => h3.cells (g := g) e
  rcases h3.2 with ⟨rfl, h0⟩ | ⟨g, cap, cur, rfl, _, hg, hnc, _⟩
  · omega
  · have q0 := hcells g rfl i _ hv
    have ha : (⟨g, 0, none⟩ : Addr).add i = ⟨g, 0 + i, none⟩ := by unfold Addr.add; split <;> simp_all
    rw [ha, Nat.zero_add] at q0
    exact ⟨g, cap, VA, vc, rfl, q0, hown, (Array.getElem?_eq_some_iff.1 hg).1⟩
theorem RefAt.done {w : World} {rb : Nat} {lv dv : Value} {es : List (List Ln × Bool)} (h : RefAt w rb lv dv es) (i : Nat) (e : List Ln × Bool) (he : es[i]? = some e) :
    ∃ g c, dv = .slice (some ⟨g, 0, none⟩) es.length c ∧ w.cell? ⟨g, i, none⟩ = some (.bool e.2) ∧ w.frozen? ⟨g, i, none⟩ = false ∧ g < w.heap.size ∧ g ≠ rb := by
  obtain ⟨h1, _, h5⟩ := h
  have hi := (List.getElem?_eq_some_iff.1 he).1
  have hne := own_other h5 h1 (by decide)
  have hcells := fun g e => h5.cells (g := g) e
  rcases h5.2 with ⟨rfl, h0⟩ | ⟨g, cap, cur, rfl, _, hg, hnc, _⟩
  · omega
  · have q0 := hcells g rfl i (.bool e.2) (by simp [he])
    have ha : (⟨g, 0, none⟩ : Addr).add i = ⟨g, 0 + i, none⟩ := by unfold Addr.add; split <;> simp_all
    rw [ha, Nat.zero_add] at q0
    exact ⟨g, cap, rfl, q0, frozen_at hg i, (Array.getElem?_eq_some_iff.1 hg).1, fun e => hne (by simp [Value.ownBlock, e])⟩

/-- What the lines of an account sum to. -/
def accS (a : Acc) (L : List Ln) : Int := sums ((L.filter (fun x => decide (x.f0 = a))).map (·.f1))
theorem sums_append (l m : List Int) : sums (l ++ m) = sums l + sums m := by
  induction l with
  | nil => simp [sums]
  | cons x l ih => rw [List.cons_append, sums_cons, sums_cons, ih]; omega
theorem accS_append (a : Acc) (L M : List Ln) : accS a (L ++ M) = accS a L + accS a M := by simp [accS, sums_append]
theorem accS_one (a : Acc) (x : Ln) : accS a [x] = if x.f0 = a then x.f1 else 0 := by
  by_cases h : x.f0 = a <;> simp [accS, h, sums]
theorem accS_bound (a : Acc) (L : List Ln) (h : ∀ x ∈ L, LnOk x) : -(9223372036854775808 * L.length) ≤ accS a L ∧ accS a L ≤ 9223372036854775808 * L.length := by
  have hb := sums_bound ((L.filter (fun x => decide (x.f0 = a))).map (·.f1)) (fun z hz => by
    obtain ⟨y, hy, rfl⟩ := List.mem_map.1 hz
    exact (h y (List.mem_filter.1 hy).1).2.2)
  have hl : (L.filter (fun x => decide (x.f0 = a))).length ≤ L.length := List.length_filter_le _ _
  rw [List.length_map] at hb
  unfold accS
  constructor <;> omega
def allL (es : List (List Ln × Bool)) : List Ln := es.flatMap (·.1)
/-- What was gone through when entry i is at its line k. -/
def uptoL (es : List (List Ln × Bool)) (i k : Nat) : List Ln := allL (es.take i) ++ ((es[i]?.map (·.1)).getD []).take k
theorem upto_zero (es : List (List Ln × Bool)) (i : Nat) : uptoL es i 0 = allL (es.take i) := by simp [uptoL]
theorem upto_next {es : List (List Ln × Bool)} {i : Nat} {e : List Ln × Bool} (h : es[i]? = some e) : uptoL es i e.1.length = uptoL es (i + 1) 0 := by
  have hlt := (List.getElem?_eq_some_iff.1 h).1
  have he : es[i] = e := (List.getElem?_eq_some_iff.1 h).2
  rw [upto_zero, uptoL, h, List.take_succ_eq_append_getElem hlt]
  simp [allL, he]
theorem upto_step {es : List (List Ln × Bool)} {i k : Nat} {e : List Ln × Bool} {x : Ln} (h : es[i]? = some e) (hx : e.1[k]? = some x) : uptoL es i (k + 1) = uptoL es i k ++ [x] := by
  have hlt := (List.getElem?_eq_some_iff.1 hx).1
  have he : e.1[k] = x := (List.getElem?_eq_some_iff.1 hx).2
  simp only [uptoL, h, Option.map_some, Option.getD_some, List.take_succ_eq_append_getElem hlt, he, List.append_assoc]
theorem allL_len {es : List (List Ln × Bool)} (h : ∀ e ∈ es, e.1.length ≤ 1000) : (allL es).length ≤ 1000 * es.length := by
  induction es with
  | nil => simp [allL]
  | cons e es ih =>
    have h1 := h e (List.mem_cons_self ..)
    have h2 := ih (fun e he => h e (List.mem_cons_of_mem _ he))
    simp [allL] at h2 ⊢
    omega
end Go.Proofs.Ytjljfkioiglaiaa
