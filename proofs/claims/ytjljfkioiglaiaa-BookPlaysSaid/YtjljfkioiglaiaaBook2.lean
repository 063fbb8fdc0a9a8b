/- Books: New, Len, Balance, and the copy of one map onto another. -/
import Derived.Test.YtjljfkioiglaiaaBook1
import Derived.Deep.RegionHeld3
set_option linter.unusedVariables false
set_option linter.unusedSimpArgs false
namespace Go.Proofs.Ytjljfkioiglaiaa
open Go.RowKit Go.Shelf

structure Bk where
  es : List (List Ln × Bool)
  bal : Acc → Option Int

def ecells : List Value → List (List Ln × Bool) → List Value
  | v :: vs, e :: es => v :: .bool e.2 :: ecells vs es
  | _, _ => []
def AccOk (a : Acc) : Prop := I64 a.f0 ∧ I64 a.f1

structure BookAt (w : World) (bb mb : Nat) (ev : Value) (B : Bk) : Prop where
  cell : w.heap[bb]? = some (.cells #[ev, .map (some mb)] 62 (0, 0))
  row : ∃ vs : List Value, vs.length = B.es.length ∧ w.ownsRow 0 64 2 ev B.es.length (ecells vs B.es) ∧ ∀ (i : Nat) v e, vs[i]? = some v → B.es[i]? = some e → OwnLines w v e.1
  map : ∃ n, AccMap w mb (fun a => (B.bal a).map (Value.int .i64)) n
  balok : ∀ a x, B.bal a = some x → AccOk a ∧ I64 x

def MutB (bb mb : Nat) (ev : Value) (k : Nat) : Prop := k = bb ∨ k = mb ∨ ev.ownBlock = some k

theorem BookAt.keep {w w1 : World} {bb mb : Nat} {ev : Value} {B : Bk} (h : BookAt w bb mb ev B) (hs : w.heap.size ≤ w1.heap.size) (hm : ∀ k, k < w.heap.size → MutB bb mb ev k → w1.heap[k]? = w.heap[k]?) (hk : KeepT 43 w w1) : BookAt w1 bb mb ev B := by
  obtain ⟨h1, ⟨vs, h2, h3, h4⟩, ⟨n, h5⟩, h6⟩ := h
  have hbb := (Array.getElem?_eq_some_iff.1 h1).1
  refine ⟨(hm bb hbb (.inl rfl)).trans h1, ⟨vs, h2, ?_, fun i v e hv he => (h4 i v e hv he).keep hk⟩, ⟨n, h5.of_block (hm mb h5.lt (.inr (.inl rfl)))⟩, h6⟩
  obtain ⟨g1, g2⟩ := h3
  refine ⟨g1, ?_⟩
  rcases g2 with g2 | ⟨g, cap, cur, rfl, hg, hh, r⟩
  · exact .inl g2
  · exact .inr ⟨g, cap, cur, rfl, hg, (hm g (Array.getElem?_eq_some_iff.1 hh).1 (.inr (.inr (by simp [Value.ownBlock])))).trans hh, r⟩
theorem BookAt.below {w w1 : World} {bb mb : Nat} {ev : Value} {B : Bk} (h : BookAt w bb mb ev B) (hb : Below w.heap.size w w1) : BookAt w1 bb mb ev B :=
  h.keep hb.size (fun k hk _ => hb.block k hk) (.of_below hb)

def NewPost (w : World) (e : Ending) (w' : World) : Prop :=
  ∃ bb mb, e = .returned (.pointer (some ⟨bb, 0, none⟩)) ∧ BookAt w' bb mb (.slice none 0 0) ⟨[], fun _ => none⟩ ∧ Below w.heap.size w w' ∧ w.heap.size ≤ bb ∧ w.heap.size ≤ mb

theorem new_any (w : World) : Calls Try.prog 7 #[] w (NewPost w) := by
  have hmm := @run_makeMap Try.prog
  go_enter Try.func7, Try.ntmps7
  go_wp2_with fail
  go_ret
  refine ⟨w.heap.size + 1, w.heap.size, rfl, ⟨get_new' _ _ (by simp), ⟨[], rfl, World.ownsRow_nil .., fun i v e h => by simp at h⟩, ⟨0, ?_⟩, fun a x h => by simp at h⟩, ((Below.refl _ _).alloc (Nat.le_refl _) _).alloc (by simp) _, by omega, Nat.le_refl _⟩
  exact (MapAt.made w _ _ _).of_block (Below.heap_alloc _ _ _ (by simp))

theorem len_any (bb mb : Nat) (ev : Value) (B : Bk) (w : World) (hB : BookAt w bb mb ev B) : Calls Try.prog 18 #[.pointer (some ⟨bb, 0, none⟩)] w fun e w' => e = .returned (.int .i64 B.es.length) ∧ w' = w := by
  have c0 := cell_at hB.cell 0 rfl
  obtain ⟨vs, h2, h3, _⟩ := hB.row
  have hev : ∃ A c, ev = .slice A B.es.length c := by
    rcases h3.2 with ⟨rfl, h0⟩ | ⟨g, cap, cur, rfl, _⟩
    · exact ⟨none, 0, by rw [h0]⟩
    · exact ⟨_, cap, rfl⟩
  obtain ⟨A, c, rfl⟩ := hev
  clear hB h3
  go_enter Try.func18, Try.ntmps18
  go_wp2_with fail
  go_ret
  exact ⟨rfl, rfl⟩

set_option maxRecDepth 100000 in
set_option maxHeartbeats 2000000 in
theorem balance_any (bb mb : Nat) (ev : Value) (B : Bk) (a : Acc) (ha : AccOk a) (w : World) (hB : BookAt w bb mb ev B) :
    Calls Try.prog 12 #[.pointer (some ⟨bb, 0, none⟩), a.val] w fun e w' => e = .returned (.int .i64 ((B.bal a).getD 0)) ∧ Below w.heap.size w w' := by
  obtain ⟨n, hM⟩ := hB.map
  obtain ⟨l, hl⟩ := acc_key a ha.1 ha.2
  have hlk := fun W (e : W.heap[mb]? = w.heap[mb]?) => (hM.of_block e).lookup acc_keyed acc_inj Try.underlying59 (zero_i64 W) hl false
  have hv : (((B.bal a).map (Value.int .i64)).getD (.int .i64 0)) = .int .i64 ((B.bal a).getD 0) := by cases B.bal a <;> rfl
  simp only [hv, Bool.false_eq_true, if_false] at hlk
  have hbl : (w.alloc (Obj.cells #[.int .i64 a.f0, .int .i64 a.f1] 41)).heap[mb]? = w.heap[mb]? := Below.heap_alloc _ _ _ hM.lt
  have hlk2 := fun n => hlk ((w.alloc (Obj.cells #[.int .i64 a.f0, .int .i64 a.f1] 41)).drewN n) hbl
  have c1 : (w.alloc (Obj.cells #[.int .i64 a.f0, .int .i64 a.f1] 41)).cell? ⟨bb, 1, none⟩ = some (.map (some mb)) := cell_at (get_old hB.cell) 1 rfl
  generalize (B.bal a).getD 0 = r at hlk2 ⊢
  obtain ⟨x, y⟩ := a
  unfold Acc.val at hlk2 ⊢
  clear hlk hM hv hl hB hbl
  go_enter Try.func12, Try.ntmps12
  go_wp2_with fail
  go_quiet (fail)
  go_wp2_with fail
  go_ret
  exact ⟨rfl, below_drewN' (below_alloc' w _) _⟩
end Go.Proofs.Ytjljfkioiglaiaa
