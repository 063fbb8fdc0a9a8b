/- Books in memory; copies of lines; New, Len, Balance. -/
import Derived.Test.YtjljfkioiglaiaaAcc
import Derived.WalkSpells
set_option linter.unusedVariables false
set_option linter.unusedSimpArgs false
namespace Go.Proofs.Ytjljfkioiglaiaa
open Go.RowKit Go.Shelf

/-- Of the old blocks those in S alone may have turned. -/
structure Chg (S : Nat → Prop) (w w' : World) : Prop where
  os : w'.os = w.os
  tape : w'.tape = w.tape
  output : w'.output = w.output
  size : w.heap.size ≤ w'.heap.size
  block : ∀ k, k < w.heap.size → ¬ S k → w'.heap[k]? = w.heap[k]?
theorem Chg.refl (S : Nat → Prop) (w : World) : Chg S w w := ⟨rfl, rfl, rfl, Nat.le_refl _, fun _ _ _ => rfl⟩
theorem Chg.trans {S S' : Nat → Prop} {a b c : World} (h : Chg S a b) (k : Chg S' b c) (hs : ∀ i, i < a.heap.size → S' i → S i) : Chg S a c :=
  ⟨k.os.trans h.os, k.tape.trans h.tape, k.output.trans h.output, Nat.le_trans h.size k.size, fun i hi hn => (k.block i (Nat.lt_of_lt_of_le hi h.size) (fun h' => hn (hs i hi h'))).trans (h.block i hi hn)⟩
theorem Chg.mono {S S' : Nat → Prop} {a b : World} (h : Chg S a b) (hs : ∀ i, i < a.heap.size → S i → S' i) : Chg S' a b := ⟨h.os, h.tape, h.output, h.size, fun i hi hn => h.block i hi (fun h' => hn (hs i hi h'))⟩
theorem Chg.of_below {S : Nat → Prop} {a b : World} (h : Below a.heap.size a b) : Chg S a b := ⟨h.os, h.tape, h.output, h.size, fun i hi _ => h.block i hi⟩
theorem Chg.below {S : Nat → Prop} {a b : World} {B : Nat} (h : Chg S a b) (hS : ∀ i, i < a.heap.size → S i → B ≤ i) (hB : B ≤ a.heap.size) : Below B a b := ⟨h.os, h.tape, h.output, h.size, fun i hi => h.block i (by omega) (fun h' => by have := hS i (by omega) h'; omega)⟩
theorem Chg.of_grown {a b : World} {row : Option Nat} (h : a.grownBy b row) : Chg (fun k => some k = row) a b := ⟨h.os, h.tape, h.output, h.size, fun i hi hn => h.block i hi hn⟩
theorem Chg.setCell (w : World) (p : Addr) (u : Value) : Chg (fun k => k = p.block) w (w.setCell p u) := ⟨rfl, rfl, rfl, by simp [World.setCell], fun i _ hn => Below.heap_setCell w p u i hn⟩
theorem Chg.drewN (S : Nat → Prop) (w : World) (n : Nat) : Chg S w (w.drewN n) := ⟨by induction n <;> simp_all [World.drewN], by induction n <;> simp_all [World.drewN], by induction n <;> simp_all [World.drewN], Nat.le_refl _, fun _ _ _ => rfl⟩
theorem Chg.alloc (S : Nat → Prop) (w : World) (o : Obj) : Chg S w (w.alloc o) := .of_below (below_alloc' w o)

/-- Lines in a block of their own kind. -/
def OwnLines (w : World) (v : Value) (l : List Ln) : Prop := LinesAt w v l ∧ ∀ k, v.ownBlock = some k → ∃ cs, w.heap[k]? = some (.cells cs 43 (0, 0))
theorem own_block_of {A : Option Addr} {n c : Nat} : (Value.slice A n c).ownBlock = A.map (·.block) := by cases A <;> rfl
theorem LinesAt.of_block {w w1 : World} {v : Value} {l : List Ln} (h : LinesAt w v l) (hk : ∀ k, v.ownBlock = some k → w1.heap[k]? = w.heap[k]?) (hs : w.heap.size ≤ w1.heap.size) : LinesAt w1 v l := by
  obtain ⟨A, c, rfl, hm, hok, h⟩ := h
  refine ⟨A, c, rfl, hm, hok, fun hp => ?_⟩
  obtain ⟨b, o, rfl, hlt, hc⟩ := h hp
  have e := hk b (by simp [own_block_of])
  exact ⟨b, o, rfl, by omega, fun j x hj => ⟨(World.cell?_of_block (w := w) (a := ⟨b, o + j * 3, none⟩) e).trans (hc j x hj).1, (World.cell?_of_block (w := w) (a := ⟨b, o + j * 3 + 1, none⟩) e).trans (hc j x hj).2.1, (World.cell?_of_block (w := w) (a := ⟨b, o + j * 3 + 2, none⟩) e).trans (hc j x hj).2.2⟩⟩
/-- Blocks of the kind T stay. -/
def KeepT (T : TypeId) (w w' : World) : Prop := w.heap.size ≤ w'.heap.size ∧ ∀ (k : Nat) (cs : Array Value) (fr : Nat × Nat), w.heap[k]? = some (Obj.cells cs T fr) → w'.heap[k]? = w.heap[k]?
theorem OwnLines.keep {w w1 : World} {v : Value} {l : List Ln} (h : OwnLines w v l) (hk : KeepT 43 w w1) : OwnLines w1 v l := by
  refine ⟨h.1.of_block (fun k e => ?_) hk.1, fun k e => ?_⟩
  · obtain ⟨cs, hb⟩ := h.2 k e
    exact hk.2 k cs _ hb
  · obtain ⟨cs, hb⟩ := h.2 k e
    exact ⟨cs, (hk.2 k cs _ hb).trans hb⟩
theorem KeepT.of_chg {T : TypeId} {S : Nat → Prop} {w w' : World} (h : Chg S w w') (hS : ∀ (k : Nat) (cs : Array Value) (fr : Nat × Nat), S k → w.heap[k]? ≠ some (Obj.cells cs T fr)) : KeepT T w w' :=
  ⟨h.size, fun k cs fr e => h.block k (Array.getElem?_eq_some_iff.1 e).1 (fun h' => hS k cs fr h' e)⟩
theorem KeepT.of_below {T : TypeId} {w w' : World} (h : Below w.heap.size w w') : KeepT T w w' := ⟨h.size, fun k cs fr e => h.block k (Array.getElem?_eq_some_iff.1 e).1⟩
theorem KeepT.trans {T : TypeId} {a b c : World} (h : KeepT T a b) (k : KeepT T b c) : KeepT T a c :=
  ⟨Nat.le_trans h.1 k.1, fun i cs fr e => (k.2 i cs fr ((h.2 i cs fr e).trans e)).trans (h.2 i cs fr e)⟩

theorem info_line : (Try.prog.info? 43).map (fun i => (i.zero, i.size, i.bytes)) = some (some (.agg #[.int .i64 0, .int .i64 0, .int .i64 0]), 3, 24) := by kernel_rfl
theorem info_entry : (Try.prog.info? 64).map (fun i => (i.zero, i.size, i.bytes)) = some (some (.agg #[.slice none 0 0, .bool false]), 2, 32) := by kernel_rfl

def lcells (l : List Ln) : List Value := l.flatMap Ln.cells
theorem lcells_length (l : List Ln) : (lcells l).length = l.length * 3 := by
  induction l with
  | nil => rfl
  | cons x l ih => simp [lcells, Ln.cells] at ih ⊢; omega
theorem lcells_get (l : List Ln) (j : Nat) (x : Ln) (h : l[j]? = some x) : (lcells l)[j * 3]? = some (.int .i64 x.f0.f0) ∧ (lcells l)[j * 3 + 1]? = some (.int .i64 x.f0.f1) ∧ (lcells l)[j * 3 + 2]? = some (.int .i64 x.f1) := by
  induction l generalizing j with
  | nil => simp at h
  | cons y l ih =>
    have e : lcells (y :: l) = y.cells ++ lcells l := by simp [lcells]
    cases j with
    | zero =>
      simp at h
      subst h
      simp [e, Ln.cells]
    | succ j =>
      have := ih j (by simpa using h)
      have e1 : (j + 1) * 3 = j * 3 + 3 := by omega
      rw [e, e1]
      simp only [show j * 3 + 3 + 1 = j * 3 + 1 + 3 by omega, show j * 3 + 3 + 2 = j * 3 + 2 + 3 by omega]
      refine ⟨?_, ?_, ?_⟩
      all_goals
        rw [List.getElem?_append_right (by simp [Ln.cells])]
        simp [Ln.cells, this]
theorem lcells_of (l : List Ln) (j : Nat) (u : Value) (h : (lcells l)[j]? = some u) : ∃ k x, l[k]? = some x ∧ ((j = k * 3 ∧ u = .int .i64 x.f0.f0) ∨ (j = k * 3 + 1 ∧ u = .int .i64 x.f0.f1) ∨ (j = k * 3 + 2 ∧ u = .int .i64 x.f1)) := by
  have hj := (List.getElem?_eq_some_iff.1 h).1
  rw [lcells_length] at hj
  have hk : j / 3 < l.length := by omega
  obtain ⟨x, hx⟩ : ∃ x, l[j / 3]? = some x := ⟨_, List.getElem?_eq_getElem hk⟩
  obtain ⟨g0, g1, g2⟩ := lcells_get l (j / 3) x hx
  refine ⟨j / 3, x, hx, ?_⟩
  rcases (show j = j / 3 * 3 ∨ j = j / 3 * 3 + 1 ∨ j = j / 3 * 3 + 2 by omega) with e | e | e
  · exact .inl ⟨e, by rw [e] at h; rw [h] at g0; simpa using g0⟩
  · exact .inr (.inl ⟨e, by rw [e] at h; rw [h] at g1; simpa using g1⟩)
  · exact .inr (.inr ⟨e, by rw [e] at h; rw [h] at g2; simpa using g2⟩)
/-- A row of lines of one's own. -/
theorem own_lines {w : World} {base : Nat} {v : Value} {n : Nat} {l : List Ln} (h : w.ownsRow base 43 3 v n (lcells l)) (hl : l.length = n) (hm : n ≤ 140737488351232) (hok : ∀ x ∈ l, LnOk x) : OwnLines w v l := by
  rcases h.2 with ⟨rfl, h0⟩ | ⟨g, cap, cur, rfl, hb, hh, h1, h2, h3, h4⟩
  · have : l = [] := List.eq_nil_of_length_eq_zero (by omega)
    subst this
    exact ⟨⟨none, 0, rfl, ⟨by simp, by simp⟩, hok, fun h => absurd h (by simp)⟩, fun k e => by simp [Value.ownBlock] at e⟩
  · refine ⟨⟨_, cap, by rw [hl], ⟨by omega, by omega⟩, hok, fun _ => ⟨g, 0, rfl, (Array.getElem?_eq_some_iff.1 hh).1, fun j x hj => ?_⟩⟩, fun k e => ?_⟩
    · obtain ⟨g0, g1, g2⟩ := lcells_get l j x hj
      have q := fun i u hu => h.cells (g := g) rfl i u hu
      have ha : ∀ i, (⟨g, 0, none⟩ : Addr).add i = ⟨g, 0 + i, none⟩ := fun i => by unfold Addr.add; split <;> simp_all
      refine ⟨?_, ?_, ?_⟩
      · have := q _ _ g0; rwa [ha] at this
      · have := q _ _ g1; rwa [ha, ← Nat.add_assoc] at this
      · have := q _ _ g2; rwa [ha, ← Nat.add_assoc] at this
    · have : g = k := by simpa [Value.ownBlock] using e
      subst this
      exact ⟨_, hh⟩

def ClonePost (w : World) (l : List Ln) (e : Ending) (w' : World) : Prop := ∃ v, e = .returned v ∧ OwnLines w' v l ∧ Below w.heap.size w w' ∧ ∀ k, v.ownBlock = some k → w.heap.size ≤ k

set_option maxRecDepth 100000 in
set_option maxHeartbeats 2000000 in
theorem clone_any (v : Value) (l : List Ln) (w : World) (hl : LinesAt w v l) (hn : l.length ≤ 1000000) : Calls Try.prog 21 #[v] w (ClonePost w l) := by
  obtain ⟨A, c, rfl, ⟨hlc, hm⟩, hok, hc⟩ := hl
  have HC := Lib.hid hc
  have HOK := Lib.hid hok
  clear hc hok
  cases A with
  | none =>
    have h0 : l = [] := by
      cases l with
      | nil => rfl
      | cons x l => obtain ⟨b, o, e, _⟩ := HC.out (by simp); simp at e
    subst h0
    have heq := Lib.run_eql_slice_nil (P := Try.prog) w 28 43 none 0 c 0 0 Try.underlying28
    simp only [Option.isNone_none] at heq
    go_enter Try.func21, Try.ntmps21
    go_wp2_with fail
    go_ret
    exact ⟨_, rfl, ⟨⟨none, 0, rfl, ⟨by simp, by simp⟩, by simp, fun h => absurd h (by simp)⟩, fun k e => by simp [Value.ownBlock] at e⟩, Below.refl _ _, fun k e => by simp [Value.ownBlock] at e⟩
  | some a =>
    have heq := Lib.run_eql_slice_nil (P := Try.prog) w 28 43 (some a) l.length c 0 0 Try.underlying28
    simp only [Option.isNone_some] at heq
    obtain ⟨i0, hi, hz0, hz1, hz2⟩ := info_parts info_line
    have hnews : ∀ j u, (lcells l)[j]? = some u → (w.alloc (Obj.cells #[] 43)).cell? (a.add j) = some u := fun j u hu => by
      obtain ⟨k, x, hx, hcase⟩ := lcells_of l j u hu
      obtain ⟨b, o, e, hb, hcell⟩ := HC.out (by have := (List.getElem?_eq_some_iff.1 hx).1; omega)
      cases e
      obtain ⟨g0, g1, g2⟩ := hcell k x hx
      have ha : (⟨b, o, none⟩ : Addr).add j = ⟨b, o + j, none⟩ := by unfold Addr.add; split <;> simp_all
      rw [ha, (below_alloc' w _).cell (p := ⟨b, o + j, none⟩) hb]
      rcases hcase with ⟨rfl, rfl⟩ | ⟨rfl, rfl⟩ | ⟨rfl, rfl⟩
      · exact g0
      · rw [← Nat.add_assoc]; exact g1
      · rw [← Nat.add_assoc]; exact g2
    have hone : ∀ u ∈ lcells l, u.oneCell' = true := fun u hu => by
      obtain ⟨j, hj⟩ := List.getElem?_of_mem hu
      obtain ⟨k, x, _, h⟩ := lcells_of l j u hj
      rcases h with ⟨_, rfl⟩ | ⟨_, rfl⟩ | ⟨_, rfl⟩ <;> rfl
    have HN := Lib.hid hnews
    have HO := Lib.hid hone
    clear hnews hone
    go_enter Try.func21, Try.ntmps21
    go_wp2_with (at_builtin; refine wpList_append_own_at (w.alloc (Obj.cells #[] 43)) rfl _ _ 28 rfl w.heap.size 43 i0 _ 3 24 Try.underlying28 hi hz0 hz1 hz2 rfl (by omega) (.slice (some ⟨w.heap.size, 0, none⟩) 0 0) 0 [] rfl (World.ownsRow_made w #[] 0 (Nat.le_refl _) (by simp [maxLen]) rfl) a l.length c (lcells l) rfl (lcells_length l) HN.out HO.out (by simp only [maxLen]; omega) (by omega) (by simp) ?_; intro v1 w1 hown1 hg1 _ hat)
    go_ret
    have hB : Below w.heap.size w w1 := (below_alloc' w _).grown hg1 (by simp) (fun k e => by simp [Value.ownBlock] at e; omega)
    refine ⟨_, rfl, own_lines (n := 0 + l.length) (by simpa using hown1) (by omega) (by omega) HOK.out, hB, fun k e => (hown1.lt k e).1⟩
end Go.Proofs.Ytjljfkioiglaiaa
