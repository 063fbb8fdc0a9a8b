/- Laws at one operation, for the walk: append of one element to a row of the call's own; the operations on maps. -/
import Derived.Test.YtjljfkioiglaiaaMap
import Derived.Maps.AppendAt
import Derived.Maps.OwnOps
import Derived.Maps.OwnSet
import Derived.Maps.RangeWalk
import Derived.Deep.AppendLies
import Derived.Deep.QuietTactic
import Derived.BigQuiet
import Derived.Deep.LoopGhost
import Derived.Lib.Hide
import Derived.KernelRfl
set_option linter.unusedVariables false
set_option linter.unusedSimpArgs false
namespace Go.Proofs.Ytjljfkioiglaiaa
open Go.RowKit Go.Maps

theorem cell_at {w : World} {b : Nat} {cs : Array Value} {t : TypeId} (h : w.heap[b]? = some (.cells cs t (0, 0))) (i : Nat) {x : Value} (hx : cs[i]? = some x) : w.cell? ⟨b, i, none⟩ = some x := by
  simp [World.cell?, h, hx]
theorem frozen_at {w : World} {b : Nat} {cs : Array Value} {t : TypeId} (h : w.heap[b]? = some (.cells cs t (0, 0))) (i : Nat) : w.frozen? ⟨b, i, none⟩ = false := by
  simp [World.frozen?, h]

theorem cell_far (w : World) (p : Addr) (u : Value) (a : Addr) (h : a.block ≠ p.block) : (w.setCell p u).cell? a = w.cell? a := World.cell?_of_block (w := w) (Below.heap_setCell w p u a.block h)
theorem frozen_far (w : World) (p : Addr) (u : Value) (a : Addr) (h : a.block ≠ p.block) : (w.setCell p u).frozen? a = w.frozen? a := World.frozen?_of_block (w := w) (Below.heap_setCell w p u a.block h)
theorem size_alloc (w : World) (o : Obj) : (w.alloc o).heap.size = w.heap.size + 1 := by simp
theorem get_new (w : World) (o : Obj) : (w.alloc o).heap[w.heap.size]? = some o := (MapKept.heap_alloc w o).1
theorem get_new' (w : World) (o : Obj) {n : Nat} (h : n = w.heap.size) : (w.alloc o).heap[n]? = some o := h ▸ (MapKept.heap_alloc w o).1
theorem get_old {w : World} {o : Obj} {k : Nat} {x : Obj} (h : w.heap[k]? = some x) : (w.alloc o).heap[k]? = some x := (Below.heap_alloc w o k (Array.getElem?_eq_some_iff.1 h).1).trans h

theorem own_base' {w : World} {base : Nat} {e : TypeId} {size n : Nat} {v : Value} {xs : List Value} (h : w.ownsRow base e size v n xs) (k : Nat) (hk : v.ownBlock = some k) : base ≤ k := (h.lt k hk).1

section
variable {P : Program} {ops : Array Oper} {rest : List Oper} {o : Oper} {a : Act} {Q : Exit → Act → World → Prop}

/-- 'append(v, x)', x laid just before in a new block. -/
theorem wpList_append1 {W : World} (cs : Array Value) (hgd : o.guard = none) (s x : Operand) (t e : TypeId) (z : Value) (size bytes : Nat)
    (ho : o.op = .call { callee := .builtin .append, args := #[s, x], argTypes := #[t, t] })
    (ht : P.underlying t = some (.slice e)) (hinfo : (P.info? e).map (fun i => (i.zero, i.size, i.bytes)) = some (some z, size, bytes)) (hz : z.cells.size = size) (hsz : 0 < size) (hb0 : 0 < bytes)
    (base : Nat) (v : Value) (n : Nat) (xs : List Value) (hs : a.eval s = v) (hx : a.eval x = .slice (some ⟨W.heap.size, 0, none⟩) 1 1) (h1 : ∀ u ∈ cs.toList, u.oneCell' = true) (hcs : cs.size = size)
    (HO : W.ownsRow base e size v n xs) (hbase : base ≤ W.heap.size) (hl : (n + 1) * bytes ≤ 140737488355328)
    (h : ∀ v1 w1, w1.ownsRow base e size v1 (n + 1) (xs ++ cs.toList) → W.grownBy w1 v.ownBlock → (v1.ownBlock = v.ownBlock ∨ ∃ b, v1.ownBlock = some b ∧ W.heap.size ≤ b) → wpList P ops Q rest (a.put o.dst v1) w1) :
    wpList P ops Q (o :: rest) a (W.alloc (.cells cs e)) := by
  obtain ⟨i0, hi, hzz⟩ := Option.map_eq_some_iff.1 hinfo
  simp only [Prod.mk.injEq] at hzz
  obtain ⟨hz0, hz1, hz2⟩ := hzz
  have hlen : n + 1 ≤ 140737488355328 := Nat.le_trans (Nat.le_mul_of_pos_right _ hb0) hl
  refine wpList_append_own_at (W.alloc (.cells cs e)) hgd s x t ho base e i0 z size bytes ht hi hz0 hz1 hz2 hz hsz v n xs hs (HO.alloc _) ⟨W.heap.size, 0, none⟩ 1 1 cs.toList hx (by simp [hcs])
    (World.news_of_block (cs := cs) (t := e) (fr := (0, 0)) (MapKept.heap_alloc W _).1) h1 (by simp only [maxLen]; omega) hl (by simp; omega) ?_
  intro v1 w1 hown hg _ hat
  refine h v1 w1 hown (World.grownBy.trans (World.grownBy_alloc W _ _) hg) ?_
  rcases hat with hat | hat
  · exact .inl hat
  · exact .inr ⟨_, hat, by simp⟩

/-- The same, the new block's number spelled otherwise. -/
theorem wpList_append1' {W : World} (cs : Array Value) (hgd : o.guard = none) (s x : Operand) (t e : TypeId) (z : Value) (size bytes : Nat)
    (ho : o.op = .call { callee := .builtin .append, args := #[s, x], argTypes := #[t, t] })
    (ht : P.underlying t = some (.slice e)) (hinfo : (P.info? e).map (fun i => (i.zero, i.size, i.bytes)) = some (some z, size, bytes)) (hz : z.cells.size = size) (hsz : 0 < size) (hb0 : 0 < bytes)
    (base : Nat) (v : Value) (n : Nat) (xs : List Value) (B : Nat) (hs : a.eval s = v) (hx : a.eval x = .slice (some ⟨B, 0, none⟩) 1 1) (hB : B = W.heap.size) (h1 : ∀ u ∈ cs.toList, u.oneCell' = true) (hcs : cs.size = size)
    (HO : W.ownsRow base e size v n xs) (hbase : base ≤ W.heap.size) (hl : (n + 1) * bytes ≤ 140737488355328)
    (h : ∀ v1 w1, w1.ownsRow base e size v1 (n + 1) (xs ++ cs.toList) → W.grownBy w1 v.ownBlock → (v1.ownBlock = v.ownBlock ∨ ∃ b, v1.ownBlock = some b ∧ W.heap.size ≤ b) → wpList P ops Q rest (a.put o.dst v1) w1) :
    wpList P ops Q (o :: rest) a (W.alloc (.cells cs e)) := by
  subst hB
  exact wpList_append1 cs hgd s x t e z size bytes ho ht hinfo hz hsz hb0 base v n xs hs hx h1 hcs HO hbase hl h

variable {κ : Type} [DecidableEq κ] {k t e : TypeId} {enc : κ → Value} {b n : Nat} {f : κ → Option Value}

/-- 'm[x]', without ok. -/
theorem wpList_lookup_at (w : World) (hg : o.guard = none) (m x : Operand) (hop : o.op = Op.lookup t m x false) (K : Keyed P k) (hinj : ∀ x y, enc x = enc y → x = y)
    (ht : P.underlying t = some (.map k e)) (z : Value) (hz : (zeroValue e).run P w = .ok z w) (hm : a.eval m = .map (some b)) (hM : MapAt w P k enc b f n) (key : κ) (l : Lit) (hx : a.eval x = enc key) (hkey : keyOf P k (enc key) = some l)
    (hK : wpList P ops Q rest (a.put o.dst ((f key).getD z)) w) : wpList P ops Q (o :: rest) a w := by
  refine wpList_plain hg fun K' hK' => ?_
  have hrun := hM.lookup K hinj ht hz hkey false
  unfold Oper.wp
  simp [execOp, hop, hm, hx, hrun, Result.andThen]
  exact hK' _ _ (by simpa using hK)

/-- 'm[x]', with ok. -/
theorem wpList_lookup_ok (w : World) (hg : o.guard = none) (m x : Operand) (hop : o.op = Op.lookup t m x true) (K : Keyed P k) (hinj : ∀ x y, enc x = enc y → x = y)
    (ht : P.underlying t = some (.map k e)) (z : Value) (hz : (zeroValue e).run P w = .ok z w) (hm : a.eval m = .map (some b)) (hM : MapAt w P k enc b f n) (key : κ) (l : Lit) (hx : a.eval x = enc key) (hkey : keyOf P k (enc key) = some l)
    (hK : wpList P ops Q rest (a.put o.dst (.tuple #[(f key).getD z, .bool (f key).isSome])) w) : wpList P ops Q (o :: rest) a w := by
  refine wpList_plain hg fun K' hK' => ?_
  have hrun := hM.lookup K hinj ht hz hkey true
  unfold Oper.wp
  simp [execOp, hop, hm, hx, hrun, Result.andThen]
  exact hK' _ _ (by simpa using hK)

/-- 'm[x] = v'. -/
theorem wpList_update_at (w : World) (hg : o.guard = none) (m x v : Operand) (hop : o.op = Op.mapUpdate t m x v) (K : Keyed P k) (hinj : ∀ x y, enc x = enc y → x = y)
    (ht : P.underlying t = some (.map k e)) (hm : a.eval m = .map (some b)) (hM : MapAt w P k enc b f n) (key : κ) (l : Lit) (hx : a.eval x = enc key) (hkey : keyOf P k (enc key) = some l) (u : Value) (hu : a.eval v = u)
    (hK : ∀ w', MapAt w' P k enc b (fun y => if y = key then some u else f y) (if (f key).isSome then n else n + 1) → w.grownBy w' (some b) → w'.heap.size = w.heap.size → wpList P ops Q rest (a.put o.dst undef) w') : wpList P ops Q (o :: rest) a w := by
  refine wpList_plain hg fun K' hK' => ?_
  obtain ⟨w', hrun, h1, h2, ob, rfl⟩ := hM.update K hinj ht hkey u
  unfold Oper.wp
  simp [execOp, hop, hm, hx, hu, hrun, Result.andThen]
  exact hK' _ _ (hK _ h1 h2 (by simp [ChangeMaps.setBlock]))

/-- 'delete(m, x)'. -/
theorem wpList_delete_at (w : World) (hg : o.guard = none) (m x : Operand) (hop : o.op = Op.call { callee := .builtin .delete, args := #[m, x], argTypes := #[t, k] }) (K : Keyed P k) (hinj : ∀ x y, enc x = enc y → x = y)
    (ht : P.underlying t = some (.map k e)) (hm : a.eval m = .map (some b)) (hM : MapAt w P k enc b f n) (key : κ) (l : Lit) (hx : a.eval x = enc key) (hkey : keyOf P k (enc key) = some l)
    (hK : ∀ w', MapAt w' P k enc b (fun y => if y = key then none else f y) (if (f key).isSome then n - 1 else n) → w.grownBy w' (some b) → w'.heap.size = w.heap.size → wpList P ops Q rest (a.put o.dst (.tuple #[])) w') : wpList P ops Q (o :: rest) a w := by
  refine wpList_plain hg fun K' hK' => ?_
  obtain ⟨w', hrun, h1, h2, ob, rfl⟩ := hM.delete K hinj ht (ty := o.type) hkey
  unfold Oper.wp
  simp [execOp, hop, hm, hx, resolve, invoke, builtin, hrun, Result.andThen]
  exact hK' _ _ (hK _ h1 h2 (by simp [ChangeMaps.setBlock]))

/-- 'len(m)'. -/
theorem wpList_len_at (w : World) (hg : o.guard = none) (m : Operand) (hop : o.op = Op.call { callee := .builtin .len, args := #[m], argTypes := #[t] })
    (ht : P.underlying t = some (.map k e)) (hm : a.eval m = .map (some b)) (hM : MapAt w P k enc b f n)
    (hK : wpList P ops Q rest (a.put o.dst (.int .i64 n)) w) : wpList P ops Q (o :: rest) a w := by
  refine wpList_plain hg fun K' hK' => ?_
  have hrun := hM.len ht o.type
  unfold Oper.wp
  simp [execOp, hop, hm, resolve, invoke, builtin, hrun, Result.andThen]
  exact hK' _ _ hK

/-- 'range m': the loop's iterator. -/
theorem wpList_range_at (w : World) (hg : o.guard = none) (m : Operand) (hop : o.op = Op.range t m) (hinj : ∀ x y, enc x = enc y → x = y)
    (ht : P.underlying t = some (.map k e)) (hm : a.eval m = .map (some b)) (hM : MapAt w P k enc b f n)
    (hK : ∀ ob left, IterAt (w.alloc ob) P k enc b w.heap.size f n left → left.length = n → (∀ x, x ∈ left ↔ (f x).isSome) → wpList P ops Q rest (a.put o.dst (.pointer (some ⟨w.heap.size, 0, none⟩))) (w.alloc ob)) : wpList P ops Q (o :: rest) a w := by
  refine wpList_plain hg fun K' hK' => ?_
  obtain ⟨ob, hrun, left, h1, h2, h3⟩ := hM.range hinj ht
  unfold Oper.wp
  simp [execOp, hop, hm, hrun, Result.andThen]
  exact hK' _ _ (hK ob left h1 h2 h3)

/-- 'next': none is left, or one comes. -/
theorem wpList_next_at (w : World) (hg : o.guard = none) (it : Operand) (hop : o.op = Op.next it false) (hinj : ∀ x y, enc x = enc y → x = y) (r : Nat) (left : List κ) (hit : a.eval it = .pointer (some ⟨r, 0, none⟩)) (hI : IterAt w P k enc b r f n left) (hbr : b ≠ r)
    (h0 : left = [] → wpList P ops Q rest (a.put o.dst (.tuple #[.bool false])) w)
    (h1 : ∀ x v w', x ∈ left → f x = some v → (Instr.entry (.pointer (some ⟨r, 0, none⟩))).run P w' = .ok (.tuple #[enc x, v]) w' → IterAt w' P k enc b r f n (left.erase x) → w.grownBy w' (some r) → w'.heap.size = w.heap.size → (left.erase x).length + 1 = left.length → wpList P ops Q rest (a.put o.dst (.tuple #[.bool true, enc x, v])) w') :
    wpList P ops Q (o :: rest) a w := by
  refine wpList_plain hg fun K' hK' => ?_
  unfold Oper.wp
  rcases hI.next hinj hbr o.type with ⟨hl, hrun⟩ | ⟨x, v, w', hx, hf, hrun, he, hI', hgr, hsz, hlen⟩
  · simp [execOp, hop, hit, hrun, Result.andThen]
    exact hK' _ _ (h0 hl)
  · simp [execOp, hop, hit, hrun, Result.andThen]
    exact hK' _ _ (h1 x v w' hx hf he hI' hgr hsz hlen)
end
end Go.Proofs.Ytjljfkioiglaiaa
