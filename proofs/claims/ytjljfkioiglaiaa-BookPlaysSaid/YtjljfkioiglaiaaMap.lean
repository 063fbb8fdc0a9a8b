/- Generic facts on a map's block: what it holds key by key, whatever the order of its entries. -/
import Derived.Maps.Keyed
import Derived.Maps.RangeRun
import Derived.Maps.Own
import Derived.OwnWalk
import Derived.Below
import Derived.WalkKit
namespace Go.Proofs.Ytjljfkioiglaiaa
open Go.MapKept Go.Maps Go.RowKit
open Go.ChangeMaps (setBlock heap_setBlock_same heap_setBlock_other)

theorem set_same {w : World} {r : Nat} (h : r < w.heap.size) (o : Obj) : (setBlock w r o).heap[r]? = some o := by
  simp [setBlock, h]
theorem set_other (w : World) {r i : Nat} (o : Obj) (h : i ≠ r) : (setBlock w r o).heap[i]? = w.heap[i]? := by
  simp only [setBlock, Array.getElem?_setIfInBounds]
  rw [if_neg (fun e => h e.symm)]


set_option linter.unusedSectionVars false
variable {κ : Type} [DecidableEq κ]

/-- Block b of w is a map of n entries that holds f: at the key enc x the value f x. -/
structure MapAt (w : World) (P : Program) (k : TypeId) (enc : κ → Value) (b : Nat) (f : κ → Option Value) (n : Nat) : Prop where
  ex : ∃ es clock, w.heap[b]? = some (.map es clock) ∧ Stamped es clock ∧ es.size = n ∧
    (∀ e ∈ es.toList, ∃ x l, e.key = enc x ∧ keyOf P k e.key = some l ∧ f x = some e.val) ∧ (∀ x v, f x = some v → ∃ e ∈ es.toList, e.key = enc x ∧ e.val = v)

theorem MapAt.lt {w : World} {P : Program} {k : TypeId} {enc : κ → Value} {b : Nat} {f : κ → Option Value} {n : Nat} (h : MapAt w P k enc b f n) : b < w.heap.size := by
  obtain ⟨es, clock, hb, _⟩ := h.ex
  exact (Array.getElem?_eq_some_iff.1 hb).1
theorem MapAt.of_block {w w' : World} {P : Program} {k : TypeId} {enc : κ → Value} {b : Nat} {f : κ → Option Value} {n : Nat} (h : MapAt w P k enc b f n) (e : w'.heap[b]? = w.heap[b]?) : MapAt w' P k enc b f n := by
  obtain ⟨es, clock, hb, r⟩ := h.ex
  exact ⟨es, clock, e.trans hb, r⟩
theorem MapAt.congr {w : World} {P : Program} {k : TypeId} {enc : κ → Value} {b : Nat} {f g : κ → Option Value} {n : Nat} (h : MapAt w P k enc b f n) (e : ∀ x, f x = g x) : MapAt w P k enc b g n := by
  have : f = g := funext e
  exact this ▸ h
theorem MapAt.made (w : World) (P : Program) (k : TypeId) (enc : κ → Value) : MapAt (w.alloc (.map #[] 0)) P k enc w.heap.size (fun _ => none) 0 :=
  ⟨#[], 0, (MapKept.heap_alloc w _).1, stamped_empty 0, rfl, by simp, by simp⟩
theorem MapAt.is_map {w : World} {P : Program} {k : TypeId} {enc : κ → Value} {b : Nat} {f : κ → Option Value} {n : Nat} (h : MapAt w P k enc b f n) : ∃ es clock, w.heap[b]? = some (.map es clock) := by
  obtain ⟨es, clock, hb, _⟩ := h.ex
  exact ⟨es, clock, hb⟩

section
variable {P : Program} {k t e : TypeId} {enc : κ → Value} {w : World} {b n : Nat} {f : κ → Option Value}

/-- 'm[x]', with and without ok. -/
theorem MapAt.lookup (h : MapAt w P k enc b f n) (K : Keyed P k) (hinj : ∀ x y, enc x = enc y → x = y) (ht : P.underlying t = some (.map k e)) {z : Value} (hz : (zeroValue e).run P w = .ok z w)
    {x : κ} {l : Lit} (hx : keyOf P k (enc x) = some l) (ok : Bool) :
    (Instr.lookup t (.map (some b)) (enc x) ok).run P w = .ok (if ok then .tuple #[(f x).getD z, .bool (f x).isSome] else (f x).getD z) w := by
  obtain ⟨es, clock, hb, hs, hn, h1, h2⟩ := h.ex
  have hk : ∀ e ∈ es.toList, ∃ l, keyOf P k e.key = some l := fun e he => by
    obtain ⟨x, l, _, hl, _⟩ := h1 e he
    exact ⟨l, hl⟩
  have hck := K.check w es.isEmpty hx
  simp only [Instr.lookup, Sem.run_bind, run_underlying ht, Result.andThen, MapKept.run_getObj_map hb, Sem.run_pure, hck]
  rcases K.find w hx es.toList hk with ⟨hf, hne⟩ | ⟨j, e0, hf, hj, hkey⟩
  · have hnone : f x = none := by
      cases hfx : f x with
      | none => rfl
      | some v =>
        obtain ⟨e0, he0, hke, _⟩ := h2 x v hfx
        exact absurd hke (hne e0 he0)
    simp only [hf, Result.andThen, hz, Sem.run_pure, hnone, Option.getD_none, Option.isSome_none, Sem.run_bind]
  · have he0 : e0 ∈ es.toList := List.mem_of_getElem? hj
    obtain ⟨y, l', hy, _, hfy⟩ := h1 e0 he0
    have hxy : y = x := hinj _ _ (by rw [← hy, hkey])
    subst hxy
    simp only [hf, Result.andThen, Sem.run_pure, hfy, Option.getD_some, Option.isSome_some, Sem.run_bind]

/-- 'm[x] = v'. -/
theorem MapAt.update (h : MapAt w P k enc b f n) (K : Keyed P k) (hinj : ∀ x y, enc x = enc y → x = y) (ht : P.underlying t = some (.map k e))
    {x : κ} {l : Lit} (hx : keyOf P k (enc x) = some l) (v : Value) :
    ∃ w', (Instr.mapUpdate t (.map (some b)) (enc x) v).run P w = .ok () w' ∧ MapAt w' P k enc b (fun y => if y = x then some v else f y) (if (f x).isSome then n else n + 1) ∧ w.grownBy w' (some b) ∧ ∃ o, w' = setBlock w b o := by
  obtain ⟨es, clock, hb, hs, hn, h1, h2⟩ := h.ex
  have hk : ∀ e ∈ es.toList, ∃ l, keyOf P k e.key = some l := fun e he => by
    obtain ⟨x, l, _, hl, _⟩ := h1 e he
    exact ⟨l, hl⟩
  have hck := K.check w false hx
  simp only [Instr.mapUpdate, Sem.run_bind, run_underlying ht, Result.andThen, MapKept.run_getObj_map hb, hck]
  have grow : ∀ o, w.grownBy (setBlock w b o) (some b) := fun o =>
    ⟨rfl, rfl, rfl, by simp [setBlock], fun i _ hi => heap_setBlock_other hb _ (fun e => hi (by rw [e]))⟩
  rcases K.find w hx es.toList hk with ⟨hf, hne⟩ | ⟨j, e0, hf, hj, hkey⟩
  · have hnone : f x = none := by
      cases hfx : f x with
      | none => rfl
      | some v =>
        obtain ⟨e0, he0, hke, _⟩ := h2 x v hfx
        exact absurd hke (hne e0 he0)
    refine ⟨setBlock w b (.map (es.push { key := enc x, val := v, born := clock }) (clock + 1)), by simp only [hf, MapKept.run_setObj_map _ hb]; rfl, ?_, grow _, _, rfl⟩
    rw [hnone]
    refine ⟨_, _, heap_setBlock_same hb _, stamped_push hs (fun e he => hne e he), by simp [hn], ?_, ?_⟩
    · intro e he
      simp only [Array.toList_push, List.mem_append, List.mem_singleton] at he
      rcases he with he | rfl
      · obtain ⟨y, l', hy, hl', hfy⟩ := h1 e he
        refine ⟨y, l', hy, hl', ?_⟩
        have : y ≠ x := fun e => by rw [e, hnone] at hfy; cases hfy
        simp [this, hfy]
      · exact ⟨x, l, rfl, hx, by simp⟩
    · intro y u hyu
      by_cases hyx : y = x
      · subst hyx
        simp at hyu
        subst hyu
        exact ⟨_, by simp only [Array.toList_push, List.mem_append, List.mem_singleton]; exact .inr rfl, rfl, rfl⟩
      · simp [hyx] at hyu
        obtain ⟨e0, he0, r⟩ := h2 y u hyu
        exact ⟨e0, by simp only [Array.toList_push, List.mem_append]; exact .inl he0, r⟩
  · have he0 : e0 ∈ es.toList := List.mem_of_getElem? hj
    obtain ⟨y, l', hy, _, hfy⟩ := h1 e0 he0
    have hxy : y = x := hinj _ _ (by rw [← hy, hkey])
    subst hxy
    have hj' : es[j]? = some e0 := by simpa using hj
    have hst := K.stays w hx
    obtain ⟨g, hg⟩ : ∃ g : MapEntry → MapEntry, g = fun m => { m with key := enc y, val := v } := ⟨_, rfl⟩
    have hrun : (Instr.mapUpdate t (.map (some b)) (enc y) v).run P w = .ok () (setBlock w b (.map (es.modify j g) clock)) := by
      simp only [Instr.mapUpdate, Sem.run_bind, run_underlying ht, Result.andThen, MapKept.run_getObj_map hb, hck, hf, hj', Option.map_some, Option.getD_some, hkey, hst, MapKept.run_setObj_map _ hb, hg]; rfl
    simp only [Instr.mapUpdate, Sem.run_bind, run_underlying ht, Result.andThen, MapKept.run_getObj_map hb, hck] at hrun
    refine ⟨setBlock w b (.map (es.modify j g) clock), hrun, ?_, grow _, _, rfl⟩
    rw [hfy]
    refine ⟨es.modify j g, clock, heap_setBlock_same hb _, stamped_modify hs j g (fun m _ => by rw [hg]) (fun m _ he => by rw [hj'] at he; cases he; rw [hg]; exact hkey.symm), by simp [hn], ?_, ?_⟩
    · intro m he
      rw [Array.toList_modify] at he
      obtain ⟨i, hi⟩ := List.getElem?_of_mem he
      rw [List.getElem?_modify] at hi
      by_cases hij : j = i
      · subst hij
        rw [hj] at hi
        simp [hg] at hi
        subst hi
        exact ⟨y, l, rfl, hx, by simp⟩
      · have hi' : es.toList[i]? = some m := by simpa [hij] using hi
        have hm := List.mem_of_getElem? hi'
        obtain ⟨z, l', hz, hl', hfz⟩ := h1 m hm
        refine ⟨z, l', hz, hl', ?_⟩
        have : z ≠ y := fun ezy => by
          subst ezy
          have hnd := hs.2.2
          have hik : (es.toList.map (·.key))[i]? = (es.toList.map (·.key))[j]? := by simp only [List.getElem?_map, hi', hj, Option.map_some, hz, hkey]
          exact hij ((List.getElem?_inj (by simpa using (List.getElem?_eq_some_iff.1 hi').1) hnd).1 hik |>.symm)
        simp [this, hfz]
    · intro z u hzu
      by_cases hzy : z = y
      · subst hzy
        simp at hzu
        subst hzu
        refine ⟨g e0, ?_, by rw [hg], by rw [hg]⟩
        rw [Array.toList_modify]
        refine List.mem_of_getElem? (i := j) ?_
        rw [List.getElem?_modify, hj]; simp
      · simp [hzy] at hzu
        obtain ⟨e1, he1, hk1, hv1⟩ := h2 z u hzu
        obtain ⟨i, hi⟩ := List.getElem?_of_mem he1
        have hij : j ≠ i := fun e => by
          subst e
          rw [hj] at hi
          cases hi
          exact hzy (hinj _ _ (by rw [← hk1, hkey]))
        refine ⟨e1, ?_, hk1, hv1⟩
        rw [Array.toList_modify]
        refine List.mem_of_getElem? (i := i) ?_
        rw [List.getElem?_modify, hi]; simp [hij]

/-- 'delete(m, x)'. -/
theorem MapAt.delete (h : MapAt w P k enc b f n) (K : Keyed P k) (hinj : ∀ x y, enc x = enc y → x = y) (ht : P.underlying t = some (.map k e)) {ty : TypeId}
    {x : κ} {l : Lit} (hx : keyOf P k (enc x) = some l) :
    ∃ w', (Builtin.delete_ #[t, k] ty #[.map (some b), enc x]).run P w = .ok (.tuple #[]) w' ∧ MapAt w' P k enc b (fun y => if y = x then none else f y) (if (f x).isSome then n - 1 else n) ∧ w.grownBy w' (some b) ∧ ∃ o, w' = setBlock w b o := by
  obtain ⟨es, clock, hb, hs, hn, h1, h2⟩ := h.ex
  have hk : ∀ e ∈ es.toList, ∃ l, keyOf P k e.key = some l := fun e he => by
    obtain ⟨x, l, _, hl, _⟩ := h1 e he
    exact ⟨l, hl⟩
  have hck := K.check w es.isEmpty hx
  have grow : ∀ o, w.grownBy (setBlock w b o) (some b) := fun o =>
    ⟨rfl, rfl, rfl, by simp [setBlock], fun i _ hi => heap_setBlock_other hb _ (fun e => hi (by rw [e]))⟩
  rcases K.find w hx es.toList hk with ⟨hf, hne⟩ | ⟨j, e0, hf, hj, hkey⟩
  · have hnone : f x = none := by
      cases hfx : f x with
      | none => rfl
      | some v =>
        obtain ⟨e0, he0, hke, _⟩ := h2 x v hfx
        exact absurd hke (hne e0 he0)
    have hrun : (Builtin.delete_ #[t, k] ty #[.map (some b), enc x]).run P w = .ok (.tuple #[]) (setBlock w b (.map es clock)) := by
      simp [Builtin.delete_, Sem.run_bind, run_underlying ht, Result.andThen, MapKept.run_getObj_map hb, hck, hf, MapKept.run_setObj_map _ hb, setBlock]
    refine ⟨_, hrun, ?_, grow _, _, rfl⟩
    rw [hnone]
    refine ⟨es, clock, heap_setBlock_same hb _, hs, by simp [hn], fun m hm => ?_, fun y u hyu => ?_⟩
    · obtain ⟨y, l', hy, hl', hfy⟩ := h1 m hm
      refine ⟨y, l', hy, hl', ?_⟩
      have : y ≠ x := fun e => by rw [e, hnone] at hfy; cases hfy
      simp [this, hfy]
    · by_cases hyx : y = x
      · simp [hyx] at hyu
      · simp [hyx] at hyu
        exact h2 y u hyu
  · have he0 : e0 ∈ es.toList := List.mem_of_getElem? hj
    obtain ⟨y, l', hy, _, hfy⟩ := h1 e0 he0
    have hxy : y = x := hinj _ _ (by rw [← hy, hkey])
    subst hxy
    have hj' : es[j]? = some e0 := by simpa using hj
    have hjl : j < es.size := (Array.getElem?_eq_some_iff.1 hj').1
    have hrun : (Builtin.delete_ #[t, k] ty #[.map (some b), enc y]).run P w = .ok (.tuple #[]) (setBlock w b (.map (es.eraseIdxIfInBounds j) clock)) := by
      simp [Builtin.delete_, Sem.run_bind, run_underlying ht, Result.andThen, MapKept.run_getObj_map hb, hck, hf, MapKept.run_setObj_map _ hb, setBlock]
    have hlist : (es.eraseIdxIfInBounds j).toList = es.toList.eraseIdx j := by
      simp [Array.eraseIdxIfInBounds, hjl]
    refine ⟨_, hrun, ?_, grow _, _, rfl⟩
    rw [hfy]
    refine ⟨es.eraseIdxIfInBounds j, clock, heap_setBlock_same hb _, stamped_erase hs j, ?_, fun m hm => ?_, fun z u hzu => ?_⟩
    · rw [← Array.length_toList, hlist, List.length_eraseIdx_of_lt (by simpa using hjl)]; simp [hn]
    · rw [hlist] at hm
      obtain ⟨i, hij, hi⟩ := List.mem_eraseIdx_iff_getElem?.1 hm
      have hm' := List.mem_of_getElem? hi
      obtain ⟨z, l', hz, hl', hfz⟩ := h1 m hm'
      refine ⟨z, l', hz, hl', ?_⟩
      have : z ≠ y := fun ezy => by
        subst ezy
        have hik : (es.toList.map (·.key))[i]? = (es.toList.map (·.key))[j]? := by simp only [List.getElem?_map, hi, hj, Option.map_some, hz, hkey]
        exact hij ((List.getElem?_inj (by simpa using (List.getElem?_eq_some_iff.1 hi).1) hs.2.2).1 hik)
      simp [this, hfz]
    · by_cases hzy : z = y
      · simp [hzy] at hzu
      · simp [hzy] at hzu
        obtain ⟨e1, he1, hk1, hv1⟩ := h2 z u hzu
        refine ⟨e1, ?_, hk1, hv1⟩
        rw [hlist]
        obtain ⟨i, hi⟩ := List.getElem?_of_mem he1
        refine List.mem_eraseIdx_iff_getElem?.2 ⟨i, fun e => ?_, hi⟩
        subst e
        rw [hj] at hi
        cases hi
        exact hzy (hinj _ _ (by rw [← hk1, hkey]))

/-- 'len(m)'. -/
theorem MapAt.len (h : MapAt w P k enc b f n) (ht : P.underlying t = some (.map k e)) (ty : TypeId) : (Builtin.len_ #[t] ty #[.map (some b)]).run P w = .ok (.int .i64 n) w := by
  obtain ⟨es, clock, hb, _, hn, _⟩ := h.ex
  simp [Builtin.len_, run_underlying ht, Result.andThen, MapKept.run_getObj_map hb, goInt, hn]
end

/-! ### ranging over a map that isn't written meanwhile -/
/-- Block r is an iterator over the map at b, whose entries at the keys 'left' are still to come. -/
structure IterAt (w : World) (P : Program) (k : TypeId) (enc : κ → Value) (b r : Nat) (f : κ → Option Value) (n : Nat) (left : List κ) : Prop where
  map : MapAt w P k enc b f n
  nodup : left.Nodup
  dom : ∀ x ∈ left, (f x).isSome
  ex : ∃ es clock since seen c0, w.heap[b]? = some (.map es clock) ∧ w.heap[r]? = some (.mapIter (some b) since seen c0) ∧ (∀ x ∈ es.toList, x.born < since) ∧ since ≤ c0 ∧ c0 = clock ∧
    (leftOf es seen).toList.map (·.key) = left.map enc

theorem IterAt.of_blocks {w w' : World} {P : Program} {k : TypeId} {enc : κ → Value} {b r n : Nat} {f : κ → Option Value} {left : List κ} (h : IterAt w P k enc b r f n left) (e1 : w'.heap[b]? = w.heap[b]?) (e2 : w'.heap[r]? = w.heap[r]?) :
    IterAt w' P k enc b r f n left := by
  obtain ⟨es, clock, since, seen, c0, h1, h2, rest⟩ := h.ex
  exact ⟨h.map.of_block e1, h.nodup, h.dom, es, clock, since, seen, c0, e1.trans h1, e2.trans h2, rest⟩

theorem IterAt.lt {w : World} {P : Program} {k : TypeId} {enc : κ → Value} {b r n : Nat} {f : κ → Option Value} {left : List κ} (h : IterAt w P k enc b r f n left) : r < w.heap.size := by
  obtain ⟨es, clock, since, seen, c0, h1, h2, _⟩ := h.ex
  exact (Array.getElem?_eq_some_iff.1 h2).1

section
variable {P : Program} {k t e : TypeId} {enc : κ → Value} {w : World} {b n : Nat} {f : κ → Option Value}

/-- 'range m': all keys are still to come, each once. -/
theorem MapAt.range (h : MapAt w P k enc b f n) (hinj : ∀ x y, enc x = enc y → x = y) (ht : P.underlying t = some (.map k e)) :
    ∃ o, (Instr.range t (.map (some b))).run P w = .ok (.pointer (some ⟨w.heap.size, 0, none⟩)) (w.alloc o) ∧
    ∃ left, IterAt (w.alloc o) P k enc b w.heap.size f n left ∧ left.length = n ∧ ∀ x, x ∈ left ↔ (f x).isSome := by
  obtain ⟨es, clock, hb, hs, hn, h1, h2⟩ := h.ex
  refine ⟨_, run_range_map w t k e b es clock ht hb, ?_⟩
  have hex : ∀ l : List MapEntry, (∀ m ∈ l, m ∈ es.toList) → ∃ left : List κ, left.map enc = l.map (·.key) ∧ left.length = l.length ∧ ∀ x ∈ left, ∃ m ∈ l, m.key = enc x ∧ f x = some m.val := by
    intro l
    induction l with
    | nil => intro _; exact ⟨[], rfl, rfl, by simp⟩
    | cons m l ih =>
      intro hl
      obtain ⟨left, e1, e2, e3⟩ := ih (fun m' hm' => hl m' (List.mem_cons_of_mem _ hm'))
      obtain ⟨x, _, hx, _, hfx⟩ := h1 m (hl m (List.mem_cons_self ..))
      refine ⟨x :: left, by simp [e1, hx], by simp [e2], fun y hy => ?_⟩
      rcases List.mem_cons.1 hy with rfl | hy
      · exact ⟨m, List.mem_cons_self .., hx, hfx⟩
      · obtain ⟨m', hm', r⟩ := e3 y hy
        exact ⟨m', List.mem_cons_of_mem _ hm', r⟩
  obtain ⟨left, e1, e2, e3⟩ := hex es.toList (fun _ h => h)
  have hlb : b < w.heap.size := h.lt
  have hnd : left.Nodup := by
    have hn2 : (left.map enc).Nodup := e1 ▸ hs.2.2
    exact (List.pairwise_map.1 hn2).imp fun h e => h (by rw [e])
  refine ⟨left, ⟨h.of_block ((MapKept.heap_alloc w _).2 b hlb), hnd, fun x hx => ?_, es, clock, clock, #[], clock, ((MapKept.heap_alloc w _).2 b hlb).trans hb, (MapKept.heap_alloc w _).1, hs.1, Nat.le_refl _, rfl, ?_⟩, by rw [e2]; simpa using hn, fun x => ⟨fun hx => ?_, fun hx => ?_⟩⟩
  · obtain ⟨m, _, _, hf⟩ := e3 x hx
    simp [hf]
  · rw [e1, show leftOf es #[] = es from by unfold leftOf; exact Array.filter_eq_self.2 (by simp)]
  · obtain ⟨m, _, _, hf⟩ := e3 x hx
    simp [hf]
  · obtain ⟨v, hv⟩ := Option.isSome_iff_exists.1 hx
    obtain ⟨m, hm, hk, _⟩ := h2 x v hv
    have : m.key ∈ left.map enc := e1 ▸ List.mem_map_of_mem hm
    obtain ⟨y, hy, hyk⟩ := List.mem_map.1 this
    exact hinj _ _ (hyk.trans hk) ▸ hy

/-- 'next': nothing is left; or some key comes, whichever the tape says, with its element. -/
theorem IterAt.next {r : Nat} {left : List κ} (h : IterAt w P k enc b r f n left) (hinj : ∀ x y, enc x = enc y → x = y) (hbr : b ≠ r) (ty : TypeId) :
    (left = [] ∧ (Instr.next (.pointer (some ⟨r, 0, none⟩)) false ty).run P w = .ok (.tuple #[.bool false]) w) ∨
    ∃ x v w', x ∈ left ∧ f x = some v ∧ (Instr.next (.pointer (some ⟨r, 0, none⟩)) false ty).run P w = .ok (.tuple #[.bool true, enc x, v]) w' ∧
      (Instr.entry (.pointer (some ⟨r, 0, none⟩))).run P w' = .ok (.tuple #[enc x, v]) w' ∧ IterAt w' P k enc b r f n (left.erase x) ∧ w.grownBy w' (some r) ∧ w'.heap.size = w.heap.size ∧ (left.erase x).length + 1 = left.length := by
  obtain ⟨es, clock, since, seen, c0, hb, hr, hold, hsc, hc, hleft⟩ := h.ex
  obtain ⟨es', clock', hb', hs, hn, h1, h2⟩ := h.map.ex
  rw [hb] at hb'
  cases hb'
  rcases run_next_at (P := P) w ty r b since c0 seen es clock hr hb hold hsc with ⟨h0, hrun⟩ | ⟨m, hm, w1, hw1, hrun⟩
  · left
    refine ⟨?_, hrun⟩
    have : (leftOf es seen).toList = [] := List.eq_nil_of_length_eq_zero (by simpa using h0)
    rw [this] at hleft
    simpa using hleft.symm
  · right
    have hmes := mem_left hm
    obtain ⟨x, l, hx, hl, hfx⟩ := h1 m hmes.1
    have hxl : x ∈ left := by
      have : m.key ∈ left.map enc := hleft ▸ List.mem_map_of_mem hm
      obtain ⟨y, hy, hyk⟩ := List.mem_map.1 this
      exact hinj _ _ (hyk.trans hx) ▸ hy
    have hr1 : w1.heap[r]? = some (.mapIter (some b) since seen c0) := by rcases hw1 with rfl | rfl <;> exact hr
    have hb1 : w1.heap[b]? = some (.map es clock) := by rcases hw1 with rfl | rfl <;> exact hb
    have hb2 : (setBlock w1 r (.mapIter (some b) since (seen.push m.born) clock)).heap[b]? = some (.map es clock) := (set_other w1 _ hbr).trans hb1
    have hr2 := set_same (Array.getElem?_eq_some_iff.1 hr1).1 (.mapIter (some b) since (seen.push m.born) clock)
    have hlen : (left.erase x).length + 1 = left.length := by
      rw [List.length_erase_of_mem hxl]
      have := List.length_pos_of_mem hxl
      omega
    refine ⟨x, m.val, _, hxl, hfx, hx ▸ hrun, ?_, ⟨h.map.of_block (hb2.trans hb.symm), h.nodup.erase x, fun y hy => h.dom y (List.mem_of_mem_erase hy), es, clock, since, _, clock, hb2, hr2, hold, by omega, rfl, ?_⟩, ?_, ?_, hlen⟩
    · rw [← hx]
      exact run_entry_at _ r b since seen es clock m hr2 hb2 hmes.1 hs.2.1
    · have hkeys : (leftOf es (seen.push m.born)).toList = (leftOf es seen).toList.filter (fun y => y.born != m.born) := by
        simp only [leftOf, Array.toList_filter, List.filter_filter, Array.contains_push]
        refine List.filter_congr fun y _ => ?_
        simp [bne, Bool.and_comm]
      have hnd : ((leftOf es seen).toList.map (·.born)).Nodup := by
        have hsub : (leftOf es seen).toList.Sublist es.toList := by simp [leftOf]
        exact List.Nodup.sublist (hsub.map _) hs.2.1
      rw [hkeys]
      have aux : ∀ (L : List MapEntry) (left : List κ), (∀ y ∈ L, y ∈ es.toList) → (L.map (·.born)).Nodup → L.map (·.key) = left.map enc → (L.filter (fun y => y.born != m.born)).map (·.key) = (left.erase x).map enc := by
        intro L
        induction L with
        | nil =>
          intro left _ _ hL
          have : left = [] := by simpa using hL.symm
          subst this
          simp
        | cons y L ih =>
          intro left hsubs hnd hL
          cases left with
          | nil => simp at hL
          | cons z left =>
            simp only [List.map_cons, List.cons.injEq] at hL
            have hndc := List.nodup_cons.1 (by simpa using hnd : (y.born :: L.map (·.born)).Nodup)
            by_cases hyb : y.born = m.born
            · have hym : y = m := born_inj hs.2.1 (hsubs y (List.mem_cons_self ..)) hmes.1 hyb
              subst hym
              have hzx : z = x := hinj _ _ (hL.1.symm.trans hx)
              subst hzx
              have hnone : L.filter (fun y' => y'.born != y.born) = L := by
                refine List.filter_eq_self.2 fun y' hy' => ?_
                have : y'.born ≠ y.born := fun e => hndc.1 (e ▸ List.mem_map_of_mem hy')
                simpa [bne_iff_ne] using this
              simp [hnone, hL.2]
            · have hzx : z ≠ x := fun e => by
                subst e
                have hkk : y.key = m.key := hL.1.trans hx.symm
                have hy' := hsubs y (List.mem_cons_self ..)
                obtain ⟨i, hi⟩ := List.getElem?_of_mem hy'
                obtain ⟨j, hj⟩ := List.getElem?_of_mem hmes.1
                have hik : (es.toList.map (·.key))[i]? = (es.toList.map (·.key))[j]? := by simp only [List.getElem?_map, hi, hj, Option.map_some, hkk]
                have := (List.getElem?_inj (by simpa using (List.getElem?_eq_some_iff.1 hi).1) hs.2.2).1 hik
                subst this
                rw [hi] at hj
                cases hj
                exact hyb rfl
              have hbn : (y.born != m.born) = true := by simpa [bne_iff_ne] using hyb
              rw [List.filter_cons, if_pos hbn, List.erase_cons_tail (by simpa using hzx)]
              simp only [List.map_cons, hL.1, List.cons.injEq, true_and]
              exact ih left (fun y' hy' => hsubs y' (List.mem_cons_of_mem _ hy')) hndc.2 hL.2
      exact aux _ _ (fun y hy => (mem_left hy).1) hnd hleft
    · refine ⟨?_, ?_, ?_, ?_, fun i hi hir => ?_⟩
      · rcases hw1 with rfl | rfl <;> rfl
      · rcases hw1 with rfl | rfl <;> rfl
      · rcases hw1 with rfl | rfl <;> rfl
      · rcases hw1 with rfl | rfl <;> simp [setBlock]
      · have : i ≠ r := fun e => hir (by rw [e])
        rw [set_other w1 _ this]
        rcases hw1 with rfl | rfl <;> rfl
    · rcases hw1 with rfl | rfl <;> simp [setBlock]
end
end Go.Proofs.Ytjljfkioiglaiaa
