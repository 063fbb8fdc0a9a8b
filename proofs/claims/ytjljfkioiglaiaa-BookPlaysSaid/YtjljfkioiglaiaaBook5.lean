/- Post. -/
import Derived.Test.YtjljfkioiglaiaaBook4
import Derived.Deep.RegionHeld3
set_option linter.unusedVariables false
set_option linter.unusedSimpArgs false
namespace Go.Proofs.Ytjljfkioiglaiaa
open Go.RowKit Go.Shelf

theorem LinesAt.chg {S : Nat → Prop} {w w1 : World} {v : Value} {l : List Ln} (h : LinesAt w v l) (hc : Chg S w w1) (hS : ∀ (k : Nat) (cs : Array Value) (t : TypeId) (fr : Nat × Nat), S k → w.heap[k]? ≠ some (Obj.cells cs t fr)) (h0 : l ≠ []) : LinesAt w1 v l := by
  obtain ⟨A, c, rfl, hm, hok, h⟩ := h
  have hp : 0 < l.length := List.length_pos_iff.2 h0
  obtain ⟨b, o, rfl, hlt, hcell⟩ := h hp
  obtain ⟨x, hx⟩ : ∃ x, l[0]? = some x := ⟨_, List.getElem?_eq_getElem hp⟩
  have h1 := (hcell 0 x hx).1
  have hb : ¬ S b := fun hs => by
    unfold World.cell? at h1
    split at h1
    · rename_i cs t fr e
      exact hS b cs t fr hs e
    · cases h1
  have hB : ∀ k, (Value.slice (some ⟨b, o, none⟩) l.length c).ownBlock = some k → w1.heap[k]? = w.heap[k]? := fun k e => by
    have : b = k := by simpa [Value.ownBlock] using e
    subst this
    exact hc.block b hlt hb
  exact LinesAt.of_block ⟨_, c, rfl, hm, hok, fun _ => ⟨b, o, rfl, hlt, hcell⟩⟩ hB hc.size

section
variable {ops : Array Oper} {rest : List Oper} {o : Oper} {a : Act} {Q : Exit → Act → World → Prop} {b n : Nat} {f : Acc → Option Value}
theorem wpList_lookupok_acc' (w : World) (hg : o.guard = none) (m x : Operand) (hop : o.op = Op.lookup 59 m x true) (hm : a.eval m = .map (some b)) (hM : AccMap w b f n) (k y : Int) (hx : a.eval x = .agg #[.int .i64 k, .int .i64 y]) (hok : AccOk ⟨k, y⟩)
    (r : Value) (q : Bool) (hr : (f ⟨k, y⟩).getD (.int .i64 0) = r) (hq : (f ⟨k, y⟩).isSome = q)
    (hK : wpList Try.prog ops Q rest (a.put o.dst (.tuple #[r, .bool q])) w) : wpList Try.prog ops Q (o :: rest) a w := by
  subst hr hq
  exact wpList_lookupok_acc w hg m x hop hm hM k y hx hok hK
end

def PostPost (w : World) (bb mb : Nat) (ev : Value) (B : Bk) (l : List Ln) (e : Ending) (w' : World) : Prop :=
  ∃ ev', e = .returned (.tuple #[.int .i64 (if errB B l = 0 then B.es.length else 0), if errB B l = 0 then .nilIface else .iface 55 (.int .i64 (errB B l))]) ∧
    BookAt w' bb mb ev' (postB B l) ∧ Chg (MutB bb mb ev) w w' ∧ ∀ k, k < w.heap.size → ev'.ownBlock = some k → ev.ownBlock = some k

theorem post_bad {w w' : World} {bb mb : Nat} {ev : Value} {B : Bk} {l : List Ln} (hB : BookAt w bb mb ev B) (hb : Below w.heap.size w w') {n : Int} (hn : errB B l = n) (h0 : n ≠ 0) :
    PostPost w bb mb ev B l (.returned (.tuple #[.int .i64 0, .iface 55 (.int .i64 n)])) w' := by
  refine ⟨ev, ?_, ?_, Chg.of_below hb, fun _ _ h => h⟩
  · rw [hn, if_neg h0, if_neg h0]
  · rw [postB, if_neg (by rw [hn]; exact h0)]
    exact hB.below hb

theorem BookAt.copied {w wr w3 : World} {bb mb : Nat} {ev : Value} {B : Bk} {f : Acc → Option Value} {bal : Acc → Option Int} {n : Nat} (h : BookAt w bb mb ev B) (hb : Below w.heap.size w wr) (hc : Chg (fun k => k = mb) wr w3)
    (hm : AccMap w3 mb f n) (hf : ∀ a, f a = (bal a).map (Value.int .i64)) (hbal : ∀ a x, bal a = some x → AccOk a ∧ I64 x) : BookAt w3 bb mb ev ⟨B.es, bal⟩ := by
  obtain ⟨h1, ⟨vs, h2, h3, h4⟩, ⟨n0, h5⟩, h6⟩ := h
  have hbb := (Array.getElem?_eq_some_iff.1 h1).1
  obtain ⟨es, clock, hmap⟩ := h5.is_map
  have hmr := (hb.block mb h5.lt).trans hmap
  have keep : ∀ k cs t fr, w.heap[k]? = some (Obj.cells cs t fr) → w3.heap[k]? = some (Obj.cells cs t fr) := fun k cs t fr e => by
    have hk := (Array.getElem?_eq_some_iff.1 e).1
    have hne : ¬ k = mb := fun h => by subst h; rw [hmap] at e; cases e
    exact (hc.block k (Nat.lt_of_lt_of_le hk hb.size) hne).trans ((hb.block k hk).trans e)
  have hK : KeepT 43 w w3 := ⟨Nat.le_trans hb.size hc.size, fun k cs fr e => (keep k cs _ fr e).trans e.symm⟩
  refine ⟨keep _ _ _ _ h1, ⟨vs, h2, ?_, fun i v e hv he => (h4 i v e hv he).keep hK⟩, ⟨n, hm.congr hf⟩, hbal⟩
  obtain ⟨g1, g2⟩ := h3
  refine ⟨g1, ?_⟩
  rcases g2 with g2 | ⟨g, cap, cur, rfl, hg, hh, r⟩
  · exact .inl g2
  · exact .inr ⟨g, cap, cur, rfl, hg, keep _ _ _ _ hh, r⟩

theorem ecells_snoc (vs : List Value) (es : List (List Ln × Bool)) (v : Value) (e : List Ln × Bool) (h : vs.length = es.length) : ecells (vs ++ [v]) (es ++ [e]) = ecells vs es ++ [v, .bool e.2] := by
  induction vs generalizing es with
  | nil =>
    obtain rfl : es = [] := List.eq_nil_of_length_eq_zero h.symm
    rfl
  | cons v vs ih =>
    cases es with
    | nil => simp at h
    | cons e es => simp only [List.cons_append, ecells, ih es (by simpa using h)]

theorem heap_set_same {w : World} {b : Nat} {cs : Array Value} {t : TypeId} {fr : Nat × Nat} (h : w.heap[b]? = some (Obj.cells cs t fr)) (i : Nat) (v : Value) : (w.setCell ⟨b, i, none⟩ v).heap[b]? = some (Obj.cells (cs.setIfInBounds i v) t fr) := by
  unfold World.setCell
  simp only [Array.getElem?_modify, h, if_true, Option.map_some]
  rfl
theorem own_below {w w1 : World} {base : Nat} {e : TypeId} {size n : Nat} {v : Value} {xs : List Value} (h : w.ownsRow base e size v n xs) (hb : Below w.heap.size w w1) : w1.ownsRow base e size v n xs := by
  obtain ⟨g1, g2⟩ := h
  refine ⟨g1, ?_⟩
  rcases g2 with g2 | ⟨g, cap, cur, rfl, hgg, hh, r⟩
  · exact .inl g2
  · exact .inr ⟨g, cap, cur, rfl, hgg, (hb.block g (Array.getElem?_eq_some_iff.1 hh).1).trans hh, r⟩
theorem own_form {w : World} {base : Nat} {e : TypeId} {size n : Nat} {v : Value} {xs : List Value} (h : w.ownsRow base e size v n xs) : ∃ A c, v = .slice A n c := by
  rcases h.2 with ⟨rfl, h0⟩ | ⟨g, cap, cur, rfl, _⟩
  · exact ⟨none, 0, by rw [h0]⟩
  · exact ⟨_, cap, rfl⟩
theorem own_other {w : World} {base : Nat} {e : TypeId} {size n k : Nat} {v : Value} {xs : List Value} {ca : Array Value} {t : TypeId} {fr : Nat × Nat} (h : w.ownsRow base e size v n xs) (hk : w.heap[k]? = some (.cells ca t fr)) (ht : t ≠ e) : some k ≠ v.ownBlock := fun hh => by
  rcases h.2 with ⟨rfl, h0⟩ | ⟨g, cap, cur, rfl, _, hg, _⟩
  · simp [Value.ownBlock] at hh
  · have : k = g := by simpa [Value.ownBlock] using hh
    subst this
    rw [hg] at hk
    cases hk
    exact ht rfl
/-- An entry more. -/
theorem BookAt.push {wa w5 : World} {bb mb : Nat} {ev v1 v : Value} {es : List (List Ln × Bool)} {bal : Acc → Option Int} {l : List Ln} {d : Bool} {vs : List Value} (h : BookAt wa bb mb ev ⟨es, bal⟩) (hv : OwnLines wa v l)
    (hvl : vs.length = es.length) (hrow : wa.ownsRow 0 64 2 ev es.length (ecells vs es)) (hvs : ∀ (i : Nat) v e, vs[i]? = some v → es[i]? = some e → OwnLines wa v e.1)
    (row : w5.ownsRow 0 64 2 v1 (es.length + 1) (ecells vs es ++ [v, .bool d])) (hg : wa.grownBy w5 ev.ownBlock) (hat : v1.ownBlock = ev.ownBlock ∨ v1.ownBlock = some wa.heap.size) :
    BookAt (w5.setCell ⟨bb, 0, none⟩ v1) bb mb v1 ⟨es ++ [(l, d)], bal⟩ := by
  obtain ⟨h1, _, ⟨n0, h5⟩, h6⟩ := h
  have hbb := (Array.getElem?_eq_some_iff.1 h1).1
  obtain ⟨mes, clock, hmap⟩ := h5.is_map
  have hbm : mb ≠ bb := fun e => by subst e; rw [hmap] at h1; cases h1
  have hev : ∀ k, ev.ownBlock = some k → ∃ cs fr, wa.heap[k]? = some (Obj.cells cs 64 fr) := fun k hk => by
    rcases hrow.2 with ⟨rfl, _⟩ | ⟨g, cap, cur, rfl, _, hh, _⟩
    · simp [Value.ownBlock] at hk
    · have : g = k := by simpa [Value.ownBlock] using hk
      subst this
      exact ⟨_, _, hh⟩
  have hme : some mb ≠ ev.ownBlock := fun e => by
    obtain ⟨cs, fr, h⟩ := hev mb e.symm
    rw [hmap] at h; cases h
  have hbe : some bb ≠ ev.ownBlock := fun e => by
    obtain ⟨cs, fr, h⟩ := hev bb e.symm
    rw [h1] at h; cases h
  have hb1 : some bb ≠ v1.ownBlock := fun e => by
    rcases hat with h | h
    · exact hbe (e.trans h)
    · have := Option.some.inj (e.trans h); omega
  have h5b := (hg.block bb hbb hbe).trans h1
  have hK : KeepT 43 wa (w5.setCell ⟨bb, 0, none⟩ v1) := ⟨Nat.le_trans hg.size (by simp [World.setCell]), fun k cs fr e => by
    have hk := (Array.getElem?_eq_some_iff.1 e).1
    have hkb : k ≠ bb := fun h => by subst h; rw [h1] at e; cases e
    have hke : some k ≠ ev.ownBlock := fun h => by
      obtain ⟨cs', fr', h'⟩ := hev k h.symm
      rw [h'] at e; cases e
    exact (Below.heap_setCell w5 ⟨bb, 0, none⟩ v1 k hkb).trans (hg.block k hk hke)⟩
  refine ⟨?_, ⟨vs ++ [v], by simp [hvl], ?_, ?_⟩, ⟨n0, h5.of_block ((Below.heap_setCell w5 ⟨bb, 0, none⟩ v1 mb hbm).trans (hg.block mb h5.lt hme))⟩, h6⟩
  · exact heap_set_same h5b 0 v1
  · rw [ecells_snoc _ _ _ _ hvl]
    simp only [List.length_append, List.length_singleton]
    obtain ⟨g1, g2⟩ := row
    refine ⟨g1, ?_⟩
    rcases g2 with g2 | ⟨g, cap, cur, rfl, hgg, hh, r⟩
    · exact .inl g2
    · refine .inr ⟨g, cap, cur, rfl, hgg, (Below.heap_setCell w5 ⟨bb, 0, none⟩ _ g (fun e => hb1 (by simp [Value.ownBlock, e]))).trans hh, r⟩
  · intro i u e hu he
    by_cases hi : i < vs.length
    · rw [List.getElem?_append_left hi] at hu
      rw [List.getElem?_append_left (by omega)] at he
      exact (hvs i u e hu he).keep hK
    · rw [List.getElem?_append_right (by omega)] at hu
      rw [List.getElem?_append_right (by omega)] at he
      have hi0 : i - vs.length = 0 := by
        have := (List.getElem?_eq_some_iff.1 hu).1
        simp at this; omega
      rw [hi0] at hu
      rw [show i - es.length = 0 by omega] at he
      simp at hu he
      subst hu he
      exact hv.keep hK

theorem post_good {w w3 w4 w5 : World} {bb mb : Nat} {ev v1 v4 : Value} {B : Bk} {l : List Ln} {nx : Acc → Option Int} {vs : List Value} (he : errB B l = if (goB B.bal l).isNone then 3 else 0) (hg : goB B.bal l = some nx) (hB : BookAt w bb mb ev B)
    (hB3 : BookAt w3 bb mb ev ⟨B.es, fun a => (nx a).or (B.bal a)⟩) (hC : Chg (fun k => k = mb) w w3) (hrow : w3.ownsRow 0 64 2 ev B.es.length (ecells vs B.es)) (hvl : vs.length = B.es.length)
    (hvs : ∀ (i : Nat) v e, vs[i]? = some v → B.es[i]? = some e → OwnLines w3 v e.1) (hBk : Below w3.heap.size w3 w4) (hv : OwnLines w4 v4 l) (h5 : w5.ownsRow 0 64 2 v1 (B.es.length + 1) (ecells vs B.es ++ [v4, .bool false]))
    (hg5 : (w4.alloc (Obj.cells #[v4, .bool false] 64)).grownBy w5 ev.ownBlock) (hat : v1.ownBlock = ev.ownBlock ∨ v1.ownBlock = some (w4.alloc (Obj.cells #[v4, .bool false] 64)).heap.size) :
    PostPost w bb mb ev B l (.returned (.tuple #[.int .i64 B.es.length, .nilIface])) (w5.setCell ⟨bb, 0, none⟩ v1) := by
  have e0 : errB B l = 0 := by rw [he, hg]; rfl
  have hBa := below_alloc' w4 (Obj.cells #[v4, .bool false] 64)
  have hB4 : Below w3.heap.size w3 (w4.alloc (Obj.cells #[v4, .bool false] 64)) := hBk.trans (hBa.mono hBk.size)
  have hp := (hB3.below hB4).push (d := false) (hv.keep (.of_below hBa)) hvl (own_below hrow hB4) (fun i v e h1 h2 => (hvs i v e h1 h2).keep (.of_below hB4)) h5 hg5 hat
  refine ⟨v1, by rw [e0]; rfl, ?_, ?_, ?_⟩
  · rw [postB, if_pos e0, hg]
    exact hp
  · have hbb := (Array.getElem?_eq_some_iff.1 hB.cell).1
    have k1 : Chg (MutB bb mb ev) w w3 := hC.mono (fun i _ h => .inr (.inl h))
    have k2 : Chg (MutB bb mb ev) w3 (w4.alloc (Obj.cells #[v4, .bool false] 64)) := Chg.of_below hB4
    have k3 := (Chg.of_grown hg5).mono (S' := MutB bb mb ev) (fun i _ h => .inr (.inr h.symm))
    have k4 := (Chg.setCell w5 ⟨bb, 0, none⟩ v1).mono (S' := MutB bb mb ev) (fun i _ h => .inl h)
    exact ((k1.trans k2 (fun _ _ h => h)).trans k3 (fun _ _ h => h)).trans k4 (fun _ _ h => h)
  · intro k hk h
    rcases hat with h1 | h1
    · rw [← h1]; exact h
    · rw [h1] at h
      have := Option.some.inj h
      have h2 := hB4.size
      have h3 := hC.size
      omega

theorem cadd_ok {a b : Int} (ha : I64 a) (hb : I64 b) (h : fitsB (a + b) = true) (w : World) : Calls Try.prog 24 #[.int .i64 a, .int .i64 b] w fun e w' => e = .returned (.tuple #[.int .i64 (a + b), .nilIface]) ∧ w' = w := by
  have := cadd_any a b ha hb w
  unfold CAddPost at this
  rwa [h] at this
theorem cadd_no {a b : Int} (ha : I64 a) (hb : I64 b) (h : fitsB (a + b) = false) (w : World) : Calls Try.prog 24 #[.int .i64 a, .int .i64 b] w fun e w' => e = .returned (.tuple #[.int .i64 0, .iface 55 (.int .i64 3)]) ∧ w' = w := by
  have := cadd_any a b ha hb w
  unfold CAddPost at this
  rwa [h] at this
theorem stepB_of {bal nx : Acc → Option Int} {a : Acc} {m u : Int} (hu : (nx a).getD ((bal a).getD 0) = u) : stepB bal nx ⟨a, m⟩ = if fitsB (u + m) && !decide (m = -9223372036854775808) then some (fun q => if q = a then some (u + m) else nx q) else none := by
  unfold stepB
  rw [hu]
theorem err_over {B : Bk} {l : List Ln} {k : Nat} {nx : Acc → Option Int} {a : Acc} {m u : Int} (he : errB B l = if (goB B.bal l).isNone then 3 else 0) (hg : goB B.bal (l.take k) = some nx) (hx : l[k]? = some ⟨a, m⟩) (hu : (nx a).getD ((B.bal a).getD 0) = u)
    (h : fitsB (u + m) = false ∨ m = -9223372036854775808) : errB B l = 3 := by
  have : goB B.bal l = none := goB_none _ _ (k + 1) (by
    rw [goB_snoc _ _ _ _ hx, hg]
    simp only [Option.bind_some, stepB_of hu]
    rcases h with h | h <;> simp [h])
  rw [he, this]
  rfl

end Go.Proofs.Ytjljfkioiglaiaa
