/- Post of the reference: what it leaves. -/
import Derived.Test.YtjljfkioiglaiaaRef8
set_option linter.unusedVariables false
set_option linter.unusedSimpArgs false
namespace Go.Proofs.Ytjljfkioiglaiaa
open Go.RowKit Go.Shelf NumL

section
variable {P : Program} {o : Oper} {a : Act} {Q : Exit → Act → World → Prop}
/-- 'append(v, l...)' onto a row of one's own: at the operation, in a region. -/
theorem oper_appendN {w : World} {c : Bool} (hc : c = true) (K : Act → World → Prop) (s x : Operand) (t e : TypeId) (z : Value) (size bytes : Nat)
    (ho : o.op = .call { callee := .builtin .append, args := #[s, x], argTypes := #[t, t] })
    (ht : P.underlying t = some (.slice e)) (hinfo : (P.info? e).map (fun i => (i.zero, i.size, i.bytes)) = some (some z, size, bytes)) (hz : z.cells.size = size) (hsz : 0 < size)
    (base : Nat) (v : Value) (n : Nat) (xs : List Value) (A : Addr) (m cc : Nat) (news : List Value) (hs : a.eval s = v) (hx : a.eval x = .slice (some A) m cc) (hl : news.length = m * size) (hnews : ∀ j u, news[j]? = some u → w.cell? (A.add j) = some u) (h1 : ∀ u ∈ news, u.oneCell' = true)
    (HO : w.ownsRow base e size v n xs) (hbase : base ≤ w.heap.size) (hm63 : n + m ≤ maxLen) (hb : (n + m) * bytes ≤ 140737488355328)
    (h : ∀ v1 w1, w1.ownsRow base e size v1 (n + m) (xs ++ news) → w.grownBy w1 v.ownBlock → (v1.ownBlock = v.ownBlock ∨ v1.ownBlock = some w.heap.size) → K (a.put o.dst v1) w1) :
    if c = true then Oper.wp P o a w K Q else K (a.put o.dst undef) w := by
  rw [if_pos hc]
  obtain ⟨i0, hi, hzz⟩ := Option.map_eq_some_iff.1 hinfo
  simp only [Prod.mk.injEq] at hzz
  obtain ⟨hz0, hz1, hz2⟩ := hzz
  obtain ⟨v', w', hr, h2, h3, h4, h5⟩ := run_append_own_at (P := P) w base t o.type e i0 z size bytes ht hi hz0 hz1 hz2 hz hsz v n xs HO A m cc news hl hnews h1 hm63 hb hbase
  unfold Oper.wp execOp
  simp only [ho, resolve, invoke, builtin, Sem.run_bind, Sem.run_pure, Result.andThen_ok, List.map_toArray, List.map_cons, List.map_nil, hs, hx, hr]
  exact h _ _ h2 h3 h5
end

theorem info_lines : (Try.prog.info? 28).map (fun i => (i.zero, i.size, i.bytes)) = some (some (.slice none 0 0), 1, 24) := by kernel_rfl
theorem info_bool : (Try.prog.info? 4).map (fun i => (i.zero, i.size, i.bytes)) = some (some (.bool false), 1, 1) := by kernel_rfl
def MutR (rb : Nat) (lv dv : Value) (k : Nat) : Prop := k = rb ∨ lv.ownBlock = some k ∨ dv.ownBlock = some k

theorem own_two {w : World} {base base' : Nat} {e e' : TypeId} {size size' n n' : Nat} {v v' : Value} {xs xs' : List Value} (h : w.ownsRow base e size v n xs) (h' : w.ownsRow base' e' size' v' n' xs') (he : e ≠ e') {k : Nat} (hk : v.ownBlock = some k) : v'.ownBlock ≠ some k := fun hk' => by
  rcases h.2 with ⟨rfl, _⟩ | ⟨g, cap, cur, rfl, _, hg, _⟩
  · simp [Value.ownBlock] at hk
  · rcases h'.2 with ⟨rfl, _⟩ | ⟨g', cap', cur', rfl, _, hg', _⟩
    · simp [Value.ownBlock] at hk'
    · have e1 : g = k := by simpa [Value.ownBlock] using hk
      have e2 : g' = k := by simpa [Value.ownBlock] using hk'
      subst e1 e2
      rw [hg] at hg'
      cases hg'
      exact he rfl
/-- An entry's lines more. -/
theorem RefAt.pushL {wa w5 : World} {rb : Nat} {lv dv v1 v : Value} {es : List (List Ln × Bool)} {l : List Ln} {d : Bool} {vs : List Value} (hcell : wa.heap[rb]? = some (.cells #[lv, dv] 51 (0, 0)))
    (hvl : vs.length = es.length) (hrow : wa.ownsRow 0 28 1 lv es.length vs) (hvs : ∀ (i : Nat) v e, vs[i]? = some v → es[i]? = some e → OwnLines wa v e.1) (hD : wa.ownsRow 0 4 1 dv es.length (es.map (fun e => Value.bool e.2))) (hv : OwnLines wa v l)
    (row : w5.ownsRow 0 28 1 v1 (es.length + 1) (vs ++ [v])) (hg : wa.grownBy w5 lv.ownBlock) (hat : v1.ownBlock = lv.ownBlock ∨ v1.ownBlock = some wa.heap.size) :
    (w5.setCell ⟨rb, 0, none⟩ v1).heap[rb]? = some (.cells #[v1, dv] 51 (0, 0)) ∧ (w5.setCell ⟨rb, 0, none⟩ v1).ownsRow 0 28 1 v1 (es.length + 1) (vs ++ [v]) ∧
      (∀ (i : Nat) u e, (vs ++ [v])[i]? = some u → (es ++ [(l, d)])[i]? = some e → OwnLines (w5.setCell ⟨rb, 0, none⟩ v1) u e.1) ∧ (w5.setCell ⟨rb, 0, none⟩ v1).ownsRow 0 4 1 dv es.length (es.map (fun e => Value.bool e.2)) := by
  have hrb := (Array.getElem?_eq_some_iff.1 hcell).1
  have hbe := own_other hrow hcell (by decide)
  have hde := own_other hD hcell (by decide)
  have h5b := (hg.block rb hrb hbe).trans hcell
  have hb1 : some rb ≠ v1.ownBlock := fun e => by
    rcases hat with h | h
    · exact hbe (e.trans h)
    · have := Option.some.inj (e.trans h); omega
  have hev : ∀ k, lv.ownBlock = some k → ∃ cs fr, wa.heap[k]? = some (Obj.cells cs 28 fr) := fun k hk => by
    rcases hrow.2 with ⟨rfl, _⟩ | ⟨g, cap, cur, rfl, _, hh, _⟩
    · simp [Value.ownBlock] at hk
    · have : g = k := by simpa [Value.ownBlock] using hk
      subst this
      exact ⟨_, _, hh⟩
  have hK : KeepT 43 wa (w5.setCell ⟨rb, 0, none⟩ v1) := ⟨Nat.le_trans hg.size (by simp [World.setCell]), fun k cs fr e => by
    have hk := (Array.getElem?_eq_some_iff.1 e).1
    have hkb : k ≠ rb := fun h => by subst h; rw [hcell] at e; cases e
    have hke : some k ≠ lv.ownBlock := fun h => by
      obtain ⟨cs', fr', h'⟩ := hev k h.symm
      rw [h'] at e; cases e
    exact (Below.heap_setCell w5 ⟨rb, 0, none⟩ v1 k hkb).trans (hg.block k hk hke)⟩
  refine ⟨heap_set_same h5b 0 v1, own_kept row (fun k hk _ => Below.heap_setCell w5 ⟨rb, 0, none⟩ v1 k (fun e => hb1 (by rw [hk, e]))), ?_, ?_⟩
  · intro i u e hu he
    by_cases hi : i < vs.length
    · rw [List.getElem?_append_left hi] at hu
      rw [List.getElem?_append_left (by omega)] at he
      exact (hvs i u e hu he).keep hK
    · rw [List.getElem?_append_right (by omega)] at hu
      rw [List.getElem?_append_right (by omega)] at he
      have hi0 : i - vs.length = 0 := by
        have := (List.getElem?_eq_some_iff.1 hu).1
        simp at this; omega
      rw [hi0] at hu
      rw [show i - es.length = 0 by omega] at he
      simp at hu he
      subst hu he
      exact hv.keep hK
  · refine own_kept hD (fun k hk hlt => (Below.heap_setCell w5 ⟨rb, 0, none⟩ v1 k (fun e => hde (by rw [hk, e]))).trans (hg.block k hlt (fun e => own_two hD hrow (by decide) hk e.symm)))
end Go.Proofs.Ytjljfkioiglaiaa
