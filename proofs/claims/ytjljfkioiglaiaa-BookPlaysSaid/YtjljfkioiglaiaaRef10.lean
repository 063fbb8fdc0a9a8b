/- Post of the reference: the walk. -/
import Derived.Test.YtjljfkioiglaiaaRef9
import Derived.Deep.RegionLaw
set_option linter.unusedVariables false
set_option linter.unusedSimpArgs false
namespace Go.Proofs.Ytjljfkioiglaiaa
open Go.RowKit Go.Shelf NumL

/-- An entry's mark more. -/
theorem RefAt.pushD {w6 w7 : World} {rb n : Nat} {lv dv v3 : Value} {es : List (List Ln × Bool)} {d : Bool} {vs xs : List Value} (hcell : w6.heap[rb]? = some (.cells #[lv, dv] 51 (0, 0))) (hn : es.length = n + 1)
    (hvl : vs.length = n + 1) (hrow : w6.ownsRow 0 28 1 lv (n + 1) vs) (hvs : ∀ (i : Nat) v e, vs[i]? = some v → es[i]? = some e → OwnLines w6 v e.1) (hD : w6.ownsRow 0 4 1 dv n xs) (hes : es.map (fun e => Value.bool e.2) = xs ++ [.bool d])
    (row : w7.ownsRow 0 4 1 v3 (n + 1) (xs ++ [.bool d])) (hg : w6.grownBy w7 dv.ownBlock) (hat : v3.ownBlock = dv.ownBlock ∨ ∃ b, v3.ownBlock = some b ∧ w6.heap.size ≤ b) : RefAt (w7.setCell ⟨rb, 1, none⟩ v3) rb lv v3 es := by
  have hrb := (Array.getElem?_eq_some_iff.1 hcell).1
  have hde := own_other hD hcell (by decide)
  have hle := own_other hrow hcell (by decide)
  have h5b := (hg.block rb hrb hde).trans hcell
  have hev : ∀ k, dv.ownBlock = some k → ∃ cs fr, w6.heap[k]? = some (Obj.cells cs 4 fr) := fun k hk => by
    rcases hD.2 with ⟨rfl, _⟩ | ⟨g, cap, cur, rfl, _, hh, _⟩
    · simp [Value.ownBlock] at hk
    · have : g = k := by simpa [Value.ownBlock] using hk
      subst this
      exact ⟨_, _, hh⟩
  have hK : KeepT 43 w6 (w7.setCell ⟨rb, 1, none⟩ v3) := ⟨Nat.le_trans hg.size (by simp [World.setCell]), fun k cs fr e => by
    have hk := (Array.getElem?_eq_some_iff.1 e).1
    have hkb : k ≠ rb := fun h => by subst h; rw [hcell] at e; cases e
    have hke : some k ≠ dv.ownBlock := fun h => by
      obtain ⟨cs', fr', h'⟩ := hev k h.symm
      rw [h'] at e; cases e
    exact (Below.heap_setCell w7 ⟨rb, 1, none⟩ v3 k hkb).trans (hg.block k hk hke)⟩
  refine ⟨heap_set_same h5b 1 v3, ⟨vs, by omega, ?_, fun i v e hv he => (hvs i v e hv he).keep hK⟩, ?_⟩
  · rw [hn]
    exact own_kept hrow (fun k hk hlt => (Below.heap_setCell w7 ⟨rb, 1, none⟩ v3 k (fun e => hle (by rw [hk, e]))).trans (hg.block k hlt (fun e => own_two hrow hD (by decide) hk e.symm)))
  · rw [hn, hes]
    refine own_kept row (fun k hk hlt => Below.heap_setCell w7 ⟨rb, 1, none⟩ v3 k (fun e => ?_))
    subst e
    rcases hat with h | ⟨b, h, hb⟩
    · exact hde (by rw [← h, hk])
    · rw [hk] at h
      have := Option.some.inj h
      omega

def RefPostPost (w : World) (rb : Nat) (lv dv : Value) (es : List (List Ln × Bool)) (l : List Ln) (e : Ending) (w' : World) : Prop :=
  ∃ lv' dv', e = .returned (.tuple #[]) ∧ RefAt w' rb lv' dv' (es ++ [(l, false)]) ∧ Chg (MutR rb lv dv) w w' ∧ (∀ k, k < w.heap.size → lv'.ownBlock = some k → lv.ownBlock = some k) ∧ (∀ k, k < w.heap.size → dv'.ownBlock = some k → dv.ownBlock = some k)

set_option maxRecDepth 100000 in
set_option maxHeartbeats 4000000 in
theorem refpost_any (rb : Nat) (lv dv : Value) (es : List (List Ln × Bool)) (v : Value) (l : List Ln) (w : World) (hR : RefAt w rb lv dv es) (hL : LinesAt w v l) (hes : es.length ≤ 4096) (hl1 : 1 ≤ l.length) (hl0 : l.length ≤ 1000) :
    Calls Try.prog 36 #[.pointer (some ⟨rb, 0, none⟩), v] w (RefPostPost w rb lv dv es l) := by
  obtain ⟨vs, hvl, hrow, hvs⟩ := hR.rowL
  have hrb : rb < w.heap.size := (Array.getElem?_eq_some_iff.1 hR.cell).1
  obtain ⟨LA, lc, rfl⟩ := own_form hrow
  obtain ⟨DA, dc, rfl⟩ := own_form hR.rowD
  have c0 : w.cell? ⟨rb, 0, none⟩ = some (.slice LA es.length lc) := cell_at hR.cell 0 rfl
  have c0' := fun o => ((below_alloc' w o).cell (p := ⟨rb, 0, none⟩) hrb).trans c0
  obtain ⟨MA, mc, rfl, ⟨hmc, hmm⟩, hmok, hmcell⟩ := hL
  obtain ⟨b, o, rfl, hb, hcc⟩ := hmcell (by omega)
  have hnews : ∀ j u, (lcells l)[j]? = some u → (w.alloc (Obj.cells #[] 43)).cell? ((⟨b, o, none⟩ : Addr).add j) = some u := fun j u hu => by
    obtain ⟨k, x, hx, hcase⟩ := lcells_of l j u hu
    obtain ⟨g0, g1, g2⟩ := hcc k x hx
    have ha : (⟨b, o, none⟩ : Addr).add j = ⟨b, o + j, none⟩ := by unfold Addr.add; split <;> simp_all
    rw [ha, (below_alloc' w _).cell (p := ⟨b, o + j, none⟩) hb]
    rcases hcase with ⟨rfl, rfl⟩ | ⟨rfl, rfl⟩ | ⟨rfl, rfl⟩
    · exact g0
    · rw [← Nat.add_assoc]; exact g1
    · rw [← Nat.add_assoc]; exact g2
  have hone : ∀ u ∈ lcells l, u.oneCell' = true := fun u hu => by
    obtain ⟨j, hj⟩ := List.getElem?_of_mem hu
    obtain ⟨k, x, _, h⟩ := lcells_of l j u hj
    rcases h with ⟨_, rfl⟩ | ⟨_, rfl⟩ | ⟨_, rfl⟩ <;> rfl
  have HN := Lib.hid hnews
  have H1 := Lib.hid hone
  have HR := Lib.hid hR
  have HRW := Lib.hid hrow
  have HVS := Lib.hid hvs
  have HBE := Lib.hid (own_other hrow hR.cell (by decide))
  have HOK := Lib.hid hmok
  clear hnews hone hcc hmcell hrow hvs hR hmok
  go_enter Try.func36, Try.ntmps36
  go_wp2_with fail
  go_region_law
    (first
      | (refine oper_appendN rfl _ _ _ 28 43 (.agg #[.int .i64 0, .int .i64 0, .int .i64 0]) 3 24 rfl Try.underlying28 info_line rfl (by omega) w.heap.size (.slice (some ⟨w.heap.size, 0, none⟩) 0 0) 0 [] ⟨b, o, none⟩ l.length mc (lcells l) rfl rfl (lcells_length l) HN.out H1.out (own_kept (World.ownsRow_made w #[] 0 (Nat.le_refl _) (by simp [maxLen]) rfl) (fun _ _ _ => rfl)) (by simp) (by simp only [maxLen]; omega) (by omega) ?_; intro v1 w1 hown1 hg1 hat1; rw [Nat.zero_add] at hown1; obtain ⟨A1, c1, rfl⟩ := own_form hown1; have HO1 := Lib.hid hown1; have hB1 : Below w.heap.size w w1 := (below_drewN' (below_alloc' w (Obj.cells #[] 43)) 1).grown hg1 (by simp [World.drewN]) (fun k hk => by simp [Value.ownBlock] at hk; omega); have hs1 := hB1.size; have k1 := (hB1.cell (p := ⟨rb, 0, none⟩) hrb).trans c0; have k1' := fun o => ((below_alloc' w1 o).cell (p := ⟨rb, 0, none⟩) (show rb < w1.heap.size by omega)).trans k1; clear hown1 hg1 hat1)
      | (refine oper_append1 rfl _ #[.slice A1 l.length c1] _ _ 48 28 (.slice none 0 0) 1 24 rfl Try.underlying48 info_lines rfl (by omega) (by omega) 0 (.slice LA es.length lc) es.length vs w1.heap.size rfl rfl (get_new _ _) (by simp [Value.oneCell']) rfl ((own_below HRW.out hB1).alloc _) (Nat.zero_le _) (by omega) ?_; intro v2 w5 hown5 hg5 hat5; obtain ⟨A5, c5, rfl⟩ := own_form hown5;
          have q5 : w5.heap[rb]? = some (.cells #[Value.slice LA es.length lc, Value.slice DA es.length dc] 51 (0, 0)) := (hg5.block rb (by simp; omega) HBE.out).trans ((Below.heap_alloc _ _ _ (by omega)).trans ((hB1.block rb hrb).trans HR.out.cell));
          have k5 : w5.cell? ⟨rb, 0, none⟩ = some (.slice LA es.length lc) := cell_at q5 0 rfl; have f5 := frozen_at q5 0; have H5 := Lib.hid hown5; have HG5 := Lib.hid hg5; have HA5 := Lib.hid hat5; have Q5 := Lib.hid q5; clear hown5 hg5 hat5 q5))
  all_goals (
    have hBa := below_alloc' w1 (Obj.cells #[.slice A1 l.length c1] 28)
    have hB4 := hB1.trans (hBa.mono hs1)
    have hOL := (own_lines' (base := w.heap.size) (by simpa using HO1.out) hmm HOK.out).keep (.of_below hBa)
    obtain ⟨p1, p2, p3, p4⟩ := RefAt.pushL (d := false) ((hB4.block rb hrb).trans HR.out.cell) hvl (own_below HRW.out hB4) (fun i v e h1 h2 => (HVS.out i v e h1 h2).keep (.of_below hB4)) (own_below HR.out.rowD hB4) hOL H5.out HG5.out HA5.out
    have P1 := Lib.hid p1
    have P2 := Lib.hid p2
    have P3 := Lib.hid p3
    have P4 := Lib.hid p4
    have d1 := cell_at p1 1 rfl
    have e1 := frozen_at p1 1
    have HCH := Lib.hid (show Chg (MutR rb (.slice LA es.length lc) (.slice DA es.length dc)) w (w5.setCell ⟨rb, 0, none⟩ (.slice A5 (es.length + 1) c5)) from
      (((Chg.of_below hB4).trans ((Chg.of_grown HG5.out).mono (S' := MutR rb (.slice LA es.length lc) (.slice DA es.length dc)) (fun i _ h => .inr (.inl h.symm))) (fun _ _ h => h)).trans ((Chg.setCell w5 ⟨rb, 0, none⟩ (.slice A5 (es.length + 1) c5)).mono (S' := MutR rb (.slice LA es.length lc) (.slice DA es.length dc)) (fun i _ h => .inl h)) (fun _ _ h => h)))
    clear p1 p2 p3 p4 hOL H5 k5 f5 Q5
    generalize w5.setCell ⟨rb, 0, none⟩ (Value.slice A5 (es.length + 1) c5) = w6 at P1 P2 P3 P4 d1 e1 HCH ⊢
    go_wp2_with (at_builtin; refine wpList_append1' #[.bool false] rfl _ _ 49 4 (.bool false) 1 1 rfl Try.underlying49 info_bool rfl (by omega) (by omega) 0 (.slice DA es.length dc) es.length (es.map (fun e => Value.bool e.2)) _ rfl rfl (by simp) (by simp [Value.oneCell']) rfl P4.out (Nat.zero_le _) (by omega) ?_; intro v3 w7 hown7 hg7 hat7; obtain ⟨A7, c7, rfl⟩ := own_form hown7; have q7 := (hg7.block rb (Array.getElem?_eq_some_iff.1 P1.out).1 (own_other P4.out P1.out (by decide))).trans P1.out; have k7 : w7.cell? ⟨rb, 1, none⟩ = some (.slice DA es.length dc) := cell_at q7 1 rfl; have f7 := frozen_at q7 1; have Q7 := Lib.hid q7; have H7 := Lib.hid hown7; have HG7 := Lib.hid hg7; have HA7 := Lib.hid hat7; clear q7 hown7 hg7 hat7)
    go_end0
    have hs6 := HCH.out.size
    refine ⟨.slice A5 (es.length + 1) c5, .slice A7 (es.length + 1) c7, rfl, RefAt.pushD (d := false) (vs := vs ++ [.slice A1 l.length c1]) P1.out (by simp) (by simp [hvl]) P2.out P3.out P4.out (by simp) H7.out HG7.out HA7.out, ?_, fun k hk h => ?_, fun k hk h => ?_⟩
    · exact (HCH.out.trans ((Chg.of_grown HG7.out).mono (S' := MutR rb (.slice LA es.length lc) (.slice DA es.length dc)) (fun i _ h => .inr (.inr h.symm))) (fun _ _ h => h)).trans ((Chg.setCell w7 ⟨rb, 1, none⟩ _).mono (S' := MutR rb (.slice LA es.length lc) (.slice DA es.length dc)) (fun i _ h => .inl h)) (fun _ _ h => h)
    · rcases HA5.out with h' | h'
      · rw [← h']; exact h
      · rw [h] at h'
        have := Option.some.inj h'
        simp at this
        omega
    · rcases HA7.out with h' | ⟨b, h', hb⟩
      · rw [← h']; exact h
      · rw [h] at h'
        have := Option.some.inj h'
        omega)
end Go.Proofs.Ytjljfkioiglaiaa
