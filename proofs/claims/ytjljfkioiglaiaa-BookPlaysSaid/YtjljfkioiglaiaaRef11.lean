/- The reference's Reverse. -/
import Derived.Test.YtjljfkioiglaiaaRef10
import Derived.Test.YtjljfkioiglaiaaRefA
import Derived.Deep.RegionHeld3
set_option linter.unusedVariables false
set_option linter.unusedSimpArgs false
namespace Go.Proofs.Ytjljfkioiglaiaa
open Go.RowKit Go.Shelf NumL

def markE (es : List (List Ln × Bool)) (i : Nat) : List (List Ln × Bool) := es.modify i (fun e => (e.1, true))
theorem markE_len (es : List (List Ln × Bool)) (i : Nat) : (markE es i).length = es.length := by simp [markE]
theorem RefAt.mark {w : World} {rb g n c : Nat} {lv : Value} {es : List (List Ln × Bool)} (h : RefAt w rb lv (.slice (some ⟨g, 0, none⟩) n c) es) (hn : n = es.length) (i : Nat) (hi : i < n) :
    RefAt (w.setCell ⟨g, i, none⟩ (.bool true)) rb lv (.slice (some ⟨g, 0, none⟩) n c) (markE es i) := by
  subst hn
  obtain ⟨h1, ⟨vs, h2, h3, h4⟩, h5⟩ := h
  have hb1 := own_other h5 h1 (by decide)
  have hgb : rb ≠ g := fun e => hb1 (by simp [Value.ownBlock, e])
  have hlg : lv.ownBlock ≠ some g := own_two h5 h3 (by decide) (by simp [Value.ownBlock])
  rcases h5 with ⟨hl, ⟨hn, h0⟩ | ⟨g', cap, cur, he, hle, hg, hnc, hcm, hcs, htk⟩⟩
  · cases hn
  · cases he
    have hset := heap_set_same hg i (.bool true)
    refine ⟨(Below.heap_setCell w ⟨g, i, none⟩ (.bool true) rb hgb).trans h1, ⟨vs, by rw [markE_len]; exact h2, ?_, ?_⟩, ?_⟩
    · rw [markE_len]
      exact own_kept h3 (fun k hk _ => Below.heap_setCell w ⟨g, i, none⟩ (.bool true) k (fun e => hlg (by rw [hk, e])))
    · intro j v e hv he
      have he' : ∃ e0, es[j]? = some e0 ∧ e.1 = e0.1 := by
        simp only [markE, List.getElem?_modify] at he
        cases hj : es[j]? with
        | none => rw [hj] at he; simp at he
        | some e0 =>
          rw [hj] at he
          refine ⟨e0, rfl, ?_⟩
          simp at he
          rw [← he]
          split <;> rfl
      obtain ⟨e0, h0, h1'⟩ := he'
      rw [h1']
      refine (h4 j v e0 hv h0).keep ⟨by simp [World.setCell], fun k cs fr hk => Below.heap_setCell w ⟨g, i, none⟩ (.bool true) k (fun e => ?_)⟩
      subst e
      rw [hg] at hk
      cases hk
    · rw [markE_len]
      have hm : (markE es i).map (fun e => Value.bool e.2) = (es.map (fun e => Value.bool e.2)).set i (.bool true) := by
        apply List.ext_getElem?
        intro j
        simp only [markE, List.getElem?_map, List.getElem?_modify, List.getElem?_set, List.length_map]
        by_cases hij : i = j
        · subst hij
          obtain ⟨e, he⟩ : ∃ e, es[i]? = some e := ⟨_, List.getElem?_eq_getElem hi⟩
          simp [he, hi]
        · simp [hij]
      rw [hm]
      refine ⟨by rw [List.length_set]; exact hl, .inr ⟨g, c, _, rfl, hle, hset, hnc, hcm, by simpa using hcs, ?_⟩⟩
      rw [Array.toList_setIfInBounds, List.take_set, htk]

/-- What lies where, when an entry more is there. -/
theorem RefAt.grown {w : World} {rb : Nat} {lv dv : Value} {es : List (List Ln × Bool)} {x : List Ln × Bool} (h : RefAt w rb lv dv (es ++ [x])) {i : Nat} {e : List Ln × Bool} (he : es[i]? = some e) :
    ∃ n LA lc g c, n = es.length + 1 ∧ lv = .slice LA n lc ∧ dv = .slice (some ⟨g, 0, none⟩) n c ∧ ¬ rb = g ∧ w.cell? ⟨rb, 0, none⟩ = some (.slice LA n lc) ∧ w.cell? ⟨rb, 1, none⟩ = some (.slice (some ⟨g, 0, none⟩) n c) ∧
      w.frozen? ⟨g, i, none⟩ = false ∧ w.frozen? ⟨g, es.length, none⟩ = false ∧ w.cell? ⟨g, i, none⟩ = some (.bool e.2) ∧ w.cell? ⟨g, es.length, none⟩ = some (.bool x.2) := by
  have hi := (List.getElem?_eq_some_iff.1 he).1
  have hlen : (es ++ [x]).length = es.length + 1 := by simp
  obtain ⟨vs, _, h3, _⟩ := h.rowL
  obtain ⟨LA, lc, rfl⟩ := own_form h3
  obtain ⟨g, c, rfl, d0, f0, _, hg⟩ := h.done i e (by rw [List.getElem?_append_left hi]; exact he)
  obtain ⟨g', c', e', d1, f1, _, _⟩ := h.done es.length x (by simp)
  cases e'
  exact ⟨(es ++ [x]).length, LA, lc, g, c, hlen, rfl, rfl, fun e => hg e.symm, cell_at h.cell 0 rfl, cell_at h.cell 1 rfl, f0, f1, d0, d1⟩

def RefRevPost (w : World) (rb : Nat) (lv dv : Value) (B : Bk) (n : Int) (e : Ending) (w' : World) : Prop :=
  ∃ lv' dv', e = .returned (.int .i64 (errR B n)) ∧ RefAt w' rb lv' dv' (revB B n).es ∧ Chg (MutR rb lv dv) w w' ∧ (∀ k, k < w.heap.size → lv'.ownBlock = some k → lv.ownBlock = some k) ∧ (∀ k, k < w.heap.size → dv'.ownBlock = some k → dv.ownBlock = some k)
theorem refrev_bad {w w' : World} {rb : Nat} {lv dv : Value} {B : Bk} {n m : Int} (hR : RefAt w rb lv dv B.es) (hb : Below w.heap.size w w') (hn : errR B n = m) (hr : (revB B n).es = B.es) :
    RefRevPost w rb lv dv B n (.returned (.int .i64 m)) w' :=
  ⟨lv, dv, by rw [hn], by rw [hr]; exact hR.below hb, Chg.of_below hb, fun _ _ h => h, fun _ _ h => h⟩
theorem refrev_good {w w2 w5 W : World} {rb g n c i : Nat} {lv dv lv' : Value} {B : Bk} {l : List Ln} (hE : entryB B i = some (l, false)) (h0 : errB B (turnL l) = 0) (hi : i < B.es.length) (hB : Below w.heap.size w w2)
    (hC : Chg (MutR rb lv dv) w2 w5) (hlv : ∀ k, k < w2.heap.size → lv'.ownBlock = some k → lv.ownBlock = some k) (hdv : ∀ k, k < w2.heap.size → (Value.slice (some ⟨g, 0, none⟩) n c).ownBlock = some k → dv.ownBlock = some k)
    (hn : n = B.es.length + 1) (hW : RefAt w5 rb lv' (.slice (some ⟨g, 0, none⟩) n c) (B.es ++ [(turnL l, false)])) (hwW : Below ((w5.setCell ⟨g, i, none⟩ (.bool true)).setCell ⟨g, B.es.length, none⟩ (.bool true)).heap.size ((w5.setCell ⟨g, i, none⟩ (.bool true)).setCell ⟨g, B.es.length, none⟩ (.bool true)) W) :
    RefRevPost w rb lv dv B i (.returned (.int .i64 0)) W := by
  have hs := hB.size
  have h1 := (hW.mark (by simp [hn]) i (by omega)).mark (by simp [markE_len, hn]) B.es.length (by omega)
  refine ⟨lv', _, by rw [errR, hE]; exact congrArg _ (congrArg _ h0.symm), ?_, ?_, fun k hk h => hlv k (by omega) h, fun k hk h => hdv k (by omega) h⟩
  · have : (revB B i).es = markE (markE (B.es ++ [(turnL l, false)]) i) B.es.length := by
      rw [revB, hE]
      simp only [h0, if_true, Int.toNat_natCast]
      rw [postB, if_pos h0]
      rfl
    rw [this]
    exact h1.below hwW
  · have c1 : Chg (fun k => k = g) w5 W := ((Chg.setCell w5 ⟨g, i, none⟩ _).trans (Chg.setCell _ ⟨g, B.es.length, none⟩ _) (fun _ _ h => h)).trans ((Chg.of_below hwW).mono (fun _ _ h => h)) (fun _ _ h => h)
    refine (Chg.of_below hB).trans (hC.trans c1 (S := MutR rb lv dv) (fun k hk h => ?_)) (fun k hk h => h)
    subst h
    exact .inr (.inr (hdv k hk (by simp [Value.ownBlock])))

set_option maxRecDepth 100000 in
set_option maxHeartbeats 4000000 in
theorem refrev_any (rb : Nat) (lv dv : Value) (B : Bk) (n : Int) (w : World) (hR : RefAt w rb lv dv B.es) (hL : Link B) (hes : B.es.length ≤ 4096) :
    Calls Try.prog 33 #[.pointer (some ⟨rb, 0, none⟩), .int .i64 n] w (RefRevPost w rb lv dv B n) := by
  have hlvf : ∃ A c, lv = .slice A B.es.length c := by obtain ⟨vs, _, h3, _⟩ := hR.rowL; exact own_form h3
  obtain ⟨LA, lc, rfl⟩ := hlvf
  obtain ⟨DA, dc, rfl⟩ := own_form hR.rowD
  have c0 : w.cell? ⟨rb, 0, none⟩ = some (.slice LA B.es.length lc) := cell_at hR.cell 0 rfl
  have c1 : w.cell? ⟨rb, 1, none⟩ = some (.slice DA B.es.length dc) := cell_at hR.cell 1 rfl
  have HR := Lib.hid hR
  by_cases hneg : n < 0
  · have e0 : entryB B n = none := by rw [entryB, if_pos hneg]
    have HE := Lib.hid (show errR B n = 4 by rw [errR, e0])
    have HV := Lib.hid (show (revB B n).es = B.es by rw [revB, e0])
    clear hR e0
    go_enter Try.func33, Try.ntmps33
    go_wp2_with fail
    go_ret
    exact refrev_bad HR.out (Below.refl _ _) HE.out HV.out
  obtain ⟨i, rfl⟩ := Int.eq_ofNat_of_zero_le (by omega : 0 ≤ n)
  by_cases hge : B.es.length ≤ i
  · have e0 : entryB B i = none := by rw [entryB, if_neg hneg]; simp [hge]
    have HE := Lib.hid (show errR B i = 4 by rw [errR, e0])
    have HV := Lib.hid (show (revB B i).es = B.es by rw [revB, e0])
    have hge' : ¬ (i : Int) < B.es.length := by omega
    clear hR e0
    go_enter Try.func33, Try.ntmps33
    go_wp2_with fail
    go_ret
    exact refrev_bad HR.out (Below.refl _ _) HE.out HV.out
  obtain ⟨⟨l, d⟩, he⟩ : ∃ e, B.es[i]? = some e := ⟨_, List.getElem?_eq_getElem (by omega)⟩
  have e0 : entryB B i = some (l, d) := by rw [entryB, if_neg hneg]; simpa using he
  have hi0 : (0 : Int) ≤ i := by omega
  have hi1 : (i : Int) < B.es.length := by omega
  obtain ⟨g1, c1', e1', d1, _, _, _⟩ := hR.done i _ he
  cases e1'
  cases d
  case true =>
    have HE := Lib.hid (show errR B i = 5 by rw [errR, e0])
    have HV := Lib.hid (show (revB B i).es = B.es by rw [revB, e0])
    clear hR e0 he
    go_enter Try.func33, Try.ntmps33
    go_wp2_with fail
    go_ret
    exact refrev_bad HR.out (Below.refl _ _) HE.out HV.out
  obtain ⟨g0, c0', VA, vc, e0', d0, hown, hg0⟩ := hR.entry i _ he
  cases e0'
  have h32 : l.length ≤ 32 := by have := hL.each _ (List.mem_of_getElem? he); simp [shapedB] at this; omega
  have hE1000 : ∀ e ∈ B.es, e.1.length ≤ 1000 := fun e he => by have := hL.each e he; simp [shapedB] at this; omega
  have TU := Lib.hid (turned_any _ l w hown.1 (by omega))
  have HE := Lib.hid e0
  have HEI := Lib.hid he
  have HE1 := Lib.hid hE1000
  have HLK := Lib.hid hL
  have hlen : (turnL l).length = l.length := by simp [turnL]
  have HTL := Lib.hid hlen
  clear hR e0 hown he hL hE1000 hlen
  go_enter Try.func33, Try.ntmps33
  go_wp2_with (first
    | (go_at_call 46; refine TU.out.mono ?_; rintro e w1 ⟨v1, rfl, hown1, hB1, hfr1⟩; have HO1 := Lib.hid hown1; have hs1 := hB1.size; clear hown1 hfr1)
    | (go_at_call 35; refine (may10_any rb _ _ B.es v1 (turnL l) w1 (HR.out.below hB1) HO1.out.1 hes HE1.out (by have := HTL.out; omega)).mono ?_; rintro e w2 ⟨r, rfl, hr, hB2⟩; have HM := Lib.hid (HLK.out.may hr); clear hr))
  · skip
    obtain rfl : r = 0 := by simpa using (by assumption : (r == 0) = true)
    have hB12 : Below w.heap.size w w2 := hB1.trans (hB2.mono hs1)
    have hE0 : errB B (turnL l) = 0 := HM.out.symm
    obtain ⟨hsh, _, _⟩ := errB_zero hE0
    have hl1 : 1 ≤ (turnL l).length := by simp [shapedB] at hsh; omega
    have HE0 := Lib.hid hE0
    have PO := Lib.hid (refpost_any rb _ _ B.es v1 (turnL l) w2 (HR.out.below hB12) (HO1.out.1.below hB2) hes hl1 (by have := HTL.out; omega))
    clear hE0 hsh hl1 c0 c1 d0 d1
    go_wp2_with (go_at_call 36; refine PO.out.mono ?_; rintro e w5 ⟨lv5, dv5, rfl, hR5, hC5, hl5, hd5⟩; obtain ⟨m5, LA5, lc5, g5, dc5, hm5, rfl, rfl, hg5, k0, k1, f0, f1, b0, b1⟩ := hR5.grown HEI.out; have HR5 := Lib.hid hR5; have HC5 := Lib.hid hC5; have HL5 := Lib.hid hl5; have HD5 := Lib.hid hd5; have HM5 := Lib.hid hm5; have hi2 : (i : Int) < (m5 : Int) := (by omega); have hi3 : (B.es.length : Int) < (m5 : Int) := (by omega); have hsub : IntKind.i64.wrap ((m5 : Int) - 1) = B.es.length := (by rw [IntWalk.i64_in _ (by omega)]; omega); clear hR5 hC5 hl5 hd5 hm5)
    have hl0 : (0 : Int) ≤ B.es.length := by omega
    have hnei : ¬ i = B.es.length := by omega
    have hnei' : ¬ B.es.length = i := by omega
    go_region_held3 (fun w' => w'.cell? ⟨rb, 0, none⟩ = some (Value.slice LA5 m5 lc5) ∧ w'.cell? ⟨rb, 1, none⟩ = some (Value.slice (some ⟨g5, 0, none⟩) m5 dc5))
      (first | exact ⟨(cell_far _ _ _ _ hg5).trans k0, (cell_far _ _ _ _ hg5).trans k1⟩ | exact ⟨(cell_far _ _ _ _ hg5).trans ((cell_far _ _ _ _ hg5).trans k0), (cell_far _ _ _ _ hg5).trans ((cell_far _ _ _ _ hg5).trans k1)⟩ | go_keep)
      (fail)
    all_goals go_wp2
    all_goals go_ret
    all_goals exact refrev_good HE.out HE0.out (by omega) hB12 HC5.out HL5.out HD5.out HM5.out HR5.out (below_drewN' (Below.refl _ _) 1)
  · skip
    have h0 : r ≠ 0 := by simpa using (by assumption : (r == 0) = false)
    have hB12 : Below w.heap.size w w2 := hB1.trans (hB2.mono hs1)
    clear c0 c1 d0 d1
    go_ret
    exact refrev_bad HR.out hB12 (by rw [errR, HE.out]; exact HM.out.symm) (by rw [revB, HE.out]; simp [← HM.out, h0])
end Go.Proofs.Ytjljfkioiglaiaa
