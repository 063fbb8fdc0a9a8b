/- Reverse. -/
import Derived.Test.YtjljfkioiglaiaaBook6
import Derived.Deep.RegionHeld3
set_option linter.unusedVariables false
set_option linter.unusedSimpArgs false
namespace Go.Proofs.Ytjljfkioiglaiaa
open Go.RowKit Go.Shelf

def negL (x : Ln) : Ln := ⟨x.f0, wrap64 (-x.f1)⟩
def turnL (l : List Ln) : List Ln := l.map negL
def negK (l : List Ln) (k : Nat) : List Ln := l.mapIdx (fun j x => if j < k then negL x else x)
theorem negK_length (l : List Ln) (k : Nat) : (negK l k).length = l.length := by simp [negK]
theorem negK_zero (l : List Ln) : negK l 0 = l := by
  apply List.ext_getElem?
  intro j
  simp [negK, List.getElem?_mapIdx]
theorem negK_all (l : List Ln) : negK l l.length = turnL l := by
  apply List.ext_getElem?
  intro j
  simp only [negK, turnL, List.getElem?_mapIdx, List.getElem?_map]
  cases h : l[j]? with
  | none => rfl
  | some x =>
    have := (List.getElem?_eq_some_iff.1 h).1
    simp [this]
theorem negK_at {l : List Ln} {k : Nat} {x : Ln} (h : l[k]? = some x) : (negK l k)[k]? = some x := by simp [negK, List.getElem?_mapIdx, h]
theorem negK_step {l : List Ln} {k : Nat} {x : Ln} (h : l[k]? = some x) : (negK l k).set k (negL x) = negK l (k + 1) := by
  have hk := (List.getElem?_eq_some_iff.1 h).1
  apply List.ext_getElem?
  intro j
  simp only [List.getElem?_set, negK, List.getElem?_mapIdx, List.length_mapIdx]
  by_cases hj : k = j
  · subst hj
    have : l[k] = x := (List.getElem?_eq_some_iff.1 h).2
    simp [hk, this]
  · rw [if_neg hj]
    have : (j < k) ↔ (j < k + 1) := by omega
    simp only [this]

theorem OwnLines.set2 {w : World} {b o c k : Nat} {l : List Ln} {x : Ln} {u : Int} (h : OwnLines w (.slice (some ⟨b, o, none⟩) l.length c) l) (hx : l[k]? = some x) (hu : I64 u) :
    OwnLines (w.setCell ⟨b, o + k * 3 + 2, none⟩ (.int .i64 u)) (.slice (some ⟨b, o, none⟩) l.length c) (l.set k ⟨x.f0, u⟩) := by
  refine ⟨h.1.set2 hx hu, fun q hq => ?_⟩
  have : b = q := by simpa [Value.ownBlock] using hq
  subst this
  obtain ⟨cs, hcs⟩ := h.2 b (by simp [Value.ownBlock])
  exact ⟨_, heap_set_same hcs _ _⟩

def entryB (B : Bk) (n : Int) : Option (List Ln × Bool) := if n < 0 then none else B.es[n.toNat]?
def errR (B : Bk) (n : Int) : Int := match entryB B n with | none => 4 | some (_, true) => 5 | some (l, false) => errB B (turnL l)
def revB (B : Bk) (n : Int) : Bk := match entryB B n with | none => B | some (_, true) => B | some (l, false) => if errB B (turnL l) = 0 then markB (markB (postB B (turnL l)) n.toNat) B.es.length else B

def RevPost (w : World) (bb mb : Nat) (ev : Value) (B : Bk) (n : Int) (e : Ending) (w' : World) : Prop :=
  ∃ ev', e = .returned (.tuple #[.int .i64 (if errR B n = 0 then B.es.length else 0), if errR B n = 0 then .nilIface else .iface 55 (.int .i64 (errR B n))]) ∧
    BookAt w' bb mb ev' (revB B n) ∧ Chg (MutB bb mb ev) w w' ∧ ∀ k, k < w.heap.size → ev'.ownBlock = some k → ev.ownBlock = some k

theorem rev_bad {w w' : World} {bb mb : Nat} {ev : Value} {B : Bk} {n : Int} (hB : BookAt w bb mb ev B) (hb : Below w.heap.size w w') {m : Int} (hn : errR B n = m) (h0 : m ≠ 0) (hr : revB B n = B) :
    RevPost w bb mb ev B n (.returned (.tuple #[.int .i64 0, .iface 55 (.int .i64 m)])) w' := by
  refine ⟨ev, ?_, ?_, Chg.of_below hb, fun _ _ h => h⟩
  · rw [hn, if_neg h0, if_neg h0]
  · rw [hr]
    exact hB.below hb

theorem post_ok {bb mb : Nat} {ev : Value} {B : Bk} {v : Value} {l : List Ln} {w : World} (hB : BookAt w bb mb ev B) (hl : LinesAt w v l) (hn : B.es.length ≤ 1000000) (hl0 : l.length ≤ 1000) (h : errB B l = 0) :
    Calls Try.prog 10 #[.pointer (some ⟨bb, 0, none⟩), v] w fun e w' => ∃ ev', e = .returned (.tuple #[.int .i64 B.es.length, .nilIface]) ∧ BookAt w' bb mb ev' (postB B l) ∧ Chg (MutB bb mb ev) w w' ∧ ∀ k, k < w.heap.size → ev'.ownBlock = some k → ev.ownBlock = some k := by
  refine (post_any bb mb ev B v l w hB hl hn hl0).mono ?_
  rintro e w' ⟨ev', rfl, r⟩
  exact ⟨ev', by rw [h]; rfl, r⟩
theorem post_no {bb mb : Nat} {ev : Value} {B : Bk} {v : Value} {l : List Ln} {w : World} (hB : BookAt w bb mb ev B) (hl : LinesAt w v l) (hn : B.es.length ≤ 1000000) (hl0 : l.length ≤ 1000) (h : errB B l ≠ 0) :
    Calls Try.prog 10 #[.pointer (some ⟨bb, 0, none⟩), v] w fun e w' => ∃ ev', e = .returned (.tuple #[.int .i64 0, .iface 55 (.int .i64 (errB B l))]) ∧ BookAt w' bb mb ev' B ∧ Chg (MutB bb mb ev) w w' ∧ ∀ k, k < w.heap.size → ev'.ownBlock = some k → ev.ownBlock = some k := by
  refine (post_any bb mb ev B v l w hB hl hn hl0).mono ?_
  rintro e w' ⟨ev', rfl, hb, r⟩
  refine ⟨ev', by rw [if_neg h, if_neg h], ?_, r⟩
  rw [postB, if_neg h] at hb
  exact hb

theorem BookAt.mark' {w : World} {bb mb g n c : Nat} {B : Bk} (h : BookAt w bb mb (.slice (some ⟨g, 0, none⟩) n c) B) (hn : n = B.es.length) (i : Nat) (hi : i < n) :
    BookAt (w.setCell ⟨g, i * 2 + 1, none⟩ (.bool true)) bb mb (.slice (some ⟨g, 0, none⟩) n c) (markB B i) := by
  subst hn
  exact h.mark i hi
theorem chg_two {w : World} {g i j : Nat} {u v : Value} : Chg (fun k => k = g) w ((w.setCell ⟨g, i, none⟩ u).setCell ⟨g, j, none⟩ v).drew :=
  ((Chg.setCell w ⟨g, i, none⟩ u).trans (Chg.setCell _ ⟨g, j, none⟩ v) (fun _ _ h => h)).trans (Chg.drewN (fun k => k = g) _ 1) (fun _ _ h => h)
theorem rev_good {w wr w6 W : World} {bb mb g6 n c6 i : Nat} {ev : Value} {B P : Bk} {l : List Ln} (hE : entryB B i = some (l, false)) (h0 : errB B (turnL l) = 0) (hP : postB B (turnL l) = P) (hBr : Below w.heap.size w wr)
    (hC6 : Chg (MutB bb mb ev) wr w6) (hev6 : ∀ k, k < wr.heap.size → (Value.slice (some ⟨g6, 0, none⟩) n c6).ownBlock = some k → ev.ownBlock = some k) (hW : BookAt W bb mb (.slice (some ⟨g6, 0, none⟩) n c6) (markB (markB P i) B.es.length))
    (hCW : Chg (fun k => k = g6) w6 W) : RevPost w bb mb ev B i (.returned (.tuple #[.int .i64 B.es.length, .nilIface])) W := by
  have e0 : errR B i = 0 := by rw [errR, hE]; exact h0
  have hs := hBr.size
  refine ⟨_, by rw [e0]; rfl, ?_, ?_, fun k hk h => hev6 k (by omega) h⟩
  · rw [revB, hE]
    simp only [h0, if_true, hP, Int.toNat_natCast]
    exact hW
  · refine (Chg.of_below hBr).trans (hC6.trans hCW (S := MutB bb mb ev) (fun k hk h => ?_)) (fun k hk h => h)
    subst h
    exact .inr (.inr (hev6 k hk (by simp [Value.ownBlock])))

set_option maxRecDepth 100000 in
set_option maxHeartbeats 4000000 in
theorem rev_any (bb mb : Nat) (ev : Value) (B : Bk) (n : Int) (w : World) (hB : BookAt w bb mb ev B) (hn : B.es.length ≤ 1000000) (hl0 : ∀ e ∈ B.es, e.1.length ≤ 1000) :
    Calls Try.prog 9 #[.pointer (some ⟨bb, 0, none⟩), .int .i64 n] w (RevPost w bb mb ev B n) := by
  have c0 := cell_at hB.cell 0 rfl
  have hbb : bb < w.heap.size := (Array.getElem?_eq_some_iff.1 hB.cell).1
  have hev : ∃ A c, ev = .slice A B.es.length c := by
    obtain ⟨vs, h2, h3, _⟩ := hB.row
    exact own_form h3
  by_cases hneg : n < 0
  · have e0 : entryB B n = none := by rw [entryB, if_pos hneg]
    have HE := Lib.hid (show errR B n = 4 by rw [errR, e0])
    have HR := Lib.hid (show revB B n = B by rw [revB, e0])
    have HB := Lib.hid hB
    clear hB e0 hev
    go_enter Try.func9, Try.ntmps9
    go_wp2_with fail
    go_ret2
    exact rev_bad HB.out (Below.refl _ _) HE.out (by omega) HR.out
  obtain ⟨i, rfl⟩ := Int.eq_ofNat_of_zero_le (by omega : 0 ≤ n)
  by_cases hge : B.es.length ≤ i
  · have e0 : entryB B i = none := by rw [entryB, if_neg hneg]; simp [hge]
    have HE := Lib.hid (show errR B i = 4 by rw [errR, e0])
    have HR := Lib.hid (show revB B i = B by rw [revB, e0])
    have HB := Lib.hid hB
    obtain ⟨EA, ec, rfl⟩ := hev
    have hge' : ¬ (i : Int) < B.es.length := by omega
    clear hB e0
    go_enter Try.func9, Try.ntmps9
    go_wp2_with fail
    go_ret2
    exact rev_bad HB.out (Below.refl _ _) HE.out (by omega) HR.out
  obtain ⟨⟨l, d⟩, he⟩ : ∃ e, B.es[i]? = some e := ⟨_, List.getElem?_eq_getElem (by omega)⟩
  have e0 : entryB B i = some (l, d) := by rw [entryB, if_neg hneg]; simpa using he
  obtain ⟨g, ec, v, rfl, hec, k0, k1, hown, hfr, hgb, hgm⟩ := hB.entry i _ he
  have hi0 : (0 : Int) ≤ i := by omega
  have hi1 : (i : Int) < B.es.length := by omega
  have HB := Lib.hid hB
  cases d
  case true =>
    have HE := Lib.hid (show errR B i = 5 by rw [errR, e0])
    have HR := Lib.hid (show revB B i = B by rw [revB, e0])
    clear hB e0 hown hev he
    go_enter Try.func9, Try.ntmps9
    go_wp2_with fail
    go_ret2
    exact rev_bad HB.out (Below.refl _ _) HE.out (by omega) HR.out
  have hl : l.length ≤ 1000 := hl0 _ (List.mem_of_getElem? he)
  have CL := Lib.hid (clone_any v l w hown.1 (by omega))
  have HE := Lib.hid e0
  have HEI := Lib.hid he
  clear hB e0 hown hev he hl0
  go_enter Try.func9, Try.ntmps9
  go_wp2_with (go_at_call 21; refine CL.out.mono ?_; rintro e w1 ⟨v4, rfl, hown4, hB4, hfr4⟩; have HO4 := Lib.hid hown4; obtain ⟨⟨A4, c4, rfl, hm4, hr4⟩, ht4⟩ := hown4; have HF4 := Lib.hid hfr4; clear hr4 ht4 hfr4)
  have hs4 := hB4.size
  go_loopw [7, 42] (fun _ iv wr => ∃ (k : Nat), k ≤ l.length ∧ iv = .int .i64 k ∧ Asi (OwnLines wr (.slice A4 l.length c4) (negK l k)) ∧ Below w.heap.size w wr) (fun _ iv _ => l.length - (intOf iv).toNat)
  case atStart => exact ⟨0, by omega, rfl, ⟨by rw [negK_zero]; exact HO4.out⟩, hB4⟩
  case round =>
    obtain ⟨k, hk, rfl, hO, hBr⟩ := hrel
    have hsr := hBr.size
    by_cases hlt : k < l.length
    · obtain ⟨x, hx⟩ : ∃ x, l[k]? = some x := ⟨_, List.getElem?_eq_getElem hlt⟩
      have hat := negK_at hx
      obtain ⟨A, c', e, hm, hok, hcell⟩ := hO.out.1
      rw [negK_length] at e
      obtain ⟨b, o, rfl, hb, hcells⟩ := hcell (by rw [negK_length]; omega)
      cases e
      obtain ⟨g0, g1, g2⟩ := hcells k x hat
      have hfz : wr.frozen? ⟨b, o + k * 3 + 2, none⟩ = false := by
        obtain ⟨cs, h⟩ := hO.out.2 b (by simp [Value.ownBlock])
        exact frozen_at h _
      have hbge := HF4.out b (by simp [Value.ownBlock])
      have HX := Lib.hid hx
      have HA := Lib.hid hat
      clear hcells hcell hat hx hok c0 k0 k1 hfr
      go_wp2_with fail
      go_roundw
      case rel =>
        refine ⟨k + 1, by omega, by go_num, ⟨?_⟩, ?_⟩
        · rw [← negK_step HX.out]
          have hI : I64 (wrap64 (-x.f1)) := by unfold I64 RowKit.wrap64; omega
          have := OwnLines.set2 (l := negK l k) (u := wrap64 (-x.f1)) (by rw [negK_length]; exact hO.out) HA.out hI
          rwa [negK_length] at this
        · exact hBr.setCell (p := ⟨b, o + k * 3 + 2, none⟩) hbge _
      case measure => simp [intOf]; omega
    · obtain rfl : k = l.length := by omega
      have hO' := hO.out.1
      rw [negK_all] at hO'
      have hlen : (turnL l).length = l.length := by simp [turnL]
      have HBr := Lib.hid (HB.out.below hBr)
      by_cases h0 : errB B (turnL l) = 0
      · have PO := Lib.hid (post_ok HBr.out hO' hn (by omega) h0)
        have H0 := Lib.hid h0
        clear h0 hO' c0 k0 k1 hfr
        go_wp2_with (go_at_call 10; refine PO.out.mono ?_; rintro e w6 ⟨ev6, rfl, hB6, hC6, hev6⟩)
        have hp : (postB B (turnL l)).es = B.es ++ [(turnL l, false)] := by rw [postB, if_pos H0.out]
        have hlt := Nat.lt_of_not_le hge
        have e1 : (postB B (turnL l)).es[i]? = some (l, false) := by rw [hp, List.getElem?_append_left hlt]; exact HEI.out
        have e2 : (postB B (turnL l)).es[B.es.length]? = some (turnL l, false) := by rw [hp, List.getElem?_append_right (Nat.le_refl _)]; simp
        have hplen : (postB B (turnL l)).es.length = B.es.length + 1 := by rw [hp]; simp
        have HP := Lib.hid hp
        generalize hP : postB B (turnL l) = P at hB6 e1 e2 hplen
        have HPP := Lib.hid hP
        obtain ⟨g6, c6, v6, rfl, hec6, m0, m1, _, hfr6, hgb6, hgm6⟩ := hB6.entry i _ e1
        obtain ⟨g7, c7, v7, he7, _, n0, n1, _⟩ := hB6.entry B.es.length _ e2
        cases he7
        have cc : w6.cell? ⟨bb, 0, none⟩ = some (Value.slice (some ⟨g6, 0, none⟩) P.es.length c6) := cell_at hB6.cell 0 rfl
        have hb1 : (i : Int) < P.es.length := by omega
        have hb2 : (B.es.length : Int) < P.es.length := by omega
        have hb3 : (0 : Int) ≤ B.es.length := by omega
        have hne1 : ¬ i = B.es.length := by omega
        have hne2 : ¬ B.es.length = i := by omega
        have hnb : ¬ bb = g6 := fun e => hgb6 e.symm
        have HB6 := Lib.hid hB6
        have HPL := Lib.hid hplen
        have HC6 := Lib.hid hC6
        have HEV6 := Lib.hid hev6
        clear hp e1 e2 hP hB6 m0 n0 hplen hC6 hev6
        go_region_held3 (fun w' => w'.cell? ⟨bb, 0, none⟩ = some (Value.slice (some ⟨g6, 0, none⟩) P.es.length c6))
          (first | exact cc | exact (cell_far _ _ _ _ hnb).trans cc | exact (cell_far _ _ _ _ hnb).trans ((cell_far _ _ _ _ hnb).trans cc) | go_keep)
          (fail)
        all_goals go_wp2
        all_goals go_ret2
        · have hW := (HB6.out.mark' rfl i (by omega)).mark' (by simp [markB]) B.es.length (by omega)
          exact rev_good HE.out H0.out HPP.out hBr HC6.out HEV6.out (hW.below (below_drewN' (Below.refl _ _) 1)) chg_two
      · have PO := Lib.hid (post_no HBr.out hO' hn (by omega) h0)
        have hR : errR B i = errB B (turnL l) := by rw [errR, HE.out]
        have hV : revB B i = B := by rw [revB, HE.out]; simp [h0]
        have HRR := Lib.hid hR
        have HVV := Lib.hid hV
        have H0 := Lib.hid h0
        clear h0 hO' hR hV c0 k0 k1 hfr
        go_wp2_with (go_at_call 10; refine PO.out.mono ?_; rintro e w6 ⟨ev6, rfl, hB6, hC6, hev6⟩)
        go_ret2
        have hR := HRR.out
        refine ⟨ev6, ?_, ?_, (Chg.of_below hBr (S := MutB bb mb (.slice (some ⟨g, 0, none⟩) B.es.length ec))).trans hC6 (fun _ _ h => h), fun k hk h => hev6 k (by omega) h⟩
        · rw [hR, if_neg H0.out, if_neg H0.out]
          rfl
        · rw [HVV.out]
          exact hB6
end Go.Proofs.Ytjljfkioiglaiaa
