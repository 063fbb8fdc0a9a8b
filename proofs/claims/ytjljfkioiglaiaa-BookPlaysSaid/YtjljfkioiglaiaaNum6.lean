/- Add: the sum of two long numbers. -/
import Derived.Test.YtjljfkioiglaiaaNum5
import Derived.Deep.RegionHeld3
set_option linter.unusedVariables false
set_option linter.unusedSimpArgs false
namespace Go.Proofs.Ytjljfkioiglaiaa
open Go.RowKit NumL

theorem NumAt.below {w w1 : World} {v : Value} {x : Int} (h : NumAt w v x) (hb : Below w.heap.size w w1) : NumAt w1 v x := by
  obtain ⟨u, s, ds, e, hu, r⟩ := h
  exact ⟨u, s, ds, e, hu.below hb, r⟩

def AddPost (w : World) (x : Int) (e : Ending) (w' : World) : Prop := ∃ v, e = .returned v ∧ NumAt w' v x ∧ Below w.heap.size w w'

set_option maxRecDepth 100000 in
set_option maxHeartbeats 4000000 in
theorem add_same (A : Option Addr) (xs : List Int) (c : Nat) (B : Option Addr) (ys : List Int) (c' : Nat) (s : Bool) (w : World) (ha : U64s w (.slice A xs.length c) xs) (hb : U64s w (.slice B ys.length c') ys) (da : Dig xs) (db : Dig ys)
    (la : xs.length ≤ 1000000) (lb : ys.length ≤ 1000000) :
    Calls Try.prog 13 #[.agg #[.slice A xs.length c, .bool s], .agg #[.slice B ys.length c', .bool s]] w (AddPost w (signed s xs + signed s ys)) := by
  have HA := Lib.hid ha
  have HB := Lib.hid hb
  have DA := Lib.hid da
  have DB := Lib.hid db
  clear ha hb da db
  go_enter Try.func13, Try.ntmps13
  go_wp2_with fail
  generalize hW : ((w.alloc (Obj.cells #[Value.slice A xs.length c, Value.bool s] 39)).alloc (Obj.cells #[Value.slice B ys.length c', Value.bool s] 39)).alloc (Obj.cells #[Value.slice none 0 0, Value.bool false] 39) = W0
  have hB0 : Below w.heap.size w W0 := by rw [← hW]; exact (((Below.refl _ _).alloc (Nat.le_refl _) _).alloc (by simp) _).alloc (by simp; omega) _
  have hs0 : W0.heap.size = w.heap.size + 3 := by rw [← hW]; simp
  have b0 : W0.heap[w.heap.size]? = some (.cells #[Value.slice A xs.length c, Value.bool s] 39 (0, 0)) := by rw [← hW]; exact get_old (get_old (get_new _ _))
  have b1 : W0.heap[w.heap.size + 1]? = some (.cells #[Value.slice B ys.length c', Value.bool s] 39 (0, 0)) := by rw [← hW]; exact get_old (get_new' _ _ (by simp))
  have b2 : W0.heap[w.heap.size + 1 + 1]? = some (.cells #[Value.slice none 0 0, Value.bool false] 39 (0, 0)) := by rw [← hW]; exact get_new' _ _ (by simp)
  clear hW
  have c0 := cell_at b0 0 rfl
  have c1 := cell_at b0 1 rfl
  have c2 := cell_at b1 0 rfl
  have PL : ∀ W, Below W0.heap.size W0 W → Calls Try.prog 30 #[.slice A xs.length c, .slice B ys.length c'] W (PlusPost W xs ys) := fun W hW =>
    plus_any A xs c B ys c' W ((HA.out.below hB0).below hW) ((HB.out.below hB0).below hW) DA.out DB.out la lb
  have PLH := Lib.hid PL
  clear PL
  go_region_held3 (fun w' => w'.cell? ⟨w.heap.size, 0, none⟩ = some (Value.slice A xs.length c) ∧ w'.cell? ⟨w.heap.size, 1, none⟩ = some (Value.bool s) ∧ w'.cell? ⟨w.heap.size + 1, 0, none⟩ = some (Value.slice B ys.length c'))
    (first | exact ⟨c0, c1, c2⟩ | exact ⟨(hBk.cell (p := ⟨w.heap.size, 0, none⟩) (by show w.heap.size < W0.heap.size; omega)).trans c0, (hBk.cell (p := ⟨w.heap.size, 1, none⟩) (by show w.heap.size < W0.heap.size; omega)).trans c1, (hBk.cell (p := ⟨w.heap.size + 1, 0, none⟩) (by show w.heap.size + 1 < W0.heap.size; omega)).trans c2⟩ | exact ⟨by rw [cell_far _ _ _ _ (show w.heap.size ≠ w.heap.size + 1 + 1 by omega), cell_far _ _ _ _ (show w.heap.size ≠ w.heap.size + 1 + 1 by omega)]; exact (hBk.cell (p := ⟨w.heap.size, 0, none⟩) (by show w.heap.size < W0.heap.size; omega)).trans c0, by rw [cell_far _ _ _ _ (show w.heap.size ≠ w.heap.size + 1 + 1 by omega), cell_far _ _ _ _ (show w.heap.size ≠ w.heap.size + 1 + 1 by omega)]; exact (hBk.cell (p := ⟨w.heap.size, 1, none⟩) (by show w.heap.size < W0.heap.size; omega)).trans c1, by rw [cell_far _ _ _ _ (show w.heap.size + 1 ≠ w.heap.size + 1 + 1 by omega), cell_far _ _ _ _ (show w.heap.size + 1 ≠ w.heap.size + 1 + 1 by omega)]; exact (hBk.cell (p := ⟨w.heap.size + 1, 0, none⟩) (by show w.heap.size + 1 < W0.heap.size; omega)).trans c2⟩ | go_keep)
    (first
      | (go_at_call 30; refine (PLH.out _ (below_drewN' (Below.refl _ _) 1)).mono ?_; rintro e w1 ⟨v, out, rfl, hu, hd, hv, hl, hB1⟩; have HU := hu; obtain ⟨A2, c3, rfl, hl2, hcc⟩ := hu; clear hcc; have HV := Lib.hid hv; clear hv; have hBk : Below W0.heap.size W0 w1 := ⟨hB1.os, hB1.tape, hB1.output, hB1.size, hB1.block⟩)
      | (go_at_call 29; refine (norm_any A2 out c3 s _ hd HU).mono ?_; rintro e w2 ⟨v2, rfl, ⟨u, s2, ds, rfl, hu2, hd2, ht2, hs2, hx2⟩, hB2⟩; have HU2 := hu2; obtain ⟨A3, c4, rfl, hl3, hcc⟩ := hu2; clear hcc; have HS := Lib.hid hs2; have HX := Lib.hid hx2; clear hs2 hx2;
          have hbl : w2.heap[w.heap.size + 1 + 1]? = some (.cells #[Value.slice none 0 0, Value.bool false] 39 (0, 0)) := (hB2.block _ (Nat.lt_of_lt_of_le (show w.heap.size + 1 + 1 < W0.heap.size by omega) hB1.size)).trans ((hB1.block _ (show w.heap.size + 1 + 1 < W0.heap.size by omega)).trans b2);
          have q0 := cell_at hbl 0 rfl; have q1 := cell_at hbl 1 rfl; have q2 := frozen_at hbl 0; have q3 := frozen_at hbl 1; have HBL := Lib.hid hbl; clear hbl; have hBk : Below W0.heap.size W0 w2 := hBk.trans (hB2.mono hBk.size)))
  clear b0 b1 b2 c0 c1 c2
  go_wp2
  have hx := HX.out
  have hv := HV.out
  refine bodyPost_ret (v := .agg #[.slice A3 ds.length c4, .bool s2]) (by simp [results, Try.results13, go_sem, q0, q1]) rfl ⟨_, rfl, ?_, ?_⟩
  · have := NumAt.set2 (a1 := .slice A3 ds.length c4) (a2 := .bool s2) (x := signed s2 ds) ⟨_, s2, ds, rfl, HU2, hd2, ht2, HS.out, rfl⟩ HBL.out
    rw [← hx] at this
    rw [show signed s xs + signed s ys = signed s out by unfold signed; rw [hv]; cases s <;> simp <;> omega]
    exact this
  · have hbB : Below w.heap.size w w2 := hB0.trans (hBk.mono (by omega))
    exact (hbB.setCell (p := ⟨w.heap.size + 1 + 1, 0, none⟩) (by show w.heap.size ≤ w.heap.size + 1 + 1; omega) _).setCell (p := ⟨w.heap.size + 1 + 1, 1, none⟩) (by show w.heap.size ≤ w.heap.size + 1 + 1; omega) _

set_option maxRecDepth 100000 in
set_option maxHeartbeats 4000000 in
theorem add_diff (A : Option Addr) (xs : List Int) (c : Nat) (B : Option Addr) (ys : List Int) (c' : Nat) (s t : Bool) (hst : (s == t) = false) (w : World) (ha : U64s w (.slice A xs.length c) xs) (hb : U64s w (.slice B ys.length c') ys) (da : Dig xs) (db : Dig ys) (ta : Top xs) (tb : Top ys)
    (la : xs.length ≤ 1000000) (lb : ys.length ≤ 1000000) :
    Calls Try.prog 13 #[.agg #[.slice A xs.length c, .bool s], .agg #[.slice B ys.length c', .bool t]] w (AddPost w (signed s xs + signed t ys)) := by
  have HA := Lib.hid ha
  have HB := Lib.hid hb
  have DA := Lib.hid da
  have DB := Lib.hid db
  have TA := Lib.hid ta
  have TB := Lib.hid tb
  clear ha hb da db ta tb
  have HST := Lib.hid hst
  go_enter Try.func13, Try.ntmps13
  go_wp2_with fail
  generalize hW : ((w.alloc (Obj.cells #[Value.slice A xs.length c, Value.bool s] 39)).alloc (Obj.cells #[Value.slice B ys.length c', Value.bool t] 39)).alloc (Obj.cells #[Value.slice none 0 0, Value.bool false] 39) = W0
  have hB0 : Below w.heap.size w W0 := by rw [← hW]; exact (((Below.refl _ _).alloc (Nat.le_refl _) _).alloc (by simp) _).alloc (by simp; omega) _
  have hs0 : W0.heap.size = w.heap.size + 3 := by rw [← hW]; simp
  have b0 : W0.heap[w.heap.size]? = some (.cells #[Value.slice A xs.length c, Value.bool s] 39 (0, 0)) := by rw [← hW]; exact get_old (get_old (get_new _ _))
  have b1 : W0.heap[w.heap.size + 1]? = some (.cells #[Value.slice B ys.length c', Value.bool t] 39 (0, 0)) := by rw [← hW]; exact get_old (get_new' _ _ (by simp))
  have b2 : W0.heap[w.heap.size + 1 + 1]? = some (.cells #[Value.slice none 0 0, Value.bool false] 39 (0, 0)) := by rw [← hW]; exact get_new' _ _ (by simp)
  clear hW
  have c0 := cell_at b0 0 rfl
  have c1 := cell_at b0 1 rfl
  have c2 := cell_at b1 0 rfl
  have c3 := cell_at b1 1 rfl
  have LS : Calls Try.prog 31 #[.slice A xs.length c, .slice B ys.length c'] W0 (LessPost W0 xs ys) :=
    less_any A xs c B ys c' W0 (HA.out.below hB0) (HB.out.below hB0) DA.out DB.out TA.out TB.out
  have LSH := Lib.hid LS
  clear LS
  go_wp2_with fail
  refine LSH.out.mono ?_
  rintro e w' ⟨rfl, nl, rfl⟩
  by_cases hlt : val xs < val ys
  · have HD : Hid (decide (val xs < val ys) = true) := by unfold Hid; simpa using hlt
    have HLT := Lib.hid hlt
    clear hlt
    rw [HD.out]
    go_wp2_with fail
    have PL : ∀ W, Below W0.heap.size W0 W → Calls Try.prog 32 #[.slice B ys.length c', .slice A xs.length c] W (MinusPost W ys xs) := fun W hW =>
      minus_any B ys c' A xs c W ((HB.out.below hB0).below hW) ((HA.out.below hB0).below hW) DB.out DA.out lb (len_le DA.out TA.out (by have := val_lt DB.out; have := HLT.out; omega)) (by have := HLT.out; omega)
    have PLH := Lib.hid PL
    clear PL
    go_region_held3 (fun w' => w'.cell? ⟨w.heap.size, 0, none⟩ = some (Value.slice A xs.length c) ∧ w'.cell? ⟨w.heap.size + 1, 1, none⟩ = some (Value.bool t) ∧ w'.cell? ⟨w.heap.size + 1, 0, none⟩ = some (Value.slice B ys.length c'))
      (first | exact ⟨c0, c3, c2⟩ | exact ⟨(hBk.cell (p := ⟨w.heap.size, 0, none⟩) (by show w.heap.size < W0.heap.size; omega)).trans c0, (hBk.cell (p := ⟨w.heap.size + 1, 1, none⟩) (by show w.heap.size + 1 < W0.heap.size; omega)).trans c3, (hBk.cell (p := ⟨w.heap.size + 1, 0, none⟩) (by show w.heap.size + 1 < W0.heap.size; omega)).trans c2⟩ | exact ⟨by rw [cell_far _ _ _ _ (show w.heap.size ≠ w.heap.size + 1 + 1 by omega), cell_far _ _ _ _ (show w.heap.size ≠ w.heap.size + 1 + 1 by omega)]; exact (hBk.cell (p := ⟨w.heap.size, 0, none⟩) (by show w.heap.size < W0.heap.size; omega)).trans c0, by rw [cell_far _ _ _ _ (show w.heap.size + 1 ≠ w.heap.size + 1 + 1 by omega), cell_far _ _ _ _ (show w.heap.size + 1 ≠ w.heap.size + 1 + 1 by omega)]; exact (hBk.cell (p := ⟨w.heap.size + 1, 1, none⟩) (by show w.heap.size + 1 < W0.heap.size; omega)).trans c3, by rw [cell_far _ _ _ _ (show w.heap.size + 1 ≠ w.heap.size + 1 + 1 by omega), cell_far _ _ _ _ (show w.heap.size + 1 ≠ w.heap.size + 1 + 1 by omega)]; exact (hBk.cell (p := ⟨w.heap.size + 1, 0, none⟩) (by show w.heap.size + 1 < W0.heap.size; omega)).trans c2⟩ | go_keep)
      (first
        | (go_at_call 32; refine (PLH.out _ (below_drewN' (Below.refl _ _) _)).mono ?_; rintro e w1 ⟨v, out, rfl, hu, hd, htt, hv, hl, hB1⟩; have HU := hu; obtain ⟨A2, c30, rfl, hl2, hcc⟩ := hu; clear hcc; have HV := Lib.hid hv; clear hv; have hBk : Below W0.heap.size W0 w1 := ⟨hB1.os, hB1.tape, hB1.output, hB1.size, hB1.block⟩)
        | (go_at_call 29; refine (norm_any A2 out c30 t _ hd HU).mono ?_; rintro e w2 ⟨v2, rfl, ⟨u, s2, ds, rfl, hu2, hd2, ht2, hs2, hx2⟩, hB2⟩; have HU2 := hu2; obtain ⟨A3, c4, rfl, hl3, hcc⟩ := hu2; clear hcc; have HS := Lib.hid hs2; have HX := Lib.hid hx2; clear hs2 hx2;
            have hbl : w2.heap[w.heap.size + 1 + 1]? = some (.cells #[Value.slice none 0 0, Value.bool false] 39 (0, 0)) := (hB2.block _ (Nat.lt_of_lt_of_le (show w.heap.size + 1 + 1 < W0.heap.size by omega) hB1.size)).trans ((hB1.block _ (show w.heap.size + 1 + 1 < W0.heap.size by omega)).trans b2);
            have q0 := cell_at hbl 0 rfl; have q1 := cell_at hbl 1 rfl; have q2 := frozen_at hbl 0; have q3 := frozen_at hbl 1; have HBL := Lib.hid hbl; clear hbl; have hBk : Below W0.heap.size W0 w2 := hBk.trans (hB2.mono hBk.size)))
    clear b0 b1 b2 c0 c1 c2 c3
    go_wp2
    have hx := HX.out
    have hv := HV.out
    refine bodyPost_ret (v := .agg #[.slice A3 ds.length c4, .bool s2]) (by simp [results, Try.results13, go_sem, q0, q1]) rfl ⟨_, rfl, ?_, ?_⟩
    · have := NumAt.set2 (a1 := .slice A3 ds.length c4) (a2 := .bool s2) (x := signed s2 ds) ⟨_, s2, ds, rfl, HU2, hd2, ht2, HS.out, rfl⟩ HBL.out
      rw [← hx] at this
      rw [show signed s xs + signed t ys = signed t out by unfold signed; rw [hv]; have := HST.out; cases s <;> cases t <;> simp_all <;> omega]
      exact this
    · have hbB : Below w.heap.size w w2 := hB0.trans (hBk.mono (by omega))
      exact (hbB.setCell (p := ⟨w.heap.size + 1 + 1, 0, none⟩) (by show w.heap.size ≤ w.heap.size + 1 + 1; omega) _).setCell (p := ⟨w.heap.size + 1 + 1, 1, none⟩) (by show w.heap.size ≤ w.heap.size + 1 + 1; omega) _
  · have HD : Hid (decide (val xs < val ys) = false) := by unfold Hid; simpa using hlt
    have HLT := Lib.hid hlt
    clear hlt
    rw [HD.out]
    go_wp2_with fail
    have PL : ∀ W, Below W0.heap.size W0 W → Calls Try.prog 32 #[.slice A xs.length c, .slice B ys.length c'] W (MinusPost W xs ys) := fun W hW =>
      minus_any A xs c B ys c' W ((HA.out.below hB0).below hW) ((HB.out.below hB0).below hW) DA.out DB.out la (len_le DB.out TB.out (by have := val_lt DA.out; have := HLT.out; omega)) (by have := HLT.out; omega)
    have PLH := Lib.hid PL
    clear PL
    go_region_held3 (fun w' => w'.cell? ⟨w.heap.size, 0, none⟩ = some (Value.slice A xs.length c) ∧ w'.cell? ⟨w.heap.size, 1, none⟩ = some (Value.bool s) ∧ w'.cell? ⟨w.heap.size + 1, 0, none⟩ = some (Value.slice B ys.length c'))
      (first | exact ⟨c0, c1, c2⟩ | exact ⟨(hBk.cell (p := ⟨w.heap.size, 0, none⟩) (by show w.heap.size < W0.heap.size; omega)).trans c0, (hBk.cell (p := ⟨w.heap.size, 1, none⟩) (by show w.heap.size < W0.heap.size; omega)).trans c1, (hBk.cell (p := ⟨w.heap.size + 1, 0, none⟩) (by show w.heap.size + 1 < W0.heap.size; omega)).trans c2⟩ | exact ⟨by rw [cell_far _ _ _ _ (show w.heap.size ≠ w.heap.size + 1 + 1 by omega), cell_far _ _ _ _ (show w.heap.size ≠ w.heap.size + 1 + 1 by omega)]; exact (hBk.cell (p := ⟨w.heap.size, 0, none⟩) (by show w.heap.size < W0.heap.size; omega)).trans c0, by rw [cell_far _ _ _ _ (show w.heap.size ≠ w.heap.size + 1 + 1 by omega), cell_far _ _ _ _ (show w.heap.size ≠ w.heap.size + 1 + 1 by omega)]; exact (hBk.cell (p := ⟨w.heap.size, 1, none⟩) (by show w.heap.size < W0.heap.size; omega)).trans c1, by rw [cell_far _ _ _ _ (show w.heap.size + 1 ≠ w.heap.size + 1 + 1 by omega), cell_far _ _ _ _ (show w.heap.size + 1 ≠ w.heap.size + 1 + 1 by omega)]; exact (hBk.cell (p := ⟨w.heap.size + 1, 0, none⟩) (by show w.heap.size + 1 < W0.heap.size; omega)).trans c2⟩ | go_keep)
      (first
        | (go_at_call 32; refine (PLH.out _ (below_drewN' (Below.refl _ _) _)).mono ?_; rintro e w1 ⟨v, out, rfl, hu, hd, htt, hv, hl, hB1⟩; have HU := hu; obtain ⟨A2, c30, rfl, hl2, hcc⟩ := hu; clear hcc; have HV := Lib.hid hv; clear hv; have hBk : Below W0.heap.size W0 w1 := ⟨hB1.os, hB1.tape, hB1.output, hB1.size, hB1.block⟩)
        | (go_at_call 29; refine (norm_any A2 out c30 s _ hd HU).mono ?_; rintro e w2 ⟨v2, rfl, ⟨u, s2, ds, rfl, hu2, hd2, ht2, hs2, hx2⟩, hB2⟩; have HU2 := hu2; obtain ⟨A3, c4, rfl, hl3, hcc⟩ := hu2; clear hcc; have HS := Lib.hid hs2; have HX := Lib.hid hx2; clear hs2 hx2;
            have hbl : w2.heap[w.heap.size + 1 + 1]? = some (.cells #[Value.slice none 0 0, Value.bool false] 39 (0, 0)) := (hB2.block _ (Nat.lt_of_lt_of_le (show w.heap.size + 1 + 1 < W0.heap.size by omega) hB1.size)).trans ((hB1.block _ (show w.heap.size + 1 + 1 < W0.heap.size by omega)).trans b2);
            have q0 := cell_at hbl 0 rfl; have q1 := cell_at hbl 1 rfl; have q2 := frozen_at hbl 0; have q3 := frozen_at hbl 1; have HBL := Lib.hid hbl; clear hbl; have hBk : Below W0.heap.size W0 w2 := hBk.trans (hB2.mono hBk.size)))
    clear b0 b1 b2 c0 c1 c2 c3
    go_wp2
    have hx := HX.out
    have hv := HV.out
    refine bodyPost_ret (v := .agg #[.slice A3 ds.length c4, .bool s2]) (by simp [results, Try.results13, go_sem, q0, q1]) rfl ⟨_, rfl, ?_, ?_⟩
    · have := NumAt.set2 (a1 := .slice A3 ds.length c4) (a2 := .bool s2) (x := signed s2 ds) ⟨_, s2, ds, rfl, HU2, hd2, ht2, HS.out, rfl⟩ HBL.out
      rw [← hx] at this
      rw [show signed s xs + signed t ys = signed s out by unfold signed; rw [hv]; have := HST.out; cases s <;> cases t <;> simp_all <;> omega]
      exact this
    · have hbB : Below w.heap.size w w2 := hB0.trans (hBk.mono (by omega))
      exact (hbB.setCell (p := ⟨w.heap.size + 1 + 1, 0, none⟩) (by show w.heap.size ≤ w.heap.size + 1 + 1; omega) _).setCell (p := ⟨w.heap.size + 1 + 1, 1, none⟩) (by show w.heap.size ≤ w.heap.size + 1 + 1; omega) _

theorem add_any (va vb : Value) (x y : Int) (w : World) (ha : NumAt w va x) (hb : NumAt w vb y) (hx : -(65536 ^ 20) < x ∧ x < 65536 ^ 20) (hy : -(65536 ^ 20) < y ∧ y < 65536 ^ 20) :
    Calls Try.prog 13 #[va, vb] w (AddPost w (x + y)) := by
  obtain ⟨u, s, xs, rfl, hu, dx, tx, hs, rfl⟩ := ha
  obtain ⟨v, t, ys, rfl, hv, dy, ty, ht, rfl⟩ := hb
  have HU := hu
  have HV := hv
  obtain ⟨A, c, rfl, _⟩ := hu
  obtain ⟨B, c', rfl, _⟩ := hv
  have lx : xs.length ≤ 20 := len_le dx tx (by cases s <;> simp [signed] at hx <;> omega)
  have ly : ys.length ≤ 20 := len_le dy ty (by cases t <;> simp [signed] at hy <;> omega)
  by_cases hst : s = t
  · subst hst
    exact add_same A xs c B ys c' s w HU HV dx dy (by omega) (by omega)
  · exact add_diff A xs c B ys c' s t (by simpa using hst) w HU HV dx dy tx ty (by omega) (by omega)
end Go.Proofs.Ytjljfkioiglaiaa
