/- sum: the balance of an account, by all entries and some more lines. -/
import Derived.Test.YtjljfkioiglaiaaRef5
import Derived.Test.YtjljfkioiglaiaaLawZ
import Derived.Deep.RegionLaw
set_option linter.unusedVariables false
set_option linter.unusedSimpArgs false
namespace Go.Proofs.Ytjljfkioiglaiaa
open Go.RowKit Go.Shelf NumL

/-- What lies in the sum's own blocks. -/
structure SumI (w wr : World) (a : Acc) (S : Int) (NA : Option Addr) (nn nc : Nat) (sg : Bool) : Prop where
  b0 : wr.heap[w.heap.size]? = some (.cells #[.int .i64 a.f0, .int .i64 a.f1] 41 (0, 0))
  b1 : wr.heap[w.heap.size + 1]? = some (.cells #[.slice none 0 0, .bool false] 39 (0, 0))
  b2 : wr.heap[w.heap.size + 1 + 1]? = some (.cells #[.slice NA nn nc, .bool sg] 39 (0, 0))
  num : NumAt wr (.agg #[.slice NA nn nc, .bool sg]) S
  bel : Below w.heap.size w wr
theorem SumI.below {w wr w2 : World} {a : Acc} {S : Int} {NA : Option Addr} {nn nc : Nat} {sg : Bool} (h : SumI w wr a S NA nn nc sg) (hb : Below wr.heap.size wr w2) : SumI w w2 a S NA nn nc sg :=
  ⟨(hb.block _ (Array.getElem?_eq_some_iff.1 h.b0).1).trans h.b0, (hb.block _ (Array.getElem?_eq_some_iff.1 h.b1).1).trans h.b1, (hb.block _ (Array.getElem?_eq_some_iff.1 h.b2).1).trans h.b2, h.num.below hb, h.bel.trans (hb.mono h.bel.size)⟩
theorem SumI.store {w wr : World} {a : Acc} {S S' : Int} {NA A' : Option Addr} {nn nc n' c' : Nat} {sg s' : Bool} (h : SumI w wr a S NA nn nc sg) (hn : NumAt wr (.agg #[.slice A' n' c', .bool s']) S') :
    SumI w ((wr.setCell ⟨w.heap.size + 1 + 1, 0, none⟩ (.slice A' n' c')).setCell ⟨w.heap.size + 1 + 1, 1, none⟩ (.bool s')) a S' A' n' c' s' := by
  refine ⟨?_, ?_, heap_set_same (heap_set_same h.b2 0 _) 1 _, hn.set2' h.b2, ?_⟩
  · rw [Below.heap_setCell _ _ _ _ (show w.heap.size ≠ w.heap.size + 1 + 1 by omega), Below.heap_setCell _ _ _ _ (show w.heap.size ≠ w.heap.size + 1 + 1 by omega)]
    exact h.b0
  · rw [Below.heap_setCell _ _ _ _ (show w.heap.size + 1 ≠ w.heap.size + 1 + 1 by omega), Below.heap_setCell _ _ _ _ (show w.heap.size + 1 ≠ w.heap.size + 1 + 1 by omega)]
    exact h.b1
  · exact (h.bel.setCell (p := ⟨w.heap.size + 1 + 1, 0, none⟩) (show w.heap.size ≤ w.heap.size + 1 + 1 by omega) _).setCell (p := ⟨w.heap.size + 1 + 1, 1, none⟩) (show w.heap.size ≤ w.heap.size + 1 + 1 by omega) _

theorem upto_bound {es : List (List Ln × Bool)} {i k : Nat} (a : Acc) (h1 : es.length ≤ 4096) (h2 : ∀ e ∈ es, e.1.length ≤ 1000) (hok : ∀ e ∈ es, ∀ x ∈ e.1, LnOk x) (hi : i ≤ es.length) :
    -(9223372036854775808 * 4098000) ≤ accS a (uptoL es i k) ∧ accS a (uptoL es i k) ≤ 9223372036854775808 * 4098000 := by
  have hb := accS_bound a (uptoL es i k) (fun x hx => by
    unfold uptoL allL at hx
    rcases List.mem_append.1 hx with hx | hx
    · obtain ⟨e, he, hxe⟩ := List.mem_flatMap.1 hx
      exact hok e (List.mem_of_mem_take he) x hxe
    · cases he : es[i]? with
      | none => rw [he] at hx; simp at hx
      | some e => rw [he] at hx; exact hok e (List.mem_of_getElem? he) x (List.mem_of_mem_take hx))
  have hl : (uptoL es i k).length ≤ 4098000 := by
    have ht := allL_len (es := es.take i) (fun e he => h2 e (List.mem_of_mem_take he))
    rw [List.length_take] at ht
    unfold uptoL
    rw [List.length_append]
    have : (((es[i]?.map (·.1)).getD []).take k).length ≤ 1000 := by
      cases he : es[i]? with
      | none => simp
      | some e =>
        have := h2 e (List.mem_of_getElem? he)
        simp only [Option.map_some, Option.getD_some, List.length_take]
        omega
    omega
  constructor <;> omega

def sumOf (es : List (List Ln × Bool)) (more : List Ln) (a : Acc) : Int := accS a (allL es ++ more)
def RSumPost (w : World) (x : Int) (e : Ending) (w' : World) : Prop := ∃ v, e = .returned v ∧ NumAt w' v x ∧ Below w.heap.size w w'

theorem acc_cases {a0 a1 c0 c1 : Int} (h : ¬ ((⟨c0, c1⟩ : Acc) = ⟨a0, a1⟩)) : (c0 == a0) = false ∨ (c0 = a0 ∧ (c1 == a1) = false) := by
  by_cases h1 : c0 = a0
  · exact .inr ⟨h1, beq_eq_false_iff_ne.2 fun h2 => h (by rw [h1, h2])⟩
  · exact .inl (beq_eq_false_iff_ne.2 h1)

set_option maxRecDepth 100000 in
set_option maxHeartbeats 8000000 in
theorem refsum_any (rb : Nat) (lv dv : Value) (es : List (List Ln × Bool)) (a : Acc) (mv : Value) (more : List Ln) (w : World) (hR : RefAt w rb lv dv es) (hM : LinesAt w mv more) (h40 : es.length ≤ 4096) (hE : ∀ e ∈ es, e.1.length ≤ 1000) (hML : more.length ≤ 1000) :
    Calls Try.prog 38 #[.pointer (some ⟨rb, 0, none⟩), .agg #[.int .i64 a.f0, .int .i64 a.f1], mv] w (RSumPost w (sumOf es more a)) := by
  have hrb : rb < w.heap.size := (Array.getElem?_eq_some_iff.1 hR.cell).1
  have hlvf : ∃ A c, lv = .slice A es.length c := by obtain ⟨vs, _, h3, _⟩ := hR.rowL; exact own_form h3
  obtain ⟨LA, lc, rfl⟩ := hlvf
  have HR := Lib.hid hR
  have hokL : ∀ e ∈ es, ∀ x ∈ e.1, LnOk x := fun e he x hx => by
    obtain ⟨i, hi⟩ := List.getElem?_of_mem he
    obtain ⟨g, c, VA, vc, _, _, hown, _⟩ := HR.out.entry i e hi
    obtain ⟨_, _, _, _, hok, _⟩ := hown.1
    exact hok x hx
  have BND := Lib.hid (fun i k (hi : i ≤ es.length) => upto_bound (i := i) (k := k) a h40 hE hokL hi)
  have HOKL := Lib.hid hokL
  have HE := Lib.hid hE
  have HPW := Lib.hid (show (9223372036854775808 * 5000000 : Int) < 65536 ^ 20 by decide)
  have r0w := cell_at hR.cell 0 rfl
  obtain ⟨MA, mc, rfl, ⟨hmc, hmm⟩, hmok, hmcell⟩ := hM
  have HMC := Lib.hid hmcell
  have HMOK := Lib.hid hmok
  clear hmcell hmok hR hokL hE
  obtain ⟨a0, a1⟩ := a
  go_enter Try.func38, Try.ntmps38
  go_wp2_with fail
  go_loopw [8, 9] (fun iv _ wr => ∃ (i : Nat) (NA : Option Addr) (nn nc : Nat) (sg : Bool), i ≤ es.length ∧ iv = .int .i64 i ∧ SumI w wr ⟨a0, a1⟩ (accS ⟨a0, a1⟩ (uptoL es i 0)) NA nn nc sg) (fun iv _ _ => es.length - (intOf iv).toNat)
  case atStart =>
    refine ⟨0, none, 0, 0, false, by omega, rfl, get_old (get_old (get_new _ _)), get_old (get_new' _ _ (by simp)), get_new' _ _ (by simp), ?_, ((below_alloc' w _).alloc (by simp) _).alloc (by simp; omega) _⟩
    exact ⟨_, false, [], rfl, ⟨none, 0, rfl, by simp, fun h => absurd h (by simp)⟩, dig_nil, .inl rfl, by simp, by simp [uptoL, allL, accS, sums, signed, val]⟩
  case round =>
    obtain ⟨i, NA, nn, nc, sg, hi, rfl, I⟩ := hrel
    have r0 : wr.cell? ⟨rb, 0, none⟩ = some (.slice LA es.length lc) := (I.bel.cell (p := ⟨rb, 0, none⟩) hrb).trans r0w
    by_cases hlt : i < es.length
    · obtain ⟨e, he⟩ : ∃ e, es[i]? = some e := ⟨_, List.getElem?_eq_getElem hlt⟩
      obtain ⟨g, gc, VA, vc, hlv, hv, hown, hg⟩ := HR.out.entry i e he
      cases hlv
      obtain ⟨VA', vc', hve, ⟨hvc, hvm⟩, hvok, hvcell⟩ := hown.1
      cases hve
      have HVC := Lib.hid hvcell
      have HVOK := Lib.hid hvok
      have HEI := Lib.hid he
      have hi0 : (0 : Int) ≤ i := by omega
      have hi1 : (i : Int) < es.length := by omega
      have hel := HE.out e (List.mem_of_getElem? he)
      clear hvcell hvok he hown
      go_wp2_with fail
      go_loopw [9] (fun kv wr => ∃ (k : Nat) (NA : Option Addr) (nn nc : Nat) (sg : Bool), k ≤ e.1.length ∧ kv = .int .i64 k ∧ SumI w wr ⟨a0, a1⟩ (accS ⟨a0, a1⟩ (uptoL es i k)) NA nn nc sg) (fun kv _ => e.1.length - (intOf kv).toNat)
      case atStart => exact ⟨0, NA, nn, nc, sg, by omega, rfl, I⟩
      case round =>
        clear I r0 NA nn nc sg
        obtain ⟨k, NA, nn, nc, sg, hk, rfl, I⟩ := hrel
        have r0 : wr.cell? ⟨rb, 0, none⟩ = some (.slice (some ⟨g, 0, none⟩) es.length lc) := (I.bel.cell (p := ⟨rb, 0, none⟩) hrb).trans r0w
        have rv : wr.cell? ⟨g, i, none⟩ = some (.slice VA e.1.length vc) := (I.bel.cell (p := ⟨g, i, none⟩) hg).trans hv
        by_cases hkl : k < e.1.length
        · obtain ⟨b, o, rfl, hb, hcc⟩ := HVC.out (by omega)
          obtain ⟨x, hx⟩ : ∃ x, e.1[k]? = some x := ⟨_, List.getElem?_eq_getElem hkl⟩
          obtain ⟨h0, h1, h2⟩ := hcc k x hx
          have g0 := (I.bel.cell (p := ⟨b, o + k * 3, none⟩) hb).trans h0
          have g1 := (I.bel.cell (p := ⟨b, o + k * 3 + 1, none⟩) hb).trans h1
          have g2 := (I.bel.cell (p := ⟨b, o + k * 3 + 2, none⟩) hb).trans h2
          have q0 : wr.cell? ⟨w.heap.size, 0, none⟩ = some (.int .i64 a0) := cell_at I.b0 0 rfl
          have q1 : wr.cell? ⟨w.heap.size, 1, none⟩ = some (.int .i64 a1) := cell_at I.b0 1 rfl
          have hk0 : (0 : Int) ≤ k := by omega
          have hk1 : (k : Int) < e.1.length := by omega
          obtain ⟨hm0, hm1⟩ := (HVOK.out x (List.mem_of_getElem? hx)).2.2
          have HST := Lib.hid (show accS ⟨a0, a1⟩ (uptoL es i (k + 1)) = accS ⟨a0, a1⟩ (uptoL es i k) + (if x.f0 = ⟨a0, a1⟩ then x.f1 else 0) by rw [upto_step HEI.out hx, accS_append, accS_one])
          have HBD := Lib.hid (BND.out i k (by omega))
          clear h0 h1 h2 hcc hx
          obtain ⟨⟨c0, c1⟩, m⟩ := x
          by_cases heq : (⟨c0, c1⟩ : Acc) = ⟨a0, a1⟩
          · cases heq
            go_wp2_with fail
            go_quiet (fail)
            have p0 : wr.cell? ⟨w.heap.size + 1 + 1, 0, none⟩ = some (.slice NA nn nc) := cell_at I.b2 0 rfl
            have p1 : wr.cell? ⟨w.heap.size + 1 + 1, 1, none⟩ = some (.bool sg) := cell_at I.b2 1 rfl
            go_wp2_with fail
            go_region_law
              (first
                | (go_simp; go_at_call 14; refine (of_any m _ hm0 hm1).mono ?_; rintro e w6 ⟨vo, rfl, hno, hb6⟩; have hb56 : Below wr.heap.size wr w6 := ⟨hb6.os, hb6.tape, hb6.output, hb6.size, hb6.block⟩; have I6 := I.below hb56; have HNO := Lib.hid hno; clear hno;
                    have r0 : w6.cell? ⟨w.heap.size + 1 + 1, 0, none⟩ = some (.slice NA nn nc) := cell_at I6.b2 0 rfl; have r1 : w6.cell? ⟨w.heap.size + 1 + 1, 1, none⟩ = some (.bool sg) := cell_at I6.b2 1 rfl; try dsimp only)
                | (go_simp; go_at_call 13; refine (add_any _ _ _ _ _ I6.num HNO.out (by have := HBD.out; have := HPW.out; constructor <;> omega) (by have := HPW.out; constructor <;> omega)).mono ?_; rintro e w7 ⟨va, rfl, hna, hb7⟩; have I7 := I6.below hb7; have HNA := Lib.hid hna; obtain ⟨u7, s7, d7, rfl, hu7, hr7⟩ := hna; obtain ⟨A7, c7, rfl, hr8⟩ := hu7; clear hr7 hr8;
                    have z0 : w7.cell? ⟨w.heap.size + 1 + 1, 0, none⟩ = some (.slice NA nn nc) := cell_at I7.b2 0 rfl; have z1 : w7.cell? ⟨w.heap.size + 1 + 1, 1, none⟩ = some (.bool sg) := cell_at I7.b2 1 rfl; have y0 := frozen_at I7.b2 0; have y1 := frozen_at I7.b2 1; try dsimp only))
            all_goals (
              go_wp2
              go_roundw
              case rel => exact ⟨k + 1, A7, d7.length, c7, s7, by omega, by go_num, by rw [HST.out]; (first | rw [if_pos trivial] | rw [if_pos rfl]); exact I7.store HNA.out⟩
              case measure => simp [intOf]; omega)
          · have HNE := Lib.hid heq
            have hor := acc_cases heq
            clear heq
            rcases hor with h1 | ⟨rfl, h1⟩
            all_goals (
              go_wp2_with fail
              go_quiet (fail)
              go_wp2_with fail
              go_roundw
              case rel => exact ⟨k + 1, NA, nn, nc, sg, by omega, by go_num, by rw [HST.out, if_neg HNE.out, Int.add_zero]; exact I.below (below_drewN' (Below.refl _ _) _)⟩
              case measure => simp [intOf]; omega)
        · obtain rfl : k = e.1.length := by omega
          go_wp2_with fail
          go_roundw
          case rel => exact ⟨i + 1, NA, nn, nc, sg, by omega, by go_num, by rw [← upto_next HEI.out]; exact I⟩
          case measure => simp [intOf]; omega
    · obtain rfl : i = es.length := by omega
      have hall : accS ⟨a0, a1⟩ (uptoL es es.length 0) = accS ⟨a0, a1⟩ (allL es ++ more.take 0) := by rw [upto_zero, List.take_length]; simp
      rw [hall] at I
      have HBA := Lib.hid (show -(9223372036854775808 * 4098000) ≤ accS ⟨a0, a1⟩ (allL es) ∧ accS ⟨a0, a1⟩ (allL es) ≤ 9223372036854775808 * 4098000 by
        have := BND.out es.length 0 (Nat.le_refl _)
        rwa [upto_zero, List.take_length] at this)
      go_wp2_with fail
      go_loopw [10] (fun kv wr => ∃ (k : Nat) (NA : Option Addr) (nn nc : Nat) (sg : Bool), k ≤ more.length ∧ kv = .int .i64 k ∧ SumI w wr ⟨a0, a1⟩ (accS ⟨a0, a1⟩ (allL es ++ more.take k)) NA nn nc sg) (fun kv _ => more.length - (intOf kv).toNat)
      case atStart => exact ⟨0, NA, nn, nc, sg, by omega, rfl, I⟩
      case round =>
        clear I r0 NA nn nc sg
        obtain ⟨k, NA, nn, nc, sg, hk, rfl, I⟩ := hrel
        by_cases hkl : k < more.length
        · obtain ⟨b, o, rfl, hb, hcc⟩ := HMC.out (by omega)
          obtain ⟨x, hx⟩ : ∃ x, more[k]? = some x := ⟨_, List.getElem?_eq_getElem hkl⟩
          obtain ⟨h0, h1, h2⟩ := hcc k x hx
          have g0 := (I.bel.cell (p := ⟨b, o + k * 3, none⟩) hb).trans h0
          have g1 := (I.bel.cell (p := ⟨b, o + k * 3 + 1, none⟩) hb).trans h1
          have g2 := (I.bel.cell (p := ⟨b, o + k * 3 + 2, none⟩) hb).trans h2
          have q0 : wr.cell? ⟨w.heap.size, 0, none⟩ = some (.int .i64 a0) := cell_at I.b0 0 rfl
          have q1 : wr.cell? ⟨w.heap.size, 1, none⟩ = some (.int .i64 a1) := cell_at I.b0 1 rfl
          have hk0 : (0 : Int) ≤ k := by omega
          have hk1 : (k : Int) < more.length := by omega
          obtain ⟨hm0, hm1⟩ := (HMOK.out x (List.mem_of_getElem? hx)).2.2
          have HST := Lib.hid (show accS ⟨a0, a1⟩ (allL es ++ more.take (k + 1)) = accS ⟨a0, a1⟩ (allL es ++ more.take k) + (if x.f0 = ⟨a0, a1⟩ then x.f1 else 0) by
            have hlt := (List.getElem?_eq_some_iff.1 hx).1
            have he : more[k] = x := (List.getElem?_eq_some_iff.1 hx).2
            rw [List.take_succ_eq_append_getElem hlt, he, ← List.append_assoc, accS_append _ (allL es ++ more.take k), accS_one])
          have HBD := Lib.hid (show -(9223372036854775808 * 4099000) ≤ accS ⟨a0, a1⟩ (allL es ++ more.take k) ∧ accS ⟨a0, a1⟩ (allL es ++ more.take k) ≤ 9223372036854775808 * 4099000 by
            have h1 := HBA.out
            have h2 := accS_bound ⟨a0, a1⟩ (more.take k) (fun x hx => HMOK.out x (List.mem_of_mem_take hx))
            have h3 : (more.take k).length ≤ 1000 := by rw [List.length_take]; omega
            rw [accS_append]
            constructor <;> omega)
          clear h0 h1 h2 hcc hx
          obtain ⟨⟨c0, c1⟩, m⟩ := x
          by_cases heq : (⟨c0, c1⟩ : Acc) = ⟨a0, a1⟩
          · cases heq
            go_wp2_with fail
            go_quiet (fail)
            have p0 : wr.cell? ⟨w.heap.size + 1 + 1, 0, none⟩ = some (.slice NA nn nc) := cell_at I.b2 0 rfl
            have p1 : wr.cell? ⟨w.heap.size + 1 + 1, 1, none⟩ = some (.bool sg) := cell_at I.b2 1 rfl
            go_wp2_with fail
            go_region_law
              (first
                | (go_simp; go_at_call 14; refine (of_any m _ hm0 hm1).mono ?_; rintro e w6 ⟨vo, rfl, hno, hb6⟩; have hb56 : Below wr.heap.size wr w6 := ⟨hb6.os, hb6.tape, hb6.output, hb6.size, hb6.block⟩; have I6 := I.below hb56; have HNO := Lib.hid hno; clear hno;
                    have r0 : w6.cell? ⟨w.heap.size + 1 + 1, 0, none⟩ = some (.slice NA nn nc) := cell_at I6.b2 0 rfl; have r1 : w6.cell? ⟨w.heap.size + 1 + 1, 1, none⟩ = some (.bool sg) := cell_at I6.b2 1 rfl; try dsimp only)
                | (go_simp; go_at_call 13; refine (add_any _ _ _ _ _ I6.num HNO.out (by have := HBD.out; have := HPW.out; constructor <;> omega) (by have := HPW.out; constructor <;> omega)).mono ?_; rintro e w7 ⟨va, rfl, hna, hb7⟩; have I7 := I6.below hb7; have HNA := Lib.hid hna; obtain ⟨u7, s7, d7, rfl, hu7, hr7⟩ := hna; obtain ⟨A7, c7, rfl, hr8⟩ := hu7; clear hr7 hr8;
                    have z0 : w7.cell? ⟨w.heap.size + 1 + 1, 0, none⟩ = some (.slice NA nn nc) := cell_at I7.b2 0 rfl; have z1 : w7.cell? ⟨w.heap.size + 1 + 1, 1, none⟩ = some (.bool sg) := cell_at I7.b2 1 rfl; have y0 := frozen_at I7.b2 0; have y1 := frozen_at I7.b2 1; try dsimp only))
            all_goals (
              go_wp2
              go_roundw
              case rel => exact ⟨k + 1, A7, d7.length, c7, s7, by omega, by go_num, by rw [HST.out]; (first | rw [if_pos trivial] | rw [if_pos rfl]); exact I7.store HNA.out⟩
              case measure => simp [intOf]; omega)
          · have HNE := Lib.hid heq
            have hor := acc_cases heq
            clear heq
            rcases hor with h1 | ⟨rfl, h1⟩
            all_goals (
              go_wp2_with fail
              go_quiet (fail)
              go_wp2_with fail
              go_roundw
              case rel => exact ⟨k + 1, NA, nn, nc, sg, by omega, by go_num, by rw [HST.out, if_neg HNE.out, Int.add_zero]; exact I.below (below_drewN' (Below.refl _ _) _)⟩
              case measure => simp [intOf]; omega)
        · obtain rfl : k = more.length := by omega
          have hfin : accS ⟨a0, a1⟩ (allL es ++ more.take more.length) = sumOf es more ⟨a0, a1⟩ := by rw [List.take_length]; rfl
          rw [hfin] at I
          have p0 : wr.cell? ⟨w.heap.size + 1 + 1, 0, none⟩ = some (.slice NA nn nc) := cell_at I.b2 0 rfl
          have p1 : wr.cell? ⟨w.heap.size + 1 + 1, 1, none⟩ = some (.bool sg) := cell_at I.b2 1 rfl
          have t0 : wr.cell? ⟨w.heap.size + 1, 0, none⟩ = some (.slice none 0 0) := cell_at I.b1 0 rfl
          have t1 : wr.cell? ⟨w.heap.size + 1, 1, none⟩ = some (.bool false) := cell_at I.b1 1 rfl
          have u0 := frozen_at I.b1 0
          have u1 := frozen_at I.b1 1
          have HN := Lib.hid I.num
          have HB1 := Lib.hid I.b1
          have HBE := Lib.hid I.bel
          clear I
          go_wp2_with fail
          have hb := heap_set_same (heap_set_same HB1.out 0 (.slice NA nn nc)) 1 (.bool sg)
          have x0 := cell_at hb 0 rfl
          have x1 := cell_at hb 1 rfl
          refine bodyPost_ret (v := .agg #[.slice NA nn nc, .bool sg]) (by simp [results, Try.results38, go_sem, x0, x1]) rfl ⟨_, rfl, HN.out.set2' HB1.out, ?_⟩
          exact (HBE.out.setCell (p := ⟨w.heap.size + 1, 0, none⟩) (show w.heap.size ≤ w.heap.size + 1 by omega) _).setCell (p := ⟨w.heap.size + 1, 1, none⟩) (show w.heap.size ≤ w.heap.size + 1 by omega) _
end Go.Proofs.Ytjljfkioiglaiaa
