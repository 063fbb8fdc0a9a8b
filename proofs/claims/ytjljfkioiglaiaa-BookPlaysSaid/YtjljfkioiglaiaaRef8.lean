/- May of the reference. -/
import Derived.Test.YtjljfkioiglaiaaRef7
import Derived.Deep.RegionLaw
import Derived.Deep.RegionHeld3
set_option linter.unusedVariables false
set_option linter.unusedSimpArgs false
namespace Go.Proofs.Ytjljfkioiglaiaa
open Go.RowKit Go.Shelf NumL

/-- A long number in a block of the call's own, the first one. -/
structure SumJ (w wr : World) (S : Int) (NA : Option Addr) (nn nc : Nat) (sg : Bool) : Prop where
  b : wr.heap[w.heap.size]? = some (.cells #[.slice NA nn nc, .bool sg] 39 (0, 0))
  num : NumAt wr (.agg #[.slice NA nn nc, .bool sg]) S
  bel : Below w.heap.size w wr
theorem SumJ.below {w wr w2 : World} {S : Int} {NA : Option Addr} {nn nc : Nat} {sg : Bool} (h : SumJ w wr S NA nn nc sg) (hb : Below wr.heap.size wr w2) : SumJ w w2 S NA nn nc sg :=
  ⟨(hb.block _ (Array.getElem?_eq_some_iff.1 h.b).1).trans h.b, h.num.below hb, h.bel.trans (hb.mono h.bel.size)⟩
theorem SumJ.store {w wr : World} {S S' : Int} {NA A' : Option Addr} {nn nc n' c' : Nat} {sg s' : Bool} (h : SumJ w wr S NA nn nc sg) (hn : NumAt wr (.agg #[.slice A' n' c', .bool s']) S') :
    SumJ w ((wr.setCell ⟨w.heap.size, 0, none⟩ (.slice A' n' c')).setCell ⟨w.heap.size, 1, none⟩ (.bool s')) S' A' n' c' s' :=
  ⟨heap_set_same (heap_set_same h.b 0 _) 1 _, hn.set2' h.b, (h.bel.setCell (p := ⟨w.heap.size, 0, none⟩) (Nat.le_refl _) _).setCell (p := ⟨w.heap.size, 1, none⟩) (Nat.le_refl _) _⟩

theorem LinesAt.take {w : World} {A : Option Addr} {c k : Nat} {l : List Ln} (h : LinesAt w (.slice A l.length c) l) (hk : k ≤ l.length) : LinesAt w (.slice A k c) (l.take k) := by
  obtain ⟨A', c', e, ⟨h1, h2⟩, hok, hc⟩ := h
  cases e
  have hl : (l.take k).length = k := by rw [List.length_take]; omega
  refine ⟨A, c, by rw [hl], by rw [hl]; omega, fun x hx => hok x (List.mem_of_mem_take hx), fun hp => ?_⟩
  rw [hl] at hp
  obtain ⟨b, o, e, hb, hcc⟩ := hc (by omega)
  refine ⟨b, o, e, hb, fun j x hj => hcc j x ?_⟩
  have hlt := (List.getElem?_eq_some_iff.1 hj).1
  rw [hl] at hlt
  rw [List.getElem?_take, if_pos hlt] at hj
  exact hj

theorem odd_shaped {l : List Ln} {i : Nat} {x : Ln} (h : l[i]? = some x) (ho : oddB x = true) : shapedB l = false := by
  have : l.any oddB = true := List.any_eq_true.2 ⟨x, List.mem_of_getElem? h, ho⟩
  simp [shapedB, this]
theorem shaped_of {l : List Ln} (h1 : 1 ≤ l.length) (h2 : l.length ≤ 32) (h : ∀ j x, j < l.length → l[j]? = some x → oddB x = false) : shapedB l = true := by
  have : l.any oddB = false := by
    rw [← Bool.not_eq_true, List.any_eq_true]
    rintro ⟨x, hx, ho⟩
    obtain ⟨j, hj⟩ := List.getElem?_of_mem hx
    rw [h j x (List.getElem?_eq_some_iff.1 hj).1 hj] at ho
    cases ho
  simp [shapedB, this, h1, h2]
/-- What May finds wrong at a line. -/
def Bad3 (es : List (List Ln × Bool)) (l : List Ln) (i : Nat) : Prop := ∃ x, l[i]? = some x ∧ (fitsB (sumOf es (l.take (i + 1)) x.f0) = false ∨ x.f1 = -9223372036854775808)
def MayIs (es : List (List Ln × Bool)) (l : List Ln) (r : Int) : Prop :=
  (4096 ≤ es.length ∧ r = 8) ∨ (es.length < 4096 ∧ shapedB l = false ∧ r = 1) ∨ (es.length < 4096 ∧ shapedB l = true ∧ zeroB l = false ∧ r = 2) ∨
    (es.length < 4096 ∧ shapedB l = true ∧ zeroB l = true ∧ (∃ i, Bad3 es l i) ∧ r = 3) ∨ (es.length < 4096 ∧ shapedB l = true ∧ zeroB l = true ∧ (∀ i, ¬ Bad3 es l i) ∧ r = 0)
def MayPost (w : World) (es : List (List Ln × Bool)) (l : List Ln) (e : Ending) (w' : World) : Prop := ∃ r, e = .returned (.int .i64 r) ∧ MayIs es l r ∧ Below w.heap.size w w'

set_option maxRecDepth 100000 in
set_option maxHeartbeats 8000000 in
theorem may10_any (rb : Nat) (lv dv : Value) (es : List (List Ln × Bool)) (v : Value) (l : List Ln) (w : World) (hR : RefAt w rb lv dv es) (hL : LinesAt w v l) (hes : es.length ≤ 4096) (hE : ∀ e ∈ es, e.1.length ≤ 1000) (hl0 : l.length ≤ 1000) :
    Calls Try.prog 35 #[.pointer (some ⟨rb, 0, none⟩), v] w (MayPost w es l) := by
  have hlvf : ∃ A c, lv = .slice A es.length c := by obtain ⟨vs, _, h3, _⟩ := hR.rowL; exact own_form h3
  obtain ⟨LA, lc, rfl⟩ := hlvf
  have r0w : w.cell? ⟨rb, 0, none⟩ = some (.slice LA es.length lc) := cell_at hR.cell 0 rfl
  have HR := Lib.hid hR
  have HL := Lib.hid hL
  have HE := Lib.hid hE
  obtain ⟨MA, mc, rfl, ⟨hmc, hmm⟩, hmok, hmcell⟩ := hL
  have HMC := Lib.hid hmcell
  have HMOK := Lib.hid hmok
  have HPW := Lib.hid (show (9223372036854775808 * 5000000 : Int) < 65536 ^ 20 by decide)
  have HF : Hid (∀ r w', MayIs es l r → Below w.heap.size w w' → MayPost w es l (.returned (.int .i64 r)) w') := fun r w' h1 h2 => ⟨r, rfl, h1, h2⟩
  clear hR hE hmcell hmok
  by_cases h8 : 4096 ≤ es.length
  · have h8' : (4096 : Int) ≤ es.length := by omega
    go_enter Try.func35, Try.ntmps35
    go_wp2_with fail
    go_ret
    exact HF.out _ _ (.inl ⟨h8, rfl⟩) (Below.refl _ _)
  have h8' : ¬ (4096 : Int) ≤ es.length := by omega
  by_cases h1 : l.length < 1
  · have h1' : (l.length : Int) < 1 := by omega
    have hs : shapedB l = false := by simp [shapedB]; intro h; omega
    have HS := Lib.hid hs
    clear hs
    go_enter Try.func35, Try.ntmps35
    go_wp2_with fail
    go_ret
    exact HF.out _ _ (.inr (.inl ⟨by omega, HS.out, rfl⟩)) (Below.refl _ _)
  have h1' : ¬ (l.length : Int) < 1 := by omega
  by_cases h32 : 32 < l.length
  · have h32' : (32 : Int) < l.length := by omega
    have hs : shapedB l = false := by simp [shapedB]; intro _ h; omega
    have HS := Lib.hid hs
    clear hs
    go_enter Try.func35, Try.ntmps35
    go_wp2_with fail
    go_ret
    exact HF.out _ _ (.inr (.inl ⟨by omega, HS.out, rfl⟩)) (Below.refl _ _)
  have h32' : ¬ (32 : Int) < l.length := by omega
  go_enter Try.func35, Try.ntmps35
  go_wp2_with fail
  go_loopw [6, 7] (fun iv _ wr => ∃ (i : Nat) (NA : Option Addr) (nn nc : Nat) (sg : Bool), i ≤ l.length ∧ iv = .int .i64 i ∧ SumJ w wr (sums ((l.map (·.f1)).take i)) NA nn nc sg ∧ Asi (∀ j x, j < i → l[j]? = some x → oddB x = false)) (fun iv _ _ => l.length - (intOf iv).toNat)
  case atStart =>
    refine ⟨0, none, 0, 0, false, by omega, rfl, ⟨get_new _ _, ?_, below_alloc' w _⟩, ⟨fun j x h => absurd h (by omega)⟩⟩
    exact ⟨_, false, [], rfl, ⟨none, 0, rfl, by simp, fun h => absurd h (by simp)⟩, dig_nil, .inl rfl, by simp, by simp [sums, signed, val]⟩
  case round =>
    obtain ⟨i, NA, nn, nc, sg, hi, rfl, I, hO⟩ := hrel
    by_cases hlt : i < l.length
    · obtain ⟨b, o, rfl, hb, hcc⟩ := HMC.out (by omega)
      obtain ⟨x, hx⟩ : ∃ x, l[i]? = some x := ⟨_, List.getElem?_eq_getElem hlt⟩
      obtain ⟨t0, t1, t2⟩ := hcc i x hx
      have g0 := (I.bel.cell (p := ⟨b, o + i * 3, none⟩) hb).trans t0
      have g1 := (I.bel.cell (p := ⟨b, o + i * 3 + 1, none⟩) hb).trans t1
      have g2 := (I.bel.cell (p := ⟨b, o + i * 3 + 2, none⟩) hb).trans t2
      obtain ⟨hm0, hm1⟩ := (HMOK.out x (List.mem_of_getElem? hx)).2.2
      have HX := Lib.hid hx
      have hi0 : (0 : Int) ≤ i := by omega
      have hi1 : (i : Int) < l.length := by omega
      have MY := Lib.hid (fun W => refmay_any x.f0 W)
      have HODD : Hid (oddB x = (decide (x.f1 = 0) || !mayB x.f0)) := rfl
      have HSN := Lib.hid (sums_snoc (l.map (·.f1)) i x.f1 (by simp [hx]))
      have HBD := Lib.hid (And.intro (sums_bound ((l.map (·.f1)).take i) (fun z hz => by
        obtain ⟨y, hy, rfl⟩ := List.mem_map.1 (List.mem_of_mem_take hz)
        exact (HMOK.out y hy).2.2)) (show ((l.map (·.f1)).take i).length ≤ 1000 by rw [List.length_take, List.length_map]; omega))
      have T2 := Lib.hid t2
      clear t0 t1 t2 hcc hx
      obtain ⟨⟨a, y⟩, m⟩ := x
      generalize mayB ⟨a, y⟩ = mb at MY HODD
      cases mb
      · go_wp2_with (go_at_call 47; refine (MY.out _).mono ?_; rintro e w2 ⟨rfl, hb2⟩)
        go_ret
        exact HF.out _ _ (.inr (.inl ⟨by omega, odd_shaped HX.out (by rw [HODD.out]; simp), rfl⟩)) (I.below hb2).bel
      · by_cases hm : m = 0
        · have hm' : (m == 0) = true := beq_iff_eq.2 hm
          have HMZ := Lib.hid hm
          clear hm
          go_wp2_with (go_at_call 47; refine (MY.out _).mono ?_; rintro e w2 ⟨rfl, hb2⟩; have I2 := I.below hb2; have f2 := (I2.bel.cell (p := ⟨b, o + i * 3 + 2, none⟩) hb).trans T2.out)
          go_ret
          exact HF.out _ _ (.inr (.inl ⟨by omega, odd_shaped HX.out (by rw [HODD.out, HMZ.out]; simp), rfl⟩)) I2.bel
        · have hm' : (m == 0) = false := beq_eq_false_iff_ne.2 hm
          have HMZ := Lib.hid hm
          clear hm
          go_wp2_with (go_at_call 47; refine (MY.out _).mono ?_; rintro e w2 ⟨rfl, hb2⟩; have I2 := I.below hb2; have f2 := (I2.bel.cell (p := ⟨b, o + i * 3 + 2, none⟩) hb).trans T2.out)
          have p0 : w2.cell? ⟨w.heap.size, 0, none⟩ = some (.slice NA nn nc) := cell_at I2.b 0 rfl
          have p1 : w2.cell? ⟨w.heap.size, 1, none⟩ = some (.bool sg) := cell_at I2.b 1 rfl
          go_wp2_with fail
          go_region_law
            (first
              | (go_simp; go_at_call 14; refine (of_any m _ hm0 hm1).mono ?_; rintro e w6 ⟨vo, rfl, hno, hb6⟩; have hb56 : Below w2.heap.size w2 w6 := ⟨hb6.os, hb6.tape, hb6.output, hb6.size, hb6.block⟩; have I6 := I2.below hb56; have HNO := Lib.hid hno; clear hno;
                  have r0 : w6.cell? ⟨w.heap.size, 0, none⟩ = some (.slice NA nn nc) := cell_at I6.b 0 rfl; have r1 : w6.cell? ⟨w.heap.size, 1, none⟩ = some (.bool sg) := cell_at I6.b 1 rfl; try dsimp only)
              | (go_simp; go_at_call 13; refine (add_any _ _ _ _ _ I6.num HNO.out (by have := HBD.out; have := HPW.out; constructor <;> omega) (by have := HPW.out; constructor <;> omega)).mono ?_; rintro e w7 ⟨va, rfl, hna, hb7⟩; have I7 := I6.below hb7; have HNA := Lib.hid hna; obtain ⟨u7, s7, d7, rfl, hu7, hr7⟩ := hna; obtain ⟨A7, c7, rfl, hr8⟩ := hu7; clear hr7 hr8;
                  have z0 : w7.cell? ⟨w.heap.size, 0, none⟩ = some (.slice NA nn nc) := cell_at I7.b 0 rfl; have z1 : w7.cell? ⟨w.heap.size, 1, none⟩ = some (.bool sg) := cell_at I7.b 1 rfl; have y0 := frozen_at I7.b 0; have y1 := frozen_at I7.b 1; try dsimp only))
          all_goals (
            go_wp2
            go_roundw
            case rel =>
              refine ⟨i + 1, A7, d7.length, c7, s7, by omega, by go_num, by rw [HSN.out]; exact I7.store HNA.out, ⟨fun j x hj hx => ?_⟩⟩
              by_cases e : j = i
              · subst e
                rw [HX.out] at hx
                cases hx
                rw [HODD.out]
                simp [HMZ.out]
              · exact hO.out j x (by omega) hx
            case measure => simp [intOf]; omega)
    · obtain rfl : i = l.length := by omega
      have hsh : shapedB l = true := shaped_of (by omega) (by omega) hO.out
      have hnum := I.num
      rw [List.take_of_length_le (by simp)] at hnum
      obtain ⟨u, s', dd, e, ⟨A3, c3, hu, hlen3, _⟩, hdig, htop, hsg, hval⟩ := hnum
      cases e
      cases hu
      have HSH := Lib.hid hsh
      have p0 : wr.cell? ⟨w.heap.size, 0, none⟩ = some (.slice NA dd.length nc) := cell_at I.b 0 rfl
      by_cases hz : sums (l.map (·.f1)) = 0
      · have hnil : dd = [] := (val_zero hdig htop).1 (by rw [hz] at hval; unfold signed at hval; split at hval <;> omega)
        subst hnil
        have HZ := Lib.hid (show zeroB l = true by simp [zeroB, hz])
        have hB0 := I.bel
        clear hz hval hdig htop hsg hsh hO I hlen3
        go_wp2_with fail
        go_loopw [8, 9, 10] (fun iv _ _ wr => ∃ (i : Nat), i ≤ l.length ∧ iv = .int .i64 i ∧ Asi (∀ j, j < i → ¬ Bad3 es l j) ∧ Below w.heap.size w wr) (fun iv _ _ _ => l.length - (intOf iv).toNat)
        case atStart => exact ⟨0, by omega, rfl, ⟨fun j h => absurd h (by omega)⟩, hB0⟩
        case round =>
          obtain ⟨i, hi, rfl, hA, hB⟩ := hrel
          have hBs := hB.size
          by_cases hlt : i < l.length
          · obtain ⟨b, o, rfl, hb, hcc⟩ := HMC.out (by omega)
            obtain ⟨x, hx⟩ : ∃ x, l[i]? = some x := ⟨_, List.getElem?_eq_getElem hlt⟩
            obtain ⟨t0, t1, t2⟩ := hcc i x hx
            have g0 := (hB.cell (p := ⟨b, o + i * 3, none⟩) hb).trans t0
            have g1 := (hB.cell (p := ⟨b, o + i * 3 + 1, none⟩) hb).trans t1
            have g2 := (hB.cell (p := ⟨b, o + i * 3 + 2, none⟩) hb).trans t2
            have HX := Lib.hid hx
            have T2 := Lib.hid t2
            have hi0 : (0 : Int) ≤ i := by omega
            have hi1 : (i : Int) < l.length := by omega
            have hi2 : (0 : Int) ≤ (i : Int) + 1 := by omega
            have hi3 : (i : Int) + 1 ≤ mc := by omega
            have SU := Lib.hid (fun W (hW : Below w.heap.size w W) => refsum_any rb _ dv es x.f0 _ (l.take (i + 1)) W (HR.out.below hW) ((HL.out.take (k := i + 1) (by omega)).below hW) hes HE.out (by rw [List.length_take]; omega))
            have TO := Lib.hid (fun v W (h : NumAt W v (sumOf es (l.take (i + 1)) x.f0)) => to_any v _ W h)
            have HBAD := Lib.hid (show ∀ q, q = fitsB (sumOf es (l.take (i + 1)) x.f0) → (Bad3 es l i ↔ (q = false ∨ x.f1 = -9223372036854775808)) from fun q hq => by
              subst hq
              exact ⟨fun ⟨y, hy, h⟩ => by rw [HX.out] at hy; cases hy; exact h, fun h => ⟨x, HX.out, h⟩⟩)
            clear t0 t1 t2 hcc hx
            have HB2 := Lib.hid (HBAD.out _ rfl)
            unfold RSumPost at SU
            unfold ToPost at TO
            generalize sumOf es (l.take (i + 1)) x.f0 = S at SU TO HB2
            generalize fitsB S = ft at TO HB2
            obtain ⟨⟨a, y⟩, m⟩ := x
            clear HBAD
            go_wp2_with fail
            have hblr := Nat.lt_of_lt_of_le hb hBs
            have hwr : IntKind.i64.wrap ((i : Int) + 1) = (i : Int) + 1 := by rw [IntKind.wrap_i64]; omega
            have hw2 : (0 : Int) ≤ (i : Int) + 1 := by omega
            have hw3 : (i : Int) + 1 ≤ mc := by omega
            have hw4 : ((i : Int) + 1).toNat = i + 1 := by omega
            go_region_held3 (fun w' => w'.cell? ⟨b, o + i * 3, none⟩ = some (.int .i64 a) ∧ w'.cell? ⟨b, o + i * 3 + 1, none⟩ = some (.int .i64 y))
              (first | exact ⟨g0, g1⟩ | exact ⟨(hBq.cell (p := ⟨b, o + i * 3, none⟩) hblr).trans g0, (hBq.cell (p := ⟨b, o + i * 3 + 1, none⟩) hblr).trans g1⟩ | go_keep)
              (first
                | (go_at_call 38; refine (SU.out _ (below_drewN' hB 1)).mono ?_; rintro e w5 ⟨vs, rfl, hns, hb5⟩; have hBq : Below wr.heap.size wr w5 := ⟨hb5.os, hb5.tape, hb5.output, hb5.size, hb5.block⟩; have HNS := Lib.hid hns; clear hns)
                | (go_at_call 37; refine (TO.out _ _ HNS.out).mono ?_; rintro e w6 ⟨tt, rfl, htt, hb6⟩; clear htt; have hBq := hBq.trans (hb6.mono hBq.size)))
            have hB6 : Below w.heap.size w w6 := hB.trans (hBq.mono hBs)
            have f2 := (hB6.cell (p := ⟨b, o + i * 3 + 2, none⟩) hb).trans T2.out
            clear g0 g1 g2 hwr hw2 hw3 hw4
            cases ft
            · go_wp2_with fail
              go_ret
              exact HF.out _ _ (.inr (.inr (.inr (.inl ⟨by omega, HSH.out, HZ.out, ⟨i, HB2.out.2 (by simp)⟩, rfl⟩)))) hB6
            · by_cases hm : m = -9223372036854775808
              · have hm' : (m == -9223372036854775808) = true := beq_iff_eq.2 hm
                have HMI := Lib.hid hm
                clear hm
                go_wp2_with fail
                go_ret
                exact HF.out _ _ (.inr (.inr (.inr (.inl ⟨by omega, HSH.out, HZ.out, ⟨i, HB2.out.2 (.inr HMI.out)⟩, rfl⟩)))) hB6
              · have hm' : (m == -9223372036854775808) = false := beq_eq_false_iff_ne.2 hm
                have HMI := Lib.hid hm
                clear hm
                go_wp2_with fail
                go_roundw
                case rel =>
                  refine ⟨i + 1, by omega, by go_num, ⟨fun j hj hb3 => ?_⟩, hB6⟩
                  by_cases e : j = i
                  · subst e
                    have h := HB2.out.1 hb3
                    simp at h
                    exact HMI.out h
                  · exact hA.out j (by omega) hb3
                case measure => simp [intOf]; omega
          · obtain rfl : i = l.length := by omega
            go_wp2_with fail
            go_ret
            refine HF.out _ _ (.inr (.inr (.inr (.inr ⟨by omega, HSH.out, HZ.out, fun j hj => ?_, rfl⟩)))) hB
            have hb3 := hj
            obtain ⟨x, hx, _⟩ := hj
            exact hA.out j (List.getElem?_eq_some_iff.1 hx).1 hb3
      · have hpos : (0 : Int) < dd.length := by
          have : dd ≠ [] := fun e => hz (by rw [hval, e]; simp [signed, val])
          have := List.length_pos_iff.2 this
          omega
        have HZ := Lib.hid (show zeroB l = false by simp [zeroB, hz])
        have hB0 := I.bel
        clear hz hval hdig htop hsg hsh hO I hlen3
        go_wp2_with fail
        go_ret
        exact HF.out _ _ (.inr (.inr (.inl ⟨by omega, HSH.out, HZ.out, rfl⟩))) hB0
end Go.Proofs.Ytjljfkioiglaiaa
