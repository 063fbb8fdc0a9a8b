/- BookZero: the walk. -/
import Derived.Test.YtjljfkioiglaiaaUp
import Derived.Test.YtjljfkioiglaiaaShort
import Derived.Deep.RegionHeld3
import Derived.Deep.RegionLaw
set_option linter.unusedVariables false
set_option linter.unusedSimpArgs false
namespace Go.Proofs.Ytjljfkioiglaiaa
open Go.RowKit Go.Shelf NumL

def runD (B : Bk) (d : Deed) : Bk := if pickB d.f0 = 2 then revB B d.f1 else postB B d.f2
def runs (ds : List Deed) : Bk := ds.foldl runD ⟨[], fun _ => none⟩
theorem runs_snoc {ds : List Deed} {k : Nat} {d : Deed} (h : ds[k]? = some d) : runs (ds.take (k + 1)) = runD (runs (ds.take k)) d := by
  have hlt := (List.getElem?_eq_some_iff.1 h).1
  rw [List.take_succ_eq_append_getElem hlt]
  have : ds[k] = d := (List.getElem?_eq_some_iff.1 h).2
  simp [runs, List.foldl_append, this]
theorem runs_good (ds : List Deed) (k : Nat) (h : k ≤ ds.length) : Good (runs (ds.take k)) k := by
  induction k with
  | zero => exact Good.new
  | succ k ih =>
    obtain ⟨d, hd⟩ : ∃ d, ds[k]? = some d := ⟨_, List.getElem?_eq_getElem (by omega)⟩
    rw [runs_snoc hd, runD]
    split
    · exact (ih (by omega)).rev _
    · exact (ih (by omega)).post _
theorem DeedsAt.below {w w1 : World} {v : Value} {ds : List Deed} (h : DeedsAt w v ds) (hb : Below w.heap.size w w1) : DeedsAt w1 v ds := by
  obtain ⟨A, c, e, h1, h2, h3⟩ := h
  refine ⟨A, c, e, h1, h2, fun hp => ?_⟩
  obtain ⟨b, o, e, hlt, hc⟩ := h3 hp
  refine ⟨b, o, e, Nat.lt_of_lt_of_le hlt hb.size, fun j x hj => ?_⟩
  obtain ⟨c0, c1, i0, i1, hok, A2, c2, c3, hl, hL⟩ := hc j x hj
  exact ⟨(hb.cell (p := ⟨b, o + j * 3, none⟩) hlt).trans c0, (hb.cell (p := ⟨b, o + j * 3 + 1, none⟩) hlt).trans c1, i0, i1, hok, A2, c2, (hb.cell (p := ⟨b, o + j * 3 + 2, none⟩) hlt).trans c3, hl, fun h => (hL h).below hb⟩

theorem NumAt.set2' {w : World} {u : Value} {s : Bool} {b0 : Nat} {a1 a2 : Value} {b1 : Bool} {A : Option Addr} {n c : Nat} {t : TypeId} {x : Int} (h : NumAt w (.agg #[u, .bool s]) x) (hb : w.heap[b0]? = some (.cells #[.slice A n c, .bool b1] t (0, 0))) :
    NumAt ((w.setCell ⟨b0, 0, none⟩ a1).setCell ⟨b0, 1, none⟩ a2) (.agg #[u, .bool s]) x := by
  obtain ⟨u', s', ds, e, hu, r⟩ := h
  cases e
  refine ⟨u, s, ds, rfl, hu.other (b0 := b0) ?_ (fun k hk => (Below.heap_setCell _ _ _ _ hk).trans (Below.heap_setCell _ _ _ _ hk)) (by simp [World.setCell]), r⟩
  intro i n h
  simp [World.cell?, hb] at h
  rcases i with _ | _ | i <;> simp at h

theorem balance_mem {bb mb : Nat} {ev : Value} {B : Bk} {w W : World} (hB : BookAt w bb mb ev B) (hW : Below w.heap.size w W) {a : Acc} {m : Int} (hm : B.bal a = some m) :
    Calls Try.prog 12 #[.pointer (some ⟨bb, 0, none⟩), .agg #[.int .i64 a.f0, .int .i64 a.f1]] W fun e w' => e = .returned (.int .i64 m) ∧ Below W.heap.size W w' := by
  have := balance_any bb mb ev B a (hB.balok a m hm).1 W (hB.below hW)
  rw [hm] at this
  exact this

theorem chg_new {w wr w3 : World} {bb mb : Nat} {ev : Value} (hBr : Below w.heap.size w wr) (hbb : w.heap.size ≤ bb) (hmb : w.heap.size ≤ mb) (hev : ∀ k, ev.ownBlock = some k → w.heap.size ≤ k) (hC : Chg (MutB bb mb ev) wr w3) : Below w.heap.size w w3 :=
  hBr.trans (hC.below (fun i _ h => by
    rcases h with rfl | rfl | h
    · exact hbb
    · exact hmb
    · exact hev i h) hBr.size)
theorem ev_new {w wr : World} {ev ev' : Value} (hBr : Below w.heap.size w wr) (hev : ∀ k, ev.ownBlock = some k → w.heap.size ≤ k) (h : ∀ k, k < wr.heap.size → ev'.ownBlock = some k → ev.ownBlock = some k) : ∀ k, ev'.ownBlock = some k → w.heap.size ≤ k := fun k hk => by
  by_cases hlt : k < wr.heap.size
  · exact hev k (h k hlt hk)
  · have := hBr.size
    omega

set_option maxRecDepth 100000 in
set_option maxHeartbeats 8000000 in
theorem zero_walk (v : Value) (ds : List Deed) (w : World) (h : DeedsAt w v ds) : Calls Try.prog 3 #[v] w fun e w' => e = .returned (.bool true) ∧ Below w.heap.size w w' := by
  have HD := Lib.hid h
  have SH := Lib.hid (fun W (hW : Below w.heap.size w W) => short_any v ds W (HD.out.below hW))
  obtain ⟨A, c, rfl, hlc, hcm, hcell⟩ := h
  have HC := Lib.hid hcell
  clear hcell
  cases hs : shortB ds
  · rw [hs] at SH
    clear hs
    go_enter Try.func3, Try.ntmps3
    go_wp2_with (first
      | (go_at_call 5; refine (up_any _).mono ?_; rintro e w1 ⟨rfl, hb1⟩)
      | (go_at_call 6; refine (SH.out _ hb1).mono ?_; rintro e w2 ⟨rfl, rfl⟩)
      | (go_at_call 7; refine (new_any _).mono ?_; rintro e w3 ⟨bb, mb, rfl, hB, hb3, hbb, hmb⟩))
    go_ret
    exact ⟨rfl, hb1.trans (hb3.mono hb1.size)⟩
  have HS := Lib.hid hs
  rw [hs] at SH
  clear hs
  go_enter Try.func3, Try.ntmps3
  go_wp2_with (first
    | (go_at_call 5; refine (up_any _).mono ?_; rintro e w1 ⟨rfl, hb1⟩)
    | (go_at_call 6; refine (SH.out _ hb1).mono ?_; rintro e w2 ⟨rfl, rfl⟩)
    | (go_at_call 7; refine (new_any _).mono ?_; rintro e w3 ⟨bb, mb, rfl, hB, hb3, hbb0, hmb0⟩))
  have hb0 : Below w.heap.size w w3 := hb1.trans (hb3.mono hb1.size)
  have hbb : w.heap.size ≤ bb := Nat.le_trans hb1.size hbb0
  have hmb : w.heap.size ≤ mb := Nat.le_trans hb1.size hmb0
  have HB := Lib.hid hB
  clear hB hb1 hb3 hbb0 hmb0
  go_loopw [6] (fun iv wr => ∃ (k : Nat) (ev : Value), k ≤ ds.length ∧ k ≤ 40 ∧ iv = .int .i64 k ∧ Asi (BookAt wr bb mb ev (runs (ds.take k))) ∧ Asi (∀ q, ev.ownBlock = some q → w.heap.size ≤ q) ∧ Below w.heap.size w wr) (fun iv _ => 40 - (intOf iv).toNat)
  case atStart => exact ⟨0, _, by omega, by omega, rfl, ⟨HB.out⟩, ⟨fun q hq => by simp [Value.ownBlock] at hq⟩, hb0⟩
  case round =>
    obtain ⟨k, ev, hk, hk4, rfl, hBk, hEv, hBr⟩ := hrel
    have hsr := hBr.size
    have hgood := runs_good ds k hk
    have HG := Lib.hid hgood
    have hlen40 : (runs (ds.take k)).es.length ≤ 1000000 := Nat.le_trans hgood.len (by omega)
    have heach : ∀ e ∈ (runs (ds.take k)).es, e.1.length ≤ 1000 := fun e he => Nat.le_trans (hgood.each e he) (by omega)
    have HL4 := Lib.hid hlen40
    have HEA := Lib.hid heach
    clear hgood hlen40 heach
    by_cases hlt : k < ds.length ∧ k < 40
    · obtain ⟨hlt, h40⟩ := hlt
      have hlt' : (k : Int) < ds.length := by omega
      have h40' : (k : Int) < 40 := by omega
      obtain ⟨b, o, rfl, hb, hcc⟩ := HC.out (by omega)
      obtain ⟨d, hd⟩ : ∃ d, ds[k]? = some d := ⟨_, List.getElem?_eq_getElem hlt⟩
      obtain ⟨c0, c1, i0, i1, hok, A2, c2, c3, hl2, hL2⟩ := hcc k d hd
      have d0 := (hBr.cell (p := ⟨b, o + k * 3, none⟩) hb).trans c0
      have d1 := (hBr.cell (p := ⟨b, o + k * 3 + 1, none⟩) hb).trans c1
      have d2 := (hBr.cell (p := ⟨b, o + k * 3 + 2, none⟩) hb).trans c3
      have HDD := Lib.hid hd
      have h100 := short_get HS.out hd h40
      have PK := Lib.hid (fun W => pick_any d.f0 i0 W)
      have RV := Lib.hid (rev_any bb mb ev _ d.f1 wr hBk.out HL4.out HEA.out)
      have PO := Lib.hid (post_any bb mb ev _ _ d.f2 wr hBk.out ((hL2 (by omega)).below hBr) HL4.out (by omega))
      clear hcc hd c0 c1 c3 hL2 hok i0 i1
      have HDP : Hid (∀ q, q = pickB d.f0 → runs (ds.take (k + 1)) = if q = 2 then revB (runs (ds.take k)) d.f1 else postB (runs (ds.take k)) d.f2) := fun q hq => by rw [runs_snoc HDD.out, runD, hq]
      by_cases hp : pickB d.f0 = 2
      · have HR := Lib.hid (HDP.out _ rfl)
        rw [hp] at PK HR
        clear hp HDP
        go_wp2_with (first
          | (go_at_call 8; refine (PK.out _).mono ?_; rintro e w4 ⟨rfl, rfl⟩)
          | (go_at_call 9; refine RV.out.mono ?_; rintro e w5 ⟨ev', rfl, hB5, hC5, hev5⟩))
        go_roundw
        case rel => exact ⟨k + 1, ev', by omega, by omega, by go_num, ⟨by rw [HR.out]; exact hB5⟩, ⟨ev_new hBr hEv.out hev5⟩, chg_new hBr hbb hmb hEv.out hC5⟩
        case measure => simp [intOf]; omega
      · have HR := Lib.hid (HDP.out _ rfl)
        have hp' : (pickB d.f0 == 2) = false := beq_eq_false_iff_ne.2 hp
        have HPN := Lib.hid hp
        generalize pickB d.f0 = q at PK HR hp' HPN
        clear hp HDP
        go_wp2_with (first
          | (go_at_call 8; refine (PK.out _).mono ?_; rintro e w4 ⟨rfl, rfl⟩)
          | (go_at_call 10; refine PO.out.mono ?_; rintro e w5 ⟨ev', rfl, hB5, hC5, hev5⟩))
        go_roundw
        case rel => exact ⟨k + 1, ev', by omega, by omega, by go_num, ⟨by rw [HR.out, if_neg HPN.out]; exact hB5⟩, ⟨ev_new hBr hEv.out hev5⟩, chg_new hBr hbb hmb hEv.out hC5⟩
        case measure => simp [intOf]; omega
    · have hor : (¬ (k : Int) < ds.length) ∨ ((k : Int) < ds.length ∧ ¬ (k : Int) < 40) := by omega
      obtain ⟨sup, _, hsup, hdom⟩ := HG.out.sup
      have TR := Lib.hid (trial_any bb mb ev _ wr hBk.out sup (by omega) hdom)
      clear hdom hsup hlt
      rcases hor with h1 | ⟨h1, h2⟩
      all_goals (
        go_wp2_with (go_at_call 11; refine TR.out.mono ?_; rintro e w4 ⟨tv, l, rfl, hL, hmem, hnd, hso, hl6, hb4⟩; have HL := Lib.hid hL; obtain ⟨TA, tc, rfl, htc, htok, hth⟩ := hL; clear hth htok)
        have HMEM := Lib.hid hmem
        have HSUM := Lib.hid (HG.out.trial hmem hnd)
        have HB4 := Lib.hid (hBk.out.below hb4)
        clear hmem hnd hso
        go_loopw [9] (fun iv wr2 => ∃ (j : Nat) (NA : Option Addr) (nn nc : Nat) (sg : Bool), j ≤ l.length ∧ iv = .int .i64 j ∧ Asi (wr2.heap[w4.heap.size]? = some (.cells #[.slice NA nn nc, .bool sg] 39 (0, 0))) ∧
          Asi (NumAt wr2 (.agg #[.slice NA nn nc, .bool sg]) (sums ((l.map (·.f1)).take j))) ∧ Below w4.heap.size w4 wr2) (fun iv _ => l.length - (intOf iv).toNat)
        case atStart =>
          exact ⟨0, none, 0, 0, false, by omega, rfl, ⟨get_new _ _⟩, ⟨⟨_, false, [], rfl, ⟨none, 0, rfl, by simp, fun h => absurd h (by simp)⟩, dig_nil, .inl rfl, by simp, rfl⟩⟩, below_alloc' w4 _⟩
        case round =>
          obtain ⟨j, NA, nn, nc, sg, hj, rfl, hN, hNum, hb2⟩ := hrel
          have hs2 := hb2.size
          by_cases hjl : j < l.length
          · obtain ⟨x, hx⟩ : ∃ x, l[j]? = some x := ⟨_, List.getElem?_eq_getElem hjl⟩
            obtain ⟨TA', tc', e, _, htok, hth⟩ := HL.out
            obtain ⟨b2, o2, hTA, hblt, hcc⟩ := hth (by omega)
            cases e
            cases hTA
            obtain ⟨t0, t1, t2⟩ := hcc j x hx
            have g0 := (hb2.cell (p := ⟨b2, o2 + j * 3, none⟩) hblt).trans t0
            have g1 := (hb2.cell (p := ⟨b2, o2 + j * 3 + 1, none⟩) hblt).trans t1
            have g2 := (hb2.cell (p := ⟨b2, o2 + j * 3 + 2, none⟩) hblt).trans t2
            have hmx := (HMEM.out x).1 (List.mem_of_getElem? hx)
            obtain ⟨hm0, hm1⟩ := (htok x (List.mem_of_getElem? hx)).2.2
            have hsn := sums_snoc (l.map (·.f1)) j x.f1 (by simp [hx])
            have hbd := sums_bound ((l.map (·.f1)).take j) (fun z hz => by
              obtain ⟨y, hy, rfl⟩ := List.mem_map.1 (List.mem_of_mem_take hz)
              exact (htok y hy).2.2)
            have hbl : ((l.map (·.f1)).take j).length ≤ 1000000 := by rw [List.length_take, List.length_map]; omega
            obtain ⟨⟨a, y⟩, m⟩ := x
            have BA := Lib.hid (fun W (hW : Below w4.heap.size w4 W) => balance_mem HB4.out hW hmx.1)
            have hm2 : (m == 0) = false := beq_eq_false_iff_ne.2 hmx.2
            have HSN := Lib.hid hsn
            have HBD := Lib.hid (And.intro hbd hbl)
            clear hcc hth htok t0 t1 t2 hx hmx hsn hbd hbl
            have hj0 : (0 : Int) ≤ j := by omega
            have hj1 : (j : Int) < l.length := by omega
            go_wp2_with fail
            go_region_held3 (fun w' => w'.cell? ⟨b2, o2 + j * 3, none⟩ = some (.int .i64 a) ∧ w'.cell? ⟨b2, o2 + j * 3 + 1, none⟩ = some (.int .i64 y) ∧ w'.cell? ⟨b2, o2 + j * 3 + 2, none⟩ = some (.int .i64 m))
              (first | exact ⟨g0, g1, g2⟩ | exact ⟨(hBq.cell (p := ⟨b2, o2 + j * 3, none⟩) (Nat.lt_of_lt_of_le hblt hs2)).trans g0, (hBq.cell (p := ⟨b2, o2 + j * 3 + 1, none⟩) (Nat.lt_of_lt_of_le hblt hs2)).trans g1, (hBq.cell (p := ⟨b2, o2 + j * 3 + 2, none⟩) (Nat.lt_of_lt_of_le hblt hs2)).trans g2⟩ | go_keep)
              (first | (go_at_call 12; refine (BA.out _ (below_drewN' hb2 1)).mono ?_; rintro e w5 ⟨rfl, hb5⟩; have hBq : Below wr.heap.size wr w5 := ⟨hb5.os, hb5.tape, hb5.output, hb5.size, hb5.block⟩))
            have hnb : w4.heap.size < wr.heap.size := (Array.getElem?_eq_some_iff.1 hN.out).1
            have n5 := (hBq.block _ hnb).trans hN.out
            have hs5 := hBq.size
            have p0 : w5.cell? ⟨w4.heap.size, 0, none⟩ = some (.slice NA nn nc) := cell_at n5 0 rfl
            have p1 : w5.cell? ⟨w4.heap.size, 1, none⟩ = some (.bool sg) := cell_at n5 1 rfl
            have l5 := (hBq.cell (p := ⟨b2, o2 + j * 3 + 2, none⟩) (Nat.lt_of_lt_of_le hblt hs2)).trans g2
            have HN5 := Lib.hid (hNum.out.below hBq)
            have N5 := Lib.hid n5
            have HPW := Lib.hid (show (9223372036854775808000000 : Int) < 65536 ^ 20 by decide)
            clear n5 g0 g1 g2
            go_wp2_with fail
            go_region_law
              (first
                | (go_simp; go_at_call 14; refine (of_any m _ hm0 hm1).mono ?_; rintro e w6 ⟨vo, rfl, hno, hb6⟩; have hb56 : Below w5.heap.size w5 w6 := ⟨hb6.os, hb6.tape, hb6.output, hb6.size, hb6.block⟩; have HNO := Lib.hid hno; clear hno; have n6 := (hb56.block _ (Nat.lt_of_lt_of_le hnb hs5)).trans N5.out; have hs6 := hb56.size;
                    have r0 : w6.cell? ⟨w4.heap.size, 0, none⟩ = some (.slice NA nn nc) := cell_at n6 0 rfl; have r1 : w6.cell? ⟨w4.heap.size, 1, none⟩ = some (.bool sg) := cell_at n6 1 rfl; have N6 := Lib.hid n6; clear n6; try dsimp only)
                | (go_simp; go_at_call 13; refine (add_any _ _ _ _ _ (HN5.out.below hb56) HNO.out (by have := HBD.out; have := HPW.out; constructor <;> omega) (by have := HPW.out; constructor <;> omega)).mono ?_; rintro e w7 ⟨va, rfl, hna, hb7⟩; have HNA := Lib.hid hna; obtain ⟨u7, s7, d7, rfl, hu7, hr7⟩ := hna; obtain ⟨A7, c7, rfl, hr8⟩ := hu7; clear hr7 hr8; have n7 := (hb7.block _ (Nat.lt_of_lt_of_le hnb (Nat.le_trans hs5 hs6))).trans N6.out;
                    have z0 : w7.cell? ⟨w4.heap.size, 0, none⟩ = some (.slice NA nn nc) := cell_at n7 0 rfl; have z1 : w7.cell? ⟨w4.heap.size, 1, none⟩ = some (.bool sg) := cell_at n7 1 rfl; have y0 := frozen_at n7 0; have y1 := frozen_at n7 1; have N7 := Lib.hid n7; clear n7; try dsimp only))
            all_goals go_wp2
            all_goals (
              go_roundw
              case rel =>
                refine ⟨j + 1, A7, d7.length, c7, s7, by omega, by go_num, ⟨?_⟩, ⟨?_⟩, ?_⟩
                · exact heap_set_same (heap_set_same N7.out 0 _) 1 _
                · have := NumAt.set2' (a1 := .slice A7 d7.length c7) (a2 := .bool s7) HNA.out N7.out
                  rwa [HSN.out]
                · have hbb7 : Below w4.heap.size w4 w7 := (hb2.trans ((hBq.trans ((hb56.trans (hb7.mono hs6)).mono hs5)).mono hs2))
                  exact (hbb7.setCell (p := ⟨w4.heap.size, 0, none⟩) (Nat.le_refl _) _).setCell (p := ⟨w4.heap.size, 1, none⟩) (Nat.le_refl _) _
              case measure => simp [intOf]; omega)
          · obtain rfl : j = l.length := by omega
            have hz := hNum.out
            rw [List.take_of_length_le (by simp), HSUM.out] at hz
            obtain ⟨u, s, dd, e, ⟨A3, c3, hu, hlen3, _⟩, hdig, htop, hsg, hval⟩ := hz
            have hnil : dd = [] := (val_zero hdig htop).1 (by unfold signed at hval; split at hval <;> omega)
            subst hnil
            cases e
            cases hu
            have n0 : wr.cell? ⟨w4.heap.size, 0, none⟩ = some (.slice NA 0 nc) := cell_at hN.out 0 rfl
            go_wp2_with fail
            go_ret
            exact ⟨rfl, (hBr.trans (hb4.mono hsr)).trans (hb2.mono (Nat.le_trans hsr hb4.size))⟩)
end Go.Proofs.Ytjljfkioiglaiaa
