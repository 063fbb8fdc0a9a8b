/- BookPlays: the walk. -/
import Derived.Test.YtjljfkioiglaiaaRef13
import Derived.Lib.IfaceNeq
set_option linter.unusedVariables false
set_option linter.unusedSimpArgs false
namespace Go.Proofs.Ytjljfkioiglaiaa
open Go.RowKit Go.Shelf NumL

theorem runs_link (ds : List Deed) (k : Nat) (h : k ≤ ds.length) : Link (runs (ds.take k)) := by
  induction k with
  | zero => exact Link.new
  | succ k ih =>
    obtain ⟨d, hd⟩ : ∃ d, ds[k]? = some d := ⟨_, List.getElem?_eq_getElem (by omega)⟩
    rw [runs_snoc hd, runD]
    split
    · exact (ih (by omega)).rev _
    · exact (ih (by omega)).post _

theorem entry_none {bb mb : Nat} {ev : Value} {B : Bk} {n : Int} {w : World} (hB : BookAt w bb mb ev B) (hl0 : ∀ e ∈ B.es, e.1.length ≤ 1000) (h : entryB B n = none) :
    Calls Try.prog 16 #[.pointer (some ⟨bb, 0, none⟩), .int .i64 n] w fun e w' => e = .returned (.tuple #[.slice none 0 0, .iface 55 (.int .i64 4)]) ∧ Below w.heap.size w w' := by
  refine (entry_any bb mb ev B n w hB hl0).mono ?_
  rintro e w' ⟨hb, he⟩
  rw [h] at he
  exact ⟨he, hb⟩
theorem entry_some {bb mb : Nat} {ev : Value} {B : Bk} {n : Int} {w : World} {x : List Ln × Bool} (hB : BookAt w bb mb ev B) (hl0 : ∀ e ∈ B.es, e.1.length ≤ 1000) (h : entryB B n = some x) :
    Calls Try.prog 16 #[.pointer (some ⟨bb, 0, none⟩), .int .i64 n] w fun e w' => ∃ v, e = .returned (.tuple #[v, .nilIface]) ∧ LinesAt w' v x.1 ∧ Below w.heap.size w w' := by
  refine (entry_any bb mb ev B n w hB hl0).mono ?_
  rintro e w' ⟨hb, he⟩
  rw [h] at he
  obtain ⟨v, he, hl⟩ := he
  exact ⟨v, he, hl, hb⟩
theorem neq_none (w : World) : (binOp .neq 32 (.iface 55 (.int .i64 4)) (.iface 55 (.int .i64 4))).run Try.prog w = .ok (.bool false) w := by
  have := Lib.run_neq_iface_int (P := Try.prog) w (k := .i64) (q := .i64) 4 4 Try.underlying32 (by kernel_rfl) Try.underlying55
  simpa using this

set_option maxRecDepth 100000 in
set_option maxHeartbeats 8000000 in
theorem plays_walk (v : Value) (ds : List Deed) (a : Acc) (n : Int) (w : World) (h : DeedsAt w v ds) (ha : AccOk a) : Calls Try.prog 4 #[v, .agg #[.int .i64 a.f0, .int .i64 a.f1], .int .i64 n] w fun e w' => e = .returned (.bool true) ∧ Below w.heap.size w w' := by
  have hbA := below_alloc' w (Obj.cells #[.int .i64 a.f0, .int .i64 a.f1] 41)
  have HA := Lib.hid (h.below hbA)
  have QA := Lib.hid (get_new w (Obj.cells #[.int .i64 a.f0, .int .i64 a.f1] 41))
  have hsA : w.heap.size < (w.alloc (Obj.cells #[.int .i64 a.f0, .int .i64 a.f1] 41)).heap.size := by simp
  have SH := Lib.hid (fun W (hW : Below (w.alloc (Obj.cells #[.int .i64 a.f0, .int .i64 a.f1] 41)).heap.size (w.alloc (Obj.cells #[.int .i64 a.f0, .int .i64 a.f1] 41)) W) => short_any v ds W (HA.out.below hW))
  have HAC := Lib.hid ha
  obtain ⟨A, c, rfl, hlc, hcm, hcell⟩ := HA.out
  have HC := Lib.hid hcell
  clear hcell h ha
  obtain ⟨a0, a1⟩ := a
  generalize hwA : w.alloc (Obj.cells #[.int .i64 a0, .int .i64 a1] 41) = wA at hbA HA QA hsA SH HC
  have HWA := Lib.hid hwA
  cases hs : shortB ds
  · rw [hs] at SH
    clear hs
    go_enter Try.func4, Try.ntmps4
    go_wp2_with (first
      | (go_at_call 5; refine (up_any _).mono ?_; rintro e w1 ⟨rfl, hb1⟩)
      | (go_at_call 6; refine (SH.out _ hb1).mono ?_; rintro e w2 ⟨rfl, rfl⟩)
      | (go_at_call 7; refine (new_any _).mono ?_; rintro e w3 ⟨bb, mb, rfl, hB, hb3, hbb, hmb⟩))
    go_ret
    exact ⟨rfl, hbA.trans ((hb1.trans (hb3.mono hb1.size)).mono (by omega))⟩
  have HS := Lib.hid hs
  rw [hs] at SH
  clear hs
  go_enter Try.func4, Try.ntmps4
  go_wp2_with (first
    | (go_at_call 5; refine (up_any _).mono ?_; rintro e w1 ⟨rfl, hb1⟩)
    | (go_at_call 6; refine (SH.out _ hb1).mono ?_; rintro e w2 ⟨rfl, rfl⟩)
    | (go_at_call 7; refine (new_any _).mono ?_; rintro e w3 ⟨bb, mb, rfl, hB, hb3, hbb0, hmb0⟩))
  have hb0 : Below wA.heap.size wA w3 := hb1.trans (hb3.mono hb1.size)
  have hbb : wA.heap.size ≤ bb := Nat.le_trans hb1.size hbb0
  have hmb : wA.heap.size ≤ mb := Nat.le_trans hb1.size hmb0
  have hs3 := hb0.size
  have HP0 := Lib.hid (show Pair wA (w3.alloc (Obj.cells #[.slice none 0 0, .slice none 0 0] 51)) bb mb w3.heap.size (.slice none 0 0) (.slice none 0 0) (.slice none 0 0) (runs (ds.take 0)) (runs (ds.take 0)).es from
    ⟨hB.below (below_alloc' w3 _), ⟨get_new _ _, ⟨[], rfl, World.ownsRow_nil .., fun i v e hv => by simp at hv⟩, World.ownsRow_nil ..⟩, hb0.alloc hs3 _, hbb, hmb, hs3, fun q hq => by simp [Value.ownBlock] at hq, fun q hq => by simp [Value.ownBlock] at hq, fun q hq => by simp [Value.ownBlock] at hq⟩)
  generalize w3.heap.size = rb at HP0 hs3 ⊢
  clear hB hb1 hb3 hbb0 hmb0
  go_loopw [11, 12] (fun iv _ wr => ∃ (k : Nat) (ev lv dv : Value), k ≤ ds.length ∧ k ≤ 40 ∧ iv = .int .i64 k ∧ Asi (Pair wA wr bb mb rb ev lv dv (runs (ds.take k)) (runs (ds.take k)).es)) (fun iv _ _ => 40 - (intOf iv).toNat)
  case atStart => exact ⟨0, _, _, _, by omega, by omega, rfl, ⟨HP0.out⟩⟩
  case round =>
    obtain ⟨k, ev, lv, dv, hk, hk4, rfl, hP⟩ := hrel
    have hgood := runs_good ds k hk
    have HLK := Lib.hid (runs_link ds k hk)
    have HG := Lib.hid hgood
    have hlen40 : (runs (ds.take k)).es.length ≤ 1000 := Nat.le_trans hgood.len (by omega)
    have HEA := Lib.hid (show ∀ e ∈ (runs (ds.take k)).es, e.1.length ≤ 1000 from fun e he => Nat.le_trans (hgood.each e he) (by omega))
    have HL4 := Lib.hid hlen40
    clear hgood hlen40
    by_cases hlt : k < ds.length ∧ k < 40
    · obtain ⟨hlt, h40⟩ := hlt
      have hlt' : (k : Int) < ds.length := by omega
      have h40' : (k : Int) < 40 := by omega
      obtain ⟨b, o, rfl, hb, hcc⟩ := HC.out (by omega)
      obtain ⟨d, hd⟩ : ∃ d, ds[k]? = some d := ⟨_, List.getElem?_eq_getElem hlt⟩
      obtain ⟨c0, c1, i0, i1, hok, A2, c2, c3, hl2, hL2⟩ := hcc k d hd
      have d0 := (hP.out.bel.cell (p := ⟨b, o + k * 3, none⟩) hb).trans c0
      have d1 := (hP.out.bel.cell (p := ⟨b, o + k * 3 + 1, none⟩) hb).trans c1
      have d2 := (hP.out.bel.cell (p := ⟨b, o + k * 3 + 2, none⟩) hb).trans c3
      have h100 := short_get HS.out hd h40
      have ON := Lib.hid (one_any wA bb mb rb ev lv dv _ d A2 c2 wr hP.out HLK.out i0 (hL2 (by omega)) h100 HL4.out)
      have HR := Lib.hid (runs_snoc hd)
      clear hcc hd c0 c1 c3 hL2 hok i0 i1
      go_wp2_with (go_at_call 15; refine ON.out.mono ?_; rintro e w5 ⟨ev5, lv5, dv5, rfl, hP5⟩)
      go_roundw
      case rel => exact ⟨k + 1, ev5, lv5, dv5, by omega, by omega, by go_num, ⟨by rw [HR.out]; exact hP5⟩⟩
      case measure => simp [intOf]; omega
    · have hor : (¬ (k : Int) < ds.length) ∨ ((k : Int) < ds.length ∧ ¬ (k : Int) < 40) := by omega
      generalize runs (ds.take k) = B at hP HLK HG HEA HL4
      obtain ⟨m6, LA6, lc6, hm6, hlv, k6⟩ := hP.out.ref.lenL
      subst hlv
      have qa0 := (hP.out.bel.cell (p := ⟨w.heap.size, 0, none⟩) hsA).trans (cell_at QA.out 0 rfl)
      have qa1 := (hP.out.bel.cell (p := ⟨w.heap.size, 1, none⟩) hsA).trans (cell_at QA.out 1 rfl)
      have hqa : w.heap.size < wr.heap.size := Nat.lt_of_lt_of_le hsA hP.out.bel.size
      have hqr : rb < wr.heap.size := (Array.getElem?_eq_some_iff.1 hP.out.ref.cell).1
      have hz : (B.bal ⟨a0, a1⟩).getD 0 = sumOf B.es [] ⟨a0, a1⟩ := HLK.out.sum _
      obtain ⟨sup, _, hsup, hdom⟩ := HG.out.sup
      have TR := Lib.hid (fun W (hW : Below wr.heap.size wr W) => trial_any bb mb ev B W (hP.out.book.below hW) sup (by omega) hdom)
      have RT := Lib.hid (fun W (hW : Below wr.heap.size wr W) => reftrial_any rb _ dv B W (hP.out.ref.below hW) HLK.out (by have := HL4.out; omega))
      have LE := Lib.hid (fun W (hW : Below wr.heap.size wr W) => len_any bb mb ev B W (hP.out.book.below hW))
      have BL := Lib.hid (fun W (hW : Below wr.heap.size wr W) => balance_any bb mb ev B ⟨a0, a1⟩ HAC.out W (hP.out.book.below hW))
      have RB := Lib.hid (fun W (hW : Below wr.heap.size wr W) => refbal_any rb _ dv B.es ⟨a0, a1⟩ W (hP.out.ref.below hW) (by have := HL4.out; omega) HEA.out (HLK.out.fit _))
      rw [hz] at BL
      generalize sumOf B.es [] ⟨a0, a1⟩ = z at BL RB
      clear hz hsup hdom hlt
      rw [← hm6] at LE
      have HM6 := Lib.hid hm6
      have hmm : (m6 : Int) = B.es.length := by omega
      cases hen : entryB B n with
      | none =>
        have EN := Lib.hid (entry_none hP.out.book HEA.out hen)
        have hnn := neq_none
        have hcs : n < 0 ∨ (¬ n < 0 ∧ (m6 : Int) ≤ n) := by
          unfold entryB at hen
          split at hen
          · exact .inl (by assumption)
          · rename_i hn0
            refine .inr ⟨hn0, ?_⟩
            have := List.getElem?_eq_none_iff.1 hen
            omega
        clear hen hmm hm6
        rcases hor with h1 | ⟨h1, h2⟩ <;> rcases hcs with h3 | ⟨h3, h4⟩
        all_goals (
          go_wp2_with (go_at_call 16; refine EN.out.mono ?_; rintro e w5 ⟨rfl, hb5⟩; have k7 := (hb5.cell (p := ⟨rb, 0, none⟩) hqr).trans k6; have qa2 := (hb5.cell (p := ⟨w.heap.size, 0, none⟩) hqa).trans qa0; have qa3 := (hb5.cell (p := ⟨w.heap.size, 1, none⟩) hqa).trans qa1)
          have hB5 : Below wr.heap.size wr w5 := hb5
          go_region_held3 (fun w' => w'.cell? ⟨rb, 0, none⟩ = some (.slice LA6 m6 lc6) ∧ w'.cell? ⟨w.heap.size, 0, none⟩ = some (.int .i64 a0) ∧ w'.cell? ⟨w.heap.size, 1, none⟩ = some (.int .i64 a1))
            (first
              | exact ⟨k7, qa2, qa3⟩
              | exact ⟨(hB10.cell (p := ⟨rb, 0, none⟩) hqr).trans k6, (hB10.cell (p := ⟨w.heap.size, 0, none⟩) hqa).trans qa0, (hB10.cell (p := ⟨w.heap.size, 1, none⟩) hqa).trans qa1⟩
              | exact ⟨(hB9.cell (p := ⟨rb, 0, none⟩) hqr).trans k6, (hB9.cell (p := ⟨w.heap.size, 0, none⟩) hqa).trans qa0, (hB9.cell (p := ⟨w.heap.size, 1, none⟩) hqa).trans qa1⟩
              | exact ⟨(hB8.cell (p := ⟨rb, 0, none⟩) hqr).trans k6, (hB8.cell (p := ⟨w.heap.size, 0, none⟩) hqa).trans qa0, (hB8.cell (p := ⟨w.heap.size, 1, none⟩) hqa).trans qa1⟩
              | exact ⟨(hB7.cell (p := ⟨rb, 0, none⟩) hqr).trans k6, (hB7.cell (p := ⟨w.heap.size, 0, none⟩) hqa).trans qa0, (hB7.cell (p := ⟨w.heap.size, 1, none⟩) hqa).trans qa1⟩
              | exact ⟨(hB6.cell (p := ⟨rb, 0, none⟩) hqr).trans k6, (hB6.cell (p := ⟨w.heap.size, 0, none⟩) hqa).trans qa0, (hB6.cell (p := ⟨w.heap.size, 1, none⟩) hqa).trans qa1⟩
              | go_keep)
            (first
              | (go_at_call 18; refine (LE.out _ (below_drewN' hB5 1)).mono ?_; rintro e w6 ⟨rfl, rfl⟩)
              | (go_at_call 12; refine (BL.out _ (below_drewN' hB5 1)).mono ?_; rintro e w6 ⟨rfl, hb6⟩; have hB6 : Below wr.heap.size wr w6 := (below_drewN' hB5 1).trans (hb6.mono (below_drewN' hB5 1).size))
              | (go_at_call 19; refine (RB.out _ hB6).mono ?_; rintro e w7 ⟨rfl, hb7⟩; have hB7 : Below wr.heap.size wr w7 := hB6.trans (hb7.mono hB6.size))
              | (go_at_call 11; refine (TR.out _ hB7).mono ?_; rintro e w8 ⟨tv, tl, rfl, hTL, hmem, hnd, hso, hl6, hb8⟩; have hB8 : Below wr.heap.size wr w8 := hB7.trans (hb8.mono hB7.size); have HTL := Lib.hid hTL; have HME := Lib.hid hmem; have HND := Lib.hid hnd; have HSO := Lib.hid hso; clear hTL hmem hnd hso)
              | (go_at_call 20; refine (RT.out _ hB8).mono ?_; rintro e w9 ⟨uv, ul, rfl, hUL, hGa, hb9⟩; have hB9 : Below wr.heap.size wr w9 := hB8.trans (hb9.mono hB8.size); obtain rfl := HLK.out.trial HME.out HND.out HSO.out hGa; have HUL := Lib.hid hUL; have HT9 := Lib.hid (HTL.out.below hb9); clear hUL hGa)
              | (go_at_call 17; refine (same_any _ _ tl tl _ HT9.out HUL.out).mono ?_; rintro e w10 ⟨rfl, hb10⟩; have hB10 : Below wr.heap.size wr w10 := hB9.trans (hb10.mono hB9.size)))
          go_wp2
          go_ret
          exact ⟨rfl, hbA.trans ((hP.out.bel.trans (hB10.mono hP.out.bel.size)).mono (by omega))⟩)
      | some x =>
        have EN := Lib.hid (entry_some hP.out.book HEA.out hen)
        have hnn : ¬ n < 0 := fun h => by rw [entryB, if_pos h] at hen; cases hen
        obtain ⟨i, rfl⟩ := Int.eq_ofNat_of_zero_le (by omega : 0 ≤ n)
        have hxi : B.es[i]? = some x := by rw [entryB, if_neg hnn] at hen; simpa using hen
        have hil := (List.getElem?_eq_some_iff.1 hxi).1
        obtain ⟨g, gc, VA, vc, hlv, hv, hown, hg⟩ := hP.out.ref.entry i x hxi
        cases hlv
        have hi0 : (0 : Int) ≤ i := by omega
        have hi1 : (i : Int) < B.es.length := by omega
        have HOW := Lib.hid hown.1
        have HV0 := Lib.hid hv
        clear hen hmm hm6 hxi hown hv
        rcases hor with h1 | ⟨h1, h2⟩
        all_goals (
          go_wp2_with (first
            | (go_at_call 16; refine EN.out.mono ?_; rintro e w4 ⟨v4, rfl, hL4, hb4⟩; have HL5 := Lib.hid hL4; obtain ⟨A4, c4, rfl, hL4'⟩ := hL4; clear hL4'; have k4 := (hb4.cell (p := ⟨rb, 0, none⟩) hqr).trans k6; have v4' := (hb4.cell (p := ⟨g, i, none⟩) hg).trans HV0.out)
            | (go_at_call 17; refine (same_any _ _ x.1 x.1 _ HL5.out (HOW.out.below hb4)).mono ?_; rintro e w5 ⟨rfl, hb45⟩; have hb5 : Below wr.heap.size wr w5 := hb4.trans (hb45.mono hb4.size); have k7 := (hb5.cell (p := ⟨rb, 0, none⟩) hqr).trans k6; have qa2 := (hb5.cell (p := ⟨w.heap.size, 0, none⟩) hqa).trans qa0; have qa3 := (hb5.cell (p := ⟨w.heap.size, 1, none⟩) hqa).trans qa1))
          have hB5 : Below wr.heap.size wr w5 := hb5
          go_region_held3 (fun w' => w'.cell? ⟨rb, 0, none⟩ = some (.slice (some ⟨g, 0, none⟩) B.es.length lc6) ∧ w'.cell? ⟨w.heap.size, 0, none⟩ = some (.int .i64 a0) ∧ w'.cell? ⟨w.heap.size, 1, none⟩ = some (.int .i64 a1))
            (first
              | exact ⟨k7, qa2, qa3⟩
              | exact ⟨(hB10.cell (p := ⟨rb, 0, none⟩) hqr).trans k6, (hB10.cell (p := ⟨w.heap.size, 0, none⟩) hqa).trans qa0, (hB10.cell (p := ⟨w.heap.size, 1, none⟩) hqa).trans qa1⟩
              | exact ⟨(hB9.cell (p := ⟨rb, 0, none⟩) hqr).trans k6, (hB9.cell (p := ⟨w.heap.size, 0, none⟩) hqa).trans qa0, (hB9.cell (p := ⟨w.heap.size, 1, none⟩) hqa).trans qa1⟩
              | exact ⟨(hB8.cell (p := ⟨rb, 0, none⟩) hqr).trans k6, (hB8.cell (p := ⟨w.heap.size, 0, none⟩) hqa).trans qa0, (hB8.cell (p := ⟨w.heap.size, 1, none⟩) hqa).trans qa1⟩
              | exact ⟨(hB7.cell (p := ⟨rb, 0, none⟩) hqr).trans k6, (hB7.cell (p := ⟨w.heap.size, 0, none⟩) hqa).trans qa0, (hB7.cell (p := ⟨w.heap.size, 1, none⟩) hqa).trans qa1⟩
              | exact ⟨(hB6.cell (p := ⟨rb, 0, none⟩) hqr).trans k6, (hB6.cell (p := ⟨w.heap.size, 0, none⟩) hqa).trans qa0, (hB6.cell (p := ⟨w.heap.size, 1, none⟩) hqa).trans qa1⟩
              | go_keep)
            (first
              | (go_at_call 18; refine (LE.out _ (below_drewN' hB5 1)).mono ?_; rintro e w6 ⟨rfl, rfl⟩)
              | (go_at_call 12; refine (BL.out _ (below_drewN' hB5 1)).mono ?_; rintro e w6 ⟨rfl, hb6⟩; have hB6 : Below wr.heap.size wr w6 := (below_drewN' hB5 1).trans (hb6.mono (below_drewN' hB5 1).size))
              | (go_at_call 19; refine (RB.out _ hB6).mono ?_; rintro e w7 ⟨rfl, hb7⟩; have hB7 : Below wr.heap.size wr w7 := hB6.trans (hb7.mono hB6.size))
              | (go_at_call 11; refine (TR.out _ hB7).mono ?_; rintro e w8 ⟨tv, tl, rfl, hTL, hmem, hnd, hso, hl6, hb8⟩; have hB8 : Below wr.heap.size wr w8 := hB7.trans (hb8.mono hB7.size); have HTL := Lib.hid hTL; have HME := Lib.hid hmem; have HND := Lib.hid hnd; have HSO := Lib.hid hso; clear hTL hmem hnd hso)
              | (go_at_call 20; refine (RT.out _ hB8).mono ?_; rintro e w9 ⟨uv, ul, rfl, hUL, hGa, hb9⟩; have hB9 : Below wr.heap.size wr w9 := hB8.trans (hb9.mono hB8.size); obtain rfl := HLK.out.trial HME.out HND.out HSO.out hGa; have HUL := Lib.hid hUL; have HT9 := Lib.hid (HTL.out.below hb9); clear hUL hGa)
              | (go_at_call 17; refine (same_any _ _ tl tl _ HT9.out HUL.out).mono ?_; rintro e w10 ⟨rfl, hb10⟩; have hB10 : Below wr.heap.size wr w10 := hB9.trans (hb10.mono hB9.size)))
          go_wp2
          go_ret
          exact ⟨rfl, hbA.trans ((hP.out.bel.trans (hB10.mono hP.out.bel.size)).mono (by omega))⟩)
end Go.Proofs.Ytjljfkioiglaiaa
