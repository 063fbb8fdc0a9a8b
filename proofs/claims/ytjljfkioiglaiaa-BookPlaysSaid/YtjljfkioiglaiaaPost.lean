/- Post: the walk. -/
import Derived.Test.YtjljfkioiglaiaaBook5
import Derived.Deep.RegionLaw
set_option linter.unusedVariables false
set_option linter.unusedSimpArgs false
namespace Go.Proofs.Ytjljfkioiglaiaa
open Go.RowKit Go.Shelf

set_option maxRecDepth 100000 in
set_option maxHeartbeats 4000000 in
theorem post_any (bb mb : Nat) (ev : Value) (B : Bk) (v : Value) (l : List Ln) (w : World) (hB : BookAt w bb mb ev B) (hl : LinesAt w v l) (hn : B.es.length ≤ 1000000) (hl0 : l.length ≤ 1000) :
    Calls Try.prog 10 #[.pointer (some ⟨bb, 0, none⟩), v] w (PostPost w bb mb ev B l) := by
  have hmm := @run_makeMap Try.prog
  have c0 := cell_at hB.cell 0 rfl
  have hbb : bb < w.heap.size := (Array.getElem?_eq_some_iff.1 hB.cell).1
  have hev : ∃ A c, ev = .slice A B.es.length c := by
    obtain ⟨vs, h2, h3, _⟩ := hB.row
    rcases h3.2 with ⟨rfl, h0⟩ | ⟨g, cap, cur, rfl, _⟩
    · exact ⟨none, 0, by rw [h0]⟩
    · exact ⟨_, cap, rfl⟩
  obtain ⟨EA, ec, rfl⟩ := hev
  have HB := Lib.hid hB
  have HL := Lib.hid hl
  obtain ⟨LA, lc, rfl, ⟨hlc, hlm⟩, hok, hcells⟩ := hl
  have HOK := Lib.hid hok
  have HC := Lib.hid hcells
  have SH := Lib.hid (shaped_any _ l w HL.out)
  have ZE := Lib.hid (fun w1 (h : Below w.heap.size w w1) => zero_any _ l w1 (HL.out.below h) hl0)
  clear hB hok hcells
  by_cases h8 : 4096 ≤ B.es.length
  · have E8 : errB B l = 8 := by unfold errB; rw [if_pos h8]
    have HE := Lib.hid E8
    have h8' : (4096 : Int) ≤ B.es.length := by omega
    clear E8
    go_enter Try.func10, Try.ntmps10
    go_wp2_with fail
    go_ret2
    exact post_bad HB.out (Below.refl _ _) HE.out (by omega)
  have h8' : ¬ (4096 : Int) ≤ B.es.length := by omega
  cases hs : shapedB l
  · have E8 : errB B l = 1 := by unfold errB; rw [if_neg h8, if_pos hs]
    have HE := Lib.hid E8
    rw [hs] at SH
    clear E8 hs
    go_enter Try.func10, Try.ntmps10
    go_wp2_with (go_at_call 22; refine SH.out.mono ?_; rintro e w1 ⟨rfl, hb1⟩)
    go_ret2
    exact post_bad HB.out hb1 HE.out (by omega)
  have hl1 : 1 ≤ l.length := by
    simp [shapedB] at hs
    omega
  cases hz : zeroB l
  · have E8 : errB B l = 2 := by unfold errB; rw [if_neg h8, if_neg (by rw [hs]; decide), if_pos hz]
    have HE := Lib.hid E8
    rw [hs] at SH
    rw [hz] at ZE
    clear E8 hs hz
    go_enter Try.func10, Try.ntmps10
    go_wp2_with (first
      | (go_at_call 22; refine SH.out.mono ?_; rintro e w1 ⟨rfl, hb1⟩)
      | (go_at_call 23; refine (ZE.out _ hb1).mono ?_; rintro e w2 ⟨rfl, hb2⟩))
    go_ret2
    exact post_bad HB.out (hb1.trans (hb2.mono hb1.size)) HE.out (by omega)
  have E8 : errB B l = if (goB B.bal l).isNone then 3 else 0 := by unfold errB; rw [if_neg h8, if_neg (by rw [hs]; decide), if_neg (by rw [hz]; decide)]
  have HE := Lib.hid E8
  rw [hs] at SH
  rw [hz] at ZE
  clear E8 hs hz
  go_enter Try.func10, Try.ntmps10
  go_wp2_with (first
    | (go_at_call 22; refine SH.out.mono ?_; rintro e w1 ⟨rfl, hb1⟩)
    | (go_at_call 23; refine (ZE.out _ hb1).mono ?_; rintro e w2 ⟨rfl, hb2⟩))
  have hB2 : Below w.heap.size w w2 := hb1.trans (hb2.mono hb1.size)
  have hs2 := hB2.size
  clear hb1 hb2
  go_loopw [8, 9, 10, 11, 12, 34] (fun _ _ _ _ _ iv wr => ∃ (k : Nat) (nx : Acc → Option Int), k ≤ l.length ∧ iv = .int .i64 k ∧ Asi (goB B.bal (l.take k) = some nx) ∧ (∃ n, AccMap wr w2.heap.size (fun a => (nx a).map (Value.int .i64)) n) ∧
      Asi (∀ a x, nx a = some x → AccOk a ∧ I64 x) ∧ Below w.heap.size w wr) (fun _ _ _ _ _ iv _ => l.length - (intOf iv).toNat)
  case atStart =>
    refine ⟨0, fun _ => none, by omega, rfl, ⟨by simp [goB]⟩, ⟨0, (MapAt.made w2 _ _ _).congr fun a => rfl⟩, ⟨fun a x h => by simp at h⟩, hB2.alloc hs2 _⟩
  case round =>
    obtain ⟨k, nx, hk, rfl, hG, ⟨n, hM⟩, hN, hBr⟩ := hrel
    by_cases hlt : k < l.length
    · obtain ⟨x, hx⟩ : ∃ x, l[k]? = some x := ⟨_, List.getElem?_eq_getElem hlt⟩
      obtain ⟨b, o, rfl, hb, hcell⟩ := HC.out (by omega)
      obtain ⟨h0, h1, h2⟩ := hcell k x hx
      have g0 := (hBr.cell (p := ⟨b, o + k * 3, none⟩) hb).trans h0
      have g1 := (hBr.cell (p := ⟨b, o + k * 3 + 1, none⟩) hb).trans h1
      have g2 := (hBr.cell (p := ⟨b, o + k * 3 + 2, none⟩) hb).trans h2
      have LN := Lib.hid (HOK.out x (List.mem_of_getElem? hx))
      obtain ⟨⟨a, y⟩, m⟩ := x
      have HX := Lib.hid hx
      have HM := Lib.hid hM
      have hsr := hBr.size
      have hbs : bb < wr.heap.size := by omega
      clear hM h0 h1 h2 hx hcell c0
      have wr8 : (wr.alloc (Obj.cells #[.int .i64 a, .int .i64 y, .int .i64 m] 43)).cell? ⟨bb, 1, none⟩ = some (.map (some mb)) := cell_at (get_old ((hBr.block bb hbb).trans HB.out.cell)) 1 rfl
      have hlk : ∀ n, (Instr.lookup 59 (.map (some mb)) (.agg #[.int .i64 a, .int .i64 y]) false).run Try.prog ((wr.alloc (Obj.cells #[.int .i64 a, .int .i64 y, .int .i64 m] 43)).drewN n) = .ok (.int .i64 ((B.bal ⟨a, y⟩).getD 0)) ((wr.alloc (Obj.cells #[.int .i64 a, .int .i64 y, .int .i64 m] 43)).drewN n) := fun n => by
        obtain ⟨nm, hMB⟩ := HB.out.map
        obtain ⟨lit, hlit⟩ := acc_key ⟨a, y⟩ LN.out.1 LN.out.2.1
        have hbl : ((wr.alloc (Obj.cells #[.int .i64 a, .int .i64 y, .int .i64 m] 43)).drewN n).heap[mb]? = w.heap[mb]? := (Below.heap_alloc wr (Obj.cells #[.int .i64 a, .int .i64 y, .int .i64 m] 43) mb (by have := hMB.lt; omega)).trans (hBr.block mb hMB.lt)
        have := (hMB.of_block hbl).lookup acc_keyed acc_inj Try.underlying59 (zero_i64 _) hlit false
        have hv : (((B.bal ⟨a, y⟩).map (Value.int .i64)).getD (.int .i64 0)) = .int .i64 ((B.bal ⟨a, y⟩).getD 0) := by cases B.bal ⟨a, y⟩ <;> rfl
        rwa [hv] at this
      have hbu : I64 ((B.bal ⟨a, y⟩).getD 0) := by
        cases hbal : B.bal ⟨a, y⟩ with
        | none => exact ⟨by decide, by decide⟩
        | some q => exact (HB.out.balok _ _ hbal).2
      cases hnx : nx ⟨a, y⟩ with
      | none =>
        have NX := Lib.hid hnx
        generalize hu : (B.bal ⟨a, y⟩).getD 0 = u at hlk hbu
        have HU := Lib.hid (show (nx ⟨a, y⟩).getD ((B.bal ⟨a, y⟩).getD 0) = u by rw [hnx]; exact hu)
        clear hnx hu
        cases hf : fitsB (u + m)
        · have CA := Lib.hid (fun W => cadd_no hbu LN.out.2.2 hf W)
          have HF := Lib.hid hf
          clear hf
          go_wp2_with (at_lookup; refine wpList_lookupok_acc' _ rfl _ _ rfl rfl (b := w2.heap.size) (n := n) (HM.out.of_block (Below.heap_alloc wr (Obj.cells #[.int .i64 a, .int .i64 y, .int .i64 m] 43) _ HM.out.lt)) a y rfl ⟨LN.out.1, LN.out.2.1⟩ (.int .i64 0) false (by simp [NX.out]) (by simp [NX.out]) ?_)
          go_quiet (fail)
          go_wp2_with (first
            | (go_at_call 24; refine (CA.out _).mono ?_; rintro e w3 ⟨rfl, rfl⟩))
          go_ret2
          exact post_bad HB.out (below_drewN' (hBr.alloc hsr _) _) (err_over HE.out hG.out HX.out HU.out (.inl HF.out)) (by omega)
        · have CA := Lib.hid (fun W => cadd_ok hbu LN.out.2.2 hf W)
          have HF := Lib.hid hf
          clear hf
          by_cases hm : m = -9223372036854775808
          · have HMI := Lib.hid hm
            have hm' : (m == -9223372036854775808) = true := beq_iff_eq.2 hm
            clear hm
            go_wp2_with (at_lookup; refine wpList_lookupok_acc' _ rfl _ _ rfl rfl (b := w2.heap.size) (n := n) (HM.out.of_block (Below.heap_alloc wr (Obj.cells #[.int .i64 a, .int .i64 y, .int .i64 m] 43) _ HM.out.lt)) a y rfl ⟨LN.out.1, LN.out.2.1⟩ (.int .i64 0) false (by simp [NX.out]) (by simp [NX.out]) ?_)
            go_quiet (fail)
            go_wp2_with (first
              | (go_at_call 24; refine (CA.out _).mono ?_; rintro e w3 ⟨rfl, rfl⟩))
            go_ret2
            exact post_bad HB.out (below_drewN' (hBr.alloc hsr _) _) (err_over HE.out hG.out HX.out HU.out (.inr HMI.out)) (by omega)
          · have HMI := Lib.hid hm
            have hm' : (m == -9223372036854775808) = false := beq_eq_false_iff_ne.2 hm
            clear hm
            go_wp2_with (at_lookup; refine wpList_lookupok_acc' _ rfl _ _ rfl rfl (b := w2.heap.size) (n := n) (HM.out.of_block (Below.heap_alloc wr (Obj.cells #[.int .i64 a, .int .i64 y, .int .i64 m] 43) _ HM.out.lt)) a y rfl ⟨LN.out.1, LN.out.2.1⟩ (.int .i64 0) false (by simp [NX.out]) (by simp [NX.out]) ?_)
            go_quiet (fail)
            go_wp2_with (first
              | (go_at_call 24; refine (CA.out _).mono ?_; rintro e w3 ⟨rfl, rfl⟩)
              | (at_mapUpdate; refine wpList_update_acc _ rfl _ _ _ rfl rfl (b := w2.heap.size) (n := n) (HM.out.of_block (Below.heap_alloc wr (Obj.cells #[.int .i64 a, .int .i64 y, .int .i64 m] 43) _ HM.out.lt)) a y rfl ⟨LN.out.1, LN.out.2.1⟩ (.int .i64 (u + m)) rfl (fun w3 hM2 hz2 => ?_)))
            go_roundw
            case rel =>
              obtain ⟨hgr, hsz3⟩ := hz2.out
              refine ⟨k + 1, fun q => if q = ⟨a, y⟩ then some (u + m) else nx q, by omega, by go_num, ⟨?_⟩, ⟨_, hM2.congr fun q => ?_⟩, ⟨fun q z hq => ?_⟩, ?_⟩
              · rw [goB_snoc _ _ _ _ HX.out, hG.out]
                simp only [Option.bind_some, stepB_of HU.out, HF.out, HMI.out, decide_false, Bool.not_false, Bool.and_self, if_true]
              · by_cases hq : q = ⟨a, y⟩ <;> simp [hq]
              · by_cases hqa : q = ⟨a, y⟩
                · subst hqa
                  simp only [if_true, Option.some.injEq] at hq
                  subst hq
                  exact ⟨⟨LN.out.1, LN.out.2.1⟩, fitsB_iff.1 HF.out⟩
                · simp only [hqa, if_false] at hq
                  exact hN.out _ _ hq
              · exact (below_drewN' (hBr.alloc hsr _) _).grown hgr (by simp; omega) (fun q hq => by cases hq; omega)
            case measure => simp [intOf]; omega
      | some u =>
        have NX := Lib.hid hnx
        have hbu : I64 u := (hN.out _ _ hnx).2
        have HU := Lib.hid (show (nx ⟨a, y⟩).getD ((B.bal ⟨a, y⟩).getD 0) = u by rw [hnx]; rfl)
        clear hnx hlk wr8
        cases hf : fitsB (u + m)
        · have CA := Lib.hid (fun W => cadd_no hbu LN.out.2.2 hf W)
          have HF := Lib.hid hf
          clear hf
          go_wp2_with (first
            | (at_lookup; refine wpList_lookupok_acc' _ rfl _ _ rfl rfl (b := w2.heap.size) (n := n) (HM.out.of_block (Below.heap_alloc wr (Obj.cells #[.int .i64 a, .int .i64 y, .int .i64 m] 43) _ HM.out.lt)) a y rfl ⟨LN.out.1, LN.out.2.1⟩ (.int .i64 u) true (by simp [NX.out]) (by simp [NX.out]) ?_)
            | (go_at_call 24; refine (CA.out _).mono ?_; rintro e w3 ⟨rfl, rfl⟩))
          go_ret2
          exact post_bad HB.out (hBr.alloc hsr _) (err_over HE.out hG.out HX.out HU.out (.inl HF.out)) (by omega)
        · have CA := Lib.hid (fun W => cadd_ok hbu LN.out.2.2 hf W)
          have HF := Lib.hid hf
          clear hf
          by_cases hm : m = -9223372036854775808
          · have HMI := Lib.hid hm
            have hm' : (m == -9223372036854775808) = true := beq_iff_eq.2 hm
            clear hm
            go_wp2_with (first
              | (at_lookup; refine wpList_lookupok_acc' _ rfl _ _ rfl rfl (b := w2.heap.size) (n := n) (HM.out.of_block (Below.heap_alloc wr (Obj.cells #[.int .i64 a, .int .i64 y, .int .i64 m] 43) _ HM.out.lt)) a y rfl ⟨LN.out.1, LN.out.2.1⟩ (.int .i64 u) true (by simp [NX.out]) (by simp [NX.out]) ?_)
              | (go_at_call 24; refine (CA.out _).mono ?_; rintro e w3 ⟨rfl, rfl⟩))
            go_ret2
            exact post_bad HB.out (hBr.alloc hsr _) (err_over HE.out hG.out HX.out HU.out (.inr HMI.out)) (by omega)
          · have HMI := Lib.hid hm
            have hm' : (m == -9223372036854775808) = false := beq_eq_false_iff_ne.2 hm
            clear hm
            go_wp2_with (first
              | (at_lookup; refine wpList_lookupok_acc' _ rfl _ _ rfl rfl (b := w2.heap.size) (n := n) (HM.out.of_block (Below.heap_alloc wr (Obj.cells #[.int .i64 a, .int .i64 y, .int .i64 m] 43) _ HM.out.lt)) a y rfl ⟨LN.out.1, LN.out.2.1⟩ (.int .i64 u) true (by simp [NX.out]) (by simp [NX.out]) ?_)
              | (go_at_call 24; refine (CA.out _).mono ?_; rintro e w3 ⟨rfl, rfl⟩)
              | (at_mapUpdate; refine wpList_update_acc _ rfl _ _ _ rfl rfl (b := w2.heap.size) (n := n) (HM.out.of_block (Below.heap_alloc wr (Obj.cells #[.int .i64 a, .int .i64 y, .int .i64 m] 43) _ HM.out.lt)) a y rfl ⟨LN.out.1, LN.out.2.1⟩ (.int .i64 (u + m)) rfl (fun w3 hM2 hz2 => ?_)))
            go_roundw
            case rel =>
              obtain ⟨hgr, hsz3⟩ := hz2.out
              refine ⟨k + 1, fun q => if q = ⟨a, y⟩ then some (u + m) else nx q, by omega, by go_num, ⟨?_⟩, ⟨_, hM2.congr fun q => ?_⟩, ⟨fun q z hq => ?_⟩, ?_⟩
              · rw [goB_snoc _ _ _ _ HX.out, hG.out]
                simp only [Option.bind_some, stepB_of HU.out, HF.out, HMI.out, decide_false, Bool.not_false, Bool.and_self, if_true]
              · by_cases hq : q = ⟨a, y⟩ <;> simp [hq]
              · by_cases hqa : q = ⟨a, y⟩
                · subst hqa
                  simp only [if_true, Option.some.injEq] at hq
                  subst hq
                  exact ⟨⟨LN.out.1, LN.out.2.1⟩, fitsB_iff.1 HF.out⟩
                · simp only [hqa, if_false] at hq
                  exact hN.out _ _ hq
              · exact (hBr.alloc hsr _).grown hgr (by simp; omega) (fun q hq => by cases hq; omega)
            case measure => simp [intOf]; omega
    · obtain rfl : k = l.length := by omega
      have hG' := hG.out
      rw [List.take_of_length_le (Nat.le_refl _)] at hG'
      have HGL := Lib.hid hG'
      have HM := Lib.hid hM
      have hsr := hBr.size
      have hwr0 := (hBr.block bb hbb).trans HB.out.cell
      have c0r : wr.cell? ⟨bb, 0, none⟩ = some (Value.slice EA B.es.length ec) := cell_at hwr0 0 rfl
      have c1r : wr.cell? ⟨bb, 1, none⟩ = some (.map (some mb)) := cell_at hwr0 1 rfl
      obtain ⟨nm, hMB⟩ := HB.out.map
      have hMBr := hMB.of_block (hBr.block mb hMB.lt)
      have hne : mb ≠ w2.heap.size := by have := hMB.lt; omega
      have CP := Lib.hid (copy_any mb w2.heap.size nm n _ _ wr hne hMBr HM.out (fun a v h => by
        cases hx : nx a with
        | none => rw [hx] at h; cases h
        | some z => rw [hx] at h; cases h; exact ⟨(hN.out _ _ hx).1, z, rfl⟩))
      clear hM hG' hwr0 hMB hMBr c0
      go_wp2_with (go_at_call 25; refine CP.out.mono ?_; rintro e w3 ⟨rfl, ⟨n3, hM3⟩, hC3⟩)
      have hbal : ∀ a x, (nx a).or (B.bal a) = some x → AccOk a ∧ I64 x := fun a x h => by
        cases hx : nx a with
        | none => rw [hx] at h; exact HB.out.balok a x h
        | some z => rw [hx] at h; simp at h; subst h; exact hN.out _ _ hx
      have hB3 := HB.out.copied hBr hC3 hM3 (bal := fun a => (nx a).or (B.bal a)) (fun a => by cases nx a <;> rfl) hbal
      have hne0 : l ≠ [] := fun e => by rw [e] at hl1; simp at hl1
      have hL3 := (HL.out.below hBr).chg hC3 (fun k cs t fr h e => by
        subst h
        obtain ⟨nm, hMB⟩ := HB.out.map
        obtain ⟨es, clock, hmap⟩ := hMB.is_map
        rw [hBr.block _ hMB.lt, hmap] at e
        cases e) hne0
      have CL := Lib.hid (fun W (h : Below w3.heap.size w3 W) => clone_any _ l W (hL3.below h) (by omega))
      have HB3 := Lib.hid hB3
      have hbb3 : bb < w3.heap.size := (Array.getElem?_eq_some_iff.1 hB3.cell).1
      have HM3 := Lib.hid hM3
      have k0 : w3.cell? ⟨bb, 0, none⟩ = some (Value.slice EA B.es.length ec) := cell_at hB3.cell 0 rfl
      have f0 := frozen_at hB3.cell 0
      obtain ⟨vs, hvl, hrow3, hvs3⟩ := hB3.row
      have HBE := Lib.hid (own_other hrow3 hB3.cell (by decide))
      have HR := Lib.hid hrow3
      have HVS := Lib.hid hvs3
      have HVL := Lib.hid hvl
      clear hrow3 hvs3 hvl
      have hC := (Chg.of_below hBr (S := fun k => k = mb)).trans hC3 (fun i _ h => h)
      have HC3 := Lib.hid hC
      have HNE := Lib.hid hne
      have HBAL := Lib.hid hbal
      clear hne hbal hC3 hB3 hL3 hM3 hC
      go_region_law
        (first
          | (refine oper_append1 rfl _ #[.slice A4 l.length c4, .bool false] _ _ 60 64 (.agg #[.slice none 0 0, .bool false]) 2 32 rfl Try.underlying60 info_entry rfl (by omega) (by omega) 0 (.slice EA B.es.length ec) B.es.length (ecells vs B.es) w4.heap.size rfl rfl (get_new _ _) (by simp [Value.oneCell']) rfl ((own_below HR.out hBk).alloc _) (Nat.zero_le _) (by omega) ?_; intro v1 w5 hown5 hg5 hat5; obtain ⟨A5, c5, rfl⟩ := own_form hown5;
              have q5 : w5.heap[bb]? = some (.cells #[Value.slice EA B.es.length ec, .map (some mb)] 62 (0, 0)) := (hg5.block bb (by simp; omega) HBE.out).trans ((Below.heap_alloc _ _ _ (by omega)).trans ((hBk.block bb hbb3).trans HB3.out.cell));
              have k5 : w5.cell? ⟨bb, 0, none⟩ = some (Value.slice EA B.es.length ec) := cell_at q5 0 rfl; have f5 := frozen_at q5 0; have H5 := Lib.hid hown5; have HG5 := Lib.hid hg5; have HA5 := Lib.hid hat5; have Q5 := Lib.hid q5; clear hown5 hg5 hat5 q5)
          | (go_simp; go_at_call 21; refine (CL.out _ (below_drewN' (Below.refl _ _) 1)).mono ?_; rintro e w4 ⟨v4, rfl, hown4, hB4, hfr4⟩; have HO4 := Lib.hid hown4; obtain ⟨⟨A4, c4, rfl, hm4, hr4⟩, ht4⟩ := hown4; have HF4 := Lib.hid hfr4; clear hr4 ht4 hfr4; have hBk : Below w3.heap.size w3 w4 := ⟨hB4.os, hB4.tape, hB4.output, hB4.size, hB4.block⟩; have hs4 := hBk.size; have k4 := (hBk.cell (p := ⟨bb, 0, none⟩) hbb3).trans k0; have k4' := fun o => ((below_alloc' w4 o).cell (p := ⟨bb, 0, none⟩) (show bb < w4.heap.size by omega)).trans k4; try dsimp only))
      all_goals go_wp2
      all_goals go_ret2
      all_goals exact post_good HE.out HGL.out HB.out HB3.out HC3.out HR.out HVL.out HVS.out hBk HO4.out H5.out HG5.out HA5.out
end Go.Proofs.Ytjljfkioiglaiaa
