/- Of: a number of 64 bits as a long number. -/
import Derived.Test.YtjljfkioiglaiaaNum4
import Derived.Laws.BitsAllLaws
set_option linter.unusedVariables false
set_option linter.unusedSimpArgs false
namespace Go.Proofs.Ytjljfkioiglaiaa
open Go.RowKit NumL

theorem U64s.other {w w2 : World} {v : Value} {ds : List Int} {b0 : Nat} (h : U64s w v ds) (hne : ∀ i n, w.cell? ⟨b0, i, none⟩ ≠ some (.int .u64 n)) (hk : ∀ k, k ≠ b0 → w2.heap[k]? = w.heap[k]?) (hs : w.heap.size ≤ w2.heap.size) : U64s w2 v ds := by
  obtain ⟨A, c, e, hm, h⟩ := h
  refine ⟨A, c, e, hm, fun hp => ?_⟩
  obtain ⟨b, o, e, hlt, hc⟩ := h hp
  have hb : b ≠ b0 := fun e => by
    subst e
    exact hne _ _ (hc 0 hp)
  exact ⟨b, o, e, Nat.lt_of_lt_of_le hlt hs, fun j hj => (World.cell?_of_block (w := w) (a := ⟨b, o + j, none⟩) (hk b hb)).trans (hc j hj)⟩
theorem NumAt.set2 {w : World} {u : Value} {s : Bool} {b0 : Nat} {a1 a2 : Value} {b1 : Bool} {t : TypeId} {x : Int} (h : NumAt w (.agg #[u, .bool s]) x) (hb : w.heap[b0]? = some (.cells #[.slice none 0 0, .bool b1] t (0, 0))) :
    NumAt ((w.setCell ⟨b0, 0, none⟩ a1).setCell ⟨b0, 1, none⟩ a2) (.agg #[u, .bool s]) x := by
  obtain ⟨u', s', ds, e, hu, r⟩ := h
  simp only [Value.agg.injEq, Array.mk.injEq, List.cons.injEq, Value.bool.injEq, and_true] at e
  obtain ⟨rfl, rfl⟩ := e
  refine ⟨u, s, ds, rfl, hu.other (b0 := b0) (fun i n e => ?_) (fun k hk => ?_) (by simp [World.setCell]), r⟩
  · simp only [World.cell?, hb] at e
    match i with
    | 0 => simp at e
    | 1 => simp at e
    | i + 2 => simp at e
  · rw [Below.heap_setCell _ _ _ _ (by simpa using hk), Below.heap_setCell _ _ _ _ (by simpa using hk)]

def OfPost (w : World) (a : Int) (e : Ending) (w' : World) : Prop := ∃ v, e = .returned v ∧ NumAt w' v a ∧ Below w.heap.size w w'

theorem u64_not (a : Nat) (ha : a < 18446744073709551616) : bits .xor .u64 IntKind.u64.max (a : Int) = 18446744073709551615 - (a : Int) := by
  show IntKind.u64.wrap ((BitVec.ofInt 64 IntKind.u64.max ^^^ BitVec.ofInt 64 (a : Int)).toNat : Int) = _
  have h1 : BitVec.ofInt 64 IntKind.u64.max = BitVec.allOnes 64 := by decide
  rw [h1, BitVec.allOnes_xor, BitVec.toNat_not, ofInt_u64 a (by omega)]
  simp [IntKind.wrap, IntKind.bits, IntKind.signed]
  omega
theorem neg_mag (a : Int) (h1 : -9223372036854775808 ≤ a) (h2 : a < 0) : IntKind.u64.wrap (bits .xor .u64 IntKind.u64.max (IntKind.u64.wrap a) + 1) = -a := by
  have e : IntKind.u64.wrap a = ((a + 18446744073709551616).toNat : Int) := by rw [IntKind.wrap_u64]; omega
  rw [e, u64_not _ (by omega), IntWalk.u64_in _ (by omega)]
  omega

theorem of_step {out : List Int} {k : Nat} {r m : Int} (hI : val out + 65536 ^ k * r = m) (hl : out.length = k) : val (out ++ [r % 65536]) + 65536 ^ (k + 1) * (r / 65536) = m := by
  rw [val_append, hl, Int.pow_succ]
  simp only [val, Int.mul_zero, Int.add_zero]
  have h1 : 65536 ^ k * (r % 65536) + 65536 ^ k * 65536 * (r / 65536) = 65536 ^ k * r := by
    rw [Int.mul_assoc, ← Int.mul_add]
    congr 1
    have := Int.emod_add_mul_ediv r 65536
    omega
  omega

set_option maxRecDepth 100000 in
set_option maxHeartbeats 2000000 in
theorem of_any (a : Int) (w : World) (h1 : -9223372036854775808 ≤ a) (h2 : a ≤ 9223372036854775807) : Calls Try.prog 14 #[.int .i64 a] w (OfPost w a) := by
  by_cases hneg : a < 0
  · go_enter Try.func14, Try.ntmps14
    go_wp2_with fail
    simp only [neg_mag a h1 hneg]
    have hm0 : 0 < -a := by omega
    have hm1 : -a ≤ 9223372036854775808 := by omega
    go_loopw [3, 4, 5] (fun uv v iv wr => ∃ (k : Nat) (r : Int) (out : List Int), k ≤ 4 ∧ iv = .int .i64 k ∧ uv = .int .u64 r ∧ (0 ≤ r ∧ r ≤ 9223372036854775808) ∧ Asi ((k = 1 → r < 281474976710656) ∧ (k = 2 → r < 4294967296) ∧ (k = 3 → r < 65536) ∧ (k = 4 → r = 0)) ∧ out.length = k ∧ wr.ownsRow (w.heap.size + 1) 77 1 v k (u64s out) ∧ Dig out ∧
      Asi (val out + 65536 ^ k * r = (-a)) ∧ Below (w.heap.size + 1) (w.alloc (Obj.cells #[Value.slice none 0 0, Value.bool false] 39)) wr) (fun _ v iv _ => 4 - (intOf iv).toNat)
    case atStart => exact ⟨0, (-a), [], by omega, rfl, rfl, ⟨by omega, by omega⟩, ⟨by omega, by omega, by omega, by omega⟩, rfl, World.ownsRow_nil .., dig_nil, ⟨by simp [val]⟩, Below.refl _ _⟩
    case round =>
      obtain ⟨k, r, out, hk, rfl, rfl, ⟨hr0, hr1⟩, hR, hlen, hown, dout, hI, hB⟩ := hrel
      have hBs : w.heap.size + 1 ≤ wr.heap.size := by have := hB.size; simp at this; omega
      have ST := Lib.hid (of_step hI.out hlen)
      have HL := Lib.hid hlen
      by_cases hlt : k < 4
      · clear hlen
        go_wp2_with (at_builtin; refine wpList_append1 #[.int .u64 (r % 65536)] rfl _ _ 37 77 (.int .u64 0) 1 8 rfl Try.underlying37 info_u64 rfl (by omega) (by omega) (w.heap.size + 1) _ k (u64s out) rfl rfl (by simp [Value.oneCell']) rfl hown hBs (by omega) ?_; intro v1 w1 hown1 hg1 _)
        go_roundw
        case rel =>
          exact ⟨k + 1, r / 65536, out ++ [r % 65536], by omega, by go_num, rfl, ⟨by omega, by omega⟩, ⟨by have := hR.out; omega, by have := hR.out; omega, by have := hR.out; omega, by have := hR.out; omega⟩, by simp [HL.out], by simpa [u64s] using hown1, dig_append.2 ⟨dout, dig_one.2 (by omega)⟩, ⟨ST.out⟩,
            hB.grown hg1 hBs (fun q hq => own_base' hown q hq)⟩
        case measure => simp [intOf]; omega
      · obtain rfl : k = 4 := by omega
        obtain rfl : r = 0 := hR.out.2.2.2 rfl
        have hv := hI.out
        simp only [Int.mul_zero, Int.add_zero] at hv
        have HV := Lib.hid hv
        have hsl := own_u64s hown hlen (by omega)
        have HSL := hsl
        obtain ⟨A2, c2, e, _⟩ := hsl
        subst e
        rw [hlen] at HSL
        have hn := norm_any A2 out c2 true wr dout (by rw [hlen]; exact HSL)
        rw [hlen] at hn
        have hcell : wr.heap[w.heap.size]? = some (.cells #[Value.slice none 0 0, Value.bool false] 39 (0, 0)) := by
          rw [hB.block _ (by omega)]; exact (MapKept.heap_alloc w _).1
        have HN := Lib.hid hn
        clear hlen hv hn
        go_wp2_with fail
        rw [HL.out]
        refine HN.out.mono ?_
        rintro e w' ⟨v, rfl, hnum, hB'⟩
        obtain ⟨u, s, ds, rfl, hu, hd, ht, hs, hx⟩ := hnum
        have HU := hu
        obtain ⟨A3, c3, rfl, hl3, hu⟩ := hu
        have HS := Lib.hid hs
        have HX := Lib.hid hx
        have hcell2 : w'.heap[w.heap.size]? = some (.cells #[Value.slice none 0 0, Value.bool false] 39 (0, 0)) := by
          rw [hB'.block _ (by omega)]; exact hcell
        clear hu hs hx
        have q0 := cell_at hcell2 0 rfl
        have q1 := cell_at hcell2 1 rfl
        have q2 := frozen_at hcell2 0
        have q3 := frozen_at hcell2 1
        have HC2 := Lib.hid hcell2
        clear hcell hcell2
        go_wp2
        all_goals
          have hx := HX.out
          have hv := HV.out
          refine bodyPost_ret (v := .agg #[.slice A3 ds.length c3, .bool s]) (by simp [results, Try.results14, go_sem, q0, q1]) rfl ⟨_, rfl, ?_, ?_⟩
          · have := NumAt.set2 (a1 := .slice A3 ds.length c3) (a2 := .bool s) (x := signed s ds) ⟨_, s, ds, rfl, HU, hd, ht, HS.out, rfl⟩ HC2.out
            rw [← hx] at this
            simpa [signed, hv] using this
          · have hbB : Below w.heap.size w w' := ((below_alloc' w _).trans (hB.mono (by omega))).trans (hB'.mono (by omega))
            exact (hbB.setCell (p := ⟨w.heap.size, 0, none⟩) (Nat.le_refl _) _).setCell (p := ⟨w.heap.size, 1, none⟩) (Nat.le_refl _) _
  · go_enter Try.func14, Try.ntmps14
    go_wp2_with fail
    go_loopw [3, 4, 5] (fun uv v iv wr => ∃ (k : Nat) (r : Int) (out : List Int), k ≤ 4 ∧ iv = .int .i64 k ∧ uv = .int .u64 r ∧ (0 ≤ r ∧ r ≤ 9223372036854775808) ∧ Asi ((k = 1 → r < 281474976710656) ∧ (k = 2 → r < 4294967296) ∧ (k = 3 → r < 65536) ∧ (k = 4 → r = 0)) ∧ out.length = k ∧ wr.ownsRow (w.heap.size + 1) 77 1 v k (u64s out) ∧ Dig out ∧
      Asi (val out + 65536 ^ k * r = a) ∧ Below (w.heap.size + 1) (w.alloc (Obj.cells #[Value.slice none 0 0, Value.bool false] 39)) wr) (fun _ v iv _ => 4 - (intOf iv).toNat)
    case atStart => exact ⟨0, a, [], by omega, rfl, rfl, ⟨by omega, by omega⟩, ⟨by omega, by omega, by omega, by omega⟩, rfl, World.ownsRow_nil .., dig_nil, ⟨by simp [val]⟩, Below.refl _ _⟩
    case round =>
      obtain ⟨k, r, out, hk, rfl, rfl, ⟨hr0, hr1⟩, hR, hlen, hown, dout, hI, hB⟩ := hrel
      have hBs : w.heap.size + 1 ≤ wr.heap.size := by have := hB.size; simp at this; omega
      have ST := Lib.hid (of_step hI.out hlen)
      have HL := Lib.hid hlen
      by_cases hlt : k < 4
      · clear hlen
        go_wp2_with (at_builtin; refine wpList_append1 #[.int .u64 (r % 65536)] rfl _ _ 37 77 (.int .u64 0) 1 8 rfl Try.underlying37 info_u64 rfl (by omega) (by omega) (w.heap.size + 1) _ k (u64s out) rfl rfl (by simp [Value.oneCell']) rfl hown hBs (by omega) ?_; intro v1 w1 hown1 hg1 _)
        go_roundw
        case rel =>
          exact ⟨k + 1, r / 65536, out ++ [r % 65536], by omega, by go_num, rfl, ⟨by omega, by omega⟩, ⟨by have := hR.out; omega, by have := hR.out; omega, by have := hR.out; omega, by have := hR.out; omega⟩, by simp [HL.out], by simpa [u64s] using hown1, dig_append.2 ⟨dout, dig_one.2 (by omega)⟩, ⟨ST.out⟩,
            hB.grown hg1 hBs (fun q hq => own_base' hown q hq)⟩
        case measure => simp [intOf]; omega
      · obtain rfl : k = 4 := by omega
        obtain rfl : r = 0 := hR.out.2.2.2 rfl
        have hv := hI.out
        simp only [Int.mul_zero, Int.add_zero] at hv
        have HV := Lib.hid hv
        have hsl := own_u64s hown hlen (by omega)
        have HSL := hsl
        obtain ⟨A2, c2, e, _⟩ := hsl
        subst e
        rw [hlen] at HSL
        have hn := norm_any A2 out c2 false wr dout (by rw [hlen]; exact HSL)
        rw [hlen] at hn
        have hcell : wr.heap[w.heap.size]? = some (.cells #[Value.slice none 0 0, Value.bool false] 39 (0, 0)) := by
          rw [hB.block _ (by omega)]; exact (MapKept.heap_alloc w _).1
        have HN := Lib.hid hn
        clear hlen hv hn
        have hneg2 : ¬ a < 0 := by omega
        go_wp2_with fail
        rw [HL.out]
        refine HN.out.mono ?_
        rintro e w' ⟨v, rfl, hnum, hB'⟩
        obtain ⟨u, s, ds, rfl, hu, hd, ht, hs, hx⟩ := hnum
        have HU := hu
        obtain ⟨A3, c3, rfl, hl3, hu⟩ := hu
        have HS := Lib.hid hs
        have HX := Lib.hid hx
        have hcell2 : w'.heap[w.heap.size]? = some (.cells #[Value.slice none 0 0, Value.bool false] 39 (0, 0)) := by
          rw [hB'.block _ (by omega)]; exact hcell
        clear hu hs hx
        have q0 := cell_at hcell2 0 rfl
        have q1 := cell_at hcell2 1 rfl
        have q2 := frozen_at hcell2 0
        have q3 := frozen_at hcell2 1
        have HC2 := Lib.hid hcell2
        clear hcell hcell2
        go_wp2
        all_goals
          have hx := HX.out
          have hv := HV.out
          refine bodyPost_ret (v := .agg #[.slice A3 ds.length c3, .bool s]) (by simp [results, Try.results14, go_sem, q0, q1]) rfl ⟨_, rfl, ?_, ?_⟩
          · have := NumAt.set2 (a1 := .slice A3 ds.length c3) (a2 := .bool s) (x := signed s ds) ⟨_, s, ds, rfl, HU, hd, ht, HS.out, rfl⟩ HC2.out
            rw [← hx] at this
            simpa [signed, hv] using this
          · have hbB : Below w.heap.size w w' := ((below_alloc' w _).trans (hB.mono (by omega))).trans (hB'.mono (by omega))
            exact (hbB.setCell (p := ⟨w.heap.size, 0, none⟩) (Nat.le_refl _) _).setCell (p := ⟨w.heap.size, 1, none⟩) (Nat.le_refl _) _
end Go.Proofs.Ytjljfkioiglaiaa
