/- To: a long number as an int64, and whether it fits. -/
import Derived.Test.YtjljfkioiglaiaaRef3
set_option linter.unusedVariables false
set_option linter.unusedSimpArgs false
namespace Go.Proofs.Ytjljfkioiglaiaa
open Go.RowKit Go.Shelf NumL

def ToPost (w : World) (x : Int) (e : Ending) (w' : World) : Prop := ∃ t, e = .returned (.tuple #[.int .i64 t, .bool (fitsB x)]) ∧ (fitsB x = true → t = x) ∧ Below w.heap.size w w'
theorem val_drop {ds : List Int} {j : Nat} (h : j < ds.length) : val (ds.drop j) = ds.getD j 0 + 65536 * val (ds.drop (j + 1)) := by
  rw [List.drop_eq_getElem_cons h]
  simp [val, List.getD, h]
theorem val_drop_lt {ds : List Int} (hd : Dig ds) (h4 : ds.length ≤ 4) (j : Nat) : 0 ≤ val (ds.drop j) ∧ val (ds.drop j) < 65536 ^ (4 - j) := by
  have hd' : Dig (ds.drop j) := fun d h => hd d (List.mem_of_mem_drop h)
  refine ⟨val_nonneg hd', Int.lt_of_lt_of_le (val_lt hd') (pow_le ?_)⟩
  rw [List.length_drop]; omega
theorem to_neg {U : Int} (h0 : 0 < U) (h1 : U ≤ 9223372036854775808) : wrap64 (IntKind.u64.wrap (bits .xor .u64 IntKind.u64.max U + 1)) = -U := by
  obtain ⟨n, rfl⟩ := Int.eq_ofNat_of_zero_le (by omega : 0 ≤ U)
  rw [u64_not n (by omega), IntKind.wrap_u64]
  unfold RowKit.wrap64
  omega

set_option maxRecDepth 100000 in
set_option maxHeartbeats 4000000 in
theorem to_any (v : Value) (x : Int) (w : World) (h : NumAt w v x) : Calls Try.prog 37 #[v] w (ToPost w x) := by
  obtain ⟨u, s, ds, rfl, ⟨A, c, rfl, hl, hcell⟩, hd, ht, hs, rfl⟩ := h
  have HC := Lib.hid hcell
  have HD := Lib.hid hd
  have HT := Lib.hid ht
  have HS := Lib.hid hs
  clear hcell hd ht hs
  have HF : Hid (∀ r t, r = fitsB (signed s ds) → (fitsB (signed s ds) = true → t = signed s ds) → ∀ w', Below w.heap.size w w' → ToPost w (signed s ds) (.returned (.tuple #[.int .i64 t, .bool r])) w') := fun r t h1 h2 w' h3 => ⟨t, by rw [h1], h2, h3⟩
  by_cases h4 : 4 < ds.length
  · have h4' : (4 : Int) < ds.length := by omega
    go_enter Try.func37, Try.ntmps37
    go_wp2_with fail
    go_ret2
    have hv := val_top_ge HD.out HT.out (by intro e; simp [e] at h4)
    have hp : (65536 : Int) ^ 4 ≤ 65536 ^ (ds.length - 1) := pow_le (by omega)
    have hf : fitsB (signed s ds) = false := by
      rw [← Bool.not_eq_true, fitsB_iff]
      unfold I64 signed
      split <;> omega
    exact HF.out _ _ hf.symm (fun h => by rw [hf] at h; cases h) _ (below_alloc' w _)
  · have h4' : ¬ (4 : Int) < ds.length := by omega
    go_enter Try.func37, Try.ntmps37
    go_wp2_with fail
    go_loop [4, 5] (fun uv iv => ∃ (j : Nat) (z U : Int), j ≤ ds.length ∧ iv = .int .i64 z ∧ uv = .int .u64 U ∧ (-1 ≤ z ∧ z ≤ 4) ∧ (0 ≤ U ∧ U ≤ 18446744073709551615) ∧ Asi (z = j - 1 ∧ U = val (ds.drop j))) (fun _ iv => (intOf iv + 1).toNat)
    case atStart => exact ⟨ds.length, ds.length - 1, 0, by omega, by go_num, rfl, by omega, by omega, ⟨rfl, by simp [val]⟩⟩
    case round =>
      obtain ⟨j, z, U, hj, rfl, rfl, ⟨hz0, hz1⟩, ⟨hU0, hU1⟩, hI⟩ := hrel
      by_cases hp : 0 < j
      · obtain ⟨i, rfl⟩ : ∃ i, j = i + 1 := ⟨j - 1, by omega⟩
        obtain rfl : z = i := by have := hI.out.1; omega
        obtain ⟨b, o, rfl, hb, hcc⟩ := HC.out (by omega)
        have g := ((below_alloc' w (Obj.cells #[Value.slice (some ⟨b, o, none⟩) ds.length c, Value.bool s] 39)).cell (p := ⟨b, o + i, none⟩) hb).trans (hcc i (by omega))
        have hdd := dig_get HD.out i
        have hvd := val_drop (ds := ds) (j := i) (by omega)
        have hlt := val_drop_lt HD.out (by omega) (i + 1)
        have hpw : (65536 : Int) ^ (4 - (i + 1)) ≤ 65536 ^ 3 := pow_le (by omega)
        have hU := hI.out.2
        rw [← hU] at hvd hlt
        generalize ds.getD i 0 = d at g hdd hvd
        obtain ⟨hd0, hd1⟩ := hdd
        have hb3 : U ≤ 281474976710655 := by have : (65536 : Int) ^ 3 = 281474976710656 := by decide
                                             omega
        have m1 : IntKind.u64.wrap (U * 65536) = U * 65536 := IntWalk.u64_in _ (by omega)
        have m2 : IntKind.u64.wrap (U * 65536 + d) = U * 65536 + d := IntWalk.u64_in _ (by omega)
        have hi0 : (0 : Int) ≤ i := by omega
        have hi1 : (i : Int) < ds.length := by omega
        have HV := Lib.hid hvd
        clear hcc hvd hlt hpw hU
        go_wp2_with fail
        go_round
        case rel => exact ⟨i, i - 1, U * 65536 + d, by omega, by go_num, by go_num, by omega, by omega, ⟨rfl, by rw [HV.out]; omega⟩⟩
        case measure => simp [intOf]
      · obtain rfl : j = 0 := by omega
        have hU := hI.out.2
        obtain rfl : z = -1 := by have := hI.out.1; omega
        rw [List.drop_zero] at hU
        have HU := Lib.hid hU
        clear hU
        cases s
        · by_cases hbig : U < 9223372036854775808
          · have hw : wrap64 U = U := IntWalk.wrap64_in _ (by omega)
            go_wp2_with fail
            go_ret2
            have hf : fitsB (signed false ds) = true := fitsB_iff.2 (by unfold I64 signed; rw [if_neg (by decide), ← HU.out]; omega)
            exact HF.out _ _ hf.symm (fun _ => by rw [signed, if_neg (by decide)]; exact HU.out) _ (below_alloc' w _)
          · go_wp2_with fail
            go_ret2
            have hf : fitsB (signed false ds) = false := by
              rw [← Bool.not_eq_true, fitsB_iff]
              unfold I64 signed
              rw [if_neg (by decide), ← HU.out]
              omega
            exact HF.out _ _ hf.symm (fun h => by rw [hf] at h; cases h) _ (below_alloc' w _)
        · have hpos : 0 < U := by
            have hn := HS.out rfl
            have := val_zero HD.out HT.out
            have h0 : val ds ≠ 0 := fun e => hn (this.1 e)
            have := HU.out
            omega
          by_cases hbig : U ≤ 9223372036854775808
          · have hng := to_neg hpos hbig
            go_wp2_with fail
            go_ret2
            have hf : fitsB (signed true ds) = true := fitsB_iff.2 (by unfold I64 signed; rw [if_pos rfl, ← HU.out]; omega)
            exact HF.out _ _ hf.symm (fun _ => by rw [signed, if_pos rfl, ← HU.out]) _ (below_alloc' w _)
          · go_wp2_with fail
            go_ret2
            have hf : fitsB (signed true ds) = false := by
              rw [← Bool.not_eq_true, fitsB_iff]
              unfold I64 signed
              rw [if_pos rfl, ← HU.out]
              omega
            exact HF.out _ _ hf.symm (fun h => by rw [hf] at h; cases h) _ (below_alloc' w _)
end Go.Proofs.Ytjljfkioiglaiaa
