/- minus: a size less another one that isn't greater. -/
import Derived.Test.YtjljfkioiglaiaaNum3
set_option linter.unusedVariables false
set_option linter.unusedSimpArgs false
namespace Go.Proofs.Ytjljfkioiglaiaa
open Go.RowKit NumL

theorem field_Num0 (u s : Value) (w : World) : (Instr.field 39 (.agg #[u, s]) 0).run Try.prog w = .ok u w := by kernel_rfl

theorem U64s.drewN {w : World} {v : Value} {ds : List Int} (h : U64s w v ds) (n : Nat) : U64s (w.drewN n) v ds := h
theorem below_drewN' {w W : World} {B : Nat} (h : Below B w W) (n : Nat) : Below B w (W.drewN n) := ⟨h.os, h.tape, h.output, h.size, h.block⟩

theorem minus_step {a b out : List Int} {k : Nat} {c s : Int} (hI : val out - 65536 ^ k * c = val (a.take k) - val (b.take k)) (hl : out.length = k) (hs : s = 65536 + a.getD k 0 - b.getD k 0 - c) :
    val (out ++ [s % 65536]) - 65536 ^ (k + 1) * (1 - s / 65536) = val (a.take (k + 1)) - val (b.take (k + 1)) := by
  rw [take_val_all, take_val_all, val_append, hl, Int.pow_succ]
  simp only [val, Int.mul_zero, Int.add_zero]
  have h1 : 65536 ^ k * (s % 65536) - 65536 ^ k * 65536 * (1 - s / 65536) = 65536 ^ k * (s - 65536) := by
    rw [Int.mul_assoc, ← Int.mul_sub]
    congr 1
    have := Int.emod_add_mul_ediv s 65536
    omega
  have h2 : 65536 ^ k * (s - 65536) = 65536 ^ k * a.getD k 0 - 65536 ^ k * b.getD k 0 - 65536 ^ k * c := by
    rw [hs, show 65536 + a.getD k 0 - b.getD k 0 - c - 65536 = a.getD k 0 - b.getD k 0 - c by omega]
    simp only [Int.mul_sub]
  omega

theorem minus_end {xs ys out : List Int} {c : Int} (dx : Dig xs) (dy : Dig ys) (hl : ys.length ≤ xs.length) (hI : val out - 65536 ^ xs.length * c = val (xs.take xs.length) - val (ys.take xs.length)) (ho : Dig out) (hlen : out.length = xs.length)
    (hc0 : 0 ≤ c) (hc1 : c ≤ 1) (hle : val ys ≤ val xs) : val out = val xs - val ys := by
  rw [List.take_of_length_le (Nat.le_refl _), List.take_of_length_le hl] at hI
  have h1 := val_lt ho
  rw [hlen] at h1
  rcases (show c = 0 ∨ c = 1 by omega) with rfl | rfl
  · omega
  · omega

def MinusPost (w : World) (a b : List Int) (e : Ending) (w' : World) : Prop :=
  ∃ v out, e = .returned v ∧ U64s w' v out ∧ Dig out ∧ Top out ∧ val out = val a - val b ∧ out.length ≤ a.length ∧ Below w.heap.size w w'

set_option maxRecDepth 100000 in
set_option maxHeartbeats 2000000 in
theorem minus_any (A : Option Addr) (xs : List Int) (c : Nat) (B : Option Addr) (ys : List Int) (c' : Nat) (w : World) (ha : U64s w (.slice A xs.length c) xs) (hb : U64s w (.slice B ys.length c') ys) (da : Dig xs) (db : Dig ys)
    (la : xs.length ≤ 1000000) (lb : ys.length ≤ xs.length) (hle : val ys ≤ val xs) :
    Calls Try.prog 32 #[.slice A xs.length c, .slice B ys.length c'] w (MinusPost w xs ys) := by
  have DA := Lib.hid da
  have DB := Lib.hid db
  have HLE := Lib.hid hle
  clear da db hle
  go_enter Try.func32, Try.ntmps32
  go_wp2
  go_loopw [5, 6, 7] (fun v cv iv wr => ∃ (k : Nat) (cc : Int) (out : List Int), k ≤ xs.length ∧ iv = .int .i64 k ∧ cv = .int .u64 cc ∧ (0 ≤ cc ∧ cc ≤ 1) ∧ out.length = k ∧ wr.ownsRow w.heap.size 77 1 v k (u64s out) ∧ Dig out ∧
      Asi (val out - 65536 ^ k * cc = val (xs.take k) - val (ys.take k)) ∧ Below w.heap.size w wr) (fun _ cv iv _ => xs.length - (intOf iv).toNat)
  case atStart => exact ⟨0, 0, [], by omega, rfl, rfl, by omega, rfl, World.ownsRow_nil .., dig_nil, ⟨by simp [val]⟩, Below.refl _ _⟩
  case round =>
    obtain ⟨k, cc, out, hk, rfl, rfl, ⟨hc0, hc1⟩, hlen, hown, dout, hI, hB⟩ := hrel
    have hBs := hB.size
    by_cases hlt : k < xs.length
    · have ha' := ha.below hB
      have hb' := hb.below hB
      have HA := ha'
      obtain ⟨A', ca', e, ⟨hm1, hm2⟩, hu⟩ := ha'
      injection e with e1 e2 e3
      subst e1 e3
      clear e2
      obtain ⟨b, o, rfl, hbl, hcell⟩ := hu (by omega)
      have hc := hcell k hlt
      clear hcell hu HA
      have c2 := fun n => at_any B ys c' k (wr.drewN n) (hb'.drewN n) (by omega)
      have g1 := dig_get DA.out k
      have g2 := dig_get DB.out k
      have HI := hI.out
      have step := fun s hs => minus_step (s := s) HI hlen hs
      generalize xs.getD k 0 = d1 at hc g1 step
      generalize ys.getD k 0 = d2 at c2 g2 step
      have C2 := Lib.hid c2
      have ST := Lib.hid step
      have HL := Lib.hid hlen
      have hi0 : (0 : Int) ≤ (k : Int) := Int.natCast_nonneg _
      have hi1 : (k : Int) < (xs.length : Int) := by omega
      have hq := (show 0 ≤ 65536 + d1 - d2 - cc ∧ 65536 + d1 - d2 - cc ≤ 131071 by omega)
      have s1 : IntKind.u64.wrap (65536 + d1) = 65536 + d1 := IntWalk.u64_in _ (by omega)
      have s2 : IntKind.u64.wrap (65536 + d1 - d2) = 65536 + d1 - d2 := IntWalk.u64_in _ (by omega)
      have s3 : IntKind.u64.wrap (65536 + d1 - d2 - cc) = 65536 + d1 - d2 - cc := IntWalk.u64_in _ (by omega)
      clear c2 step HI hlen
      go_wp2_with fail
      go_quiet ((go_at_call 45; exact Calls.quiet_of_same (C2.out _)))
      clear s1 s2 s3
      generalize hs : 65536 + d1 - d2 - cc = s at hq
      have HS := Lib.hid hs
      clear hs
      obtain ⟨hq0, hq1⟩ := hq
      go_wp2_with (at_builtin; refine wpList_append1 (W := wr.drewN nq) #[.int .u64 (s % 65536)] rfl _ _ 37 77 (.int .u64 0) 1 8 rfl Try.underlying37 info_u64 rfl (by omega) (by omega) w.heap.size _ k (u64s out) rfl rfl (by simp [Value.oneCell']) rfl hown hBs (by omega) ?_; intro v1 w1 hown1 hg1 _)
      go_roundw
      case rel =>
        exact ⟨k + 1, 1 - s / 65536, out ++ [s % 65536], by omega, by go_num, rfl, by omega, by simp [HL.out], by simpa [u64s] using hown1, dig_append.2 ⟨dout, dig_one.2 (by omega)⟩, ⟨ST.out _ HS.out.symm⟩,
          (below_drewN' hB nq).grown hg1 hBs (fun q hq => own_base' hown q hq)⟩
      case measure => simp [intOf]; omega
    · go_wp2_with fail
      obtain rfl : k = xs.length := by omega
      have hv := minus_end DA.out DB.out lb hI.out dout hlen hc0 hc1 HLE.out
      have HV := Lib.hid hv
      have hl2 : out.length ≤ 1000000 := by omega
      have hsl := own_u64s hown hlen (by omega)
      have HSL := hsl
      obtain ⟨A2, c2, e, _⟩ := hsl
      subst e
      rw [hlen] at HSL
      have hn := norm_any A2 out c2 false wr dout (by rw [hlen]; exact HSL)
      rw [hlen] at hn
      have HL := Lib.hid hlen
      clear hlen hv
      rw [HL.out]
      refine hn.mono ?_
      rintro e w' ⟨v, rfl, ⟨u, s, ds, rfl, hu, hd, ht, hs, hx⟩, hB'⟩
      have HU := hu
      obtain ⟨A3, c3, rfl, hl3, hu⟩ := hu
      clear hu
      have HX := Lib.hid hx
      clear hx
      have huN := field_Num0
      go_wp2_with fail
      go_ret
      have hx := HX.out
      have hsf : s = false := by
        cases s
        · rfl
        · exfalso
          have h1 := val_nonneg hd
          have h2 := val_nonneg dout
          have h3 : val ds ≠ 0 := fun h => hs rfl ((val_zero hd ht).1 h)
          simp [signed] at hx
          omega
      subst hsf
      simp only [signed] at hx
      have hB2 := hB.trans (hB'.mono hBs)
      exact ⟨_, ds, rfl, HU, hd, ht, by rw [← HV.out]; simpa using hx.symm, by
        have := len_le hd ht (n := xs.length) (by have h1 := val_lt dout; rw [HL.out] at h1; simp at hx; omega)
        omega, hB2⟩
end Go.Proofs.Ytjljfkioiglaiaa
