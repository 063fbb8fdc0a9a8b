/- cents.Sum; whether lines sum to 0. -/
import Derived.Test.YtjljfkioiglaiaaLines
set_option linter.unusedVariables false
set_option linter.unusedSimpArgs false
namespace Go.Proofs.Ytjljfkioiglaiaa
open Go.RowKit Go.Shelf

theorem info_i64 : (Try.prog.info? 2).map (fun i => (i.zero, i.size, i.bytes)) = some (some (.int .i64 0), 1, 8) := by kernel_rfl

/-- A slice of amounts that reads as zs. -/
def I64s (w : World) (v : Value) (zs : List Int) : Prop :=
  ∃ A c, v = .slice A zs.length c ∧ (zs.length ≤ c ∧ zs.length ≤ 140737488351232) ∧ (∀ x ∈ zs, I64 x) ∧ (0 < zs.length → ∃ b o, A = some ⟨b, o, none⟩ ∧ b < w.heap.size ∧ ∀ j x, zs[j]? = some x → w.cell? ⟨b, o + j, none⟩ = some (.int .i64 x))
theorem I64s.below {w w1 : World} {v : Value} {zs : List Int} (h : I64s w v zs) (hb : Below w.heap.size w w1) : I64s w1 v zs := by
  obtain ⟨A, c, e, hm, hok, h⟩ := h
  refine ⟨A, c, e, hm, hok, fun hp => ?_⟩
  obtain ⟨b, o, e, hlt, hc⟩ := h hp
  exact ⟨b, o, e, Nat.lt_of_lt_of_le hlt hb.size, fun j x hj => (hb.cell (p := ⟨b, o + j, none⟩) hlt).trans (hc j x hj)⟩

theorem add64_any (x y c : Int) (w : World) (hx : 0 ≤ x) (hy : 0 ≤ y) (hc : 0 ≤ c ∧ c ≤ 1) : (callFunc 49 #[.int .u64 x, .int .u64 y, .int .u64 c]).run Try.prog w = .ok (.value (.tuple #[.int .u64 ((x + y + c) % 18446744073709551616), .int .u64 ((x + y + c) / 18446744073709551616)])) w := by
  obtain ⟨x, rfl⟩ := Int.eq_ofNat_of_zero_le hx
  obtain ⟨y, rfl⟩ := Int.eq_ofNat_of_zero_le hy
  rcases (show c = 0 ∨ c = 1 by omega) with rfl | rfl
  · kernel_rfl
  · kernel_rfl

def sums (zs : List Int) : Int := zs.foldl (· + ·) 0
def fitsB (s : Int) : Bool := decide (-9223372036854775808 ≤ s) && decide (s ≤ 9223372036854775807)
def SumPost (w : World) (zs : List Int) (e : Ending) (w' : World) : Prop :=
  e = .returned (.tuple #[.int .i64 (if fitsB (sums zs) then sums zs else 0), if fitsB (sums zs) then .nilIface else .iface 55 (.int .i64 3)]) ∧ w' = w

theorem sums_snoc (zs : List Int) (k : Nat) (x : Int) (h : zs[k]? = some x) : sums (zs.take (k + 1)) = sums (zs.take k) + x := by
  have hlt := (List.getElem?_eq_some_iff.1 h).1
  rw [List.take_succ_eq_append_getElem hlt]
  unfold sums
  rw [List.foldl_append]
  have : zs[k] = x := (List.getElem?_eq_some_iff.1 h).2
  simp [this]
theorem sum_step {S lo hi x X s2 L C : Int} (h : lo = S % 18446744073709551616 ∧ hi = S / 18446744073709551616 % 18446744073709551616) (hx0 : -9223372036854775808 ≤ x) (hx1 : x ≤ 9223372036854775807) (hX : X = IntKind.u64.wrap x) (hs : s2 = IntKind.u64.wrap (x / 9223372036854775808))
    (hL : L = (lo + X + 0) % 18446744073709551616) (hC : C = (lo + X + 0) / 18446744073709551616) :
    L = (S + x) % 18446744073709551616 ∧ (hi + s2 + C) % 18446744073709551616 = (S + x) / 18446744073709551616 % 18446744073709551616 := by
  rw [IntKind.wrap_u64] at hX hs
  obtain ⟨h1, h2⟩ := h
  by_cases hn : x < 0
  · have e1 : x / 9223372036854775808 = -1 := by omega
    rw [e1] at hs
    have e2 : X = x + 18446744073709551616 := by omega
    omega
  · have e1 : x / 9223372036854775808 = 0 := by omega
    rw [e1] at hs
    have e2 : X = x := by omega
    omega
theorem sum_end {S lo hi : Int} (h : lo = S % 18446744073709551616 ∧ hi = S / 18446744073709551616 % 18446744073709551616) (h0 : -9223372036854775808000 ≤ S) (h1 : S ≤ 9223372036854775808000) :
    ((hi != IntKind.u64.wrap (wrap64 lo / 9223372036854775808)) = true → fitsB S = false) ∧ ((hi != IntKind.u64.wrap (wrap64 lo / 9223372036854775808)) = false → fitsB S = true ∧ wrap64 lo = S) := by
  obtain ⟨h2, h3⟩ := h
  rw [IntKind.wrap_u64]
  simp only [bne_iff_ne, bne_eq_false_iff_eq, fitsB]
  have hw : wrap64 lo = (if lo < 9223372036854775808 then lo else lo - 18446744073709551616) := by unfold wrap64; split <;> omega
  rw [hw]
  split <;> constructor <;> intro h <;> simp <;> omega
theorem sums_bound (zs : List Int) (h : ∀ x ∈ zs, I64 x) : -(9223372036854775808 * zs.length) ≤ sums zs ∧ sums zs ≤ 9223372036854775808 * zs.length := by
  have aux : ∀ (l : List Int) (a : Int), (∀ x ∈ l, I64 x) → a - 9223372036854775808 * l.length ≤ l.foldl (· + ·) a ∧ l.foldl (· + ·) a ≤ a + 9223372036854775808 * l.length := by
    intro l
    induction l with
    | nil => intro a _; simp
    | cons x l ih =>
      intro a hl
      have hx := hl x (List.mem_cons_self ..)
      have := ih (a + x) (fun y hy => hl y (List.mem_cons_of_mem _ hy))
      unfold I64 at hx
      simp only [List.foldl_cons, List.length_cons]
      push_cast
      omega
  have := aux zs 0 h
  unfold sums
  omega

set_option maxRecDepth 100000 in
set_option maxHeartbeats 4000000 in
theorem sum_any (v : Value) (zs : List Int) (w : World) (hz : I64s w v zs) (hl : zs.length ≤ 1000) : Calls Try.prog 42 #[v] w (SumPost w zs) := by
  obtain ⟨A, c, rfl, ⟨hlc, hm⟩, hok, hc⟩ := hz
  have HC := Lib.hid hc
  have HOK := Lib.hid hok
  clear hc hok
  have ADD := Lib.hid add64_any
  go_enter Try.func42, Try.ntmps42
  go_wp2_with fail
  go_loop [4, 5, 7, 8, 12] (fun hv lv _ _ iv => ∃ (k : Nat) (hi lo : Int), k ≤ zs.length ∧ iv = .int .i64 k ∧ hv = .int .u64 hi ∧ lv = .int .u64 lo ∧ (0 ≤ hi ∧ hi ≤ 18446744073709551615 ∧ 0 ≤ lo ∧ lo ≤ 18446744073709551615) ∧
      Asi (lo = sums (zs.take k) % 18446744073709551616 ∧ hi = sums (zs.take k) / 18446744073709551616 % 18446744073709551616)) (fun _ _ _ _ iv => zs.length - (intOf iv).toNat)
  case atStart => exact ⟨0, 0, 0, by omega, rfl, rfl, rfl, by omega, ⟨by simp [sums]⟩⟩
  case round =>
    obtain ⟨k, hi, lo, hk, rfl, rfl, rfl, ⟨hi0, hi1, lo0, lo1⟩, hI⟩ := hrel
    by_cases hlt : k < zs.length
    · obtain ⟨b, o, rfl, hb, hcell⟩ := HC.out (by omega)
      obtain ⟨x, hx⟩ : ∃ x, zs[k]? = some x := ⟨_, List.getElem?_eq_getElem hlt⟩
      have h0 := hcell k x hx
      have hxok := HOK.out x (List.mem_of_getElem? hx)
      have HX := Lib.hid hx
      clear hcell hx
      obtain ⟨hx0, hx1⟩ := hxok
      have hX0 : 0 ≤ IntKind.u64.wrap x ∧ IntKind.u64.wrap x ≤ 18446744073709551615 := by rw [IntKind.wrap_u64]; omega
      have ad1 := fun w => add64_any lo (IntKind.u64.wrap x) 0 w lo0 hX0.1 (by omega)
      obtain ⟨L, hL⟩ : ∃ L, L = (lo + IntKind.u64.wrap x + 0) % 18446744073709551616 := ⟨_, rfl⟩
      obtain ⟨C, hC⟩ : ∃ C, C = (lo + IntKind.u64.wrap x + 0) / 18446744073709551616 := ⟨_, rfl⟩
      rw [← hL, ← hC] at ad1
      have hC0 : 0 ≤ C ∧ C ≤ 1 := by omega
      have hL0 : 0 ≤ L ∧ L ≤ 18446744073709551615 := by omega
      have HL := Lib.hid hL
      have HCC := Lib.hid hC
      clear hL hC hX0
      obtain ⟨s2, hs2⟩ : ∃ s2, s2 = IntKind.u64.wrap (x / 9223372036854775808) := ⟨_, rfl⟩
      have hs0 : 0 ≤ s2 ∧ s2 ≤ 18446744073709551615 := by rw [hs2, IntKind.wrap_u64]; omega
      have ad2 := fun w => add64_any hi s2 C w hi0 hs0.1 hC0
      rw [hs2] at ad2
      obtain ⟨H, hH⟩ : ∃ H, H = (hi + IntKind.u64.wrap (x / 9223372036854775808) + C) % 18446744073709551616 := ⟨_, rfl⟩
      rw [← hH] at ad2
      have hH0 : 0 ≤ H ∧ H ≤ 18446744073709551615 := by omega
      have HH := Lib.hid hH
      clear hH hs0 hs2
      go_wp2_with fail
      go_round
      case rel =>
        have st := sum_step (x := x) hI.out hx0 hx1 rfl rfl HL.out HCC.out
        exact ⟨k + 1, H, L, by omega, by go_num, rfl, rfl, ⟨hH0.1, hH0.2, hL0.1, hL0.2⟩, ⟨by rw [sums_snoc _ _ _ HX.out]; exact st.1, by rw [sums_snoc _ _ _ HX.out, HH.out]; exact st.2⟩⟩
      case measure => simp [intOf]; omega
    · have hS := hI.out
      rw [List.take_of_length_le (by omega)] at hS
      have hb := sums_bound zs HOK.out
      have HE := Lib.hid (sum_end hS (by omega) (by omega))
      clear hS hb
      go_wp2_with fail
      all_goals go_ret2
      · have h := HE.out.1 (by assumption)
        exact ⟨by rw [h]; rfl, rfl⟩
      · have h := HE.out.2 (by assumption)
        exact ⟨by rw [h.1, ← h.2]; rfl, rfl⟩

/-- Do lines sum to 0? -/
def zeroB (l : List Ln) : Bool := decide (sums (l.map (·.f1)) = 0)

def i64s (zs : List Int) : List Value := zs.map (Value.int .i64)
theorem own_i64s {w : World} {base : Nat} {v : Value} {n : Nat} {zs : List Int} (h : w.ownsRow base 2 1 v n (i64s zs)) (hl : zs.length = n) (hm : n ≤ 140737488351232) (hok : ∀ x ∈ zs, I64 x) : I64s w v zs := by
  rcases h.2 with ⟨rfl, h0⟩ | ⟨g, cap, cur, rfl, hb, hh, h1, h2, h3, h4⟩
  · have : zs = [] := List.eq_nil_of_length_eq_zero (by omega)
    subst this
    exact ⟨none, 0, rfl, ⟨by simp, by simp⟩, hok, fun h => absurd h (by simp)⟩
  · refine ⟨_, cap, by rw [hl], ⟨by omega, by omega⟩, hok, fun _ => ⟨g, 0, rfl, (Array.getElem?_eq_some_iff.1 hh).1, fun j x hj => ?_⟩⟩
    have := h.cells (g := g) rfl j (.int .i64 x) (by simp [i64s, hj])
    have ha : (⟨g, 0, none⟩ : Addr).add j = ⟨g, 0 + j, none⟩ := by unfold Addr.add; split <;> simp_all
    rwa [ha] at this

set_option maxRecDepth 100000 in
set_option maxHeartbeats 4000000 in
theorem zero_any (v : Value) (l : List Ln) (w : World) (hl : LinesAt w v l) (h32 : l.length ≤ 1000) :
    Calls Try.prog 23 #[v] w fun e w' => e = .returned (.bool (zeroB l)) ∧ Below w.heap.size w w' := by
  have HF : Hid (∀ b, b = zeroB l → Ending.returned (.bool b) = .returned (.bool (zeroB l))) := fun b h => by rw [h]
  obtain ⟨A, c, rfl, ⟨hlc, hm⟩, hok, hc⟩ := hl
  have HC := Lib.hid hc
  have HOK := Lib.hid hok
  clear hc hok
  go_enter Try.func23, Try.ntmps23
  go_wp2_with fail
  go_loopw [3, 5, 10] (fun v _ iv wr => ∃ (k : Nat), k ≤ l.length ∧ iv = .int .i64 k ∧ wr.ownsRow w.heap.size 2 1 v k (i64s ((l.take k).map (·.f1))) ∧ Below w.heap.size w wr) (fun _ _ iv _ => l.length - (intOf iv).toNat)
  case atStart => exact ⟨0, by omega, rfl, World.ownsRow_nil .., Below.refl _ _⟩
  case round =>
    obtain ⟨k, hk, rfl, hown, hB⟩ := hrel
    have hBs := hB.size
    by_cases hlt : k < l.length
    · obtain ⟨b, o, rfl, hb, hcell⟩ := HC.out (by omega)
      obtain ⟨x, hx⟩ : ∃ x, l[k]? = some x := ⟨_, List.getElem?_eq_getElem hlt⟩
      obtain ⟨h0, h1, h2⟩ := hcell k x hx
      have g0 := (hB.cell (p := ⟨b, o + k * 3, none⟩) hb).trans h0
      have g1 := (hB.cell (p := ⟨b, o + k * 3 + 1, none⟩) hb).trans h1
      have g2 := (hB.cell (p := ⟨b, o + k * 3 + 2, none⟩) hb).trans h2
      have HX := Lib.hid hx
      clear h0 h1 h2 hcell hx
      go_wp2_with (at_builtin; refine wpList_append1' #[.int .i64 x.f1] rfl _ _ 87 2 (.int .i64 0) 1 8 rfl Try.underlying87 info_i64 rfl (by omega) (by omega) w.heap.size _ k (i64s ((l.take k).map (·.f1))) _ rfl rfl (by simp) (by simp [Value.oneCell']) rfl (hown.alloc _) (by simp; omega) (by omega) ?_; intro v1 w1 hown1 hg1 _)
      go_roundw
      case rel =>
        refine ⟨k + 1, by omega, by go_num, ?_, ?_⟩
        · have e : (l.take (k + 1)).map (·.f1) = (l.take k).map (·.f1) ++ [x.f1] := by
            rw [List.take_succ_eq_append_getElem hlt, List.map_append]
            have : l[k] = x := (List.getElem?_eq_some_iff.1 HX.out).2
            simp [this]
          rw [e]
          simpa [i64s] using hown1
        · exact (hB.alloc hBs _).grown hg1 (by simp; omega) (fun q hq => own_base' hown q hq)
      case measure => simp [intOf]; omega
    · obtain rfl : k = l.length := by omega
      have hz : I64s wr _ ((l.take l.length).map (·.f1)) := own_i64s hown (by simp) (by omega) (fun y hy => by
        obtain ⟨x, hx, rfl⟩ := List.mem_map.1 hy
        exact (HOK.out x (List.mem_of_mem_take hx)).2.2)
      rw [List.take_of_length_le (Nat.le_refl _)] at hz
      have hsum := sum_any _ _ wr hz (by simpa using h32)
      have HS := Lib.hid hsum
      have HZ : Hid (zeroB l = decide (sums (l.map (·.f1)) = 0)) := rfl
      have hfit : sums (l.map (·.f1)) = 0 → fitsB (sums (l.map (·.f1))) = true := fun h => by rw [h]; rfl
      have HFIT := Lib.hid hfit
      clear hsum hz hfit
      unfold SumPost at HS
      generalize sums (l.map (·.f1)) = S at HS HZ HFIT
      generalize hft : fitsB S = ft at HS HFIT
      clear hft
      go_wp2_with fail
      refine HS.out.mono ?_
      rintro e w' ⟨rfl, rfl⟩
      cases ft
      · go_wp2_with fail
        go_ret
        exact ⟨HF.out _ (by rw [HZ.out]; symm; rw [decide_eq_false_iff_not]; intro h; have := HFIT.out h; simp at this), hB⟩
      · go_wp2_with fail
        go_ret
        exact ⟨HF.out _ (by rw [HZ.out]; rw [Bool.eq_iff_iff]; simp), hB⟩
end Go.Proofs.Ytjljfkioiglaiaa
