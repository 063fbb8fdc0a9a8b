/- Turned; To. -/
import Derived.Test.YtjljfkioiglaiaaRef2
import Derived.Deep.RegionLaw
set_option linter.unusedVariables false
set_option linter.unusedSimpArgs false
namespace Go.Proofs.Ytjljfkioiglaiaa
open Go.RowKit Go.Shelf NumL

theorem own_lines' {w : World} {base : Nat} {v : Value} {l : List Ln} (h : w.ownsRow base 43 3 v l.length (lcells l)) (hm : l.length ≤ 140737488351232) (hok : ∀ x ∈ l, LnOk x) : OwnLines w v l := own_lines h rfl hm hok
theorem turn_ok {l : List Ln} (h : ∀ x ∈ l, LnOk x) : ∀ x ∈ turnL l, LnOk x := by
  intro x hx
  obtain ⟨y, hy, rfl⟩ := List.mem_map.1 hx
  have := h y hy
  refine ⟨this.1, this.2.1, ?_⟩
  unfold negL I64 RowKit.wrap64
  dsimp only
  omega

def TurnPost (w : World) (l : List Ln) (e : Ending) (w' : World) : Prop := ∃ v, e = .returned v ∧ OwnLines w' v (turnL l) ∧ Below w.heap.size w w' ∧ ∀ k, v.ownBlock = some k → w.heap.size ≤ k

set_option maxRecDepth 100000 in
set_option maxHeartbeats 4000000 in
theorem turned_any (v : Value) (l : List Ln) (w : World) (hl : LinesAt w v l) (h32 : l.length ≤ 1000) :
    Calls Try.prog 46 #[v] w (TurnPost w l) := by
  obtain ⟨A, c, rfl, ⟨hlc, hm⟩, hok, hc⟩ := hl
  have HC := Lib.hid hc
  have HOK := Lib.hid hok
  clear hc hok
  go_enter Try.func46, Try.ntmps46
  go_wp2_with fail
  go_loopw [3, 4] (fun v iv wr => ∃ (k : Nat), k ≤ l.length ∧ iv = .int .i64 k ∧ wr.ownsRow w.heap.size 43 3 v k (lcells ((turnL l).take k)) ∧ Below w.heap.size w wr) (fun _ iv _ => l.length - (intOf iv).toNat)
  case atStart => exact ⟨0, by omega, rfl, World.ownsRow_nil .., Below.refl _ _⟩
  case round =>
    obtain ⟨k, hk, rfl, hown, hB⟩ := hrel
    have hBs := hB.size
    by_cases hlt : k < l.length
    · obtain ⟨b, o, rfl, hb, hcell⟩ := HC.out (by omega)
      obtain ⟨x, hx⟩ : ∃ x, l[k]? = some x := ⟨_, List.getElem?_eq_getElem hlt⟩
      obtain ⟨h0, h1, h2⟩ := hcell k x hx
      have g0 := (hB.cell (p := ⟨b, o + k * 3, none⟩) hb).trans h0
      have g1 := (hB.cell (p := ⟨b, o + k * 3 + 1, none⟩) hb).trans h1
      have g2 := (hB.cell (p := ⟨b, o + k * 3 + 2, none⟩) hb).trans h2
      have HX := Lib.hid hx
      obtain ⟨A3, c3, rfl⟩ := own_form hown
      have HO := Lib.hid hown
      clear h0 h1 h2 hcell hx hown
      have hk0 : (0 : Int) ≤ k := by omega
      have hk1 : (k : Int) < l.length := by omega
      go_wp2_with fail
      go_region_law
        (first
          | (refine oper_append1 rfl _ #[.int .i64 x.f0.f0, .int .i64 x.f0.f1, .int .i64 (IntKind.i64.wrap (-x.f1))] _ _ 28 43 (.agg #[.int .i64 0, .int .i64 0, .int .i64 0]) 3 24 rfl Try.underlying28 info_line rfl (by omega) (by omega) w.heap.size (.slice A3 k c3) k (lcells ((turnL l).take k)) wr.heap.size rfl rfl (get_new _ _) (by simp [Value.oneCell']) rfl ((own_kept HO.out (fun _ _ _ => rfl)).alloc _) (by simp; omega) (by omega) ?_; intro v1 w1 hown1 hg1 _))
      all_goals (
        go_wp2
        go_roundw
        case rel =>
          refine ⟨k + 1, by omega, by go_num, ?_, ?_⟩
          · have e : (turnL l).take (k + 1) = (turnL l).take k ++ [negL x] := by
              have hk' : (turnL l)[k]? = some (negL x) := by simp [turnL, HX.out]
              have hlt' := (List.getElem?_eq_some_iff.1 hk').1
              rw [List.take_succ_eq_append_getElem hlt', (List.getElem?_eq_some_iff.1 hk').2]
            rw [e]
            simpa [lcells, Ln.cells, negL, IntWalk.i64_left] using hown1
          · exact (below_drewN' (hB.alloc hBs _) 1).grown hg1 (by simp [World.drewN]; omega) (fun q hq => own_base' HO.out q hq)
        case measure => simp [intOf]; omega)
    · obtain rfl : k = l.length := by omega
      have hlen : (turnL l).length = l.length := by simp [turnL]
      rw [List.take_of_length_le (by omega), ← hlen] at hown
      have hO := own_lines' hown (by omega) (turn_ok HOK.out)
      have hlt := hown.lt
      have HO := Lib.hid hO
      have HL := Lib.hid hlt
      clear hown hO hlt
      go_wp2_with fail
      go_ret
      exact ⟨_, rfl, HO.out, hB, fun k hk => (HL.out k hk).1⟩
end Go.Proofs.Ytjljfkioiglaiaa
