/- chart.Less, and the closure by which Trial sorts. -/
import Derived.Test.YtjljfkioiglaiaaRev
import Derived.Shelf.SlSortCmp.InsertionK
set_option linter.unusedVariables false
set_option linter.unusedSimpArgs false
namespace Go.Proofs.Ytjljfkioiglaiaa
open Go.RowKit Go.Shelf Go.Lib Go.Sort

def lessB (a b : Acc) : Bool := decide (a.f0 < b.f0) || (decide (a.f0 = b.f0) && decide (a.f1 < b.f1))
def cmpL (x y : Ln) : Int := if lessB x.f0 y.f0 then -1 else 1

set_option maxHeartbeats 2000000 in
theorem cless_any (a b c d : Int) (w : World) : Calls Try.prog 28 #[.agg #[.int .i64 a, .int .i64 b], .agg #[.int .i64 c, .int .i64 d]] w fun e w' => e = .returned (.bool (lessB ⟨a, b⟩ ⟨c, d⟩)) ∧ ∃ os, w' = grow w os := by
  have HF : Hid (∀ r, r = lessB ⟨a, b⟩ ⟨c, d⟩ → Ending.returned (.bool r) = .returned (.bool (lessB ⟨a, b⟩ ⟨c, d⟩))) := fun b h => by rw [h]
  rcases (show a < c ∨ a = c ∨ c < a by omega) with h | h | h
  · go_enter Try.func28, Try.ntmps28
    go_wp2
    go_ret
    exact ⟨HF.out _ (by simp [lessB, h]), _, by rw [alloc_eq_grow, alloc_eq_grow, grow_grow]⟩
  · subst h
    have h0 : ¬ a < a := by omega
    go_enter Try.func28, Try.ntmps28
    go_wp2
    go_ret
    exact ⟨HF.out _ (by simp [lessB]), _, by rw [alloc_eq_grow, alloc_eq_grow, grow_grow]⟩
  · have h0 : ¬ a < c := by omega
    have h1 : (a == c) = false := beq_eq_false_iff_ne.2 (by omega)
    go_enter Try.func28, Try.ntmps28
    go_wp2
    go_ret
    exact ⟨HF.out _ (by simp [lessB, h0]; omega), _, by rw [alloc_eq_grow, alloc_eq_grow, grow_grow]⟩

set_option maxHeartbeats 2000000 in
theorem closure_any (x y : Ln) (w : World) : Calls Try.prog 27 #[.agg #[.int .i64 x.f0.f0, .int .i64 x.f0.f1, .int .i64 x.f1], .agg #[.int .i64 y.f0.f0, .int .i64 y.f0.f1, .int .i64 y.f1]] w fun e w' => e = .returned (.int .i64 (cmpL x y)) ∧ ∃ q os', w' = grow (w.drewN q) os' := by
  obtain ⟨⟨a, b⟩, m⟩ := x
  obtain ⟨⟨c, d⟩, n⟩ := y
  have hL := fun W => cless_any a b c d W
  have HF : Hid (∀ r, r = cmpL ⟨⟨a, b⟩, m⟩ ⟨⟨c, d⟩, n⟩ → Ending.returned (.int .i64 r) = .returned (.int .i64 (cmpL ⟨⟨a, b⟩, m⟩ ⟨⟨c, d⟩, n⟩))) := fun b h => by rw [h]
  cases h : lessB ⟨a, b⟩ ⟨c, d⟩
  · have HH : Hid (cmpL ⟨⟨a, b⟩, m⟩ ⟨⟨c, d⟩, n⟩ = 1) := by unfold cmpL; simp only [h]; rfl
    rw [h] at hL
    have LL := Lib.hid hL
    clear hL h
    go_enter Try.func27, Try.ntmps27
    go_wp2_with (go_at_call 28; refine (LL.out _).mono ?_; rintro e w1 ⟨rfl, os, rfl⟩)
    go_ret
    exact ⟨HF.out _ HH.out.symm, 0, _, by rw [alloc_eq_grow, alloc_eq_grow, grow_grow, grow_grow]; rfl⟩
  · have HH : Hid (cmpL ⟨⟨a, b⟩, m⟩ ⟨⟨c, d⟩, n⟩ = -1) := by unfold cmpL; simp only [h]; rfl
    rw [h] at hL
    have LL := Lib.hid hL
    clear hL h
    go_enter Try.func27, Try.ntmps27
    go_wp2_with (go_at_call 28; refine (LL.out _).mono ?_; rintro e w1 ⟨rfl, os, rfl⟩)
    go_ret
    exact ⟨HF.out _ HH.out.symm, 0, _, by rw [alloc_eq_grow, alloc_eq_grow, grow_grow, grow_grow]; rfl⟩

theorem ltOf_cmpL (x y : Ln) : ltOf cmpL x y = lessB x.f0 y.f0 := by
  unfold ltOf cmpL
  cases lessB x.f0 y.f0 <;> rfl
theorem lessB_iff (a b : Acc) : lessB a b = true ↔ a.f0 < b.f0 ∨ (a.f0 = b.f0 ∧ a.f1 < b.f1) := by simp [lessB]
theorem swo_cmpL : SWO (ltOf cmpL) where
  irrefl x := by
    rw [ltOf_cmpL, ← Bool.not_eq_true, lessB_iff]; omega
  trans x y z h1 h2 := by
    rw [ltOf_cmpL, lessB_iff] at *; omega
  ntrans x y z h1 h2 := by
    rw [ltOf_cmpL] at *
    rw [← Bool.not_eq_true, lessB_iff] at *; omega
end Go.Proofs.Ytjljfkioiglaiaa
