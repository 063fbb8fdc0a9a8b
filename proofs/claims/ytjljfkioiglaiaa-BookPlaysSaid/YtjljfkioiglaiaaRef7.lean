/- Balance of the reference. -/
import Derived.Test.YtjljfkioiglaiaaRef6
set_option linter.unusedVariables false
set_option linter.unusedSimpArgs false
namespace Go.Proofs.Ytjljfkioiglaiaa
open Go.RowKit Go.Shelf NumL

theorem nil_lines (w : World) : LinesAt w (.slice none 0 0) [] := ⟨none, 0, rfl, ⟨by simp, by simp⟩, by simp, fun h => absurd h (by simp)⟩
set_option maxRecDepth 100000 in
set_option maxHeartbeats 2000000 in
theorem refbal_any (rb : Nat) (lv dv : Value) (es : List (List Ln × Bool)) (a : Acc) (w : World) (hR : RefAt w rb lv dv es) (h40 : es.length ≤ 4096) (hE : ∀ e ∈ es, e.1.length ≤ 1000) (hf : fitsB (sumOf es [] a) = true) :
    Calls Try.prog 19 #[.pointer (some ⟨rb, 0, none⟩), .agg #[.int .i64 a.f0, .int .i64 a.f1]] w fun e w' => e = .returned (.int .i64 (sumOf es [] a)) ∧ Below w.heap.size w w' := by
  have SU := Lib.hid (fun W (hW : Below w.heap.size w W) => refsum_any rb lv dv es a _ [] W (hR.below hW) (nil_lines W) h40 hE (by simp))
  have TO := Lib.hid (fun v W (h : NumAt W v (sumOf es [] a)) => to_any v _ W h)
  have HF := Lib.hid hf
  generalize sumOf es [] a = S at SU TO HF
  clear hR hE hf
  obtain ⟨a0, a1⟩ := a
  go_enter Try.func19, Try.ntmps19
  go_wp2_with (first
    | (go_at_call 38; refine (SU.out _ (below_alloc' w _)).mono ?_; rintro e w1 ⟨v, rfl, hn, hb1⟩)
    | (go_at_call 37; refine (TO.out _ _ hn).mono ?_; rintro e w2 ⟨t, rfl, ht, hb2⟩; have HTT := Lib.hid (ht HF.out); clear ht))
  go_ret
  have hs1 := hb1.size
  exact ⟨by rw [← HTT.out]; rfl, ((below_alloc' w _).trans (hb1.mono (by simp))).trans (hb2.mono (by simp at hs1; omega))⟩
end Go.Proofs.Ytjljfkioiglaiaa
