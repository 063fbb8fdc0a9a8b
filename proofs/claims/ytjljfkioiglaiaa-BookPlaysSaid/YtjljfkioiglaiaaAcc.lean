/- Accounts as a map's keys. -/
import Derived.Test.YtjljfkioiglaiaaSum
import Derived.WideKeyArgs2
import Derived.DeepKeys4
set_option linter.unusedVariables false
set_option linter.unusedSimpArgs false
namespace Go.Proofs.Ytjljfkioiglaiaa
open Go.RowKit Go.Shelf Go.WideMaps

theorem acc_laidOut : laidOutB Try.prog = true := by kernel_rfl
theorem acc_row : (41 : TypeId) < Try.prog.types.size := of_decide_eq_true (by kernel_rfl)
theorem acc_deep : Try.prog.keyTypeAt 2 41 = true := by kernel_rfl
theorem acc_keyed : Maps.Keyed Try.prog 41 := Maps.Keyed.of_law (deep_law_laid acc_laidOut (m := 2) (by omega) acc_row acc_deep (by kernel_rfl))
theorem acc_keyType : Try.prog.keyType 41 = true := by kernel_rfl
theorem acc_cells : Try.prog.cellsOf 41 = 2 := by kernel_rfl
theorem int_cells : Try.prog.cellsOf 3 = 1 := by kernel_rfl
theorem acc_key (a : Acc) (h0 : I64 a.f0) (h1 : I64 a.f1) : ∃ l, keyOf Try.prog 41 a.val = some l := by
  have w0 : (Lit.int .i64 a.f0).wf = true := WalkArith.wf_i64 h0
  have w1 : (Lit.int .i64 a.f1).wf = true := WalkArith.wf_i64 h1
  have hs : ∃ n, Try.prog.types.size = n + 1 := ⟨_, rfl⟩
  obtain ⟨n, hn⟩ := hs
  refine ⟨.string (keyBytes [.int .i64 a.f0, .int .i64 a.f1]), ?_⟩
  unfold keyOf
  rw [Try.underlying41]
  simp only [acc_keyType, Value.formed, Acc.val, Try.underlying41, acc_cells, hn]
  simp [Program.keyLits, Try.underlying41, acc_cells, int_cells, Try.underlying3, w0, w1, Value.cells]

theorem acc_inj : ∀ x y : Acc, x.val = y.val → x = y := by
  rintro ⟨a, b⟩ ⟨c, d⟩ h
  simp [Acc.val] at h
  simp [h]
instance : DecidableEq Acc := fun x y => decidable_of_iff (x.f0 = y.f0 ∧ x.f1 = y.f1) ⟨fun h => by cases x; cases y; simp_all, fun h => by simp [h]⟩
theorem zero_i64 (w : World) : (zeroValue 2).run Try.prog w = .ok (.int .i64 0) w := by kernel_rfl
abbrev AccMap (w : World) (b : Nat) (f : Acc → Option Value) (n : Nat) : Prop := MapAt w Try.prog 41 Acc.val b f n
end Go.Proofs.Ytjljfkioiglaiaa
