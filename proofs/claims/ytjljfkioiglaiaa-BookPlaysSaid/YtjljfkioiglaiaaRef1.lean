/- The reference's small parts: an error's number; whether lines are the same; lines turned; Entry. -/
import Derived.Test.YtjljfkioiglaiaaUp
import Derived.Lib.IfaceEq
set_option linter.unusedVariables false
set_option linter.unusedSimpArgs false
namespace Go.Proofs.Ytjljfkioiglaiaa
open Go.RowKit Go.Shelf

theorem code_nil (w : World) : Calls Try.prog 34 #[.nilIface] w fun e w' => e = .returned (.int .i64 0) ∧ w' = w := by
  go_enter Try.func34, Try.ntmps34
  go_wp2
  go_ret
  exact ⟨rfl, rfl⟩
set_option maxRecDepth 100000 in
set_option maxHeartbeats 1000000 in
theorem code_some (c : Int) (h0 : 1 ≤ c) (h8 : c ≤ 8) (w : World) : Calls Try.prog 34 #[.iface 55 (.int .i64 c)] w fun e w' => e = .returned (.int .i64 c) ∧ w' = w := by
  have heq := fun k : Int => Lib.run_eql_iface_int (P := Try.prog) w (k := .i64) (q := .i64) c k Try.underlying32 (by kernel_rfl) Try.underlying55
  go_enter Try.func34, Try.ntmps34
  go_wp2_with fail
  go_loop [3] (fun iv => ∃ k : Int, 1 ≤ k ∧ k ≤ c ∧ iv = .int .i64 k) (fun iv => 8 - (intOf iv).toNat)
  case atStart => exact ⟨1, by omega, by omega, rfl⟩
  case round =>
    obtain ⟨k, hk, hkc, rfl⟩ := hrel
    have hk8 : k ≤ 8 := by omega
    by_cases e : k = c
    · subst e
      have e1 : (k == k) = true := beq_self_eq_true k
      go_wp2_with fail
      go_ret
      exact ⟨rfl, rfl⟩
    · have e1 : (c == k) = false := beq_eq_false_iff_ne.2 (fun h => e h.symm)
      go_wp2_with fail
      go_round
      case rel => exact ⟨k + 1, by omega, by omega, by go_num⟩
      case measure => simp [intOf]; omega

set_option maxHeartbeats 1000000 in
theorem refmay_any (a : Acc) (w : World) : Calls Try.prog 47 #[.agg #[.int .i64 a.f0, .int .i64 a.f1]] w fun e w' => e = .returned (.bool (mayB a)) ∧ Below w.heap.size w w' := by
  obtain ⟨k, o⟩ := a
  have HF : Hid (∀ b, b = mayB ⟨k, o⟩ → Ending.returned (.bool b) = .returned (.bool (mayB ⟨k, o⟩))) := fun b h => by rw [h]
  go_enter Try.func47, Try.ntmps47
  go_wp2
  all_goals
    go_ret
    refine ⟨HF.out _ ?_, (Below.refl _ _).alloc (Nat.le_refl _) _⟩
    rw [Bool.eq_iff_iff]
    simp only [mayB]
    split <;> simp <;> omega

def EntryPost (w : World) (B : Bk) (n : Int) (e : Ending) (w' : World) : Prop :=
  Below w.heap.size w w' ∧ match entryB B n with
  | none => e = .returned (.tuple #[.slice none 0 0, .iface 55 (.int .i64 4)])
  | some (l, _) => ∃ v, e = .returned (.tuple #[v, .nilIface]) ∧ LinesAt w' v l

set_option maxRecDepth 100000 in
set_option maxHeartbeats 4000000 in
theorem entry_any (bb mb : Nat) (ev : Value) (B : Bk) (n : Int) (w : World) (hB : BookAt w bb mb ev B) (hl0 : ∀ e ∈ B.es, e.1.length ≤ 1000) :
    Calls Try.prog 16 #[.pointer (some ⟨bb, 0, none⟩), .int .i64 n] w (EntryPost w B n) := by
  have c0 := cell_at hB.cell 0 rfl
  have hev : ∃ A c, ev = .slice A B.es.length c := by
    obtain ⟨vs, h2, h3, _⟩ := hB.row
    exact own_form h3
  by_cases hneg : n < 0
  · have e0 : entryB B n = none := by rw [entryB, if_pos hneg]
    have HE := Lib.hid e0
    clear hB e0 hev
    unfold EntryPost
    rw [HE.out]
    go_enter Try.func16, Try.ntmps16
    go_wp2_with fail
    go_ret2
    exact ⟨Below.refl _ _, rfl⟩
  obtain ⟨i, rfl⟩ := Int.eq_ofNat_of_zero_le (by omega : 0 ≤ n)
  by_cases hge : B.es.length ≤ i
  · have e0 : entryB B i = none := by rw [entryB, if_neg hneg]; simp [hge]
    have HE := Lib.hid e0
    obtain ⟨EA, ec, rfl⟩ := hev
    have hge' : ¬ (i : Int) < B.es.length := by omega
    clear hB e0
    unfold EntryPost
    rw [HE.out]
    go_enter Try.func16, Try.ntmps16
    go_wp2_with fail
    go_ret2
    exact ⟨Below.refl _ _, rfl⟩
  obtain ⟨⟨l, d⟩, he⟩ : ∃ e, B.es[i]? = some e := ⟨_, List.getElem?_eq_getElem (by omega)⟩
  have e0 : entryB B i = some (l, d) := by rw [entryB, if_neg hneg]; simpa using he
  obtain ⟨g, ec, v, rfl, hec, k0, k1, hown, hfr, hgb, hgm⟩ := hB.entry i _ he
  have hi0 : (0 : Int) ≤ i := by omega
  have hi1 : (i : Int) < B.es.length := by omega
  have hl : l.length ≤ 1000 := hl0 _ (List.mem_of_getElem? he)
  have CL := Lib.hid (clone_any v l w hown.1 (by omega))
  have HE := Lib.hid e0
  clear hB e0 hown hev he hl0
  unfold EntryPost
  rw [HE.out]
  go_enter Try.func16, Try.ntmps16
  go_wp2_with (go_at_call 21; refine CL.out.mono ?_; rintro e w1 ⟨v4, rfl, hown4, hB4, hfr4⟩)
  go_ret2
  exact ⟨hB4, v4, rfl, hown4.1⟩
end Go.Proofs.Ytjljfkioiglaiaa
