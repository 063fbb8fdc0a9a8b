/- '==' of accounts and of lines; Same. -/
import Derived.Test.YtjljfkioiglaiaaRef1
import Derived.Laws.StructEq
set_option linter.unusedVariables false
set_option linter.unusedSimpArgs false
namespace Go.Proofs.Ytjljfkioiglaiaa
open Go.RowKit Go.Shelf

section
variable {P : Program} {d : Nat} {xs ys : Array Value} {f : Field} {fs : List Field} {a b : Value} {r s : Bool} {w : World}
theorem eq_field (hn : f.name ≠ "_") (ha : (part f.type xs f.offset).run P w = .ok a w) (hb : (part f.type ys f.offset).run P w = .ok b w) (he : (Op.equalIn d f.type a b).run P w = .ok r w) (hr : (Op.eqFields d xs ys fs).run P w = .ok s w) : (Op.eqFields d xs ys (f :: fs)).run P w = .ok (r && s) w := by
  rw [Op.eqFields]
  simp only [if_pos hn, Sem.run_bind, ha, hb, he, Result.andThen_ok]
  cases r
  · simp
  · simpa using hr
theorem eq_struct {t : TypeId} {fs : Array Field} (hu : P.underlying t = some (.struct fs)) (hp : P.stoodInHeld t = false) (h : (Op.eqFields d xs ys fs.toList).run P w = .ok r w) : (Op.equalIn (d + 1) t (.agg xs) (.agg ys)).run P w = .ok r w := by
  have hf : P.fieldsOf t = fs := by simp [Program.fieldsOf, hu]
  rw [run_equalIn_struct (P := P) w d t xs ys (by rw [hf]; exact hu) hp, hf]
  exact h
end
theorem eq_acc (d : Nat) (w : World) (a b a' b' : Int) : (Op.equalIn (d + 2) 41 (.agg #[.int .i64 a, .int .i64 b]) (.agg #[.int .i64 a', .int .i64 b'])).run Try.prog w = .ok ((a == a') && (b == b')) w := by
  refine eq_struct Try.underlying41 (by kernel_rfl) ?_
  rw [← Bool.and_true (b == b')]
  show (Op.eqFields (d + 1) _ _ [_, _]).run Try.prog w = _
  exact eq_field (a := .int .i64 a) (b := .int .i64 a') (by decide) (by go_simp) (by go_simp) (by go_simp) (eq_field (a := .int .i64 b) (b := .int .i64 b') (by decide) (by go_simp) (by go_simp) (by go_simp) (by simp [Op.eqFields]))
theorem eq_line (d : Nat) (w : World) (a b m a' b' m' : Int) : (Op.equalIn (d + 3) 43 (.agg #[.int .i64 a, .int .i64 b, .int .i64 m]) (.agg #[.int .i64 a', .int .i64 b', .int .i64 m'])).run Try.prog w = .ok (((a == a') && (b == b')) && (m == m')) w := by
  refine eq_struct Try.underlying43 (by kernel_rfl) ?_
  rw [← Bool.and_true (m == m')]
  show (Op.eqFields (d + 2) _ _ [_, _]).run Try.prog w = _
  exact eq_field (a := .agg #[.int .i64 a, .int .i64 b]) (b := .agg #[.int .i64 a', .int .i64 b']) (by decide) (by go_simp) (by go_simp) (eq_acc d w _ _ _ _) (eq_field (a := .int .i64 m) (b := .int .i64 m') (by decide) (by go_simp) (by go_simp) (by go_simp) (by simp [Op.eqFields]))
theorem run_neq_line (w : World) (a b m a' b' m' : Int) : (binOp .neq 43 (.agg #[.int .i64 a, .int .i64 b, .int .i64 m]) (.agg #[.int .i64 a', .int .i64 b', .int .i64 m'])).run Try.prog w = .ok (.bool (!(((a == a') && (b == b')) && (m == m')))) w := by
  have h := eq_line 9997 w a b m a' b' m'
  simp only [binOp]
  simp [Op.equal, Op.maxDepth, h]
theorem run_eql_acc (w : World) (a b a' b' : Int) : (binOp .eql 41 (.agg #[.int .i64 a, .int .i64 b]) (.agg #[.int .i64 a', .int .i64 b'])).run Try.prog w = .ok (.bool ((a == a') && (b == b'))) w := by
  have h := eq_acc 9998 w a b a' b'
  simp only [binOp]
  simp [Op.equal, Op.maxDepth, h]

instance : DecidableEq Ln := fun x y => decidable_of_iff (x.f0 = y.f0 ∧ x.f1 = y.f1) ⟨fun h => by cases x; cases y; simp_all, fun h => by simp [h]⟩
theorem neq_same (w : World) (x : Ln) : (binOp .neq 43 (.agg #[.int .i64 x.f0.f0, .int .i64 x.f0.f1, .int .i64 x.f1]) (.agg #[.int .i64 x.f0.f0, .int .i64 x.f0.f1, .int .i64 x.f1])).run Try.prog w = .ok (.bool false) w := by
  rw [run_neq_line]; simp
theorem neq_other (w : World) {x y : Ln} (h : x ≠ y) : (binOp .neq 43 (.agg #[.int .i64 x.f0.f0, .int .i64 x.f0.f1, .int .i64 x.f1]) (.agg #[.int .i64 y.f0.f0, .int .i64 y.f0.f1, .int .i64 y.f1])).run Try.prog w = .ok (.bool true) w := by
  rw [run_neq_line]
  have : (((x.f0.f0 == y.f0.f0) && (x.f0.f1 == y.f0.f1)) && (x.f1 == y.f1)) = false := by
    rw [← Bool.not_eq_true]
    intro hh
    simp at hh
    apply h
    obtain ⟨⟨a, b⟩, m⟩ := x
    obtain ⟨⟨c, d⟩, n⟩ := y
    simp at hh
    obtain ⟨⟨rfl, rfl⟩, rfl⟩ := hh
    rfl
  rw [this]
  rfl

set_option maxRecDepth 100000 in
set_option maxHeartbeats 2000000 in
theorem same_any (va vb : Value) (l m : List Ln) (w : World) (hl : LinesAt w va l) (hm : LinesAt w vb m) :
    Calls Try.prog 17 #[va, vb] w fun e w' => e = .returned (.bool (decide (l = m))) ∧ Below w.heap.size w w' := by
  have HF : Hid (∀ r, r = decide (l = m) → Ending.returned (.bool r) = .returned (.bool (decide (l = m)))) := fun b h => by rw [h]
  obtain ⟨A, c, rfl, ⟨hlc, hlm⟩, _, hc⟩ := hl
  obtain ⟨A', c', rfl, ⟨hmc, hmm⟩, _, hc'⟩ := hm
  have HC := Lib.hid hc
  have HC' := Lib.hid hc'
  clear hc hc'
  by_cases hlen : l.length = m.length
  · have hlen' : ((l.length : Int) != m.length) = false := bne_eq_false_iff_eq.2 (by omega)
    have HLEN := Lib.hid hlen
    rw [hlen] at hlen'
    clear hlen'
    go_enter Try.func17, Try.ntmps17
    go_wp2_with fail
    go_loopw [5] (fun iv wr => ∃ (k : Nat), k ≤ l.length ∧ iv = .int .i64 k ∧ Asi (∀ j, j < k → l[j]? = m[j]?) ∧ Below w.heap.size w wr) (fun iv _ => l.length - (intOf iv).toNat)
    case atStart => exact ⟨0, by omega, rfl, ⟨fun j h => absurd h (by omega)⟩, Below.refl _ _⟩
    case round =>
      obtain ⟨k, hk, rfl, hA, hB⟩ := hrel
      by_cases hlt : k < l.length
      · obtain ⟨b, o, rfl, hb, hcell⟩ := HC.out (by omega)
        obtain ⟨b', o', rfl, hb', hcell'⟩ := HC'.out (by have := HLEN.out; omega)
        obtain ⟨x, hx⟩ : ∃ x, l[k]? = some x := ⟨_, List.getElem?_eq_getElem hlt⟩
        obtain ⟨y, hy⟩ : ∃ y, m[k]? = some y := ⟨_, List.getElem?_eq_getElem (by omega)⟩
        obtain ⟨h0, h1, h2⟩ := hcell k x hx
        obtain ⟨i0, i1, i2⟩ := hcell' k y hy
        have g0 := (hB.cell (p := ⟨b, o + k * 3, none⟩) hb).trans h0
        have g1 := (hB.cell (p := ⟨b, o + k * 3 + 1, none⟩) hb).trans h1
        have g2 := (hB.cell (p := ⟨b, o + k * 3 + 2, none⟩) hb).trans h2
        have j0 := (hB.cell (p := ⟨b', o' + k * 3, none⟩) hb').trans i0
        have j1 := (hB.cell (p := ⟨b', o' + k * 3 + 1, none⟩) hb').trans i1
        have j2 := (hB.cell (p := ⟨b', o' + k * 3 + 2, none⟩) hb').trans i2
        have HX := Lib.hid hx
        have HY := Lib.hid hy
        have hk0 : (0 : Int) ≤ k := by omega
        have hk1 : (k : Int) < l.length := by omega
        have hk2 : (k : Int) < m.length := by omega
        clear h0 h1 h2 i0 i1 i2 hcell hcell' hx hy
        by_cases hxy : x = y
        · subst hxy
          have hne := fun n => neq_same (wr.drewN n) x
          go_wp2_with fail
          go_quiet (fail)
          go_wp2_with fail
          go_roundw
          case rel =>
            refine ⟨k + 1, by omega, by go_num, ⟨fun j hj => ?_⟩, below_drewN' hB _⟩
            by_cases e : j = k
            · subst e
              rw [HX.out, HY.out]
            · exact hA.out j (by omega)
          case measure => simp [intOf]; omega
        · have HXY := Lib.hid hxy
          obtain ⟨⟨a, b1⟩, m1⟩ := x
          obtain ⟨⟨a', b1'⟩, m1'⟩ := y
          have hor : (a == a') = false ∨ (a = a' ∧ (b1 == b1') = false) ∨ (a = a' ∧ b1 = b1' ∧ (m1 == m1') = false) := by
            by_cases h1 : a = a'
            · by_cases h2 : b1 = b1'
              · exact .inr (.inr ⟨h1, h2, beq_eq_false_iff_ne.2 fun h3 => hxy (by rw [h1, h2, h3])⟩)
              · exact .inr (.inl ⟨h1, beq_eq_false_iff_ne.2 h2⟩)
            · exact .inl (beq_eq_false_iff_ne.2 h1)
          clear hxy
          rcases hor with h1 | ⟨rfl, h1⟩ | ⟨rfl, rfl, h1⟩
          all_goals (
            go_wp2_with fail
            go_quiet (fail)
            go_wp2_with fail
            go_ret
            refine ⟨HF.out _ (decide_eq_false fun e => ?_).symm, below_drewN' hB _⟩
            have h1 := HX.out
            have h2 := HY.out
            rw [e, h2] at h1
            exact HXY.out (Option.some.inj h1).symm)
      · go_wp2_with fail
        go_ret
        refine ⟨HF.out _ (decide_eq_true ?_).symm, hB⟩
        apply List.ext_getElem?
        intro j
        have hle := HLEN.out
        by_cases hj : j < k
        · exact hA.out j hj
        · rw [List.getElem?_eq_none (by omega), List.getElem?_eq_none (by omega)]
  · have hlen' : ((l.length : Int) != m.length) = true := bne_iff_ne.2 (by omega)
    have HLEN := Lib.hid hlen
    clear hlen
    go_enter Try.func17, Try.ntmps17
    go_wp2_with fail
    go_ret
    exact ⟨HF.out _ (decide_eq_false fun e => HLEN.out (by rw [e])).symm, Below.refl _ _⟩
end Go.Proofs.Ytjljfkioiglaiaa
