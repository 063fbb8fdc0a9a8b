/- at and less: a digit; which of two sizes is less. -/
import Derived.Test.YtjljfkioiglaiaaNum
import Derived.Deep.QuietTactic
import Derived.BigQuiet
set_option linter.unusedVariables false
set_option linter.unusedSimpArgs false
namespace Go.Proofs.Ytjljfkioiglaiaa
open Go.RowKit NumL

theorem ret_val {a b : Value} (h : a = b) : Ending.returned a = .returned b := by rw [h]
theorem ret_u64 {a b : Int} (h : a = b) : Ending.returned (.int .u64 a) = .returned (.int .u64 b) := by rw [h]

set_option maxHeartbeats 1000000 in
theorem at_any (A : Option Addr) (ds : List Int) (c : Nat) (i : Nat) (w : World) (hu : U64s w (.slice A ds.length c) ds) (hi : i ≤ 140737488351232) :
    Calls Try.prog 45 #[.slice A ds.length c, .int .i64 i] w fun e w' => e = .returned (.int .u64 (ds.getD i 0)) ∧ w' = w := by
  obtain ⟨A', c', e, ⟨hm1, hm2⟩, hu⟩ := hu
  injection e with e1 e2 e3
  subst e1 e3
  clear e2
  by_cases h : i < ds.length
  · obtain ⟨b, o, rfl, hb, hc⟩ := hu (by omega)
    have hci := hc i h
    clear hc hu
    generalize ds.getD i 0 = d at hci ⊢
    generalize ds.length = n at *
    go_enter Try.func45, Try.ntmps45
    go_wp2
    go_ret
    exact ⟨rfl, rfl⟩
  · have h0 : ds.getD i 0 = 0 := by rw [List.getD_eq_getElem?_getD, List.getElem?_eq_none (by omega)]; rfl
    rw [h0]
    clear h0 hu
    generalize ds.length = n at *
    go_enter Try.func45, Try.ntmps45
    go_wp2
    go_ret
    exact ⟨rfl, rfl⟩

def LessPost (w : World) (a b : List Int) (e : Ending) (w' : World) : Prop := e = .returned (.bool (decide (val a < val b))) ∧ ∃ n, w' = w.drewN n

set_option maxHeartbeats 2000000 in
theorem less_any (A : Option Addr) (xs : List Int) (c : Nat) (B : Option Addr) (ys : List Int) (c' : Nat) (w : World) (ha : U64s w (.slice A xs.length c) xs) (hb : U64s w (.slice B ys.length c') ys) (da : Dig xs) (db : Dig ys) (ta : Top xs) (tb : Top ys) :
    Calls Try.prog 31 #[.slice A xs.length c, .slice B ys.length c'] w (LessPost w xs ys) := by
  obtain ⟨A', ca', e, ⟨hm1, hm2⟩, hu⟩ := ha
  injection e with e1 e2 e3
  subst e1 e3
  clear e2
  obtain ⟨B', cb', e, ⟨hn1, hn2⟩, hv⟩ := hb
  injection e with e1 e2 e3
  subst e1 e3
  clear e2
  have HU := Lib.hid hu
  have HV := Lib.hid hv
  clear hu hv
  rcases Nat.lt_trichotomy xs.length ys.length with hl | hl | hl
  · have hx : ((xs.length : Int) != (ys.length : Int)) = true := by rw [bne_iff_ne]; omega
    have hv := val_lt_len da db tb hl
    have HF : Hid (decide (val xs < val ys) = true) := by unfold Hid; simpa using hv
    clear hv
    go_enter Try.func31, Try.ntmps31
    go_wp2
    go_ret
    exact ⟨by rw [HF.out]; rfl, 0, rfl⟩
  · have HL := Lib.hid hl
    have hnx : ((xs.length : Int) != (ys.length : Int)) = false := by rw [bne_eq_false_iff_eq]; omega
    clear hl
    go_enter Try.func31, Try.ntmps31
    go_wp2
    go_loopw [5] (fun v wr => ∃ i : Int, -1 ≤ i ∧ i < xs.length ∧ v = .int .i64 i ∧ (∀ j : Nat, i < j → j < xs.length → xs.getD j 0 = ys.getD j 0) ∧ ∃ n, wr = w.drewN n) (fun v _ => (intOf v + 1).toNat)
    case atStart => exact ⟨(xs.length : Int) - 1, by omega, by omega, rfl, fun j h1 h2 => by omega, 0, rfl⟩
    case round =>
      obtain ⟨i, hi1, hi2, rfl, he, m, rfl⟩ := hrel
      have HE := Lib.hid he
      clear he
      by_cases hi : i < 0
      · go_wp2
        go_ret
        have e : xs = ys := eq_of_get HL.out (fun j hj => HE.out j (by omega) hj)
        exact ⟨by rw [e]; simp, m, rfl⟩
      · obtain ⟨q, rfl⟩ : ∃ q : Nat, i = q := ⟨i.toNat, by omega⟩
        have hlen := HL.out
        obtain ⟨b, o, rfl, hb, hc⟩ := HU.out (by omega)
        obtain ⟨b', o', rfl, hb', hc'⟩ := HV.out (by omega)
        have h1 := hc q (by omega)
        have h2 := hc' q (by omega)
        have hq2 : (q : Int) < (ys.length : Int) := by omega
        clear hc hc' hlen
        generalize hd1 : xs.getD q 0 = d1 at h1
        generalize hd2 : ys.getD q 0 = d2 at h2
        have H1 := Lib.hid hd1
        have H2 := Lib.hid hd2
        clear hd1 hd2
        by_cases hd : d1 = d2
        · subst hd
          go_wp2
          go_quiet (fail)
          go_wp2
          go_roundw
          case rel => exact ⟨(q : Int) - 1, by omega, by omega, rfl, fun j h1 h2 => by
            by_cases e : j = q
            · rw [e, H1.out, H2.out]
            · exact HE.out j (by omega) h2, _, rfl⟩
          case measure => simp [intOf]
        · have hn : (d1 != d2) = true := by rw [bne_iff_ne]; exact hd
          have HN := Lib.hid hd
          clear hd
          by_cases hlt : d1 < d2
          all_goals
            go_wp2
            go_quiet (fail)
            go_wp2
            go_quiet (fail)
            go_wp2
            go_ret
          · have hv := val_lt_of da db HL.out (i := q) (by omega) (fun j h1 h2 => HE.out j (by omega) h2) (by rw [H1.out, H2.out]; exact hlt)
            exact ⟨by simp [hv], _, by simp only [World.drewN_drewN]; rfl⟩
          · have hv := val_lt_of db da HL.out.symm (i := q) (by rw [← HL.out]; omega) (fun j h1 h2 => (HE.out j (by omega) (by rw [HL.out]; exact h2)).symm) (by rw [H1.out, H2.out]; have := HN.out; omega)
            exact ⟨by simp [show ¬ val xs < val ys by omega]; omega, _, by simp only [World.drewN_drewN]; rfl⟩
  · have hx : ((xs.length : Int) != (ys.length : Int)) = true := by rw [bne_iff_ne]; omega
    have hv := val_lt_len db da ta hl
    have HF : Hid (decide (val xs < val ys) = false) := by unfold Hid; simp; omega
    clear hv
    go_enter Try.func31, Try.ntmps31
    go_wp2
    go_ret
    exact ⟨by rw [HF.out]; simp; omega, 0, rfl⟩
end Go.Proofs.Ytjljfkioiglaiaa
