/- pick; whether deeds' lines are few. -/
import Derived.Test.YtjljfkioiglaiaaIn
set_option linter.unusedVariables false
set_option linter.unusedSimpArgs false
namespace Go.Proofs.Ytjljfkioiglaiaa
open Go.RowKit Go.Shelf

def pickB (c : Int) : Int := (if c < 0 then -(c + 1) else c) % 3
theorem tmod3 {a : Int} (h : 0 ≤ a) : a.tmod 3 = a % 3 := Int.tmod_eq_emod_of_nonneg h
set_option maxHeartbeats 1000000 in
theorem pick_any (c : Int) (hc : I64 c) (w : World) : Calls Try.prog 8 #[.int .i64 c, .int .i64 3] w fun e w' => e = .returned (.int .i64 (pickB c)) ∧ w' = w := by
  have HF : Hid (∀ r, r = pickB c → Ending.returned (.int .i64 r) = .returned (.int .i64 (pickB c))) := fun b h => by rw [h]
  obtain ⟨h0, h1⟩ := hc
  by_cases hn : c < 0
  · have e1 : Int.tmod (-(c + 1)) 3 = -(c + 1) % 3 := tmod3 (by omega)
    have HE := Lib.hid e1
    go_enter Try.func8, Try.ntmps8
    go_wp2
    go_ret
    exact ⟨HF.out _ (by rw [pickB, if_pos hn]), rfl⟩
  · have e1 : Int.tmod c 3 = c % 3 := tmod3 (by omega)
    have HE := Lib.hid e1
    go_enter Try.func8, Try.ntmps8
    go_wp2
    go_ret
    exact ⟨HF.out _ (by rw [pickB, if_neg (by omega)]), rfl⟩

def shortB (ds : List Deed) : Bool := (ds.take 40).all (fun d => decide (d.f2.length ≤ 100))
theorem short_false {ds : List Deed} {k : Nat} {d : Deed} (h : ds[k]? = some d) (hk : k < 40) (hd : 100 < d.f2.length) : shortB ds = false := by
  unfold shortB
  rw [← Bool.not_eq_true, List.all_eq_true]
  intro h'
  have : d ∈ ds.take 40 := List.mem_of_getElem? (i := k) (by rw [List.getElem?_take, if_pos hk]; exact h)
  have := h' d this
  simp at this
  omega
theorem short_true {ds : List Deed} {k : Nat} (hk : k = 40 ∨ k = ds.length) (h : ∀ j d, j < k → ds[j]? = some d → d.f2.length ≤ 100) : shortB ds = true := by
  unfold shortB
  rw [List.all_eq_true]
  intro d hd
  obtain ⟨j, hj⟩ := List.getElem?_of_mem hd
  have hlt := (List.getElem?_eq_some_iff.1 hj).1
  rw [List.length_take] at hlt
  rw [List.getElem?_take, if_pos (by omega)] at hj
  simp
  exact h j d (by omega) hj
theorem short_get {ds : List Deed} (h : shortB ds = true) {k : Nat} {d : Deed} (hd : ds[k]? = some d) (hk : k < 40) : d.f2.length ≤ 100 := by
  have : d ∈ ds.take 40 := List.mem_of_getElem? (i := k) (by rw [List.getElem?_take, if_pos hk]; exact hd)
  have := List.all_eq_true.1 h d this
  simpa using this

set_option maxRecDepth 100000 in
set_option maxHeartbeats 2000000 in
theorem short_any (v : Value) (ds : List Deed) (w : World) (h : DeedsAt w v ds) : Calls Try.prog 6 #[v] w fun e w' => e = .returned (.bool (shortB ds)) ∧ w' = w := by
  have HF : Hid (∀ r, r = shortB ds → Ending.returned (.bool r) = .returned (.bool (shortB ds))) := fun b h => by rw [h]
  obtain ⟨A, c, rfl, hlc, hc, hcell⟩ := h
  have HC := Lib.hid hcell
  clear hcell
  go_enter Try.func6, Try.ntmps6
  go_wp2_with fail
  go_loop [3] (fun iv => ∃ (k : Nat), k ≤ ds.length ∧ k ≤ 40 ∧ iv = .int .i64 k ∧ Asi (∀ j d, j < k → ds[j]? = some d → d.f2.length ≤ 100)) (fun iv => 40 - (intOf iv).toNat)
  case atStart => exact ⟨0, by omega, by omega, rfl, ⟨fun j d h => absurd h (by omega)⟩⟩
  case round =>
    obtain ⟨k, hk, hk4, rfl, hA⟩ := hrel
    by_cases hlt : k < ds.length
    · have hlt' : (k : Int) < ds.length := by omega
      by_cases h40 : k < 40
      · obtain ⟨b, o, rfl, hb, hcc⟩ := HC.out (by omega)
        obtain ⟨d, hd⟩ : ∃ d, ds[k]? = some d := ⟨_, List.getElem?_eq_getElem hlt⟩
        obtain ⟨c0, c1, _, _, _, A2, c2, c3, hl2, _⟩ := hcc k d hd
        have HD := Lib.hid hd
        have h40' : (k : Int) < 40 := by omega
        clear hcc hd
        by_cases hbig : 100 < d.f2.length
        · have hb' : (100 : Int) < d.f2.length := by omega
          go_wp2_with fail
          go_ret
          exact ⟨HF.out _ (short_false HD.out h40 hbig).symm, rfl⟩
        · have hb' : ¬ (100 : Int) < d.f2.length := by omega
          go_wp2_with fail
          go_round
          case rel =>
            refine ⟨k + 1, by omega, by omega, by go_num, ⟨fun j d' hj hd' => ?_⟩⟩
            by_cases e : j = k
            · subst e
              rw [HD.out] at hd'
              cases hd'
              omega
            · exact hA.out j d' (by omega) hd'
          case measure => simp [intOf]; omega
      · have h40' : ¬ (k : Int) < 40 := by omega
        go_wp2_with fail
        go_ret
        exact ⟨HF.out _ (short_true (.inl (by omega)) hA.out).symm, rfl⟩
    · have hlt' : ¬ (k : Int) < ds.length := by omega
      go_wp2_with fail
      go_ret
      exact ⟨HF.out _ (short_true (.inr (by omega)) hA.out).symm, rfl⟩
end Go.Proofs.Ytjljfkioiglaiaa
