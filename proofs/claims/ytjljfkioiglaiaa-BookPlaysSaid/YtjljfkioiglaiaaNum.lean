/- The reference's long numbers in memory: each function by what it comes to. -/
import Derived.Test.YtjljfkioiglaiaaProg
import Derived.Test.YtjljfkioiglaiaaNumL
import Derived.WalkKit
import Derived.Lib.Hide
import Derived.Deep.LoopGhost
import Derived.KernelRfl
set_option linter.unusedVariables false
set_option linter.unusedSimpArgs false
namespace Go.Proofs.Ytjljfkioiglaiaa
open Go.RowKit NumL

/-- A slice of words that reads as ds. -/
def U64s (w : World) (v : Value) (ds : List Int) : Prop :=
  ∃ A c, v = .slice A ds.length c ∧ (ds.length ≤ 140737488351232 ∧ ds.length ≤ c) ∧ (0 < ds.length → ∃ b o, A = some ⟨b, o, none⟩ ∧ b < w.heap.size ∧ ∀ j, j < ds.length → w.cell? ⟨b, o + j, none⟩ = some (.int .u64 (ds.getD j 0)))
theorem U64s.below {w w1 : World} {v : Value} {ds : List Int} (h : U64s w v ds) (hb : Below w.heap.size w w1) : U64s w1 v ds := by
  obtain ⟨A, c, e, hm, h⟩ := h
  refine ⟨A, c, e, hm, fun hp => ?_⟩
  obtain ⟨b, o, e, hlt, hc⟩ := h hp
  exact ⟨b, o, e, Nat.lt_of_lt_of_le hlt hb.size, fun j hj => (hb.cell (p := ⟨b, o + j, none⟩) hlt).trans (hc j hj)⟩

def NumAt (w : World) (v : Value) (x : Int) : Prop :=
  ∃ u s ds, v = .agg #[u, .bool s] ∧ U64s w u ds ∧ Dig ds ∧ Top ds ∧ (s = true → ds ≠ []) ∧ x = signed s ds

theorem below_alloc' (w : World) (o : Obj) : Below w.heap.size w (w.alloc o) := (Below.refl _ _).alloc (Nat.le_refl _) o

theorem ret_agg {e : Ending} {a b : Value} (h : a = b) : Ending.returned a = .returned b := by rw [h]

theorem U64s.take {w : World} {A : Option Addr} {c m : Nat} {ds : List Int} (h : U64s w (.slice A ds.length c) ds) (hm : m ≤ ds.length) : U64s w (.slice A m c) (ds.take m) := by
  obtain ⟨A', c', e, hl, h⟩ := h
  injection e with e1 e2 e3
  subst e1 e3
  have hlen : (ds.take m).length = m := by simp; omega
  refine ⟨A, c, by rw [hlen], ⟨by omega, by omega⟩, fun hp => ?_⟩
  rw [hlen] at hp
  obtain ⟨b, o, e, hlt, hc⟩ := h (by omega)
  refine ⟨b, o, e, hlt, fun j hj => ?_⟩
  rw [hlen] at hj
  rw [hc j (by omega)]
  simp [List.getD_eq_getElem?_getD, List.getElem?_take, hj]

theorem norm_close {w W : World} {A : Option Addr} {c m : Nat} {ds : List Int} {s s' : Bool} (h : U64s w (.slice A ds.length c) ds) (hd : Dig ds) (hm : m ≤ ds.length) (hz : ∀ j, m ≤ j → j < ds.length → ds.getD j 0 = 0)
    (ht : m = 0 ∨ ds.getD (m - 1) 0 ≠ 0) (hs : s' = (s && decide (0 < m))) (hb : Below w.heap.size w W) : NumAt W (.agg #[.slice A m c, .bool s']) (signed s ds) := by
  have hlen : (ds.take m).length = m := by simp; omega
  refine ⟨_, _, ds.take m, rfl, (h.take hm).below hb, dig_take hd m, ?_, ?_, ?_⟩
  · rcases ht with rfl | ht
    · exact .inl (by simp)
    · by_cases h0 : m = 0
      · subst h0; exact .inl (by simp)
      · refine .inr ?_
        rw [hlen]
        simpa [List.getD_eq_getElem?_getD, List.getElem?_take, show m - 1 < m by omega] using ht
  · intro e he
    rw [he] at hlen
    have h0 : m = 0 := by simpa using hlen.symm
    subst h0
    simp [e] at hs
  · have hv := val_take hz
    rw [hs]
    unfold signed
    by_cases h0 : m = 0
    · subst h0
      have : val ds = 0 := by rw [← hv]; simp [val]
      cases s <;> simp [val, this]
    · have : 0 < m := by omega
      cases s <;> simp [this, hv]

/-- norm -/
def NormPost (w : World) (ds : List Int) (s : Bool) (e : Ending) (w' : World) : Prop :=
  ∃ v, e = .returned v ∧ NumAt w' v (signed s ds) ∧ Below w.heap.size w w'

set_option maxHeartbeats 1000000 in
theorem norm_any (A : Option Addr) (ds : List Int) (c : Nat) (s : Bool) (w : World) (hd : Dig ds) (hu : U64s w (.slice A ds.length c) ds) :
    Calls Try.prog 29 #[.slice A ds.length c, .bool s] w (NormPost w ds s) := by
  have HU := hu
  obtain ⟨A', c', e, hm, hu⟩ := hu
  injection e with e1 e2 e3
  subst e1 e3
  have HC := Lib.hid hu
  obtain ⟨hm1, hm2⟩ := hm
  clear hu e2
  cases s
  all_goals
    go_enter Try.func29, Try.ntmps29
    go_wp2
    go_loop [0] (fun v => ∃ m, m ≤ ds.length ∧ v = .slice A m c ∧ ∀ j, m ≤ j → j < ds.length → ds.getD j 0 = 0) (fun v => match v with | .slice _ n _ => n | _ => 0)
    case atStart => exact ⟨ds.length, Nat.le_refl _, rfl, fun j h1 h2 => by omega⟩
    case round =>
      obtain ⟨m, hml, rfl, hz⟩ := hrel
      have hmc : m ≤ c := by omega
      have HZ := Lib.hid hz
      clear hz
      rcases m with _ | q
      · go_wp2
        all_goals
          exact bodyPost_ret (v := .agg #[.slice A 0 c, .bool false]) (by simp [results, Try.results29, go_sem]) rfl ⟨_, rfl, norm_close HU hd (Nat.zero_le _) HZ.out (.inl rfl) (by simp) (((Below.refl _ _).alloc (Nat.le_refl _) _)), (Below.refl _ _).alloc (Nat.le_refl _) _⟩
      · obtain ⟨b, o, rfl, hb, hc⟩ := HC.out (by omega)
        have hcq : (w.alloc (Obj.cells #[Value.slice none 0 0, Value.bool false] 39)).cell? ⟨b, o + q, none⟩ = some (.int .u64 (ds.getD q 0)) :=
          ((below_alloc' w _).cell (p := ⟨b, o + q, none⟩) hb).trans (hc q (by omega))
        clear hc
        generalize hdq : ds.getD q 0 = d at hcq
        have HQ := Lib.hid hdq
        clear hdq
        by_cases hq : d = 0
        · subst hq
          go_wp2
          go_round
          case rel => exact ⟨q, by omega, rfl, fun j h1 h2 => by
            by_cases e : j = q
            · rw [e]; exact HQ.out
            · exact HZ.out j (by omega) h2⟩
          case measure => simp
        · have hq' : (d == 0) = false := by simpa using hq
          have HN := Lib.hid hq
          clear hq
          go_wp2
          all_goals
            refine bodyPost_ret (v := .agg #[.slice (some ⟨b, o, none⟩) (q + 1) c, .bool _]) (by simp only [results, Try.results29, go_sem]; simp [go_sem]; rfl) rfl ⟨_, rfl, norm_close HU hd hml HZ.out (.inr (by rw [Nat.add_sub_cancel, HQ.out]; exact HN.out)) (by simp) (((Below.refl _ _).alloc (Nat.le_refl _) _)), (Below.refl _ _).alloc (Nat.le_refl _) _⟩
end Go.Proofs.Ytjljfkioiglaiaa
