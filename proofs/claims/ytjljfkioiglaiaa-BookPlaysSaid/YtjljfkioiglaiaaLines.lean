/- Lines in memory; looking through them; which ones an entry may have. -/
import Derived.Test.YtjljfkioiglaiaaProg
import Derived.Test.YtjljfkioiglaiaaNum6
import Derived.Shelf.Abstract
set_option linter.unusedVariables false
set_option linter.unusedSimpArgs false
namespace Go.Proofs.Ytjljfkioiglaiaa
open Go.RowKit Go.Shelf

structure Acc where
  f0 : Int
  f1 : Int
structure Ln where
  f0 : Acc
  f1 : Int
def Ln.cells (x : Ln) : List Value := [.int .i64 x.f0.f0, .int .i64 x.f0.f1, .int .i64 x.f1]
def Ln.val (x : Ln) : Value := .agg #[.int .i64 x.f0.f0, .int .i64 x.f0.f1, .int .i64 x.f1]
def Acc.val (a : Acc) : Value := .agg #[.int .i64 a.f0, .int .i64 a.f1]
def I64 (n : Int) : Prop := -9223372036854775808 ≤ n ∧ n ≤ 9223372036854775807
def LnOk (x : Ln) : Prop := I64 x.f0.f0 ∧ I64 x.f0.f1 ∧ I64 x.f1

/-- A slice of lines that reads as l. -/
def LinesAt (w : World) (v : Value) (l : List Ln) : Prop :=
  ∃ A c, v = .slice A l.length c ∧ (l.length ≤ c ∧ l.length ≤ 140737488351232) ∧ (∀ x ∈ l, LnOk x) ∧ (0 < l.length → ∃ b o, A = some ⟨b, o, none⟩ ∧ b < w.heap.size ∧
    ∀ j x, l[j]? = some x → w.cell? ⟨b, o + j * 3, none⟩ = some (.int .i64 x.f0.f0) ∧ w.cell? ⟨b, o + j * 3 + 1, none⟩ = some (.int .i64 x.f0.f1) ∧ w.cell? ⟨b, o + j * 3 + 2, none⟩ = some (.int .i64 x.f1))
theorem LinesAt.below {w w1 : World} {v : Value} {l : List Ln} (h : LinesAt w v l) (hb : Below w.heap.size w w1) : LinesAt w1 v l := by
  obtain ⟨A, c, e, hm, hok, h⟩ := h
  refine ⟨A, c, e, hm, hok, fun hp => ?_⟩
  obtain ⟨b, o, e, hlt, hc⟩ := h hp
  exact ⟨b, o, e, Nat.lt_of_lt_of_le hlt hb.size, fun j x hj => ⟨(hb.cell (p := ⟨b, o + j * 3, none⟩) hlt).trans (hc j x hj).1, (hb.cell (p := ⟨b, o + j * 3 + 1, none⟩) hlt).trans (hc j x hj).2.1, (hb.cell (p := ⟨b, o + j * 3 + 2, none⟩) hlt).trans (hc j x hj).2.2⟩⟩

/-- chart.May -/
def mayB (a : Acc) : Bool := decide (1 ≤ a.f0) && decide (a.f0 ≤ 12) && (if a.f0 ≤ 3 then decide (a.f1 = 0) else decide (1 ≤ a.f1) && decide (a.f1 ≤ 65536))

theorem ret_bool {a b : Bool} (h : a = b) : Ending.returned (.bool a) = .returned (.bool b) := by rw [h]

set_option maxHeartbeats 1000000 in
theorem may_any (a : Acc) (w : World) : Calls Try.prog 40 #[.agg #[.int .i64 a.f0, .int .i64 a.f1]] w fun e w' => e = .returned (.bool (mayB a)) ∧ Below w.heap.size w w' := by
  obtain ⟨k, o⟩ := a
  have HF : Hid (∀ b, b = mayB ⟨k, o⟩ → Ending.returned (.bool b) = .returned (.bool (mayB ⟨k, o⟩))) := fun b h => by rw [h]
  go_enter Try.func40, Try.ntmps40
  go_wp2
  all_goals
    go_ret
    refine ⟨HF.out _ ?_, (Below.refl _ _).alloc (Nat.le_refl _) _⟩
    rw [Bool.eq_iff_iff]
    simp only [mayB]
    split <;> simp <;> omega

/-- What no line of an entry may be. -/
def oddB (x : Ln) : Bool := decide (x.f1 = 0) || !mayB x.f0

set_option maxHeartbeats 1000000 in
theorem odd_any (x : Ln) (w : World) : Calls Try.prog 39 #[x.val] w fun e w' => e = .returned (.bool (oddB x)) ∧ Below w.heap.size w w' := by
  obtain ⟨⟨k, o⟩, m⟩ := x
  have HF : Hid (∀ b, b = oddB ⟨⟨k, o⟩, m⟩ → Ending.returned (.bool b) = .returned (.bool (oddB ⟨⟨k, o⟩, m⟩))) := fun b h => by rw [h]
  have MA := Lib.hid (fun w => may_any ⟨k, o⟩ w)
  unfold Ln.val
  by_cases hm : m = 0
  · subst hm
    go_enter Try.func39, Try.ntmps39
    go_wp2_with fail
    go_ret
    exact ⟨HF.out _ (by simp [oddB]), (Below.refl _ _).alloc (Nat.le_refl _) _⟩
  · have h0 : (m == 0) = false := by simpa using hm
    go_enter Try.func39, Try.ntmps39
    go_wp2_with (go_at_call 40; refine (MA.out _).mono ?_; rintro e w' ⟨rfl, hb⟩)
    go_ret
    exact ⟨HF.out _ (by simp [oddB, hm]), ((Below.refl _ _).alloc (Nat.le_refl _) _).trans (hb.mono (by simp))⟩

/-- The first line that is so, or -1. -/
def idxOf (p : Ln → Bool) : List Ln → Int
  | [] => -1
  | x :: l => if p x then 0 else if idxOf p l < 0 then -1 else idxOf p l + 1
theorem idxOf_none {p : Ln → Bool} {l : List Ln} (h : ∀ x ∈ l, p x = false) : idxOf p l = -1 := by
  induction l with
  | nil => rfl
  | cons x l ih => simp [idxOf, h x (List.mem_cons_self ..), ih (fun y hy => h y (List.mem_cons_of_mem _ hy))]
theorem idxOf_at {p : Ln → Bool} {l : List Ln} {k : Nat} {x : Ln} (hx : l[k]? = some x) (hp : p x = true) (h : ∀ j y, j < k → l[j]? = some y → p y = false) : idxOf p l = k := by
  induction l generalizing k with
  | nil => simp at hx
  | cons y l ih =>
    cases k with
    | zero =>
      simp at hx
      subst hx
      simp [idxOf, hp]
    | succ k =>
      have h0 := h 0 y (by omega) rfl
      have := ih (k := k) (by simpa using hx) (fun j z hj hz => h (j + 1) z (by omega) (by simpa using hz))
      simp [idxOf, h0, this]
      omega
theorem idxOf_any (p : Ln → Bool) (l : List Ln) : (0 ≤ idxOf p l) ↔ l.any p = true := by
  induction l with
  | nil => simp [idxOf]
  | cons x l ih =>
    simp only [idxOf, List.any_cons]
    by_cases hx : p x = true
    · simp [hx]
    · simp only [hx, if_false, Bool.false_eq_true, Bool.false_or, ← ih]
      split <;> omega

def IdxPost (w : World) (p : Ln → Bool) (l : List Ln) (e : Ending) (w' : World) : Prop := e = .returned (.int .i64 (idxOf p l)) ∧ Below w.heap.size w w'

set_option maxRecDepth 100000 in
set_option maxHeartbeats 2000000 in
theorem index_any (v : Value) (l : List Ln) (g : Nat) (cap : Array Value) (p : Ln → Bool) (w : World) (hl : LinesAt w v l)
    (eg : ∀ args w, (callFunc g args).run Try.prog w = .ok (.enter g args) w)
    (hp : ∀ x ∈ l, ∀ W, Below w.heap.size w W → Calls Try.prog g (#[x.val] ++ cap) W fun e w' => e = .returned (.bool (p x)) ∧ Below W.heap.size W w') :
    Calls Try.prog 48 #[v, .func (.func g) #[] cap] w (IdxPost w p l) := by
  obtain ⟨A, c, rfl, ⟨hlc, hm⟩, hok, hc⟩ := hl
  have HP := Lib.hid hp
  have HC := Lib.hid hc
  clear hp hc hok
  go_enter Try.func48, Try.ntmps48
  go_wp2_with fail
  go_loopw [5, 8] (fun _ iv wr => ∃ k : Nat, k ≤ l.length ∧ iv = .int .i64 k ∧ Asi (∀ j y, j < k → l[j]? = some y → p y = false) ∧ Below w.heap.size w wr) (fun _ iv _ => l.length - (intOf iv).toNat)
  case atStart => exact ⟨0, by omega, rfl, ⟨fun j y hj => absurd hj (by omega)⟩, Below.refl _ _⟩
  case round =>
    obtain ⟨k, hk, rfl, hno, hB⟩ := hrel
    by_cases hlt : k < l.length
    · obtain ⟨b, o, rfl, hb, hcell⟩ := HC.out (by omega)
      obtain ⟨x, hx⟩ : ∃ x, l[k]? = some x := ⟨_, List.getElem?_eq_getElem hlt⟩
      obtain ⟨h0, h1, h2⟩ := hcell k x hx
      have g0 := (hB.cell (p := ⟨b, o + k * 3, none⟩) hb).trans h0
      have g1 := (hB.cell (p := ⟨b, o + k * 3 + 1, none⟩) hb).trans h1
      have g2 := (hB.cell (p := ⟨b, o + k * 3 + 2, none⟩) hb).trans h2
      have CX := Lib.hid (HP.out x (List.mem_of_getElem? hx) wr hB)
      have HX := Lib.hid hx
      clear h0 h1 h2 hcell hx
      go_wp2_with fail
      refine CX.out.mono ?_
      rintro e w' ⟨rfl, hb'⟩
      have hB2 := hB.trans (hb'.mono hB.size)
      cases hpx : p x
      · have HPX := Lib.hid hpx
        clear hpx
        go_wp2_with fail
        go_roundw
        case rel =>
          refine ⟨k + 1, by omega, by go_num, ⟨fun j y hj hy => ?_⟩, hB2⟩
          by_cases e : j = k
          · subst e
            rw [HX.out] at hy
            cases hy
            exact HPX.out
          · exact hno.out j y (by omega) hy
        case measure => simp [intOf]; omega
      · have HPX := Lib.hid hpx
        clear hpx
        go_wp2_with fail
        go_ret
        exact ⟨by rw [idxOf_at HX.out HPX.out hno.out]; rfl, hB2⟩
    · go_wp2_with fail
      go_ret
      exact ⟨by rw [idxOf_none (fun x hx => by
        obtain ⟨j, hj⟩ := List.getElem?_of_mem hx
        exact hno.out j x (by have := (List.getElem?_eq_some_iff.1 hj).1; omega) hj)]; rfl, hB⟩

theorem contains_any (v : Value) (l : List Ln) (g : Nat) (cap : Array Value) (p : Ln → Bool) (w : World) (hl : LinesAt w v l)
    (eg : ∀ args w, (callFunc g args).run Try.prog w = .ok (.enter g args) w)
    (hp : ∀ x ∈ l, ∀ W, Below w.heap.size w W → Calls Try.prog g (#[x.val] ++ cap) W fun e w' => e = .returned (.bool (p x)) ∧ Below W.heap.size W w') :
    Calls Try.prog 41 #[v, .func (.func g) #[] cap] w fun e w' => e = .returned (.bool (l.any p)) ∧ Below w.heap.size w w' := by
  have HI := Lib.hid (index_any v l g cap p w hl eg hp)
  have HF : Hid (∀ b, b = l.any p → Ending.returned (.bool b) = .returned (.bool (l.any p))) := fun b h => by rw [h]
  have hw := idxOf_any p l
  have HW := Lib.hid hw
  obtain ⟨A, c, rfl, _⟩ := hl
  clear hp hw
  go_enter Try.func41, Try.ntmps41
  go_wp2_with fail
  refine HI.out.mono ?_
  rintro e w' ⟨rfl, hb⟩
  go_wp2_with fail
  go_ret
  exact ⟨HF.out _ (by rw [Bool.eq_iff_iff, ← HW.out]; simp), hb⟩

/-- What an entry's lines may be. -/
def shapedB (l : List Ln) : Bool := decide (1 ≤ l.length) && decide (l.length ≤ 32) && !l.any oddB

theorem shaped_any (v : Value) (l : List Ln) (w : World) (hl : LinesAt w v l) :
    Calls Try.prog 22 #[v] w fun e w' => e = .returned (.bool (shapedB l)) ∧ Below w.heap.size w w' := by
  have eg : ∀ args w, (callFunc 39 args).run Try.prog w = .ok (.enter 39 args) w := enters_of Try.func39 (by kernel_rfl) rfl
  have HI := Lib.hid (contains_any v l 39 #[] oddB w hl eg (fun x _ W _ => odd_any x W))
  have HF : Hid (∀ b, b = shapedB l → Ending.returned (.bool b) = .returned (.bool (shapedB l))) := fun b h => by rw [h]
  obtain ⟨A, c, rfl, hm, hok, hc⟩ := hl
  have HS : Hid (shapedB l = (decide (1 ≤ l.length) && decide (l.length ≤ 32) && !l.any oddB)) := rfl
  clear hok hc eg
  generalize l.any oddB = q at HI HS
  go_enter Try.func22, Try.ntmps22
  go_wp2_with (go_at_call 41; refine HI.out.mono ?_; rintro e w' ⟨rfl, hb⟩)
  all_goals go_ret
  all_goals refine ⟨HF.out _ ?_, ?_⟩
  all_goals first | exact hb | exact Below.refl _ _ | skip
  all_goals (rw [HS.out, Bool.eq_iff_iff]; simp; try omega)
end Go.Proofs.Ytjljfkioiglaiaa
