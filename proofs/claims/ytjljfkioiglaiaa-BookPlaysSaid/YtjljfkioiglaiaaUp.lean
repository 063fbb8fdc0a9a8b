/- The head of the laws: the document's example. -/
import Derived.Test.YtjljfkioiglaiaaTrial
import Derived.Test.YtjljfkioiglaiaaPlain
set_option linter.unusedVariables false
set_option linter.unusedSimpArgs false
namespace Go.Proofs.Ytjljfkioiglaiaa
open Go.RowKit Go.Shelf

/-- A sorted list of lines is told by what it holds. -/
theorem sorted_unique {l m : List Ln} (hl : Sorted l) (hm : Sorted m) (nl : (l.map (·.f0)).Nodup) (nm : (m.map (·.f0)).Nodup) (h : ∀ x, x ∈ l ↔ x ∈ m) : l = m := by
  have pw : ∀ {l : List Ln}, Sorted l → l.Pairwise (fun x y => lessB y.f0 x.f0 = false) := fun {l} hl => by
    rw [List.pairwise_iff_getElem]
    intro i j hi hj hij
    exact hl i j _ _ hij (List.getElem?_eq_getElem hi) (List.getElem?_eq_getElem hj)
  have nd : ∀ {l : List Ln}, (l.map (·.f0)).Nodup → l.Nodup := fun h => (List.pairwise_map.1 h).imp (fun hne e => hne (by rw [e]))
  refine List.Perm.eq_of_pairwise (le := fun x y => lessB y.f0 x.f0 = false) (fun a b ha hb h1 h2 => ?_) (pw hl) (pw hm) ((List.perm_ext_iff_of_nodup (nd nl) (nd nm)).2 h)
  have hb' := (h b).2 hb
  rw [← Bool.not_eq_true, lessB_iff] at h1 h2
  have e : a.f0 = b.f0 := by
    obtain ⟨⟨a1, a2⟩, a3⟩ := a
    obtain ⟨⟨b1, b2⟩, b3⟩ := b
    simp only at h1 h2 ⊢
    congr 1 <;> omega
  obtain ⟨i, hi⟩ := List.getElem?_of_mem ha
  obtain ⟨j, hj⟩ := List.getElem?_of_mem hb'
  have hii := (List.getElem?_eq_some_iff.1 hi).1
  have : i = j := (List.getElem?_inj (l := l.map (·.f0)) (by simpa using hii) nl).1 (by rw [List.getElem?_map, List.getElem?_map, hi, hj]; simp [e])
  subst this
  rw [hi] at hj
  exact Option.some.inj hj

def upL : List Ln := [⟨⟨1, 0⟩, 5⟩, ⟨⟨5, 1⟩, -5⟩]
theorem up_err : errB ⟨[], fun _ => none⟩ upL = 0 := by decide
theorem up_bal : ∃ nx, postB ⟨[], fun _ => none⟩ upL = ⟨[(upL, false)], nx⟩ ∧ nx = fun a => if a = ⟨5, 1⟩ then some (-5) else if a = ⟨1, 0⟩ then some 5 else none := by
  obtain ⟨_, _, nx, hg⟩ := errB_zero up_err
  refine ⟨_, postB_bal up_err hg, ?_⟩
  have : goB (fun _ => none) upL = some fun a => if a = ⟨5, 1⟩ then some (-5) else if a = ⟨1, 0⟩ then some 5 else none := by rfl
  rw [this] at hg
  rw [← Option.some.inj hg]
  funext a
  simp
theorem up_trial {l : List Ln} (hm : ∀ x, x ∈ l ↔ (postB ⟨[], fun _ => none⟩ upL).bal x.f0 = some x.f1 ∧ x.f1 ≠ 0) (hn : (l.map (·.f0)).Nodup) (hs : Sorted l) : l = upL := by
  refine sorted_unique hs ?_ hn (by decide) fun x => ?_
  · intro i j x y hij hx hy
    have hj := (List.getElem?_eq_some_iff.1 hy).1
    have hj2 : j < 2 := hj
    obtain rfl : i = 0 := by omega
    obtain rfl : j = 1 := by omega
    simp [upL] at hx hy
    subst hx hy
    decide
  · obtain ⟨nx, e, h⟩ := up_bal
    rw [hm, e, h]
    obtain ⟨a, z⟩ := x
    simp only [upL, List.mem_cons, List.not_mem_nil, or_false, Ln.mk.injEq]
    by_cases h5 : a = ⟨5, 1⟩
    · subst h5
      simp
      omega
    · by_cases h1 : a = ⟨1, 0⟩
      · subst h1
        simp [h5]
        omega
      · simp [h1, h5]
theorem up_lines (w : World) (A : Option Addr) : LinesAt (w.alloc (Obj.cells #[.int .i64 1, .int .i64 0, .int .i64 5, .int .i64 5, .int .i64 1, .int .i64 (-5)] 43)) (.slice (some ⟨w.heap.size, 0, none⟩) 2 2) upL := by
  have hb := get_new w (Obj.cells #[.int .i64 1, .int .i64 0, .int .i64 5, .int .i64 5, .int .i64 1, .int .i64 (-5)] 43)
  refine ⟨_, 2, rfl, ⟨by decide, by decide⟩, ?_, fun _ => ⟨_, 0, rfl, by simp, fun j x hj => ?_⟩⟩
  · intro x hx
    simp [upL] at hx
    rcases hx with rfl | rfl <;> simp [LnOk, I64]
  · have hj2 : j < 2 := (List.getElem?_eq_some_iff.1 hj).1
    rcases (show j = 0 ∨ j = 1 by omega) with rfl | rfl
    · simp [upL] at hj
      subst hj
      exact ⟨cell_at hb 0 rfl, cell_at hb 1 rfl, cell_at hb 2 rfl⟩
    · simp [upL] at hj
      subst hj
      exact ⟨cell_at hb 3 rfl, cell_at hb 4 rfl, cell_at hb 5 rfl⟩
theorem up_post {bb mb : Nat} {w : World} {v : Value} (hB : BookAt w bb mb (.slice none 0 0) ⟨[], fun _ => none⟩) (hl : LinesAt w v upL) :
    Calls Try.prog 10 #[.pointer (some ⟨bb, 0, none⟩), v] w fun e w' => ∃ ev', e = .returned (.tuple #[.int .i64 0, .nilIface]) ∧ BookAt w' bb mb ev' (postB ⟨[], fun _ => none⟩ upL) ∧ Chg (MutB bb mb (.slice none 0 0)) w w' ∧ ∀ k, k < w.heap.size → ev'.ownBlock = some k → (Value.slice none 0 0).ownBlock = some k :=
  post_ok hB hl (by simp) (by decide) up_err
theorem up_trial_any {bb mb : Nat} {ev : Value} {w : World} (hB : BookAt w bb mb ev (postB ⟨[], fun _ => none⟩ upL)) :
    Calls Try.prog 11 #[.pointer (some ⟨bb, 0, none⟩)] w fun e w' => ∃ c b o, e = .returned (.slice (some ⟨b, o, none⟩) 2 c) ∧ 2 ≤ c ∧ w'.cell? ⟨b, o + 2, none⟩ = some (.int .i64 5) ∧ w'.cell? ⟨b, o + 4, none⟩ = some (.int .i64 1) ∧ Below w.heap.size w w' := by
  obtain ⟨s, _, h2, h3⟩ := (Good.new.post upL).sup
  refine (trial_any bb mb ev _ w hB s (by omega) h3).mono ?_
  rintro e w' ⟨v, l, rfl, hL, hm, hn, hs, _, hb⟩
  obtain rfl := up_trial hm hn hs
  obtain ⟨A, c, rfl, hc, _, hcell⟩ := hL
  obtain ⟨b, o, rfl, _, hcc⟩ := hcell (by decide)
  exact ⟨c, b, o, rfl, hc.1, (hcc 0 _ rfl).2.2, (hcc 1 _ rfl).2.1, hb⟩

set_option maxRecDepth 100000 in
set_option maxHeartbeats 4000000 in
theorem up_any (w : World) : Calls Try.prog 5 #[] w fun e w' => e = .returned (.bool true) ∧ Below w.heap.size w w' := by
  go_enter Try.func5, Try.ntmps5
  go_wp2_with (first
    | (go_at_call 7; refine (new_any _).mono ?_; rintro e w1 ⟨bb, mb, rfl, hB, hb, hbb, hmb⟩; have HB := Lib.hid hB; have hs1 := hb.size; clear hB)
    | (go_at_call 10; refine (up_post (HB.out.below (below_alloc' w1 _)) (up_lines w1 none)).mono ?_; rintro e w2 ⟨ev2, rfl, hB2, hC2, hev2⟩; have HB2 := Lib.hid hB2; have HC2 := Lib.hid hC2; clear hB2 hC2 hev2)
    | (go_at_call 11; refine (up_trial_any HB2.out).mono ?_; rintro e w3 ⟨c, b, o, rfl, hc, h5, h1, hb3⟩))
  go_ret
  refine ⟨rfl, ?_⟩
  have h2 : Below w.heap.size w1 w2 := ((below_alloc' w1 _).mono hs1).trans (HC2.out.below (fun i _ h => by
    rcases h with rfl | rfl | h
    · exact hbb
    · exact hmb
    · simp [Value.ownBlock] at h) (by simp; omega))
  exact (hb.trans h2).trans (hb3.mono (Nat.le_trans hs1 h2.size))
end Go.Proofs.Ytjljfkioiglaiaa
