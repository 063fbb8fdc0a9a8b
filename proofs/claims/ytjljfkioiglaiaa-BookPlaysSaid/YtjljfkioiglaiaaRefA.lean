/- Plain law: the balances are the sums of all entries' lines; what the reference's Trial gathers. -/
import Derived.Test.YtjljfkioiglaiaaRef8
set_option linter.unusedVariables false
set_option linter.unusedSimpArgs false
namespace Go.Proofs.Ytjljfkioiglaiaa
open Go.RowKit

theorem accS_nil (a : Acc) : accS a [] = 0 := rfl
theorem sumOf_more (es : List (List Ln × Bool)) (l : List Ln) (a : Acc) : sumOf es l a = sumOf es [] a + accS a l := by
  simp [sumOf, accS_append, accS_nil]
theorem go_val {bal : Acc → Option Int} (l : List Ln) : ∀ (nx nx' : Acc → Option Int), l.foldlM (stepB bal) nx = some nx' → ∀ a, valN bal nx' a = valN bal nx a + accS a l := by
  induction l with
  | nil =>
    intro nx nx' h a
    simp at h
    subst h
    rw [accS_nil, Int.add_zero]
  | cons x l ih =>
    intro nx nx' h a
    rw [List.foldlM_cons] at h
    cases h1 : stepB bal nx x with
    | none => rw [h1] at h; cases h
    | some nx1 =>
      rw [h1] at h
      have e := stepB_some h1
      rw [ih nx1 nx' h a, show x :: l = [x] ++ l from rfl, accS_append, accS_one]
      have : valN bal nx1 a = valN bal nx a + if x.f0 = a then x.f1 else 0 := by
        by_cases hx : x.f0 = a
        · subst hx
          conv => lhs; unfold valN
          rw [e]
          simp
        · have hx' : ¬ a = x.f0 := fun h => hx h.symm
          conv => lhs; unfold valN
          rw [e]
          simp only [hx, hx', if_false, Int.add_zero]
          rfl
      omega
theorem go_fits {bal : Acc → Option Int} (l : List Ln) : ∀ (nx nx' : Acc → Option Int), (∀ a x, nx a = some x → fitsB x = true) → l.foldlM (stepB bal) nx = some nx' → ∀ a x, nx' a = some x → fitsB x = true := by
  induction l with
  | nil =>
    intro nx nx' h0 h
    simp at h
    subst h
    exact h0
  | cons x l ih =>
    intro nx nx' h0 h
    rw [List.foldlM_cons] at h
    cases h1 : stepB bal nx x with
    | none => rw [h1] at h; cases h
    | some nx1 =>
      rw [h1] at h
      refine ih nx1 nx' (fun a z hz => ?_) h
      have e := stepB_some h1
      rw [e] at hz
      by_cases hx : a = x.f0
      · simp only [hx, if_true] at hz
        cases hz
        unfold stepB at h1
        split at h1
        · rename_i hc
          simp at hc
          simpa [valN] using hc.1
        · cases h1
      · simp only [hx, if_false] at hz
        exact h0 a z hz

/-- Balances are sums. -/
structure Link (B : Bk) : Prop where
  sum : ∀ a, (B.bal a).getD 0 = sumOf B.es [] a
  fits : ∀ a x, B.bal a = some x → fitsB x = true
  each : ∀ e ∈ B.es, shapedB e.1 = true

theorem Link.new : Link ⟨[], fun _ => none⟩ := ⟨fun _ => rfl, by simp, by simp⟩
theorem Link.val {B : Bk} (h : Link B) {l : List Ln} {k : Nat} {nx : Acc → Option Int} {x : Ln} (hg : goB B.bal (l.take k) = some nx) (hx : l[k]? = some x) : valN B.bal nx x.f0 + x.f1 = sumOf B.es (l.take (k + 1)) x.f0 := by
  have h1 := go_val _ _ _ hg x.f0
  have hlt := (List.getElem?_eq_some_iff.1 hx).1
  have he : l[k] = x := (List.getElem?_eq_some_iff.1 hx).2
  have e0 : valN B.bal (fun _ => none) x.f0 = sumOf B.es [] x.f0 := h.sum x.f0
  rw [sumOf_more, List.take_succ_eq_append_getElem hlt, accS_append, he, accS_one, if_pos rfl]
  omega
theorem step_none {bal nx : Acc → Option Int} {x : Ln} : stepB bal nx x = none ↔ (fitsB (valN bal nx x.f0 + x.f1) = false ∨ x.f1 = -9223372036854775808) := by
  unfold stepB
  rw [show (nx x.f0).getD ((bal x.f0).getD 0) = valN bal nx x.f0 from rfl]
  cases hf : fitsB (valN bal nx x.f0 + x.f1) <;> by_cases hm : x.f1 = -9223372036854775808 <;> simp [hm]
theorem Link.bad {B : Bk} (h : Link B) {l : List Ln} (hg : goB B.bal l = none) : ∃ i, Bad3 B.es l i := by
  have key : ∀ k, k ≤ l.length → goB B.bal (l.take k) = none → ∃ i, Bad3 B.es l i := by
    intro k
    induction k with
    | zero => intro _ h'; simp [goB] at h'
    | succ k ih =>
      intro hk h'
      obtain ⟨x, hx⟩ : ∃ x, l[k]? = some x := ⟨_, List.getElem?_eq_getElem (by omega)⟩
      cases hp : goB B.bal (l.take k) with
      | none => exact ih (by omega) hp
      | some nx =>
        rw [goB_snoc B.bal l k x hx, hp] at h'
        have h2 : stepB B.bal nx x = none := h'
        rw [step_none, h.val hp hx] at h2
        exact ⟨k, x, hx, h2⟩
  exact key l.length (Nat.le_refl _) (by rwa [List.take_length])
theorem Link.good {B : Bk} (h : Link B) {l : List Ln} {nx' : Acc → Option Int} (hg : goB B.bal l = some nx') (i : Nat) : ¬ Bad3 B.es l i := by
  rintro ⟨x, hx, hb⟩
  cases hp : goB B.bal (l.take i) with
  | none => rw [goB_none _ _ _ hp] at hg; cases hg
  | some nx =>
    rw [← h.val hp hx, ← step_none] at hb
    have h3 : goB B.bal (l.take (i + 1)) = none := by rw [goB_snoc B.bal l i x hx, hp]; exact hb
    rw [goB_none _ _ _ h3] at hg
    cases hg
theorem Link.may {B : Bk} (h : Link B) {l : List Ln} {r : Int} (hm : MayIs B.es l r) : r = errB B l := by
  unfold errB
  rcases hm with ⟨h1, rfl⟩ | ⟨h1, h2, rfl⟩ | ⟨h1, h2, h3, rfl⟩ | ⟨h1, h2, h3, ⟨i, h4⟩, rfl⟩ | ⟨h1, h2, h3, h4, rfl⟩
  · rw [if_pos h1]
  · rw [if_neg (by omega), if_pos h2]
  · rw [if_neg (by omega), if_neg (by simp [h2]), if_pos h3]
  · rw [if_neg (by omega), if_neg (by simp [h2]), if_neg (by simp [h3])]
    cases hg : goB B.bal l with
    | none => rfl
    | some nx => exact absurd h4 (h.good hg i)
  · rw [if_neg (by omega), if_neg (by simp [h2]), if_neg (by simp [h3])]
    cases hg : goB B.bal l with
    | none =>
      obtain ⟨i, hi⟩ := h.bad hg
      exact absurd hi (h4 i)
    | some nx => rfl
theorem Link.post {B : Bk} (h : Link B) (l : List Ln) : Link (postB B l) := by
  by_cases he : errB B l = 0
  · obtain ⟨hs, hz, nx, hg⟩ := errB_zero he
    rw [postB_bal he hg]
    refine ⟨fun a => ?_, fun a x hx => ?_, fun e he' => ?_⟩
    · have h1 := go_val _ _ _ hg a
      have e0 : valN B.bal (fun _ => none) a = sumOf B.es [] a := h.sum a
      have e1 : ((nx a).or (B.bal a)).getD 0 = valN B.bal nx a := by unfold valN; cases nx a <;> rfl
      show ((nx a).or (B.bal a)).getD 0 = sumOf (B.es ++ [(l, false)]) [] a
      rw [e1, h1, e0]
      simp [sumOf, allL, accS_append, accS_nil]
    · have hx' : (nx a).or (B.bal a) = some x := hx
      cases hn : nx a with
      | none => rw [hn] at hx'; exact h.fits a x hx'
      | some y =>
        rw [hn] at hx'
        cases hx'
        exact go_fits _ _ _ (by simp) hg a _ hn
    · rcases List.mem_append.1 he' with h' | h'
      · exact h.each e h'
      · rw [List.mem_singleton.1 h']; exact hs
  · rw [postB, if_neg he]
    exact h
theorem map_modify (es : List (List Ln × Bool)) (i : Nat) : (es.modify i (fun e => (e.1, true))).map (·.1) = es.map (·.1) := by
  apply List.ext_getElem?
  intro j
  simp only [List.getElem?_map, List.getElem?_modify]
  cases es[j]? with
  | none => rfl
  | some e => by_cases h : i = j <;> simp [h]
theorem allL_map (es : List (List Ln × Bool)) : allL es = (es.map (·.1)).flatten := by simp [allL, List.flatMap]
theorem allL_mark (B : Bk) (i : Nat) : allL (markB B i).es = allL B.es := by
  rw [allL_map, allL_map, markB, map_modify]
theorem Link.mark {B : Bk} (h : Link B) (i : Nat) : Link (markB B i) := by
  refine ⟨fun a => ?_, h.fits, fun e he => ?_⟩
  · rw [sumOf, allL_mark]
    exact h.sum a
  · have : e.1 ∈ (markB B i).es.map (·.1) := List.mem_map.2 ⟨e, he, rfl⟩
    rw [markB, map_modify] at this
    obtain ⟨e', h1, h2⟩ := List.mem_map.1 this
    rw [← h2]
    exact h.each e' h1
theorem Link.rev {B : Bk} (h : Link B) (n : Int) : Link (revB B n) := by
  unfold revB
  split
  · exact h
  · exact h
  · split
    · exact ((h.post _).mark _).mark _
    · exact h

theorem shaped_acc {l : List Ln} (h : shapedB l = true) {x : Ln} (hx : x ∈ l) : 1 ≤ x.f0.f0 ∧ x.f0.f0 ≤ 12 ∧ 0 ≤ x.f0.f1 ∧ x.f0.f1 ≤ 65536 := by
  simp only [shapedB, Bool.and_eq_true, Bool.not_eq_true', decide_eq_true_eq] at h
  have h2 := h.2
  rw [← Bool.not_eq_true, List.any_eq_true] at h2
  have h3 : ¬ oddB x = true := fun ho => h2 ⟨x, hx, ho⟩
  simp only [oddB, Bool.or_eq_true, not_or, Bool.not_eq_true', Bool.not_eq_false] at h3
  have h4 := h3.2
  simp only [mayB, Bool.and_eq_true, decide_eq_true_eq] at h4
  obtain ⟨⟨h5, h6⟩, h7⟩ := h4
  split at h7 <;> simp at h7 <;> omega
theorem Link.acc {B : Bk} (h : Link B) {x : Ln} (hx : x ∈ allL B.es) : 1 ≤ x.f0.f0 ∧ x.f0.f0 ≤ 12 ∧ 0 ≤ x.f0.f1 ∧ x.f0.f1 ≤ 65536 := by
  obtain ⟨e, he, hxe⟩ := List.mem_flatMap.1 hx
  exact shaped_acc (h.each e he) hxe
theorem Link.len {B : Bk} (h : Link B) : (allL B.es).length ≤ 32 * B.es.length := by
  have : ∀ es : List (List Ln × Bool), (∀ e ∈ es, shapedB e.1 = true) → (allL es).length ≤ 32 * es.length := by
    intro es
    induction es with
    | nil => simp [allL]
    | cons e es ih =>
      intro h
      have h1 := h e (List.mem_cons_self ..)
      have h2 := ih (fun e he => h e (List.mem_cons_of_mem _ he))
      have h3 : e.1.length ≤ 32 := by simp [shapedB] at h1; omega
      simp [allL] at h2 ⊢
      omega
  exact this _ h.each

/-- The least Of of a kind above the last one, so far; below 0: none. -/
def nextOf (kind last nx : Int) (x : Ln) : Int := if x.f0.f0 = kind ∧ last < x.f0.f1 ∧ (nx < 0 ∨ x.f0.f1 < nx) then x.f0.f1 else nx
def nextIn (kind last : Int) (L : List Ln) : Int := L.foldl (nextOf kind last) (-1)
theorem next_snoc (kind last : Int) (L : List Ln) (x : Ln) : nextIn kind last (L ++ [x]) = nextOf kind last (nextIn kind last L) x := by simp [nextIn]
structure NextIs (kind last : Int) (L : List Ln) (r : Int) : Prop where
  lo : -1 ≤ r
  none : r < 0 → ∀ x ∈ L, x.f0.f0 = kind → x.f0.f1 ≤ last
  some : 0 ≤ r → last < r ∧ (∃ x ∈ L, x.f0 = ⟨kind, r⟩) ∧ ∀ x ∈ L, x.f0.f0 = kind → last < x.f0.f1 → r ≤ x.f0.f1
theorem next_is (kind last : Int) (L : List Ln) (h : ∀ x ∈ L, 0 ≤ x.f0.f1) : NextIs kind last L (nextIn kind last L) := by
  have key : ∀ (M D : List Ln) (r : Int), NextIs kind last D r → (∀ x ∈ M, 0 ≤ x.f0.f1) → NextIs kind last (D ++ M) (M.foldl (nextOf kind last) r) := by
    intro M
    induction M with
    | nil => intro D r h _; simpa using h
    | cons x M ih =>
      intro D r h hM
      have e : D ++ x :: M = (D ++ [x]) ++ M := by simp
      rw [e, List.foldl_cons]
      have hx := hM x (List.mem_cons_self ..)
      refine ih (D ++ [x]) _ ?_ (fun y hy => hM y (List.mem_cons_of_mem _ hy))
      obtain ⟨h0, h1, h2⟩ := h
      unfold nextOf
      split
      · rename_i hc
        obtain ⟨c1, c2, c3⟩ := hc
        refine ⟨by omega, fun h => by omega, fun _ => ⟨c2, ⟨x, by simp, by obtain ⟨⟨a, b⟩, m⟩ := x; simp at c1 ⊢; exact c1⟩, fun y hy hk hl => ?_⟩⟩
        rcases List.mem_append.1 hy with hy | hy
        · by_cases hr : r < 0
          · have := h1 hr y hy hk; omega
          · have := (h2 (by omega)).2.2 y hy hk hl; omega
        · rw [List.mem_singleton.1 hy]; omega
      · rename_i hc
        refine ⟨h0, fun hr y hy hk => ?_, fun hr => ?_⟩
        · rcases List.mem_append.1 hy with hy | hy
          · exact h1 hr y hy hk
          · rw [List.mem_singleton.1 hy] at hk ⊢
            have : ¬ last < x.f0.f1 := fun hl => hc ⟨hk, hl, .inl hr⟩
            omega
        · obtain ⟨g1, ⟨y, g2, g3⟩, g4⟩ := h2 hr
          refine ⟨g1, ⟨y, List.mem_append.2 (.inl g2), g3⟩, fun z hz hk hl => ?_⟩
          rcases List.mem_append.1 hz with hz | hz
          · exact g4 z hz hk hl
          · rw [List.mem_singleton.1 hz] at hk hl ⊢
            have : ¬ x.f0.f1 < r := fun hl' => hc ⟨hk, hl, .inr hl'⟩
            omega
  have := key L [] (-1) ⟨by omega, by simp, fun h => by omega⟩ h
  rw [List.nil_append] at this
  exact this

/-- What the reference's Trial has gathered when it is at a kind, behind the account 'last' of it. -/
structure Gath (es : List (List Ln × Bool)) (kind last : Int) (out : List Ln) : Prop where
  mem : ∀ x, x ∈ out ↔ (x.f0 ∈ (allL es).map (·.f0) ∧ sumOf es [] x.f0 = x.f1 ∧ x.f1 ≠ 0 ∧ (x.f0.f0 < kind ∨ (x.f0.f0 = kind ∧ x.f0.f1 ≤ last)))
  sorted : out.Pairwise (fun x y => lessB x.f0 y.f0 = true)
theorem Gath.start {B : Bk} (h : Link B) : Gath B.es 1 (-1) [] := ⟨fun x => by
  simp only [List.not_mem_nil, false_iff, not_and]
  intro h1
  obtain ⟨y, hy, e⟩ := List.mem_map.1 h1
  have := h.acc hy
  rw [e] at this
  omega, List.Pairwise.nil⟩
theorem Gath.over {B : Bk} (h : Link B) {kind last : Int} {out : List Ln} (g : Gath B.es kind last out) (hn : nextIn kind last (allL B.es) < 0) : Gath B.es (kind + 1) (-1) out := by
  have hx := next_is kind last (allL B.es) (fun x hx => (h.acc hx).2.2.1)
  refine ⟨fun x => (g.mem x).trans ?_, g.sorted⟩
  constructor
  · rintro ⟨h1, h2, h3, h4⟩
    exact ⟨h1, h2, h3, by omega⟩
  · rintro ⟨h1, h2, h3, h4⟩
    obtain ⟨y, hy, e⟩ := List.mem_map.1 h1
    have ha := h.acc hy
    refine ⟨h1, h2, h3, ?_⟩
    by_cases hk : x.f0.f0 = kind
    · have := hx.none hn y hy (by rw [e]; exact hk)
      rw [e] at this
      exact .inr ⟨hk, this⟩
    · rw [e] at ha
      omega
theorem Gath.next {B : Bk} (h : Link B) {kind last r : Int} {out : List Ln} (g : Gath B.es kind last out) (hr : nextIn kind last (allL B.es) = r) (h0 : 0 ≤ r) :
    Gath B.es kind r (if sumOf B.es [] ⟨kind, r⟩ = 0 then out else out ++ [⟨⟨kind, r⟩, sumOf B.es [] ⟨kind, r⟩⟩]) := by
  have hx := next_is kind last (allL B.es) (fun x hx => (h.acc hx).2.2.1)
  rw [hr] at hx
  obtain ⟨g1, ⟨z, hz, ez⟩, g3⟩ := hx.some h0
  have hin : (⟨kind, r⟩ : Acc) ∈ (allL B.es).map (·.f0) := List.mem_map.2 ⟨z, hz, ez⟩
  have hold : ∀ x : Ln, x.f0 ∈ (allL B.es).map (·.f0) → ((x.f0.f0 < kind ∨ (x.f0.f0 = kind ∧ x.f0.f1 ≤ r)) ↔ ((x.f0.f0 < kind ∨ (x.f0.f0 = kind ∧ x.f0.f1 ≤ last)) ∨ x.f0 = ⟨kind, r⟩)) := by
    intro x hx
    obtain ⟨y, hy, e⟩ := List.mem_map.1 hx
    constructor
    · rintro (h1 | ⟨h1, h2⟩)
      · exact .inl (.inl h1)
      · by_cases hl : last < x.f0.f1
        · have := g3 y hy (by rw [e]; exact h1) (by rw [e]; exact hl)
          rw [e] at this
          refine .inr ?_
          obtain ⟨⟨a, b⟩, m⟩ := x
          simp at h1 h2 this ⊢
          omega
        · exact .inl (.inr ⟨h1, by omega⟩)
    · rintro ((h1 | ⟨h1, h2⟩) | h1)
      · exact .inl h1
      · exact .inr ⟨h1, by omega⟩
      · rw [h1]; exact .inr ⟨rfl, by simp⟩
  by_cases hs : sumOf B.es [] ⟨kind, r⟩ = 0
  · rw [if_pos hs]
    refine ⟨fun x => (g.mem x).trans ?_, g.sorted⟩
    constructor
    · rintro ⟨h1, h2, h3, h4⟩
      exact ⟨h1, h2, h3, (hold x h1).2 (.inl h4)⟩
    · rintro ⟨h1, h2, h3, h4⟩
      rcases (hold x h1).1 h4 with h5 | h5
      · exact ⟨h1, h2, h3, h5⟩
      · rw [h5, hs] at h2; exact absurd h2.symm h3
  · rw [if_neg hs]
    refine ⟨fun x => ?_, List.pairwise_append.2 ⟨g.sorted, List.pairwise_singleton _ _, fun x hx y hy => ?_⟩⟩
    · rw [List.mem_append, List.mem_singleton, g.mem]
      constructor
      · rintro (⟨h1, h2, h3, h4⟩ | rfl)
        · exact ⟨h1, h2, h3, (hold x h1).2 (.inl h4)⟩
        · exact ⟨hin, rfl, hs, .inr ⟨rfl, Int.le_refl _⟩⟩
      · rintro ⟨h1, h2, h3, h4⟩
        rcases (hold x h1).1 h4 with h5 | h5
        · exact .inl ⟨h1, h2, h3, h5⟩
        · right
          obtain ⟨a, m⟩ := x
          simp only at h5 h2
          subst h5
          rw [h2]
    · rw [List.mem_singleton.1 hy, lessB_iff]
      have := ((g.mem x).1 hx).2.2.2
      dsimp only
      omega

theorem len_sub {α : Type} [DecidableEq α] {s t : List α} (hs : s.Nodup) (h : ∀ x ∈ s, x ∈ t) : s.length ≤ t.length := by
  induction s generalizing t with
  | nil => simp
  | cons a s ih =>
    obtain ⟨h1, h2⟩ := List.nodup_cons.1 hs
    have ha := h a (List.mem_cons_self ..)
    have := ih (t := t.erase a) h2 (fun x hx => by
      have hne : x ≠ a := fun e => h1 (e ▸ hx)
      exact (List.mem_erase_of_ne hne).2 (h x (List.mem_cons_of_mem _ hx)))
    rw [List.length_erase_of_mem ha] at this
    have : 0 < t.length := List.length_pos_of_mem ha
    simp only [List.length_cons]
    omega
/-- How often the search for the next account went on. -/
def Rounds (es : List (List Ln × Bool)) (last : Int) (n : Nat) : Prop := ∃ s : List Int, s.Nodup ∧ s.length = n ∧ ∀ o ∈ s, o ≤ last ∧ o ∈ (allL es).map (·.f0.f1)
theorem Rounds.start (es : List (List Ln × Bool)) : Rounds es (-1) 0 := ⟨[], by simp, rfl, by simp⟩
theorem Rounds.le {B : Bk} (h : Link B) {last : Int} {n : Nat} (hr : Rounds B.es last n) : n ≤ 32 * B.es.length := by
  obtain ⟨s, h1, rfl, h3⟩ := hr
  have := len_sub h1 (fun x hx => (h3 x hx).2)
  rw [List.length_map] at this
  exact Nat.le_trans this h.len
theorem Rounds.next {B : Bk} (h : Link B) {kind last r : Int} {n : Nat} (hr : Rounds B.es last n) (e : nextIn kind last (allL B.es) = r) (h0 : 0 ≤ r) : Rounds B.es r (n + 1) := by
  have hx := next_is kind last (allL B.es) (fun x hx => (h.acc hx).2.2.1)
  rw [e] at hx
  obtain ⟨g1, ⟨z, hz, ez⟩, g3⟩ := hx.some h0
  obtain ⟨s, h1, h2, h3⟩ := hr
  refine ⟨r :: s, List.nodup_cons.2 ⟨fun hm => ?_, h1⟩, by simp [h2], fun o ho => ?_⟩
  · have := (h3 r hm).1; omega
  · rcases List.mem_cons.1 ho with rfl | ho
    · exact ⟨Int.le_refl _, List.mem_map.2 ⟨z, hz, by rw [ez]⟩⟩
    · exact ⟨by have := (h3 o ho).1; omega, (h3 o ho).2⟩

theorem sorted_of {l : List Ln} (h : l.Pairwise (fun x y => lessB x.f0 y.f0 = true)) : Sorted l ∧ (l.map (·.f0)).Nodup := by
  constructor
  · intro i j x y hij hx hy
    obtain ⟨hi, ex⟩ := List.getElem?_eq_some_iff.1 hx
    obtain ⟨hj, ey⟩ := List.getElem?_eq_some_iff.1 hy
    have := List.pairwise_iff_getElem.1 h i j hi hj hij
    rw [ex, ey, lessB_iff] at this
    rw [← Bool.not_eq_true, lessB_iff]
    omega
  · refine List.pairwise_map.2 (h.imp fun {a b} hab e => ?_)
    rw [e, lessB_iff] at hab
    omega
theorem Link.fit {B : Bk} (h : Link B) (a : Acc) : fitsB (sumOf B.es [] a) = true := by
  rw [← h.sum]
  cases hb : B.bal a with
  | none => rfl
  | some x => exact h.fits a x hb
theorem Gath.len {B : Bk} (h : Link B) {kind last : Int} {out : List Ln} (g : Gath B.es kind last out) : out.length ≤ 32 * B.es.length := by
  have hn := (sorted_of g.sorted).2
  have := len_sub hn (t := (allL B.es).map (·.f0)) (fun a ha => by
    obtain ⟨x, hx, rfl⟩ := List.mem_map.1 ha
    exact ((g.mem x).1 hx).1)
  rw [List.length_map, List.length_map] at this
  exact Nat.le_trans this h.len
theorem Gath.ok {B : Bk} (h : Link B) {kind last : Int} {out : List Ln} (g : Gath B.es kind last out) : ∀ x ∈ out, LnOk x := by
  intro x hx
  obtain ⟨h1, h2, _⟩ := (g.mem x).1 hx
  obtain ⟨y, hy, e⟩ := List.mem_map.1 h1
  have ha := h.acc hy
  rw [e] at ha
  have hf := fitsB_iff.1 (h.fit x.f0)
  rw [h2] at hf
  unfold LnOk
  refine ⟨?_, ?_, hf⟩ <;> unfold I64 <;> omega
/-- The two Trials tell the same. -/
theorem Link.trial {B : Bk} (h : Link B) {l m : List Ln} (hl : ∀ x, x ∈ l ↔ B.bal x.f0 = some x.f1 ∧ x.f1 ≠ 0) (nl : (l.map (·.f0)).Nodup) (sl : Sorted l) (g : Gath B.es 13 (-1) m) : l = m := by
  obtain ⟨sm, nm⟩ := sorted_of g.sorted
  refine sorted_unique sl sm nl nm fun x => (hl x).trans ?_
  rw [g.mem, ← h.sum]
  constructor
  · rintro ⟨h1, h2⟩
    have hs : (B.bal x.f0).getD 0 = x.f1 := by rw [h1]; rfl
    have hmem : x.f0 ∈ (allL B.es).map (·.f0) := by
      apply Classical.byContradiction
      intro hn
      have : sumOf B.es [] x.f0 = 0 := by
        have : (allL B.es ++ []).filter (fun (y : Ln) => decide (y.f0 = x.f0)) = [] := by
          rw [List.filter_eq_nil_iff]
          intro y hy
          simp at hy ⊢
          exact fun e => hn (List.mem_map.2 ⟨y, hy, e⟩)
        unfold sumOf accS
        rw [this]
        rfl
      rw [← h.sum, hs] at this
      exact h2 this
    obtain ⟨y, hy, e⟩ := List.mem_map.1 hmem
    have ha := h.acc hy
    rw [e] at ha
    exact ⟨hmem, hs, h2, .inl (by omega)⟩
  · rintro ⟨h1, h2, h3, _⟩
    refine ⟨?_, h3⟩
    cases hb : B.bal x.f0 with
    | none => rw [hb] at h2; exact absurd h2.symm h3
    | some z => rw [hb] at h2; simp at h2; rw [h2]
end Go.Proofs.Ytjljfkioiglaiaa
