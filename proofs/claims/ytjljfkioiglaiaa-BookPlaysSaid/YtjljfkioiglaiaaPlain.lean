/- Plain law: balances sum to 0, whatever is posted and reversed. -/
import Derived.Test.YtjljfkioiglaiaaRev
set_option linter.unusedVariables false
set_option linter.unusedSimpArgs false
namespace Go.Proofs.Ytjljfkioiglaiaa
open Go.RowKit

theorem sums_from (l : List Int) (a : Int) : l.foldl (· + ·) a = a + l.foldl (· + ·) 0 := by
  induction l generalizing a with
  | nil => simp
  | cons x l ih => rw [List.foldl_cons, List.foldl_cons, ih (a + x), ih (0 + x)]; omega
theorem sums_cons (x : Int) (l : List Int) : sums (x :: l) = x + sums l := by
  unfold sums
  rw [List.foldl_cons, sums_from]
  omega
theorem sums_perm {l m : List Int} (h : l.Perm m) : sums l = sums m := by
  induction h with
  | nil => rfl
  | cons x _ ih => rw [sums_cons, sums_cons, ih]
  | swap x y l => simp only [sums_cons]; omega
  | trans _ _ h1 h2 => rw [h1, h2]
theorem sums_update {s : List Acc} {f g : Acc → Int} {a : Acc} (hn : s.Nodup) (ha : a ∈ s) (h : ∀ b, b ≠ a → g b = f b) : sums (s.map g) = sums (s.map f) + (g a - f a) := by
  induction s with
  | nil => simp at ha
  | cons b s ih =>
    rw [List.map_cons, List.map_cons, sums_cons, sums_cons]
    obtain ⟨h1, h2⟩ := List.nodup_cons.1 hn
    by_cases hb : b = a
    · subst hb
      have : s.map g = s.map f := List.map_congr_left fun c hc => h c (fun e => h1 (e ▸ hc))
      rw [this]
      omega
    · rw [ih h2 (by rcases List.mem_cons.1 ha with h | h; exact absurd h.symm hb; exact h), h b hb]
      omega

def valN (bal nx : Acc → Option Int) (a : Acc) : Int := (nx a).getD ((bal a).getD 0)
theorem stepB_some {bal nx nx1 : Acc → Option Int} {x : Ln} (h : stepB bal nx x = some nx1) : nx1 = fun a => if a = x.f0 then some (valN bal nx x.f0 + x.f1) else nx a := by
  unfold stepB at h
  split at h
  · exact (Option.some.inj h).symm
  · cases h
theorem go_from {bal : Acc → Option Int} (l : List Ln) : ∀ (nx nx' : Acc → Option Int), l.foldlM (stepB bal) nx = some nx' →
    (∀ a, (nx a).isSome → (nx' a).isSome) ∧ (∀ a, (nx' a).isSome → (nx a).isSome ∨ a ∈ l.map (·.f0)) ∧
    ∀ s : List Acc, s.Nodup → (∀ a, (nx' a).isSome → a ∈ s) → sums (s.map (valN bal nx')) = sums (s.map (valN bal nx)) + sums (l.map (·.f1)) := by
  induction l with
  | nil =>
    intro nx nx' h
    simp at h
    subst h
    exact ⟨fun _ h => h, fun _ h => .inl h, fun s _ _ => by simp [sums]⟩
  | cons x l ih =>
    intro nx nx' h
    rw [List.foldlM_cons] at h
    cases h1 : stepB bal nx x with
    | none => rw [h1] at h; cases h
    | some nx1 =>
      rw [h1] at h
      obtain ⟨m1, m2, m3⟩ := ih nx1 nx' h
      have e := stepB_some h1
      have hx : (nx' x.f0).isSome := m1 x.f0 (by rw [e]; simp)
      refine ⟨fun a ha => m1 a ?_, fun a ha => ?_, fun s hn hs => ?_⟩
      · rw [e]
        by_cases hax : a = x.f0
        · simp [hax]
        · simp only [hax, if_false]; exact ha
      · rcases m2 a ha with h | h
        · rw [e] at h
          by_cases hax : a = x.f0
          · exact .inr (by simp [hax])
          · simp only [hax, if_false] at h
            exact .inl h
        · exact .inr (List.mem_cons_of_mem _ h)
      · rw [m3 s hn hs, List.map_cons, sums_cons]
        have := sums_update (f := valN bal nx) (g := valN bal nx1) hn (hs _ hx) (fun b hb => by
          unfold valN
          rw [e]
          simp [hb])
        rw [this]
        have : valN bal nx1 x.f0 = valN bal nx x.f0 + x.f1 := by
          conv => lhs; unfold valN
          rw [e]
          simp
        omega

def Zeroed (B : Bk) : Prop := ∀ s : List Acc, s.Nodup → (∀ a, (B.bal a).isSome → a ∈ s) → sums (s.map (fun a => (B.bal a).getD 0)) = 0
theorem errB_zero {B : Bk} {l : List Ln} (h : errB B l = 0) : shapedB l = true ∧ zeroB l = true ∧ ∃ nx, goB B.bal l = some nx := by
  unfold errB at h
  split at h
  · omega
  · split at h
    · omega
    · split at h
      · omega
      · split at h
        · omega
        · rename_i h1 h2 h3
          refine ⟨by simpa using h1, by simpa using h2, ?_⟩
          cases hg : goB B.bal l with
          | none => rw [hg] at h3; simp at h3
          | some nx => exact ⟨nx, rfl⟩
theorem postB_bal {B : Bk} {l : List Ln} {nx : Acc → Option Int} (h : errB B l = 0) (hg : goB B.bal l = some nx) : postB B l = ⟨B.es ++ [(l, false)], fun a => (nx a).or (B.bal a)⟩ := by
  rw [postB, if_pos h, hg]
  rfl

def ins (a : Acc) (s : List Acc) : List Acc := if a ∈ s then s else a :: s
theorem ins_mem {a b : Acc} {s : List Acc} : b ∈ ins a s ↔ b = a ∨ b ∈ s := by
  unfold ins
  split
  · rename_i h
    exact ⟨.inr, fun h' => h'.elim (fun e => e ▸ h) id⟩
  · simp
theorem ins_nodup {a : Acc} {s : List Acc} (h : s.Nodup) : (ins a s).Nodup := by
  unfold ins
  split
  · exact h
  · rename_i h'
    exact List.nodup_cons.2 ⟨h', h⟩
theorem ins_len (a : Acc) (s : List Acc) : (ins a s).length ≤ s.length + 1 := by
  unfold ins
  split <;> simp
def insAll (l s : List Acc) : List Acc := l.foldr ins s
theorem insAll_mem {l s : List Acc} {b : Acc} : b ∈ insAll l s ↔ b ∈ l ∨ b ∈ s := by
  induction l with
  | nil => simp [insAll]
  | cons x l ih =>
    show b ∈ ins x (insAll l s) ↔ _
    rw [ins_mem, ih, List.mem_cons, or_assoc]
theorem insAll_nodup {l s : List Acc} (h : s.Nodup) : (insAll l s).Nodup := by
  induction l with
  | nil => exact h
  | cons x l ih => exact ins_nodup ih
theorem insAll_len (l s : List Acc) : (insAll l s).length ≤ s.length + l.length := by
  induction l with
  | nil => simp [insAll]
  | cons x l ih =>
    have := ins_len x (insAll l s)
    show (ins x (insAll l s)).length ≤ _
    simp only [List.length_cons]
    omega

/-- What holds of books behind k deeds. -/
structure Good (B : Bk) (k : Nat) : Prop where
  len : B.es.length ≤ k
  each : ∀ e ∈ B.es, e.1.length ≤ 32
  sup : ∃ s : List Acc, s.Nodup ∧ s.length ≤ 32 * k ∧ ∀ a, (B.bal a).isSome → a ∈ s
  zero : Zeroed B
theorem Good.new : Good ⟨[], fun _ => none⟩ 0 := ⟨by simp, by simp, ⟨[], by simp, by simp, by simp⟩, fun s _ _ => by
  have : ∀ s : List Acc, sums (s.map (fun a => ((none : Option Int)).getD 0)) = 0 := by
    intro s
    induction s with
    | nil => rfl
    | cons x s ih => rw [List.map_cons, sums_cons, ih]; rfl
  exact this s⟩
theorem Good.more {B : Bk} {k : Nat} (h : Good B k) : Good B (k + 1) := ⟨Nat.le_succ_of_le h.len, h.each, by
  obtain ⟨s, h1, h2, h3⟩ := h.sup
  exact ⟨s, h1, by omega, h3⟩, h.zero⟩
theorem Good.post {B : Bk} {k : Nat} (h : Good B k) (l : List Ln) : Good (postB B l) (k + 1) := by
  by_cases he : errB B l = 0
  · obtain ⟨hs, hz, nx, hg⟩ := errB_zero he
    rw [postB_bal he hg]
    have h32 : l.length ≤ 32 := by simp [shapedB] at hs; omega
    obtain ⟨m1, m2, m3⟩ := go_from l _ _ hg
    obtain ⟨s0, n0, l0, d0⟩ := h.sup
    refine ⟨by simp; exact h.len, fun e he' => ?_, ⟨insAll (l.map (·.f0)) s0, insAll_nodup n0, ?_, fun a ha => ?_⟩, fun s hn hsup => ?_⟩
    · rcases List.mem_append.1 he' with h' | h'
      · exact h.each e h'
      · rw [List.mem_singleton.1 h']; exact h32
    · have := insAll_len (l.map (·.f0)) s0
      simp only [List.length_map] at this
      omega
    · rw [insAll_mem]
      cases hx : nx a with
      | none =>
        simp only [hx, Option.none_or] at ha
        exact .inr (d0 a ha)
      | some z =>
        rcases m2 a (by rw [hx]; rfl) with h' | h'
        · simp at h'
        · exact .inl h'
    · have hs1 : ∀ a, (nx a).isSome → a ∈ s := fun a ha => hsup a (by cases hx : nx a <;> simp_all)
      have hs2 : ∀ a, (B.bal a).isSome → a ∈ s := fun a ha => hsup a (by cases hx : nx a <;> simp_all)
      have e1 : s.map (fun a => ((nx a).or (B.bal a)).getD 0) = s.map (valN B.bal nx) := List.map_congr_left fun a _ => by
        unfold valN
        cases nx a <;> rfl
      have e2 : s.map (valN B.bal fun _ => none) = s.map (fun a => (B.bal a).getD 0) := rfl
      show sums (s.map (fun a => ((nx a).or (B.bal a)).getD 0)) = 0
      rw [e1, m3 s hn hs1, e2, h.zero s hn hs2]
      have : sums (l.map (·.f1)) = 0 := by simpa [zeroB] using hz
      rw [this]
      rfl
  · rw [postB, if_neg he]
    exact h.more
theorem Good.mark {B : Bk} {k : Nat} (h : Good B k) (i : Nat) : Good (markB B i) k := by
  refine ⟨by simp [markB]; exact h.len, fun e he => ?_, h.sup, h.zero⟩
  obtain ⟨j, hj⟩ := List.getElem?_of_mem he
  simp only [markB, List.getElem?_modify] at hj
  cases hb : B.es[j]? with
  | none => rw [hb] at hj; simp at hj
  | some e0 =>
    rw [hb] at hj
    have := h.each e0 (List.mem_of_getElem? hb)
    simp at hj
    rw [← hj]
    split <;> exact this
theorem Good.rev {B : Bk} {k : Nat} (h : Good B k) (n : Int) : Good (revB B n) (k + 1) := by
  unfold revB
  split
  · exact h.more
  · exact h.more
  · split
    · exact ((h.post _).mark _).mark _
    · exact h.more

theorem sums_filter (s : List Acc) (f : Acc → Int) : sums ((s.filter (fun a => f a != 0)).map f) = sums (s.map f) := by
  induction s with
  | nil => rfl
  | cons a s ih =>
    rw [List.map_cons, sums_cons]
    by_cases h : f a = 0
    · have : (f a != 0) = false := by simp [h]
      rw [List.filter_cons_of_neg (by simp [h]), ih, h]
      omega
    · rw [List.filter_cons_of_pos (by simp [h]), List.map_cons, sums_cons, ih]
/-- What Trial tells sums to 0. -/
theorem Good.trial {B : Bk} {k : Nat} (h : Good B k) {l : List Ln} (hm : ∀ x, x ∈ l ↔ B.bal x.f0 = some x.f1 ∧ x.f1 ≠ 0) (hn : (l.map (·.f0)).Nodup) : sums (l.map (·.f1)) = 0 := by
  obtain ⟨s, n, _, d⟩ := h.sup
  have hz := h.zero s n d
  rw [← sums_filter] at hz
  have hp : (s.filter (fun a => (B.bal a).getD 0 != 0)).Perm (l.map (·.f0)) := (List.perm_ext_iff_of_nodup (n.filter _) hn).2 fun a => by
    rw [List.mem_filter, List.mem_map]
    constructor
    · rintro ⟨h1, h2⟩
      cases hx : B.bal a with
      | none => rw [hx] at h2; simp at h2
      | some z =>
        rw [hx] at h2
        exact ⟨⟨a, z⟩, (hm _).2 ⟨hx, by simpa using h2⟩, rfl⟩
    · rintro ⟨x, hx, rfl⟩
      obtain ⟨h1, h2⟩ := (hm x).1 hx
      exact ⟨d _ (by rw [h1]; rfl), by rw [h1]; simpa using h2⟩
  have e : (l.map (·.f0)).map (fun a => (B.bal a).getD 0) = l.map (·.f1) := by
    rw [List.map_map]
    exact List.map_congr_left fun x hx => by
      show (B.bal x.f0).getD 0 = x.f1
      rw [((hm x).1 hx).1]; rfl
  rw [← e, ← sums_perm (hp.map _)]
  exact hz
end Go.Proofs.Ytjljfkioiglaiaa
