/- Trial: the walk, given the sort's contract. -/
import Derived.Test.YtjljfkioiglaiaaSortL
set_option linter.unusedVariables false
set_option linter.unusedSimpArgs false
namespace Go.Proofs.Ytjljfkioiglaiaa
open Go.RowKit Go.Shelf Go.Lib

def Sorted (l : List Ln) : Prop := ∀ (i j : Nat) (x y : Ln), i < j → l[i]? = some x → l[j]? = some y → lessB y.f0 x.f0 = false
def SortPost (w : World) (base : Nat) (v : Value) (l : List Ln) (e : Ending) (w' : World) : Prop := e = .returned (.tuple #[]) ∧ ∃ l', l'.Perm l ∧ Sorted l' ∧ LinesAt w' v l' ∧ Below base w w'

theorem own_kept {w w1 : World} {base : Nat} {e : TypeId} {size n : Nat} {v : Value} {xs : List Value} (h : w.ownsRow base e size v n xs) (hk : ∀ k, v.ownBlock = some k → k < w.heap.size → w1.heap[k]? = w.heap[k]?) : w1.ownsRow base e size v n xs := by
  obtain ⟨g1, g2⟩ := h
  refine ⟨g1, ?_⟩
  rcases g2 with g2 | ⟨g, cap, cur, rfl, hgg, hh, r⟩
  · exact .inl g2
  · exact .inr ⟨g, cap, cur, rfl, hgg, (hk g (by simp [Value.ownBlock]) (Array.getElem?_eq_some_iff.1 hh).1).trans hh, r⟩
theorem length_le_of_nodup {α : Type} [DecidableEq α] {l s : List α} (hn : l.Nodup) (h : ∀ x ∈ l, x ∈ s) : l.length ≤ s.length := by
  induction l generalizing s with
  | nil => simp
  | cons x l ih =>
    have hx := h x (List.mem_cons_self ..)
    have := ih (s := s.erase x) (List.nodup_cons.1 hn).2 (fun y hy => (List.mem_erase_of_ne (fun e => (List.nodup_cons.1 hn).1 (by rw [← e]; exact hy))).2 (h y (List.mem_cons_of_mem _ hy)))
    rw [List.length_erase_of_mem hx] at this
    have : 0 < s.length := List.length_pos_of_mem hx
    simp only [List.length_cons]
    omega

def TrialPost (w : World) (B : Bk) (e : Ending) (w' : World) : Prop :=
  ∃ v l, e = .returned v ∧ LinesAt w' v l ∧ (∀ x, x ∈ l ↔ B.bal x.f0 = some x.f1 ∧ x.f1 ≠ 0) ∧ (l.map (·.f0)).Nodup ∧ Sorted l ∧ l.length ≤ 1000000 ∧ Below w.heap.size w w'

/-- What stands in the list when the accounts left are still to come. -/
structure Got (B : Bk) (sup left : List Acc) (out : List Ln) : Prop where
  mem : ∀ x, x ∈ out ↔ (x.f0 ∉ left ∧ B.bal x.f0 = some x.f1 ∧ x.f1 ≠ 0)
  nodup : (out.map (·.f0)).Nodup
  ok : ∀ x ∈ out, LnOk x
theorem Got.start {B : Bk} {sup left : List Acc} (h : ∀ a, (B.bal a).isSome → a ∈ left) : Got B sup left [] :=
  ⟨fun x => ⟨fun h => by simp at h, fun ⟨h1, h2, _⟩ => absurd (h x.f0 (by rw [h2]; rfl)) h1⟩, by simp, by simp⟩
theorem Got.len {B : Bk} {sup left : List Acc} {out : List Ln} (h : Got B sup left out) (hd : ∀ a, (B.bal a).isSome → a ∈ sup) : out.length ≤ sup.length := by
  have := length_le_of_nodup h.nodup (s := sup) (fun a ha => by
    obtain ⟨x, hx, rfl⟩ := List.mem_map.1 ha
    exact hd _ (by rw [((h.mem x).1 hx).2.1]; rfl))
  simpa using this
theorem Got.skip {B : Bk} {sup left : List Acc} {out : List Ln} (h : Got B sup left out) (hn : left.Nodup) {a : Acc} (hb : B.bal a = some 0) : Got B sup (left.erase a) out := by
  refine ⟨fun x => ?_, h.nodup, h.ok⟩
  rw [h.mem, hn.mem_erase_iff]
  constructor
  · rintro ⟨h1, h2⟩
    exact ⟨fun hh => h1 hh.2, h2⟩
  · rintro ⟨h1, h2, h3⟩
    refine ⟨fun hh => h1 ⟨fun e => ?_, hh⟩, h2, h3⟩
    rw [e, hb] at h2
    exact h3 (Option.some.inj h2).symm
theorem Got.take {B : Bk} {sup left : List Acc} {out : List Ln} (h : Got B sup left out) (hn : left.Nodup) {a : Acc} {z : Int} (ha : a ∈ left) (hb : B.bal a = some z) (hz : z ≠ 0) (hok : LnOk ⟨a, z⟩) : Got B sup (left.erase a) (out ++ [⟨a, z⟩]) := by
  refine ⟨fun x => ?_, ?_, ?_⟩
  · rw [List.mem_append, List.mem_singleton, h.mem, hn.mem_erase_iff]
    constructor
    · rintro (⟨h1, h2⟩ | rfl)
      · exact ⟨fun hh => h1 hh.2, h2⟩
      · exact ⟨fun hh => hh.1 rfl, hb, hz⟩
    · rintro ⟨h1, h2, h3⟩
      by_cases e : x.f0 = a
      · refine .inr ?_
        obtain ⟨xa, xz⟩ := x
        simp only at e h2
        subst e
        rw [hb] at h2
        rw [Option.some.inj h2]
      · exact .inl ⟨fun hh => h1 ⟨e, hh⟩, h2, h3⟩
  · rw [List.map_append, List.nodup_append]
    refine ⟨h.nodup, by simp, ?_⟩
    intro b hb' c hc e
    obtain ⟨x, hx, rfl⟩ := List.mem_map.1 hb'
    simp at hc
    subst hc
    exact ((h.mem x).1 hx).1 (e ▸ ha)
  · intro x hx
    rcases List.mem_append.1 hx with hx | hx
    · exact h.ok x hx
    · rw [List.mem_singleton.1 hx]; exact hok

set_option maxRecDepth 100000 in
set_option maxHeartbeats 4000000 in
theorem trial_walk (SO : ∀ (base : Nat) (v : Value) (l : List Ln) (w : World), w.ownsRow base 43 3 v l.length (lcells l) → l.length ≤ 140737488351232 → (∀ x ∈ l, LnOk x) →
      Calls Try.prog 26 #[v, .func (.func 27) #[] #[]] w (SortPost w base v l))
    (bb mb : Nat) (ev : Value) (B : Bk) (w : World) (hB : BookAt w bb mb ev B) (sup : List Acc) (hs : sup.length ≤ 1000000) (hd : ∀ a, (B.bal a).isSome → a ∈ sup) :
    Calls Try.prog 11 #[.pointer (some ⟨bb, 0, none⟩)] w (TrialPost w B) := by
  have SOH := Lib.hid SO
  have c1 : w.cell? ⟨bb, 1, none⟩ = some (.map (some mb)) := cell_at hB.cell 1 rfl
  obtain ⟨n, hM⟩ := hB.map
  have HD := Lib.hid hd
  have HBO := Lib.hid hB.balok
  have hfo : ∀ a v, (B.bal a).map (Value.int .i64) = some v → AccOk a ∧ ∃ z, v = .int .i64 z := fun a v h => by
    cases hx : B.bal a with
    | none => rw [hx] at h; cases h
    | some z => rw [hx] at h; cases h; exact ⟨(HBO.out a z hx).1, z, rfl⟩
  have HOK := Lib.hid hfo
  clear hd hB hfo SO
  go_enter Try.func11, Try.ntmps11
  go_wp2_with (at_range; refine wpList_range_at w rfl _ rfl acc_inj Try.underlying59 rfl hM ?_; intro ob left0 hI0 hlen0 hdom0; go_frame)
  have hml := hM.lt
  have HD0 := Lib.hid hdom0
  clear hdom0
  go_loopg [3, 4, 5] left0.length (fun gk ov _ _ wr => ∃ (left : List Acc) (out : List Ln), left.length = gk ∧ IterAt wr Try.prog 41 Acc.val mb w.heap.size (fun a => (B.bal a).map (Value.int .i64)) n left ∧
      wr.ownsRow (w.heap.size + 1) 43 3 ov out.length (lcells out) ∧ Asi (Got B sup left out) ∧ Below w.heap.size w wr)
  case atStart =>
    exact ⟨left0, [], rfl, hI0, World.ownsRow_nil .., ⟨Got.start fun a ha => (HD0.out a).2 (by simpa using ha)⟩, below_alloc' w _⟩
  case round =>
    obtain ⟨left, out, hlen, hI, hown, hG, hBr⟩ := hrel
    have hnd := hI.nodup
    have hil := hI.lt
    have hmr : mb ≠ w.heap.size := by omega
    have hoL := Nat.le_trans (hG.out.len HD.out) hs
    have hsr := hBr.size
    have HI0 := Lib.hid hI0
    have HI := Lib.hid hI
    have HO := Lib.hid hown
    clear hI0 hI hown
    obtain ⟨OA, oc, rfl⟩ := own_form HO.out
    go_wp2_with (first
      | (at_next; refine wpList_next_acc wr rfl _ rfl w.heap.size left rfl HI.out hmr HOK.out (fun hl0 => ?_) (fun x y z w1 hz he hI1 => ?_))
      | (at_builtin; refine wpList_append1' #[.int .i64 x, .int .i64 y, .int .i64 z] rfl _ _ 28 43 (.agg #[.int .i64 0, .int .i64 0, .int .i64 0]) 3 24 rfl Try.underlying28 info_line rfl (by omega) (by omega) (w.heap.size + 1) _ out.length (lcells out) _ rfl rfl (by simp) (by simp [Value.oneCell']) rfl
          ((own_kept HO.out (fun k hk hlt => hz.out.2.2.2.2.2.block k hlt (fun e => by have := own_base' HO.out k hk; have := Option.some.inj e; omega))).alloc _) (by have := hz.out.2.2.2.1; simp; omega) (by omega) ?_; intro v1 w2 hown2 hg2 hat2)
      | (go_at_call 26; refine (SOH.out _ _ _ _ HO.out (by omega) hG.out.ok).mono ?_; rintro e w' ⟨rfl, l', hp, hsl, hL, hbl⟩))
    · go_ret
      subst hl0
      have hmem := fun x => hp.mem_iff (a := x)
      refine ⟨_, l', rfl, hp.length_eq ▸ hL, fun x => ?_, (hp.map _).nodup_iff.2 hG.out.nodup, hsl, by rw [hp.length_eq]; exact hoL, hBr.trans (hbl.mono (by omega))⟩
      rw [hmem, hG.out.mem]
      simp
    · obtain ⟨hzl, hzf, hzok, hsz, hl1, hgr⟩ := hz.out
      have hbal : B.bal ⟨x, y⟩ = some z := by
        cases hx : B.bal ⟨x, y⟩ with
        | none => rw [hx] at hzf; cases hzf
        | some q => rw [hx] at hzf; cases hzf; rfl
      have hz0 : z ≠ 0 := by simpa using ‹(z != 0) = true›
      have hI64 := (HBO.out _ _ hbal).2
      have hIt := hI1.of_blocks (w' := (w1.alloc (Obj.cells #[Value.int IntKind.i64 x, Value.int IntKind.i64 y] 41))) (Below.heap_alloc w1 _ mb (by omega)) (Below.heap_alloc w1 _ _ (by omega))
      go_roundg ((left.erase ⟨x, y⟩).length)
      case measure => omega
      case rel =>
        refine ⟨left.erase ⟨x, y⟩, out ++ [⟨⟨x, y⟩, z⟩], rfl, ?_, ?_, ⟨hG.out.take hnd hzl hbal hz0 ⟨hzok.1, hzok.2, hI64⟩⟩, ?_⟩
        · exact hIt.of_blocks (hg2.block mb (by simp; omega) (fun e => by have := own_base' HO.out mb e.symm; omega)) (hg2.block _ (by simp; omega) (fun e => by have := own_base' HO.out _ e.symm; omega))
        · simpa [lcells, Ln.cells] using hown2
        · exact ((hBr.grown hgr hsr (fun k hk => by have := Option.some.inj hk; omega)).alloc (by omega) _).grown hg2 (by simp; omega) (fun k hk => by have := own_base' HO.out k hk; omega)
    · obtain ⟨hzl, hzf, hzok, hsz, hl1, hgr⟩ := hz.out
      have hbal : B.bal ⟨x, y⟩ = some z := by
        cases hx : B.bal ⟨x, y⟩ with
        | none => rw [hx] at hzf; cases hzf
        | some q => rw [hx] at hzf; cases hzf; rfl
      have hz0 : z = 0 := by simpa using ‹(z != 0) = false›
      subst hz0
      have hIt := hI1.of_blocks (w' := (w1.alloc (Obj.cells #[Value.int IntKind.i64 x, Value.int IntKind.i64 y] 41))) (Below.heap_alloc w1 _ mb (by omega)) (Below.heap_alloc w1 _ _ (by omega))
      go_roundg ((left.erase ⟨x, y⟩).length)
      case measure => omega
      case rel =>
        refine ⟨left.erase ⟨x, y⟩, out, rfl, hIt, ?_, ⟨hG.out.skip hnd hbal⟩, ?_⟩
        · exact (own_kept HO.out (fun k hk hlt => hgr.block k hlt (fun e => by have := own_base' HO.out k hk; have := Option.some.inj e; omega))).alloc _
        · exact (hBr.grown hgr hsr (fun k hk => by have := Option.some.inj hk; omega)).alloc (by omega) _
end Go.Proofs.Ytjljfkioiglaiaa
