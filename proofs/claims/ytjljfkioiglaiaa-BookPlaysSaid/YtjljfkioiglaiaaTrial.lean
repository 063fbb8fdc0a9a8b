/- Trial: all balances that aren't 0, sorted. -/
import Derived.Test.YtjljfkioiglaiaaTrialW
import Derived.Test.YtjljfkioiglaiaaLay
import Derived.Shelf.SlSortCmp.NoneTotal
set_option linter.unusedVariables false
set_option linter.unusedSimpArgs false
namespace Go.Proofs.Ytjljfkioiglaiaa
open Go.RowKit Go.Shelf Go.Lib

theorem line_agg (w : World) : (isAgg 43).run Try.prog w = .ok true w := Try.isAgg43 w
theorem line_size (w : World) : (Go.sizeOf 43).run Try.prog w = .ok 3 w := Try.sizeOf43 w

theorem sort_any {base : Nat} {v : Value} {l : List Ln} {w : World} (h : w.ownsRow base 43 3 v l.length (lcells l)) (hm : l.length ≤ 140737488351232) (hok : ∀ x ∈ l, LnOk x) :
    Calls Try.prog 26 #[v, .func (.func 27) #[] #[]] w (SortPost w base v l) := by
  rcases h.2 with ⟨rfl, h0⟩ | ⟨g, cap, cur, rfl, hbg, hg, hcap, _⟩
  · have : l = [] := List.eq_nil_of_length_eq_zero h0
    subst this
    have := AnyF.slices_SortFunc_none Ytjljfkioiglaiaa.sortF none 0 (.func (.func 27) #[] #[]) w
    refine Calls.mono this ?_
    rintro e w' ⟨rfl, rfl⟩
    exact ⟨rfl, [], .refl _, fun i j x y _ h => by simp at h, ⟨none, 0, rfl, ⟨by simp, by simp⟩, by simp, fun h => absurd h (by simp)⟩, Below.refl _ _⟩
  · have hH := holds_own h rfl
    have hlt : g < w.heap.size := (Array.getElem?_eq_some_iff.1 hg).1
    have eg : ∀ args w, (callFunc 27 args).run Try.prog w = .ok (.enter 27 args) w := enters_of Try.func27 (by kernel_rfl) rfl
    have hC : CmpLays Try.prog 27 #[] Ln.cells 3 cmpL g 0 l.toArray.size w := fun m os dk _ x y => closure_any x y _
    have hS := AnyQ.slices_SortFunc Ytjljfkioiglaiaa.sortF 3 line_agg line_size Ln.cells cells_len cells_one cmpL swo_cmpL 27 #[] g 0 cap l.toArray w eg hC hH hlt (by simp; omega)
    rw [List.size_toArray] at hS
    refine Calls.mono hS ?_
    rintro e w' ⟨rfl, d', n, os, hp, hs, rfl⟩
    have hsz : d'.size = l.length := by simpa using hp.1
    have hperm : d'.toList.Perm l := by
      have := hp.2.2
      have h2 : (List.take l.length d'.toList).Perm l := by simpa [hsz] using this
      rwa [List.take_of_length_le (by simp [hsz])] at h2
    refine ⟨rfl, d'.toList, hperm, fun i j x y hij hx hy => ?_, sortWorld_lines w g n cap l d' os hlt hH hsz ⟨hcap, hm⟩ (fun x hx => hok x (hperm.mem_iff.1 hx)), sortWorld_below w g n d' os hbg hlt⟩
    rw [Array.getElem?_toList] at hx hy
    have hj := (Array.getElem?_eq_some_iff.1 hy).1
    have := hs i j (Nat.zero_le _) hij (by simpa [hsz] using hj)
    rw [ltOf_cmpL] at this
    have e1 : d'[i]! = x := by rw [getElem!_def, hx]
    have e2 : d'[j]! = y := by rw [getElem!_def, hy]
    rwa [e1, e2] at this

theorem trial_any (bb mb : Nat) (ev : Value) (B : Bk) (w : World) (hB : BookAt w bb mb ev B) (sup : List Acc) (hs : sup.length ≤ 1000000) (hd : ∀ a, (B.bal a).isSome → a ∈ sup) :
    Calls Try.prog 11 #[.pointer (some ⟨bb, 0, none⟩)] w (TrialPost w B) := trial_walk (fun base v l w h hm hok => sort_any h hm hok) bb mb ev B w hB sup hs hd
end Go.Proofs.Ytjljfkioiglaiaa
