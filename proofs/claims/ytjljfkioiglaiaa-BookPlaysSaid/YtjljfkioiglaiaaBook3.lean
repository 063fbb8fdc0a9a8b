/- maps.Copy: one map onto another, in whatever order its entries come. -/
import Derived.Test.YtjljfkioiglaiaaBook2
set_option linter.unusedVariables false
set_option linter.unusedSimpArgs false
namespace Go.Proofs.Ytjljfkioiglaiaa
open Go.RowKit Go.Shelf

/-- 'next' over a map from accounts to amounts. -/
theorem wpList_next_acc {ops : Array Oper} {rest : List Oper} {o : Oper} {a : Act} {Q : Exit → Act → World → Prop} {b n : Nat} {f : Acc → Option Value} (w : World) (hg : o.guard = none) (it : Operand) (hop : o.op = Op.next it false) (r : Nat) (left : List Acc)
    (hit : a.eval it = .pointer (some ⟨r, 0, none⟩)) (hI : IterAt w Try.prog 41 Acc.val b r f n left) (hbr : b ≠ r) (hok : ∀ a v, f a = some v → AccOk a ∧ ∃ z, v = .int .i64 z)
    (h0 : left = [] → wpList Try.prog ops Q rest (a.put o.dst (.tuple #[.bool false])) w)
    (h1 : ∀ (x y z : Int) w', Asi (⟨x, y⟩ ∈ left ∧ f ⟨x, y⟩ = some (.int .i64 z) ∧ AccOk ⟨x, y⟩ ∧ w'.heap.size = w.heap.size ∧ (left.erase ⟨x, y⟩).length + 1 = left.length ∧ w.grownBy w' (some r)) →
      (Instr.entry (.pointer (some ⟨r, 0, none⟩))).run Try.prog w' = .ok (.tuple #[.agg #[.int .i64 x, .int .i64 y], .int .i64 z]) w' → IterAt w' Try.prog 41 Acc.val b r f n (left.erase ⟨x, y⟩) →
      wpList Try.prog ops Q rest (a.put o.dst (.tuple #[.bool true, .agg #[.int .i64 x, .int .i64 y], .int .i64 z])) w') :
    wpList Try.prog ops Q (o :: rest) a w := by
  refine wpList_next_at w hg it hop acc_inj r left hit hI hbr h0 ?_
  rintro ⟨x, y⟩ v w' hx hf he hI' hgr hsz hlen
  obtain ⟨hac, z, rfl⟩ := hok _ _ hf
  exact h1 x y z w' ⟨hx, hf, hac, hsz, hlen, hgr⟩ he hI'

section
variable {ops : Array Oper} {rest : List Oper} {o : Oper} {a : Act} {Q : Exit → Act → World → Prop} {b n : Nat} {f : Acc → Option Value}
theorem wpList_update_acc (w : World) (hg : o.guard = none) (m x v : Operand) (hop : o.op = Op.mapUpdate 59 m x v) (hm : a.eval m = .map (some b)) (hM : AccMap w b f n) (k y : Int) (hx : a.eval x = .agg #[.int .i64 k, .int .i64 y]) (hok : AccOk ⟨k, y⟩)
    (u : Value) (hu : a.eval v = u)
    (hK : ∀ w', AccMap w' b (fun q => if q = ⟨k, y⟩ then some u else f q) (if (f ⟨k, y⟩).isSome then n else n + 1) → Asi (w.grownBy w' (some b) ∧ w'.heap.size = w.heap.size) → wpList Try.prog ops Q rest (a.put o.dst undef) w') : wpList Try.prog ops Q (o :: rest) a w := by
  obtain ⟨l, hl⟩ := acc_key ⟨k, y⟩ hok.1 hok.2
  exact wpList_update_at w hg m x v hop acc_keyed acc_inj Try.underlying59 hm hM ⟨k, y⟩ l hx hl u hu (fun w' h1 h2 h3 => hK w' h1 ⟨h2, h3⟩)
theorem wpList_lookup_acc (w : World) (hg : o.guard = none) (m x : Operand) (hop : o.op = Op.lookup 59 m x false) (hm : a.eval m = .map (some b)) (hM : AccMap w b f n) (k y : Int) (hx : a.eval x = .agg #[.int .i64 k, .int .i64 y]) (hok : AccOk ⟨k, y⟩)
    (hK : wpList Try.prog ops Q rest (a.put o.dst ((f ⟨k, y⟩).getD (.int .i64 0))) w) : wpList Try.prog ops Q (o :: rest) a w := by
  obtain ⟨l, hl⟩ := acc_key ⟨k, y⟩ hok.1 hok.2
  exact wpList_lookup_at w hg m x hop acc_keyed acc_inj Try.underlying59 _ (zero_i64 w) hm hM ⟨k, y⟩ l hx hl hK
theorem wpList_lookupok_acc (w : World) (hg : o.guard = none) (m x : Operand) (hop : o.op = Op.lookup 59 m x true) (hm : a.eval m = .map (some b)) (hM : AccMap w b f n) (k y : Int) (hx : a.eval x = .agg #[.int .i64 k, .int .i64 y]) (hok : AccOk ⟨k, y⟩)
    (hK : wpList Try.prog ops Q rest (a.put o.dst (.tuple #[(f ⟨k, y⟩).getD (.int .i64 0), .bool (f ⟨k, y⟩).isSome])) w) : wpList Try.prog ops Q (o :: rest) a w := by
  obtain ⟨l, hl⟩ := acc_key ⟨k, y⟩ hok.1 hok.2
  exact wpList_lookup_ok w hg m x hop acc_keyed acc_inj Try.underlying59 _ (zero_i64 w) hm hM ⟨k, y⟩ l hx hl hK
end

def copied (f g : Acc → Option Value) (left : List Acc) (a : Acc) : Option Value := if a ∈ left then f a else (g a).or (f a)

def CopyPost (w : World) (mb sb : Nat) (f g : Acc → Option Value) (e : Ending) (w' : World) : Prop :=
  e = .returned (.tuple #[]) ∧ (∃ n, AccMap w' mb (fun a => (g a).or (f a)) n) ∧ Chg (fun k => k = mb) w w'

set_option maxRecDepth 100000 in
set_option maxHeartbeats 4000000 in
theorem copy_any (mb sb n m : Nat) (f g : Acc → Option Value) (w : World) (hne : mb ≠ sb) (hD : AccMap w mb f n) (hS : AccMap w sb g m) (hok : ∀ a v, g a = some v → AccOk a ∧ ∃ z, v = .int .i64 z) :
    Calls Try.prog 25 #[.map (some mb), .map (some sb)] w (CopyPost w mb sb f g) := by
  have HOK := Lib.hid hok
  clear hok
  go_enter Try.func25, Try.ntmps25
  go_wp2_with (at_range; refine wpList_range_at w rfl _ rfl acc_inj Try.underlying59 rfl hS ?_; intro ob left0 hI0 hlen0 hdom0; go_frame)
  go_loopg [4, 5] left0.length (fun gk _ _ wr => ∃ left : List Acc, left.length = gk ∧ IterAt wr Try.prog 41 Acc.val sb w.heap.size g m left ∧ (∃ n', AccMap wr mb (copied f g left) n') ∧ Chg (fun k => k = mb) w wr)
  case atStart =>
    refine ⟨left0, rfl, hI0, ⟨n, (hD.of_block (Below.heap_alloc _ _ _ hD.lt)).congr fun a => ?_⟩, Chg.alloc _ _ _⟩
    unfold copied
    split
    · rfl
    · rename_i h
      have : g a = none := by
        cases hg : g a with
        | none => rfl
        | some v => exact absurd ((hdom0 a).2 (by simp [hg])) h
      simp [this]
  case round =>
    obtain ⟨left, hlen, hI, ⟨n', hM⟩, hC⟩ := hrel
    have hsr : sb ≠ w.heap.size := by have := hS.lt; omega
    have hmr : mb ≠ w.heap.size := by have := hD.lt; omega
    have hsl : sb < wr.heap.size := Nat.lt_of_lt_of_le hS.lt hC.size
    have hnd : left.Nodup := hI.nodup
    have hml : mb < wr.heap.size := hM.lt
    have hil : w.heap.size < wr.heap.size := hI.lt
    clear hD hS hI0 hdom0
    go_wp2_with (first
      | (at_next; refine wpList_next_acc wr rfl _ rfl w.heap.size left rfl hI hsr HOK.out (fun hl0 => ?_) (fun x y z w1 hz he hI1 => ?_))
      | (at_mapUpdate; refine wpList_update_acc _ rfl _ _ _ rfl rfl (b := mb) (n := n') ((hM.of_block (hz.out.2.2.2.2.2.block mb hM.lt (by intro e; exact hmr (Option.some.inj e)))).of_block (Below.heap_alloc w1 (Obj.cells #[.int .i64 x, .int .i64 y] 41) mb (by have := hM.lt; have := hz.out.2.2.2.1; omega))) x y rfl hz.out.2.2.1 (.int .i64 z) rfl (fun w2 hM2 hz2 => ?_)))
    · go_end0
      subst hl0
      exact ⟨rfl, ⟨n', hM.congr fun a => by simp [copied]⟩, hC⟩
    · obtain ⟨hzl, hzf, hzok, hsz, hl1, hgr⟩ := hz.out
      obtain ⟨hgr2, hsz2⟩ := hz2.out
      go_roundg ((left.erase ⟨x, y⟩).length)
      case measure => omega
      case rel =>
        refine ⟨left.erase ⟨x, y⟩, rfl, ?_, ⟨_, hM2.congr fun a => ?_⟩, ?_⟩
        · exact (hI1.of_blocks (Below.heap_alloc w1 (Obj.cells #[.int .i64 x, .int .i64 y] 41) sb (by omega)) (Below.heap_alloc w1 (Obj.cells #[.int .i64 x, .int .i64 y] 41) _ (by omega))).of_blocks (hgr2.block _ (by simp; omega) (by intro e; exact hne (Option.some.inj e).symm)) (hgr2.block _ (by simp; omega) (by intro e; exact hmr (Option.some.inj e).symm))
        · simp only [copied, hnd.mem_erase_iff]
          by_cases ha : a = ⟨x, y⟩
          · subst ha
            simp [hzf]
          · simp [ha]
        · have hc1 := Chg.of_grown hgr
          have hc2 := Chg.alloc (fun _ => False) w1 (Obj.cells #[.int .i64 x, .int .i64 y] 41)
          have hc3 := Chg.of_grown hgr2
          have hc : Chg (fun k => k = w.heap.size ∨ k = mb) wr w2 := ((hc1.mono (S' := fun k => k = w.heap.size ∨ k = mb) (fun i _ h => .inl (Option.some.inj h))).trans (hc2.mono (S' := fun k => k = w.heap.size ∨ k = mb) (fun i _ h => h.elim)) (fun i _ h => h)).trans (hc3.mono (S' := fun k => k = w.heap.size ∨ k = mb) (fun i _ h => .inr (Option.some.inj h))) (fun i _ h => h)
          exact hC.trans hc (fun i hi h => by rcases h with h | h; exact absurd hi (by omega); exact h)
end Go.Proofs.Ytjljfkioiglaiaa
