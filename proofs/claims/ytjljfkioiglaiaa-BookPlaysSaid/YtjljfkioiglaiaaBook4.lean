/- cents.Add; append within a region that draws; what Post comes to. -/
import Derived.Test.YtjljfkioiglaiaaBook3
set_option linter.unusedVariables false
set_option linter.unusedSimpArgs false
namespace Go.Proofs.Ytjljfkioiglaiaa
open Go.RowKit Go.Shelf

section
variable {P : Program} {o : Oper} {a : Act} {Q : Exit → Act → World → Prop}
/-- 'append(v, x)', x laid in a new block before: at the operation, in a region. -/
theorem oper_append1 {w : World} {c : Bool} (hc : c = true) (K : Act → World → Prop) (cs : Array Value) (s x : Operand) (t e : TypeId) (z : Value) (size bytes : Nat)
    (ho : o.op = .call { callee := .builtin .append, args := #[s, x], argTypes := #[t, t] })
    (ht : P.underlying t = some (.slice e)) (hinfo : (P.info? e).map (fun i => (i.zero, i.size, i.bytes)) = some (some z, size, bytes)) (hz : z.cells.size = size) (hsz : 0 < size) (hb0 : 0 < bytes)
    (base : Nat) (v : Value) (n : Nat) (xs : List Value) (B : Nat) (hs : a.eval s = v) (hx : a.eval x = .slice (some ⟨B, 0, none⟩) 1 1) (hB : w.heap[B]? = some (.cells cs e (0, 0))) (h1 : ∀ u ∈ cs.toList, u.oneCell' = true) (hcs : cs.size = size)
    (HO : w.ownsRow base e size v n xs) (hbase : base ≤ w.heap.size) (hl : (n + 1) * bytes ≤ 140737488355328)
    (h : ∀ v1 w1, w1.ownsRow base e size v1 (n + 1) (xs ++ cs.toList) → w.grownBy w1 v.ownBlock → (v1.ownBlock = v.ownBlock ∨ v1.ownBlock = some w.heap.size) → K (a.put o.dst v1) w1) :
    if c = true then Oper.wp P o a w K Q else K (a.put o.dst undef) w := by
  rw [if_pos hc]
  obtain ⟨i0, hi, hzz⟩ := Option.map_eq_some_iff.1 hinfo
  simp only [Prod.mk.injEq] at hzz
  obtain ⟨hz0, hz1, hz2⟩ := hzz
  have hlen : n + 1 ≤ 140737488355328 := Nat.le_trans (Nat.le_mul_of_pos_right _ hb0) hl
  obtain ⟨v', w', hr, h2, h3, h4, h5⟩ := run_append_own_at (P := P) w base t o.type e i0 z size bytes ht hi hz0 hz1 hz2 hz hsz v n xs HO ⟨B, 0, none⟩ 1 1 cs.toList (by simp [hcs])
    (World.news_of_block (cs := cs) (t := e) (fr := (0, 0)) hB) h1 (by simp only [maxLen]; omega) hl hbase
  unfold Oper.wp execOp
  simp only [ho, resolve, invoke, builtin, Sem.run_bind, Sem.run_pure, Result.andThen_ok, List.map_toArray, List.map_cons, List.map_nil, hs, hx, hr]
  exact h _ _ h2 h3 h5
end

theorem fitsB_iff {s : Int} : fitsB s = true ↔ I64 s := by simp [fitsB, I64]
def CAddPost (w : World) (s : Int) (e : Ending) (w' : World) : Prop :=
  e = .returned (.tuple #[.int .i64 (if fitsB s then s else 0), if fitsB s then .nilIface else .iface 55 (.int .i64 3)]) ∧ w' = w

theorem cadd_law {a b : Int} (ha : I64 a) (hb : I64 b) : (fitsB (a + b) = true → wrap64 (a + b) = a + b) ∧ (fitsB (a + b) = false → (0 < b ∧ wrap64 (a + b) < a) ∨ (b < 0 ∧ a < wrap64 (a + b))) := by
  unfold I64 at ha hb
  constructor
  · intro hf
    exact IntWalk.wrap64_in _ (fitsB_iff.1 hf)
  · intro hf
    have hI : ¬ I64 (a + b) := fun h => by rw [fitsB_iff.2 h] at hf; cases hf
    unfold I64 at hI
    have hw : wrap64 (a + b) = (if a + b < -9223372036854775808 then a + b + 18446744073709551616 else a + b - 18446744073709551616) := by
      unfold RowKit.wrap64
      split <;> omega
    rw [hw]
    split <;> omega

set_option maxHeartbeats 2000000 in
theorem cadd_any (a b : Int) (ha : I64 a) (hb : I64 b) (w : World) : Calls Try.prog 24 #[.int .i64 a, .int .i64 b] w (CAddPost w (a + b)) := by
  have hL := cadd_law ha hb
  unfold CAddPost
  cases hf : fitsB (a + b)
  · have h := hL.2 hf
    generalize hW : wrap64 (a + b) = W at h
    clear hL hf
    unfold I64 at ha hb
    have HW := Lib.hid hW
    rcases h with ⟨h0, h1⟩ | ⟨h0, h1⟩
    · have h2 : (b != 0) = true := bne_iff_ne.mpr (by omega)
      have h3 : ¬ a < W := by omega
      clear ha hb h1
      go_enter Try.func24, Try.ntmps24
      go_wp2
      go_ret2
      exact ⟨rfl, rfl⟩
    · have h2 : (b != 0) = true := bne_iff_ne.mpr (by omega)
      have h3 : ¬ 0 < b := by omega
      clear ha hb h0
      go_enter Try.func24, Try.ntmps24
      go_wp2
      go_ret2
      exact ⟨rfl, rfl⟩
  · have h0 := hL.1 hf
    generalize hW : wrap64 (a + b) = W at h0
    have HW := Lib.hid h0
    clear hL hf
    unfold I64 at ha hb
    rcases (show 0 < b ∨ b = 0 ∨ b < 0 by omega) with hb0 | hb0 | hb0
    · have h3 : a < W := by omega
      clear ha hb h0
      go_enter Try.func24, Try.ntmps24
      go_wp2
      go_ret2
      exact ⟨by rw [← HW.out]; rfl, rfl⟩
    · have h3 : W = a := by omega
      subst h3 hb0
      clear ha hb h0 HW
      simp only [Int.add_zero] at hW ⊢
      go_enter Try.func24, Try.ntmps24
      go_wp2
      go_ret2
      exact ⟨rfl, rfl⟩
    · have h3 : ¬ a < W := by omega
      have h4 : ¬ 0 < b := by omega
      clear ha hb h0 hb0
      go_enter Try.func24, Try.ntmps24
      go_wp2
      go_ret2
      exact ⟨by rw [← HW.out]; rfl, rfl⟩

def stepB (bal nx : Acc → Option Int) (x : Ln) : Option (Acc → Option Int) :=
  if fitsB ((nx x.f0).getD ((bal x.f0).getD 0) + x.f1) && !decide (x.f1 = -9223372036854775808) then some (fun a => if a = x.f0 then some ((nx x.f0).getD ((bal x.f0).getD 0) + x.f1) else nx a) else none
def goB (bal : Acc → Option Int) (l : List Ln) : Option (Acc → Option Int) := l.foldlM (stepB bal) (fun _ => none)
theorem goB_snoc (bal : Acc → Option Int) (l : List Ln) (k : Nat) (x : Ln) (h : l[k]? = some x) : goB bal (l.take (k + 1)) = (goB bal (l.take k)).bind fun nx => stepB bal nx x := by
  have hlt := (List.getElem?_eq_some_iff.1 h).1
  rw [List.take_succ_eq_append_getElem hlt]
  have : l[k] = x := (List.getElem?_eq_some_iff.1 h).2
  simp [goB, List.foldlM_append, this]
theorem goB_none (bal : Acc → Option Int) (l : List Ln) (k : Nat) (h : goB bal (l.take k) = none) : goB bal l = none := by
  rw [← List.take_append_drop k l]
  unfold goB at h ⊢
  rw [List.foldlM_append, h]
  rfl
/-- What Post answers: an error's number, or 0. -/
def errB (B : Bk) (l : List Ln) : Int := if 4096 ≤ B.es.length then 8 else if shapedB l = false then 1 else if zeroB l = false then 2 else if (goB B.bal l).isNone then 3 else 0
def postB (B : Bk) (l : List Ln) : Bk := if errB B l = 0 then ⟨B.es ++ [(l, false)], fun a => (((goB B.bal l).getD (fun _ => none)) a).or (B.bal a)⟩ else B
end Go.Proofs.Ytjljfkioiglaiaa
