/- plus: two sizes together. -/
import Derived.Test.YtjljfkioiglaiaaNum2
import Derived.Test.YtjljfkioiglaiaaOps
set_option linter.unusedVariables false
set_option linter.unusedSimpArgs false
namespace Go.Proofs.Ytjljfkioiglaiaa
open Go.RowKit NumL

theorem info_u64 : (Try.prog.info? 77).map (fun i => (i.zero, i.size, i.bytes)) = some (some (.int .u64 0), 1, 8) := by kernel_rfl

/-- A fact that the walk doesn't look into. -/
structure Asi (p : Prop) : Prop where mk :: (out : p)

def u64s (ds : List Int) : List Value := ds.map (Value.int .u64)

/-- A row of one's own reads as its digits. -/
theorem own_u64s {w : World} {base : Nat} {v : Value} {n : Nat} {ds : List Int} (h : w.ownsRow base 77 1 v n (u64s ds)) (hl : ds.length = n) (hm : n ≤ 140737488351232) : U64s w v ds := by
  rcases h.2 with ⟨rfl, h0⟩ | ⟨g, cap, cur, rfl, hb, hh, h1, h2, h3, h4⟩
  · have : ds = [] := List.eq_nil_of_length_eq_zero (by omega)
    subst this
    exact ⟨none, 0, rfl, ⟨by simp, by simp⟩, fun h => absurd h (by simp)⟩
  · refine ⟨_, cap, by rw [hl], ⟨by omega, by omega⟩, fun _ => ⟨g, 0, rfl, (Array.getElem?_eq_some_iff.1 hh).1, fun j hj => ?_⟩⟩
    have := h.cells (g := g) rfl j (.int .u64 (ds.getD j 0)) (by simp [u64s, List.getD_eq_getElem?_getD, List.getElem?_eq_getElem hj])
    have ha : (⟨g, 0, none⟩ : Addr).add j = ⟨g, 0 + j, none⟩ := by unfold Addr.add; split <;> simp_all
    rwa [ha] at this

theorem plus_step {a b out : List Int} {k : Nat} {c s : Int} (hI : val out + 65536 ^ k * c = val (a.take k) + val (b.take k)) (hl : out.length = k) (hs : s = a.getD k 0 + b.getD k 0 + c) :
    val (out ++ [s % 65536]) + 65536 ^ (k + 1) * (s / 65536) = val (a.take (k + 1)) + val (b.take (k + 1)) := by
  rw [take_val_all, take_val_all, val_append, hl, Int.pow_succ]
  simp only [val, Int.mul_zero, Int.add_zero]
  have h1 : 65536 ^ k * (s % 65536) + 65536 ^ k * 65536 * (s / 65536) = 65536 ^ k * s := by
    rw [Int.mul_assoc, ← Int.mul_add]
    congr 1
    have := Int.emod_add_mul_ediv s 65536
    omega
  have h2 : 65536 ^ k * s = 65536 ^ k * a.getD k 0 + 65536 ^ k * b.getD k 0 + 65536 ^ k * c := by rw [hs]; simp only [Int.mul_add]
  omega

def PlusPost (w : World) (a b : List Int) (e : Ending) (w' : World) : Prop :=
  ∃ v out, e = .returned v ∧ U64s w' v out ∧ Dig out ∧ val out = val a + val b ∧ out.length ≤ a.length + b.length + 1 ∧ Below w.heap.size w w'

set_option maxHeartbeats 2000000 in
theorem plus_any (A : Option Addr) (xs : List Int) (c : Nat) (B : Option Addr) (ys : List Int) (c' : Nat) (w : World) (ha : U64s w (.slice A xs.length c) xs) (hb : U64s w (.slice B ys.length c') ys) (da : Dig xs) (db : Dig ys)
    (la : xs.length ≤ 1000000) (lb : ys.length ≤ 1000000) :
    Calls Try.prog 30 #[.slice A xs.length c, .slice B ys.length c'] w (PlusPost w xs ys) := by
  have DA := Lib.hid da
  have DB := Lib.hid db
  clear da db
  go_enter Try.func30, Try.ntmps30
  go_wp2
  go_loopw [5, 6, 7] (fun v cv iv wr => ∃ (k : Nat) (cc : Int) (out : List Int), k ≤ xs.length + ys.length + 1 ∧ iv = .int .i64 k ∧ cv = .int .u64 cc ∧ (0 ≤ cc ∧ cc ≤ 1) ∧ out.length = k ∧ wr.ownsRow w.heap.size 77 1 v k (u64s out) ∧ Dig out ∧
      Asi (val out + 65536 ^ k * cc = val (xs.take k) + val (ys.take k)) ∧ (k ≤ xs.length ∨ k ≤ ys.length ∨ (cc = 0 ∧ (k ≤ xs.length + 1 ∨ k ≤ ys.length + 1))) ∧ Below w.heap.size w wr) (fun _ cv iv _ => xs.length + ys.length + 2 - (intOf iv).toNat)
  case atStart => exact ⟨0, 0, [], by omega, rfl, rfl, by omega, rfl, World.ownsRow_nil .., dig_nil, ⟨by simp [val]⟩, .inl (by omega), Below.refl _ _⟩
  case round =>
    obtain ⟨k, cc, out, hk, rfl, rfl, ⟨hc0, hc1⟩, hlen, hown, dout, hI, hcase, hB⟩ := hrel
    have hBs := hB.size
    have c1 := at_any A xs c k wr (ha.below hB) (by omega)
    have c2 := at_any B ys c' k wr (hb.below hB) (by omega)
    have g1 := dig_get DA.out k
    have g2 := dig_get DB.out k
    have z1 : xs.length ≤ k → xs.getD k 0 = 0 := fun h => by rw [List.getD_eq_getElem?_getD, List.getElem?_eq_none h]; rfl
    have z2 : ys.length ≤ k → ys.getD k 0 = 0 := fun h => by rw [List.getD_eq_getElem?_getD, List.getElem?_eq_none h]; rfl
    have HI := hI.out
    have step := fun s hs => plus_step (s := s) HI hlen hs
    generalize xs.getD k 0 = d1 at c1 g1 z1 step
    generalize ys.getD k 0 = d2 at c2 g2 z2 step
    have C1 := Lib.hid c1
    have C2 := Lib.hid c2
    have ST := Lib.hid step
    have Z1 := Lib.hid z1
    have Z2 := Lib.hid z2
    clear z1 z2
    have HL := Lib.hid hlen
    clear c1 c2 step HI hlen
    by_cases hgo : k < xs.length ∨ k < ys.length ∨ 0 < cc
    · go_wp2_with fail
      all_goals first
        | (exfalso; omega)
        | skip
      all_goals
        refine C1.out.mono ?_; rintro e w' ⟨rfl, rfl⟩
        go_wp2_with fail
        refine C2.out.mono ?_; rintro e w' ⟨rfl, rfl⟩
        go_wp2_with (at_builtin; refine wpList_append1 #[.int .u64 ((d1 + d2 + cc) % 65536)] rfl _ _ 37 77 (.int .u64 0) 1 8 rfl Try.underlying37 info_u64 rfl (by omega) (by omega) w.heap.size _ k (u64s out) rfl rfl (by simp [Value.oneCell']) rfl hown (by omega) (by omega) ?_; intro v1 w1 hown1 hg1 _)
        go_roundw
        case rel =>
          refine ⟨k + 1, (d1 + d2 + cc) / 65536, out ++ [(d1 + d2 + cc) % 65536], by omega, by go_num, rfl, by omega, by simp [HL.out], by simpa [u64s] using hown1, dig_append.2 ⟨dout, dig_one.2 (by omega)⟩, ⟨ST.out _ rfl⟩, by have := Z1.out; have := Z2.out; omega, ?_⟩
          exact hB.grown hg1 hBs (fun q hq => own_base' hown q hq)
        case measure => simp [intOf]; omega
    · go_wp2_with fail
      all_goals first
        | (exfalso; omega)
        | skip
      all_goals
        go_ret
        have hc : cc = 0 := by omega
        have h1 := hI.out
        rw [List.take_of_length_le (by omega), List.take_of_length_le (by omega), hc] at h1
        exact ⟨_, out, rfl, own_u64s hown HL.out (by omega), dout, by omega, by rw [HL.out]; omega, hB⟩
end Go.Proofs.Ytjljfkioiglaiaa
