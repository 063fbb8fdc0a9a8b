/- Long numbers as lists of digits to the base of 65536: plain arithmetic. -/
namespace Go.Proofs.Ytjljfkioiglaiaa.NumL

def val : List Int → Int
  | [] => 0
  | d :: ds => d + 65536 * val ds
def Dig (ds : List Int) : Prop := ∀ d ∈ ds, 0 ≤ d ∧ d < 65536
/-- No zero on top. -/
def Top (ds : List Int) : Prop := ds = [] ∨ ds.getD (ds.length - 1) 0 ≠ 0
def signed (s : Bool) (ds : List Int) : Int := if s then - val ds else val ds

theorem val_append (a b : List Int) : val (a ++ b) = val a + 65536 ^ a.length * val b := by
  induction a with
  | nil => simp [val]
  | cons d a ih =>
    simp only [List.cons_append, val, ih, List.length_cons, Int.pow_succ]
    rw [Int.mul_add, Int.add_assoc, Int.mul_comm (65536 ^ a.length) 65536, Int.mul_assoc]
theorem val_nonneg {ds : List Int} (h : Dig ds) : 0 ≤ val ds := by
  induction ds with
  | nil => simp [val]
  | cons d ds ih =>
    have h1 := h d (List.mem_cons_self ..)
    have h2 := ih (fun x hx => h x (List.mem_cons_of_mem _ hx))
    simp only [val]; omega
theorem pow_pos (n : Nat) : (0 : Int) < 65536 ^ n := Int.pow_pos (by omega)
theorem pow_le {m n : Nat} (h : m ≤ n) : (65536 : Int) ^ m ≤ 65536 ^ n := by
  obtain ⟨k, rfl⟩ := Nat.exists_eq_add_of_le h
  clear h
  induction k with
  | zero => exact Int.le_refl _
  | succ k ih =>
    rw [← Nat.add_assoc, Int.pow_succ]
    have := pow_pos (m + k)
    omega
theorem val_lt {ds : List Int} (h : Dig ds) : val ds < 65536 ^ ds.length := by
  induction ds with
  | nil => simp [val]
  | cons d ds ih =>
    have h1 := h d (List.mem_cons_self ..)
    have h2 := ih (fun x hx => h x (List.mem_cons_of_mem _ hx))
    simp only [val, List.length_cons, Int.pow_succ]; omega
theorem dig_nil : Dig [] := by simp [Dig]
theorem dig_append {a b : List Int} : Dig (a ++ b) ↔ Dig a ∧ Dig b := by
  simp only [Dig, List.mem_append]
  exact ⟨fun h => ⟨fun d hd => h d (.inl hd), fun d hd => h d (.inr hd)⟩, fun h d hd => hd.elim (h.1 d) (h.2 d)⟩
theorem dig_one {d : Int} : Dig [d] ↔ 0 ≤ d ∧ d < 65536 := by simp [Dig]
theorem dig_take {ds : List Int} (h : Dig ds) (m : Nat) : Dig (ds.take m) := fun d hd => h d (List.mem_of_mem_take hd)
theorem dig_get {ds : List Int} (h : Dig ds) (i : Nat) : 0 ≤ ds.getD i 0 ∧ ds.getD i 0 < 65536 := by
  rw [List.getD_eq_getElem?_getD]
  cases hi : ds[i]? with
  | none => simp
  | some d => simpa using h d (List.mem_of_getElem? hi)
theorem val_take {ds : List Int} {m : Nat} (h : ∀ j, m ≤ j → j < ds.length → ds.getD j 0 = 0) : val (ds.take m) = val ds := by
  have e : ds = ds.take m ++ ds.drop m := (List.take_append_drop m ds).symm
  have hz : ∀ l : List Int, (∀ d ∈ l, d = 0) → val l = 0 := by
    intro l
    induction l with
    | nil => intro _; rfl
    | cons d l ih => intro h; simp [val, h d (List.mem_cons_self ..), ih (fun x hx => h x (List.mem_cons_of_mem _ hx))]
  have h0 : val (ds.drop m) = 0 := hz _ fun d hd => by
    obtain ⟨i, hi⟩ := List.getElem?_of_mem hd
    rw [List.getElem?_drop] at hi
    have hlt := (List.getElem?_eq_some_iff.1 hi).1
    have := h (m + i) (by omega) hlt
    rw [List.getD_eq_getElem?_getD, hi] at this
    simpa using this
  conv => rhs; rw [e, val_append, h0]
  simp
theorem val_top_ge {ds : List Int} (h : Dig ds) (ht : Top ds) (hn : ds ≠ []) : 65536 ^ (ds.length - 1) ≤ val ds := by
  rcases ht with rfl | ht
  · exact absurd rfl hn
  have hl : 0 < ds.length := List.length_pos_iff.2 hn
  have e : ds = ds.take (ds.length - 1) ++ [ds.getD (ds.length - 1) 0] := by
    have h2 := List.take_append_drop (ds.length - 1) ds
    rw [List.drop_eq_getElem_cons (by omega)] at h2
    have h3 : ds.length - 1 + 1 = ds.length := by omega
    rw [h3, List.drop_length] at h2
    rw [List.getD_eq_getElem?_getD, List.getElem?_eq_getElem (by omega)]
    exact h2.symm
  have hg := dig_get h (ds.length - 1)
  have hp := val_nonneg (dig_take h (ds.length - 1))
  have hlen : (ds.take (ds.length - 1)).length = ds.length - 1 := by simp
  generalize ds.getD (ds.length - 1) 0 = t at *
  generalize hq : ds.take (ds.length - 1) = q at *
  rw [e, val_append, hlen]
  simp only [val, Int.mul_zero, Int.add_zero]
  have := pow_pos (ds.length - 1)
  have h5 : (65536 : Int) ^ (ds.length - 1) * 1 ≤ 65536 ^ (ds.length - 1) * t := Int.mul_le_mul_of_nonneg_left (by omega) (by omega)
  simp only [List.length_append, hlen, List.length_singleton, Nat.add_sub_cancel] at *
  omega
theorem len_le {ds : List Int} (h : Dig ds) (ht : Top ds) {n : Nat} (hv : val ds < 65536 ^ n) : ds.length ≤ n := by
  by_cases hn : ds = []
  · rw [hn]; exact Nat.zero_le _
  have h1 := val_top_ge h ht hn
  have hl : 0 < ds.length := List.length_pos_iff.2 hn
  rcases Nat.lt_or_ge n ds.length with hlt | hge
  · have hle : (65536 : Int) ^ n ≤ 65536 ^ (ds.length - 1) := pow_le (by omega)
    omega
  · exact hge
theorem val_zero {ds : List Int} (h : Dig ds) (ht : Top ds) : val ds = 0 ↔ ds = [] := by
  constructor
  · intro hv
    by_cases hn : ds = []
    · exact hn
    have h1 := val_top_ge h ht hn
    have := pow_pos (ds.length - 1)
    omega
  · rintro rfl; rfl
/-- Top digits decide. -/
theorem val_lt_of {a b : List Int} (ha : Dig a) (hb : Dig b) (hl : a.length = b.length) {i : Nat} (hi : i < a.length) (he : ∀ j, i < j → j < a.length → a.getD j 0 = b.getD j 0) (hlt : a.getD i 0 < b.getD i 0) : val a < val b := by
  have ea : a = a.take i ++ (a.getD i 0 :: a.drop (i + 1)) := by
    rw [List.getD_eq_getElem?_getD, List.getElem?_eq_getElem hi]
    simp
  have eb : b = b.take i ++ (b.getD i 0 :: b.drop (i + 1)) := by
    rw [List.getD_eq_getElem?_getD, List.getElem?_eq_getElem (by omega)]
    simp
  have ed : a.drop (i + 1) = b.drop (i + 1) := by
    apply List.ext_getElem?
    intro j
    rw [List.getElem?_drop, List.getElem?_drop]
    by_cases hj : i + 1 + j < a.length
    · have := he (i + 1 + j) (by omega) hj
      rw [List.getD_eq_getElem?_getD, List.getD_eq_getElem?_getD, List.getElem?_eq_getElem hj, List.getElem?_eq_getElem (by omega)] at this
      rw [List.getElem?_eq_getElem hj, List.getElem?_eq_getElem (by omega)]
      simpa using this
    · rw [List.getElem?_eq_none (by omega), List.getElem?_eq_none (by omega)]
  have h1 := val_lt (dig_take ha i)
  have h2 := val_nonneg (dig_take hb i)
  have h3 : (a.take i).length = i := by simp; omega
  have h4 : (b.take i).length = i := by simp; omega
  rw [h3] at h1
  rw [ea, eb, val_append, val_append, h3, h4]
  simp only [val, ed]
  generalize a.getD i 0 = x at *
  generalize b.getD i 0 = y at *
  have hp := pow_pos i
  have h5 : (65536 : Int) ^ i * (x + 65536 * val (b.drop (i + 1)) + 1) ≤ 65536 ^ i * (y + 65536 * val (b.drop (i + 1))) := Int.mul_le_mul_of_nonneg_left (by omega) (by omega)
  rw [Int.mul_add, Int.mul_one] at h5
  omega
theorem eq_of_get {a b : List Int} (hl : a.length = b.length) (he : ∀ j, j < a.length → a.getD j 0 = b.getD j 0) : a = b := by
  apply List.ext_getElem? 
  intro j
  by_cases hj : j < a.length
  · have := he j hj
    rw [List.getD_eq_getElem?_getD, List.getD_eq_getElem?_getD, List.getElem?_eq_getElem hj, List.getElem?_eq_getElem (by omega)] at this
    rw [List.getElem?_eq_getElem hj, List.getElem?_eq_getElem (by omega)]
    simpa using this
  · rw [List.getElem?_eq_none (by omega), List.getElem?_eq_none (by omega)]
theorem val_lt_len {a b : List Int} (ha : Dig a) (hb : Dig b) (tb : Top b) (hl : a.length < b.length) : val a < val b := by
  have h1 := val_lt ha
  have hn : b ≠ [] := fun e => by rw [e] at hl; exact absurd hl (Nat.not_lt_zero _)
  have h2 := val_top_ge hb tb hn
  have hle : (65536 : Int) ^ a.length ≤ 65536 ^ (b.length - 1) := pow_le (by omega)
  omega
theorem take_succ_val (ds : List Int) (k : Nat) (h : k < ds.length) : val (ds.take (k + 1)) = val (ds.take k) + 65536 ^ k * ds.getD k 0 := by
  rw [List.take_succ_eq_append_getElem h, val_append]
  have : (ds.take k).length = k := by simp; omega
  rw [this, List.getD_eq_getElem?_getD, List.getElem?_eq_getElem h]
  simp [val]
theorem take_val_all (ds : List Int) (k : Nat) : val (ds.take (k + 1)) = val (ds.take k) + 65536 ^ k * ds.getD k 0 := by
  by_cases h : k < ds.length
  · exact take_succ_val ds k h
  · rw [List.take_of_length_le (by omega), List.take_of_length_le (by omega), List.getD_eq_getElem?_getD, List.getElem?_eq_none (by omega)]
    simp
end Go.Proofs.Ytjljfkioiglaiaa.NumL
