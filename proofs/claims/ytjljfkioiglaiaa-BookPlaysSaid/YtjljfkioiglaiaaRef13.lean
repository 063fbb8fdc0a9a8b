/- What keeps the program's books and the reference's apart; a deed done with both. -/
import Derived.Test.YtjljfkioiglaiaaRef12
set_option linter.unusedVariables false
set_option linter.unusedSimpArgs false
namespace Go.Proofs.Ytjljfkioiglaiaa
open Go.RowKit Go.Shelf NumL

theorem own_obj {w : World} {base : Nat} {e : TypeId} {size n k : Nat} {v : Value} {xs : List Value} (h : w.ownsRow base e size v n xs) (hk : v.ownBlock = some k) : ∃ cs fr, w.heap[k]? = some (Obj.cells cs e fr) := by
  rcases h.2 with ⟨rfl, _⟩ | ⟨g, cap, cur, rfl, _, hh, _⟩
  · simp [Value.ownBlock] at hk
  · have : g = k := by simpa [Value.ownBlock] using hk
    subst this
    exact ⟨_, _, hh⟩
theorem BookAt.mut_obj {w : World} {bb mb k : Nat} {ev : Value} {B : Bk} (h : BookAt w bb mb ev B) (hm : MutB bb mb ev k) {cs : Array Value} {T : TypeId} {fr : Nat × Nat} (hk : w.heap[k]? = some (Obj.cells cs T fr)) : T = 62 ∨ T = 64 := by
  obtain ⟨vs, _, h3, _⟩ := h.row
  obtain ⟨n, h5⟩ := h.map
  obtain ⟨es, c, hmap⟩ := h5.is_map
  rcases hm with rfl | rfl | hm
  · rw [h.cell] at hk; cases hk; exact .inl rfl
  · rw [hmap] at hk; cases hk
  · obtain ⟨cs', fr', h'⟩ := own_obj h3 hm
    rw [h'] at hk; cases hk; exact .inr rfl
theorem RefAt.mut_obj {w : World} {rb k : Nat} {lv dv : Value} {es : List (List Ln × Bool)} (h : RefAt w rb lv dv es) (hm : MutR rb lv dv k) : ∃ cs T fr, w.heap[k]? = some (Obj.cells cs T fr) ∧ (T = 51 ∨ T = 28 ∨ T = 4) := by
  obtain ⟨vs, _, h3, _⟩ := h.rowL
  rcases hm with rfl | hm | hm
  · exact ⟨_, _, _, h.cell, .inl rfl⟩
  · obtain ⟨cs', fr', h'⟩ := own_obj h3 hm
    exact ⟨_, _, _, h', .inr (.inl rfl)⟩
  · obtain ⟨cs', fr', h'⟩ := own_obj h.rowD hm
    exact ⟨_, _, _, h', .inr (.inr rfl)⟩
theorem apart {w : World} {bb mb rb k : Nat} {ev lv dv : Value} {B : Bk} {es : List (List Ln × Bool)} (hB : BookAt w bb mb ev B) (hR : RefAt w rb lv dv es) (h1 : MutB bb mb ev k) (h2 : MutR rb lv dv k) : False := by
  obtain ⟨cs, T, fr, hk, hT⟩ := hR.mut_obj h2
  rcases hB.mut_obj h1 hk with rfl | rfl <;> rcases hT with h | h | h <;> revert h <;> decide
theorem RefAt.mutB {w w1 : World} {bb mb rb : Nat} {ev lv dv : Value} {B : Bk} {es : List (List Ln × Bool)} (hR : RefAt w rb lv dv es) (hB : BookAt w bb mb ev B) (hc : Chg (MutB bb mb ev) w w1) : RefAt w1 rb lv dv es := by
  have hK : KeepT 43 w w1 := .of_chg hc (fun k cs fr hm hk => by rcases hB.mut_obj hm hk with h | h <;> revert h <;> decide)
  have same : ∀ k, k < w.heap.size → MutR rb lv dv k → w1.heap[k]? = w.heap[k]? := fun k hk hm => hc.block k hk (fun h => apart hB hR h hm)
  obtain ⟨h1, ⟨vs, h2, h3, h4⟩, h5⟩ := hR
  exact ⟨(same rb (Array.getElem?_eq_some_iff.1 h1).1 (.inl rfl)).trans h1, ⟨vs, h2, own_kept h3 (fun k hk hlt => same k hlt (.inr (.inl hk))), fun i v e hv he => (h4 i v e hv he).keep hK⟩, own_kept h5 (fun k hk hlt => same k hlt (.inr (.inr hk)))⟩
theorem BookAt.mutR {w w1 : World} {bb mb rb : Nat} {ev lv dv : Value} {B : Bk} {es : List (List Ln × Bool)} (hB : BookAt w bb mb ev B) (hR : RefAt w rb lv dv es) (hc : Chg (MutR rb lv dv) w w1) : BookAt w1 bb mb ev B :=
  hB.keep hc.size (fun k hk hm => hc.block k hk (fun h => apart hB hR hm h)) (.of_chg hc (fun k cs fr hm hk => by
    obtain ⟨cs', T, fr', hk', hT⟩ := hR.mut_obj hm
    rw [hk'] at hk
    cases hk
    rcases hT with h | h | h <;> revert h <;> decide))

/-- Both books, behind the same deeds, in memory that was made since w0. -/
structure Pair (w0 w : World) (bb mb rb : Nat) (ev lv dv : Value) (B : Bk) (es : List (List Ln × Bool)) : Prop where
  book : BookAt w bb mb ev B
  ref : RefAt w rb lv dv es
  bel : Below w0.heap.size w0 w
  nb : w0.heap.size ≤ bb
  nm : w0.heap.size ≤ mb
  nr : w0.heap.size ≤ rb
  ne : ∀ q, ev.ownBlock = some q → w0.heap.size ≤ q
  nl : ∀ q, lv.ownBlock = some q → w0.heap.size ≤ q
  nd : ∀ q, dv.ownBlock = some q → w0.heap.size ≤ q
section
variable {w0 w w1 : World} {bb mb rb : Nat} {ev ev' lv dv lv' dv' : Value} {B B' : Bk} {es es' : List (List Ln × Bool)}
theorem Pair.below (h : Pair w0 w bb mb rb ev lv dv B es) (hb : Below w.heap.size w w1) : Pair w0 w1 bb mb rb ev lv dv B es :=
  ⟨h.book.below hb, h.ref.below hb, h.bel.trans (hb.mono h.bel.size), h.nb, h.nm, h.nr, h.ne, h.nl, h.nd⟩
theorem Pair.mutB (h : Pair w0 w bb mb rb ev lv dv B es) (hB : BookAt w1 bb mb ev' B') (hC : Chg (MutB bb mb ev) w w1) (hev : ∀ k, k < w.heap.size → ev'.ownBlock = some k → ev.ownBlock = some k) : Pair w0 w1 bb mb rb ev' lv dv B' es :=
  ⟨hB, h.ref.mutB h.book hC, chg_new h.bel h.nb h.nm h.ne hC, h.nb, h.nm, h.nr, ev_new h.bel h.ne hev, h.nl, h.nd⟩
theorem Pair.mutR (h : Pair w0 w bb mb rb ev lv dv B es) (hR : RefAt w1 rb lv' dv' es') (hC : Chg (MutR rb lv dv) w w1) (hlv : ∀ k, k < w.heap.size → lv'.ownBlock = some k → lv.ownBlock = some k) (hdv : ∀ k, k < w.heap.size → dv'.ownBlock = some k → dv.ownBlock = some k) : Pair w0 w1 bb mb rb ev lv' dv' B es' :=
  ⟨h.book.mutR h.ref hC, hR, h.bel.trans (hC.below (fun i _ hm => by
    rcases hm with rfl | hm | hm
    · exact h.nr
    · exact h.nl i hm
    · exact h.nd i hm) h.bel.size), h.nb, h.nm, h.nr, h.ne, ev_new h.bel h.nl hlv, ev_new h.bel h.nd hdv⟩
end

theorem errB_range (B : Bk) (l : List Ln) : 0 ≤ errB B l ∧ errB B l ≤ 8 := by
  unfold errB
  split
  · omega
  · split
    · omega
    · split
      · omega
      · split <;> omega
theorem errR_range (B : Bk) (n : Int) : 0 ≤ errR B n ∧ errR B n ≤ 8 := by
  unfold errR
  split
  · omega
  · omega
  · exact errB_range _ _
theorem postB_len {B : Bk} {l : List Ln} (h : errB B l = 0) : (postB B l).es.length = B.es.length + 1 := by rw [postB, if_pos h]; simp
theorem revB_len {B : Bk} {n : Int} (h : errR B n = 0) : (revB B n).es.length = B.es.length + 1 := by
  unfold errR at h
  split at h
  · omega
  · omega
  · rename_i l e
    have : revB B n = markB (markB (postB B (turnL l)) n.toNat) B.es.length := by rw [revB, e]; simp [h]
    rw [this]
    simp [markB, postB_len h]
theorem revB_same {B : Bk} {n : Int} (h : errR B n ≠ 0) : revB B n = B := by
  unfold errR at h
  unfold revB
  split at h
  · rfl
  · rfl
  · rw [if_neg h]

theorem BookAt.keepB {w w1 : World} {bb mb k : Nat} {ev : Value} {B : Bk} {cs : Array Value} {T : TypeId} {fr : Nat × Nat} (h : BookAt w bb mb ev B) (hc : Chg (MutB bb mb ev) w w1) (hk : w.heap[k]? = some (Obj.cells cs T fr)) (hT : ¬ (T = 62 ∨ T = 64)) : w1.heap[k]? = some (Obj.cells cs T fr) :=
  (hc.block k (Array.getElem?_eq_some_iff.1 hk).1 (fun hm => hT (h.mut_obj hm hk))).trans hk
theorem RefAt.keepR {w w1 : World} {rb k : Nat} {lv dv : Value} {es : List (List Ln × Bool)} {cs : Array Value} {T : TypeId} {fr : Nat × Nat} (h : RefAt w rb lv dv es) (hc : Chg (MutR rb lv dv) w w1) (hk : w.heap[k]? = some (Obj.cells cs T fr)) (hT : ¬ (T = 51 ∨ T = 28 ∨ T = 4)) : w1.heap[k]? = some (Obj.cells cs T fr) :=
  (hc.block k (Array.getElem?_eq_some_iff.1 hk).1 (fun hm => by
    obtain ⟨cs', T', fr', hk', hT'⟩ := h.mut_obj hm
    rw [hk'] at hk
    cases hk
    exact hT hT')).trans hk
theorem refrev_is {rb : Nat} {lv dv : Value} {B : Bk} {n c : Int} {w : World} (hR : RefAt w rb lv dv B.es) (hL : Link B) (hes : B.es.length ≤ 4096) (h : errR B n = c) :
    Calls Try.prog 33 #[.pointer (some ⟨rb, 0, none⟩), .int .i64 n] w fun e w' => ∃ lv' dv', e = .returned (.int .i64 c) ∧ RefAt w' rb lv' dv' (revB B n).es ∧ Chg (MutR rb lv dv) w w' ∧ (∀ k, k < w.heap.size → lv'.ownBlock = some k → lv.ownBlock = some k) ∧ (∀ k, k < w.heap.size → dv'.ownBlock = some k → dv.ownBlock = some k) := by
  refine (refrev_any rb lv dv B n w hR hL hes).mono ?_
  rintro e w' ⟨lv', dv', rfl, r⟩
  exact ⟨lv', dv', by rw [h], r⟩
theorem may10_is {rb : Nat} {lv dv v : Value} {B : Bk} {l : List Ln} {c : Int} {w : World} (hR : RefAt w rb lv dv B.es) (hl : LinesAt w v l) (hL : Link B) (hes : B.es.length ≤ 4096) (hl0 : l.length ≤ 1000) (h : errB B l = c) :
    Calls Try.prog 35 #[.pointer (some ⟨rb, 0, none⟩), v] w fun e w' => e = .returned (.int .i64 c) ∧ Below w.heap.size w w' := by
  refine (may10_any rb lv dv B.es v l w hR hl hes (fun e he => by have := hL.each e he; simp [shapedB] at this; omega) hl0).mono ?_
  rintro e w' ⟨r, rfl, hr, hb⟩
  exact ⟨by rw [hL.may hr, h], hb⟩

theorem RefAt.lenL {w : World} {rb : Nat} {lv dv : Value} {es : List (List Ln × Bool)} (h : RefAt w rb lv dv es) : ∃ m LA lc, m = es.length ∧ lv = .slice LA m lc ∧ w.cell? ⟨rb, 0, none⟩ = some (.slice LA m lc) := by
  obtain ⟨vs, _, h3, _⟩ := h.rowL
  obtain ⟨LA, lc, rfl⟩ := own_form h3
  exact ⟨_, LA, lc, rfl, rfl, cell_at h.cell 0 rfl⟩

theorem rev_ok {bb mb : Nat} {ev : Value} {B : Bk} {n : Int} {w : World} (hB : BookAt w bb mb ev B) (hn : B.es.length ≤ 1000000) (hl0 : ∀ e ∈ B.es, e.1.length ≤ 1000) (h : errR B n = 0) :
    Calls Try.prog 9 #[.pointer (some ⟨bb, 0, none⟩), .int .i64 n] w fun e w' => ∃ ev', e = .returned (.tuple #[.int .i64 B.es.length, .nilIface]) ∧ BookAt w' bb mb ev' (revB B n) ∧ Chg (MutB bb mb ev) w w' ∧ ∀ k, k < w.heap.size → ev'.ownBlock = some k → ev.ownBlock = some k := by
  refine (rev_any bb mb ev B n w hB hn hl0).mono ?_
  rintro e w' ⟨ev', rfl, r⟩
  exact ⟨ev', by rw [h]; rfl, r⟩
theorem rev_no {bb mb : Nat} {ev : Value} {B : Bk} {n c : Int} {w : World} (hB : BookAt w bb mb ev B) (hn : B.es.length ≤ 1000000) (hl0 : ∀ e ∈ B.es, e.1.length ≤ 1000) (h : errR B n = c) (hc : c ≠ 0) :
    Calls Try.prog 9 #[.pointer (some ⟨bb, 0, none⟩), .int .i64 n] w fun e w' => ∃ ev', e = .returned (.tuple #[.int .i64 0, .iface 55 (.int .i64 c)]) ∧ BookAt w' bb mb ev' (revB B n) ∧ Chg (MutB bb mb ev) w w' ∧ ∀ k, k < w.heap.size → ev'.ownBlock = some k → ev.ownBlock = some k := by
  refine (rev_any bb mb ev B n w hB hn hl0).mono ?_
  rintro e w' ⟨ev', rfl, r⟩
  exact ⟨ev', by rw [h, if_neg hc, if_neg hc], r⟩

def OnePost (w0 : World) (bb mb rb : Nat) (B : Bk) (d : Deed) (e : Ending) (w' : World) : Prop := ∃ ev' lv' dv', e = .returned (.bool true) ∧ Pair w0 w' bb mb rb ev' lv' dv' (runD B d) (runD B d).es

set_option maxRecDepth 100000 in
set_option maxHeartbeats 8000000 in
theorem one_any (w0 : World) (bb mb rb : Nat) (ev lv dv : Value) (B : Bk) (d : Deed) (A2 : Option Addr) (c2 : Nat) (w : World) (hP : Pair w0 w bb mb rb ev lv dv B B.es) (hL : Link B) (hok : I64 d.f0) (hl : LinesAt w0 (.slice A2 d.f2.length c2) d.f2)
    (h100 : d.f2.length ≤ 100) (hn : B.es.length ≤ 1000) :
    Calls Try.prog 15 #[.pointer (some ⟨bb, 0, none⟩), .pointer (some ⟨rb, 0, none⟩), .agg #[.int .i64 d.f0, .int .i64 d.f1, .slice A2 d.f2.length c2]] w (OnePost w0 bb mb rb B d) := by
  have hE1000 : ∀ e ∈ B.es, e.1.length ≤ 1000 := fun e he => by have := hL.each e he; simp [shapedB] at this; omega
  have PK := Lib.hid (fun W => pick_any d.f0 hok W)
  have HPA := Lib.hid (hP.below (below_alloc' w (Obj.cells #[.int .i64 d.f0, .int .i64 d.f1, .slice A2 d.f2.length c2] 30)))
  have HL := Lib.hid hL
  have HE := Lib.hid hE1000
  clear hP hL hE1000
  have hsize : w.heap.size < (w.alloc (Obj.cells #[.int .i64 d.f0, .int .i64 d.f1, .slice A2 d.f2.length c2] 30)).heap.size := by simp
  by_cases hp : pickB d.f0 = 2
  · have HRD := Lib.hid (show runD B d = revB B d.f1 by rw [runD, if_pos hp])
    rw [hp] at PK
    clear hp
    by_cases h0 : errR B d.f1 = 0
    · have RV := Lib.hid (rev_ok HPA.out.book (by omega) HE.out h0)
      have HZ := Lib.hid h0
      have HLN := Lib.hid (revB_len h0)
      clear h0
      go_enter Try.func15, Try.ntmps15
      go_wp2_with (first
        | (go_at_call 8; refine (PK.out _).mono ?_; rintro e w4 ⟨rfl, rfl⟩)
        | (go_at_call 9; refine RV.out.mono ?_; rintro e w5 ⟨ev', rfl, hB5, hC5, hev5⟩; have q5 := HPA.out.book.keepB hC5 (get_new _ _) (by decide); have x5 := cell_at q5 1 rfl; have HP5 := Lib.hid (HPA.out.mutB hB5 hC5 hev5); clear hB5 hC5 hev5 q5)
        | (go_at_call 33; refine (refrev_is HP5.out.ref HL.out (by omega) HZ.out).mono ?_; rintro e w6 ⟨lv6, dv6, rfl, hR6, hC6, hl6, hd6⟩; have HP6 := Lib.hid (HP5.out.mutR hR6 hC6 hl6 hd6); obtain ⟨m6, LA6, lc6, hm6, rfl, k6⟩ := hR6.lenL; have hsub : IntKind.i64.wrap ((m6 : Int) - 1) = B.es.length := (by rw [IntWalk.i64_in _ (by have := HLN.out; omega)]; have := HLN.out; omega); clear hR6 hC6 hl6 hd6 hm6)
        | (go_at_call 34; refine (code_nil _).mono ?_; rintro e w7 ⟨rfl, rfl⟩))
      go_ret
      exact ⟨_, _, _, rfl, by rw [HRD.out]; exact HP6.out⟩
    · obtain ⟨hr1, hr2⟩ := errR_range B d.f1
      generalize hc : errR B d.f1 = c at h0 hr1 hr2
      have RV := Lib.hid (rev_no HPA.out.book (by omega) HE.out hc h0)
      have HZ := Lib.hid hc
      have hc1 : 1 ≤ c := by omega
      have hne : (c != 0) = true := bne_iff_ne.2 h0
      have hne' : (c == 0) = false := beq_eq_false_iff_ne.2 h0
      clear h0 hc hr1
      go_enter Try.func15, Try.ntmps15
      go_wp2_with (first
        | (go_at_call 8; refine (PK.out _).mono ?_; rintro e w4 ⟨rfl, rfl⟩)
        | (go_at_call 9; refine RV.out.mono ?_; rintro e w5 ⟨ev', rfl, hB5, hC5, hev5⟩; have q5 := HPA.out.book.keepB hC5 (get_new _ _) (by decide); have x5 := cell_at q5 1 rfl; have HP5 := Lib.hid (HPA.out.mutB hB5 hC5 hev5); clear hB5 hC5 hev5 q5)
        | (go_at_call 33; refine (refrev_is HP5.out.ref HL.out (by omega) HZ.out).mono ?_; rintro e w6 ⟨lv6, dv6, rfl, hR6, hC6, hl6, hd6⟩; have HP6 := Lib.hid (HP5.out.mutR hR6 hC6 hl6 hd6); clear hR6 hC6 hl6 hd6)
        | (go_at_call 34; refine (code_some c hc1 hr2 _).mono ?_; rintro e w7 ⟨rfl, rfl⟩))
      go_ret
      exact ⟨_, _, _, rfl, by rw [HRD.out]; exact HP6.out⟩
  · have HRD := Lib.hid (show runD B d = postB B d.f2 by rw [runD, if_neg hp])
    have hp' : (pickB d.f0 == 2) = false := beq_eq_false_iff_ne.2 hp
    generalize pickB d.f0 = q at PK hp'
    clear hp
    have hlA := Lib.hid (hl.below HPA.out.bel)
    have HLL := Lib.hid hl
    by_cases h0 : errB B d.f2 = 0
    · have PO := Lib.hid (post_ok HPA.out.book hlA.out (by omega) (by omega) h0)
      have HZ := Lib.hid h0
      have HLN := Lib.hid (postB_len h0)
      have h1 : 1 ≤ d.f2.length := by have := (errB_zero h0).1; simp [shapedB] at this; omega
      have HES := Lib.hid (show (postB B d.f2).es = B.es ++ [(d.f2, false)] by rw [postB, if_pos h0])
      clear h0 hl
      go_enter Try.func15, Try.ntmps15
      go_wp2_with (first
        | (go_at_call 8; refine (PK.out _).mono ?_; rintro e w4 ⟨rfl, rfl⟩)
        | (go_at_call 10; refine PO.out.mono ?_; rintro e w5 ⟨ev', rfl, hB5, hC5, hev5⟩; have q5 := HPA.out.book.keepB hC5 (get_new _ _) (by decide); have x5 := cell_at q5 2 rfl; have Q5 := Lib.hid q5; have HP5 := Lib.hid (HPA.out.mutB hB5 hC5 hev5); clear hB5 hC5 hev5 q5)
        | (go_at_call 35; refine (may10_is HP5.out.ref (HLL.out.below HP5.out.bel) HL.out (by omega) (by omega) HZ.out).mono ?_; rintro e w6 ⟨rfl, hb6⟩; have HP6 := Lib.hid (HP5.out.below hb6); have x6 := cell_at ((hb6.block w.heap.size (Array.getElem?_eq_some_iff.1 Q5.out).1).trans Q5.out) 2 rfl)
        | (go_at_call 36; refine (refpost_any rb lv dv B.es _ d.f2 _ HP6.out.ref (HLL.out.below HP6.out.bel) (by omega) h1 (by omega)).mono ?_; rintro e w7 ⟨lv7, dv7, rfl, hR7, hC7, hl7, hd7⟩; have HP7 := Lib.hid (HP6.out.mutR hR7 hC7 hl7 hd7); obtain ⟨m6, LA6, lc6, hm6, rfl, k6⟩ := hR7.lenL; have hsub : IntKind.i64.wrap ((m6 : Int) - 1) = B.es.length := (by have hm7 : m6 = B.es.length + 1 := (by rw [hm6]; simp); rw [IntWalk.i64_in _ (by omega)]; omega); clear hR7 hC7 hl7 hd7 hm6)
        | (go_at_call 34; refine (code_nil _).mono ?_; rintro e w8 ⟨rfl, rfl⟩))
      go_ret
      exact ⟨_, _, _, rfl, by rw [HRD.out, HES.out]; exact HP7.out⟩
    · obtain ⟨hr1, hr2⟩ := errB_range B d.f2
      have HPB := Lib.hid (show postB B d.f2 = B by rw [postB, if_neg h0])
      have PO := Lib.hid (post_no HPA.out.book hlA.out (by omega) (by omega) h0)
      generalize hc : errB B d.f2 = c at h0 hr1 hr2 PO
      have HZ := Lib.hid hc
      have hc1 : 1 ≤ c := by omega
      have hne : (c != 0) = true := bne_iff_ne.2 h0
      have hne' : (c == 0) = false := beq_eq_false_iff_ne.2 h0
      clear h0 hc hr1 hl
      go_enter Try.func15, Try.ntmps15
      go_wp2_with (first
        | (go_at_call 8; refine (PK.out _).mono ?_; rintro e w4 ⟨rfl, rfl⟩)
        | (go_at_call 10; refine PO.out.mono ?_; rintro e w5 ⟨ev', rfl, hB5, hC5, hev5⟩; have q5 := HPA.out.book.keepB hC5 (get_new _ _) (by decide); have x5 := cell_at q5 2 rfl; have Q5 := Lib.hid q5; have HP5 := Lib.hid (HPA.out.mutB hB5 hC5 hev5); clear hB5 hC5 hev5 q5)
        | (go_at_call 35; refine (may10_is HP5.out.ref (HLL.out.below HP5.out.bel) HL.out (by omega) (by omega) HZ.out).mono ?_; rintro e w6 ⟨rfl, hb6⟩; have HP6 := Lib.hid (HP5.out.below hb6))
        | (go_at_call 34; refine (code_some c hc1 hr2 _).mono ?_; rintro e w8 ⟨rfl, rfl⟩))
      go_ret
      exact ⟨_, _, _, rfl, by rw [HRD.out, HPB.out]; exact HP6.out⟩
end Go.Proofs.Ytjljfkioiglaiaa
