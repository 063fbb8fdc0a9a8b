/- The reference's Trial. -/
import Derived.Test.YtjljfkioiglaiaaRef11
import Derived.Deep.RegionLaw
set_option linter.unusedVariables false
set_option linter.unusedSimpArgs false
namespace Go.Proofs.Ytjljfkioiglaiaa
open Go.RowKit Go.Shelf NumL

def TI (w wr : World) (out : Value) (l : List Ln) : Prop := wr.ownsRow w.heap.size 43 3 out l.length (lcells l) ∧ Below w.heap.size w wr
theorem TI.below {w wr w2 : World} {out : Value} {l : List Ln} (h : TI w wr out l) (hb : Below wr.heap.size wr w2) : TI w w2 out l := ⟨own_below h.1 hb, h.2.trans (hb.mono h.2.size)⟩
theorem next_bound {B : Bk} (h : Link B) (kind last : Int) (i k : Nat) : -1 ≤ nextIn kind last (uptoL B.es i k) ∧ nextIn kind last (uptoL B.es i k) ≤ 65536 := by
  have hsub : ∀ x ∈ uptoL B.es i k, x ∈ allL B.es := by
    intro x hx
    unfold uptoL at hx
    rcases List.mem_append.1 hx with hx | hx
    · obtain ⟨e, he, hxe⟩ := List.mem_flatMap.1 hx
      exact List.mem_flatMap.2 ⟨e, List.mem_of_mem_take he, hxe⟩
    · have hx := List.mem_of_mem_take hx
      cases hi : B.es[i]? with
      | none => rw [hi] at hx; simp at hx
      | some e =>
        rw [hi] at hx
        exact List.mem_flatMap.2 ⟨e, List.mem_of_getElem? hi, hx⟩
  have hx := next_is kind last (uptoL B.es i k) (fun x hx => (h.acc (hsub x hx)).2.2.1)
  refine ⟨hx.lo, ?_⟩
  by_cases h0 : 0 ≤ nextIn kind last (uptoL B.es i k)
  · obtain ⟨_, ⟨x, hxm, e⟩, _⟩ := hx.some h0
    have := (h.acc (hsub x hxm)).2.2.2
    rw [e] at this
    exact this
  · omega

def RefTrialPost (w : World) (B : Bk) (e : Ending) (w' : World) : Prop := ∃ v l, e = .returned v ∧ LinesAt w' v l ∧ Gath B.es 13 (-1) l ∧ Below w.heap.size w w'

set_option maxRecDepth 100000 in
set_option maxHeartbeats 8000000 in
theorem reftrial_any (rb : Nat) (lv dv : Value) (B : Bk) (w : World) (hR : RefAt w rb lv dv B.es) (hL : Link B) (hes : B.es.length ≤ 4096) :
    Calls Try.prog 20 #[.pointer (some ⟨rb, 0, none⟩)] w (RefTrialPost w B) := by
  have hrb : rb < w.heap.size := (Array.getElem?_eq_some_iff.1 hR.cell).1
  have hlvf : ∃ A c, lv = .slice A B.es.length c := by obtain ⟨vs, _, h3, _⟩ := hR.rowL; exact own_form h3
  obtain ⟨LA, lc, rfl⟩ := hlvf
  have hE1000 : ∀ e ∈ B.es, e.1.length ≤ 1000 := fun e he => by have := hL.each e he; simp [shapedB] at this; omega
  have BA := Lib.hid (fun a W (hW : Below w.heap.size w W) => refbal_any rb _ dv B.es a W (hR.below hW) hes hE1000 (hL.fit a))
  have HR := Lib.hid hR
  have HL := Lib.hid hL
  have HE := Lib.hid hE1000
  have r0w : w.cell? ⟨rb, 0, none⟩ = some (.slice LA B.es.length lc) := cell_at hR.cell 0 rfl
  have hmul : IntKind.i64.wrap (32 * (B.es.length : Int)) = 32 * B.es.length := IntWalk.i64_in _ (by omega)
  clear hR hL hE1000
  go_enter Try.func20, Try.ntmps20
  go_wp2_with fail
  go_loopw [3, 4, 5, 6, 7, 8, 9, 12] (fun out kv _ _ _ _ _ _ wr => ∃ (l : List Ln) (kind : Int), 1 ≤ kind ∧ kind ≤ 13 ∧ kv = .int .i64 kind ∧ Asi (Gath B.es kind (-1) l) ∧ Asi (TI w wr out l)) (fun _ kv _ _ _ _ _ _ _ => (13 - intOf kv).toNat)
  case atStart => exact ⟨[], 1, by omega, by omega, rfl, ⟨Gath.start HL.out⟩, ⟨World.ownsRow_nil .., Below.refl _ _⟩⟩
  case round =>
    obtain ⟨l, kind, hk1, hk13, rfl, hG, hT⟩ := hrel
    by_cases hk12 : kind ≤ 12
    · go_wp2_with fail
      go_loopw [3, 5, 6, 7, 8, 9, 12] (fun out lastv nv _ _ _ _ wr => ∃ (l : List Ln) (last : Int) (n : Nat), (-1 ≤ last ∧ last ≤ 65536) ∧ n ≤ 32 * B.es.length ∧ lastv = .int .i64 last ∧ nv = .int .i64 n ∧ Asi (Gath B.es kind last l ∧ Rounds B.es last n) ∧ Asi (TI w wr out l)) (fun _ _ nv _ _ _ _ _ => (32 * B.es.length + 1) - (intOf nv).toNat)
      case atStart => exact ⟨l, -1, 0, by omega, by omega, rfl, rfl, ⟨hG.out, Rounds.start _⟩, hT⟩
      case round =>
        clear hG hT l
        obtain ⟨l, last, n, ⟨hl1, hl2⟩, hn, rfl, rfl, hG, hT⟩ := hrel
        have hn' : (n : Int) ≤ 32 * (B.es.length : Int) := by omega
        obtain ⟨A3, c3, rfl⟩ := own_form hT.out.1
        have r0 : wr.cell? ⟨rb, 0, none⟩ = some (.slice LA B.es.length lc) := (hT.out.2.cell (p := ⟨rb, 0, none⟩) hrb).trans r0w
        go_wp2_with fail
        go_loopw [7, 8, 9] (fun nx iv _ wr => ∃ (i : Nat) (z : Int), i ≤ B.es.length ∧ iv = .int .i64 i ∧ nx = .int .i64 z ∧ (-1 ≤ z ∧ z ≤ 65536) ∧ Asi (z = nextIn kind last (uptoL B.es i 0)) ∧ Asi (TI w wr (.slice A3 l.length c3) l)) (fun _ iv _ _ => B.es.length - (intOf iv).toNat)
        case atStart => exact ⟨0, -1, by omega, rfl, rfl, by omega, ⟨by simp [uptoL, allL, nextIn]⟩, hT⟩
        case round =>
          clear hT r0
          obtain ⟨i, z, hi, rfl, rfl, ⟨hz0, hz1⟩, hz, hT⟩ := hrel
          have r0 : wr.cell? ⟨rb, 0, none⟩ = some (.slice LA B.es.length lc) := (hT.out.2.cell (p := ⟨rb, 0, none⟩) hrb).trans r0w
          by_cases hlt : i < B.es.length
          · obtain ⟨e, he⟩ : ∃ e, B.es[i]? = some e := ⟨_, List.getElem?_eq_getElem hlt⟩
            obtain ⟨g, gc, VA, vc, hlv, hv, hown, hg⟩ := HR.out.entry i e he
            cases hlv
            obtain ⟨VA', vc', hve, ⟨hvc, hvm⟩, hvok, hvcell⟩ := hown.1
            cases hve
            have HVC := Lib.hid hvcell
            have HEI := Lib.hid he
            have hi0 : (0 : Int) ≤ i := by omega
            have hi1 : (i : Int) < B.es.length := by omega
            have hel := HE.out e (List.mem_of_getElem? he)
            clear hvcell hvok he hown
            go_wp2_with fail
            go_loopw [7, 9] (fun nx kv wr => ∃ (k : Nat) (z : Int), k ≤ e.1.length ∧ kv = .int .i64 k ∧ nx = .int .i64 z ∧ (-1 ≤ z ∧ z ≤ 65536) ∧ Asi (z = nextIn kind last (uptoL B.es i k)) ∧ Asi (TI w wr (.slice A3 l.length c3) l)) (fun _ kv _ => e.1.length - (intOf kv).toNat)
            case atStart => exact ⟨0, z, by omega, rfl, rfl, by omega, hz, hT⟩
            case round =>
              clear hT hz hz0 hz1 r0
              obtain ⟨k, q, hk, rfl, rfl, ⟨hz0, hz1⟩, hz, hT⟩ := hrel
              have r0 : wr.cell? ⟨rb, 0, none⟩ = some (.slice (some ⟨g, 0, none⟩) B.es.length lc) := (hT.out.2.cell (p := ⟨rb, 0, none⟩) hrb).trans r0w
              have rv : wr.cell? ⟨g, i, none⟩ = some (.slice VA e.1.length vc) := (hT.out.2.cell (p := ⟨g, i, none⟩) hg).trans hv
              by_cases hkl : k < e.1.length
              · obtain ⟨b, o, rfl, hb, hcc⟩ := HVC.out (by omega)
                obtain ⟨x, hx⟩ : ∃ x, e.1[k]? = some x := ⟨_, List.getElem?_eq_getElem hkl⟩
                obtain ⟨h0, h1, h2⟩ := hcc k x hx
                have g0 := (hT.out.2.cell (p := ⟨b, o + k * 3, none⟩) hb).trans h0
                have g1 := (hT.out.2.cell (p := ⟨b, o + k * 3 + 1, none⟩) hb).trans h1
                have hk0 : (0 : Int) ≤ k := by omega
                have hk1 : (k : Int) < e.1.length := by omega
                have HST : Hid (∀ y, y = nextOf kind last q x → (-1 ≤ y ∧ y ≤ 65536) ∧ y = nextIn kind last (uptoL B.es i (k + 1))) := Lib.hid (fun y hy => by
                  have e1 : y = nextIn kind last (uptoL B.es i (k + 1)) := by rw [upto_step HEI.out hx, next_snoc, ← hz.out, hy]
                  exact ⟨by rw [e1]; exact next_bound HL.out kind last i (k + 1), e1⟩)
                clear h0 h1 h2 hcc hx
                obtain ⟨⟨c0, c1⟩, m⟩ := x
                have hor : (¬ kind = c0 ∧ q = nextOf kind last q ⟨⟨c0, c1⟩, m⟩) ∨ (kind = c0 ∧ ¬ last < c1 ∧ q = nextOf kind last q ⟨⟨c0, c1⟩, m⟩) ∨ (kind = c0 ∧ last < c1 ∧ q < 0 ∧ c1 = nextOf kind last q ⟨⟨c0, c1⟩, m⟩) ∨
                    (kind = c0 ∧ last < c1 ∧ ¬ q < 0 ∧ c1 < q ∧ c1 = nextOf kind last q ⟨⟨c0, c1⟩, m⟩) ∨ (kind = c0 ∧ last < c1 ∧ ¬ q < 0 ∧ ¬ c1 < q ∧ q = nextOf kind last q ⟨⟨c0, c1⟩, m⟩) := by
                  unfold nextOf
                  dsimp only
                  split <;> omega
                have HZ := Lib.hid hz
                rcases hor with ⟨h1, h2⟩ | ⟨rfl, h1, h2⟩ | ⟨rfl, h1, h3, h2⟩ | ⟨rfl, h1, h3, h4, h2⟩ | ⟨rfl, h1, h3, h4, h2⟩
                · have h1' : (c0 == kind) = false := beq_eq_false_iff_ne.2 (fun e => h1 e.symm)
                  obtain ⟨hy1, hy2⟩ := HST.out _ h2
                  have HY := Lib.hid hy2
                  clear h1 h2 hy2 HST hz
                  go_wp2_with fail
                  go_roundw
                  case rel => exact ⟨k + 1, q, by omega, by go_num, rfl, hy1, ⟨HY.out⟩, ⟨hT.out.below (below_alloc' wr _)⟩⟩
                  case measure => simp [intOf]; omega
                · obtain ⟨hy1, hy2⟩ := HST.out _ h2
                  have HY := Lib.hid hy2
                  clear h2 hy2 HST hz
                  go_wp2_with fail
                  go_roundw
                  case rel => exact ⟨k + 1, q, by omega, by go_num, rfl, hy1, ⟨HY.out⟩, ⟨hT.out.below (below_alloc' wr _)⟩⟩
                  case measure => simp [intOf]; omega
                · obtain ⟨hy1, hy2⟩ := HST.out _ h2
                  have HY := Lib.hid hy2
                  clear h2 hy2 HST hz
                  go_wp2_with fail
                  go_roundw
                  case rel => exact ⟨k + 1, c1, by omega, by go_num, rfl, hy1, ⟨HY.out⟩, ⟨hT.out.below (below_alloc' wr _)⟩⟩
                  case measure => simp [intOf]; omega
                · obtain ⟨hy1, hy2⟩ := HST.out _ h2
                  have HY := Lib.hid hy2
                  clear h2 hy2 HST hz
                  go_wp2_with fail
                  go_roundw
                  case rel => exact ⟨k + 1, c1, by omega, by go_num, rfl, hy1, ⟨HY.out⟩, ⟨hT.out.below (below_alloc' wr _)⟩⟩
                  case measure => simp [intOf]; omega
                · obtain ⟨hy1, hy2⟩ := HST.out _ h2
                  have HY := Lib.hid hy2
                  clear h2 hy2 HST hz
                  go_wp2_with fail
                  go_roundw
                  case rel => exact ⟨k + 1, q, by omega, by go_num, rfl, hy1, ⟨HY.out⟩, ⟨hT.out.below (below_alloc' wr _)⟩⟩
                  case measure => simp [intOf]; omega
              · obtain rfl : k = e.1.length := by omega
                go_wp2_with fail
                go_roundw
                case rel => exact ⟨i + 1, q, by omega, by go_num, rfl, by omega, ⟨by rw [← upto_next HEI.out]; exact hz.out⟩, hT⟩
                case measure => simp [intOf]; omega
          · obtain rfl : i = B.es.length := by omega
            have hzz : z = nextIn kind last (allL B.es) := by have := hz.out; rwa [upto_zero, List.take_length] at this
            have HZ := Lib.hid hzz
            clear hzz
            by_cases hneg : z < 0
            · go_wp2_with fail
              go_roundw
              case rel => exact ⟨l, kind + 1, by omega, by omega, by go_num, ⟨hG.out.1.over HL.out (by rw [← HZ.out]; exact hneg)⟩, hT⟩
              case measure => simp [intOf]; omega
            · have hnz : 0 ≤ z := by omega
              have hzk : (z : Int) < 65537 := by omega
              have HG1 := Lib.hid (hG.out.1.next HL.out HZ.out.symm hnz)
              have HR1 := Lib.hid (hG.out.2.next HL.out HZ.out.symm hnz)
              have HN1 := Lib.hid (hG.out.2.next HL.out HZ.out.symm hnz |>.le HL.out)
              have HS1 := Lib.hid (hG.out.1.len HL.out)
              have BB := Lib.hid (fun W hW => BA.out ⟨kind, z⟩ W hW)
              have HFT := Lib.hid (fitsB_iff.1 (HL.out.fit ⟨kind, z⟩))
              generalize hsum : sumOf B.es [] ⟨kind, z⟩ = v at HG1 BB HFT
              clear hsum
              by_cases hv : v = 0
              · subst hv
                go_wp2_with (go_at_call 19; refine (BB.out _ (hT.out.2.trans ((below_alloc' wr _).mono hT.out.2.size))).mono ?_; rintro e w3 ⟨rfl, hb3⟩)
                go_roundw
                case rel => exact ⟨l, z, n + 1, by omega, HN1.out, rfl, by go_num, ⟨by simpa using HG1.out, HR1.out⟩, ⟨(hT.out.below (below_alloc' wr _)).below hb3⟩⟩
                case measure => have := HN1.out; simp [intOf]; omega
              · have hv' : (v != 0) = true := bne_iff_ne.2 hv
                have HV := Lib.hid hv
                clear hv
                go_wp2_with (first
                  | (go_at_call 19; refine (BB.out _ (hT.out.2.trans ((below_alloc' wr _).mono hT.out.2.size))).mono ?_; rintro e w3 ⟨rfl, hb3⟩; have n0 : w3.cell? ⟨wr.heap.size, 0, none⟩ = some (.int .i64 kind) := (hb3.cell (p := ⟨wr.heap.size, 0, none⟩) (by simp)).trans (cell_at (get_new _ _) 0 rfl); have n1 : w3.cell? ⟨wr.heap.size, 1, none⟩ = some (.int .i64 z) := (hb3.cell (p := ⟨wr.heap.size, 1, none⟩) (by simp)).trans (cell_at (get_new _ _) 1 rfl); have hT3 := (hT.out.below (below_alloc' wr (Obj.cells #[Value.int .i64 kind, Value.int .i64 z] 41))).below hb3; have hs3 := hT3.2.size)
                  | (at_builtin; refine wpList_append1' #[.int .i64 kind, .int .i64 z, .int .i64 v] rfl _ _ 28 43 (.agg #[.int .i64 0, .int .i64 0, .int .i64 0]) 3 24 rfl Try.underlying28 info_line rfl (by omega) (by omega) w.heap.size (.slice A3 l.length c3) l.length (lcells l) _ rfl rfl (by simp) (by simp [Value.oneCell']) rfl hT3.1 hs3 (by have := HS1.out; omega) ?_; intro v1 w4 hown4 hg4 hat4))
                go_roundw
                case rel =>
                  refine ⟨l ++ [⟨⟨kind, z⟩, v⟩], z, n + 1, by omega, HN1.out, rfl, by go_num, ⟨by have := HG1.out; rwa [if_neg HV.out] at this, HR1.out⟩, ⟨by simpa [lcells, Ln.cells] using hown4, hT3.2.grown hg4 hs3 (fun k hk => own_base' hT3.1 k hk)⟩⟩
                case measure => have := HN1.out; simp [intOf]; omega
    · obtain rfl : kind = 13 := by omega
      obtain ⟨A, c, rfl⟩ := own_form hT.out.1
      go_wp2_with fail
      go_ret
      exact ⟨_, l, rfl, (own_lines' hT.out.1 (by have := hG.out.len HL.out; omega) (hG.out.ok HL.out)).1, hG.out, hT.out.2⟩
end Go.Proofs.Ytjljfkioiglaiaa
