/- The document's answer, layers 9, 10, 14: Good, Same, at, Add, Store. -/
import Derived.Test.YtmoebgkfmkdkpaaDoorRef
namespace Go.Proofs.YtmoebgkfmkdkpaaDoor
open Go.RowKit Go.Proofs
set_option linter.unusedSimpArgs false
set_option linter.unusedVariables false

set_option maxHeartbeats 1600000 in
theorem ref09_Good (f : File) (v : Value) (w : World) (h : SlO recK w v f.recs) :
    Calls Tryd.prog 46 #[.agg #[.int .i64 f.perm, v]] w fun e w' => e = .returned (.bool f.good) ∧ Below w.heap.size w w' := by
  obtain ⟨perm, recs⟩ := f
  obtain ⟨a, c, rfl, hc, hn, hm, hb0⟩ := h.open'
  dsimp only at h hc hn hb0 ⊢
  clear hb0
  rcases Bool.eq_false_or_eq_true (decide (0 ≤ perm)) with g0 | g0
  case inr =>
    have hf := Lib.hid (show File.good ⟨perm, recs⟩ = false by simp [File.good, g0])
    have g0' : decide (perm < 0) = true := by simp at g0 ⊢; omega
    clear g0
    go_enter Tryd.func46, Tryd.ntmps46
    go_wp2
    go_returns
    exact ⟨by rw [hf.out]; rfl, by (repeat' (first | (with_reducible exact Below.refl _ _) | (with_reducible refine below_ext ?_ ?_ _) | (with_reducible refine below_al ?_ ?_ _) | (with_reducible refine Below.drew ?_) | (with_reducible refine Below.setCell ?_ ?_ _) | (with_reducible assumption) | (first | (with_reducible exact Nat.le_refl _) | omega | (simp only [World.size_alloc, World.size_setCell, World.size_drew] at *; omega) | (simp at *; omega) | (simp; done))))⟩
  have g0' : decide (perm < 0) = false := by simp at g0 ⊢; omega
  rcases Bool.eq_false_or_eq_true (decide (perm ≤ 7)) with g1 | g1
  case inr =>
    have hf := Lib.hid (show File.good ⟨perm, recs⟩ = false by simp [File.good, g0, g1])
    have g1' : decide (7 < perm) = true := by simp at g1 ⊢; omega
    clear g0 g1
    go_enter Tryd.func46, Tryd.ntmps46
    go_wp2
    go_returns
    exact ⟨by rw [hf.out]; rfl, by (repeat' (first | (with_reducible exact Below.refl _ _) | (with_reducible refine below_ext ?_ ?_ _) | (with_reducible refine below_al ?_ ?_ _) | (with_reducible refine Below.drew ?_) | (with_reducible refine Below.setCell ?_ ?_ _) | (with_reducible assumption) | (first | (with_reducible exact Nat.le_refl _) | omega | (simp only [World.size_alloc, World.size_setCell, World.size_drew] at *; omega) | (simp at *; omega) | (simp; done))))⟩
  have g1' : decide (7 < perm) = false := by simp at g1 ⊢; omega
  rcases Bool.eq_false_or_eq_true (decide ((1 : Int) ≤ recs.length)) with g2 | g2
  case inr =>
    have hf := Lib.hid (show File.good ⟨perm, recs⟩ = false by simp [File.good, g0, g1, g2])
    have g2' : recs.length = 0 := by simp at g2; omega
    clear g0 g1 g2
    go_enter Tryd.func46, Tryd.ntmps46
    go_wp2
    go_returns
    exact ⟨by rw [hf.out]; rfl, by (repeat' (first | (with_reducible exact Below.refl _ _) | (with_reducible refine below_ext ?_ ?_ _) | (with_reducible refine below_al ?_ ?_ _) | (with_reducible refine Below.drew ?_) | (with_reducible refine Below.setCell ?_ ?_ _) | (with_reducible assumption) | (first | (with_reducible exact Nat.le_refl _) | omega | (simp only [World.size_alloc, World.size_setCell, World.size_drew] at *; omega) | (simp at *; omega) | (simp; done))))⟩
  have g2' : ((recs.length : Int) == 0) = false := beq_eq_false_iff_ne.2 (by have := of_decide_eq_true g2; omega)
  rcases Bool.eq_false_or_eq_true (decide ((recs.length : Int) ≤ 256)) with g3 | g3
  case inr =>
    have hf := Lib.hid (show File.good ⟨perm, recs⟩ = false by simp [File.good, g0, g1, g2, g3])
    have g3' : decide (256 < (recs.length : Int)) = true := by simp at g3 ⊢; omega
    clear g0 g1 g2 g3
    go_enter Tryd.func46, Tryd.ntmps46
    go_wp2
    go_returns
    exact ⟨by rw [hf.out]; rfl, by (repeat' (first | (with_reducible exact Below.refl _ _) | (with_reducible refine below_ext ?_ ?_ _) | (with_reducible refine below_al ?_ ?_ _) | (with_reducible refine Below.drew ?_) | (with_reducible refine Below.setCell ?_ ?_ _) | (with_reducible assumption) | (first | (with_reducible exact Nat.le_refl _) | omega | (simp only [World.size_alloc, World.size_setCell, World.size_drew] at *; omega) | (simp at *; omega) | (simp; done))))⟩
  have g3' : decide (256 < (recs.length : Int)) = false := by simp at g3 ⊢; omega
  have hl : 0 < recs.length := by have := of_decide_eq_true g2; omega
  obtain ⟨b, o, r, rfl, -, hb, hr, c0, c1, c2, c3⟩ := rec_cells h hl
  have hf := Lib.hid (show File.good ⟨perm, recs⟩ = (r.a == (hdr perm (recs.length - 1)).a && (r.b == (hdr perm (recs.length - 1)).b && (r.c == (hdr perm (recs.length - 1)).c && r.d == (hdr perm (recs.length - 1)).d))) by
    rw [← rec_beq]; simp [File.good, g0, g1, g2, g3, List.head?_eq_getElem?, hr])
  simp only [Nat.zero_mul, Nat.add_zero] at c0 c1 c2 c3
  clear h hr g0 g1 g3
  go_enter Tryd.func46, Tryd.ntmps46
  go_wp2
  refine wp_region_ext (by kernel_rfl) (by kernel_rfl) ?_; (repeat (go_big_quiet_step ((go_at_call 39; exact Calls.ext_of (ref_Header _ _ _))))); refine wpQuiet_nil ?_; rintro _ ⟨nq, rfl⟩; have hq := size_grownTo _ nq
  go_wp2
  go_returns
  exact ⟨by rw [hf.out]; rfl, by (repeat' (first | (with_reducible exact Below.refl _ _) | (with_reducible refine below_ext ?_ ?_ _) | (with_reducible refine below_al ?_ ?_ _) | (with_reducible refine Below.drew ?_) | (with_reducible refine Below.setCell ?_ ?_ _) | (with_reducible assumption) | (first | (with_reducible exact Nat.le_refl _) | omega | (simp only [World.size_alloc, World.size_setCell, World.size_drew] at *; omega) | (simp at *; omega) | (simp; done))))⟩

/-- Only orders were drawn. -/
def Drew (w w' : World) : Prop := ∃ n, w' = w.drewN n
theorem Drew.refl (w : World) : Drew w w := ⟨0, rfl⟩
theorem Drew.more {w : World} (n m : Nat) : Drew w ((w.drewN n).drewN m) := ⟨_, World.drewN_drewN _ _ _⟩
theorem Drew.one (w : World) (n : Nat) : Drew w (w.drewN n) := ⟨_, rfl⟩
theorem below_drewN {B : Nat} {w w' : World} (h : Below B w w') (n : Nat) : Below B w (w'.drewN n) := ⟨h.os, h.tape, h.output, h.size, h.block⟩

/-- Are files one? -/
def sameF (f g : File) : Bool := f.perm == g.perm && f.recs == g.recs
theorem sameF_iff (f g : File) : sameF f g = true ↔ f = g := by
  obtain ⟨p, xs⟩ := f; obtain ⟨q, ys⟩ := g
  simp [sameF]

theorem rec_eq_not {r r' : Rec} (h : (!r.a == r'.a) = false ∧ (!r.b == r'.b) = false ∧ (!r.c == r'.c) = false ∧ (!r.d == r'.d) = false) : r = r' := by
  obtain ⟨_, _, _, _⟩ := r; obtain ⟨_, _, _, _⟩ := r'
  simpa using h

set_option maxHeartbeats 1600000 in
theorem ref09_Same (f g : File) (u v : Value) (w : World) (hu : SlO recK w u f.recs) (hv : SlO recK w v g.recs) :
    Calls Tryd.prog 33 #[.agg #[.int .i64 f.perm, u], .agg #[.int .i64 g.perm, v]] w fun e w' => e = .returned (.bool (sameF f g)) ∧ Below w.heap.size w w' := by
  obtain ⟨perm, xs⟩ := f
  obtain ⟨qerm, ys⟩ := g
  dsimp only at hu hv ⊢
  obtain ⟨a, c, rfl, hc, hn, hm, hb0⟩ := hu.open'
  obtain ⟨a', c', rfl, hc', hn', hm', hb0'⟩ := hv.open'
  clear hb0 hb0'
  cases g0 : (perm != qerm) with
  | true =>
    have hf := Lib.hid (show sameF ⟨perm, xs⟩ ⟨qerm, ys⟩ = false by simp at g0; simp [sameF, g0])
    clear hu hv
    go_enter Tryd.func33, Tryd.ntmps33
    go_wp2
    go_returns
    exact ⟨by rw [hf.out]; rfl, by (repeat' (first | (with_reducible exact Below.refl _ _) | (with_reducible refine below_ext ?_ ?_ _) | (with_reducible refine below_al ?_ ?_ _) | (with_reducible refine Below.drew ?_) | (with_reducible refine Below.setCell ?_ ?_ _) | (with_reducible assumption) | (first | (with_reducible exact Nat.le_refl _) | omega | (simp only [World.size_alloc, World.size_setCell, World.size_drew] at *; omega) | (simp at *; omega) | (simp; done))))⟩
  | false =>
    cases g1 : ((xs.length : Int) != ys.length) with
    | true =>
      have hf := Lib.hid (show sameF ⟨perm, xs⟩ ⟨qerm, ys⟩ = false by
        simp at g1; simp [sameF]; intro _ e; rw [e] at g1; exact absurd rfl g1)
      clear hu hv
      go_enter Tryd.func33, Tryd.ntmps33
      go_wp2
      go_returns
      exact ⟨by rw [hf.out]; rfl, by (repeat' (first | (with_reducible exact Below.refl _ _) | (with_reducible refine below_ext ?_ ?_ _) | (with_reducible refine below_al ?_ ?_ _) | (with_reducible refine Below.drew ?_) | (with_reducible refine Below.setCell ?_ ?_ _) | (with_reducible assumption) | (first | (with_reducible exact Nat.le_refl _) | omega | (simp only [World.size_alloc, World.size_setCell, World.size_drew] at *; omega) | (simp at *; omega) | (simp; done))))⟩
    | false =>
      have hp := Lib.hid (show perm = qerm by simpa using g0)
      have hl : ys.length = xs.length := by simp at g1; omega
      rw [hl] at hc' hn' hv ⊢
      clear g1 hn'
      have HU := Lib.hid hu
      have HV := Lib.hid hv
      have HL := Lib.hid hl
      clear hu hv hl
      go_enter Tryd.func33, Tryd.ntmps33
      go_wp2
      obtain ⟨W0, hW0⟩ : ∃ W0 : World, (w.alloc (.cells #[.int .i64 perm, .slice a xs.length c] 28)).alloc (.cells #[.int .i64 qerm, .slice a' xs.length c'] 28) = W0 := ⟨_, rfl⟩
      have hB0 : Below w.heap.size w W0 := by rw [← hW0]; (repeat' (first | (with_reducible exact Below.refl _ _) | (with_reducible refine below_ext ?_ ?_ _) | (with_reducible refine below_al ?_ ?_ _) | (with_reducible refine Below.drew ?_) | (with_reducible refine Below.setCell ?_ ?_ _) | (with_reducible assumption) | (first | (with_reducible exact Nat.le_refl _) | omega | (simp only [World.size_alloc, World.size_setCell, World.size_drew] at *; omega) | (simp at *; omega) | (simp; done))))
      have z0 : W0.cell? ⟨w.heap.size, 0, none⟩ = some (.int .i64 perm) := by rw [← hW0]; simp [go_sem]
      have z1 : W0.cell? ⟨w.heap.size, 1, none⟩ = some (.slice a xs.length c) := by rw [← hW0]; simp [go_sem]
      have z2 : W0.cell? ⟨w.heap.size + 1, 0, none⟩ = some (.int .i64 qerm) := by rw [← hW0]; simp [go_sem]
      have z3 : W0.cell? ⟨w.heap.size + 1, 1, none⟩ = some (.slice a' xs.length c') := by rw [← hW0]; simp [go_sem]
      rw [hW0]
      clear hW0
      go_loopw [5] (fun i wr => ∃ k : Nat, k ≤ xs.length ∧ i = .int .i64 k ∧ xs.take k = ys.take k ∧ Drew W0 wr) (fun i _ => xs.length - (intOf i).toNat)
      case atStart => exact ⟨0, Nat.zero_le _, rfl, rfl, Drew.refl _⟩
      case round =>
        obtain ⟨k, hk, rfl, ht, ⟨n, rfl⟩⟩ := hrel
        have HT := Lib.hid ht
        clear ht
        by_cases hlt : k < xs.length
        · obtain ⟨b, o, r, rfl, -, hb, hr, c0, c1, c2, c3⟩ := rec_cells (HU.out.up hB0) hlt
          obtain ⟨b', o', r', rfl, -, hb', hr', d0, d1, d2, d3⟩ := rec_cells (i := k) (HV.out.up hB0) hlt
          have HR := Lib.hid hr
          have HR' := Lib.hid hr'
          clear hr hr'
          have hn1 : (0 : Int) ≤ (k : Int) := by omega
          have hn2 : (k : Int) < (xs.length : Int) := by omega
          go_wp2
          go_quiet (fail)
          by_cases he : r = r'
          · subst he
            go_wp2
            · rename_i h
              simp at h
            go_roundw
            case rel => exact ⟨k + 1, by omega, by simp, by rw [List.take_add_one, List.take_add_one, HT.out, HR.out, HR'.out], Drew.one _ _⟩
            case measure => simp [intOf]; omega
          · have HE := Lib.hid he
            clear he
            go_wp2
            · go_returns
              refine ⟨?_, by (repeat' (first | (with_reducible exact Below.refl _ _) | (with_reducible refine below_ext ?_ ?_ _) | (with_reducible refine below_al ?_ ?_ _) | (with_reducible refine Below.drew ?_) | (with_reducible refine below_drewN ?_ _) | (with_reducible refine Below.setCell ?_ ?_ _) | (with_reducible assumption) | (first | (with_reducible exact Nat.le_refl _) | omega | (simp only [World.size_alloc, World.size_setCell, World.size_drew] at *; omega) | (simp at *; omega) | (simp; done))))⟩
              have : sameF ⟨perm, xs⟩ ⟨qerm, ys⟩ = false := by
                rw [Bool.eq_false_iff]
                intro e
                have e2 := (sameF_iff _ _).1 e
                injection e2 with e3 e4
                subst e4
                exact HE.out (Option.some.inj (HR.out.symm.trans HR'.out))
              rw [this]
              rfl
            · rename_i h
              exact absurd (rec_eq_not h) HE.out
        · obtain rfl : k = xs.length := by omega
          go_wp2
          go_returns
          refine ⟨?_, by (repeat' (first | (with_reducible exact Below.refl _ _) | (with_reducible refine below_ext ?_ ?_ _) | (with_reducible refine below_al ?_ ?_ _) | (with_reducible refine Below.drew ?_) | (with_reducible refine below_drewN ?_ _) | (with_reducible refine Below.setCell ?_ ?_ _) | (with_reducible assumption) | (first | (with_reducible exact Nat.le_refl _) | omega | (simp only [World.size_alloc, World.size_setCell, World.size_drew] at *; omega) | (simp at *; omega) | (simp; done))))⟩
          have : sameF ⟨perm, xs⟩ ⟨qerm, ys⟩ = true := by
            rw [sameF_iff, hp.out]
            have := HT.out
            rw [List.take_length, List.take_of_length_le (by rw [HL.out]; exact Nat.le_refl _)] at this
            rw [this]
          rw [this]
          rfl
end Go.Proofs.YtmoebgkfmkdkpaaDoor
