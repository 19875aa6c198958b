/- Packages addr, file, and the references of layers 8, 9: what their functions do. -/
import Derived.Test.YtmoebgkfmkdkpaaDoorFacts
namespace Go.Proofs.YtmoebgkfmkdkpaaDoor
open Go.RowKit Go.Proofs
set_option linter.unusedSimpArgs false
set_option linter.unusedVariables false

set_option maxHeartbeats 400000 in
theorem file_bit (op : Int) (w : World) :
    Calls Tryd.prog 63 #[.int .i64 op] w fun e w' => e = .returned (.int .i64 (bitOf op)) ∧ w = w' := by
  go_enter Tryd.func63, Tryd.ntmps63
  go_wp2
  all_goals (go_ret; simp_all [bitOf])

set_option maxHeartbeats 400000 in
theorem file_header (perm n : Int) (w : World) :
    Calls Tryd.prog 40 #[.int .i64 perm, .int .i64 n] w fun e w' => e = .returned (recV (hdr perm n)) ∧ Below w.heap.size w w' := by
  go_enter Tryd.func40, Tryd.ntmps40
  go_wp2
  go_returns
  exact ⟨rfl, (Below.refl _ _).alloc (Nat.le_refl _) _⟩

set_option maxHeartbeats 1600000 in
theorem file_Good (f : File) (v : Value) (w : World) (h : SlO recK w v f.recs) :
    Calls Tryd.prog 23 #[.agg #[.int .i64 f.perm, v]] w fun e w' => e = .returned (.bool f.good) ∧ Below w.heap.size w w' := by
  obtain ⟨perm, recs⟩ := f
  obtain ⟨a, c, rfl, hc, hn, hm, hb0⟩ := h.open'
  dsimp only at h hc hn hb0 ⊢
  clear hb0
  rcases Bool.eq_false_or_eq_true (decide (0 ≤ perm)) with g0 | g0
  case inr =>
    have hf := Lib.hid (show File.good ⟨perm, recs⟩ = false by simp [File.good, g0])
    go_enter Tryd.func23, Tryd.ntmps23
    go_wp2
    refine wp_region_ext (by kernel_rfl) (by kernel_rfl) ?_
    repeat (go_big_quiet_step ((go_at_call 40; exact Calls.ext_of (file_header _ _ _))))
    refine wpQuiet_nil ?_
    rintro _ ⟨nq, rfl⟩
    go_wp2
    go_returns
    exact ⟨by rw [hf.out]; rfl, below_ext (below_al (Below.refl _ _) (Nat.le_refl _) _) (by simp) _⟩
  rcases Bool.eq_false_or_eq_true (decide (perm ≤ 7)) with g1 | g1
  case inr =>
    have hf := Lib.hid (show File.good ⟨perm, recs⟩ = false by simp [File.good, g0, g1])
    go_enter Tryd.func23, Tryd.ntmps23
    go_wp2
    refine wp_region_ext (by kernel_rfl) (by kernel_rfl) ?_
    repeat (go_big_quiet_step ((go_at_call 40; exact Calls.ext_of (file_header _ _ _))))
    refine wpQuiet_nil ?_
    rintro _ ⟨nq, rfl⟩
    go_wp2
    go_returns
    exact ⟨by rw [hf.out]; rfl, below_ext (below_al (Below.refl _ _) (Nat.le_refl _) _) (by simp) _⟩
  rcases Bool.eq_false_or_eq_true (decide ((1 : Int) ≤ recs.length)) with g2 | g2
  case inr =>
    have hf := Lib.hid (show File.good ⟨perm, recs⟩ = false by simp [File.good, g0, g1, g2])
    go_enter Tryd.func23, Tryd.ntmps23
    go_wp2
    refine wp_region_ext (by kernel_rfl) (by kernel_rfl) ?_
    repeat (go_big_quiet_step ((go_at_call 40; exact Calls.ext_of (file_header _ _ _))))
    refine wpQuiet_nil ?_
    rintro _ ⟨nq, rfl⟩
    go_wp2
    go_returns
    exact ⟨by rw [hf.out]; rfl, below_ext (below_al (Below.refl _ _) (Nat.le_refl _) _) (by simp) _⟩
  rcases Bool.eq_false_or_eq_true (decide ((recs.length : Int) ≤ 256)) with g3 | g3
  case inr =>
    have hf := Lib.hid (show File.good ⟨perm, recs⟩ = false by simp [File.good, g0, g1, g2, g3])
    go_enter Tryd.func23, Tryd.ntmps23
    go_wp2
    refine wp_region_ext (by kernel_rfl) (by kernel_rfl) ?_
    repeat (go_big_quiet_step ((go_at_call 40; exact Calls.ext_of (file_header _ _ _))))
    refine wpQuiet_nil ?_
    rintro _ ⟨nq, rfl⟩
    go_wp2
    go_returns
    exact ⟨by rw [hf.out]; rfl, below_ext (below_al (Below.refl _ _) (Nat.le_refl _) _) (by simp) _⟩
  have hl : 0 < recs.length := by have := of_decide_eq_true g2; omega
  obtain ⟨b, o, r, rfl, -, hb, hr, c0, c1, c2, c3⟩ := rec_cells h hl
  have hf := Lib.hid (show File.good ⟨perm, recs⟩ = (r.a == (hdr perm (recs.length - 1)).a && (r.b == (hdr perm (recs.length - 1)).b && (r.c == (hdr perm (recs.length - 1)).c && r.d == (hdr perm (recs.length - 1)).d))) by
    rw [← rec_beq]; simp [File.good, g0, g1, g2, g3, List.head?_eq_getElem?, hr])
  simp only [Nat.zero_mul, Nat.add_zero] at c0 c1 c2 c3
  clear h hr
  go_enter Tryd.func23, Tryd.ntmps23
  go_wp2
  refine wp_region_ext (by kernel_rfl) (by kernel_rfl) ?_
  repeat (go_big_quiet_step ((go_at_call 40; exact Calls.ext_of (file_header _ _ _))))
  refine wpQuiet_nil ?_
  rintro _ ⟨nq, rfl⟩
  go_wp2
  go_returns
  exact ⟨by rw [hf.out]; rfl, below_ext (below_al (Below.refl _ _) (Nat.le_refl _) _) (by simp) _⟩
set_option maxHeartbeats 1600000 in
theorem file_may (f : File) (v : Value) (op rec : Int) (w : World) (h : SlO recK w v f.recs) :
    Calls Tryd.prog 51 #[.agg #[.int .i64 f.perm, v], .int .i64 op, .int .i64 rec] w fun e w' => e = .returned (.int .i64 (may f op rec)) ∧ Below w.heap.size w w' := by
  have H := Lib.hid (fun (W : World) (hb : Below w.heap.size w W) => file_Good f v W (h.up hb))
  obtain ⟨a, c, rfl, hc, hn, hm, hb0⟩ := h.open'
  clear h hb0
  go_enter Tryd.func51, Tryd.ntmps51
  go_wp2_with (first | (go_at_call 23; refine (H.out _ (by (repeat' (first | (with_reducible exact Below.refl _ _) | (with_reducible refine below_ext ?_ ?_ _) | (with_reducible refine below_al ?_ ?_ _) | (with_reducible refine Below.drew ?_) | (with_reducible refine Below.setCell ?_ ?_ _) | (with_reducible assumption) | (first | (with_reducible exact Nat.le_refl _) | omega | (simp only [World.size_alloc, World.size_setCell, World.size_drew] at *; omega) | (simp at *; omega) | (simp; done)))))).mono ?_; rintro e w' ⟨rfl, hb⟩; obtain ⟨x, rfl, hx⟩ := ext_intro hb; clear hb) | (go_at_call 63; refine (file_bit _ _).mono ?_; rintro e w' ⟨rfl, rfl⟩))
  rotate_left 5
  refine wp_region_ext (by kernel_rfl) (by kernel_rfl) ?_; (repeat (go_big_quiet_step ((go_at_call 63; exact Calls.ext_of_same (file_bit _ _))))); refine wpQuiet_nil ?_; rintro _ ⟨nq, rfl⟩; have hq := size_grownTo _ nq
  go_wp2
  all_goals go_returns
  all_goals refine ⟨?_, ?_⟩
  all_goals (try (focus (repeat' (first | (with_reducible exact Below.refl _ _) | (with_reducible refine below_ext ?_ ?_ _) | (with_reducible refine below_al ?_ ?_ _) | (with_reducible refine Below.drew ?_) | (with_reducible refine Below.setCell ?_ ?_ _) | (with_reducible assumption) | (first | (with_reducible exact Nat.le_refl _) | omega | (simp only [World.size_alloc, World.size_setCell, World.size_drew] at *; omega) | (simp at *; omega) | (simp; done)))); done))
  all_goals (clear H; simp_all [may, lets])
  all_goals (first | omega | (intro e; simp_all))
end Go.Proofs.YtmoebgkfmkdkpaaDoor
