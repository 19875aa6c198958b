/- serve: Ask, Data, Open. -/
import Derived.Test.YtmoebgkfmkdkpaaDoorServe
import Derived.Test.YtmoebgkfmkdkpaaDoorTail
namespace Go.Proofs.YtmoebgkfmkdkpaaDoor
open Go.RowKit Go.Proofs
set_option linter.unusedSimpArgs false
set_option linter.unusedVariables false

abbrev b5V (b : B5) : Value := .agg #[.int .u8 b.v.a, .int .u8 b.v.b, .int .u8 b.v.c, .int .u8 b.v.d, .int .u8 b.k]
set_option maxRecDepth 100000 in
set_option maxHeartbeats 1000000 in
theorem serve_Data (v : Rec) (w : World) : Calls Tryd.prog 30 #[recV v] w fun e w' => e = .returned (b5V (dataB v)) ∧ Below w.heap.size w w' := by
  have H := Lib.hid (fun (W : World) (hb : w.heap.size < W.heap.size) (h0 : W.cell? ⟨w.heap.size, 0, none⟩ = some (.int .u8 v.a)) (h1 : W.cell? ⟨w.heap.size, 1, none⟩ = some (.int .u8 v.b)) (h2 : W.cell? ⟨w.heap.size, 2, none⟩ = some (.int .u8 v.c)) (h3 : W.cell? ⟨w.heap.size, 3, none⟩ = some (.int .u8 v.d)) =>
    Calls.still (serve_checked (.slice (some ⟨w.heap.size, 0, none⟩) 4 4) [v.a, v.b, v.c, v.d] W (u8_sl (xs := [v.a, v.b, v.c, v.d]) (o := 0) hb hb (by simp) (by simp [maxLen]) (by simp [big]) (fun j x hx => by
      match j, hx with
      | 0, hx => simp at hx; subst hx; exact h0
      | 1, hx => simp at hx; subst hx; exact h1
      | 2, hx => simp at hx; subst hx; exact h2
      | 3, hx => simp at hx; subst hx; exact h3))))
  go_enter Tryd.func30, Tryd.ntmps30
  go_wp2
  refine wp_region_tail 11 (by kernel_rfl) (by kernel_rfl) ?_; simp only [List.take_succ_cons, List.take_zero, List.drop_succ_cons, List.drop_zero]; (repeat still_step); (try refine wpStill_nil ?_)
  still_call (H.out _ (by (first | (with_reducible exact Nat.le_refl _) | omega | (simp only [World.size_alloc, World.size_setCell, World.size_drew] at *; omega) | (simp at *; omega) | (simp; done))) (by simp [go_sem]) (by simp [go_sem]) (by simp [go_sem]) (by simp [go_sem]))
  (repeat still_step); (try refine wpStill_nil ?_)
  go_wp2
  go_returns
  exact ⟨rfl, by (repeat' (first | (with_reducible exact Below.refl _ _) | (with_reducible refine below_ext ?_ ?_ _) | (with_reducible refine below_al ?_ ?_ _) | (with_reducible refine Below.drew ?_) | (with_reducible refine Below.setCell ?_ ?_ _) | (with_reducible assumption) | (first | (with_reducible exact Nat.le_refl _) | omega | (simp only [World.size_alloc, World.size_setCell, World.size_drew] at *; omega) | (simp at *; omega) | (simp; done))))⟩

theorem b5_beq (v : Rec) (b : B5) : ([v.a, v.b, v.c, v.d, chk4 v] == [b.v.a, b.v.b, b.v.c, b.v.d, b.k]) = decide (dataB v = b) := by
  obtain ⟨⟨_, _, _, _⟩, _⟩ := b; obtain ⟨_, _, _, _⟩ := v
  rw [Bool.eq_iff_iff]
  simp [dataB, and_assoc]
@[go_sem] theorem run_arrayAt_rec (a : Addr) (c : Nat) (w : World) : (Instr.arrayAt 25 (.slice (some a) 4 c)).run Tryd.prog w = .ok (.pointer (some a)) w := by kernel_rfl

set_option maxRecDepth 100000 in
set_option maxHeartbeats 1000000 in
theorem serve_Open (b : B5) (w : World) : Calls Tryd.prog 32 #[b5V b] w fun e w' => e = .returned (.tuple #[recV (openB b).1, .int .i64 (openB b).2]) ∧ Below w.heap.size w w' := by
  have H := Lib.hid (fun W : World => serve_Data b.v W)
  by_cases h : chk4 b.v = b.k
  · rw [show openB b = (b.v, 0) by unfold openB; rw [if_pos h]]
    have hd : dataB b.v = b := by obtain ⟨v, k⟩ := b; dsimp only at h; subst h; rfl
    rw [hd] at H
    clear h hd
    go_enter Tryd.func32, Tryd.ntmps32
    go_wp2
    refine wp_region_ext (by kernel_rfl) (by kernel_rfl) ?_; (repeat (go_big_quiet_step ((go_at_call 30; exact Calls.ext_of (H.out _))))); refine wpQuiet_nil ?_; rintro _ ⟨nq, rfl⟩; have hq := size_grownTo _ nq
    go_wp2
    all_goals (go_returns; exact ⟨rfl, by (repeat' (first | (with_reducible exact Below.refl _ _) | (with_reducible refine below_ext ?_ ?_ _) | (with_reducible refine below_al ?_ ?_ _) | (with_reducible refine Below.drew ?_) | (with_reducible refine Below.setCell ?_ ?_ _) | (with_reducible assumption) | (first | (with_reducible exact Nat.le_refl _) | omega | (simp only [World.size_alloc, World.size_setCell, World.size_drew] at *; omega) | (simp at *; omega) | (simp; done))))⟩)
  · rw [show openB b = (.zero, 14) by unfold openB; rw [if_neg h]]
    go_enter Tryd.func32, Tryd.ntmps32
    go_wp2
    refine wp_region_ext (by kernel_rfl) (by kernel_rfl) ?_; (repeat (go_big_quiet_step ((go_at_call 30; exact Calls.ext_of (H.out _))))); refine wpQuiet_nil ?_; rintro _ ⟨nq, rfl⟩; have hq := size_grownTo _ nq
    go_wp2
    · go_returns; exact ⟨rfl, by (repeat' (first | (with_reducible exact Below.refl _ _) | (with_reducible refine below_ext ?_ ?_ _) | (with_reducible refine below_al ?_ ?_ _) | (with_reducible refine Below.drew ?_) | (with_reducible refine Below.setCell ?_ ?_ _) | (with_reducible assumption) | (first | (with_reducible exact Nat.le_refl _) | omega | (simp only [World.size_alloc, World.size_setCell, World.size_drew] at *; omega) | (simp at *; omega) | (simp; done))))⟩
    · rename_i h1
      exact absurd (by simpa [dataB] using h1) h

set_option maxHeartbeats 1000000 in
theorem serve_Ask (name op file rec : Int) (w : World) : Calls Tryd.prog 29 #[.int .i64 name, addrV op file rec] w fun e w' =>
    e = .returned (.tuple #[recV (askB name op file rec).1, .int .i64 (askB name op file rec).2]) ∧ Below w.heap.size w w' := by
  cases hg : addrGood op file rec with
  | false =>
    rw [show askB name op file rec = (.zero, 1) by simp [askB, hg]]
    have H := Lib.hid (fun W : World => addr_Put_no op file rec W hg)
    clear hg
    go_enter Tryd.func29, Tryd.ntmps29
    go_wp2_with (go_at_call 48; refine (H.out _).mono ?_; rintro e w' ⟨rfl, hb⟩; obtain ⟨x, rfl, hx⟩ := ext_intro hb; clear hb)
    all_goals (go_returns; exact ⟨rfl, by (repeat' (first | (with_reducible exact Below.refl _ _) | (with_reducible refine below_ext ?_ ?_ _) | (with_reducible refine below_al ?_ ?_ _) | (with_reducible refine Below.drew ?_) | (with_reducible refine Below.setCell ?_ ?_ _) | (with_reducible assumption) | (first | (with_reducible exact Nat.le_refl _) | omega | (simp only [World.size_alloc, World.size_setCell, World.size_drew] at *; omega) | (simp at *; omega) | (simp; done))))⟩)
  | true =>
    have H := Lib.hid (fun W : World => addr_Put_ok op file rec W hg)
    rcases (show (name < 1 ∨ 254 < name) ∨ (1 ≤ name ∧ name ≤ 254) by omega) with hn | hn
    · rw [show askB name op file rec = (.zero, 1) by simp [askB]; omega]
      clear hg
      rcases hn with hn | hn
      · have hd : decide (name < 1) = true := by simpa using hn
        clear hn
        go_enter Tryd.func29, Tryd.ntmps29
        go_wp2_with (go_at_call 48; refine (H.out _).mono ?_; rintro e w' ⟨rfl, hb⟩; obtain ⟨x, rfl, hx⟩ := ext_intro hb; clear hb)
        all_goals (go_returns; exact ⟨rfl, by (repeat' (first | (with_reducible exact Below.refl _ _) | (with_reducible refine below_ext ?_ ?_ _) | (with_reducible refine below_al ?_ ?_ _) | (with_reducible refine Below.drew ?_) | (with_reducible refine Below.setCell ?_ ?_ _) | (with_reducible assumption) | (first | (with_reducible exact Nat.le_refl _) | omega | (simp only [World.size_alloc, World.size_setCell, World.size_drew] at *; omega) | (simp at *; omega) | (simp; done))))⟩)
      · have hd : decide (name < 1) = false := by simp; omega
        have hd2 : decide (254 < name) = true := by simpa using hn
        clear hn
        go_enter Tryd.func29, Tryd.ntmps29
        go_wp2_with (go_at_call 48; refine (H.out _).mono ?_; rintro e w' ⟨rfl, hb⟩; obtain ⟨x, rfl, hx⟩ := ext_intro hb; clear hb)
        all_goals (go_returns; exact ⟨rfl, by (repeat' (first | (with_reducible exact Below.refl _ _) | (with_reducible refine below_ext ?_ ?_ _) | (with_reducible refine below_al ?_ ?_ _) | (with_reducible refine Below.drew ?_) | (with_reducible refine Below.setCell ?_ ?_ _) | (with_reducible assumption) | (first | (with_reducible exact Nat.le_refl _) | omega | (simp only [World.size_alloc, World.size_setCell, World.size_drew] at *; omega) | (simp at *; omega) | (simp; done))))⟩)
    · rw [show askB name op file rec = (⟨name, op * 64 + file, rec, checkOf [name, op * 64 + file, rec]⟩, 0) by unfold askB; rw [if_neg (by simp [hg]; omega)]]
      have hd : decide (name < 1) = false := by simp; omega
      have hd2 : decide (254 < name) = false := by simp; omega
      have hm := Lib.hid (show name % 256 = name by omega)
      clear hn hg
      go_enter Tryd.func29, Tryd.ntmps29
      go_wp2_with (first | (go_at_call 48; refine (H.out _).mono ?_; rintro e w' ⟨rfl, hb⟩; obtain ⟨x, rfl, hx⟩ := ext_intro hb; clear hb) | (go_at_call 49; refine Hid.out ?_))
      refine Lib.hid ((serve_checked _ [name % 256, op * 64 + file, rec] _ (u8_sl (F := fun b => b < _) (o := 0) (by (first | (with_reducible exact Nat.le_refl _) | omega | (simp only [World.size_alloc, World.size_setCell, World.size_drew] at *; omega) | (simp at *; omega) | (simp; done))) (by (first | (with_reducible exact Nat.le_refl _) | omega | (simp only [World.size_alloc, World.size_setCell, World.size_drew] at *; omega) | (simp at *; omega) | (simp; done))) (by simp) (by simp [maxLen]) (by simp [big]) (fun j x hx => by
        match j, hx with
        | 0, hx => simp at hx; subst hx; simp [go_sem]
        | 1, hx => simp at hx; subst hx; simp [go_sem]
        | 2, hx => simp at hx; subst hx; simp [go_sem]))).mono ?_)
      rintro e w' ⟨rfl, rfl⟩
      rw [hm.out]
      go_wp2
      go_returns
      exact ⟨rfl, by (repeat' (first | (with_reducible exact Below.refl _ _) | (with_reducible refine below_ext ?_ ?_ _) | (with_reducible refine below_al ?_ ?_ _) | (with_reducible refine Below.drew ?_) | (with_reducible refine Below.setCell ?_ ?_ _) | (with_reducible assumption) | (first | (with_reducible exact Nat.le_refl _) | omega | (simp only [World.size_alloc, World.size_setCell, World.size_drew] at *; omega) | (simp at *; omega) | (simp; done))))⟩
end Go.Proofs.YtmoebgkfmkdkpaaDoor
