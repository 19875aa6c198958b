/- serve: answer. -/
import Derived.Test.YtmoebgkfmkdkpaaDoorServeB
import Derived.Test.YtmoebgkfmkdkpaaDoorNextB
import Derived.Test.YtmoebgkfmkdkpaaDoorPureB
namespace Go.Proofs.YtmoebgkfmkdkpaaDoor
open Go.RowKit Go.Proofs
set_option linter.unusedSimpArgs false
set_option linter.unusedVariables false

/-- What a node says comes to nothing: the store is as it was. -/
def AnsNo (w : World) (e : Ending) (w' : World) (k : Int) : Prop := e = .returned (.tuple #[recV .zero, silentV k]) ∧ Below w.heap.size w w'

set_option maxHeartbeats 1000000 in
theorem answer_nil (name : Int) (ask : Rec) (data : B5) (w : World) : Calls Tryd.prog 50 #[.pointer none, .int .i64 name, recV ask, b5V data] w fun e w' => e = .returned (.tuple #[recV .zero, silentV 14]) ∧ Below w.heap.size w w' := by
  go_enter Tryd.func50, Tryd.ntmps50
  go_wp2
  refine wp_region_ext (by kernel_rfl) (by kernel_rfl) ?_; (repeat (go_big_quiet_step (fail))); refine wpQuiet_nil ?_; rintro _ ⟨nq, rfl⟩; have hq := size_grownTo _ nq
  go_wp2
  go_returns
  exact ⟨rfl, by (repeat' (first | (with_reducible exact Below.refl _ _) | (with_reducible refine below_ext ?_ ?_ _) | (with_reducible refine below_al ?_ ?_ _) | (with_reducible refine Below.drew ?_) | (with_reducible refine Below.setCell ?_ ?_ _) | (with_reducible assumption) | (first | (with_reducible exact Nat.le_refl _) | omega | (simp only [World.size_alloc, World.size_setCell, World.size_drew] at *; omega) | (simp at *; omega) | (simp; done))))⟩

theorem checked3 {W : World} {B c : Nat} {x y z : Int} (hc : 3 ≤ c ∧ c ≤ 5) (hB : B < W.heap.size) (h0 : W.cell? ⟨B, 0, none⟩ = some (.int .u8 x)) (h1 : W.cell? ⟨B, 1, none⟩ = some (.int .u8 y)) (h2 : W.cell? ⟨B, 2, none⟩ = some (.int .u8 z)) :
    Calls Tryd.prog 49 #[.slice (some ⟨B, 0, none⟩) 3 c] W fun e w' => e = .returned (.int .u8 (checkOf [x, y, z])) ∧ W = w' :=
  serve_checked _ [x, y, z] W (u8_sl (xs := [x, y, z]) (c := c) (F := fun b => b < W.heap.size) (o := 0) hB hB (by simp; omega) (by unfold maxLen; omega) (by simp [big]) (fun j u hu => by
    match j, hu with
    | 0, hu => simp at hu; subst hu; exact h0
    | 1, hu => simp at hu; subst hu; exact h1
    | 2, hu => simp at hu; subst hu; exact h2))

set_option maxHeartbeats 2000000 in
theorem answer_chk (p : Nat) (name : Int) (ask : Rec) (hw : ask.wf) (data : B5) (w : World) (h : chk3 ask ≠ ask.d ∨ ask.a ≠ name) :
    Calls Tryd.prog 50 #[.pointer (some ⟨p, 0, none⟩), .int .i64 name, recV ask, b5V data] w fun e w' => e = .returned (.tuple #[recV .zero, silentV 14]) ∧ Below w.heap.size w w' := by
  have H := Lib.hid (fun (W : World) (hb : w.heap.size < W.heap.size) (h0 : W.cell? ⟨w.heap.size, 0, none⟩ = some (.int .u8 ask.a)) (h1 : W.cell? ⟨w.heap.size, 1, none⟩ = some (.int .u8 ask.b)) (h2 : W.cell? ⟨w.heap.size, 2, none⟩ = some (.int .u8 ask.c)) => checked3 (c := 4) (by omega) hb h0 h1 h2)
  rw [show checkOf [ask.a, ask.b, ask.c] = chk3 ask from rfl] at H
  by_cases g1 : chk3 ask = ask.d
  · have g2 : (ask.a == name) = false := beq_eq_false_iff_ne.2 (h.resolve_left (fun e => e g1))
    rw [g1] at H
    have g3 : (ask.d != ask.d) = false := by simp
    have g2' : (ask.a != name) = true := by simpa using g2
    obtain ⟨⟨a1, a2⟩, _⟩ := hw
    clear h g1
    go_enter Tryd.func50, Tryd.ntmps50
    go_wp2
    refine wp_region_ext (by kernel_rfl) (by kernel_rfl) ?_; (repeat (go_big_quiet_step ((go_at_call 49; exact Calls.ext_of_same (H.out _ (by simp [go_sem]) (by simp [go_sem]) (by simp [go_sem]) (by simp [go_sem])))))); refine wpQuiet_nil ?_; rintro _ ⟨nq, rfl⟩; have hq := size_grownTo _ nq
    go_wp2
    all_goals (go_returns; exact ⟨rfl, by (repeat' (first | (with_reducible exact Below.refl _ _) | (with_reducible refine below_ext ?_ ?_ _) | (with_reducible refine below_al ?_ ?_ _) | (with_reducible refine Below.drew ?_) | (with_reducible refine Below.setCell ?_ ?_ _) | (with_reducible assumption) | (first | (with_reducible exact Nat.le_refl _) | omega | (simp only [World.size_alloc, World.size_setCell, World.size_drew] at *; omega) | (simp at *; omega) | (simp; done))))⟩)
  · have g2 : (chk3 ask == ask.d) = false := beq_eq_false_iff_ne.2 g1
    have g2' : (chk3 ask != ask.d) = true := by simpa using g2
    obtain ⟨⟨a1, a2⟩, _⟩ := hw
    clear h g1
    go_enter Tryd.func50, Tryd.ntmps50
    go_wp2
    refine wp_region_ext (by kernel_rfl) (by kernel_rfl) ?_; (repeat (go_big_quiet_step ((go_at_call 49; exact Calls.ext_of_same (H.out _ (by simp [go_sem]) (by simp [go_sem]) (by simp [go_sem]) (by simp [go_sem])))))); refine wpQuiet_nil ?_; rintro _ ⟨nq, rfl⟩; have hq := size_grownTo _ nq
    go_wp2
    all_goals (go_returns; exact ⟨rfl, by (repeat' (first | (with_reducible exact Below.refl _ _) | (with_reducible refine below_ext ?_ ?_ _) | (with_reducible refine below_al ?_ ?_ _) | (with_reducible refine Below.drew ?_) | (with_reducible refine Below.setCell ?_ ?_ _) | (with_reducible assumption) | (first | (with_reducible exact Nat.le_refl _) | omega | (simp only [World.size_alloc, World.size_setCell, World.size_drew] at *; omega) | (simp at *; omega) | (simp; done))))⟩)

set_option maxHeartbeats 2000000 in
theorem answer_take (p : Nat) (name : Int) (ask : Rec) (hw : ask.wf) (data : B5) (w : World) (h1 : chk3 ask = ask.d) (h2 : ask.a = name) (h3 : 192 ≤ ask.b) :
    Calls Tryd.prog 50 #[.pointer (some ⟨p, 0, none⟩), .int .i64 name, recV ask, b5V data] w fun e w' => e = .returned (.tuple #[recV .zero, silentV 2]) ∧ Below w.heap.size w w' := by
  have H := Lib.hid (fun (W : World) (hb : w.heap.size < W.heap.size) (h0 : W.cell? ⟨w.heap.size, 0, none⟩ = some (.int .u8 ask.a)) (h1 : W.cell? ⟨w.heap.size, 1, none⟩ = some (.int .u8 ask.b)) (h2 : W.cell? ⟨w.heap.size, 2, none⟩ = some (.int .u8 ask.c)) => checked3 (c := 4) (by omega) hb h0 h1 h2)
  rw [show checkOf [ask.a, ask.b, ask.c] = chk3 ask from rfl, h1] at H
  have HT := Lib.hid (fun W : World => addr_Take ask.b ask.c W hw.2.1 hw.2.2.1)
  rw [show (if ask.b < 192 then Value.tuple #[addrV (ask.b / 64) (ask.b % 64) ask.c, .int .i64 0] else .tuple #[addrV 0 0 0, .int .i64 2]) = .tuple #[addrV 0 0 0, .int .i64 2] from if_neg (by omega)] at HT
  have g3 : (ask.d != ask.d) = false := by simp
  have g4 : (ask.a != ask.a) = false := by simp
  subst h2
  obtain ⟨⟨a1, a2⟩, _⟩ := hw
  clear h1 h3
  go_enter Tryd.func50, Tryd.ntmps50
  go_wp2
  refine wp_region_ext (by kernel_rfl) (by kernel_rfl) ?_; (repeat (go_big_quiet_step ((go_at_call 49; exact Calls.ext_of_same (H.out _ (by simp [go_sem]) (by simp [go_sem]) (by simp [go_sem]) (by simp [go_sem])))))); refine wpQuiet_nil ?_; rintro _ ⟨nq, rfl⟩; have hq := size_grownTo _ nq
  go_wp2_with (first | (go_at_call 61; refine (HT.out _).mono ?_; rintro e w' ⟨rfl, hb⟩; obtain ⟨x, rfl, hx⟩ := ext_intro hb; clear hb) | (go_at_call 62; refine (serve_wrap _ _).mono ?_; rintro e w' ⟨rfl, rfl⟩))
  all_goals (go_returns; exact ⟨rfl, by (repeat' (first | (with_reducible exact Below.refl _ _) | (with_reducible refine below_ext ?_ ?_ _) | (with_reducible refine below_al ?_ ?_ _) | (with_reducible refine Below.drew ?_) | (with_reducible refine Below.setCell ?_ ?_ _) | (with_reducible assumption) | (first | (with_reducible exact Nat.le_refl _) | omega | (simp only [World.size_alloc, World.size_setCell, World.size_drew] at *; omega) | (simp at *; omega) | (simp; done))))⟩)

set_option maxHeartbeats 2000000 in
theorem answer_open (p : Nat) (name : Int) (ask : Rec) (hw : ask.wf) (data : B5) (w : World) (h1 : chk3 ask = ask.d) (h2 : ask.a = name) (h3 : ¬ 192 ≤ ask.b) (h4 : ask.b / 64 = 1) (h5 : (openB data).2 ≠ 0) :
    Calls Tryd.prog 50 #[.pointer (some ⟨p, 0, none⟩), .int .i64 name, recV ask, b5V data] w fun e w' => e = .returned (.tuple #[recV .zero, silentV 14]) ∧ Below w.heap.size w w' := by
  have H := Lib.hid (fun (W : World) (hb : w.heap.size < W.heap.size) (h0 : W.cell? ⟨w.heap.size, 0, none⟩ = some (.int .u8 ask.a)) (h1 : W.cell? ⟨w.heap.size, 1, none⟩ = some (.int .u8 ask.b)) (h2 : W.cell? ⟨w.heap.size, 2, none⟩ = some (.int .u8 ask.c)) => checked3 (c := 4) (by omega) hb h0 h1 h2)
  rw [show checkOf [ask.a, ask.b, ask.c] = chk3 ask from rfl, h1] at H
  have HT := Lib.hid (fun W : World => addr_Take ask.b ask.c W hw.2.1 hw.2.2.1)
  rw [show (if ask.b < 192 then Value.tuple #[addrV (ask.b / 64) (ask.b % 64) ask.c, .int .i64 0] else .tuple #[addrV 0 0 0, .int .i64 2]) = .tuple #[addrV (ask.b / 64) (ask.b % 64) ask.c, .int .i64 0] from if_pos (by omega), h4] at HT
  have HO := Lib.hid (fun W : World => serve_Open data W)
  rw [show openB data = (.zero, 14) by unfold openB at h5 ⊢; split at h5 <;> simp_all] at HO
  have g3 : (ask.d != ask.d) = false := by simp
  have g4 : (ask.a != ask.a) = false := by simp
  subst h2
  obtain ⟨⟨a1, a2⟩, _⟩ := hw
  clear h1 h3 h4 h5
  go_enter Tryd.func50, Tryd.ntmps50
  go_wp2
  refine wp_region_ext (by kernel_rfl) (by kernel_rfl) ?_; (repeat (go_big_quiet_step ((go_at_call 49; exact Calls.ext_of_same (H.out _ (by simp [go_sem]) (by simp [go_sem]) (by simp [go_sem]) (by simp [go_sem])))))); refine wpQuiet_nil ?_; rintro _ ⟨nq, rfl⟩; have hq := size_grownTo _ nq
  go_wp2_with (first | (go_at_call 61; refine (HT.out _).mono ?_; rintro e w' ⟨rfl, hb⟩; obtain ⟨x, rfl, hx⟩ := ext_intro hb; clear hb) | (go_at_call 32; refine (HO.out _).mono ?_; rintro e w' ⟨rfl, hb⟩; obtain ⟨x, rfl, hx⟩ := ext_intro hb; clear hb) | (go_at_call 62; refine (serve_wrap _ _).mono ?_; rintro e w' ⟨rfl, rfl⟩))
  all_goals (go_returns; exact ⟨rfl, by (repeat' (first | (with_reducible exact Below.refl _ _) | (with_reducible refine below_ext ?_ ?_ _) | (with_reducible refine below_al ?_ ?_ _) | (with_reducible refine Below.drew ?_) | (with_reducible refine Below.setCell ?_ ?_ _) | (with_reducible assumption) | (first | (with_reducible exact Nat.le_refl _) | omega | (simp only [World.size_alloc, World.size_setCell, World.size_drew] at *; omega) | (simp at *; omega) | (simp; done))))⟩)
end Go.Proofs.YtmoebgkfmkdkpaaDoor
