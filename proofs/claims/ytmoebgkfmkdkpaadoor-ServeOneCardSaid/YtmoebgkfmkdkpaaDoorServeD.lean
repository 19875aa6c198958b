/- serve: answer, where the store is asked. -/
import Derived.Test.YtmoebgkfmkdkpaaDoorServeC
namespace Go.Proofs.YtmoebgkfmkdkpaaDoor
open Go.RowKit Go.Proofs
set_option linter.unusedSimpArgs false
set_option linter.unusedVariables false

set_option maxRecDepth 100000 in
set_option maxHeartbeats 4000000 in
theorem answer_do {w : World} (hl : Lib0 w) {F : Nat → Prop} {p : Nat} {s : St} (h : StoreAt w F p s) (name : Int) (ask : Rec) (hw : ask.wf) (data : B5) (hd : data.v.wf) (h1 : chk3 ask = ask.d) (h2 : ask.a = name) (h3 : ¬ 192 ≤ ask.b) (h4 : ¬ ask.b / 64 = 1) :
    Calls Tryd.prog 50 #[.pointer (some ⟨p, 0, none⟩), .int .i64 name, recV ask, b5V data] w fun e w' =>
      e = .returned (.tuple #[recV (s.do (ask.b / 64) (ask.b % 64) ask.c .zero).2.1, silentV (s.do (ask.b / 64) (ask.b % 64) ask.c .zero).2.2]) ∧ ∃ F', StoreAt w' F' p (s.do (ask.b / 64) (ask.b % 64) ask.c .zero).1 ∧ Grow F w F' ∧ But F w w' := by
  have H := Lib.hid (fun (W : World) (hb : w.heap.size < W.heap.size) (h0 : W.cell? ⟨w.heap.size, 0, none⟩ = some (.int .u8 ask.a)) (h1 : W.cell? ⟨w.heap.size, 1, none⟩ = some (.int .u8 ask.b)) (h2 : W.cell? ⟨w.heap.size, 2, none⟩ = some (.int .u8 ask.c)) => checked3 (c := 4) (by omega) hb h0 h1 h2)
  rw [show checkOf [ask.a, ask.b, ask.c] = chk3 ask from rfl, h1] at H
  have HT := Lib.hid (fun W : World => addr_Take ask.b ask.c W hw.2.1 hw.2.2.1)
  rw [show (if ask.b < 192 then Value.tuple #[addrV (ask.b / 64) (ask.b % 64) ask.c, .int .i64 0] else .tuple #[addrV 0 0 0, .int .i64 2]) = .tuple #[addrV (ask.b / 64) (ask.b % 64) ask.c, .int .i64 0] from if_pos (by omega)] at HT
  generalize ask.b / 64 = op at h4 HT ⊢
  generalize ask.b % 64 = fl at HT ⊢
  have g3 : (ask.d != ask.d) = false := by simp
  have g4 : (ask.a != ask.a) = false := by simp
  have g5 : (op == 1) = false := beq_eq_false_iff_ne.2 h4
  have hpl : p < w.heap.size := by obtain ⟨m, G, h⟩ := h; exact h.lt p h.fp
  have HF := Lib.hid (show ∀ b, w.heap.size ≤ b → ¬ F b from fun b hb hF => by have := h.lt hF; omega)
  have HS := Lib.hid h
  have HL := Lib.hid hl
  subst h2
  obtain ⟨⟨a1, a2⟩, _⟩ := hw
  clear h1 h3 h4 h hl
  go_enter Tryd.func50, Tryd.ntmps50
  go_wp2
  refine wp_region_ext (by kernel_rfl) (by kernel_rfl) ?_; (repeat (go_big_quiet_step ((go_at_call 49; exact Calls.ext_of_same (H.out _ (by simp [go_sem]) (by simp [go_sem]) (by simp [go_sem]) (by simp [go_sem])))))); refine wpQuiet_nil ?_; rintro _ ⟨nq, rfl⟩; have hq := size_grownTo _ nq
  go_wp2_with (first | (go_at_call 61; refine (HT.out _).mono ?_; rintro e w' ⟨rfl, hb⟩; obtain ⟨x, rfl, hx⟩ := ext_intro hb; clear hb) | (go_at_call 5; refine (ifs_Do next_said (HL.out.up (by (repeat' (first | (with_reducible exact Below.refl _ _) | (with_reducible refine below_ext ?_ ?_ _) | (with_reducible refine below_al ?_ ?_ _) | (with_reducible refine Below.drew ?_) | (with_reducible refine Below.setCell ?_ ?_ _) | (with_reducible assumption) | (first | (with_reducible exact Nat.le_refl _) | omega | (simp only [World.size_alloc, World.size_setCell, World.size_drew] at *; omega) | (simp at *; omega) | (simp; done)))))) (HS.out.up (by (repeat' (first | (with_reducible exact Below.refl _ _) | (with_reducible refine below_ext ?_ ?_ _) | (with_reducible refine below_al ?_ ?_ _) | (with_reducible refine Below.drew ?_) | (with_reducible refine Below.setCell ?_ ?_ _) | (with_reducible assumption) | (first | (with_reducible exact Nat.le_refl _) | omega | (simp only [World.size_alloc, World.size_setCell, World.size_drew] at *; omega) | (simp at *; omega) | (simp; done)))))) op fl ask.c .zero Rec.zero_wf).mono ?_; rintro e W2 ⟨rfl, F', hS, hG, hB⟩; have hc0_hB := fun o => But.cell hB (b := w.heap.size) (o := o) (by (first | (with_reducible exact Nat.le_refl _) | omega | (simp only [World.size_alloc, World.size_setCell, World.size_drew] at *; omega) | (simp at *; omega) | (simp; done))) (HF.out _ (by (first | (with_reducible exact Nat.le_refl _) | omega | (simp only [World.size_alloc, World.size_setCell, World.size_drew] at *; omega) | (simp at *; omega) | (simp; done)))); have hf0_hB := fun o => But.frozen hB (b := w.heap.size) (o := o) (by (first | (with_reducible exact Nat.le_refl _) | omega | (simp only [World.size_alloc, World.size_setCell, World.size_drew] at *; omega) | (simp at *; omega) | (simp; done))) (HF.out _ (by (first | (with_reducible exact Nat.le_refl _) | omega | (simp only [World.size_alloc, World.size_setCell, World.size_drew] at *; omega) | (simp at *; omega) | (simp; done)))); have hc1_hB := fun o => But.cell hB (b := w.heap.size + 1) (o := o) (by (first | (with_reducible exact Nat.le_refl _) | omega | (simp only [World.size_alloc, World.size_setCell, World.size_drew] at *; omega) | (simp at *; omega) | (simp; done))) (HF.out _ (by (first | (with_reducible exact Nat.le_refl _) | omega | (simp only [World.size_alloc, World.size_setCell, World.size_drew] at *; omega) | (simp at *; omega) | (simp; done)))); have hf1_hB := fun o => But.frozen hB (b := w.heap.size + 1) (o := o) (by (first | (with_reducible exact Nat.le_refl _) | omega | (simp only [World.size_alloc, World.size_setCell, World.size_drew] at *; omega) | (simp at *; omega) | (simp; done))) (HF.out _ (by (first | (with_reducible exact Nat.le_refl _) | omega | (simp only [World.size_alloc, World.size_setCell, World.size_drew] at *; omega) | (simp at *; omega) | (simp; done)))); have hc2_hB := fun o => But.cell hB (b := w.heap.size + 1 + 1) (o := o) (by (first | (with_reducible exact Nat.le_refl _) | omega | (simp only [World.size_alloc, World.size_setCell, World.size_drew] at *; omega) | (simp at *; omega) | (simp; done))) (HF.out _ (by (first | (with_reducible exact Nat.le_refl _) | omega | (simp only [World.size_alloc, World.size_setCell, World.size_drew] at *; omega) | (simp at *; omega) | (simp; done)))); have hf2_hB := fun o => But.frozen hB (b := w.heap.size + 1 + 1) (o := o) (by (first | (with_reducible exact Nat.le_refl _) | omega | (simp only [World.size_alloc, World.size_setCell, World.size_drew] at *; omega) | (simp at *; omega) | (simp; done))) (HF.out _ (by (first | (with_reducible exact Nat.le_refl _) | omega | (simp only [World.size_alloc, World.size_setCell, World.size_drew] at *; omega) | (simp at *; omega) | (simp; done)))); have hz := hB.size; replace hS := Lib.hid hS; replace hG := Lib.hid hG; have hB' : But F w W2 := But.trans (by (repeat' (first | (with_reducible exact But.refl _ _) | (with_reducible refine But.ext ?_ _) | (with_reducible refine But.al ?_ _) | (with_reducible refine But.drew ?_) | (with_reducible refine But.setCell ?_ (by first | (left; assumption) | (right; (first | (with_reducible exact Nat.le_refl _) | omega | (simp only [World.size_alloc, World.size_setCell, World.size_drew] at *; omega) | (simp at *; omega) | (simp; done)))) _) | (with_reducible refine But.putMap ?_ (by first | (left; assumption) | (right; (first | (with_reducible exact Nat.le_refl _) | omega | (simp only [World.size_alloc, World.size_setCell, World.size_drew] at *; omega) | (simp at *; omega) | (simp; done)))) _ _) | (with_reducible assumption)))) hB (fun _ _ h => h); clear hB))
  have hz2 : w.heap.size + 1 + 1 < W2.heap.size := by (first | (with_reducible exact Nat.le_refl _) | omega | (simp only [World.size_alloc, World.size_setCell, World.size_drew] at *; omega) | (simp at *; omega) | (simp; done))
  have hz1 : w.heap.size + 1 < W2.heap.size := by omega
  go_region_with ((go_at_call 62; refine (serve_wrap _ _).mono ?_; rintro e w' ⟨rfl, rfl⟩))
  all_goals
    go_wp2
    (try simp only [Exit.inBlock, Exit.then]); refine bodyPost_ret (by simp [results, Tryd.results50, go_sem, hc2_hB, hf2_hB, hz1, hz2]; try rfl) rfl ?_
    have hn : ¬ F' (w.heap.size + 1 + 1) := fun hF => by
      rcases hG.out _ hF with hF | hF
      · exact HF.out _ (by omega) hF
      · (first | (with_reducible exact Nat.le_refl _) | omega | (simp only [World.size_alloc, World.size_setCell, World.size_drew] at *; omega) | (simp at *; omega) | (simp; done))
    exact ⟨rfl, F', by (repeat' (first | (with_reducible exact hS.out) | (with_reducible refine StoreAt.ext ?_ _) | (with_reducible refine StoreAt.al ?_ _) | (with_reducible refine StoreAt.drew ?_) | (with_reducible refine StoreAt.setCell ?_ hn))), fun b hb => (hG.out b hb).imp id (fun h => by (first | (with_reducible exact Nat.le_refl _) | omega | (simp only [World.size_alloc, World.size_setCell, World.size_drew] at *; omega) | (simp at *; omega) | (simp; done))), by (repeat' (first | (with_reducible exact But.refl _ _) | (with_reducible refine But.ext ?_ _) | (with_reducible refine But.al ?_ _) | (with_reducible refine But.drew ?_) | (with_reducible refine But.setCell ?_ (by first | (left; assumption) | (right; (first | (with_reducible exact Nat.le_refl _) | omega | (simp only [World.size_alloc, World.size_setCell, World.size_drew] at *; omega) | (simp at *; omega) | (simp; done)))) _) | (with_reducible refine But.putMap ?_ (by first | (left; assumption) | (right; (first | (with_reducible exact Nat.le_refl _) | omega | (simp only [World.size_alloc, World.size_setCell, World.size_drew] at *; omega) | (simp at *; omega) | (simp; done)))) _ _) | (with_reducible assumption)))⟩
set_option maxRecDepth 100000 in
set_option maxHeartbeats 4000000 in
theorem answer_do1 {w : World} (hl : Lib0 w) {F : Nat → Prop} {p : Nat} {s : St} (h : StoreAt w F p s) (name : Int) (ask : Rec) (hw : ask.wf) (data : B5) (hd : data.v.wf) (h1 : chk3 ask = ask.d) (h2 : ask.a = name) (h3 : ¬ 192 ≤ ask.b) (h4 : ask.b / 64 = 1) (h5 : (openB data).2 = 0) :
    Calls Tryd.prog 50 #[.pointer (some ⟨p, 0, none⟩), .int .i64 name, recV ask, b5V data] w fun e w' =>
      e = .returned (.tuple #[recV (s.do 1 (ask.b % 64) ask.c data.v).2.1, silentV (s.do 1 (ask.b % 64) ask.c data.v).2.2]) ∧ ∃ F', StoreAt w' F' p (s.do 1 (ask.b % 64) ask.c data.v).1 ∧ Grow F w F' ∧ But F w w' := by
  have H := Lib.hid (fun (W : World) (hb : w.heap.size < W.heap.size) (h0 : W.cell? ⟨w.heap.size, 0, none⟩ = some (.int .u8 ask.a)) (h1 : W.cell? ⟨w.heap.size, 1, none⟩ = some (.int .u8 ask.b)) (h2 : W.cell? ⟨w.heap.size, 2, none⟩ = some (.int .u8 ask.c)) => checked3 (c := 4) (by omega) hb h0 h1 h2)
  rw [show checkOf [ask.a, ask.b, ask.c] = chk3 ask from rfl, h1] at H
  have HT := Lib.hid (fun W : World => addr_Take ask.b ask.c W hw.2.1 hw.2.2.1)
  rw [show (if ask.b < 192 then Value.tuple #[addrV (ask.b / 64) (ask.b % 64) ask.c, .int .i64 0] else .tuple #[addrV 0 0 0, .int .i64 2]) = .tuple #[addrV (ask.b / 64) (ask.b % 64) ask.c, .int .i64 0] from if_pos (by omega)] at HT
  rw [h4] at HT
  have HO := Lib.hid (fun W : World => serve_Open data W)
  rw [show openB data = (data.v, 0) by unfold openB at h5 ⊢; split at h5 <;> simp_all] at HO
  generalize ask.b % 64 = fl at HT ⊢
  have g3 : (ask.d != ask.d) = false := by simp
  have g4 : (ask.a != ask.a) = false := by simp
  have hpl : p < w.heap.size := by obtain ⟨m, G, h⟩ := h; exact h.lt p h.fp
  have HF := Lib.hid (show ∀ b, w.heap.size ≤ b → ¬ F b from fun b hb hF => by have := h.lt hF; omega)
  have HS := Lib.hid h
  have HL := Lib.hid hl
  subst h2
  obtain ⟨⟨a1, a2⟩, _⟩ := hw
  clear h1 h3 h4 h5 h hl
  go_enter Tryd.func50, Tryd.ntmps50
  go_wp2
  refine wp_region_ext (by kernel_rfl) (by kernel_rfl) ?_; (repeat (go_big_quiet_step ((go_at_call 49; exact Calls.ext_of_same (H.out _ (by simp [go_sem]) (by simp [go_sem]) (by simp [go_sem]) (by simp [go_sem])))))); refine wpQuiet_nil ?_; rintro _ ⟨nq, rfl⟩; have hq := size_grownTo _ nq
  go_wp2_with (first | (go_at_call 61; refine (HT.out _).mono ?_; rintro e w' ⟨rfl, hb⟩; obtain ⟨x, rfl, hx⟩ := ext_intro hb; clear hb) | (go_at_call 32; refine (HO.out _).mono ?_; rintro e w' ⟨rfl, hb⟩; obtain ⟨x, rfl, hx⟩ := ext_intro hb; clear hb) | (go_at_call 5; refine (ifs_Do next_said (HL.out.up (by (repeat' (first | (with_reducible exact Below.refl _ _) | (with_reducible refine below_ext ?_ ?_ _) | (with_reducible refine below_al ?_ ?_ _) | (with_reducible refine Below.drew ?_) | (with_reducible refine Below.setCell ?_ ?_ _) | (with_reducible assumption) | (first | (with_reducible exact Nat.le_refl _) | omega | (simp only [World.size_alloc, World.size_setCell, World.size_drew] at *; omega) | (simp at *; omega) | (simp; done)))))) (HS.out.up (by (repeat' (first | (with_reducible exact Below.refl _ _) | (with_reducible refine below_ext ?_ ?_ _) | (with_reducible refine below_al ?_ ?_ _) | (with_reducible refine Below.drew ?_) | (with_reducible refine Below.setCell ?_ ?_ _) | (with_reducible assumption) | (first | (with_reducible exact Nat.le_refl _) | omega | (simp only [World.size_alloc, World.size_setCell, World.size_drew] at *; omega) | (simp at *; omega) | (simp; done)))))) 1 fl ask.c data.v hd).mono ?_; rintro e W2 ⟨rfl, F', hS, hG, hB⟩; have hc0_hB := fun o => But.cell hB (b := w.heap.size) (o := o) (by (first | (with_reducible exact Nat.le_refl _) | omega | (simp only [World.size_alloc, World.size_setCell, World.size_drew] at *; omega) | (simp at *; omega) | (simp; done))) (HF.out _ (by (first | (with_reducible exact Nat.le_refl _) | omega | (simp only [World.size_alloc, World.size_setCell, World.size_drew] at *; omega) | (simp at *; omega) | (simp; done)))); have hf0_hB := fun o => But.frozen hB (b := w.heap.size) (o := o) (by (first | (with_reducible exact Nat.le_refl _) | omega | (simp only [World.size_alloc, World.size_setCell, World.size_drew] at *; omega) | (simp at *; omega) | (simp; done))) (HF.out _ (by (first | (with_reducible exact Nat.le_refl _) | omega | (simp only [World.size_alloc, World.size_setCell, World.size_drew] at *; omega) | (simp at *; omega) | (simp; done)))); have hc1_hB := fun o => But.cell hB (b := w.heap.size + 1) (o := o) (by (first | (with_reducible exact Nat.le_refl _) | omega | (simp only [World.size_alloc, World.size_setCell, World.size_drew] at *; omega) | (simp at *; omega) | (simp; done))) (HF.out _ (by (first | (with_reducible exact Nat.le_refl _) | omega | (simp only [World.size_alloc, World.size_setCell, World.size_drew] at *; omega) | (simp at *; omega) | (simp; done)))); have hf1_hB := fun o => But.frozen hB (b := w.heap.size + 1) (o := o) (by (first | (with_reducible exact Nat.le_refl _) | omega | (simp only [World.size_alloc, World.size_setCell, World.size_drew] at *; omega) | (simp at *; omega) | (simp; done))) (HF.out _ (by (first | (with_reducible exact Nat.le_refl _) | omega | (simp only [World.size_alloc, World.size_setCell, World.size_drew] at *; omega) | (simp at *; omega) | (simp; done)))); have hc2_hB := fun o => But.cell hB (b := w.heap.size + 1 + 1) (o := o) (by (first | (with_reducible exact Nat.le_refl _) | omega | (simp only [World.size_alloc, World.size_setCell, World.size_drew] at *; omega) | (simp at *; omega) | (simp; done))) (HF.out _ (by (first | (with_reducible exact Nat.le_refl _) | omega | (simp only [World.size_alloc, World.size_setCell, World.size_drew] at *; omega) | (simp at *; omega) | (simp; done)))); have hf2_hB := fun o => But.frozen hB (b := w.heap.size + 1 + 1) (o := o) (by (first | (with_reducible exact Nat.le_refl _) | omega | (simp only [World.size_alloc, World.size_setCell, World.size_drew] at *; omega) | (simp at *; omega) | (simp; done))) (HF.out _ (by (first | (with_reducible exact Nat.le_refl _) | omega | (simp only [World.size_alloc, World.size_setCell, World.size_drew] at *; omega) | (simp at *; omega) | (simp; done)))); have hz := hB.size; replace hS := Lib.hid hS; replace hG := Lib.hid hG; have hB' : But F w W2 := But.trans (by (repeat' (first | (with_reducible exact But.refl _ _) | (with_reducible refine But.ext ?_ _) | (with_reducible refine But.al ?_ _) | (with_reducible refine But.drew ?_) | (with_reducible refine But.setCell ?_ (by first | (left; assumption) | (right; (first | (with_reducible exact Nat.le_refl _) | omega | (simp only [World.size_alloc, World.size_setCell, World.size_drew] at *; omega) | (simp at *; omega) | (simp; done)))) _) | (with_reducible refine But.putMap ?_ (by first | (left; assumption) | (right; (first | (with_reducible exact Nat.le_refl _) | omega | (simp only [World.size_alloc, World.size_setCell, World.size_drew] at *; omega) | (simp at *; omega) | (simp; done)))) _ _) | (with_reducible assumption)))) hB (fun _ _ h => h); clear hB))
  have hz2 : w.heap.size + 1 + 1 < W2.heap.size := by (first | (with_reducible exact Nat.le_refl _) | omega | (simp only [World.size_alloc, World.size_setCell, World.size_drew] at *; omega) | (simp at *; omega) | (simp; done))
  have hz1 : w.heap.size + 1 < W2.heap.size := by omega
  go_region_with ((go_at_call 62; refine (serve_wrap _ _).mono ?_; rintro e w' ⟨rfl, rfl⟩))
  all_goals
    go_wp2
    (try simp only [Exit.inBlock, Exit.then]); refine bodyPost_ret (by simp [results, Tryd.results50, go_sem, hc2_hB, hf2_hB, hz1, hz2]; try rfl) rfl ?_
    have hn : ¬ F' (w.heap.size + 1 + 1) := fun hF => by
      rcases hG.out _ hF with hF | hF
      · exact HF.out _ (by omega) hF
      · (first | (with_reducible exact Nat.le_refl _) | omega | (simp only [World.size_alloc, World.size_setCell, World.size_drew] at *; omega) | (simp at *; omega) | (simp; done))
    exact ⟨rfl, F', by (repeat' (first | (with_reducible exact hS.out) | (with_reducible refine StoreAt.ext ?_ _) | (with_reducible refine StoreAt.al ?_ _) | (with_reducible refine StoreAt.drew ?_) | (with_reducible refine StoreAt.setCell ?_ hn))), fun b hb => (hG.out b hb).imp id (fun h => by (first | (with_reducible exact Nat.le_refl _) | omega | (simp only [World.size_alloc, World.size_setCell, World.size_drew] at *; omega) | (simp at *; omega) | (simp; done))), by (repeat' (first | (with_reducible exact But.refl _ _) | (with_reducible refine But.ext ?_ _) | (with_reducible refine But.al ?_ _) | (with_reducible refine But.drew ?_) | (with_reducible refine But.setCell ?_ (by first | (left; assumption) | (right; (first | (with_reducible exact Nat.le_refl _) | omega | (simp only [World.size_alloc, World.size_setCell, World.size_drew] at *; omega) | (simp at *; omega) | (simp; done)))) _) | (with_reducible refine But.putMap ?_ (by first | (left; assumption) | (right; (first | (with_reducible exact Nat.le_refl _) | omega | (simp only [World.size_alloc, World.size_setCell, World.size_drew] at *; omega) | (simp at *; omega) | (simp; done)))) _ _) | (with_reducible assumption)))⟩

/-- What a node says, and what its store is then. -/
theorem serve_answer {w : World} (hl : Lib0 w) {F : Nat → Prop} {p : Nat} {s : St} (h : StoreAt w F p s) (name : Int) (ask : Rec) (hw : ask.wf) (data : B5) (hd : data.v.wf) :
    Calls Tryd.prog 50 #[.pointer (some ⟨p, 0, none⟩), .int .i64 name, recV ask, b5V data] w fun e w' =>
      e = .returned (.tuple #[recV (answerB s name ask data).2.1, silentV (answerB s name ask data).2.2]) ∧ ∃ F', StoreAt w' F' p (answerB s name ask data).1 ∧ Grow F w F' ∧ But F w w' := by
  have fin : ∀ {k : Int} {e : Ending} {w' : World}, (e = .returned (.tuple #[recV .zero, silentV k]) ∧ Below w.heap.size w w') → e = .returned (.tuple #[recV .zero, silentV k]) ∧ ∃ F', StoreAt w' F' p s ∧ Grow F w F' ∧ But F w w' :=
    fun ⟨h1, h2⟩ => ⟨h1, F, h.up h2, Grow.refl _ _, But.of_below h2⟩
  unfold answerB
  by_cases h1 : chk3 ask ≠ ask.d ∨ ask.a ≠ name
  · rw [if_pos h1]
    exact (answer_chk p name ask hw data w h1).mono fun _ _ h => fin h
  · rw [if_neg h1]
    have h1' : chk3 ask = ask.d := Classical.byContradiction fun e => h1 (.inl e)
    have h2' : ask.a = name := Classical.byContradiction fun e => h1 (.inr e)
    by_cases h3 : 192 ≤ ask.b
    · rw [if_pos h3]
      exact (answer_take p name ask hw data w h1' h2' h3).mono fun _ _ h => fin h
    · rw [if_neg h3]
      by_cases h4 : ask.b / 64 = 1
      · by_cases h5 : (openB data).2 = 0
        · rw [if_neg (fun h => h.2 h5), if_pos h4, h4]
          exact answer_do1 hl h name ask hw data hd h1' h2' h3 h4 h5
        · rw [if_pos ⟨h4, h5⟩]
          exact (answer_open p name ask hw data w h1' h2' h3 h4 h5).mono fun _ _ h => fin h
      · rw [if_neg (fun h => h4 h.1), if_neg h4]
        exact answer_do hl h name ask hw data hd h1' h2' h3 h4
end Go.Proofs.YtmoebgkfmkdkpaaDoor
