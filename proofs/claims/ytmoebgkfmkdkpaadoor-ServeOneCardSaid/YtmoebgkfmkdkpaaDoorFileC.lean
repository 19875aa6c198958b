/- file.Do: what it answers. -/
import Derived.Test.YtmoebgkfmkdkpaaDoorFileB
import Derived.Deep.RegionWith
namespace Go.Proofs.YtmoebgkfmkdkpaaDoor
open Go.RowKit Go.Proofs
set_option linter.unusedSimpArgs false
set_option linter.unusedVariables false

/-- What file.next says: to be paid by a text of its own. -/
def NextSaid : Prop := ∀ (r : Rec) (w : World), r.wf → Calls Tryd.prog 52 #[recV r] w fun e w' => e = .returned (recV r.next) ∧ Below w.heap.size w w'

theorem may_good {f : File} {op rec : Int} (h : may f op rec = 0) : f.good = true ∧ (op = 0 ∨ op = 1 ∨ op = 2) ∧ 0 ≤ rec ∧ rec < f.recs.length := by
  unfold may at h
  split at h
  · omega
  · rename_i hg
    split at h
    · omega
    · rename_i hb
      split at h
      · omega
      · rename_i hr
        refine ⟨by simpa using hg, ?_, by omega, by omega⟩
        unfold bitOf at hb
        omega

set_option maxHeartbeats 1600000 in
theorem file_Do_no (f : File) (v : Value) (op rec : Int) (x : Rec) (w : World) (h : SlO recK w v f.recs) (hm : may f op rec ≠ 0) :
    Calls Tryd.prog 35 #[.agg #[.int .i64 f.perm, v], .int .i64 op, .int .i64 rec, recV x] w fun e w' =>
      e = .returned (.tuple #[.agg #[.int .i64 0, .slice none 0 0], recV .zero, .int .i64 (may f op rec)]) ∧ Below w.heap.size w w' := by
  have H := Lib.hid (fun (W : World) (hb : Below w.heap.size w W) => file_may f v op rec W (h.up hb))
  obtain ⟨a, c, rfl, hc, hn, hcm, hb0⟩ := h.open'
  have hm1 : (may f op rec == 0) = false := by simpa using hm
  have hm' : (may f op rec != 0) = true := by simpa using hm
  clear h hb0 hm
  go_enter Tryd.func35, Tryd.ntmps35
  go_wp2_with (go_at_call 51; refine (H.out _ (by (repeat' (first | (with_reducible exact Below.refl _ _) | (with_reducible refine below_ext ?_ ?_ _) | (with_reducible refine below_al ?_ ?_ _) | (with_reducible refine Below.drew ?_) | (with_reducible refine Below.setCell ?_ ?_ _) | (with_reducible assumption) | (first | (with_reducible exact Nat.le_refl _) | omega | (simp only [World.size_alloc, World.size_setCell, World.size_drew] at *; omega) | (simp at *; omega) | (simp; done)))))).mono ?_; rintro e w' ⟨rfl, hb⟩; obtain ⟨x, rfl, hx⟩ := ext_intro hb; clear hb)
  go_returns
  exact ⟨rfl, by (repeat' (first | (with_reducible exact Below.refl _ _) | (with_reducible refine below_ext ?_ ?_ _) | (with_reducible refine below_al ?_ ?_ _) | (with_reducible refine Below.drew ?_) | (with_reducible refine Below.setCell ?_ ?_ _) | (with_reducible assumption) | (first | (with_reducible exact Nat.le_refl _) | omega | (simp only [World.size_alloc, World.size_setCell, World.size_drew] at *; omega) | (simp at *; omega) | (simp; done))))⟩

set_option maxHeartbeats 1600000 in
theorem file_Do_read (f : File) (v : Value) (i : Nat) (x : Rec) (w : World) (h : SlO recK w v f.recs) (hm : may f 0 i = 0) :
    Calls Tryd.prog 35 #[.agg #[.int .i64 f.perm, v], .int .i64 0, .int .i64 i, recV x] w fun e w' => ∃ g,
      e = .returned (.tuple #[.agg #[.int .i64 f.perm, .slice (some ⟨g, 0, none⟩) f.recs.length f.recs.length], recV (f.recs.getD i .zero), .int .i64 0]) ∧ w.heap.size ≤ g ∧ RecRow w' g f.recs ∧ Below w.heap.size w w' := by
  have H := Lib.hid (fun (W : World) (hb : Below w.heap.size w W) => hm ▸ file_may f v 0 i W (h.up hb))
  have HC := Lib.hid (fun (W : World) (hb : Below w.heap.size w W) => rec_Clone v f.recs W (h.up hb))
  obtain ⟨a, c, rfl, hc, hn, hcm, hb0⟩ := h.open'
  obtain ⟨hg, ho, h0, hlt⟩ := may_good hm
  clear h hb0 hg ho h0 hm
  go_enter Tryd.func35, Tryd.ntmps35
  go_wp2_with (first | (go_at_call 51; refine (H.out _ (by (repeat' (first | (with_reducible exact Below.refl _ _) | (with_reducible refine below_ext ?_ ?_ _) | (with_reducible refine below_al ?_ ?_ _) | (with_reducible refine Below.drew ?_) | (with_reducible refine Below.setCell ?_ ?_ _) | (with_reducible assumption) | (first | (with_reducible exact Nat.le_refl _) | omega | (simp only [World.size_alloc, World.size_setCell, World.size_drew] at *; omega) | (simp at *; omega) | (simp; done)))))).mono ?_; rintro e w' ⟨rfl, hb⟩; obtain ⟨x, rfl, hx⟩ := ext_intro hb; clear hb) | (go_at_call 42; refine (HC.out _ (by (repeat' (first | (with_reducible exact Below.refl _ _) | (with_reducible refine below_ext ?_ ?_ _) | (with_reducible refine below_al ?_ ?_ _) | (with_reducible refine Below.drew ?_) | (with_reducible refine Below.setCell ?_ ?_ _) | (with_reducible assumption) | (first | (with_reducible exact Nat.le_refl _) | omega | (simp only [World.size_alloc, World.size_setCell, World.size_drew] at *; omega) | (simp at *; omega) | (simp; done)))))).mono ?_; rintro e W2 ⟨v', rfl, hown, hb⟩))
  obtain ⟨h1, ⟨rfl, h2⟩ | ⟨g, cap, cur, rfl, h3, h4, h5, h6, h7, h8⟩⟩ := hown
  · omega
  · have hR : RecRow _ g f.recs := RecRow.of_owns ⟨h1, .inr ⟨g, cap, cur, rfl, h3, h4, h5, h6, h7, h8⟩⟩
    have hz := hb.size
    have hs := size_grownTo _ x
    have hWB : Below w.heap.size w W2 := Below.trans (by (repeat' (first | (with_reducible exact Below.refl _ _) | (with_reducible refine below_ext ?_ ?_ _) | (with_reducible refine below_al ?_ ?_ _) | (with_reducible refine Below.drew ?_) | (with_reducible refine Below.setCell ?_ ?_ _) | (with_reducible assumption) | (first | (with_reducible exact Nat.le_refl _) | omega | (simp only [World.size_alloc, World.size_setCell, World.size_drew] at *; omega) | (simp at *; omega) | (simp; done))))) (hb.mono (by (first | (with_reducible exact Nat.le_refl _) | omega | (simp only [World.size_alloc, World.size_setCell, World.size_drew] at *; omega) | (simp at *; omega) | (simp; done))))
    have hc0_hb := fun o => Below.cell hb (p := ⟨w.heap.size, o, none⟩) (by (first | (with_reducible exact Nat.le_refl _) | omega | (simp only [World.size_alloc, World.size_setCell, World.size_drew] at *; omega) | (simp at *; omega) | (simp; done))); have hf0_hb := fun o => Below.frozen hb (p := ⟨w.heap.size, o, none⟩) (by (first | (with_reducible exact Nat.le_refl _) | omega | (simp only [World.size_alloc, World.size_setCell, World.size_drew] at *; omega) | (simp at *; omega) | (simp; done))); have hc1_hb := fun o => Below.cell hb (p := ⟨w.heap.size + 1, o, none⟩) (by (first | (with_reducible exact Nat.le_refl _) | omega | (simp only [World.size_alloc, World.size_setCell, World.size_drew] at *; omega) | (simp at *; omega) | (simp; done))); have hf1_hb := fun o => Below.frozen hb (p := ⟨w.heap.size + 1, o, none⟩) (by (first | (with_reducible exact Nat.le_refl _) | omega | (simp only [World.size_alloc, World.size_setCell, World.size_drew] at *; omega) | (simp at *; omega) | (simp; done))); have hc2_hb := fun o => Below.cell hb (p := ⟨w.heap.size + 1 + 1, o, none⟩) (by (first | (with_reducible exact Nat.le_refl _) | omega | (simp only [World.size_alloc, World.size_setCell, World.size_drew] at *; omega) | (simp at *; omega) | (simp; done))); have hf2_hb := fun o => Below.frozen hb (p := ⟨w.heap.size + 1 + 1, o, none⟩) (by (first | (with_reducible exact Nat.le_refl _) | omega | (simp only [World.size_alloc, World.size_setCell, World.size_drew] at *; omega) | (simp at *; omega) | (simp; done))); have hc3_hb := fun o => Below.cell hb (p := ⟨w.heap.size + 1 + 1 + 1, o, none⟩) (by (first | (with_reducible exact Nat.le_refl _) | omega | (simp only [World.size_alloc, World.size_setCell, World.size_drew] at *; omega) | (simp at *; omega) | (simp; done))); have hf3_hb := fun o => Below.frozen hb (p := ⟨w.heap.size + 1 + 1 + 1, o, none⟩) (by (first | (with_reducible exact Nat.le_refl _) | omega | (simp only [World.size_alloc, World.size_setCell, World.size_drew] at *; omega) | (simp at *; omega) | (simp; done)))
    simp only [World.size_alloc] at h3 hz hs
    have hg0_g : w.heap.size < g := (by omega); have hg1_g : w.heap.size + 1 < g := (by omega); have hg2_g : w.heap.size + 1 + 1 < g := (by omega); have hg3_g : w.heap.size + 1 + 1 + 1 < g := (by omega)
    obtain ⟨r, hr⟩ : ∃ r, f.recs[i]? = some r := ⟨_, List.getElem?_eq_getElem (by omega)⟩
    obtain ⟨c0, c1, c2, c3⟩ := hR.cell hr
    have HR := Lib.hid hR
    have h5' := Lib.hid h5
    have h6' : cap ≤ 9223372036854775807 := by unfold maxLen at h6; omega
    have Hr := Lib.hid hr
    clear hR h4 h7 h8 h1 h6 h5 hb hr
    go_wp2_with (go_at_call 41; refine (rec_Clip _ _ _ h5'.out h6' _).mono ?_; rintro e w' ⟨rfl, rfl⟩)
    go_region
    go_wp2
    (try simp only [Exit.inBlock, Exit.then]); refine bodyPost_ret (by simp [results, Tryd.results35, go_sem, hc2_hb, hc3_hb]; try rfl) rfl ?_
    refine ⟨g, ?_, by omega, HR.out.keep ?_, by (repeat' (first | (with_reducible exact Below.refl _ _) | (with_reducible refine below_ext ?_ ?_ _) | (with_reducible refine below_al ?_ ?_ _) | (with_reducible refine Below.drew ?_) | (with_reducible refine Below.setCell ?_ ?_ _) | (with_reducible assumption) | (first | (with_reducible exact Nat.le_refl _) | omega | (simp only [World.size_alloc, World.size_setCell, World.size_drew] at *; omega) | (simp at *; omega) | (simp; done))))⟩
    · rw [show f.recs.getD i .zero = r by rw [List.getD_eq_getElem?_getD, Hr.out]; rfl]
    · simp only [heap_drew]; (repeat rw [Below.heap_setCell _ _ _ _ (by simp; omega)])
set_option maxHeartbeats 1600000 in
theorem file_Do_write (f : File) (v : Value) (i : Nat) (vr : Rec) (w : World) (h : SlO recK w v f.recs) (hm : may f 1 i = 0) :
    Calls Tryd.prog 35 #[.agg #[.int .i64 f.perm, v], .int .i64 1, .int .i64 i, recV vr] w fun e w' => ∃ g,
      e = .returned (.tuple #[.agg #[.int .i64 f.perm, .slice (some ⟨g, 0, none⟩) f.recs.length f.recs.length], recV vr, .int .i64 0]) ∧ w.heap.size ≤ g ∧ RecRow w' g (f.recs.set i vr) ∧ Below w.heap.size w w' := by
  have H := Lib.hid (fun (W : World) (hb : Below w.heap.size w W) => hm ▸ file_may f v 1 i W (h.up hb))
  have HC := Lib.hid (fun (W : World) (hb : Below w.heap.size w W) => rec_Clone v f.recs W (h.up hb))
  obtain ⟨a, c, rfl, hc, hn, hcm, hb0⟩ := h.open'
  obtain ⟨hg, ho, h0, hlt⟩ := may_good hm
  clear h hb0 hg ho h0 hm
  go_enter Tryd.func35, Tryd.ntmps35
  go_wp2_with (first | (go_at_call 51; refine (H.out _ (by (repeat' (first | (with_reducible exact Below.refl _ _) | (with_reducible refine below_ext ?_ ?_ _) | (with_reducible refine below_al ?_ ?_ _) | (with_reducible refine Below.drew ?_) | (with_reducible refine Below.setCell ?_ ?_ _) | (with_reducible assumption) | (first | (with_reducible exact Nat.le_refl _) | omega | (simp only [World.size_alloc, World.size_setCell, World.size_drew] at *; omega) | (simp at *; omega) | (simp; done)))))).mono ?_; rintro e w' ⟨rfl, hb⟩; obtain ⟨x, rfl, hx⟩ := ext_intro hb; clear hb) | (go_at_call 42; refine (HC.out _ (by (repeat' (first | (with_reducible exact Below.refl _ _) | (with_reducible refine below_ext ?_ ?_ _) | (with_reducible refine below_al ?_ ?_ _) | (with_reducible refine Below.drew ?_) | (with_reducible refine Below.setCell ?_ ?_ _) | (with_reducible assumption) | (first | (with_reducible exact Nat.le_refl _) | omega | (simp only [World.size_alloc, World.size_setCell, World.size_drew] at *; omega) | (simp at *; omega) | (simp; done)))))).mono ?_; rintro e W2 ⟨v', rfl, hown, hb⟩))
  obtain ⟨h1, ⟨rfl, h2⟩ | ⟨g, cap, cur, rfl, h3, h4, h5, h6, h7, h8⟩⟩ := hown
  · omega
  · have hR : RecRow _ g f.recs := RecRow.of_owns ⟨h1, .inr ⟨g, cap, cur, rfl, h3, h4, h5, h6, h7, h8⟩⟩
    have hz := hb.size
    have hs := size_grownTo _ x
    have hWB : Below w.heap.size w W2 := Below.trans (by (repeat' (first | (with_reducible exact Below.refl _ _) | (with_reducible refine below_ext ?_ ?_ _) | (with_reducible refine below_al ?_ ?_ _) | (with_reducible refine Below.drew ?_) | (with_reducible refine Below.setCell ?_ ?_ _) | (with_reducible assumption) | (first | (with_reducible exact Nat.le_refl _) | omega | (simp only [World.size_alloc, World.size_setCell, World.size_drew] at *; omega) | (simp at *; omega) | (simp; done))))) (hb.mono (by (first | (with_reducible exact Nat.le_refl _) | omega | (simp only [World.size_alloc, World.size_setCell, World.size_drew] at *; omega) | (simp at *; omega) | (simp; done))))
    have hc0_hb := fun o => Below.cell hb (p := ⟨w.heap.size, o, none⟩) (by (first | (with_reducible exact Nat.le_refl _) | omega | (simp only [World.size_alloc, World.size_setCell, World.size_drew] at *; omega) | (simp at *; omega) | (simp; done))); have hf0_hb := fun o => Below.frozen hb (p := ⟨w.heap.size, o, none⟩) (by (first | (with_reducible exact Nat.le_refl _) | omega | (simp only [World.size_alloc, World.size_setCell, World.size_drew] at *; omega) | (simp at *; omega) | (simp; done))); have hc1_hb := fun o => Below.cell hb (p := ⟨w.heap.size + 1, o, none⟩) (by (first | (with_reducible exact Nat.le_refl _) | omega | (simp only [World.size_alloc, World.size_setCell, World.size_drew] at *; omega) | (simp at *; omega) | (simp; done))); have hf1_hb := fun o => Below.frozen hb (p := ⟨w.heap.size + 1, o, none⟩) (by (first | (with_reducible exact Nat.le_refl _) | omega | (simp only [World.size_alloc, World.size_setCell, World.size_drew] at *; omega) | (simp at *; omega) | (simp; done))); have hc2_hb := fun o => Below.cell hb (p := ⟨w.heap.size + 1 + 1, o, none⟩) (by (first | (with_reducible exact Nat.le_refl _) | omega | (simp only [World.size_alloc, World.size_setCell, World.size_drew] at *; omega) | (simp at *; omega) | (simp; done))); have hf2_hb := fun o => Below.frozen hb (p := ⟨w.heap.size + 1 + 1, o, none⟩) (by (first | (with_reducible exact Nat.le_refl _) | omega | (simp only [World.size_alloc, World.size_setCell, World.size_drew] at *; omega) | (simp at *; omega) | (simp; done))); have hc3_hb := fun o => Below.cell hb (p := ⟨w.heap.size + 1 + 1 + 1, o, none⟩) (by (first | (with_reducible exact Nat.le_refl _) | omega | (simp only [World.size_alloc, World.size_setCell, World.size_drew] at *; omega) | (simp at *; omega) | (simp; done))); have hf3_hb := fun o => Below.frozen hb (p := ⟨w.heap.size + 1 + 1 + 1, o, none⟩) (by (first | (with_reducible exact Nat.le_refl _) | omega | (simp only [World.size_alloc, World.size_setCell, World.size_drew] at *; omega) | (simp at *; omega) | (simp; done)))
    simp only [World.size_alloc] at h3 hz hs
    have hg0_g : w.heap.size < g := (by omega); have hg1_g : w.heap.size + 1 < g := (by omega); have hg2_g : w.heap.size + 1 + 1 < g := (by omega); have hg3_g : w.heap.size + 1 + 1 + 1 < g := (by omega)
    obtain ⟨r, hr⟩ : ∃ r, f.recs[i]? = some r := ⟨_, List.getElem?_eq_getElem (by omega)⟩
    obtain ⟨c0, c1, c2, c3⟩ := hR.cell hr
    have hfg := hR.frozen
    have HR := Lib.hid hR
    have h5' := Lib.hid h5
    have h6' : cap ≤ 9223372036854775807 := by unfold maxLen at h6; omega
    have Hr := Lib.hid hr
    clear hR h4 h7 h8 h1 h6 h5 hb hr
    go_wp2_with (go_at_call 41; refine (rec_Clip _ _ _ h5'.out h6' _).mono ?_; rintro e w' ⟨rfl, rfl⟩)
    go_region
    go_wp2
    (try simp only [Exit.inBlock, Exit.then]); refine bodyPost_ret (by simp [results, Tryd.results35, go_sem, hc2_hb, hc3_hb]; try rfl) rfl ?_
    refine ⟨g, ?_, by omega, ((HR.out.keep (w' := W2.setCell ⟨w.heap.size, 1, none⟩ (.slice (some ⟨g, 0, none⟩) f.recs.length f.recs.length)) (Below.heap_setCell _ _ _ _ (by simp; omega))).set (i := i) (by omega) vr).keep ?_, by (repeat' (first | (with_reducible exact Below.refl _ _) | (with_reducible refine below_ext ?_ ?_ _) | (with_reducible refine below_al ?_ ?_ _) | (with_reducible refine Below.drew ?_) | (with_reducible refine Below.setCell ?_ ?_ _) | (with_reducible assumption) | (first | (with_reducible exact Nat.le_refl _) | omega | (simp only [World.size_alloc, World.size_setCell, World.size_drew] at *; omega) | (simp at *; omega) | (simp; done))))⟩
    · rfl
    · simp only [heap_drew]; (repeat rw [Below.heap_setCell _ _ _ _ (by simp; omega)]); rfl
set_option maxHeartbeats 1600000 in
theorem file_Do_exec (hnx : NextSaid) (f : File) (v : Value) (i : Nat) (vr : Rec) (w : World) (h : SlO recK w v f.recs) (r : Rec) (hr : f.recs[i]? = some r) (hwf : r.wf) (hm : may f 2 i = 0) :
    Calls Tryd.prog 35 #[.agg #[.int .i64 f.perm, v], .int .i64 2, .int .i64 i, recV vr] w fun e w' => ∃ g,
      e = .returned (.tuple #[.agg #[.int .i64 f.perm, .slice (some ⟨g, 0, none⟩) f.recs.length f.recs.length], recV r.next, .int .i64 0]) ∧ w.heap.size ≤ g ∧ RecRow w' g (f.recs.set i r.next) ∧ Below w.heap.size w w' := by
  have H := Lib.hid (fun (W : World) (hb : Below w.heap.size w W) => hm ▸ file_may f v 2 i W (h.up hb))
  have HC := Lib.hid (fun (W : World) (hb : Below w.heap.size w W) => rec_Clone v f.recs W (h.up hb))
  obtain ⟨a, c, rfl, hc, hn, hcm, hb0⟩ := h.open'
  obtain ⟨hg, ho, h0, hlt⟩ := may_good hm
  have HN := Lib.hid hnx
  have HW := Lib.hid hwf
  have Hr := Lib.hid hr
  clear h hb0 hg ho h0 hm hwf hr hnx
  go_enter Tryd.func35, Tryd.ntmps35
  go_wp2_with (first | (go_at_call 51; refine (H.out _ (by (repeat' (first | (with_reducible exact Below.refl _ _) | (with_reducible refine below_ext ?_ ?_ _) | (with_reducible refine below_al ?_ ?_ _) | (with_reducible refine Below.drew ?_) | (with_reducible refine Below.setCell ?_ ?_ _) | (with_reducible assumption) | (first | (with_reducible exact Nat.le_refl _) | omega | (simp only [World.size_alloc, World.size_setCell, World.size_drew] at *; omega) | (simp at *; omega) | (simp; done)))))).mono ?_; rintro e w' ⟨rfl, hb⟩; obtain ⟨x, rfl, hx⟩ := ext_intro hb; clear hb) | (go_at_call 42; refine (HC.out _ (by (repeat' (first | (with_reducible exact Below.refl _ _) | (with_reducible refine below_ext ?_ ?_ _) | (with_reducible refine below_al ?_ ?_ _) | (with_reducible refine Below.drew ?_) | (with_reducible refine Below.setCell ?_ ?_ _) | (with_reducible assumption) | (first | (with_reducible exact Nat.le_refl _) | omega | (simp only [World.size_alloc, World.size_setCell, World.size_drew] at *; omega) | (simp at *; omega) | (simp; done)))))).mono ?_; rintro e W2 ⟨v', rfl, hown, hb⟩))
  obtain ⟨h1, ⟨rfl, h2⟩ | ⟨g, cap, cur, rfl, h3, h4, h5, h6, h7, h8⟩⟩ := hown
  · omega
  · have hR : RecRow _ g f.recs := RecRow.of_owns ⟨h1, .inr ⟨g, cap, cur, rfl, h3, h4, h5, h6, h7, h8⟩⟩
    have hz := hb.size
    have hs := size_grownTo _ x
    have hWB : Below w.heap.size w W2 := Below.trans (by (repeat' (first | (with_reducible exact Below.refl _ _) | (with_reducible refine below_ext ?_ ?_ _) | (with_reducible refine below_al ?_ ?_ _) | (with_reducible refine Below.drew ?_) | (with_reducible refine Below.setCell ?_ ?_ _) | (with_reducible assumption) | (first | (with_reducible exact Nat.le_refl _) | omega | (simp only [World.size_alloc, World.size_setCell, World.size_drew] at *; omega) | (simp at *; omega) | (simp; done))))) (hb.mono (by (first | (with_reducible exact Nat.le_refl _) | omega | (simp only [World.size_alloc, World.size_setCell, World.size_drew] at *; omega) | (simp at *; omega) | (simp; done))))
    have hc0_hb := fun o => Below.cell hb (p := ⟨w.heap.size, o, none⟩) (by (first | (with_reducible exact Nat.le_refl _) | omega | (simp only [World.size_alloc, World.size_setCell, World.size_drew] at *; omega) | (simp at *; omega) | (simp; done))); have hf0_hb := fun o => Below.frozen hb (p := ⟨w.heap.size, o, none⟩) (by (first | (with_reducible exact Nat.le_refl _) | omega | (simp only [World.size_alloc, World.size_setCell, World.size_drew] at *; omega) | (simp at *; omega) | (simp; done))); have hc1_hb := fun o => Below.cell hb (p := ⟨w.heap.size + 1, o, none⟩) (by (first | (with_reducible exact Nat.le_refl _) | omega | (simp only [World.size_alloc, World.size_setCell, World.size_drew] at *; omega) | (simp at *; omega) | (simp; done))); have hf1_hb := fun o => Below.frozen hb (p := ⟨w.heap.size + 1, o, none⟩) (by (first | (with_reducible exact Nat.le_refl _) | omega | (simp only [World.size_alloc, World.size_setCell, World.size_drew] at *; omega) | (simp at *; omega) | (simp; done))); have hc2_hb := fun o => Below.cell hb (p := ⟨w.heap.size + 1 + 1, o, none⟩) (by (first | (with_reducible exact Nat.le_refl _) | omega | (simp only [World.size_alloc, World.size_setCell, World.size_drew] at *; omega) | (simp at *; omega) | (simp; done))); have hf2_hb := fun o => Below.frozen hb (p := ⟨w.heap.size + 1 + 1, o, none⟩) (by (first | (with_reducible exact Nat.le_refl _) | omega | (simp only [World.size_alloc, World.size_setCell, World.size_drew] at *; omega) | (simp at *; omega) | (simp; done))); have hc3_hb := fun o => Below.cell hb (p := ⟨w.heap.size + 1 + 1 + 1, o, none⟩) (by (first | (with_reducible exact Nat.le_refl _) | omega | (simp only [World.size_alloc, World.size_setCell, World.size_drew] at *; omega) | (simp at *; omega) | (simp; done))); have hf3_hb := fun o => Below.frozen hb (p := ⟨w.heap.size + 1 + 1 + 1, o, none⟩) (by (first | (with_reducible exact Nat.le_refl _) | omega | (simp only [World.size_alloc, World.size_setCell, World.size_drew] at *; omega) | (simp at *; omega) | (simp; done)))
    simp only [World.size_alloc] at h3 hz hs
    have hg0_g : w.heap.size < g := (by omega); have hg1_g : w.heap.size + 1 < g := (by omega); have hg2_g : w.heap.size + 1 + 1 < g := (by omega); have hg3_g : w.heap.size + 1 + 1 + 1 < g := (by omega)
    obtain ⟨c0, c1, c2, c3⟩ := hR.cell Hr.out
    have hgW := hR.block
    have hb0 : w.heap.size < W2.heap.size := by omega
    have hb1 : w.heap.size + 1 < W2.heap.size := by omega
    have hb2 : w.heap.size + 1 + 1 < W2.heap.size := by omega
    have hb3 : w.heap.size + 1 + 1 + 1 < W2.heap.size := by omega
    have hfg := hR.frozen
    have HR := Lib.hid hR
    have h5' := Lib.hid h5
    have h6' : cap ≤ 9223372036854775807 := by unfold maxLen at h6; omega
    clear hR h4 h7 h8 h1 h6 h5 hb
    go_wp2_with (go_at_call 41; refine (rec_Clip _ _ _ h5'.out h6' _).mono ?_; rintro e w' ⟨rfl, rfl⟩)
    go_region_with (go_at_call 52; refine (HN.out r _ HW.out).mono ?_; rintro e w' ⟨rfl, hbn⟩; obtain ⟨z, rfl, hzz⟩ := ext_intro hbn; clear hbn)
    all_goals
      go_wp2
      go_region
      go_wp2
      (try simp only [Exit.inBlock, Exit.then]); refine bodyPost_ret (by simp [results, Tryd.results35, go_sem, hc2_hb, hc3_hb, hb0, hb1, hb2, hb3, hgW]; try rfl) rfl ?_
      refine ⟨g, ?_, by omega, ((HR.out.keep (w' := grownTo (W2.setCell ⟨w.heap.size, 1, none⟩ (.slice (some ⟨g, 0, none⟩) f.recs.length f.recs.length)).drew z) ?_).set (i := i) (by omega) r.next).keep ?_, by (repeat' (first | (with_reducible exact Below.refl _ _) | (with_reducible refine below_ext ?_ ?_ _) | (with_reducible refine below_al ?_ ?_ _) | (with_reducible refine Below.drew ?_) | (with_reducible refine Below.setCell ?_ ?_ _) | (with_reducible assumption) | (first | (with_reducible exact Nat.le_refl _) | omega | (simp only [World.size_alloc, World.size_setCell, World.size_drew] at *; omega) | (simp at *; omega) | (simp; done))))⟩
      · rfl
      · rw [(below_grownTo _ z).block g (by simpa using hgW), heap_drew, Below.heap_setCell _ _ _ _ (by simp; omega)]
      · simp only [heap_drew]; (repeat rw [Below.heap_setCell _ _ _ _ (by simp; omega)]); rfl
end Go.Proofs.YtmoebgkfmkdkpaaDoor
