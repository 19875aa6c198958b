/- ifs: do. -/
import Derived.Test.YtmoebgkfmkdkpaaDoorIfsB
namespace Go.Proofs.YtmoebgkfmkdkpaaDoor
open Go.RowKit Go.Proofs
set_option linter.unusedSimpArgs false
set_option linter.unusedVariables false

abbrev addrV (op file rec : Int) : Value := .agg #[.int .i64 op, .int .i64 file, .int .i64 rec]

theorem file_Do_ok (hnx : NextSaid) (f : File) (v : Value) (op : Int) (i : Nat) (vr : Rec) (w : World) (h : SlO recK w v f.recs) (hw : f.wf) (hm : may f op i = 0) :
    Calls Tryd.prog 35 #[.agg #[.int .i64 f.perm, v], .int .i64 op, .int .i64 i, recV vr] w fun e w' => ∃ g,
      e = .returned (.tuple #[fileV ⟨f.perm, doRecs f.recs op i vr⟩ g, recV ((doRecs f.recs op i vr).getD i .zero), .int .i64 0]) ∧ w.heap.size ≤ g ∧ RecRow w' g (doRecs f.recs op i vr) ∧ Below w.heap.size w w' := by
  obtain ⟨h1, h2, h3, h4⟩ := may_good hm
  have hlt : i < f.recs.length := by omega
  unfold fileV
  rw [doRecs_len]
  rcases h2 with rfl | rfl | rfl
  · exact file_Do_read f v i vr w h hm
  · have e1 : doRecs f.recs 1 i vr = f.recs.set i vr := by simp [doRecs]
    have e2 : (f.recs.set i vr).getD i .zero = vr := by simp [List.getD_eq_getElem?_getD, hlt]
    rw [e1, e2]
    exact file_Do_write f v i vr w h hm
  · obtain ⟨r, hr⟩ : ∃ r, f.recs[i]? = some r := ⟨_, List.getElem?_eq_getElem hlt⟩
    have e0 : f.recs.getD i .zero = r := by simp [List.getD_eq_getElem?_getD, hr]
    have e1 : doRecs f.recs 2 i vr = f.recs.set i r.next := by simp [doRecs]; rw [← List.getD_eq_getElem?_getD, e0]
    have e2 : (f.recs.set i r.next).getD i .zero = r.next := by simp [List.getD_eq_getElem?_getD, hlt]
    rw [e1, e2]
    exact file_Do_exec hnx f v i vr w h r hr (hw r (List.mem_of_getElem? hr)) hm

/-- An error of a file: a new block holds its number. -/
def FaultAt (w w' : World) (v : Value) (e : Int) : Prop := ∃ b, v = .iface 86 (.pointer (some ⟨b, 0, none⟩)) ∧ w'.cell? ⟨b, 1, none⟩ = some (errV e) ∧ w.heap.size ≤ b ∧ b < w'.heap.size

set_option maxHeartbeats 1000000 in
theorem ifs_do_addr (a : Value) (op file rec : Int) (x : Rec) (w : World) (hg : addrGood op file rec = false) :
    Calls Tryd.prog 18 #[a, addrV op file rec, recV x] w fun e w' => e = .returned (.tuple #[recV .zero, errV 1]) ∧ Below w.heap.size w w' := by
  have H := Lib.hid (fun (W : World) => hg ▸ addr_Good op file rec W)
  clear hg
  go_enter Tryd.func18, Tryd.ntmps18
  go_wp2_with (go_at_call 34; refine (H.out _).mono ?_; rintro e w' ⟨rfl, hb⟩; obtain ⟨x, rfl, hx⟩ := ext_intro hb; clear hb)
  go_returns
  exact ⟨rfl, by (repeat' (first | (with_reducible exact Below.refl _ _) | (with_reducible refine below_ext ?_ ?_ _) | (with_reducible refine below_al ?_ ?_ _) | (with_reducible refine Below.drew ?_) | (with_reducible refine Below.setCell ?_ ?_ _) | (with_reducible assumption) | (first | (with_reducible exact Nat.le_refl _) | omega | (simp only [World.size_alloc, World.size_setCell, World.size_drew] at *; omega) | (simp at *; omega) | (simp; done))))⟩

set_option maxHeartbeats 4000000 in
theorem ifs_do_none {w : World} {F : Nat → Prop} {p : Nat} {s : St} (h : StoreAt w F p s) (op file rec : Int) (x : Rec) (hg : addrGood op file rec = true) (h1 : s.get file = none) :
    Calls Tryd.prog 18 #[.pointer (some ⟨p, 0, none⟩), addrV op file rec, recV x] w fun e w' => ∃ v, e = .returned (.tuple #[recV .zero, v]) ∧ FaultAt w w' v 3 ∧ Below w.heap.size w w' := by
  obtain ⟨m, G, h⟩ := h
  have hpl := h.lt p h.fp
  have hml := h.lt m h.fm
  have c0 := h.c0
  have him := h.im
  have hlk := h.lk file
  rw [h1] at hlk
  have H := Lib.hid (fun (W : World) => hg ▸ addr_Good op file rec W)
  clear h h1 hg
  go_enter Tryd.func18, Tryd.ntmps18
  go_wp2_with (go_at_call 34; refine (H.out _).mono ?_; rintro e w' ⟨rfl, hb⟩; obtain ⟨x, rfl, hx⟩ := ext_intro hb; clear hb)
  go_region
  go_wp2
  go_region
  go_wp2
  go_returns
  exact ⟨_, rfl, ⟨_, rfl, by simp [go_sem], by (first | (with_reducible exact Nat.le_refl _) | omega | (simp only [World.size_alloc, World.size_setCell, World.size_drew] at *; omega) | (simp at *; omega) | (simp; done)), by (first | (with_reducible exact Nat.le_refl _) | omega | (simp only [World.size_alloc, World.size_setCell, World.size_drew] at *; omega) | (simp at *; omega) | (simp; done))⟩, by (repeat' (first | (with_reducible exact Below.refl _ _) | (with_reducible refine below_ext ?_ ?_ _) | (with_reducible refine below_al ?_ ?_ _) | (with_reducible refine Below.drew ?_) | (with_reducible refine Below.setCell ?_ ?_ _) | (with_reducible assumption) | (first | (with_reducible exact Nat.le_refl _) | omega | (simp only [World.size_alloc, World.size_setCell, World.size_drew] at *; omega) | (simp at *; omega) | (simp; done))))⟩

theorem StoreIn.sl {w : World} {F : Nat → Prop} {p m : Nat} {G : Int → Nat} {s : St} (h : StoreIn w F p m G s) {n : Int} {f : File} (hf : s.get n = some f) : SlO recK w (.slice (some ⟨G n, 0, none⟩) f.recs.length f.recs.length) f.recs := by
  have hl := (good_head (h.ok.get hf).2.1).2.1
  have hr := (h.row n f hf).1
  exact hr.sl hr.block (Nat.le_refl _) (by unfold maxLen; omega) (by unfold big; omega)

set_option maxHeartbeats 4000000 in
theorem ifs_do_may {w : World} {F : Nat → Prop} {p : Nat} {s : St} (h : StoreAt w F p s) (op file rec : Int) (x : Rec) (hg : addrGood op file rec = true) {f : File} (h1 : s.get file = some f) (h2 : may f op rec ≠ 0) :
    Calls Tryd.prog 18 #[.pointer (some ⟨p, 0, none⟩), addrV op file rec, recV x] w fun e w' => ∃ v, e = .returned (.tuple #[recV .zero, v]) ∧ FaultAt w w' v (may f op rec) ∧ Below w.heap.size w w' := by
  obtain ⟨m, G, h⟩ := h
  have hpl := h.lt p h.fp
  have hml := h.lt m h.fm
  have c0 := h.c0
  have him := h.im
  have hlk := h.lk file
  rw [h1] at hlk
  have hsl := h.sl h1
  have H := Lib.hid (fun (W : World) => hg ▸ addr_Good op file rec W)
  have HD := Lib.hid (fun (W : World) (hb : Below w.heap.size w W) => file_Do_no f _ op rec x W (hsl.up hb) h2)
  have hne : (may f op rec != 0) = true := by simpa using h2
  have hne1 : (may f op rec == 0) = false := by simpa using h2
  have H2 := Lib.hid h2
  clear h h1 hg hsl h2
  go_enter Tryd.func18, Tryd.ntmps18
  go_wp2_with (go_at_call 34; refine (H.out _).mono ?_; rintro e w' ⟨rfl, hb⟩; obtain ⟨x, rfl, hx⟩ := ext_intro hb; clear hb)
  go_region
  go_wp2_with (go_at_call 35; refine (HD.out _ (by (repeat' (first | (with_reducible exact Below.refl _ _) | (with_reducible refine below_ext ?_ ?_ _) | (with_reducible refine below_al ?_ ?_ _) | (with_reducible refine Below.drew ?_) | (with_reducible refine Below.setCell ?_ ?_ _) | (with_reducible assumption) | (first | (with_reducible exact Nat.le_refl _) | omega | (simp only [World.size_alloc, World.size_setCell, World.size_drew] at *; omega) | (simp at *; omega) | (simp; done)))))).mono ?_; rintro e w' ⟨rfl, hb⟩; obtain ⟨x, rfl, hx⟩ := ext_intro hb; clear hb)
  go_region
  go_wp2
  go_returns
  exact ⟨_, rfl, ⟨_, rfl, by simp [go_sem], by (first | (with_reducible exact Nat.le_refl _) | omega | (simp only [World.size_alloc, World.size_setCell, World.size_drew] at *; omega) | (simp at *; omega) | (simp; done)), by (first | (with_reducible exact Nat.le_refl _) | omega | (simp only [World.size_alloc, World.size_setCell, World.size_drew] at *; omega) | (simp at *; omega) | (simp; done))⟩, by (repeat' (first | (with_reducible exact Below.refl _ _) | (with_reducible refine below_ext ?_ ?_ _) | (with_reducible refine below_al ?_ ?_ _) | (with_reducible refine Below.drew ?_) | (with_reducible refine Below.setCell ?_ ?_ _) | (with_reducible assumption) | (first | (with_reducible exact Nat.le_refl _) | omega | (simp only [World.size_alloc, World.size_setCell, World.size_drew] at *; omega) | (simp at *; omega) | (simp; done))))⟩

set_option maxHeartbeats 8000000 in
theorem ifs_do_ok (hnx : NextSaid) {w : World} {F : Nat → Prop} {p : Nat} {s : St} (h : StoreAt w F p s) (op file : Int) (i : Nat) (x : Rec) (hx : x.wf) (hg : addrGood op file i = true) {f : File} (h1 : s.get file = some f) (h2 : may f op i = 0) :
    Calls Tryd.prog 18 #[.pointer (some ⟨p, 0, none⟩), addrV op file i, recV x] w fun e w' => e = .returned (.tuple #[recV ((doRecs f.recs op i x).getD i .zero), .nilIface]) ∧ ∃ F', StoreAt w' F' p (s.put file ⟨f.perm, doRecs f.recs op i x⟩) ∧ Grow F w F' ∧ But F w w' := by
  obtain ⟨m, G, h⟩ := h
  have hpl := h.lt p h.fp
  have hml := h.lt m h.fm
  have hfm := h.fm
  have hmp := h.pm
  have hmp' : m ≠ p := fun e => hmp e.symm
  have c0 := h.c0
  have him := h.im
  have hka := h.ka
  have hlk := h.lk file
  rw [h1] at hlk
  have hsl := h.sl h1
  obtain ⟨o1, o2, o3⟩ := h.ok.get h1
  have hok := Lib.hid (h.ok.put (n := file) (f := ⟨f.perm, doRecs f.recs op i x⟩) o1 (by have := good_do o2 h2 x; simpa using this) (doRecs_wf o3 _ _ hx))
  have H := Lib.hid (fun (W : World) => hg ▸ addr_Good op file i W)
  have HD := Lib.hid (fun (W : World) (hb : Below w.heap.size w W) => file_Do_ok hnx f _ op i x W (hsl.up hb) o3 h2)
  have HS := Lib.hid h
  clear h h1 hg hsl h2 hnx o1 o2 o3 hx
  go_enter Tryd.func18, Tryd.ntmps18
  go_wp2_with (go_at_call 34; refine (H.out _).mono ?_; rintro e w' ⟨rfl, hb⟩; obtain ⟨x, rfl, hx⟩ := ext_intro hb; clear hb)
  go_region
  go_wp2_with (go_at_call 35; refine (HD.out _ (by (repeat' (first | (with_reducible exact Below.refl _ _) | (with_reducible refine below_ext ?_ ?_ _) | (with_reducible refine below_al ?_ ?_ _) | (with_reducible refine Below.drew ?_) | (with_reducible refine Below.setCell ?_ ?_ _) | (with_reducible assumption) | (first | (with_reducible exact Nat.le_refl _) | omega | (simp only [World.size_alloc, World.size_setCell, World.size_drew] at *; omega) | (simp at *; omega) | (simp; done)))))).mono ?_; rintro e W2 ⟨g, rfl, hgs, hR, hb⟩; obtain ⟨y, rfl, hy⟩ := ext_intro hb; clear hb; replace hR := Lib.hid hR; have hgs' := Lib.hid hgs; clear hgs)
  go_region
  go_wp2
  have hmn : m ≠ w.heap.size + 1 + 1 := by omega
  (try simp only [Exit.inBlock, Exit.then]); refine bodyPost_ret (by simp [results, Tryd.results18, go_sem, hmn, hml]; try rfl) rfl ?_
  refine ⟨?_, ?_⟩
  · simp [List.getD_eq_getElem?_getD]
  have hgs := hgs'.out
  have hsx := size_grownTo _ x
  have hfr : ¬ F (w.heap.size + 1 + 1) := fun hF => by have := HS.out.lt _ hF; omega
  have hgn : w.heap.size + 1 + 1 ≠ g := by simp at hgs hsx; omega
  have hnf : ∀ F' : Nat → Prop, (∀ b, F' b → F b ∨ b = g) → ¬ F' (w.heap.size + 1 + 1) := fun F' h hF => by rcases h _ hF with h | h; exact hfr h; exact hgn h
  refine put_then HS.out (fun F' hF hS => (((hS.setCell (hnf F' hF)).setCell (hnf F' hF)).setCell (hnf F' hF)).setCell (hnf F' hF)) (by (repeat' (first | (with_reducible exact Below.refl _ _) | (with_reducible refine below_ext ?_ ?_ _) | (with_reducible refine below_al ?_ ?_ _) | (with_reducible refine Below.drew ?_) | (with_reducible refine Below.setCell ?_ ?_ _) | (with_reducible assumption) | (first | (with_reducible exact Nat.le_refl _) | omega | (simp only [World.size_alloc, World.size_setCell, World.size_drew] at *; omega) | (simp at *; omega) | (simp; done))))) (hR.out.keep ?_) (by (first | (with_reducible exact Nat.le_refl _) | omega | (simp only [World.size_alloc, World.size_setCell, World.size_drew] at *; omega) | (simp at *; omega) | (simp; done))) hok.out (by (repeat' (first | (with_reducible exact But.refl _ _) | (with_reducible refine But.ext ?_ _) | (with_reducible refine But.al ?_ _) | (with_reducible refine But.drew ?_) | (with_reducible refine But.setCell ?_ (by first | (left; assumption) | (right; (first | (with_reducible exact Nat.le_refl _) | omega | (simp only [World.size_alloc, World.size_setCell, World.size_drew] at *; omega) | (simp at *; omega) | (simp; done)))) _) | (with_reducible refine But.putMap ?_ (by first | (left; assumption) | (right; (first | (with_reducible exact Nat.le_refl _) | omega | (simp only [World.size_alloc, World.size_setCell, World.size_drew] at *; omega) | (simp at *; omega) | (simp; done)))) _ _) | (with_reducible assumption))))
  have hgb := hR.out.block
  have hgb1 : ∀ k, g ≠ (grownTo _ y).heap.size + k := fun k => by omega
  show objAt _ g = objAt _ g
  simp [go_sem, hgb, Nat.ne_of_gt hgb, (Nat.ne_of_gt (Nat.lt_succ_of_lt hgb))]
end Go.Proofs.YtmoebgkfmkdkpaaDoor
