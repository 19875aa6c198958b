/- ifs: Do. -/
import Derived.Test.YtmoebgkfmkdkpaaDoorIfsC
import Derived.Test.YtmoebgkfmkdkpaaDoorNumber
namespace Go.Proofs.YtmoebgkfmkdkpaaDoor
open Go.RowKit Go.Proofs
set_option linter.unusedSimpArgs false
set_option linter.unusedVariables false

/-- v is an error of the number e. -/
def ErrIn (W : World) (v : Value) (e : Int) : Prop := v = errV e ∨ ∃ b, v = .iface 86 (.pointer (some ⟨b, 0, none⟩)) ∧ W.cell? ⟨b, 1, none⟩ = some (errV e) ∧ b < W.heap.size
theorem ErrIn.up {W W' : World} {v : Value} {e : Int} (h : ErrIn W v e) (hb : Below W.heap.size W W') : ErrIn W' v e := by
  rcases h with h | ⟨b, h1, h2, h3⟩
  · exact .inl h
  · exact .inr ⟨b, h1, (hb.cell (p := ⟨b, 1, none⟩) h3).trans h2, Nat.lt_of_lt_of_le h3 hb.size⟩
theorem ErrIn.ext {W : World} {v : Value} {e : Int} (h : ErrIn W v e) (x : GrownT W) : ErrIn (grownTo W x) v e := h.up x.below
theorem ErrIn.al {W : World} {v : Value} {e : Int} (h : ErrIn W v e) (o : Obj) : ErrIn (W.alloc o) v e := h.up ((Below.refl _ _).alloc (Nat.le_refl _) o)
theorem ErrIn.drew {W : World} {v : Value} {e : Int} (h : ErrIn W v e) : ErrIn W.drew v e := h.up (Below.refl _ _).drew
theorem ErrIn.set {W : World} {v : Value} {e : Int} (h : ErrIn W v e) {p o : Nat} {u : Value} (hx : W.cell? ⟨p, 1, none⟩ ≠ some (errV e)) : ErrIn (W.setCell ⟨p, o, none⟩ u) v e := by
  rcases h with h | ⟨b, h1, h2, h3⟩
  · exact .inl h
  · have : b ≠ p := by intro e; subst e; exact hx h2
    exact .inr ⟨b, h1, by rw [World.cell?_setCell_other _ _ _ _ (by intro e; cases e; exact this rfl)]; exact h2, by simpa [World.setCell] using h3⟩
theorem is_err {W : World} {v : Value} {e : Int} (h : ErrIn W v e) (t : Int) : Calls Tryd.prog 19 #[v, errV t] W fun ev w' => ev = .returned (.bool (e == t)) ∧ W = w' := by
  rcases h with rfl | ⟨b, rfl, h2, _⟩
  · exact is_no e t W
  · exact is_fault b e t W h2
/-- The library's variable is as it is when the program begins. -/
def Lib0 (w : World) : Prop := w.cell? ⟨0, 0, none⟩ = some errType ∧ 0 < w.heap.size
theorem Lib0.up {w w' : World} (h : Lib0 w) (hb : Below w.heap.size w w') : Lib0 w' := ⟨(hb.cell (p := ⟨0, 0, none⟩) h.2).trans h.1, Nat.lt_of_lt_of_le h.2 hb.size⟩
theorem Lib0.ext {w : World} (h : Lib0 w) (x : GrownT w) : Lib0 (grownTo w x) := h.up x.below
theorem Lib0.al {w : World} (h : Lib0 w) (o : Obj) : Lib0 (w.alloc o) := h.up ((Below.refl _ _).alloc (Nat.le_refl _) o)
theorem Lib0.drew {w : World} (h : Lib0 w) : Lib0 w.drew := h.up (Below.refl _ _).drew
theorem Lib0.set {w : World} (h : Lib0 w) {p o : Nat} {u : Value} (hp : w.cell? ⟨p, 0, none⟩ ≠ some errType) : Lib0 (w.setCell ⟨p, o, none⟩ u) :=
  ⟨by rw [World.cell?_setCell_other _ _ _ _ (by intro e; cases e; exact hp h.1)]; exact h.1, by simpa [World.setCell] using h.2⟩
theorem number_err {W : World} {v : Value} {e : Int} (h : ErrIn W v e) (hl : Lib0 W) : Calls Tryd.prog 20 #[v] W fun ev w' => ev = .returned (.int .i64 e) ∧ Below W.heap.size W w' := by
  rcases h with rfl | ⟨b, rfl, h2, h3⟩
  · exact number_no e W hl.1 hl.2
  · exact number_fault b e W h2 h3 hl.1 hl.2

theorem ifs_Do_nil (a : Value) (op file rec : Int) (x : Rec) (w : World) : Calls Tryd.prog 5 #[.pointer none, addrV op file rec, recV x] w fun e w' => e = .returned (.tuple #[recV .zero, .int .i64 1]) ∧ Below w.heap.size w w' := by
  go_enter Tryd.func5, Tryd.ntmps5
  go_wp2
  go_returns
  exact ⟨rfl, by (repeat' (first | (with_reducible exact Below.refl _ _) | (with_reducible refine below_ext ?_ ?_ _) | (with_reducible refine below_al ?_ ?_ _) | (with_reducible refine Below.drew ?_) | (with_reducible refine Below.setCell ?_ ?_ _) | (with_reducible assumption) | (first | (with_reducible exact Nat.le_refl _) | omega | (simp only [World.size_alloc, World.size_setCell, World.size_drew] at *; omega) | (simp at *; omega) | (simp; done))))⟩

theorem StoreIn.deny {w w' : World} {F : Nat → Prop} {p m : Nat} {G : Int → Nat} {s : St} (h : StoreIn w F p m G s) {d : Int} (hk : ∀ b, F b → b ≠ p → w'.heap[b]? = w.heap[b]?)
    (c0 : w'.cell? ⟨p, 0, none⟩ = some (.map (some m))) (c1 : w'.cell? ⟨p, 1, none⟩ = some (.int .i64 d)) (fr : ∀ o, w'.frozen? ⟨p, o, none⟩ = false) (hs : w.heap.size ≤ w'.heap.size) : StoreIn w' F p m G { s with denied := d } where
  c0 := c0
  c1 := c1
  fr := fr
  im := by rw [show objAt w' m = objAt w m from hk m h.fm (fun e => h.pm e.symm)]; exact h.im
  ka := by rw [show objAt w' m = objAt w m from hk m h.fm (fun e => h.pm e.symm)]; exact h.ka
  lk := fun n => by rw [show objAt w' m = objAt w m from hk m h.fm (fun e => h.pm e.symm)]; exact h.lk n
  row := fun n f hf => ⟨(h.row n f hf).1.keep (hk _ (h.row n f hf).2 (h.gp hf)), (h.row n f hf).2⟩
  inj := h.inj
  fp := h.fp
  fm := h.fm
  lt := fun b hb => Nat.lt_of_lt_of_le (h.lt b hb) hs
  ok := h.ok.denied d

set_option maxHeartbeats 4000000 in
/-- What went wrong is no matter of permissions. -/
theorem ifs_Do_err {w : World} (hl : Lib0 w) (pv : Value) (p : Nat) (hpv : pv = .pointer (some ⟨p, 0, none⟩)) (op file rec : Int) (x : Rec) (e : Int) (he : e ≠ 5)
    (hD : ∀ W, Below w.heap.size w W → Calls Tryd.prog 18 #[pv, addrV op file rec, recV x] W fun e' w' => ∃ v, e' = .returned (.tuple #[recV .zero, v]) ∧ ErrIn w' v e ∧ Below W.heap.size W w') :
    Calls Tryd.prog 5 #[pv, addrV op file rec, recV x] w fun e' w' => e' = .returned (.tuple #[recV .zero, .int .i64 e]) ∧ Below w.heap.size w w' := by
  subst hpv
  have HD := Lib.hid hD
  have he1 : (e == 5) = false := by simpa using he
  have HL := Lib.hid hl
  clear hD hl he
  go_enter Tryd.func5, Tryd.ntmps5
  go_wp2_with (first | (go_at_call 18; refine (HD.out _ (by (repeat' (first | (with_reducible exact Below.refl _ _) | (with_reducible refine below_ext ?_ ?_ _) | (with_reducible refine below_al ?_ ?_ _) | (with_reducible refine Below.drew ?_) | (with_reducible refine Below.setCell ?_ ?_ _) | (with_reducible assumption) | (first | (with_reducible exact Nat.le_refl _) | omega | (simp only [World.size_alloc, World.size_setCell, World.size_drew] at *; omega) | (simp at *; omega) | (simp; done)))))).mono ?_; rintro e W2 ⟨v, rfl, hE, hb⟩; obtain ⟨y, rfl, hy⟩ := ext_intro hb; clear hb; replace hE := Lib.hid hE) | (go_at_call 19; refine (is_err (hE.out.up (by (repeat' (first | (with_reducible exact Below.refl _ _) | (with_reducible refine below_ext ?_ ?_ _) | (with_reducible refine below_al ?_ ?_ _) | (with_reducible refine Below.drew ?_) | (with_reducible refine Below.setCell ?_ ?_ _) | (with_reducible assumption) | (first | (with_reducible exact Nat.le_refl _) | omega | (simp only [World.size_alloc, World.size_setCell, World.size_drew] at *; omega) | (simp at *; omega) | (simp; done)))))) 5).mono ?_; rintro e w' ⟨rfl, rfl⟩))
  go_region_with ((go_at_call 20; refine (number_err (hE.out.up (by (repeat' (first | (with_reducible exact Below.refl _ _) | (with_reducible refine below_ext ?_ ?_ _) | (with_reducible refine below_al ?_ ?_ _) | (with_reducible refine Below.drew ?_) | (with_reducible refine Below.setCell ?_ ?_ _) | (with_reducible assumption) | (first | (with_reducible exact Nat.le_refl _) | omega | (simp only [World.size_alloc, World.size_setCell, World.size_drew] at *; omega) | (simp at *; omega) | (simp; done)))))) (HL.out.up (by (repeat' (first | (with_reducible exact Below.refl _ _) | (with_reducible refine below_ext ?_ ?_ _) | (with_reducible refine below_al ?_ ?_ _) | (with_reducible refine Below.drew ?_) | (with_reducible refine Below.setCell ?_ ?_ _) | (with_reducible assumption) | (first | (with_reducible exact Nat.le_refl _) | omega | (simp only [World.size_alloc, World.size_setCell, World.size_drew] at *; omega) | (simp at *; omega) | (simp; done))))))).mono ?_; rintro e w' ⟨rfl, hb⟩; obtain ⟨x, rfl, hx⟩ := ext_intro hb; clear hb))
  all_goals
    go_wp2
    go_returns
    exact ⟨rfl, by (repeat' (first | (with_reducible exact Below.refl _ _) | (with_reducible refine below_ext ?_ ?_ _) | (with_reducible refine below_al ?_ ?_ _) | (with_reducible refine Below.drew ?_) | (with_reducible refine Below.setCell ?_ ?_ _) | (with_reducible assumption) | (first | (with_reducible exact Nat.le_refl _) | omega | (simp only [World.size_alloc, World.size_setCell, World.size_drew] at *; omega) | (simp at *; omega) | (simp; done))))⟩

set_option maxHeartbeats 8000000 in
/-- What was not let is counted. -/
theorem ifs_Do_denied {w : World} (hl : Lib0 w) {F : Nat → Prop} {p : Nat} {s : St} (h : StoreAt w F p s) (op file rec : Int) (x : Rec)
    (hD : ∀ W, Below w.heap.size w W → Calls Tryd.prog 18 #[.pointer (some ⟨p, 0, none⟩), addrV op file rec, recV x] W fun e' w' => ∃ v, e' = .returned (.tuple #[recV .zero, v]) ∧ ErrIn w' v 5 ∧ Below W.heap.size W w') :
    Calls Tryd.prog 5 #[.pointer (some ⟨p, 0, none⟩), addrV op file rec, recV x] w fun e' w' => e' = .returned (.tuple #[recV .zero, .int .i64 5]) ∧ StoreAt w' F p { s with denied := wrap64 (s.denied + 1) } ∧ But F w w' := by
  obtain ⟨m, G, h⟩ := h
  have hpl := h.lt p h.fp
  have hfp := h.fp
  have c0 := h.c0
  have c1 := h.c1
  have fr := h.fr
  have HD := Lib.hid hD
  have HL := Lib.hid hl
  have HS := Lib.hid h
  clear hD hl h
  go_enter Tryd.func5, Tryd.ntmps5
  go_wp2_with (first | (go_at_call 18; refine (HD.out _ (by (repeat' (first | (with_reducible exact Below.refl _ _) | (with_reducible refine below_ext ?_ ?_ _) | (with_reducible refine below_al ?_ ?_ _) | (with_reducible refine Below.drew ?_) | (with_reducible refine Below.setCell ?_ ?_ _) | (with_reducible assumption) | (first | (with_reducible exact Nat.le_refl _) | omega | (simp only [World.size_alloc, World.size_setCell, World.size_drew] at *; omega) | (simp at *; omega) | (simp; done)))))).mono ?_; rintro e W2 ⟨v, rfl, hE, hb⟩; obtain ⟨y, rfl, hy⟩ := ext_intro hb; clear hb; replace hE := Lib.hid hE) | (go_at_call 19; refine (is_err (hE.out.up (by (repeat' (first | (with_reducible exact Below.refl _ _) | (with_reducible refine below_ext ?_ ?_ _) | (with_reducible refine below_al ?_ ?_ _) | (with_reducible refine Below.drew ?_) | (with_reducible refine Below.setCell ?_ ?_ _) | (with_reducible assumption) | (first | (with_reducible exact Nat.le_refl _) | omega | (simp only [World.size_alloc, World.size_setCell, World.size_drew] at *; omega) | (simp at *; omega) | (simp; done)))))) 5).mono ?_; rintro e w' ⟨rfl, rfl⟩))
  go_region_with ((go_at_call 20; refine (number_err (e := 5) (by (repeat' (first | (with_reducible exact hE.out) | (with_reducible refine ErrIn.ext ?_ _) | (with_reducible refine ErrIn.al ?_ _) | (with_reducible refine ErrIn.drew ?_) | (with_reducible refine ErrIn.set ?_ (by simp [go_sem, c0, c1, hpl]))))) (by (repeat' (first | (with_reducible exact HL.out) | (with_reducible refine Lib0.ext ?_ _) | (with_reducible refine Lib0.al ?_ _) | (with_reducible refine Lib0.drew ?_) | (with_reducible refine Lib0.set ?_ (by simp [go_sem, c0, c1, hpl])))))).mono ?_; rintro e w' ⟨rfl, hb⟩; obtain ⟨x, rfl, hx⟩ := ext_intro hb; clear hb))
  all_goals
    go_wp2
    go_returns
    refine ⟨rfl, ⟨m, G, HS.out.deny ?_ ?_ ?_ ?_ ?_⟩, by (repeat' (first | (with_reducible exact But.refl _ _) | (with_reducible refine But.ext ?_ _) | (with_reducible refine But.al ?_ _) | (with_reducible refine But.drew ?_) | (with_reducible refine But.setCell ?_ (by first | (left; assumption) | (right; (first | (with_reducible exact Nat.le_refl _) | omega | (simp only [World.size_alloc, World.size_setCell, World.size_drew] at *; omega) | (simp at *; omega) | (simp; done)))) _) | (with_reducible refine But.putMap ?_ (by first | (left; assumption) | (right; (first | (with_reducible exact Nat.le_refl _) | omega | (simp only [World.size_alloc, World.size_setCell, World.size_drew] at *; omega) | (simp at *; omega) | (simp; done)))) _ _) | (with_reducible assumption)))⟩
    · intro b hF hne
      have hb := HS.out.lt b hF
      have hne' : p ≠ b := fun e => hne e.symm
      show objAt _ b = objAt _ b
      simp [go_sem, hb, hne']
    · simp [go_sem, c0, hpl]
    · simp [go_sem, c1, hpl]
    · intro o; simp [go_sem, fr, hpl]
    · (first | (with_reducible exact Nat.le_refl _) | omega | (simp only [World.size_alloc, World.size_setCell, World.size_drew] at *; omega) | (simp at *; omega) | (simp; done))

theorem But.cell {F : Nat → Prop} {w w' : World} (h : But F w w') {b o : Nat} (hb : b < w.heap.size) (hF : ¬ F b) : w'.cell? ⟨b, o, none⟩ = w.cell? ⟨b, o, none⟩ := World.cell?_of_block (w := w) (a := ⟨b, o, none⟩) (h.block b hb hF)
theorem But.frozen {F : Nat → Prop} {w w' : World} (h : But F w w') {b o : Nat} (hb : b < w.heap.size) (hF : ¬ F b) : w'.frozen? ⟨b, o, none⟩ = w.frozen? ⟨b, o, none⟩ := World.frozen?_of_block (w := w) (a := ⟨b, o, none⟩) (h.block b hb hF)

set_option maxHeartbeats 8000000 in
theorem ifs_Do_ok {w : World} {F : Nat → Prop} {p : Nat} {s s' : St} (h : StoreAt w F p s) (op file rec : Int) (x r : Rec)
    (hD : ∀ W, Below w.heap.size w W → Calls Tryd.prog 18 #[.pointer (some ⟨p, 0, none⟩), addrV op file rec, recV x] W fun e' w' => e' = .returned (.tuple #[recV r, .nilIface]) ∧ ∃ F', StoreAt w' F' p s' ∧ Grow F W F' ∧ But F W w') :
    Calls Tryd.prog 5 #[.pointer (some ⟨p, 0, none⟩), addrV op file rec, recV x] w fun e' w' => e' = .returned (.tuple #[recV r, .int .i64 0]) ∧ ∃ F', StoreAt w' F' p s' ∧ Grow F w F' ∧ But F w w' := by
  obtain ⟨m, G, h⟩ := h
  have hpl := h.lt p h.fp
  have HD := Lib.hid hD
  have hnF : ∀ b, w.heap.size ≤ b → ¬ F b := fun b hb hF => by have := h.lt b hF; omega
  have HF := Lib.hid hnF
  clear hD h hnF
  go_enter Tryd.func5, Tryd.ntmps5
  go_wp2_with (first | (go_at_call 18; refine (HD.out _ (by (repeat' (first | (with_reducible exact Below.refl _ _) | (with_reducible refine below_ext ?_ ?_ _) | (with_reducible refine below_al ?_ ?_ _) | (with_reducible refine Below.drew ?_) | (with_reducible refine Below.setCell ?_ ?_ _) | (with_reducible assumption) | (first | (with_reducible exact Nat.le_refl _) | omega | (simp only [World.size_alloc, World.size_setCell, World.size_drew] at *; omega) | (simp at *; omega) | (simp; done)))))).mono ?_; rintro e W2 ⟨rfl, F', hS, hG, hB⟩; have hc0_hB := fun o => But.cell hB (b := w.heap.size) (o := o) (by (first | (with_reducible exact Nat.le_refl _) | omega | (simp only [World.size_alloc, World.size_setCell, World.size_drew] at *; omega) | (simp at *; omega) | (simp; done))) (HF.out _ (by (first | (with_reducible exact Nat.le_refl _) | omega | (simp only [World.size_alloc, World.size_setCell, World.size_drew] at *; omega) | (simp at *; omega) | (simp; done)))); have hf0_hB := fun o => But.frozen hB (b := w.heap.size) (o := o) (by (first | (with_reducible exact Nat.le_refl _) | omega | (simp only [World.size_alloc, World.size_setCell, World.size_drew] at *; omega) | (simp at *; omega) | (simp; done))) (HF.out _ (by (first | (with_reducible exact Nat.le_refl _) | omega | (simp only [World.size_alloc, World.size_setCell, World.size_drew] at *; omega) | (simp at *; omega) | (simp; done)))); have hc1_hB := fun o => But.cell hB (b := w.heap.size + 1) (o := o) (by (first | (with_reducible exact Nat.le_refl _) | omega | (simp only [World.size_alloc, World.size_setCell, World.size_drew] at *; omega) | (simp at *; omega) | (simp; done))) (HF.out _ (by (first | (with_reducible exact Nat.le_refl _) | omega | (simp only [World.size_alloc, World.size_setCell, World.size_drew] at *; omega) | (simp at *; omega) | (simp; done)))); have hf1_hB := fun o => But.frozen hB (b := w.heap.size + 1) (o := o) (by (first | (with_reducible exact Nat.le_refl _) | omega | (simp only [World.size_alloc, World.size_setCell, World.size_drew] at *; omega) | (simp at *; omega) | (simp; done))) (HF.out _ (by (first | (with_reducible exact Nat.le_refl _) | omega | (simp only [World.size_alloc, World.size_setCell, World.size_drew] at *; omega) | (simp at *; omega) | (simp; done)))); have hc2_hB := fun o => But.cell hB (b := w.heap.size + 1 + 1) (o := o) (by (first | (with_reducible exact Nat.le_refl _) | omega | (simp only [World.size_alloc, World.size_setCell, World.size_drew] at *; omega) | (simp at *; omega) | (simp; done))) (HF.out _ (by (first | (with_reducible exact Nat.le_refl _) | omega | (simp only [World.size_alloc, World.size_setCell, World.size_drew] at *; omega) | (simp at *; omega) | (simp; done)))); have hf2_hB := fun o => But.frozen hB (b := w.heap.size + 1 + 1) (o := o) (by (first | (with_reducible exact Nat.le_refl _) | omega | (simp only [World.size_alloc, World.size_setCell, World.size_drew] at *; omega) | (simp at *; omega) | (simp; done))) (HF.out _ (by (first | (with_reducible exact Nat.le_refl _) | omega | (simp only [World.size_alloc, World.size_setCell, World.size_drew] at *; omega) | (simp at *; omega) | (simp; done)))); have hz := hB.size; replace hS := Lib.hid hS; replace hG := Lib.hid hG; have hB' : But F w W2 := But.trans (by (repeat' (first | (with_reducible exact But.refl _ _) | (with_reducible refine But.ext ?_ _) | (with_reducible refine But.al ?_ _) | (with_reducible refine But.drew ?_) | (with_reducible refine But.setCell ?_ (by first | (left; assumption) | (right; (first | (with_reducible exact Nat.le_refl _) | omega | (simp only [World.size_alloc, World.size_setCell, World.size_drew] at *; omega) | (simp at *; omega) | (simp; done)))) _) | (with_reducible refine But.putMap ?_ (by first | (left; assumption) | (right; (first | (with_reducible exact Nat.le_refl _) | omega | (simp only [World.size_alloc, World.size_setCell, World.size_drew] at *; omega) | (simp at *; omega) | (simp; done)))) _ _) | (with_reducible assumption)))) hB (fun _ _ h => h); clear hB) | (go_at_call 19; refine (is_nil 5 _).mono ?_; rintro e w' ⟨rfl, rfl⟩))
  have hz1 : w.heap.size + 1 + 1 < W2.heap.size := by (first | (with_reducible exact Nat.le_refl _) | omega | (simp only [World.size_alloc, World.size_setCell, World.size_drew] at *; omega) | (simp at *; omega) | (simp; done))
  have hz0 : w.heap.size + 1 < W2.heap.size := by (first | (with_reducible exact Nat.le_refl _) | omega | (simp only [World.size_alloc, World.size_setCell, World.size_drew] at *; omega) | (simp at *; omega) | (simp; done))
  go_region_with ((go_at_call 20; refine (number_nil _).mono ?_; rintro e w' ⟨rfl, hb⟩; obtain ⟨x, rfl, hx⟩ := ext_intro hb; clear hb))
  all_goals
    go_wp2
    (try simp only [Exit.inBlock, Exit.then]); refine bodyPost_ret (by simp [results, Tryd.results5, go_sem, hc2_hB, hf2_hB, hz1, hz0]; try rfl) rfl ?_
    have hn : ¬ F' (w.heap.size + 1 + 1) := fun hF => by
      rcases hG.out _ hF with hF | hF
      · exact HF.out _ (by omega) hF
      · simp at hF; omega
    exact ⟨rfl, F', by (repeat' (first | (with_reducible exact hS.out) | (with_reducible refine StoreAt.ext ?_ _) | (with_reducible refine StoreAt.al ?_ _) | (with_reducible refine StoreAt.drew ?_) | (with_reducible refine StoreAt.setCell ?_ hn))), fun b hb => (hG.out b hb).imp id (fun h => by simp at h; omega), by (repeat' (first | (with_reducible exact But.refl _ _) | (with_reducible refine But.ext ?_ _) | (with_reducible refine But.al ?_ _) | (with_reducible refine But.drew ?_) | (with_reducible refine But.setCell ?_ (by first | (left; assumption) | (right; (first | (with_reducible exact Nat.le_refl _) | omega | (simp only [World.size_alloc, World.size_setCell, World.size_drew] at *; omega) | (simp at *; omega) | (simp; done)))) _) | (with_reducible refine But.putMap ?_ (by first | (left; assumption) | (right; (first | (with_reducible exact Nat.le_refl _) | omega | (simp only [World.size_alloc, World.size_setCell, World.size_drew] at *; omega) | (simp at *; omega) | (simp; done)))) _ _) | (with_reducible assumption)))⟩

/-- What an operation on a store comes to. -/
theorem ifs_Do (hnx : NextSaid) {w : World} (hl : Lib0 w) {F : Nat → Prop} {p : Nat} {s : St} (h : StoreAt w F p s) (op file rec : Int) (x : Rec) (hx : x.wf) :
    Calls Tryd.prog 5 #[.pointer (some ⟨p, 0, none⟩), addrV op file rec, recV x] w fun e' w' => e' = .returned (.tuple #[recV (s.do op file rec x).2.1, .int .i64 (s.do op file rec x).2.2]) ∧ ∃ F', StoreAt w' F' p (s.do op file rec x).1 ∧ Grow F w F' ∧ But F w w' := by
  have toErr : ∀ {W w' : World} {v : Value} {e : Int}, FaultAt W w' v e → ErrIn w' v e := fun ⟨b, h1, h2, _, h4⟩ => .inr ⟨b, h1, h2, h4⟩
  have up : ∀ W, Below w.heap.size w W → StoreAt W F p s := fun W hb => h.up hb
  have fin : ∀ {e'' : Ending} {w'' : World} {e : Int}, (e'' = .returned (.tuple #[recV .zero, .int .i64 e]) ∧ Below w.heap.size w w'') → e'' = .returned (.tuple #[recV .zero, .int .i64 e]) ∧ ∃ F', StoreAt w'' F' p s ∧ Grow F w F' ∧ But F w w'' := fun ⟨h1, h2⟩ => ⟨h1, F, up _ h2, Grow.refl _ _, But.of_below h2⟩
  unfold St.do St.op
  cases hg : addrGood op file rec with
  | false =>
    exact (ifs_Do_err hl _ p rfl op file rec x 1 (by decide) fun W hb => (ifs_do_addr _ op file rec x W hg).mono fun _ _ ⟨h1, h2⟩ => ⟨_, h1, .inl rfl, h2⟩).mono fun _ _ h => fin h
  | true =>
    cases h1 : s.get file with
    | none =>
      exact (ifs_Do_err hl _ p rfl op file rec x 3 (by decide) fun W hb => (ifs_do_none (up W hb) op file rec x hg h1).mono fun _ _ ⟨v, h1, h2, h3⟩ => ⟨v, h1, toErr h2, h3⟩).mono fun _ _ h => fin h
    | some f =>
      dsimp only
      by_cases hm : may f op rec = 0
      · have hr := (may_good hm).2.2.1
        rw [if_neg (by simp), if_pos hm]
        dsimp only
        rw [if_neg (by simp)]
        obtain ⟨i, rfl⟩ : ∃ i : Nat, rec = i := ⟨rec.toNat, by omega⟩
        simp only [Int.toNat_natCast]
        exact ifs_Do_ok h op file i x _ fun W hb => ifs_do_ok hnx (up W hb) op file i x hx hg h1 hm
      · rw [if_neg (by simp), if_neg hm]
        dsimp only
        by_cases h5 : may f op rec = 5
        · rw [if_pos h5, h5]
          refine (ifs_Do_denied hl h op file rec x fun W hb => (ifs_do_may (up W hb) op file rec x hg h1 hm).mono fun _ _ ⟨v, h1, h2, h3⟩ => ⟨v, h1, h5 ▸ toErr h2, h3⟩).mono ?_
          rintro e' w' ⟨h1, h2, h3⟩
          exact ⟨h1, F, h2, Grow.refl _ _, h3⟩
        · rw [if_neg h5]
          exact (ifs_Do_err hl _ p rfl op file rec x _ h5 fun W hb => (ifs_do_may (up W hb) op file rec x hg h1 hm).mono fun _ _ ⟨v, h1, h2, h3⟩ => ⟨v, h1, toErr h2, h3⟩).mono fun _ _ h => fin h
end Go.Proofs.YtmoebgkfmkdkpaaDoor
