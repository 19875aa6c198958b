/- ifs: Set. -/
import Derived.Test.YtmoebgkfmkdkpaaDoorIfsD
namespace Go.Proofs.YtmoebgkfmkdkpaaDoor
open Go.RowKit Go.Proofs
set_option linter.unusedSimpArgs false
set_option linter.unusedVariables false

@[go_sem] theorem field_recs (a b : Value) (w : World) : (Instr.field 28 (.agg #[a, b]) 1).run Tryd.prog w = .ok b w := by kernel_rfl
@[go_sem] theorem field_perm (a b : Value) (w : World) : (Instr.field 28 (.agg #[a, b]) 0).run Tryd.prog w = .ok a w := by kernel_rfl
theorem StoreIn.inPlace {w w' : World} {F : Nat → Prop} {p m : Nat} {G : Int → Nat} {s : St} (h : StoreIn w F p m G s) {n : Int} {f : File} {xs : List Rec} (hf : s.get n = some f)
    (hk : ∀ b, F b → b ≠ G n → w'.heap[b]? = w.heap[b]?) (hr : RecRow w' (G n) xs) (hl : xs.length = f.recs.length) (hok : (s.put n ⟨f.perm, xs⟩).Ok) (hs : w.heap.size ≤ w'.heap.size) : StoreIn w' F p m G (s.put n ⟨f.perm, xs⟩) where
  c0 := (World.cell?_of_block (w := w) (a := ⟨p, 0, none⟩) (hk p h.fp (fun e => h.gp hf e.symm))).trans h.c0
  c1 := (World.cell?_of_block (w := w) (a := ⟨p, 1, none⟩) (hk p h.fp (fun e => h.gp hf e.symm))).trans h.c1
  fr := fun o => (World.frozen?_of_block (w := w) (a := ⟨p, o, none⟩) (hk p h.fp (fun e => h.gp hf e.symm))).trans (h.fr o)
  im := by rw [show objAt w' m = objAt w m from hk m h.fm (fun e => h.gm hf e.symm)]; exact h.im
  ka := by rw [show objAt w' m = objAt w m from hk m h.fm (fun e => h.gm hf e.symm)]; exact h.ka
  lk := fun k => by
    rw [show objAt w' m = objAt w m from hk m h.fm (fun e => h.gm hf e.symm), St.get_put, h.lk k]
    split
    · rename_i e; subst e
      rw [hf]; simp [fileV, hl]
    · rfl
  row := fun k f' hf' => by
    rw [St.get_put] at hf'
    split at hf'
    · rename_i e; subst e; cases hf'
      exact ⟨hr, (h.row _ f hf).2⟩
    · rename_i e
      exact ⟨(h.row k f' hf').1.keep (hk _ (h.row k f' hf').2 (fun e' => e (h.inj _ _ _ _ hf' hf e'))), (h.row k f' hf').2⟩
  inj := fun k k' f1 f2 h1 h2 e => by
    have g1 : ∀ {k f'}, (s.put n ⟨f.perm, xs⟩).get k = some f' → ∃ f'', s.get k = some f'' := by
      intro k f' hk
      rw [St.get_put] at hk
      split at hk
      · rename_i e; subst e; exact ⟨_, hf⟩
      · exact ⟨_, hk⟩
    obtain ⟨_, g2⟩ := g1 h1
    obtain ⟨_, g3⟩ := g1 h2
    exact h.inj k k' _ _ g2 g3 e
  fp := h.fp
  fm := h.fm
  lt := fun b hb => Nat.lt_of_lt_of_le (h.lt b hb) hs
  ok := hok

set_option maxHeartbeats 1000000 in
theorem ifs_Set_nil (n i : Int) (x : Rec) (w : World) : Calls Tryd.prog 10 #[.pointer none, .int .i64 n, .int .i64 i, recV x] w fun e w' => e = .returned (.bool false) ∧ Below w.heap.size w w' := by
  have H := Lib.hid (fun (W : World) => ifs_Get_nil n i W)
  go_enter Tryd.func10, Tryd.ntmps10
  go_wp2_with (go_at_call 6; refine (H.out _).mono ?_; rintro e w' ⟨rfl, hb⟩; obtain ⟨x, rfl, hx⟩ := ext_intro hb; clear hb)
  go_returns
  exact ⟨rfl, by (repeat' (first | (with_reducible exact Below.refl _ _) | (with_reducible refine below_ext ?_ ?_ _) | (with_reducible refine below_al ?_ ?_ _) | (with_reducible refine Below.drew ?_) | (with_reducible refine Below.setCell ?_ ?_ _) | (with_reducible assumption) | (first | (with_reducible exact Nat.le_refl _) | omega | (simp only [World.size_alloc, World.size_setCell, World.size_drew] at *; omega) | (simp at *; omega) | (simp; done))))⟩

set_option maxHeartbeats 1000000 in
theorem ifs_Set_no {w : World} {F : Nat → Prop} {p : Nat} {s : St} (h : StoreAt w F p s) (n i : Int) (x : Rec) (hb : (s.set n i x).2 = false) :
    Calls Tryd.prog 10 #[.pointer (some ⟨p, 0, none⟩), .int .i64 n, .int .i64 i, recV x] w fun e w' => e = .returned (.bool false) ∧ Below w.heap.size w w' := by
  have H := Lib.hid (fun (W : World) (hb : Below w.heap.size w W) => ifs_Get (h.up hb) n i)
  cases hr : s.recAt n i with
  | none =>
    rw [hr] at H
    clear h hb hr
    go_enter Tryd.func10, Tryd.ntmps10
    go_wp2_with (go_at_call 6; refine (H.out _ (by (repeat' (first | (with_reducible exact Below.refl _ _) | (with_reducible refine below_ext ?_ ?_ _) | (with_reducible refine below_al ?_ ?_ _) | (with_reducible refine Below.drew ?_) | (with_reducible refine Below.setCell ?_ ?_ _) | (with_reducible assumption) | (first | (with_reducible exact Nat.le_refl _) | omega | (simp only [World.size_alloc, World.size_setCell, World.size_drew] at *; omega) | (simp at *; omega) | (simp; done)))))).mono ?_; rintro e w' ⟨rfl, hb⟩; obtain ⟨x, rfl, hx⟩ := ext_intro hb; clear hb)
    go_returns
    exact ⟨rfl, by (repeat' (first | (with_reducible exact Below.refl _ _) | (with_reducible refine below_ext ?_ ?_ _) | (with_reducible refine below_al ?_ ?_ _) | (with_reducible refine Below.drew ?_) | (with_reducible refine Below.setCell ?_ ?_ _) | (with_reducible assumption) | (first | (with_reducible exact Nat.le_refl _) | omega | (simp only [World.size_alloc, World.size_setCell, World.size_drew] at *; omega) | (simp at *; omega) | (simp; done))))⟩
  | some r =>
    obtain ⟨f, hf, h0, h1, h2⟩ := recAt_some hr
    rw [hr] at H
    have hi : i = 0 := by
      unfold St.set at hb
      rw [hf] at hb
      dsimp only at hb
      split at hb
      · cases hb
      · omega
    subst hi
    clear h hb hr hf h0 h1 h2
    go_enter Tryd.func10, Tryd.ntmps10
    go_wp2_with (go_at_call 6; refine (H.out _ (by (repeat' (first | (with_reducible exact Below.refl _ _) | (with_reducible refine below_ext ?_ ?_ _) | (with_reducible refine below_al ?_ ?_ _) | (with_reducible refine Below.drew ?_) | (with_reducible refine Below.setCell ?_ ?_ _) | (with_reducible assumption) | (first | (with_reducible exact Nat.le_refl _) | omega | (simp only [World.size_alloc, World.size_setCell, World.size_drew] at *; omega) | (simp at *; omega) | (simp; done)))))).mono ?_; rintro e w' ⟨rfl, hb⟩; obtain ⟨x, rfl, hx⟩ := ext_intro hb; clear hb)
    go_returns
    exact ⟨rfl, by (repeat' (first | (with_reducible exact Below.refl _ _) | (with_reducible refine below_ext ?_ ?_ _) | (with_reducible refine below_al ?_ ?_ _) | (with_reducible refine Below.drew ?_) | (with_reducible refine Below.setCell ?_ ?_ _) | (with_reducible assumption) | (first | (with_reducible exact Nat.le_refl _) | omega | (simp only [World.size_alloc, World.size_setCell, World.size_drew] at *; omega) | (simp at *; omega) | (simp; done))))⟩

set_option maxHeartbeats 4000000 in
theorem ifs_Set_ok {w : World} {F : Nat → Prop} {p : Nat} {s : St} (h : StoreAt w F p s) (n : Int) (i : Nat) (xr : Rec) (hx : xr.wf) {f : File} (hf : s.get n = some f) (h0 : 0 < i) (h1 : i < f.recs.length) :
    Calls Tryd.prog 10 #[.pointer (some ⟨p, 0, none⟩), .int .i64 n, .int .i64 i, recV xr] w fun e w' => e = .returned (.bool true) ∧ StoreAt w' F p (s.put n ⟨f.perm, f.recs.set i xr⟩) ∧ But F w w' := by
  obtain ⟨r, hr⟩ : ∃ r, f.recs[i]? = some r := ⟨_, List.getElem?_eq_getElem h1⟩
  have hrec : s.recAt n i = some r := by unfold St.recAt; rw [hf]; dsimp only; rw [if_pos (by omega)]; exact hr
  have H := Lib.hid (fun (W : World) (hb : Below w.heap.size w W) => hrec ▸ ifs_Get (h.up hb) n i)
  obtain ⟨m, G, h⟩ := h
  have hpl := h.lt p h.fp
  have hml := h.lt m h.fm
  have c0 := h.c0
  have him := h.im
  have hlk : mapLook (objAt w m) n = some (.agg #[.int .i64 f.perm, .slice (some ⟨G n, 0, none⟩) f.recs.length f.recs.length]) := by rw [h.lk n, hf]; rfl
  have hR := (h.row n f hf).1
  have hfg := (h.row n f hf).2
  obtain ⟨r0, r1, r2, r3⟩ := hR.cell hr
  have hgl := hR.block
  have hfr := hR.frozen
  have hi : ((i : Int) == 0) = false := by simp; omega
  have hlen := (good_head (h.ok.get hf).2.1).2.1
  obtain ⟨o1, o2, o3⟩ := h.ok.get hf
  have hok := Lib.hid (h.ok.put (n := n) (f := ⟨f.perm, f.recs.set i xr⟩) o1 (good_set o2 i h0 xr) (fun r hr => by rcases List.mem_or_eq_of_mem_set hr with hr | rfl; exact o3 r hr; exact hx))
  have HS := Lib.hid h
  have HR := Lib.hid hR
  have Hf := Lib.hid hf
  clear h hR hr hrec hf o1 o2 o3 hx h0
  go_enter Tryd.func10, Tryd.ntmps10
  go_wp2_with (go_at_call 6; refine (H.out _ (by (repeat' (first | (with_reducible exact Below.refl _ _) | (with_reducible refine below_ext ?_ ?_ _) | (with_reducible refine below_al ?_ ?_ _) | (with_reducible refine Below.drew ?_) | (with_reducible refine Below.setCell ?_ ?_ _) | (with_reducible assumption) | (first | (with_reducible exact Nat.le_refl _) | omega | (simp only [World.size_alloc, World.size_setCell, World.size_drew] at *; omega) | (simp at *; omega) | (simp; done)))))).mono ?_; rintro e w' ⟨rfl, hb⟩; obtain ⟨x, rfl, hx⟩ := ext_intro hb; clear hb)
  go_region
  go_wp2
  go_returns
  refine ⟨rfl, ⟨m, G, HS.out.inPlace Hf.out ?_ (((HR.out.keep (w' := grownTo (w.alloc _) x) ?_).set h1 xr).keep ?_) (by simp) hok.out (by (first | (with_reducible exact Nat.le_refl _) | omega | (simp only [World.size_alloc, World.size_setCell, World.size_drew] at *; omega) | (simp at *; omega) | (simp; done)))⟩, by (repeat' (first | (with_reducible exact But.refl _ _) | (with_reducible refine But.ext ?_ _) | (with_reducible refine But.al ?_ _) | (with_reducible refine But.drew ?_) | (with_reducible refine But.setCell ?_ (by first | (left; assumption) | (right; (first | (with_reducible exact Nat.le_refl _) | omega | (simp only [World.size_alloc, World.size_setCell, World.size_drew] at *; omega) | (simp at *; omega) | (simp; done)))) _) | (with_reducible refine But.putMap ?_ (by first | (left; assumption) | (right; (first | (with_reducible exact Nat.le_refl _) | omega | (simp only [World.size_alloc, World.size_setCell, World.size_drew] at *; omega) | (simp at *; omega) | (simp; done)))) _ _) | (with_reducible assumption)))⟩
  · intro b hF hne
    have hb := HS.out.lt b hF
    have hne' : G n ≠ b := fun e => hne e.symm
    show objAt _ b = objAt _ b
    simp [go_sem, hb, hne']
  · show objAt _ _ = objAt _ _
    simp [go_sem, hgl]
  · show objAt _ _ = objAt _ _
    simp [go_sem, hgl, setRec]

/-- What a store of a record comes to. -/
theorem ifs_Set {w : World} {F : Nat → Prop} {p : Nat} {s : St} (h : StoreAt w F p s) (n i : Int) (x : Rec) (hx : x.wf) :
    Calls Tryd.prog 10 #[.pointer (some ⟨p, 0, none⟩), .int .i64 n, .int .i64 i, recV x] w fun e w' => e = .returned (.bool (s.set n i x).2) ∧ StoreAt w' F p (s.set n i x).1 ∧ But F w w' := by
  cases hb : (s.set n i x).2 with
  | false =>
    have e1 : (s.set n i x).1 = s := by
      unfold St.set at hb ⊢
      split at hb
      · rfl
      · split at hb
        · cases hb
        · rename_i hc; simp [hc]
    rw [e1]
    refine (ifs_Set_no h n i x hb).mono ?_
    rintro e w' ⟨h1, h2⟩
    exact ⟨h1, h.up h2, But.of_below h2⟩
  | true =>
    unfold St.set at hb ⊢
    split at hb
    · cases hb
    · rename_i f hf
      split at hb
      · rename_i hc
        simp only [if_pos hc]
        obtain ⟨k, rfl⟩ : ∃ k : Nat, i = k := ⟨i.toNat, by omega⟩
        simp only [Int.toNat_natCast]
        exact ifs_Set_ok h n k x hx hf (by omega) (by omega)
      · cases hb
end Go.Proofs.YtmoebgkfmkdkpaaDoor
