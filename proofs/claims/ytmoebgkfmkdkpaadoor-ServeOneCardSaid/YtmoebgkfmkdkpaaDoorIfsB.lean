/- ifs: Add. -/
import Derived.Test.YtmoebgkfmkdkpaaDoorIfs
namespace Go.Proofs.YtmoebgkfmkdkpaaDoor
open Go.RowKit Go.Proofs
set_option linter.unusedSimpArgs false
set_option linter.unusedVariables false

set_option maxHeartbeats 1000000 in
theorem ifs_Add_nil (n : Int) (fv : Value) (f : File) (v : Value) (hv : fv = .agg #[.int .i64 f.perm, v]) (w : World) : Calls Tryd.prog 8 #[.pointer none, .int .i64 n, fv] w fun e w' => e = .returned (.int .i64 1) ∧ Below w.heap.size w w' := by
  subst hv
  go_enter Tryd.func8, Tryd.ntmps8
  go_wp2
  go_returns
  exact ⟨rfl, by (repeat' (first | (with_reducible exact Below.refl _ _) | (with_reducible refine below_ext ?_ ?_ _) | (with_reducible refine below_al ?_ ?_ _) | (with_reducible refine Below.drew ?_) | (with_reducible refine Below.setCell ?_ ?_ _) | (with_reducible assumption) | (first | (with_reducible exact Nat.le_refl _) | omega | (simp only [World.size_alloc, World.size_setCell, World.size_drew] at *; omega) | (simp at *; omega) | (simp; done))))⟩

set_option maxHeartbeats 1000000 in
theorem ifs_Add_no {w : World} {F : Nat → Prop} {p : Nat} {s : St} (h : StoreAt w F p s) (n : Int) (f : File) (v : Value) (hv : SlO recK w v f.recs) (he : (s.add n f).2 ≠ 0) :
    Calls Tryd.prog 8 #[.pointer (some ⟨p, 0, none⟩), .int .i64 n, .agg #[.int .i64 f.perm, v]] w fun e w' => e = .returned (.int .i64 (s.add n f).2) ∧ Below w.heap.size w w' := by
  obtain ⟨m, G, h⟩ := h
  have hpl := h.lt p h.fp
  have hml := h.lt m h.fm
  have c0 := h.c0
  have him := h.im
  have hlk := h.lk n
  have H := Lib.hid (fun (W : World) (hb : Below w.heap.size w W) => file_Good f v W (hv.up hb))
  obtain ⟨a, c, rfl, hc, hn, hm, hb0⟩ := hv.open'
  have hs : mapLook (objAt w m) n = none → s.get n = none := by
    intro e; rw [e] at hlk
    cases hg : s.get n with
    | none => rfl
    | some f => rw [hg] at hlk; cases hlk
  clear hv h hb0
  unfold St.add at he ⊢
  split at he
  · rename_i h1
    rw [if_pos h1]
    rcases (show n < 0 ∨ 64 ≤ n by omega) with hi | hi
    · have hd : decide (n < 0) = true := by simpa using hi
      clear hi h1 he
      go_enter Tryd.func8, Tryd.ntmps8
      go_wp2
      go_returns
      exact ⟨rfl, by (repeat' (first | (with_reducible exact Below.refl _ _) | (with_reducible refine below_ext ?_ ?_ _) | (with_reducible refine below_al ?_ ?_ _) | (with_reducible refine Below.drew ?_) | (with_reducible refine Below.setCell ?_ ?_ _) | (with_reducible assumption) | (first | (with_reducible exact Nat.le_refl _) | omega | (simp only [World.size_alloc, World.size_setCell, World.size_drew] at *; omega) | (simp at *; omega) | (simp; done))))⟩
    · have hd : decide (n < 0) = false := by simp; omega
      have hd2 : decide (64 ≤ n) = true := by simpa using hi
      clear hi h1 he
      go_enter Tryd.func8, Tryd.ntmps8
      go_wp2
      go_returns
      exact ⟨rfl, by (repeat' (first | (with_reducible exact Below.refl _ _) | (with_reducible refine below_ext ?_ ?_ _) | (with_reducible refine below_al ?_ ?_ _) | (with_reducible refine Below.drew ?_) | (with_reducible refine Below.setCell ?_ ?_ _) | (with_reducible assumption) | (first | (with_reducible exact Nat.le_refl _) | omega | (simp only [World.size_alloc, World.size_setCell, World.size_drew] at *; omega) | (simp at *; omega) | (simp; done))))⟩
  · rename_i h1
    rw [if_neg h1]
    have hd : decide (n < 0) = false := by simp; omega
    have hd2 : decide (64 ≤ n) = false := by simp; omega
    clear h1
    split at he
    · rename_i h2
      rw [if_pos h2]
      clear he
      go_enter Tryd.func8, Tryd.ntmps8
      go_wp2_with (go_at_call 23; refine (H.out _ (by (repeat' (first | (with_reducible exact Below.refl _ _) | (with_reducible refine below_ext ?_ ?_ _) | (with_reducible refine below_al ?_ ?_ _) | (with_reducible refine Below.drew ?_) | (with_reducible refine Below.setCell ?_ ?_ _) | (with_reducible assumption) | (first | (with_reducible exact Nat.le_refl _) | omega | (simp only [World.size_alloc, World.size_setCell, World.size_drew] at *; omega) | (simp at *; omega) | (simp; done)))))).mono ?_; rintro e w' ⟨rfl, hb⟩; obtain ⟨x, rfl, hx⟩ := ext_intro hb; clear hb)
      go_returns
      exact ⟨rfl, by (repeat' (first | (with_reducible exact Below.refl _ _) | (with_reducible refine below_ext ?_ ?_ _) | (with_reducible refine below_al ?_ ?_ _) | (with_reducible refine Below.drew ?_) | (with_reducible refine Below.setCell ?_ ?_ _) | (with_reducible assumption) | (first | (with_reducible exact Nat.le_refl _) | omega | (simp only [World.size_alloc, World.size_setCell, World.size_drew] at *; omega) | (simp at *; omega) | (simp; done))))⟩
    · rename_i h2
      rw [if_neg h2]
      split at he
      · rename_i h3
        rw [if_pos h3]
        obtain ⟨f', hf'⟩ := Option.isSome_iff_exists.1 h3
        rw [hf'] at hlk
        have h2' : f.good = true := by simpa using h2
        clear he h3 h2 hs
        go_enter Tryd.func8, Tryd.ntmps8
        go_wp2_with (go_at_call 23; refine (H.out _ (by (repeat' (first | (with_reducible exact Below.refl _ _) | (with_reducible refine below_ext ?_ ?_ _) | (with_reducible refine below_al ?_ ?_ _) | (with_reducible refine Below.drew ?_) | (with_reducible refine Below.setCell ?_ ?_ _) | (with_reducible assumption) | (first | (with_reducible exact Nat.le_refl _) | omega | (simp only [World.size_alloc, World.size_setCell, World.size_drew] at *; omega) | (simp at *; omega) | (simp; done)))))).mono ?_; rintro e w' ⟨rfl, hb⟩; obtain ⟨x, rfl, hx⟩ := ext_intro hb; clear hb)
        go_returns
        exact ⟨rfl, by (repeat' (first | (with_reducible exact Below.refl _ _) | (with_reducible refine below_ext ?_ ?_ _) | (with_reducible refine below_al ?_ ?_ _) | (with_reducible refine Below.drew ?_) | (with_reducible refine Below.setCell ?_ ?_ _) | (with_reducible assumption) | (first | (with_reducible exact Nat.le_refl _) | omega | (simp only [World.size_alloc, World.size_setCell, World.size_drew] at *; omega) | (simp at *; omega) | (simp; done))))⟩
      · exact absurd rfl he

theorem StoreAt.setCell {w : World} {F : Nat → Prop} {p : Nat} {s : St} (h : StoreAt w F p s) {b o : Nat} {v : Value} (hb : ¬ F b) : StoreAt (w.setCell ⟨b, o, none⟩ v) F p s :=
  h.keep fun k hk => Below.heap_setCell _ _ _ _ (by intro e; subst e; exact hb hk)
theorem StoreAt.ext {w : World} {F : Nat → Prop} {p : Nat} {s : St} (h : StoreAt w F p s) (x : GrownT w) : StoreAt (grownTo w x) F p s := h.up x.below
theorem StoreAt.al {w : World} {F : Nat → Prop} {p : Nat} {s : St} (h : StoreAt w F p s) (o : Obj) : StoreAt (w.alloc o) F p s := h.up ((Below.refl _ _).alloc (Nat.le_refl _) o)
theorem StoreAt.drew {w : World} {F : Nat → Prop} {p : Nat} {s : St} (h : StoreAt w F p s) : StoreAt w.drew F p s := h.keep fun _ _ => rfl
theorem StoreAt.lt {w : World} {F : Nat → Prop} {p : Nat} {s : St} (h : StoreAt w F p s) {b : Nat} (hb : F b) : b < w.heap.size := by
  obtain ⟨m, G, h⟩ := h
  exact h.lt b hb
/-- A store into the map, and then what is no part of the store. -/
theorem put_then {w W W' : World} {F : Nat → Prop} {p m : Nat} {G : Int → Nat} {s : St} (h : StoreIn w F p m G s) {n : Int} {f : File} {g : Nat} (hT : ∀ F', (∀ b, F' b → F b ∨ b = g) → StoreAt (putMap W m n (fileV f g)) F' p (s.put n f) → StoreAt W' F' p (s.put n f))
    (hb : Below w.heap.size w W) (hR : RecRow W g f.recs) (hg : w.heap.size ≤ g) (hok : (s.put n f).Ok) (hB : But F w W') :
    ∃ F', StoreAt W' F' p (s.put n f) ∧ Grow F w F' ∧ But F w W' := by
  have hml := h.lt m h.fm
  have hom : objAt W m = objAt w m := hb.block m hml
  refine ⟨fun b => F b ∨ b = g, hT _ (fun _ h => h) ⟨m, _, h.put (g := g) ?_ ?_ (hR.keep ?_) ?_ (fun _ => Iff.rfl) hok ?_⟩, ?_, hB⟩
  · rw [objAt_putMap, if_pos rfl, hom]
    obtain ⟨es, clock, e, _⟩ := h.im
    rw [e]; rfl
  · intro b hF hne
    have := objAt_putMap W m n (fileV f g) b
    rw [if_neg (fun e => hne e.symm)] at this
    exact this.trans (hb.block b (h.lt b hF))
  · have := objAt_putMap W m n (fileV f g) g
    rw [if_neg (by intro e; omega)] at this
    exact this
  · intro hF; have := h.lt g hF; omega
  · rw [size_putMap]; exact hb.size
  · intro b hF
    rcases hF with hF | rfl
    · exact .inl hF
    · exact .inr hg

set_option maxHeartbeats 4000000 in
theorem ifs_Add_put {w : World} {F : Nat → Prop} {p : Nat} {s : St} (h : StoreAt w F p s) (n : Int) (f : File) (v : Value) (hv : SlO recK w v f.recs) (hw : f.wf) (h1 : ¬ (n < 0 ∨ 64 ≤ n)) (h2 : f.good = true) (h3 : s.get n = none) :
    Calls Tryd.prog 8 #[.pointer (some ⟨p, 0, none⟩), .int .i64 n, .agg #[.int .i64 f.perm, v]] w fun e w' => e = .returned (.int .i64 0) ∧ ∃ F', StoreAt w' F' p (s.put n f) ∧ Grow F w F' ∧ But F w w' := by
  obtain ⟨m, G, h⟩ := h
  have hpl := h.lt p h.fp
  have hml := h.lt m h.fm
  have hfm := h.fm
  have hmp := h.pm
  have hmp' : m ≠ p := fun e => hmp e.symm
  have c0 := h.c0
  have him := h.im
  have hka := h.ka
  have hlk := h.lk n
  rw [h3] at hlk
  have H := Lib.hid (fun (W : World) (hb : Below w.heap.size w W) => file_Good f v W (hv.up hb))
  have HO := Lib.hid (fun (W : World) (hb : Below w.heap.size w W) => ifs_own f.perm v f.recs W (hv.up hb))
  obtain ⟨a, c, rfl, hc, hn, hm, hb0⟩ := hv.open'
  have hd : decide (n < 0) = false := by simp; omega
  have hd2 : decide (64 ≤ n) = false := by simp; omega
  have hlen := (good_head h2).2.1
  have hok := Lib.hid (h.ok.put (n := n) (f := f) (by omega) h2 hw)
  have HS := Lib.hid h
  clear hv h hb0 h1 h3 hw
  go_enter Tryd.func8, Tryd.ntmps8
  go_wp2_with (go_at_call 23; refine (H.out _ (by (repeat' (first | (with_reducible exact Below.refl _ _) | (with_reducible refine below_ext ?_ ?_ _) | (with_reducible refine below_al ?_ ?_ _) | (with_reducible refine Below.drew ?_) | (with_reducible refine Below.setCell ?_ ?_ _) | (with_reducible assumption) | (first | (with_reducible exact Nat.le_refl _) | omega | (simp only [World.size_alloc, World.size_setCell, World.size_drew] at *; omega) | (simp at *; omega) | (simp; done)))))).mono ?_; rintro e w' ⟨rfl, hb⟩; obtain ⟨x, rfl, hx⟩ := ext_intro hb; clear hb)
  go_region_with (go_at_call 24; refine (HO.out _ (by (repeat' (first | (with_reducible exact Below.refl _ _) | (with_reducible refine below_ext ?_ ?_ _) | (with_reducible refine below_al ?_ ?_ _) | (with_reducible refine Below.drew ?_) | (with_reducible refine Below.setCell ?_ ?_ _) | (with_reducible assumption) | (first | (with_reducible exact Nat.le_refl _) | omega | (simp only [World.size_alloc, World.size_setCell, World.size_drew] at *; omega) | (simp at *; omega) | (simp; done)))))).mono ?_; rintro e W2 ⟨v', rfl, hown, hb⟩; obtain ⟨y, rfl, hy⟩ := ext_intro hb; clear hb; replace hown := Lib.hid hown)
  all_goals
    go_wp2
    go_returns
    refine ⟨rfl, ?_⟩
    rcases hown.out with ⟨hz, _⟩ | ⟨g, rfl, hg, hR, _⟩
    · rw [hz] at hlen; simp at hlen
    · exact put_then HS.out (fun _ _ h => h) (by (repeat' (first | (with_reducible exact Below.refl _ _) | (with_reducible refine below_ext ?_ ?_ _) | (with_reducible refine below_al ?_ ?_ _) | (with_reducible refine Below.drew ?_) | (with_reducible refine Below.setCell ?_ ?_ _) | (with_reducible assumption) | (first | (with_reducible exact Nat.le_refl _) | omega | (simp only [World.size_alloc, World.size_setCell, World.size_drew] at *; omega) | (simp at *; omega) | (simp; done))))) hR (by (first | (with_reducible exact Nat.le_refl _) | omega | (simp only [World.size_alloc, World.size_setCell, World.size_drew] at *; omega) | (simp at *; omega) | (simp; done))) hok.out (by (repeat' (first | (with_reducible exact But.refl _ _) | (with_reducible refine But.ext ?_ _) | (with_reducible refine But.al ?_ _) | (with_reducible refine But.drew ?_) | (with_reducible refine But.setCell ?_ (by first | (left; assumption) | (right; (first | (with_reducible exact Nat.le_refl _) | omega | (simp only [World.size_alloc, World.size_setCell, World.size_drew] at *; omega) | (simp at *; omega) | (simp; done)))) _) | (with_reducible refine But.putMap ?_ (by first | (left; assumption) | (right; (first | (with_reducible exact Nat.le_refl _) | omega | (simp only [World.size_alloc, World.size_setCell, World.size_drew] at *; omega) | (simp at *; omega) | (simp; done)))) _ _) | (with_reducible assumption))))
end Go.Proofs.YtmoebgkfmkdkpaaDoor
