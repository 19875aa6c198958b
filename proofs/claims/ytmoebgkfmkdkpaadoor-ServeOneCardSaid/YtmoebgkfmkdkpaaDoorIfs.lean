/- ifs: New, Denied, Get; addr.Good. -/
import Derived.Test.YtmoebgkfmkdkpaaDoorStore
namespace Go.Proofs.YtmoebgkfmkdkpaaDoor
open Go.RowKit Go.Proofs
set_option linter.unusedSimpArgs false
set_option linter.unusedVariables false

theorem addr_Good (op file rec : Int) (w : World) : Calls Tryd.prog 34 #[.agg #[.int .i64 op, .int .i64 file, .int .i64 rec]] w fun e w' => e = .returned (.bool (addrGood op file rec)) ∧ Below w.heap.size w w' := by
  go_enter Tryd.func34, Tryd.ntmps34
  go_wp2
  all_goals go_returns
  all_goals refine ⟨?_, ?_⟩
  all_goals (try (focus (repeat' (first | (with_reducible exact Below.refl _ _) | (with_reducible refine below_ext ?_ ?_ _) | (with_reducible refine below_al ?_ ?_ _) | (with_reducible refine Below.drew ?_) | (with_reducible refine Below.setCell ?_ ?_ _) | (with_reducible assumption) | (first | (with_reducible exact Nat.le_refl _) | omega | (simp only [World.size_alloc, World.size_setCell, World.size_drew] at *; omega) | (simp at *; omega) | (simp; done)))); done))
  all_goals simp_all [addrGood]
  all_goals (first | omega | (simp; omega))

theorem ifs_New (w : World) : Calls Tryd.prog 21 #[] w fun e w' => ∃ p, e = .returned (.pointer (some ⟨p, 0, none⟩)) ∧ StoreAt w' (fun b => w.heap.size ≤ b ∧ b < w'.heap.size) p .empty ∧ Below w.heap.size w w' := by
  go_enter Tryd.func21, Tryd.ntmps21
  go_wp2
  go_returns
  refine ⟨_, rfl, ⟨w.heap.size, fun _ => 0, ?_⟩, by (repeat' (first | (with_reducible exact Below.refl _ _) | (with_reducible refine below_ext ?_ ?_ _) | (with_reducible refine below_al ?_ ?_ _) | (with_reducible refine Below.drew ?_) | (with_reducible refine Below.setCell ?_ ?_ _) | (with_reducible assumption) | (first | (with_reducible exact Nat.le_refl _) | omega | (simp only [World.size_alloc, World.size_setCell, World.size_drew] at *; omega) | (simp at *; omega) | (simp; done))))⟩
  constructor
  · simp [go_sem, St.empty]
  · simp [go_sem, St.empty]
  · intro o; simp [go_sem]
  · simp [go_sem]; exact intMap_empty
  · simp [go_sem]; exact keysApart_empty
  · intro n; simp [go_sem]; rfl
  · intro n f hf; cases hf
  · intro n n' f f' hf; cases hf
  · exact ⟨by simp, by simp⟩
  · exact ⟨by simp, by simp; omega⟩
  · intro b hb; exact hb.2
  · exact St.empty_ok

theorem ifs_Denied (p : Nat) (d : Int) (w : World) (hc : w.cell? ⟨p, 1, none⟩ = some (.int .i64 d)) : Calls Tryd.prog 11 #[.pointer (some ⟨p, 0, none⟩)] w fun e w' => e = .returned (.int .i64 d) ∧ w = w' := by
  go_enter Tryd.func11, Tryd.ntmps11
  go_wp2
  go_ret
  exact ⟨rfl, rfl⟩
theorem ifs_Denied_nil (w : World) : Calls Tryd.prog 11 #[.pointer none] w fun e w' => e = .returned (.int .i64 0) ∧ w = w' := by
  go_enter Tryd.func11, Tryd.ntmps11
  go_wp2
  go_ret
  exact ⟨rfl, rfl⟩
theorem ifs_Get_nil (n i : Int) (w : World) : Calls Tryd.prog 6 #[.pointer none, .int .i64 n, .int .i64 i] w fun e w' => e = .returned (.tuple #[recV .zero, .bool false]) ∧ Below w.heap.size w w' := by
  go_enter Tryd.func6, Tryd.ntmps6
  go_wp2
  go_returns
  exact ⟨rfl, by (repeat' (first | (with_reducible exact Below.refl _ _) | (with_reducible refine below_ext ?_ ?_ _) | (with_reducible refine below_al ?_ ?_ _) | (with_reducible refine Below.drew ?_) | (with_reducible refine Below.setCell ?_ ?_ _) | (with_reducible assumption) | (first | (with_reducible exact Nat.le_refl _) | omega | (simp only [World.size_alloc, World.size_setCell, World.size_drew] at *; omega) | (simp at *; omega) | (simp; done))))⟩

/-- The bounds of a record's number. -/
theorem recAt_some {s : St} {n i : Int} {r : Rec} (h : s.recAt n i = some r) : ∃ f, s.get n = some f ∧ 0 ≤ i ∧ i < f.recs.length ∧ f.recs[i.toNat]? = some r := by
  unfold St.recAt at h
  split at h
  · cases h
  · rename_i f hf
    split at h
    · have := (List.getElem?_eq_some_iff.1 h).1
      exact ⟨f, hf, by omega, by omega, h⟩
    · cases h
theorem recAt_none {s : St} {n i : Int} {f : File} (h : s.recAt n i = none) (hf : s.get n = some f) : i < 0 ∨ (f.recs.length : Int) ≤ i := by
  unfold St.recAt at h
  rw [hf] at h
  dsimp only at h
  split at h
  · have := List.getElem?_eq_none_iff.1 h
    omega
  · omega

set_option maxHeartbeats 1000000 in
theorem ifs_Get {w : World} {F : Nat → Prop} {p : Nat} {s : St} (h : StoreAt w F p s) (n i : Int) :
    Calls Tryd.prog 6 #[.pointer (some ⟨p, 0, none⟩), .int .i64 n, .int .i64 i] w fun e w' => e = .returned (.tuple #[recV ((s.recAt n i).getD .zero), .bool (s.recAt n i).isSome]) ∧ Below w.heap.size w w' := by
  obtain ⟨m, G, h⟩ := h
  have hpl := h.lt p h.fp
  have hml := h.lt m h.fm
  have c0 := h.c0
  have him := h.im
  have hlk := h.lk n
  cases hr : s.recAt n i with
  | some r =>
    obtain ⟨f, hf, h0, h1, h2⟩ := recAt_some hr
    rw [hf] at hlk
    have hg := (h.row n f hf).1.cell h2
    have hgl := (h.row n f hf).1.block
    have hlen := (good_head (h.ok.get hf).2.1).2.1
    have e1 : ((i.toNat : Nat) : Int) = i := by omega
    have hd1 : decide (i < 0) = false := by simp; omega
    have hd2 : decide ((f.recs.length : Int) ≤ i) = false := by simp; omega
    have hlt : i.toNat < f.recs.length := by omega
    obtain ⟨g0, g1, g2, g3⟩ := hg
    obtain ⟨k, rfl⟩ : ∃ k : Nat, i = k := ⟨i.toNat, by omega⟩
    simp only [Int.toNat_natCast] at g0 g1 g2 g3 hlt
    have HH := Lib.hid h
    clear h hr hf h2 e1
    go_enter Tryd.func6, Tryd.ntmps6
    go_wp2
    go_returns
    exact ⟨rfl, by (repeat' (first | (with_reducible exact Below.refl _ _) | (with_reducible refine below_ext ?_ ?_ _) | (with_reducible refine below_al ?_ ?_ _) | (with_reducible refine Below.drew ?_) | (with_reducible refine Below.setCell ?_ ?_ _) | (with_reducible assumption) | (first | (with_reducible exact Nat.le_refl _) | omega | (simp only [World.size_alloc, World.size_setCell, World.size_drew] at *; omega) | (simp at *; omega) | (simp; done))))⟩
  | none =>
    cases hf : s.get n with
    | none =>
      rw [hf] at hlk
      have HH := Lib.hid h
      clear h hr hf
      rcases (show i < 0 ∨ 0 ≤ i by omega) with hi | hi
      · have hd : decide (i < 0) = true := by simpa using hi
        have hi' := Lib.hid hi
        clear hi
        go_enter Tryd.func6, Tryd.ntmps6
        go_wp2
        go_returns
        exact ⟨rfl, by (repeat' (first | (with_reducible exact Below.refl _ _) | (with_reducible refine below_ext ?_ ?_ _) | (with_reducible refine below_al ?_ ?_ _) | (with_reducible refine Below.drew ?_) | (with_reducible refine Below.setCell ?_ ?_ _) | (with_reducible assumption) | (first | (with_reducible exact Nat.le_refl _) | omega | (simp only [World.size_alloc, World.size_setCell, World.size_drew] at *; omega) | (simp at *; omega) | (simp; done))))⟩
      · have hd : decide (i < 0) = false := by simp; omega
        have hd2 : decide (0 ≤ i) = true := by simpa using hi
        have hi' := Lib.hid hi
        clear hi
        go_enter Tryd.func6, Tryd.ntmps6
        go_wp2
        go_returns
        exact ⟨rfl, by (repeat' (first | (with_reducible exact Below.refl _ _) | (with_reducible refine below_ext ?_ ?_ _) | (with_reducible refine below_al ?_ ?_ _) | (with_reducible refine Below.drew ?_) | (with_reducible refine Below.setCell ?_ ?_ _) | (with_reducible assumption) | (first | (with_reducible exact Nat.le_refl _) | omega | (simp only [World.size_alloc, World.size_setCell, World.size_drew] at *; omega) | (simp at *; omega) | (simp; done))))⟩
    | some f =>
      rw [hf] at hlk
      have hb := recAt_none hr hf
      have hlen := (good_head (h.ok.get hf).2.1).2.1
      have HH := Lib.hid h
      clear h hr hf
      rcases (show i < 0 ∨ 0 ≤ i by omega) with hi | hi
      · have hd : decide (i < 0) = true := by simpa using hi
        have hi' := Lib.hid hi
        clear hi
        go_enter Tryd.func6, Tryd.ntmps6
        go_wp2
        go_returns
        exact ⟨rfl, by (repeat' (first | (with_reducible exact Below.refl _ _) | (with_reducible refine below_ext ?_ ?_ _) | (with_reducible refine below_al ?_ ?_ _) | (with_reducible refine Below.drew ?_) | (with_reducible refine Below.setCell ?_ ?_ _) | (with_reducible assumption) | (first | (with_reducible exact Nat.le_refl _) | omega | (simp only [World.size_alloc, World.size_setCell, World.size_drew] at *; omega) | (simp at *; omega) | (simp; done))))⟩
      · have hd : decide (i < 0) = false := by simp; omega
        have hd2 : decide ((f.recs.length : Int) ≤ i) = true := by simp; omega
        have hi' := Lib.hid hi
        clear hi
        go_enter Tryd.func6, Tryd.ntmps6
        go_wp2
        go_returns
        exact ⟨rfl, by (repeat' (first | (with_reducible exact Below.refl _ _) | (with_reducible refine below_ext ?_ ?_ _) | (with_reducible refine below_al ?_ ?_ _) | (with_reducible refine Below.drew ?_) | (with_reducible refine Below.setCell ?_ ?_ _) | (with_reducible assumption) | (first | (with_reducible exact Nat.le_refl _) | omega | (simp only [World.size_alloc, World.size_setCell, World.size_drew] at *; omega) | (simp at *; omega) | (simp; done))))⟩
end Go.Proofs.YtmoebgkfmkdkpaaDoor
