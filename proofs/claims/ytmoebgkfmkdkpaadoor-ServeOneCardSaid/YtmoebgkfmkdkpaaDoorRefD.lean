/- The document's answer, layer 10: Add. -/
import Derived.Test.YtmoebgkfmkdkpaaDoorRefC
namespace Go.Proofs.YtmoebgkfmkdkpaaDoor
open Go.RowKit Go.Proofs
set_option linter.unusedSimpArgs false
set_option linter.unusedVariables false

/-- Files ahead of a number. -/
def ahead (l : List (Int × File)) (n : Int) : Nat := (l.takeWhile fun x => decide (x.1 < n)).length
theorem ahead_le (l : List (Int × File)) (n : Int) : ahead l n ≤ l.length := by
  unfold ahead
  induction l with
  | nil => simp
  | cons x r ih =>
    simp only [List.takeWhile_cons]
    split <;> simp <;> omega
theorem ahead_lt {l : List (Int × File)} {n : Int} {k : Nat} (h : k < ahead l n) : ∃ x, l[k]? = some x ∧ x.1 < n := by
  induction l generalizing k with
  | nil => simp [ahead] at h
  | cons x r ih =>
    unfold ahead at h
    simp only [List.takeWhile_cons] at h
    split at h
    · rename_i hx
      cases k with
      | zero => exact ⟨x, rfl, by simpa using hx⟩
      | succ k =>
        simp at h
        exact ih (k := k) h
    · simp at h
theorem ahead_at {l : List (Int × File)} {n : Int} {x : Int × File} (h : l[ahead l n]? = some x) : ¬ x.1 < n := by
  induction l with
  | nil => simp at h
  | cons y r ih =>
    unfold ahead at h
    simp only [List.takeWhile_cons] at h
    split at h
    · simp only [List.length_cons, List.getElem?_cons_succ] at h
      exact ih h
    · rename_i hy
      simp at h
      subst h
      simpa using hy
theorem putF_ahead {l : List (Int × File)} (hr : Rising l) {n : Int} {f : File} (hn : lookF l n = none) : putF l n f = l.take (ahead l n) ++ (n, f) :: l.drop (ahead l n) := by
  induction l with
  | nil => simp [putF]
  | cons x r ih =>
    obtain ⟨k, g⟩ := x
    obtain ⟨h1, h2⟩ := List.pairwise_cons.1 hr
    simp only [lookF] at hn
    split at hn
    · cases hn
    · rename_i hk
      simp only [putF, if_neg hk]
      unfold ahead
      simp only [List.takeWhile_cons]
      by_cases hlt : k < n
      · rw [if_neg (by omega)]
        simp only [hlt, decide_true, if_true, List.length_cons, List.take_succ_cons, List.drop_succ_cons, List.cons_append]
        have := ih h2 hn
        unfold ahead at this
        rw [this]
      · rw [if_pos (by omega)]
        simp only [hlt, decide_false, Bool.false_eq_true, if_false, List.length_nil, List.take_zero, List.drop_zero, List.nil_append]

set_option maxHeartbeats 1000000 in
theorem ref10_Add_num {w : World} (pv : Value) (n perm : Int) (a : Option Addr) (l c : Nat) (h : n < 0 ∨ 64 ≤ n) :
    Calls Tryd.prog 47 #[pv, .int .i64 n, .agg #[.int .i64 perm, .slice a l c]] w fun e w' => e = .returned (.int .i64 1) ∧ Below w.heap.size w w' := by
  rcases h with h | h
  · have hd : decide (n < 0) = true := by simpa using h
    clear h
    go_enter Tryd.func47, Tryd.ntmps47
    go_wp2
    go_returns
    exact ⟨rfl, by (repeat' (first | (with_reducible exact Below.refl _ _) | (with_reducible refine below_ext ?_ ?_ _) | (with_reducible refine below_al ?_ ?_ _) | (with_reducible refine Below.drew ?_) | (with_reducible refine Below.setCell ?_ ?_ _) | (with_reducible assumption) | (first | (with_reducible exact Nat.le_refl _) | omega | (simp only [World.size_alloc, World.size_setCell, World.size_drew] at *; omega) | (simp at *; omega) | (simp; done))))⟩
  · have hd : decide (n < 0) = false := by simp; omega
    have hd2 : decide (63 < n) = true := by simp; omega
    clear h
    go_enter Tryd.func47, Tryd.ntmps47
    go_wp2
    go_returns
    exact ⟨rfl, by (repeat' (first | (with_reducible exact Below.refl _ _) | (with_reducible refine below_ext ?_ ?_ _) | (with_reducible refine below_al ?_ ?_ _) | (with_reducible refine Below.drew ?_) | (with_reducible refine Below.setCell ?_ ?_ _) | (with_reducible assumption) | (first | (with_reducible exact Nat.le_refl _) | omega | (simp only [World.size_alloc, World.size_setCell, World.size_drew] at *; omega) | (simp at *; omega) | (simp; done))))⟩
set_option maxHeartbeats 1000000 in
theorem ref10_Add_form {w : World} (pv : Value) (n : Int) (f : File) (v : Value) (hv : SlO recK w v f.recs) (h : ¬ (n < 0 ∨ 64 ≤ n)) (hg : f.good = false) :
    Calls Tryd.prog 47 #[pv, .int .i64 n, .agg #[.int .i64 f.perm, v]] w fun e w' => e = .returned (.int .i64 2) ∧ Below w.heap.size w w' := by
  have H := Lib.hid (fun (W : World) (hb : Below w.heap.size w W) => hg ▸ ref09_Good f v W (hv.up hb))
  obtain ⟨a, c, rfl, hc, hn, hm, hb0⟩ := hv.open'
  have hd : decide (n < 0) = false := by simp; omega
  have hd2 : decide (63 < n) = false := by simp; omega
  clear h hg hv hb0
  go_enter Tryd.func47, Tryd.ntmps47
  go_wp2_with (go_at_call 46; refine (H.out _ (by (repeat' (first | (with_reducible exact Below.refl _ _) | (with_reducible refine below_ext ?_ ?_ _) | (with_reducible refine below_al ?_ ?_ _) | (with_reducible refine Below.drew ?_) | (with_reducible refine Below.setCell ?_ ?_ _) | (with_reducible assumption) | (first | (with_reducible exact Nat.le_refl _) | omega | (simp only [World.size_alloc, World.size_setCell, World.size_drew] at *; omega) | (simp at *; omega) | (simp; done)))))).mono ?_; rintro e w' ⟨rfl, hb⟩; obtain ⟨x, rfl, hx⟩ := ext_intro hb; clear hb)
  go_returns
  exact ⟨rfl, by (repeat' (first | (with_reducible exact Below.refl _ _) | (with_reducible refine below_ext ?_ ?_ _) | (with_reducible refine below_al ?_ ?_ _) | (with_reducible refine Below.drew ?_) | (with_reducible refine Below.setCell ?_ ?_ _) | (with_reducible assumption) | (first | (with_reducible exact Nat.le_refl _) | omega | (simp only [World.size_alloc, World.size_setCell, World.size_drew] at *; omega) | (simp at *; omega) | (simp; done))))⟩
set_option maxHeartbeats 1000000 in
theorem ref10_Add_there {w : World} {F : Nat → Prop} {p : Nat} {s : St} (hr : RefAt w F p s) (n : Int) (f : File) (v : Value) (hv : SlO recK w v f.recs) (h : ¬ (n < 0 ∨ 64 ≤ n)) (hg : f.good = true) (hs : (s.get n).isSome) :
    Calls Tryd.prog 47 #[.pointer (some ⟨p, 0, none⟩), .int .i64 n, .agg #[.int .i64 f.perm, v]] w fun e w' => e = .returned (.int .i64 10) ∧ Below w.heap.size w w' := by
  have H := Lib.hid (fun (W : World) (hb : Below w.heap.size w W) => hg ▸ ref09_Good f v W (hv.up hb))
  have HA := Lib.hid (fun (W : World) (hb : Below w.heap.size w W) => ref10_at (hr.up hb) n)
  have hp : decide ((0 : Int) ≤ placeF s.files n) = true := by
    rcases atPlace s.files n with ⟨_, h2⟩ | ⟨i, g, h1, _, _⟩
    · unfold St.get at hs; rw [h2] at hs; cases hs
    · rw [h1]; simp
  obtain ⟨a, c, rfl, hc, hn, hm, hb0⟩ := hv.open'
  have hd : decide (n < 0) = false := by simp; omega
  have hd2 : decide (63 < n) = false := by simp; omega
  clear h hg hv hb0 hs hr
  go_enter Tryd.func47, Tryd.ntmps47
  go_wp2_with (first | (go_at_call 46; refine (H.out _ (by (repeat' (first | (with_reducible exact Below.refl _ _) | (with_reducible refine below_ext ?_ ?_ _) | (with_reducible refine below_al ?_ ?_ _) | (with_reducible refine Below.drew ?_) | (with_reducible refine Below.setCell ?_ ?_ _) | (with_reducible assumption) | (first | (with_reducible exact Nat.le_refl _) | omega | (simp only [World.size_alloc, World.size_setCell, World.size_drew] at *; omega) | (simp at *; omega) | (simp; done)))))).mono ?_; rintro e w' ⟨rfl, hb⟩; obtain ⟨x, rfl, hx⟩ := ext_intro hb; clear hb) | (go_at_call 60; refine (HA.out _ (by (repeat' (first | (with_reducible exact Below.refl _ _) | (with_reducible refine below_ext ?_ ?_ _) | (with_reducible refine below_al ?_ ?_ _) | (with_reducible refine Below.drew ?_) | (with_reducible refine Below.setCell ?_ ?_ _) | (with_reducible assumption) | (first | (with_reducible exact Nat.le_refl _) | omega | (simp only [World.size_alloc, World.size_setCell, World.size_drew] at *; omega) | (simp at *; omega) | (simp; done)))))).mono ?_; rintro e w' ⟨rfl, rfl⟩))
  go_returns
  exact ⟨rfl, by (repeat' (first | (with_reducible exact Below.refl _ _) | (with_reducible refine below_ext ?_ ?_ _) | (with_reducible refine below_al ?_ ?_ _) | (with_reducible refine Below.drew ?_) | (with_reducible refine Below.setCell ?_ ?_ _) | (with_reducible assumption) | (first | (with_reducible exact Nat.le_refl _) | omega | (simp only [World.size_alloc, World.size_setCell, World.size_drew] at *; omega) | (simp at *; omega) | (simp; done))))⟩
end Go.Proofs.YtmoebgkfmkdkpaaDoor
