/- ifs.number. -/
import Derived.Test.YtmoebgkfmkdkpaaDoorAs
namespace Go.Proofs.YtmoebgkfmkdkpaaDoor
open Go.RowKit Go.Proofs
set_option linter.unusedSimpArgs false
set_option linter.unusedVariables false

set_option maxHeartbeats 1000000 in
theorem number_nil (w : World) : Calls Tryd.prog 20 #[.nilIface] w fun e w' => e = .returned (.int .i64 0) ∧ Below w.heap.size w w' := by
  go_enter Tryd.func20, Tryd.ntmps20
  go_wp2_with (go_at_call 38; refine (as_nil _ _).mono ?_; rintro e w' ⟨rfl, rfl⟩)
  go_returns
  exact ⟨rfl, by (repeat' (first | (with_reducible exact Below.refl _ _) | (with_reducible refine below_ext ?_ ?_ _) | (with_reducible refine below_al ?_ ?_ _) | (with_reducible refine Below.drew ?_) | (with_reducible refine Below.setCell ?_ ?_ _) | (with_reducible assumption) | (first | (with_reducible exact Nat.le_refl _) | omega | (simp only [World.size_alloc, World.size_setCell, World.size_drew] at *; omega) | (simp at *; omega) | (simp; done))))⟩

set_option maxHeartbeats 1000000 in
theorem number_no (e : Int) (w : World) (hg : w.cell? ⟨0, 0, none⟩ = some errType) (hgl : 0 < w.heap.size) :
    Calls Tryd.prog 20 #[errV e] w fun ev w' => ev = .returned (.int .i64 e) ∧ Below w.heap.size w w' := by
  go_enter Tryd.func20, Tryd.ntmps20
  go_wp2_with (go_at_call 38; go_loud (refine (as_no e w.heap.size (.int .i64 0) _ (by simp [go_sem, hgl, hg]) (by (first | (with_reducible exact Nat.le_refl _) | omega | (simp only [World.size_alloc, World.size_setCell, World.size_drew] at *; omega) | (simp at *; omega) | (simp; done))) (by simp [go_sem]) (by (first | (with_reducible exact Nat.le_refl _) | omega | (simp only [World.size_alloc, World.size_setCell, World.size_drew] at *; omega) | (simp at *; omega) | (simp; done))) (by simp [go_sem])).mono ?_; rintro ev w' ⟨rfl, rfl⟩; simp only [asTo]))
  go_returns
  exact ⟨rfl, by (repeat' (first | (with_reducible exact Below.refl _ _) | (with_reducible refine below_ext ?_ ?_ _) | (with_reducible refine below_al ?_ ?_ _) | (with_reducible refine Below.drew ?_) | (with_reducible refine Below.setCell ?_ ?_ _) | (with_reducible assumption) | (first | (with_reducible exact Nat.le_refl _) | omega | (simp only [World.size_alloc, World.size_setCell, World.size_drew] at *; omega) | (simp at *; omega) | (simp; done))))⟩

set_option maxHeartbeats 1000000 in
theorem number_fault (b : Nat) (e : Int) (w : World) (hc : w.cell? ⟨b, 1, none⟩ = some (errV e)) (hbl : b < w.heap.size) (hg : w.cell? ⟨0, 0, none⟩ = some errType) (hgl : 0 < w.heap.size) :
    Calls Tryd.prog 20 #[.iface 86 (.pointer (some ⟨b, 0, none⟩))] w fun ev w' => ev = .returned (.int .i64 e) ∧ Below w.heap.size w w' := by
  go_enter Tryd.func20, Tryd.ntmps20
  go_wp2_with (go_at_call 38; go_loud (refine (as_fault b e w.heap.size (.int .i64 0) _ (by simp [go_sem, hbl, hc]) (by (first | (with_reducible exact Nat.le_refl _) | omega | (simp only [World.size_alloc, World.size_setCell, World.size_drew] at *; omega) | (simp at *; omega) | (simp; done))) (by simp [go_sem, hgl, hg]) (by (first | (with_reducible exact Nat.le_refl _) | omega | (simp only [World.size_alloc, World.size_setCell, World.size_drew] at *; omega) | (simp at *; omega) | (simp; done))) (by simp [go_sem]) (by (first | (with_reducible exact Nat.le_refl _) | omega | (simp only [World.size_alloc, World.size_setCell, World.size_drew] at *; omega) | (simp at *; omega) | (simp; done))) (by simp [go_sem])).mono ?_; rintro ev w' ⟨rfl, rfl⟩; simp only [asTo]))
  go_returns
  exact ⟨rfl, by (repeat' (first | (with_reducible exact Below.refl _ _) | (with_reducible refine below_ext ?_ ?_ _) | (with_reducible refine below_al ?_ ?_ _) | (with_reducible refine Below.drew ?_) | (with_reducible refine Below.setCell ?_ ?_ _) | (with_reducible assumption) | (first | (with_reducible exact Nat.le_refl _) | omega | (simp only [World.size_alloc, World.size_setCell, World.size_drew] at *; omega) | (simp at *; omega) | (simp; done))))⟩
end Go.Proofs.YtmoebgkfmkdkpaaDoor
