/- Closed facts of the program's tables, and the kinds of its types. -/
import Derived.Test.YtmoebgkfmkdkpaaDoorProg
import Derived.Test.YtmoebgkfmkdkpaaDoorKd
import Derived.Test.YtmoebgkfmkdkpaaDoorSpec
namespace Go.Proofs.YtmoebgkfmkdkpaaDoor
open Go.RowKit Go.Proofs

@[go_sem] theorem cells_u8 : Tryd.prog.cellsOf 5 = 1 := by kernel_rfl
@[go_sem] theorem cells_bool : Tryd.prog.cellsOf 4 = 1 := by kernel_rfl

theorem info_rec : (Tryd.prog.info? 25).map (fun i => (i.zero, i.size, i.bytes)) = some (some (.agg #[.int .u8 0, .int .u8 0, .int .u8 0, .int .u8 0]), 4, 4) := by kernel_rfl

def recC (r : Rec) : List Value := [.int .u8 r.a, .int .u8 r.b, .int .u8 r.c, .int .u8 r.d]
/-- The value of a record. -/
abbrev recV (r : Rec) : Value := .agg #[.int .u8 r.a, .int .u8 r.b, .int .u8 r.c, .int .u8 r.d]
def recK : Kd Rec := Kd.flat 4 4 (by decide) recC (fun _ => rfl)
theorem recK_sz : recK.sz = 4 := rfl
theorem recC_one {xs : List Rec} : ∀ u ∈ xs.flatMap recC, u.oneCell' = true := by
  intro u hu
  obtain ⟨r, _, hr⟩ := List.mem_flatMap.1 hu
  simp [recC] at hr
  rcases hr with rfl | rfl | rfl | rfl <;> rfl

/-- Block g holds the records xs, and nobody else's. -/
def RecRow (w : World) (g : Nat) (xs : List Rec) : Prop := ∃ cur, w.heap[g]? = some (.cells cur 25 (0, 0)) ∧ cur.toList.take (xs.length * 4) = xs.flatMap recC ∧ xs.length * 4 ≤ cur.size

theorem recC_len (xs : List Rec) : (xs.flatMap recC).length = xs.length * 4 := by
  induction xs with
  | nil => rfl
  | cons x xs ih => simp [recC] at ih ⊢; omega
theorem recC_get {xs : List Rec} {i : Nat} {r : Rec} (h : xs[i]? = some r) : ∀ j u, (recC r)[j]? = some u → (xs.flatMap recC)[i * 4 + j]? = some u := by
  obtain ⟨c, hc, hcs⟩ := Kd.L_get (k := recK) (w := default) (F := fun _ => True) (Kd.L_flat.2 rfl) h
  cases (show c = recC r from hc)
  exact hcs
theorem RecRow.block {w : World} {g : Nat} {xs : List Rec} (h : RecRow w g xs) : g < w.heap.size := by
  obtain ⟨cur, h1, _⟩ := h
  exact (Array.getElem?_eq_some_iff.1 h1).1
theorem RecRow.cell {w : World} {g : Nat} {xs : List Rec} (h : RecRow w g xs) {i : Nat} {r : Rec} (hr : xs[i]? = some r) :
    w.cell? ⟨g, i * 4, none⟩ = some (.int .u8 r.a) ∧ w.cell? ⟨g, i * 4 + 1, none⟩ = some (.int .u8 r.b) ∧ w.cell? ⟨g, i * 4 + 2, none⟩ = some (.int .u8 r.c) ∧ w.cell? ⟨g, i * 4 + 3, none⟩ = some (.int .u8 r.d) := by
  obtain ⟨cur, h1, h2, h3⟩ := h
  have key : ∀ j u, (recC r)[j]? = some u → w.cell? ⟨g, i * 4 + j, none⟩ = some u := by
    intro j u hu
    have := recC_get hr j u hu
    rw [← h2, List.getElem?_take] at this
    rw [cell_of_row w g _ cur _ (0, 0) h1]
    split at this
    · simpa using this
    · cases this
  exact ⟨key 0 _ rfl, key 1 _ rfl, key 2 _ rfl, key 3 _ rfl⟩
theorem RecRow.frozen {w : World} {g : Nat} {xs : List Rec} (h : RecRow w g xs) (o : Nat) : w.frozen? ⟨g, o, none⟩ = false := by
  obtain ⟨cur, h1, _⟩ := h
  exact frozen_of_row w g o cur _ h1
theorem RecRow.keep {w w' : World} {g : Nat} {xs : List Rec} (h : RecRow w g xs) (hk : w'.heap[g]? = w.heap[g]?) : RecRow w' g xs := by
  obtain ⟨cur, h1, h2⟩ := h
  exact ⟨cur, hk.trans h1, h2⟩
theorem RecRow.sl {w : World} {F : Nat → Prop} {g c : Nat} {xs : List Rec} (h : RecRow w g xs) (hF : F g) (hc : xs.length ≤ c) (hm : c ≤ maxLen) (hb : xs.length * 4 ≤ big) : Sl recK w F (.slice (some ⟨g, 0, none⟩) xs.length c) xs := by
  obtain ⟨cur, h1, h2, h3⟩ := h
  refine ⟨_, c, xs.flatMap recC, rfl, hc, ⟨hb, hm⟩, Kd.L_flat.2 rfl, fun _ => ⟨g, 0, rfl, hF, (Array.getElem?_eq_some_iff.1 h1).1, fun j u hu => ?_⟩⟩
  rw [Nat.zero_add, cell_of_row w g j cur _ (0, 0) h1]
  rw [← h2, List.getElem?_take] at hu
  split at hu
  · simpa using hu
  · cases hu
theorem RecRow.of_owns {w : World} {base g c n : Nat} {xs : List Rec} (h : w.ownsRow base 25 4 (.slice (some ⟨g, 0, none⟩) n c) n (xs.flatMap recC)) : RecRow w g xs := by
  obtain ⟨h1, ⟨h2, _⟩ | ⟨g', cap, cur, h2, h3, h4, h5, h6, h7, h8⟩⟩ := h
  · cases h2
  · cases h2
    have : n = xs.length := by have := recC_len xs; omega
    subst this
    exact ⟨cur, h4, h8, by rw [h7]; exact Nat.mul_le_mul_right _ h5⟩

theorem recC_set : ∀ (xs : List Rec) (i : Nat) (v : Rec), i < xs.length →
    (((((xs.flatMap recC).set (i * 4) (.int .u8 v.a)).set (i * 4 + 1) (.int .u8 v.b)).set (i * 4 + 2) (.int .u8 v.c)).set (i * 4 + 3) (.int .u8 v.d)) = (xs.set i v).flatMap recC
  | [], _, _, h => by simp at h
  | x :: xs, 0, v, _ => by simp [recC]
  | x :: xs, i + 1, v, h => by
    have ih := recC_set xs i v (by simpa using h)
    simp only [List.flatMap_cons, List.set_cons_succ, recC, List.cons_append, List.nil_append, Nat.add_mul, Nat.one_mul] at ih ⊢
    rw [ih]
theorem heap_set {w : World} {g o : Nat} {cur : Array Value} {t : TypeId} {fr : Nat × Nat} (u : Value) (h : w.heap[g]? = some (.cells cur t fr)) : (w.setCell ⟨g, o, none⟩ u).heap[g]? = some (.cells (cur.setIfInBounds o u) t fr) := by
  simp [World.setCell, Array.getElem?_modify, h]
/-- The world behind a store of a record. -/
def setRec (w : World) (g i : Nat) (v : Rec) : World := (((w.setCell ⟨g, i * 4, none⟩ (.int .u8 v.a)).setCell ⟨g, i * 4 + 1, none⟩ (.int .u8 v.b)).setCell ⟨g, i * 4 + 2, none⟩ (.int .u8 v.c)).setCell ⟨g, i * 4 + 3, none⟩ (.int .u8 v.d)
theorem RecRow.set {w : World} {g : Nat} {xs : List Rec} (h : RecRow w g xs) {i : Nat} (hi : i < xs.length) (v : Rec) : RecRow (setRec w g i v) g (xs.set i v) := by
  obtain ⟨cur, h1, h2, h3⟩ := h
  refine ⟨_, heap_set _ (heap_set _ (heap_set _ (heap_set _ h1))), ?_, by simpa using h3⟩
  rw [← recC_set xs i v hi, ← h2]
  simp only [Array.toList_setIfInBounds, List.length_set, List.take_set]

def fileK : Kd File where
  sz := 2
  bytes := 32
  pos := by decide
  R := fun w F f cs => ∃ v, cs = [.int .i64 f.perm, v] ∧ Sl recK w F v f.recs
  len := fun ⟨_, e, _⟩ => by simp [e]
  keep := fun ⟨v, e, h⟩ hk => ⟨v, e, h.keep hk⟩
  mono := fun ⟨v, e, h⟩ hk => ⟨v, e, h.mono hk⟩

/-- The cells of record i. -/
theorem rec_cells {w : World} {F : Nat → Prop} {a : Option Addr} {n c : Nat} {xs : List Rec} (h : Sl recK w F (.slice a n c) xs) {i : Nat} (hi : i < n) : ∃ b o r, a = some ⟨b, o, none⟩ ∧ F b ∧ b < w.heap.size ∧ xs[i]? = some r ∧
    w.cell? ⟨b, o + i * 4, none⟩ = some (.int .u8 r.a) ∧ w.cell? ⟨b, o + i * 4 + 1, none⟩ = some (.int .u8 r.b) ∧ w.cell? ⟨b, o + i * 4 + 2, none⟩ = some (.int .u8 r.c) ∧ w.cell? ⟨b, o + i * 4 + 3, none⟩ = some (.int .u8 r.d) := by
  obtain ⟨b, o, cs, r, rfl, h1, h2, h3, rfl, h5⟩ := h.get hi
  exact ⟨b, o, r, rfl, h1, h2, h3, h5 0 _ rfl, by rw [Nat.add_assoc]; exact h5 1 _ rfl, by rw [Nat.add_assoc]; exact h5 2 _ rfl, by rw [Nat.add_assoc]; exact h5 3 _ rfl⟩

end Go.Proofs.YtmoebgkfmkdkpaaDoor
