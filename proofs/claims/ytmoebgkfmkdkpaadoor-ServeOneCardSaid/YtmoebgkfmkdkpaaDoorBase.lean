/- Small laws: worlds that have only grown, what the walk reads of memory, '==' on arrays of bytes. -/
import Derived.WalkKit
import Derived.WalkSpells
import Derived.WalkLawsBesides
import Derived.Deep.QuietTactic
import Derived.BigQuiet
import Derived.Handy
import Derived.ChangeKeysEq
import Derived.Lib.Hide
namespace Go.Proofs.YtmoebgkfmkdkpaaDoor
open Go.RowKit

/-! ### worlds that have only grown -/
/-- A world in which all of w's blocks are as they were. -/
structure GrownT (w : World) where
  to : World
  below : Below w.heap.size w to
instance (w : World) : Nonempty (GrownT w) := ⟨⟨w, Below.refl _ _⟩⟩
def grownTo (w : World) (x : GrownT w) : World := x.to
theorem cell?_grownTo (w : World) (x : GrownT w) (a : Addr) (h : a.block < w.heap.size) : (grownTo w x).cell? a = w.cell? a := x.below.cell h
theorem frozen?_grownTo (w : World) (x : GrownT w) (a : Addr) (h : a.block < w.heap.size) : (grownTo w x).frozen? a = w.frozen? a := x.below.frozen h
/-! The rules by which the walk reads memory: without side conditions (what would be one stands in an 'if'). -/
@[go_sem] theorem cell?_grownTo_if (w : World) (x : GrownT w) (b o : Nat) : (grownTo w x).cell? ⟨b, o, none⟩ = if b < w.heap.size then w.cell? ⟨b, o, none⟩ else x.to.cell? ⟨b, o, none⟩ := by
  split
  · exact x.below.cell (p := ⟨b, o, none⟩) ‹_›
  · rfl
@[go_sem] theorem frozen?_grownTo_if (w : World) (x : GrownT w) (b o : Nat) : (grownTo w x).frozen? ⟨b, o, none⟩ = if b < w.heap.size then w.frozen? ⟨b, o, none⟩ else x.to.frozen? ⟨b, o, none⟩ := by
  split
  · exact x.below.frozen (p := ⟨b, o, none⟩) ‹_›
  · rfl
def cellAt : Obj → Nat → Option Value
  | .cells c _ _, i => c[i]?
  | _, _ => none
@[go_sem] theorem cellAt_cells (c : Array Value) (t : TypeId) (f : Nat × Nat) (i : Nat) : cellAt (.cells c t f) i = c[i]? := rfl
@[go_sem] theorem cell?_alloc_if (w : World) (u : Obj) (b o : Nat) : (w.alloc u).cell? ⟨b, o, none⟩ = if b < w.heap.size then w.cell? ⟨b, o, none⟩ else if b = w.heap.size then cellAt u o else none := by
  split
  · exact World.cell?_alloc_lt _ _ _ ‹_›
  · split
    · rename_i e
      subst e
      simp only [World.alloc, World.cell?, Array.getElem?_push]
      cases u <;> simp [cellAt]
    · rename_i h e
      simp only [World.alloc, World.cell?, Array.getElem?_push]
      have : ¬ b < w.heap.size := h
      simp [e, Array.getElem?_eq_none (Nat.le_of_not_lt this)]
@[go_sem] theorem cell?_setCell_if (w : World) (b o c q : Nat) (v : Value) : (w.setCell ⟨b, o, none⟩ v).cell? ⟨c, q, none⟩ = if b = c ∧ o = q then (w.cell? ⟨c, q, none⟩).map (fun _ => v) else w.cell? ⟨c, q, none⟩ := by
  split
  · rename_i h
    obtain ⟨rfl, rfl⟩ := h
    cases h : w.cell? ⟨b, o, none⟩ with
    | some u => exact World.cell?_setCell_same _ _ _ h
    | none =>
      unfold World.cell? at h ⊢
      simp only [World.setCell, Array.getElem?_modify, if_true]
      cases hh : w.heap[b]? with
      | none => simp
      | some u =>
        cases u <;> simp_all
  · rename_i h
    exact World.cell?_setCell_other _ _ _ _ (by intro e; cases e; exact h ⟨rfl, rfl⟩)
@[go_sem ↓] theorem lt_alloc (a : Nat) (w : World) (u : Obj) : (a < (w.alloc u).heap.size) = (a < w.heap.size ∨ a = w.heap.size) := by simp; omega
@[go_sem] theorem nat_eq_of_lt {a b : Nat} (h : a < b) : (a = b) = False := by simp <;> omega
@[go_sem] theorem nat_eq_of_gt {a b : Nat} (h : b < a) : (a = b) = False := by simp <;> omega
theorem size_grownTo (w : World) (x : GrownT w) : w.heap.size ≤ (grownTo w x).heap.size := x.below.size
@[go_sem] theorem lt_size_grownTo (a : Nat) (w : World) (x : GrownT w) : (a < (grownTo w x).heap.size) = (a < w.heap.size ∨ a < x.to.heap.size) := by
  have := x.below.size
  show (a < x.to.heap.size) = _
  simp; omega
theorem ext_intro {w w' : World} (h : Below w.heap.size w w') : ∃ x, w' = grownTo w x ∧ w.heap.size ≤ (grownTo w x).heap.size := ⟨⟨w', h⟩, rfl, h.size⟩
theorem below_grownTo (w : World) (x : GrownT w) : Below w.heap.size w (grownTo w x) := x.below
theorem below_ext {B : Nat} {a w : World} (h : Below B a w) (hB : B ≤ w.heap.size) (x : GrownT w) : Below B a (grownTo w x) := h.trans (x.below.mono hB)
theorem below_al {B : Nat} {a w : World} (h : Below B a w) (hB : B ≤ w.heap.size) (o : Obj) : Below B a (w.alloc o) := Below.alloc h hB o

section
variable {P : Program} {Q : Exit → Act → World → Prop} {a : Act} {w : World}
theorem wp_region_ext {id : Nat} {l : List Oper} (hm : P.follows .mixedOrders = true) (hB : Region.lexB .any l.toArray = true)
    (h : wpQuiet P l.toArray (fun W => ∃ x, W = grownTo w x) (fun a' => ∀ W, (∃ x, W = grownTo w x) → Q .normal a' W) l a) : (Code.region id l.toArray true).wp P Q a w :=
  wp_region_quiet (C := fun W => ∃ x, W = grownTo w x) hm hB ⟨⟨w.drew, (Below.refl _ _).drew⟩, rfl⟩ (by simpa using h)
theorem Calls.ext_of {f : FuncId} {args : Array Value} {v : Value} {x : GrownT w} (h : Calls P f args (grownTo w x) fun e w' => e = .returned v ∧ Below (grownTo w x).heap.size (grownTo w x) w') :
    Calls P f args (grownTo w x) fun e w'' => e = .returned v ∧ ∃ y, w'' = grownTo w y :=
  h.mono fun _ W ⟨he, hb⟩ => ⟨he, ⟨W, (below_grownTo w x).trans (hb.mono (size_grownTo w x))⟩, rfl⟩
theorem Calls.ext_of_same {f : FuncId} {args : Array Value} {v : Value} {x : GrownT w} (h : Calls P f args (grownTo w x) fun e w' => e = .returned v ∧ grownTo w x = w') :
    Calls P f args (grownTo w x) fun e w'' => e = .returned v ∧ ∃ y, w'' = grownTo w y :=
  h.mono fun _ _ ⟨he, hb⟩ => ⟨he, x, hb.symm⟩
end

@[go_sem] theorem far_lt_1 (a : Nat) : (a + 1 < a) = False := eq_false (by omega)
@[go_sem] theorem far_eq_1 (a : Nat) : (a + 1 = a) = False := eq_false (by omega)
@[go_sem] theorem near_eq_1 (a : Nat) : (a = a + 1) = False := eq_false (by omega)
@[go_sem] theorem near_lt_1 (a : Nat) : (a < a + 1) = True := eq_true (by omega)
@[go_sem] theorem far_lt_2 (a : Nat) : (a + 1 + 1 < a) = False := eq_false (by omega)
@[go_sem] theorem far_eq_2 (a : Nat) : (a + 1 + 1 = a) = False := eq_false (by omega)
@[go_sem] theorem near_eq_2 (a : Nat) : (a = a + 1 + 1) = False := eq_false (by omega)
@[go_sem] theorem near_lt_2 (a : Nat) : (a < a + 1 + 1) = True := eq_true (by omega)
@[go_sem] theorem far_lt_3 (a : Nat) : (a + 1 + 1 + 1 < a) = False := eq_false (by omega)
@[go_sem] theorem far_eq_3 (a : Nat) : (a + 1 + 1 + 1 = a) = False := eq_false (by omega)
@[go_sem] theorem near_eq_3 (a : Nat) : (a = a + 1 + 1 + 1) = False := eq_false (by omega)
@[go_sem] theorem near_lt_3 (a : Nat) : (a < a + 1 + 1 + 1) = True := eq_true (by omega)
@[go_sem] theorem far_lt_4 (a : Nat) : (a + 1 + 1 + 1 + 1 < a) = False := eq_false (by omega)
@[go_sem] theorem far_eq_4 (a : Nat) : (a + 1 + 1 + 1 + 1 = a) = False := eq_false (by omega)
@[go_sem] theorem near_eq_4 (a : Nat) : (a = a + 1 + 1 + 1 + 1) = False := eq_false (by omega)
@[go_sem] theorem near_lt_4 (a : Nat) : (a < a + 1 + 1 + 1 + 1) = True := eq_true (by omega)
@[go_sem] theorem far_lt_5 (a : Nat) : (a + 1 + 1 + 1 + 1 + 1 < a) = False := eq_false (by omega)
@[go_sem] theorem far_eq_5 (a : Nat) : (a + 1 + 1 + 1 + 1 + 1 = a) = False := eq_false (by omega)
@[go_sem] theorem near_eq_5 (a : Nat) : (a = a + 1 + 1 + 1 + 1 + 1) = False := eq_false (by omega)
@[go_sem] theorem near_lt_5 (a : Nat) : (a < a + 1 + 1 + 1 + 1 + 1) = True := eq_true (by omega)
@[go_sem] theorem far_lt_6 (a : Nat) : (a + 1 + 1 + 1 + 1 + 1 + 1 < a) = False := eq_false (by omega)
@[go_sem] theorem far_eq_6 (a : Nat) : (a + 1 + 1 + 1 + 1 + 1 + 1 = a) = False := eq_false (by omega)
@[go_sem] theorem near_eq_6 (a : Nat) : (a = a + 1 + 1 + 1 + 1 + 1 + 1) = False := eq_false (by omega)
@[go_sem] theorem near_lt_6 (a : Nat) : (a < a + 1 + 1 + 1 + 1 + 1 + 1) = True := eq_true (by omega)
@[go_sem] theorem far_lt_7 (a : Nat) : (a + 1 + 1 + 1 + 1 + 1 + 1 + 1 < a) = False := eq_false (by omega)
@[go_sem] theorem far_eq_7 (a : Nat) : (a + 1 + 1 + 1 + 1 + 1 + 1 + 1 = a) = False := eq_false (by omega)
@[go_sem] theorem near_eq_7 (a : Nat) : (a = a + 1 + 1 + 1 + 1 + 1 + 1 + 1) = False := eq_false (by omega)
@[go_sem] theorem near_lt_7 (a : Nat) : (a < a + 1 + 1 + 1 + 1 + 1 + 1 + 1) = True := eq_true (by omega)
@[go_sem] theorem far_lt_8 (a : Nat) : (a + 1 + 1 + 1 + 1 + 1 + 1 + 1 + 1 < a) = False := eq_false (by omega)
@[go_sem] theorem far_eq_8 (a : Nat) : (a + 1 + 1 + 1 + 1 + 1 + 1 + 1 + 1 = a) = False := eq_false (by omega)
@[go_sem] theorem near_eq_8 (a : Nat) : (a = a + 1 + 1 + 1 + 1 + 1 + 1 + 1 + 1) = False := eq_false (by omega)
@[go_sem] theorem near_lt_8 (a : Nat) : (a < a + 1 + 1 + 1 + 1 + 1 + 1 + 1 + 1) = True := eq_true (by omega)
@[go_sem] theorem far_lt_9 (a : Nat) : (a + 1 + 1 + 1 + 1 + 1 + 1 + 1 + 1 + 1 < a) = False := eq_false (by omega)
@[go_sem] theorem far_eq_9 (a : Nat) : (a + 1 + 1 + 1 + 1 + 1 + 1 + 1 + 1 + 1 = a) = False := eq_false (by omega)
@[go_sem] theorem near_eq_9 (a : Nat) : (a = a + 1 + 1 + 1 + 1 + 1 + 1 + 1 + 1 + 1) = False := eq_false (by omega)
@[go_sem] theorem near_lt_9 (a : Nat) : (a < a + 1 + 1 + 1 + 1 + 1 + 1 + 1 + 1 + 1) = True := eq_true (by omega)
@[go_sem] theorem far_lt_10 (a : Nat) : (a + 1 + 1 + 1 + 1 + 1 + 1 + 1 + 1 + 1 + 1 < a) = False := eq_false (by omega)
@[go_sem] theorem far_eq_10 (a : Nat) : (a + 1 + 1 + 1 + 1 + 1 + 1 + 1 + 1 + 1 + 1 = a) = False := eq_false (by omega)
@[go_sem] theorem near_eq_10 (a : Nat) : (a = a + 1 + 1 + 1 + 1 + 1 + 1 + 1 + 1 + 1 + 1) = False := eq_false (by omega)
@[go_sem] theorem near_lt_10 (a : Nat) : (a < a + 1 + 1 + 1 + 1 + 1 + 1 + 1 + 1 + 1 + 1) = True := eq_true (by omega)
@[go_sem] theorem far_lt_11 (a : Nat) : (a + 1 + 1 + 1 + 1 + 1 + 1 + 1 + 1 + 1 + 1 + 1 < a) = False := eq_false (by omega)
@[go_sem] theorem far_eq_11 (a : Nat) : (a + 1 + 1 + 1 + 1 + 1 + 1 + 1 + 1 + 1 + 1 + 1 = a) = False := eq_false (by omega)
@[go_sem] theorem near_eq_11 (a : Nat) : (a = a + 1 + 1 + 1 + 1 + 1 + 1 + 1 + 1 + 1 + 1 + 1) = False := eq_false (by omega)
@[go_sem] theorem near_lt_11 (a : Nat) : (a < a + 1 + 1 + 1 + 1 + 1 + 1 + 1 + 1 + 1 + 1 + 1) = True := eq_true (by omega)
@[go_sem] theorem far_lt_12 (a : Nat) : (a + 1 + 1 + 1 + 1 + 1 + 1 + 1 + 1 + 1 + 1 + 1 + 1 < a) = False := eq_false (by omega)
@[go_sem] theorem far_eq_12 (a : Nat) : (a + 1 + 1 + 1 + 1 + 1 + 1 + 1 + 1 + 1 + 1 + 1 + 1 = a) = False := eq_false (by omega)
@[go_sem] theorem near_eq_12 (a : Nat) : (a = a + 1 + 1 + 1 + 1 + 1 + 1 + 1 + 1 + 1 + 1 + 1 + 1) = False := eq_false (by omega)
@[go_sem] theorem near_lt_12 (a : Nat) : (a < a + 1 + 1 + 1 + 1 + 1 + 1 + 1 + 1 + 1 + 1 + 1 + 1) = True := eq_true (by omega)

@[go_sem] theorem lt_size_1 (a : Nat) (w : World) : (a < w.heap.size + 1) = (a < w.heap.size ∨ a = w.heap.size) := by simp; omega
@[go_sem] theorem lt_size_2 (a : Nat) (w : World) : (a < w.heap.size + 1 + 1) = (a < w.heap.size + 1 ∨ a = w.heap.size + 1) := by simp; omega
@[go_sem] theorem lt_size_3 (a : Nat) (w : World) : (a < w.heap.size + 1 + 1 + 1) = (a < w.heap.size + 1 + 1 ∨ a = w.heap.size + 1 + 1) := by simp; omega
@[go_sem] theorem lt_size_4 (a : Nat) (w : World) : (a < w.heap.size + 1 + 1 + 1 + 1) = (a < w.heap.size + 1 + 1 + 1 ∨ a = w.heap.size + 1 + 1 + 1) := by simp; omega
@[go_sem] theorem lt_size_5 (a : Nat) (w : World) : (a < w.heap.size + 1 + 1 + 1 + 1 + 1) = (a < w.heap.size + 1 + 1 + 1 + 1 ∨ a = w.heap.size + 1 + 1 + 1 + 1) := by simp; omega
@[go_sem] theorem lt_size_6 (a : Nat) (w : World) : (a < w.heap.size + 1 + 1 + 1 + 1 + 1 + 1) = (a < w.heap.size + 1 + 1 + 1 + 1 + 1 ∨ a = w.heap.size + 1 + 1 + 1 + 1 + 1) := by simp; omega
@[go_sem] theorem lt_size_7 (a : Nat) (w : World) : (a < w.heap.size + 1 + 1 + 1 + 1 + 1 + 1 + 1) = (a < w.heap.size + 1 + 1 + 1 + 1 + 1 + 1 ∨ a = w.heap.size + 1 + 1 + 1 + 1 + 1 + 1) := by simp; omega
@[go_sem] theorem lt_size_8 (a : Nat) (w : World) : (a < w.heap.size + 1 + 1 + 1 + 1 + 1 + 1 + 1 + 1) = (a < w.heap.size + 1 + 1 + 1 + 1 + 1 + 1 + 1 ∨ a = w.heap.size + 1 + 1 + 1 + 1 + 1 + 1 + 1) := by simp; omega

/-! ### arrays of numbers: '==' -/
section
variable {P : Program} (w : World)
theorem run_equalIn_ints (d : Nat) (t e : TypeId) (k k' : IntKind) (i : TypeInfo) (xs ys : List Int) (n : Nat) (h : P.underlying t = some (.array n e)) (he : P.underlying e = some (.int k')) (hi : P.info? e = some i) (hs : i.size = 1)
    (hx : xs.length = n) (hy : ys.length = n) :
    (Op.equalIn (d + 2) t (.agg (xs.map (Value.int k)).toArray) (.agg (ys.map (Value.int k)).toArray)).run P w = .ok (xs == ys) w := by
  have hc : P.cellsOf e = 1 := by simp [Program.cellsOf, hi, hs]
  rw [run_equalIn_array w (d + 1) _ _ h hi, hc]
  have key : ∀ (m j : Nat), j + m = n → (Op.eqItems (d + 1) e 1 (xs.map (Value.int k)).toArray (ys.map (Value.int k)).toArray (List.range' j m)).run P w = .ok (xs.drop j == ys.drop j) w := by
    intro m
    induction m with
    | zero => intro j hj; simp [Op.eqItems, List.drop_of_length_le (show xs.length ≤ j by omega), List.drop_of_length_le (show ys.length ≤ j by omega)]
    | succ m ih =>
      intro j hj
      have h1 : j < xs.length := by omega
      have h2 : j < ys.length := by omega
      have hp : ∀ (zs : List Int) (hz : j < zs.length), (part e (zs.map (Value.int k)).toArray (j * 1)).run P w = .ok (.int k zs[j]) w := by
        intro zs hz
        simp [part, isAgg, run_underlying he, hz]
      rw [List.range'_succ]
      simp only [Op.eqItems, Sem.run_bind, hp xs h1, hp ys h2, Result.andThen_ok, run_equalIn_int w d e k k' _ _ he]
      rw [List.drop_eq_getElem_cons h1, List.drop_eq_getElem_cons h2]
      by_cases e1 : xs[j] = ys[j]
      · simp [e1, ih (j + 1) (by omega), -List.getElem_cons_drop]
      · simp [e1, -List.getElem_cons_drop]
  have := key n 0 (by omega)
  rw [List.range_eq_range']
  simpa using this
end
section
variable {P : Program} (w : World)
theorem run_equalIn_u8s (d : Nat) (t : TypeId) (xs ys : List Int) (h : P.underlying t = some (.array xs.length (P.elem t))) (he : P.underlying (P.elem t) = some (.int .u8)) (hc : P.cellsOf (P.elem t) = 1) (hl : ys.length = xs.length) :
    (Op.equalIn (d + 2) t (.agg (xs.map (Value.int .u8)).toArray) (.agg (ys.map (Value.int .u8)).toArray)).run P w = .ok (xs == ys) w := by
  obtain ⟨i, hi⟩ := info_of_underlying he
  exact run_equalIn_ints w d t _ .u8 .u8 i xs ys _ h he hi (by simpa [Program.cellsOf, hi] using hc) rfl hl
@[go_sem] theorem run_equalIn_arr2 (d : Nat) (t : TypeId) (a0 a1 b0 b1 : Int) (h : P.underlying t = some (.array 2 (P.elem t))) (he : P.underlying (P.elem t) = some (.int .u8)) (hc : P.cellsOf (P.elem t) = 1) :
    (Op.equalIn (d + 2) t (.agg #[.int .u8 a0, .int .u8 a1]) (.agg #[.int .u8 b0, .int .u8 b1])).run P w = .ok ([a0, a1] == [b0, b1]) w :=
  run_equalIn_u8s w d t [a0, a1] [b0, b1] h he hc rfl
@[go_sem] theorem run_equalIn_arr4 (d : Nat) (t : TypeId) (a0 a1 a2 a3 b0 b1 b2 b3 : Int) (h : P.underlying t = some (.array 4 (P.elem t))) (he : P.underlying (P.elem t) = some (.int .u8)) (hc : P.cellsOf (P.elem t) = 1) :
    (Op.equalIn (d + 2) t (.agg #[.int .u8 a0, .int .u8 a1, .int .u8 a2, .int .u8 a3]) (.agg #[.int .u8 b0, .int .u8 b1, .int .u8 b2, .int .u8 b3])).run P w = .ok ([a0, a1, a2, a3] == [b0, b1, b2, b3]) w :=
  run_equalIn_u8s w d t [a0, a1, a2, a3] [b0, b1, b2, b3] h he hc rfl
@[go_sem] theorem run_equalIn_arr5 (d : Nat) (t : TypeId) (a0 a1 a2 a3 a4 b0 b1 b2 b3 b4 : Int) (h : P.underlying t = some (.array 5 (P.elem t))) (he : P.underlying (P.elem t) = some (.int .u8)) (hc : P.cellsOf (P.elem t) = 1) :
    (Op.equalIn (d + 2) t (.agg #[.int .u8 a0, .int .u8 a1, .int .u8 a2, .int .u8 a3, .int .u8 a4]) (.agg #[.int .u8 b0, .int .u8 b1, .int .u8 b2, .int .u8 b3, .int .u8 b4])).run P w = .ok ([a0, a1, a2, a3, a4] == [b0, b1, b2, b3, b4]) w :=
  run_equalIn_u8s w d t [a0, a1, a2, a3, a4] [b0, b1, b2, b3, b4] h he hc rfl
end
end Go.Proofs.YtmoebgkfmkdkpaaDoor
