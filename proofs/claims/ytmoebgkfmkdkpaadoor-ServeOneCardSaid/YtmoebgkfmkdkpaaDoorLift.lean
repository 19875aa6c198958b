/- From a row's premises to a walk's, and back. -/
import Derived.Test.YtmoebgkfmkdkpaaDoorRows
import Derived.Test.YtmoebgkfmkdkpaaDoorIfsD
import Derived.ChangeSame
import Derived.ChangeVars
import Derived.JoinedOf
import Derived.LaidLaws
import Derived.LaidHandle
import Derived.Stop.Joined
import Derived.OpenShut
import Derived.Carry
namespace Go.Proofs.YtmoebgkfmkdkpaaDoor
open Go.ChangeShapes Go.WideShapes Go.RowKit Go.Proofs
set_option linter.unusedSimpArgs false
set_option linter.unusedVariables false

theorem lift_own : ownKnob Tryd.prog.godebug = none := by kernel_rfl
theorem lift_et : Tryd.prog.globalNamed "errors.errorType" = some 0 := by kernel_rfl
theorem lift_rt : (Tryd.prog.cutTypes.find? (·.1 == "internal/reflectlite.rtype")).map (·.2) = some 114 := by kernel_rfl
theorem lift_oneRow : ((List.range 201).filter fun t => Tryd.prog.rowNamed t [101, 114, 114, 111, 114]) = [54] := by kernel_rfl
theorem lift_size : Tryd.prog.types.size = 201 := by kernel_rfl

/-- What the rows' condition gives a walk. -/
theorem lib0_of_laid {W : World} (h : laidMetH Tryd.prog [("errors.errorType", .iface "internal/reflectlite.rtype" (.agg [.ptr (.lit (.string [101, 114, 114, 111, 114]))]))] W) : Lib0 W := by
  have h' : laidMet Tryd.prog [] W ∧ handlesMet Tryd.prog [("errors.errorType", .iface "internal/reflectlite.rtype" (.agg [.ptr (.lit (.string [101, 114, 114, 111, 114]))]))] W := h
  obtain ⟨name, u, ty, e1, e2, e3, e4, e5⟩ := h'.2 _ (List.mem_singleton.2 rfl)
  have en : name = [101, 114, 114, 111, 114] := (Option.some.inj e1).symm
  subst en
  obtain rfl := Option.some.inj (lift_rt.symm.trans e2)
  have hm : ty ∈ (List.range 201).filter fun t => Tryd.prog.rowNamed t [101, 114, 114, 111, 114] := List.mem_filter.2 ⟨List.mem_range.2 (by rw [← lift_size]; exact e3), e4⟩
  rw [lift_oneRow] at hm
  obtain rfl := List.mem_singleton.1 hm
  have hh : typeHandle Tryd.prog 54 = .pointer (some ⟨1, 54, none⟩) := by kernel_rfl
  rw [hh] at e5
  have hc : W.cell? ⟨0, 0, none⟩ = some errType := by simpa using World.var?_cell lift_et e5 0
  refine ⟨hc, ?_⟩
  rcases Nat.lt_or_ge 0 W.heap.size with h | h
  · exact h
  · simp [World.cell?, Array.getElem?_eq_none h] at hc

/-- A world that meets the condition: the settled one, the variable's cell laid. -/
noncomputable def laidWorld (os : Os) : World :=
  let w0 := World.holding Tryd.prog os ⟨#[], #[], []⟩
  { w0 with heap := w0.heap.modify 0 fun
      | .cells _ t frozen => .cells #[errType] t frozen
      | o => o }
theorem laidWorld_met (os : Os) (args : Array Value) : laidMetH Tryd.prog [("errors.errorType", .iface "internal/reflectlite.rtype" (.agg [.ptr (.lit (.string [101, 114, 114, 111, 114]))]))] ((laidWorld os).forCall (fun _ _ => 0) ⟨#[], args, []⟩).memory :=
  laidMetH_of_parts (laidMet_nil _ _) (by kernel_rfl)

theorem list1 {cs : List Value} (h : cs.length = 1) : ∃ a, cs = [a] := by
  match cs, h with
  | [a], _ => exact ⟨a, rfl⟩
theorem listS {cs : List Value} {n : Nat} (h : cs.length = n + 1) : ∃ a r, cs = a :: r ∧ r.length = n := by
  match cs, h with
  | a :: r, h => exact ⟨a, r, rfl, by simpa using h⟩
theorem list4 {cs : List Value} (h : cs.length = 4) : ∃ a b c d, cs = [a, b, c, d] := by
  obtain ⟨a, r, e1, h1⟩ := listS h
  obtain ⟨b, r, e2, h2⟩ := listS h1
  obtain ⟨c, r, e3, h3⟩ := listS h2
  obtain ⟨d, e4⟩ := list1 h3
  exact ⟨a, b, c, d, by rw [e1, e2, e3, e4]⟩
theorem list10 {cs : List Value} (h : cs.length = 10) : ∃ a b c d e f g i j k, cs = [a, b, c, d, e, f, g, i, j, k] := by
  obtain ⟨a, r, e1, h1⟩ := listS h
  obtain ⟨b, r, e2, h2⟩ := listS h1
  obtain ⟨c, r, e3, h3⟩ := listS h2
  obtain ⟨d, r, e4, h4⟩ := listS h3
  obtain ⟨e, r, e5, h5⟩ := listS h4
  obtain ⟨f, r, e6, h6⟩ := listS h5
  obtain ⟨g, i, j, k, e7⟩ := list4 h6
  exact ⟨a, b, c, d, e, f, g, i, j, k, by rw [e1, e2, e3, e4, e5, e6, e7]⟩

section
variable {H : Type} {enc : TypeId × Value → H} {w : World}
/-- Cells that read as something of a type. -/
def Rd (enc : TypeId × Value → H) (w : World) (t : TypeId) (cs : List Value) : Prop := ∃ fuel x, DataW.trod enc Tryd.prog w 0 (fun _ => true) true fuel t cs = some x
theorem rd_int {t : TypeId} {k : IntKind} {cs : List Value} (hu : Tryd.prog.underlying t = some (.int k)) (h : Rd enc w t cs) : ∃ n, cs = [.int k n] ∧ (Lit.int k n).wf = true := by
  obtain ⟨fuel, x, h⟩ := h
  obtain ⟨n, h1, _, h3⟩ := DataW.trod_int hu h
  exact ⟨n, h1, h3⟩
theorem rd_struct {t : TypeId} {fs : Array Field} {cs : List Value} (hu : Tryd.prog.underlying t = some (.struct fs)) (h : Rd enc w t cs) : cs.length = Tryd.prog.cellsOf t ∧ ∀ (i : Nat) (f : Field), fs[i]? = some f → Rd enc w f.type ((cs.drop f.offset).take (Tryd.prog.cellsOf f.type)) := by
  obtain ⟨fuel, x, h⟩ := h
  obtain ⟨xs, n, _, _, h3, h4, h5⟩ := DataW.trod_struct hu h
  refine ⟨h3, fun i f hf => ?_⟩
  have hi : i < xs.length := by rw [h4]; exact (Array.getElem?_eq_some_iff.1 hf).1
  exact ⟨n, _, (h5 i f hf).trans (List.getElem?_eq_getElem hi)⟩
theorem rd_array {t e : TypeId} {n : Nat} {cs : List Value} (hu : Tryd.prog.underlying t = some (.array n e)) (h : Rd enc w t cs) : cs.length = Tryd.prog.cellsOf t ∧ ∀ i, i < n → Rd enc w e ((cs.drop (i * Tryd.prog.cellsOf e)).take (Tryd.prog.cellsOf e)) := by
  obtain ⟨fuel, x, h⟩ := h
  obtain ⟨xs, m, _, _, h3, h4, h5⟩ := DataW.trod_array hu h
  refine ⟨h3, fun i hi => ?_⟩
  exact ⟨m, _, (h5 i hi).trans (List.getElem?_eq_getElem (by omega))⟩
theorem rd_slice {t e : TypeId} {cs : List Value} (hu : Tryd.prog.underlying t = some (.slice e)) (h : Rd enc w t cs) : cs = [.slice none 0 0] ∨ ∃ a len cap, cs = [.slice (some a) len cap] ∧ len ≤ cap ∧ cap ≤ maxLen ∧ ∀ i, i < len → ∃ c, w.cells? 0 (a.add (i * Tryd.prog.cellsOf e)) (Tryd.prog.cellsOf e) = some c ∧ Rd enc w e c := by
  obtain ⟨fuel, x, h⟩ := h
  rcases DataW.trod_slice hu h with ⟨h1, _⟩ | ⟨a, len, cap, elems, rest, n, _, h2, _, _, h3, h4, h5, h6, _⟩
  · exact .inl h1
  · refine .inr ⟨a, len, cap, h2, h3, h4, fun i hi => ?_⟩
    have := h6 i hi
    rw [List.getElem?_eq_getElem (by omega)] at this
    obtain ⟨c, hc, hx⟩ := Option.bind_eq_some_iff.1 this
    exact ⟨c, hc, n, _, hx⟩

theorem cells_rec : Tryd.prog.cellsOf 25 = 4 := by kernel_rfl
theorem rd_rec {cs : List Value} (h : Rd enc w 25 cs) : ∃ r : Rec, cs = recC r ∧ r.wf := by
  obtain ⟨hl, ha⟩ := rd_array Tryd.underlying25 h
  rw [cells_rec] at hl
  obtain ⟨c0, c1, c2, c3, rfl⟩ := list4 hl
  have key : ∀ i, i < 4 → ∃ n, (([c0, c1, c2, c3] : List Value).drop i).take 1 = [.int .u8 n] ∧ 0 ≤ n ∧ n < 256 := fun i hi => by
    have := ha i hi
    rw [cells_u8, Nat.mul_one] at this
    obtain ⟨n, h1, h2⟩ := rd_int Tryd.underlying5 this
    simp [Lit.wf, IntKind.min, IntKind.max, IntKind.signed, IntKind.bits] at h2
    exact ⟨n, h1, by omega, by omega⟩
  obtain ⟨n0, e0, b0⟩ := key 0 (by omega)
  obtain ⟨n1, e1, b1⟩ := key 1 (by omega)
  obtain ⟨n2, e2, b2⟩ := key 2 (by omega)
  obtain ⟨n3, e3, b3⟩ := key 3 (by omega)
  simp at e0 e1 e2 e3
  subst e0 e1 e2 e3
  exact ⟨⟨n0, n1, n2, n3⟩, rfl, b0, b1, b2, b3⟩
theorem cells_int : Tryd.prog.cellsOf 3 = 1 := by kernel_rfl
theorem cells_addr : Tryd.prog.cellsOf 23 = 3 := by kernel_rfl
theorem cells_file : Tryd.prog.cellsOf 28 = 2 := by kernel_rfl
theorem cells_recs : Tryd.prog.cellsOf 26 = 1 := by kernel_rfl
theorem rd_i64 {cs : List Value} (h : Rd enc w 3 cs) : ∃ n, cs = [.int .i64 n] := by
  obtain ⟨n, h, _⟩ := rd_int Tryd.underlying3 h
  exact ⟨n, h⟩
theorem rd_addr {c0 c1 c2 : Value} (h : Rd enc w 23 [c0, c1, c2]) : ∃ a b c : Int, c0 = .int .i64 a ∧ c1 = .int .i64 b ∧ c2 = .int .i64 c := by
  obtain ⟨hl, hf⟩ := rd_struct Tryd.underlying23 h
  have f0 : Rd enc w 3 (([c0, c1, c2].drop 0).take (Tryd.prog.cellsOf 3)) := hf 0 _ rfl
  have f1 : Rd enc w 3 (([c0, c1, c2].drop 1).take (Tryd.prog.cellsOf 3)) := hf 1 _ rfl
  have f2 : Rd enc w 3 (([c0, c1, c2].drop 2).take (Tryd.prog.cellsOf 3)) := hf 2 _ rfl
  rw [cells_int] at f0 f1 f2
  obtain ⟨a, e0⟩ := rd_i64 f0
  obtain ⟨b, e1⟩ := rd_i64 f1
  obtain ⟨c, e2⟩ := rd_i64 f2
  simp at e0 e1 e2
  exact ⟨a, b, c, e0, e1, e2⟩
theorem rd_recs_shape {c : Value} (h : Rd enc w 26 [c]) : ∃ (a : Option Addr) (n m : Nat), c = .slice a n m ∧ n ≤ m ∧ m ≤ maxLen := by
  rcases rd_slice Tryd.underlying26 h with h1 | ⟨a, len, cap, h1, h2, h3, _⟩
  · simp at h1; exact ⟨none, 0, 0, h1, by omega, by simp [maxLen]⟩
  · simp at h1; exact ⟨some a, len, cap, h1, h2, h3⟩
theorem rd_file_shape {c0 c1 : Value} (h : Rd enc w 28 [c0, c1]) : ∃ (perm : Int) (a : Option Addr) (n m : Nat), c0 = .int .i64 perm ∧ c1 = .slice a n m ∧ n ≤ m ∧ m ≤ maxLen := by
  obtain ⟨hl, hf⟩ := rd_struct Tryd.underlying28 h
  have f0 : Rd enc w 3 (([c0, c1].drop 0).take (Tryd.prog.cellsOf 3)) := hf 0 _ rfl
  have f1 : Rd enc w 26 (([c0, c1].drop 1).take (Tryd.prog.cellsOf 26)) := hf 1 _ rfl
  rw [cells_int] at f0
  rw [cells_recs] at f1
  obtain ⟨p, e0⟩ := rd_i64 f0
  obtain ⟨a, n, m, e1, h2, h3⟩ := rd_recs_shape f1
  simp at e0
  exact ⟨p, a, n, m, e0, e1, h2, h3⟩

/-- A reading stays one while only what is new turns. -/
theorem trodAll_up {W W' : World} (hb : Below W.heap.size W W') : ∀ {ts : List TypeId} {vs : List Value} {ds : List (DataW H)} {ps : List MemPlace},
    (∀ t ∈ ts, Tryd.prog.readableRec t = true ∧ t < Tryd.prog.types.size) → DataW.TrodAll enc Tryd.prog W 0 (fun _ => true) true ts vs ds ps → (∀ x ∈ ps, x.block < W.heap.size) → DataW.TrodAll enc Tryd.prog W' 0 (fun b => decide (b < W.heap.size)) true ts vs ds ps
  | [], [], [], ps, _, h, _ => h
  | t :: ts, v :: vs, d :: ds, ps, ht, ⟨p, q, h1, h2, e⟩, hlt => by
    subst e
    exact ⟨p, q, Below.trod (by kernel_rfl) (ht t (by simp)).1 (ht t (by simp)).2 h1 hb (fun x hx => hlt x (by simp [hx])), trodAll_up hb (fun t h => ht t (by simp [h])) h2 (fun x hx => hlt x (by simp [hx])), rfl⟩
end
end Go.Proofs.YtmoebgkfmkdkpaaDoor
