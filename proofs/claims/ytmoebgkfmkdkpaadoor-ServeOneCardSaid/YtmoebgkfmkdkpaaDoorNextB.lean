/- file.next: a number in four bytes, one more. -/
import Derived.Test.YtmoebgkfmkdkpaaDoorNext
namespace Go.Proofs.YtmoebgkfmkdkpaaDoor
open Go.RowKit Go.Proofs Go.Shelf
set_option linter.unusedSimpArgs false
set_option linter.unusedVariables false
attribute [local go_sem] Oper.semAt_some

def Rec.at (r : Rec) (i : Nat) : Int := if i = 0 then r.a else if i = 1 then r.b else if i = 2 then r.c else r.d
def Rec.inc (r : Rec) (i : Nat) : Rec := if i = 0 then { r with a := (r.a + 1) % 256 } else if i = 1 then { r with b := (r.b + 1) % 256 } else if i = 2 then { r with c := (r.c + 1) % 256 } else { r with d := (r.d + 1) % 256 }
/-- The record behind rounds at these places, each of which came to 0. -/
def Rec.went : Rec → List Nat → Option Rec
  | r, [] => some r
  | r, i :: l => if (r.inc i).at i = 0 then (r.inc i).went l else none
/-- .. the last of which did not. -/
def Rec.left (r : Rec) (l : List Nat) : Option Rec := match l.getLast? with
  | none => none
  | some i => match r.went l.dropLast with
    | none => none
    | some r' => if (r'.inc i).at i = 0 then none else some (r'.inc i)
theorem Rec.went_snoc (i : Nat) : ∀ (l : List Nat) (r : Rec), r.went (l ++ [i]) = match r.went l with | none => none | some r' => if (r'.inc i).at i = 0 then some (r'.inc i) else none
  | [], r => by simp only [List.nil_append, Rec.went]
  | j :: l, r => by
    simp only [List.cons_append, Rec.went]
    split
    · exact Rec.went_snoc i l _
    · rfl
theorem Rec.left_snoc (r : Rec) (l : List Nat) (i : Nat) : r.left (l ++ [i]) = match r.went l with | none => none | some r' => if (r'.inc i).at i = 0 then none else some (r'.inc i) := by
  simp [Rec.left]
theorem next_went {r r' : Rec} (hw : r.wf) (h : r.went [3, 2, 1, 0] = some r') : r' = r.next := by
  obtain ⟨⟨h1, h1'⟩, ⟨h2, h2'⟩, ⟨h3, h3'⟩, ⟨h4, h4'⟩⟩ := hw
  simp [Rec.went, Rec.inc, Rec.at] at h
  obtain ⟨e1, e2, e3, e4, rfl⟩ := h
  simp only [Rec.next, Rec.of, Rec.num, Rec.mk.injEq]
  omega
theorem next_left {r r' : Rec} {l : List Nat} (hw : r.wf) (hl : l <+: [3, 2, 1, 0]) (h : r.left l = some r') : r' = r.next := by
  obtain ⟨⟨h1, h1'⟩, ⟨h2, h2'⟩, ⟨h3, h3'⟩, ⟨h4, h4'⟩⟩ := hw
  obtain ⟨t, ht⟩ := hl
  have hc : l = [] ∨ l = [3] ∨ l = [3, 2] ∨ l = [3, 2, 1] ∨ l = [3, 2, 1, 0] := by
    match l, ht with
    | [], _ => simp
    | [a], ht => simp at ht; simp [ht.1]
    | [a, b], ht => simp at ht; simp [ht.1, ht.2.1]
    | [a, b, c], ht => simp at ht; simp [ht.1, ht.2.1, ht.2.2.1]
    | [a, b, c, d], ht => simp at ht; simp [ht.1, ht.2.1, ht.2.2.1, ht.2.2.2.1]
    | a :: b :: c :: d :: e :: l, ht => have := congrArg List.length ht; simp at this
  rcases hc with rfl | rfl | rfl | rfl | rfl
  · cases h
  all_goals
    simp [Rec.left, Rec.went, Rec.inc, Rec.at] at h
    simp only [Rec.next, Rec.of, Rec.num]
  · obtain ⟨e1, rfl⟩ := h
    simp only [Rec.mk.injEq]; omega
  all_goals
    repeat' (split at h)
    all_goals (try (cases h; done))
    all_goals simp_all
  · rename_i r2 q _
    obtain ⟨q1, rfl⟩ := q
    subst h
    simp only [Rec.mk.injEq]; dsimp only at *; omega
  · rename_i r2 q _
    obtain ⟨q1, q2, rfl⟩ := q
    subst h
    simp only [Rec.mk.injEq]; dsimp only at *; omega
  · rename_i r2 q _
    obtain ⟨q1, q2, q3, rfl⟩ := q
    subst h
    simp only [Rec.mk.injEq]; dsimp only at *; omega

/-- Four cells that hold a record, and may be written. -/
structure Cells4 (W : World) (B : Nat) (r : Rec) : Prop where
  c0 : W.cell? ⟨B, 0, none⟩ = some (.int .u8 r.a)
  c1 : W.cell? ⟨B, 1, none⟩ = some (.int .u8 r.b)
  c2 : W.cell? ⟨B, 2, none⟩ = some (.int .u8 r.c)
  c3 : W.cell? ⟨B, 3, none⟩ = some (.int .u8 r.d)
  f0 : W.frozen? ⟨B, 0, none⟩ = false
  f1 : W.frozen? ⟨B, 1, none⟩ = false
  f2 : W.frozen? ⟨B, 2, none⟩ = false
  f3 : W.frozen? ⟨B, 3, none⟩ = false
theorem Cells4.kept {W W' : World} {B : Nat} {r : Rec} {row : Option Nat} (h : Cells4 W B r) (hg : W.grownBy W' row) (hr : ∀ k, row = some k → ∃ o : Obj, W.heap[k]? = some o ∧ o.isCells = false) : Cells4 W' B r :=
  ⟨cell_kept h.c0 hg hr, cell_kept h.c1 hg hr, cell_kept h.c2 hg hr, cell_kept h.c3 hg hr, (frozen_kept h.c0 hg hr).trans h.f0, (frozen_kept h.c1 hg hr).trans h.f1, (frozen_kept h.c2 hg hr).trans h.f2, (frozen_kept h.c3 hg hr).trans h.f3⟩

theorem Cells4.inc {W : World} {B : Nat} {r : Rec} (h : Cells4 W B r) (i : Nat) (hi : i < 4) : Cells4 (W.setCell ⟨B, i, none⟩ (.int .u8 ((r.inc i).at i))) B (r.inc i) := by
  obtain ⟨c0, c1, c2, c3, f0, f1, f2, f3⟩ := h
  rcases (show i = 0 ∨ i = 1 ∨ i = 2 ∨ i = 3 by omega) with rfl | rfl | rfl | rfl <;> constructor <;> simp [go_sem, Rec.inc, Rec.at, c0, c1, c2, c3, f0, f1, f2, f3]
theorem Cells4.other {W : World} {B b o : Nat} {r : Rec} {v : Value} (h : Cells4 W B r) (hb : b ≠ B) : Cells4 (W.setCell ⟨b, o, none⟩ v) B r := by
  obtain ⟨c0, c1, c2, c3, f0, f1, f2, f3⟩ := h
  constructor <;> simp [go_sem, hb, c0, c1, c2, c3, f0, f1, f2, f3]
theorem back_in (n : Nat) (b : Nat) (w : World) : CallsIn Fence.wide n Tryd.prog 64 #[.slice (some ⟨b, 0, none⟩) 4 4] w fun e w' => e = .returned (.func (.func 78) #[] #[.pointer (some ⟨w.heap.size, 0, none⟩)]) ∧ w' = w.alloc (.cells #[.slice (some ⟨b, 0, none⟩) 4 4] 106) := by
  refine callsIn_of_wp Tryd.func64 rfl trivial ?_ rfl
  simp only [Tryd.ntmps64, List.size_toArray, List.length_cons, List.length_nil, Nat.reduceAdd, Nat.reduceSub, Array.replicate_succ, Array.replicate_zero, List.push_toArray, List.append_toArray, List.nil_append, List.cons_append]
  gi_wp2
  go_ret
  exact ⟨rfl, rfl⟩

set_option maxRecDepth 100000 in
set_option maxHeartbeats 8000000 in
theorem next_said : NextSaid := by
  intro r w hwf
  refine (callsIn_wide (n := 5)).1 ?_
  refine callsIn_of_wp_marks Tryd.func52 rfl trivial ?_ rfl
  simp only [Tryd.ntmps52, List.size_toArray, List.length_cons, List.length_nil, Nat.reduceAdd, Nat.reduceSub, Array.replicate_succ, Array.replicate_zero, List.push_toArray, List.append_toArray, List.nil_append, List.cons_append]
  have hfB : Fence.wide.fn 64 := trivial
  gi_wp2_with (gi_at_call 64; refine (back_in _ _ _).mono ?_; rintro e w' ⟨rfl, rfl⟩)
  obtain ⟨w0, hw0⟩ : ∃ w0, ((w.alloc (.cells #[.int .u8 r.a, .int .u8 r.b, .int .u8 r.c, .int .u8 r.d] 25)).alloc (.cells #[.int .u8 0, .int .u8 0, .int .u8 0, .int .u8 0] 25)).alloc (.cells #[.slice (some ⟨w.heap.size, 0, none⟩) 4 4] 106) = w0 := ⟨_, rfl⟩
  have hsz : w0.heap.size = w.heap.size + 3 := by rw [← hw0]; simp
  have hB0 : Below w.heap.size w w0 := by rw [← hw0]; (repeat' (first | (with_reducible exact Below.refl _ _) | (with_reducible refine below_ext ?_ ?_ _) | (with_reducible refine below_al ?_ ?_ _) | (with_reducible refine Below.drew ?_) | (with_reducible refine Below.setCell ?_ ?_ _) | (with_reducible assumption) | (first | (with_reducible exact Nat.le_refl _) | omega | (simp only [World.size_alloc, World.size_setCell, World.size_drew] at *; omega) | (simp at *; omega) | (simp; done))))
  have hC : Cells4 w0 w.heap.size r := by rw [← hw0]; constructor <;> simp [go_sem]
  have hZ : Cells4 w0 (w.heap.size + 1) .zero := by rw [← hw0]; constructor <;> simp [go_sem, Rec.zero]
  have hS : w0.cell? ⟨w.heap.size + 1 + 1, 0, none⟩ = some (.slice (some ⟨w.heap.size, 0, none⟩) 4 4) := by rw [← hw0]; simp [go_sem]
  rw [hw0]
  clear hw0
  have hseq := back_stops 4 (by omega) (w.heap.size + 1 + 1) w.heap.size 4 w0 hS (by omega) (by omega) (fun j hj => by
    rcases (show j = 0 ∨ j = 1 ∨ j = 2 ∨ j = 3 by omega) with rfl | rfl | rfl | rfl
    · exact ⟨_, hC.c0⟩
    · exact ⟨_, hC.c1⟩
    · exact ⟨_, hC.c2⟩
    · exact ⟨_, hC.c3⟩)
  refine wpIn_rangeFunc_ownF (α := At4) rfl (by omega) (gf := 78) (lb := #[.pointer (some ⟨w.heap.size + 1 + 1, 0, none⟩)]) rfl trivial (enters_of Tryd.func78 (by kernel_rfl) rfl) hseq (fun h k => h.trans k) (fun W l o o' hl h ho hw => ?kb) (Below.refl _ _) (fun _ => rfl)
    (fun pre W => ((∃ r', r.went (pre.map (·.1.1)) = some r' ∧ Cells4 W w.heap.size r') ∧ Cells4 W (w.heap.size + 1) .zero ∧ W.cell? ⟨w.heap.size + 1 + 1, 0, none⟩ = some (.slice (some ⟨w.heap.size, 0, none⟩) 4 4)) ∧ Below w.heap.size w W)
    (fun c pre W => (c = .exit 0 ∧ (∃ r', r.left (pre.map (·.1.1)) = some r' ∧ Cells4 W w.heap.size r') ∧ Cells4 W (w.heap.size + 1) .zero) ∧ Below w.heap.size w W)
    (OwnFrom.and (Own.from (fun s A B row hs hg hr => ?o1) _) (ownFrom_below (Nat.le_refl _) (by omega)))
    (fun c => OwnFrom.and (Own.from (fun s A B row hs hg hr => ?o2) _) (ownFrom_below (Nat.le_refl _) (by omega)))
    ⟨⟨⟨r, rfl, hC⟩, hZ, hS⟩, hB0⟩
    (fun x => { tmps := #[recV r, .pointer (some ⟨w.heap.size, 0, none⟩), .pointer (some ⟨w.heap.size + 1, 0, none⟩), .int .i64 (x.1.1 : Int), .slice (some ⟨w.heap.size, 0, none⟩) 4 4, .func (.func 78) #[] #[.pointer (some ⟨w.heap.size + 1 + 1, 0, none⟩)], .int .i64 (x.1.1 : Int), .int .u8 x.1.2, undef, undef, undef, undef, undef, undef, undef, undef, undef, undef], defers := [] }) ?assign ?body ?done ?stop
  case kb =>
    have hne : ∀ b j, b < w0.heap.size → (W.putObj l o').cell? ⟨b, j, none⟩ = W.cell? ⟨b, j, none⟩ := fun b j hb => World.cell?_of_block (w := W) (a := ⟨b, j, none⟩) (World.putObj_heap_other (show b ≠ l by omega))
    exact ⟨hne _ _ (by omega), fun j hj ⟨c, hc⟩ => ⟨c, (hne _ _ (by omega)).trans hc⟩⟩
  case o1 =>
    obtain ⟨⟨r', h1, h2⟩, h3, h4⟩ := hs
    exact ⟨⟨r', h1, h2.kept hg hr⟩, h3.kept hg hr, cell_kept h4 hg hr⟩
  case o2 =>
    obtain ⟨h0, ⟨r', h1, h2⟩, h3⟩ := hs
    exact ⟨h0, ⟨r', h1, h2.kept hg hr⟩, h3.kept hg hr⟩
  case assign =>
    rintro l ⟨⟨i, u⟩, hi⟩ W K hK
    simp only [at4]
    gi_wp2
    exact hK
  case body =>
    rintro l pre ⟨⟨i, u⟩, hi⟩ W ⟨⟨⟨r', hr1, hr2⟩, hr3, hr4⟩, hr5⟩ _
    have h2 := Lib.hid hr2
    have h1 := Lib.hid hr1
    have h3 := Lib.hid hr3
    have h5 := Lib.hid hr5
    obtain ⟨c0, c1, c2, c3, f0, f1, f2, f3⟩ := hr2
    clear hr1 hr3 hr5
    have hsnoc : List.map (fun x : At4 => x.1.1) (pre ++ [⟨(i, u), hi⟩]) = List.map (fun x : At4 => x.1.1) pre ++ [i] := by simp
    have hS := Lib.hid hsnoc
    clear hsnoc
    have hK : ∀ v, Kept4 (w.heap.size + 1 + 1) w.heap.size W (W.setCell ⟨w.heap.size, i, none⟩ (.int .u8 v)) := fun v => by
      refine ⟨by simp [go_sem], fun j hj ⟨c, hc⟩ => ?_⟩
      by_cases e : i = j
      · subst e; exact ⟨v, by simp [go_sem, hc]⟩
      · exact ⟨c, by simp [go_sem, hc, e]⟩
    have HK := Lib.hid hK
    clear hK
    rcases (show i = 0 ∨ i = 1 ∨ i = 2 ∨ i = 3 by omega) with rfl | rfl | rfl | rfl
    all_goals
      gi_wp2
      · rename_i hne
        refine ⟨KeepsOthers.setCell _ _ _, ⟨rfl, ⟨_, ?_, h2.out.inc _ (by omega)⟩, h3.out.other (by omega)⟩, h5.out.setCell (Nat.le_refl _) _⟩
        rw [hS.out, Rec.left_snoc, h1.out]
        exact if_neg (by simpa [Rec.inc, Rec.at] using hne)
      · rename_i hne
        refine ⟨KeepsOthers.setCell _ _ _, HK.out _, ⟨⟨_, ?_, h2.out.inc _ (by omega)⟩, h3.out.other (by omega), by simp [go_sem, hr4]⟩, h5.out.setCell (Nat.le_refl _) _⟩
        rw [hS.out, Rec.went_snoc, h1.out]
        exact if_pos (by simpa [Rec.inc, Rec.at] using hne)
  case done =>
    rintro D xs W hD hS ⟨⟨⟨r', hr1, hr2⟩, hr3, hr4⟩, hr5⟩ hK
    have := next_went hwf (hS ▸ hr1)
    subst this
    obtain ⟨c0, c1, c2, c3, f0, f1, f2, f3⟩ := hr2
    obtain ⟨z0, z1, z2, z3, g0, g1, g2, g3⟩ := hr3
    gi_wp2
    have hDW : ((((W.setCell ⟨w.heap.size + 1, 0, none⟩ (.int .u8 r.next.a)).setCell ⟨w.heap.size + 1, 1, none⟩ (.int .u8 r.next.b)).setCell ⟨w.heap.size + 1, 2, none⟩ (.int .u8 r.next.c)).setCell ⟨w.heap.size + 1, 3, none⟩ (.int .u8 r.next.d)).heap[D]? = some (.deferred (some [])) := by
      (repeat rw [Below.heap_setCell _ _ _ _ (by simp; omega)]); exact hK
    have hp := fun j => cell_putObj hDW rfl (.deferred none) rfl (w.heap.size + 1) j
    refine ⟨by simp, .inl ⟨_, _, rfl, run_takeDeferred hDW, ?_⟩⟩
    refine ⟨recV r.next, ?_, rfl, ?_⟩
    · simp [results, Tryd.results52, go_sem, hp, z0, z1, z2, z3]
    · exact Below.trans (by (repeat' (first | (with_reducible exact Below.refl _ _) | (with_reducible refine below_ext ?_ ?_ _) | (with_reducible refine below_al ?_ ?_ _) | (with_reducible refine Below.drew ?_) | (with_reducible refine Below.setCell ?_ ?_ _) | (with_reducible assumption) | (first | (with_reducible exact Nat.le_refl _) | omega | (simp only [World.size_alloc, World.size_setCell, World.size_drew] at *; omega) | (simp at *; omega) | (simp; done))))) (belowK_b (n₀ := w.heap.size) (w := w) (Nat.le_refl _) _ D _ _ (by omega) hDW rfl rfl)
  case stop =>
    rintro D c pre W hD hS ⟨⟨rfl, ⟨r', hr1, hr2⟩, hr3⟩, hr5⟩ hK
    have := next_left hwf hS hr1
    subst this
    obtain ⟨c0, c1, c2, c3, f0, f1, f2, f3⟩ := hr2
    obtain ⟨z0, z1, z2, z3, g0, g1, g2, g3⟩ := hr3
    gi_wp2
    have hDW : ((((W.setCell ⟨w.heap.size + 1, 0, none⟩ (.int .u8 r.next.a)).setCell ⟨w.heap.size + 1, 1, none⟩ (.int .u8 r.next.b)).setCell ⟨w.heap.size + 1, 2, none⟩ (.int .u8 r.next.c)).setCell ⟨w.heap.size + 1, 3, none⟩ (.int .u8 r.next.d)).heap[D]? = some (.deferred (some [])) := by
      (repeat rw [Below.heap_setCell _ _ _ _ (by simp; omega)]); exact hK
    have hp := fun j => cell_putObj hDW rfl (.deferred none) rfl (w.heap.size + 1) j
    refine ⟨by simp, .inl ⟨_, _, rfl, run_takeDeferred hDW, ?_⟩⟩
    refine ⟨recV r.next, ?_, rfl, ?_⟩
    · simp [results, Tryd.results52, go_sem, hp, z0, z1, z2, z3]
    · exact Below.trans (by (repeat' (first | (with_reducible exact Below.refl _ _) | (with_reducible refine below_ext ?_ ?_ _) | (with_reducible refine below_al ?_ ?_ _) | (with_reducible refine Below.drew ?_) | (with_reducible refine Below.setCell ?_ ?_ _) | (with_reducible assumption) | (first | (with_reducible exact Nat.le_refl _) | omega | (simp only [World.size_alloc, World.size_setCell, World.size_drew] at *; omega) | (simp at *; omega) | (simp; done))))) (belowK_b (n₀ := w.heap.size) (w := w) (Nat.le_refl _) _ D _ _ (by omega) hDW rfl rfl)
end Go.Proofs.YtmoebgkfmkdkpaaDoor
