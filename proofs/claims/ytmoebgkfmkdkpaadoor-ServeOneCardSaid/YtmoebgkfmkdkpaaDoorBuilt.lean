/- Lists that a call builds: slices of its own, element by element; append of what came in. -/
import Derived.Test.YtmoebgkfmkdkpaaDoorKd
import Derived.Maps.AppendAt
import Derived.Deep.AppendLies
namespace Go.Proofs.YtmoebgkfmkdkpaaDoor
open Go.RowKit

/-- v is a slice of the call's own that reads as xs; cs: its cells; what these lead to lies in blocks of F, which are not v's own. -/
structure Built {α : Type} (k : Kd α) (e : TypeId) (w : World) (base : Nat) (F : Nat → Prop) (v : Value) (xs : List α) (cs : List Value) : Prop where
  own : w.ownsRow base e k.sz v xs.length cs
  L : k.L w F xs cs
  ap : ∀ b, F b → b < w.heap.size ∧ v.ownBlock ≠ some b
namespace Built
variable {α : Type} {k : Kd α} {e : TypeId} {w w' W : World} {base : Nat} {F G : Nat → Prop} {v : Value} {xs : List α} {cs : List Value}
theorem nil_ : Built k e w base (fun _ => False) (.slice none 0 0) [] [] := ⟨World.ownsRow_nil _ _ _ _, rfl, fun _ h => h.elim⟩
theorem mono (h : Built k e w base F v xs cs) (hFG : ∀ b, F b → G b) (hG : ∀ b, G b → b < w.heap.size ∧ v.ownBlock ≠ some b) : Built k e w base G v xs cs :=
  ⟨h.own, Kd.L_mono h.L hFG, hG⟩
theorem lt (h : Built k e w base F v xs cs) : ∀ b, v.ownBlock = some b → base ≤ b ∧ b < w.heap.size := fun b hb => h.own.lt b hb
/-- Whatever leaves the old blocks alone. -/
theorem up (h : Built k e w base F v xs cs) (hb : Below w.heap.size w W) : Built k e W base F v xs cs where
  own := h.own.kept (row := none) ⟨hb.os, hb.tape, hb.output, hb.size, fun i hi _ => hb.block i hi⟩ (by cases v.ownBlock <;> simp)
  L := Kd.L_keep h.L fun b hF => hb.block b (h.ap b hF).1
  ap := fun b hF => ⟨Nat.lt_of_lt_of_le (h.ap b hF).1 hb.size, (h.ap b hF).2⟩
/-- Whatever leaves its blocks alone. -/
theorem keep (h : Built k e w base F v xs cs) (hs : w.heap.size ≤ W.heap.size) (hF : ∀ b, F b → W.heap[b]? = w.heap[b]?) (hv : ∀ b, v.ownBlock = some b → W.heap[b]? = w.heap[b]?) : Built k e W base F v xs cs where
  own := by
    obtain ⟨q1, q2⟩ := h.own
    refine ⟨q1, ?_⟩
    rcases q2 with q2 | ⟨g, cap, cur, rfl, q3, q4, q5⟩
    · exact .inl q2
    · exact .inr ⟨g, cap, cur, rfl, q3, (hv g rfl).trans q4, q5⟩
  L := Kd.L_keep h.L hF
  ap := fun b hb => ⟨Nat.lt_of_lt_of_le (h.ap b hb).1 hs, (h.ap b hb).2⟩
/-- The list as what it reads as. -/
theorem sl (h : Built k e w base F v xs cs) (hb : xs.length * k.bytes ≤ big) (hG : ∀ b, F b ∨ v.ownBlock = some b → G b) : Sl k w G v xs :=
  Sl.of_owns h.own (Kd.L_mono h.L fun b hF => hG b (.inl hF)) rfl hb fun b hv => hG b (.inr hv)
theorem form (h : Built k e w base F v xs cs) : ∃ a c, v = .slice a xs.length c ∧ xs.length ≤ c ∧ c ≤ 9223372036854775807 := by
  obtain ⟨h1, ⟨rfl, h2⟩ | ⟨g, cap, cur, rfl, h3, h4, h5, h6, h7, h8⟩⟩ := h.own
  · exact ⟨none, 0, by rw [h2], by omega, by omega⟩
  · exact ⟨some ⟨g, 0, none⟩, cap, rfl, h5, h6⟩
/-- Elements more; W: the world in which they are appended. -/
theorem more {ys : List α} {ds : List Value} {g c : Nat} (h : Built k e w base F v xs cs) (hb : Below w.heap.size w W) (hG : k.L W G ys ds) (hG' : ∀ b, G b → b < W.heap.size ∧ v.ownBlock ≠ some b)
    (hown : w'.ownsRow base e k.sz (.slice (some ⟨g, 0, none⟩) (xs.length + ys.length) c) (xs.length + ys.length) (cs ++ ds)) (hgrow : W.grownBy w' v.ownBlock) (hlies : v.ownBlock = some g ∨ W.heap.size ≤ g) :
    Built k e w' base (fun b => F b ∨ G b) (.slice (some ⟨g, 0, none⟩) (xs ++ ys).length c) (xs ++ ys) (cs ++ ds) where
  own := by rw [List.length_append]; exact hown
  L := by
    have e1 : ∀ b, F b → w'.heap[b]? = w.heap[b]? := fun b hF =>
      (hgrow.block b (Nat.lt_of_lt_of_le (h.ap b hF).1 hb.size) (fun e => (h.ap b hF).2 e.symm)).trans (hb.block b (h.ap b hF).1)
    have e2 : ∀ b, G b → w'.heap[b]? = W.heap[b]? := fun b hF => hgrow.block b (hG' b hF).1 (fun e => (hG' b hF).2 e.symm)
    exact Kd.L_append (Kd.L_mono (Kd.L_keep h.L e1) fun b hF => .inl hF) (Kd.L_mono (Kd.L_keep hG e2) fun b hF => .inr hF)
  ap := fun b hb' => by
    have key : b < W.heap.size → v.ownBlock ≠ some b → b < w'.heap.size ∧ (Value.slice (some ⟨g, 0, none⟩) (xs ++ ys).length c).ownBlock ≠ some b := fun hlt hne => by
      refine ⟨Nat.lt_of_lt_of_le hlt hgrow.size, ?_⟩
      intro e
      simp only [Value.ownBlock, Option.some.injEq] at e
      subst e
      rcases hlies with e | e
      · exact hne e
      · omega
    rcases hb' with hF | hF
    · exact key (Nat.lt_of_lt_of_le (h.ap b hF).1 hb.size) (h.ap b hF).2
    · exact key (hG' b hF).1 (hG' b hF).2
/-- The next element of a list. -/
theorem snoc {n : Nat} {x : α} {ds : List Value} {g c : Nat} {F' : Nat → Prop} (hx : xs[n]? = some x) (h : Built k e w base F v (xs.take n) cs) (hb : Below w.heap.size w W) (hR : k.R W G x ds) (hG' : ∀ b, G b → b < W.heap.size ∧ v.ownBlock ≠ some b) (hF' : ∀ b, F' b ↔ F b ∨ G b)
    (hown : w'.ownsRow base e k.sz (.slice (some ⟨g, 0, none⟩) (n + 1) c) (n + 1) (cs ++ ds)) (hgrow : W.grownBy w' v.ownBlock) (hlies : v.ownBlock = some g ∨ W.heap.size ≤ g) :
    Built k e w' base F' (.slice (some ⟨g, 0, none⟩) (n + 1) c) (xs.take (n + 1)) (cs ++ ds) := by
  have hn : n < xs.length := (List.getElem?_eq_some_iff.1 hx).1
  have e1 : xs.take (n + 1) = xs.take n ++ [x] := by rw [List.take_add_one, hx]; rfl
  have hl : (xs.take n).length = n := by rw [List.length_take]; omega
  have hm := h.more (ys := [x]) (ds := ds) (g := g) (c := c) (w' := w') hb (Kd.L_one hR) hG' (by rw [hl]; exact hown) hgrow hlies
  rw [← e1, show (xs.take (n + 1)).length = n + 1 by rw [List.length_take]; omega] at hm
  exact hm.mono (fun b hb => (hF' b).2 hb) (fun b hb => hm.ap b ((hF' b).1 hb))
/-- What has become of the world. -/
theorem below {B : Nat} {w0 : World} (h : Built k e w base F v xs cs) (hB : B ≤ base) (hw : Below B w0 W) (hs : base ≤ W.heap.size) (hgrow : W.grownBy w' v.ownBlock) : Below B w0 w' :=
  hw.grown hgrow (Nat.le_trans hB hs) (fun b e => Nat.le_trans hB (h.lt b e).1)
end Built

/-- The cells of a slice that came in. -/
theorem Sl.flat_cells {α : Type} {k : Kd α} {w : World} {F : Nat → Prop} {a : Option Addr} {n c : Nat} {xs : List α} (h : Sl k w F (.slice a n c) xs) (h0 : 0 < n) : ∃ b o cs, a = some ⟨b, o, none⟩ ∧ F b ∧ b < w.heap.size ∧ k.L w F xs cs ∧ cs.length = n * k.sz ∧ (∀ j u, cs[j]? = some u → w.cell? ((⟨b, o, none⟩ : Addr).add j) = some u) := by
  obtain ⟨a', c', cs, e, h1, h2, h3, h4⟩ := h
  cases e
  obtain ⟨b, o, rfl, hF, hlt, hcs⟩ := h4 (by omega)
  exact ⟨b, o, cs, rfl, hF, hlt, h3, Kd.L_len h3, fun j u hu => by rw [Addr.add_lit]; exact hcs j u hu⟩
/-- A part of a slice. -/
theorem Kd.L_drop {α : Type} {k : Kd α} {w : World} {F : Nat → Prop} : ∀ {xs : List α} {cs : List Value} (n : Nat), k.L w F xs cs → k.L w F (xs.drop n) (cs.drop (n * k.sz))
  | xs, cs, 0, h => by simpa using h
  | [], cs, n + 1, h => by simp [show cs = [] from h, Kd.L]
  | x :: xs, _, n + 1, ⟨c0, c1, e, h0, h1⟩ => by
    subst e
    have := L_drop n h1
    have hl := k.len h0
    have e0 : c0.drop ((n + 1) * k.sz) = [] := List.drop_of_length_le (by rw [hl, Nat.add_mul]; omega)
    rw [List.drop_succ_cons, List.drop_append, e0, hl, show (n + 1) * k.sz - k.sz = n * k.sz by rw [Nat.add_mul]; omega]
    exact this
theorem Kd.L_take {α : Type} {k : Kd α} {w : World} {F : Nat → Prop} : ∀ {xs : List α} {cs : List Value} (n : Nat), k.L w F xs cs → k.L w F (xs.take n) (cs.take (n * k.sz))
  | xs, cs, 0, h => by simp [Kd.L]
  | [], cs, n + 1, h => by simp [show cs = [] from h, Kd.L]
  | x :: xs, _, n + 1, ⟨c0, c1, e, h0, h1⟩ => by
    subst e
    have := L_take n h1
    have hl := k.len h0
    refine ⟨c0, c1.take (n * k.sz), ?_, h0, this⟩
    rw [List.take_append, List.take_of_length_le (by rw [hl, Nat.add_mul]; omega), hl, show (n + 1) * k.sz - k.sz = n * k.sz by rw [Nat.add_mul]; omega]
theorem Kd.L_oneCell {α : Type} {k : Kd α} (hk : ∀ {w F x cs}, k.R w F x cs → ∀ u ∈ cs, u.oneCell' = true) {w : World} {F : Nat → Prop} : ∀ {xs : List α} {cs : List Value}, k.L w F xs cs → ∀ u ∈ cs, u.oneCell' = true
  | [], cs, h, u, hu => by rw [show cs = [] from h] at hu; cases hu
  | x :: xs, _, ⟨c0, c1, e, h0, h1⟩, u, hu => by
    subst e
    rcases List.mem_append.1 hu with hu | hu
    · exact hk h0 u hu
    · exact L_oneCell hk h1 u hu

/-- append of nothing. -/
theorem run_append_zero {P : Program} (w : World) (base : Nat) (t ty e : TypeId) (i : TypeInfo) (size : Nat) (ht : P.underlying t = some (.slice e)) (hi : P.info? e = some i)
    (v : Value) (n : Nat) (xs : List Value) (hown : w.ownsRow base e size v n xs) (A : Option Addr) (c : Nat) : (Builtin.append_ #[t, t] ty #[v, .slice A 0 c]).run P w = .ok v w := by
  have hl : ∀ a : Addr, (loadCells a 0).run P w = .ok #[] w := fun a => by simpa using run_loadCells_list (P := P) (w := w) a [] (fun j v h => by simp at h)
  rcases hown.2 with ⟨rfl, rfl⟩ | ⟨g, cap, cur, rfl, _, _, hnc, _⟩
  · cases A <;> simp [hl, Builtin.append_, run_underlying ht, sizeOf, typeInfo, hi, Builtin.lenOf, Builtin.firstCells]
  · cases A <;> simp [hl, Builtin.append_, run_underlying ht, sizeOf, typeInfo, hi, Builtin.lenOf, Builtin.firstCells, hnc, storeCells]
theorem wp_append_zero {P : Program} {w : World} {o : Oper} {a : Act} {K : Act → World → Prop} {Q : Exit → Act → World → Prop} (s x : Operand) (t : TypeId) (ho : o.op = .call { callee := .builtin .append, args := #[s, x], argTypes := #[t, t] })
    (base : Nat) (e : TypeId) (i : TypeInfo) (size : Nat) (ht : P.underlying t = some (.slice e)) (hi : P.info? e = some i) (v : Value) (n : Nat) (xs : List Value) (hs : a.eval s = v) (hown : w.ownsRow base e size v n xs)
    (A : Option Addr) (c : Nat) (hx : a.eval x = .slice A 0 c) (h : K (a.put o.dst v) w) : o.wp P a w K Q := by
  have hrun := run_append_zero (P := P) w base t o.type e i size ht hi v n xs hown A c
  unfold Oper.wp execOp
  simp only [ho, resolve, invoke, builtin, Sem.run_bind, Sem.run_pure, Result.andThen_ok, List.map_toArray, List.map_cons, List.map_nil, hs, hx, hrun]
  exact h
theorem step_append_zero {P : Program} {w : World} {ops : Array Oper} {o : Oper} {a : Act} {K : Act → World → Prop} {Q : Exit → Act → World → Prop} {E : Prop} (hgd : o.guard = none) (s x : Operand) (t : TypeId) (ho : o.op = .call { callee := .builtin .append, args := #[s, x], argTypes := #[t, t] })
    (base : Nat) (e : TypeId) (i : TypeInfo) (size : Nat) (ht : P.underlying t = some (.slice e)) (hi : P.info? e = some i) (v : Value) (n : Nat) (xs : List Value) (hs : a.eval s = v) (hown : w.ownsRow base e size v n xs)
    (A : Option Addr) (m c : Nat) (hx : a.eval x = .slice A m c) (hm : m = 0) (h : K (a.put o.dst v) w) : if Region.wanted o (yielded ops a.tmps) = true then Oper.wp P o a w K Q else E := by
  subst hm
  have hw : Region.wanted o (yielded ops a.tmps) = true := by simp [Region.wanted, hgd]
  rw [if_pos hw]
  exact wp_append_zero s x t ho base e i size ht hi v n xs hs hown A c hx h
end Go.Proofs.YtmoebgkfmkdkpaaDoor
