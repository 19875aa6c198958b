/- How a store of files lies in memory; New, Denied, Get. -/
import Derived.Test.YtmoebgkfmkdkpaaDoorMaps
import Derived.Test.YtmoebgkfmkdkpaaDoorSt
import Derived.Test.YtmoebgkfmkdkpaaDoorFileC
namespace Go.Proofs.YtmoebgkfmkdkpaaDoor
open Go.RowKit Go.Proofs
set_option linter.unusedSimpArgs false
set_option linter.unusedVariables false

@[go_sem] theorem getD_some_v {α : Type} (x d : α) : (some x).getD d = x := rfl
@[go_sem] theorem getD_none_v {α : Type} (d : α) : (none : Option α).getD d = d := rfl
@[go_sem] theorem isSome_some_v {α : Type} (x : α) : (some x).isSome = true := rfl
@[go_sem] theorem isSome_none_v {α : Type} : (none : Option α).isSome = false := rfl
@[go_sem] theorem map_some_v {α β : Type} (f : α → β) (x : α) : (some x).map f = some (f x) := rfl
@[go_sem] theorem map_none_v {α β : Type} (f : α → β) : (none : Option α).map f = none := rfl
@[go_sem] theorem run_makeMap_v {P : Program} (t : TypeId) (w : World) : (Instr.makeMap t none).run P w = .ok (.map (some w.heap.size)) (w.alloc (.map #[] 0)) := rfl
abbrev zFile : Value := .agg #[.int .i64 0, .slice none 0 0]
theorem zero_file (w : World) : (zeroValue 28).run Tryd.prog w = .ok zFile w := by kernel_rfl
@[go_sem] theorem run_lookF_ok (W : World) (m : Nat) (n : Int) (h : IntMap (objAt W m)) : (Instr.lookup 58 (.map (some m)) (.int .i64 n) true).run Tryd.prog W = .ok (.tuple #[(mapLook (objAt W m) n).getD zFile, .bool (mapLook (objAt W m) n).isSome]) W :=
  run_look_int Tryd.underlying58 Tryd.underlying3 (zero_file W) h n true
@[go_sem] theorem run_lookF (W : World) (m : Nat) (n : Int) (h : IntMap (objAt W m)) : (Instr.lookup 58 (.map (some m)) (.int .i64 n) false).run Tryd.prog W = .ok ((mapLook (objAt W m) n).getD zFile) W :=
  run_look_int Tryd.underlying58 Tryd.underlying3 (zero_file W) h n false
@[go_sem] theorem run_putF (W : World) (m : Nat) (n : Int) (v : Value) (h : IntMap (objAt W m)) (ha : KeysApart (objAt W m)) : (Instr.mapUpdate 58 (.map (some m)) (.int .i64 n) v).run Tryd.prog W = .ok () (putMap W m n v) :=
  run_update_int Tryd.underlying58 Tryd.underlying3 h ha n v

/-- The value of a file whose records lie in block g, which is its own. -/
abbrev fileV (f : File) (g : Nat) : Value := .agg #[.int .i64 f.perm, .slice (some ⟨g, 0, none⟩) f.recs.length f.recs.length]

structure StoreIn (w : World) (F : Nat → Prop) (p m : Nat) (G : Int → Nat) (s : St) : Prop where
  c0 : w.cell? ⟨p, 0, none⟩ = some (.map (some m))
  c1 : w.cell? ⟨p, 1, none⟩ = some (.int .i64 s.denied)
  fr : ∀ o, w.frozen? ⟨p, o, none⟩ = false
  im : IntMap (objAt w m)
  ka : KeysApart (objAt w m)
  lk : ∀ n, mapLook (objAt w m) n = (s.get n).map (fun f => fileV f (G n))
  row : ∀ n f, s.get n = some f → RecRow w (G n) f.recs ∧ F (G n)
  inj : ∀ n n' f f', s.get n = some f → s.get n' = some f' → G n = G n' → n = n'
  fp : F p
  fm : F m
  lt : ∀ b, F b → b < w.heap.size
  ok : s.Ok
/-- The store s lies at block p, and leads to no other blocks than those of F. -/
def StoreAt (w : World) (F : Nat → Prop) (p : Nat) (s : St) : Prop := ∃ m G, StoreIn w F p m G s
theorem StoreIn.keep {w w' : World} {F : Nat → Prop} {p m : Nat} {G : Int → Nat} {s : St} (h : StoreIn w F p m G s) (hk : ∀ b, F b → w'.heap[b]? = w.heap[b]?) : StoreIn w' F p m G s where
  c0 := (World.cell?_of_block (w := w) (a := ⟨p, 0, none⟩) (hk p h.fp)).trans h.c0
  c1 := (World.cell?_of_block (w := w) (a := ⟨p, 1, none⟩) (hk p h.fp)).trans h.c1
  fr := fun o => (World.frozen?_of_block (w := w) (a := ⟨p, o, none⟩) (hk p h.fp)).trans (h.fr o)
  im := by rw [show objAt w' m = objAt w m from hk m h.fm]; exact h.im
  ka := by rw [show objAt w' m = objAt w m from hk m h.fm]; exact h.ka
  lk := fun n => by rw [show objAt w' m = objAt w m from hk m h.fm]; exact h.lk n
  row := fun n f hf => ⟨(h.row n f hf).1.keep (hk _ (h.row n f hf).2), (h.row n f hf).2⟩
  inj := h.inj
  fp := h.fp
  fm := h.fm
  lt := fun b hb => by
    have := h.lt b hb
    have e := hk b hb
    rw [Array.getElem?_eq_getElem this] at e
    exact (Array.getElem?_eq_some_iff.1 e).1
  ok := h.ok
theorem StoreAt.keep {w w' : World} {F : Nat → Prop} {p : Nat} {s : St} (h : StoreAt w F p s) (hk : ∀ b, F b → w'.heap[b]? = w.heap[b]?) : StoreAt w' F p s := by
  obtain ⟨m, G, h⟩ := h
  exact ⟨m, G, h.keep hk⟩
theorem StoreAt.up {w w' : World} {F : Nat → Prop} {p : Nat} {s : St} (h : StoreAt w F p s) (hb : Below w.heap.size w w') : StoreAt w' F p s := by
  obtain ⟨m, G, h⟩ := h
  exact ⟨m, G, h.keep fun b hF => hb.block b (h.lt b hF)⟩
theorem objAt_lt {w : World} {b : Nat} (h : IntMap (objAt w b)) : b < w.heap.size := by
  obtain ⟨es, clock, e, _⟩ := h
  exact (Array.getElem?_eq_some_iff.1 e).1
theorem StoreIn.pm {w : World} {F : Nat → Prop} {p m : Nat} {G : Int → Nat} {s : St} (h : StoreIn w F p m G s) : p ≠ m := by
  intro e
  subst e
  obtain ⟨es, clock, e, _⟩ := h.im
  have := h.c0
  unfold World.cell? at this
  rw [show w.heap[p]? = some (.map es clock) from e] at this
  cases this
theorem StoreIn.gm {w : World} {F : Nat → Prop} {p m : Nat} {G : Int → Nat} {s : St} (h : StoreIn w F p m G s) {n : Int} {f : File} (hf : s.get n = some f) : G n ≠ m := by
  intro e
  obtain ⟨es, clock, e', _⟩ := h.im
  obtain ⟨cur, hc, _⟩ := (h.row n f hf).1
  rw [e, show w.heap[m]? = some (.map es clock) from e'] at hc
  cases hc
theorem StoreIn.gp {w : World} {F : Nat → Prop} {p m : Nat} {G : Int → Nat} {s : St} (h : StoreIn w F p m G s) {n : Int} {f : File} (hf : s.get n = some f) : G n ≠ p := by
  intro e
  have hl := (good_head (h.ok.get hf).2.1).2.1
  obtain ⟨c, _⟩ := (h.row n f hf).1.cell (List.getElem?_eq_getElem (show 0 < f.recs.length by omega))
  rw [e, Nat.zero_mul] at c
  rw [h.c0] at c
  cases c

/-- Nothing has turned but in blocks of F. -/
structure But (F : Nat → Prop) (w w' : World) : Prop where
  os : w'.os = w.os
  tape : w'.tape = w.tape
  output : w'.output = w.output
  size : w.heap.size ≤ w'.heap.size
  block : ∀ k, k < w.heap.size → ¬ F k → w'.heap[k]? = w.heap[k]?
theorem But.refl (F : Nat → Prop) (w : World) : But F w w := ⟨rfl, rfl, rfl, Nat.le_refl _, fun _ _ _ => rfl⟩
theorem But.of_below {F : Nat → Prop} {w w' : World} (h : Below w.heap.size w w') : But F w w' := ⟨h.os, h.tape, h.output, h.size, fun k hk _ => h.block k hk⟩
theorem But.trans {F F' : Nat → Prop} {a b c : World} (h : But F a b) (k : But F' b c) (hF : ∀ i, i < a.heap.size → ¬ F i → ¬ F' i) : But F a c :=
  ⟨k.os.trans h.os, k.tape.trans h.tape, k.output.trans h.output, Nat.le_trans h.size k.size, fun i hi hn => (k.block i (Nat.lt_of_lt_of_le hi h.size) (hF i hi hn)).trans (h.block i hi hn)⟩
theorem But.below {F : Nat → Prop} {B : Nat} {w w' : World} (h : But F w w') (hB : B ≤ w.heap.size) (hF : ∀ b, F b → B ≤ b) : Below B w w' :=
  ⟨h.os, h.tape, h.output, h.size, fun k hk => h.block k (Nat.lt_of_lt_of_le hk hB) (fun hf => absurd (hF k hf) (by omega))⟩
theorem But.ext {F : Nat → Prop} {a w : World} (h : But F a w) (x : GrownT w) : But F a (grownTo w x) := h.trans (But.of_below (F := fun _ => False) x.below) (fun _ _ _ h => h)
theorem But.al {F : Nat → Prop} {a w : World} (h : But F a w) (o : Obj) : But F a (w.alloc o) := h.trans (But.of_below (F := fun _ => False) ((Below.refl _ _).alloc (Nat.le_refl _) o)) (fun _ _ _ h => h)
theorem But.drew {F : Nat → Prop} {a w : World} (h : But F a w) : But F a w.drew := ⟨h.os, h.tape, h.output, h.size, h.block⟩
theorem But.setCell {F : Nat → Prop} {a w : World} (h : But F a w) {b o : Nat} (hb : F b ∨ a.heap.size ≤ b) (v : Value) : But F a (w.setCell ⟨b, o, none⟩ v) :=
  ⟨h.os, h.tape, h.output, by simpa [World.setCell] using h.size, fun k hk hn => (Below.heap_setCell _ _ _ _ (by intro e; subst e; rcases hb with hb | hb; exact hn hb; omega)).trans (h.block k hk hn)⟩
theorem But.putMap {F : Nat → Prop} {a w : World} (h : But F a w) {m : Nat} (hm : F m ∨ a.heap.size ≤ m) (n : Int) (v : Value) : But F a (putMap w m n v) := by
  refine ⟨h.os, h.tape, h.output, by rw [size_putMap]; exact h.size, fun k hk hn => ?_⟩
  have := objAt_putMap w m n v k
  rw [if_neg (by intro e; subst e; rcases hm with hm | hm; exact hn hm; omega)] at this
  exact this.trans (h.block k hk hn)
theorem StoreIn.apart {w w' : World} {F F' : Nat → Prop} {p m : Nat} {G : Int → Nat} {s : St} (h : StoreIn w F p m G s) (hb : But F' w w') (hF : ∀ b, F b → ¬ F' b) : StoreIn w' F p m G s :=
  h.keep fun b hf => hb.block b (h.lt b hf) (hF b hf)
theorem StoreAt.apart {w w' : World} {F F' : Nat → Prop} {p : Nat} {s : St} (h : StoreAt w F p s) (hb : But F' w w') (hF : ∀ b, F b → ¬ F' b) : StoreAt w' F p s := by
  obtain ⟨m, G, h⟩ := h
  exact ⟨m, G, h.apart hb hF⟩
/-- F' is F, and what is new. -/
def Grow (F : Nat → Prop) (w : World) (F' : Nat → Prop) : Prop := ∀ b, F' b → F b ∨ w.heap.size ≤ b
theorem Grow.refl (F : Nat → Prop) (w : World) : Grow F w F := fun _ h => .inl h
theorem Grow.trans {F F' F'' : Nat → Prop} {w w' : World} (h : Grow F w F') (h' : Grow F' w' F'') (hs : w.heap.size ≤ w'.heap.size) : Grow F w F'' := fun b hb => by
  rcases h' b hb with hb | hb
  · exact h b hb
  · exact .inr (Nat.le_trans hs hb)

/-- A file put in, with a block of its own. -/
theorem StoreIn.put {w w' : World} {F F' : Nat → Prop} {p m : Nat} {G : Int → Nat} {s : St} (h : StoreIn w F p m G s) {n : Int} {f : File} {g : Nat}
    (hm : objAt w' m = some (mapPut (objAt w m) n (fileV f g))) (hk : ∀ b, F b → b ≠ m → w'.heap[b]? = w.heap[b]?) (hr : RecRow w' g f.recs) (hg : ¬ F g) (hF : ∀ b, F' b ↔ F b ∨ b = g) (hok : (s.put n f).Ok) (hs : w.heap.size ≤ w'.heap.size) :
    StoreIn w' F' p m (fun k => if k = n then g else G k) (s.put n f) where
  c0 := (World.cell?_of_block (w := w) (a := ⟨p, 0, none⟩) (hk p h.fp h.pm)).trans h.c0
  c1 := (World.cell?_of_block (w := w) (a := ⟨p, 1, none⟩) (hk p h.fp h.pm)).trans h.c1
  fr := fun o => (World.frozen?_of_block (w := w) (a := ⟨p, o, none⟩) (hk p h.fp h.pm)).trans (h.fr o)
  im := by rw [hm]; exact h.im.put _ _
  ka := by rw [hm]; exact KeysApart.put h.im h.ka _ _
  lk := fun k => by
    rw [hm, mapLook_put h.im, St.get_put]
    split
    · rfl
    · exact h.lk k
  row := fun k f' hf' => by
    rw [St.get_put] at hf'
    split at hf'
    · rename_i e
      cases hf'
      exact ⟨by rw [if_pos e]; exact hr, by rw [if_pos e]; exact (hF g).2 (.inr rfl)⟩
    · rename_i e
      rw [if_neg e]
      exact ⟨(h.row k f' hf').1.keep (hk _ (h.row k f' hf').2 (h.gm hf')), (hF _).2 (.inl (h.row k f' hf').2)⟩
  inj := fun k k' f1 f2 h1 h2 e => by
    rw [St.get_put] at h1 h2
    split at h1
    · rename_i e1
      split at h2
      · rename_i e2; rw [e1, e2]
      · rename_i e2
        rw [if_pos e1, if_neg e2] at e
        exact absurd (e ▸ (h.row k' f2 h2).2) hg
    · rename_i e1
      split at h2
      · rename_i e2
        rw [if_neg e1, if_pos e2] at e
        exact absurd (e ▸ (h.row k f1 h1).2) hg
      · rename_i e2
        rw [if_neg e1, if_neg e2] at e
        exact h.inj k k' f1 f2 h1 h2 e
  fp := (hF _).2 (.inl h.fp)
  fm := (hF _).2 (.inl h.fm)
  lt := fun b hb => by
    rcases (hF b).1 hb with hb | rfl
    · exact Nat.lt_of_lt_of_le (h.lt b hb) hs
    · exact hr.block
  ok := hok
end Go.Proofs.YtmoebgkfmkdkpaaDoor
