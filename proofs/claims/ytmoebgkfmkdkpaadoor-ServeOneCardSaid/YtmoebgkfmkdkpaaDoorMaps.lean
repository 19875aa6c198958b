/- Maps with numbers as keys: what the walk reads of them, and what it writes. -/
import Derived.Test.YtmoebgkfmkdkpaaDoorErrs
import Derived.MapKept
import Derived.RangeFuncRecord
namespace Go.Proofs.YtmoebgkfmkdkpaaDoor
open Go.RowKit Go.Proofs
set_option linter.unusedSimpArgs false
set_option linter.unusedVariables false

/-- What block b holds. -/
def objAt (w : World) (b : Nat) : Option Obj := w.heap[b]?
def setIn : Option Obj → Nat → Value → Option Obj
  | some (.cells c t f), o, v => some (.cells (c.setIfInBounds o v) t f)
  | x, _, _ => x
@[go_sem] theorem objAt_alloc (w : World) (u : Obj) (b : Nat) : objAt (w.alloc u) b = if b < w.heap.size then objAt w b else if b = w.heap.size then some u else none := by
  simp only [objAt, World.alloc, Array.getElem?_push]
  split
  · rename_i h
    subst h; simp
  · split
    · rfl
    · rename_i h1 h2
      exact Array.getElem?_eq_none (by omega)
@[go_sem] theorem objAt_setCell (w : World) (b o c : Nat) (v : Value) : objAt (w.setCell ⟨b, o, none⟩ v) c = if b = c then setIn (objAt w c) o v else objAt w c := by
  simp only [objAt, World.setCell, Array.getElem?_modify]
  split
  · rename_i h
    subst h
    cases h : w.heap[b]? with
    | none => rfl
    | some u => cases u <;> rfl
  · rfl
@[go_sem] theorem objAt_drew (w : World) (b : Nat) : objAt w.drew b = objAt w b := rfl
@[go_sem] theorem objAt_grownTo (w : World) (x : GrownT w) (b : Nat) : objAt (grownTo w x) b = if b < w.heap.size then objAt w b else objAt x.to b := by
  split
  · exact x.below.block b ‹_›
  · rfl

/-- A map whose keys are numbers. -/
def IntMap (o : Option Obj) : Prop := ∃ es clock, o = some (.map es clock) ∧ ∀ e ∈ es.toList, ∃ n, e.key = .int .i64 n
def lookIn (es : List MapEntry) (n : Int) : Option Value := (es.find? (fun e => match e.key with | .int .i64 k => k == n | _ => false)).map (·.val)
/-- What a map has at a number. -/
def mapLook (o : Option Obj) (n : Int) : Option Value := match o with | some (.map es _) => lookIn es.toList n | _ => none
def keyIs (n : Int) (e : MapEntry) : Bool := match e.key with | .int .i64 k => k == n | _ => false
def mapPut (o : Option Obj) (n : Int) (v : Value) : Obj := match o with
  | some (.map es clock) => if es.toList.any (keyIs n) then .map (es.toList.map (fun e => if keyIs n e then { e with key := .int .i64 n, val := v } else e)).toArray clock else .map (es.push { key := .int .i64 n, val := v, born := clock }) (clock + 1)
  | _ => .map #[] 0
def putMap (w : World) (m : Nat) (n : Int) (v : Value) : World := w.putObj m (mapPut (objAt w m) n v)
theorem mapPut_isMap (o : Option Obj) (n : Int) (v : Value) : ∃ es clock, mapPut o n v = .map es clock := by
  unfold mapPut
  split
  · split <;> exact ⟨_, _, rfl⟩
  · exact ⟨_, _, rfl⟩
@[go_sem] theorem size_putMap (w : World) (m : Nat) (n : Int) (v : Value) : (putMap w m n v).heap.size = w.heap.size := by simp [putMap]
@[go_sem] theorem objAt_putMap (w : World) (m : Nat) (n : Int) (v : Value) (b : Nat) : objAt (putMap w m n v) b = if m = b then (objAt w b).map (fun _ => mapPut (objAt w b) n v) else objAt w b := by
  split
  · rename_i h
    subst h
    simp only [objAt, putMap, World.putObj, Array.getElem?_setIfInBounds, if_true]
    split
    · rename_i h; rw [Array.getElem?_eq_getElem h]; simp
    · rename_i h; rw [Array.getElem?_eq_none (by omega)]; simp
  · rename_i h
    exact World.putObj_heap_other (fun e => h e.symm)
@[go_sem] theorem cell?_putMap (w : World) (m : Nat) (n : Int) (v : Value) (b o : Nat) : (putMap w m n v).cell? ⟨b, o, none⟩ = if m = b then none else w.cell? ⟨b, o, none⟩ := by
  have h := objAt_putMap w m n v b
  unfold objAt at h
  obtain ⟨es, clock, e⟩ := mapPut_isMap (w.heap[b]?) n v
  split
  · rename_i hm
    rw [if_pos hm] at h
    rw [e] at h
    unfold World.cell?
    simp only [h]
    cases w.heap[b]? <;> rfl
  · rename_i hm
    rw [if_neg hm] at h
    exact World.cell?_of_block (w := w) (a := ⟨b, o, none⟩) h
@[go_sem] theorem frozen?_putMap (w : World) (m : Nat) (n : Int) (v : Value) (b o : Nat) : (putMap w m n v).frozen? ⟨b, o, none⟩ = if m = b then false else w.frozen? ⟨b, o, none⟩ := by
  have h := objAt_putMap w m n v b
  unfold objAt at h
  obtain ⟨es, clock, e⟩ := mapPut_isMap (w.heap[b]?) n v
  split
  · rename_i hm
    rw [if_pos hm, e] at h
    unfold World.frozen?
    simp only [h]
    cases w.heap[b]? <;> rfl
  · rename_i hm
    rw [if_neg hm] at h
    exact World.frozen?_of_block (w := w) (a := ⟨b, o, none⟩) h

theorem findNow_int {es : List MapEntry} (h : ∀ e ∈ es, ∃ n, e.key = .int .i64 n) (n : Int) : ∀ i, (Instr.findNow (.int .i64) (.int .i64 n) es i).map (·.map (·.2)) = some (lookIn es n) := by
  induction es with
  | nil => intro i; rfl
  | cons e es ih =>
    intro i
    obtain ⟨k, hk⟩ := h e (by simp)
    have ih' := ih (fun e he => h e (by simp [he]))
    simp only [Instr.findNow, hk, Instr.sameNow, if_true]
    by_cases hn : n = k
    · subst hn
      simp [lookIn, List.find?_cons, hk]
    · have h1 : (n == k) = false := by simp [hn]
      have h2 : (k == n) = false := by simp; omega
      simp only [h1]
      rw [ih' (i + 1)]
      simp [lookIn, List.find?_cons, hk, h2]

theorem checkKey_int {P : Program} {k : TypeId} (b : Bool) (d : Nat) (hk : P.underlying k = some (.int .i64)) (n : Int) (W : World) : (Instr.checkKey b (d + 1) k (.int .i64 n)).run P W = .ok () W := by
  simp [Instr.checkKey, run_underlying hk]
theorem run_look_int {P : Program} {T k e : TypeId} (hT : P.underlying T = some (.map k e)) (hk : P.underlying k = some (.int .i64)) {z : Value} {W : World} (hz : (zeroValue e).run P W = .ok z W) {m : Nat} (h : IntMap (objAt W m)) (n : Int) (c : Bool) :
    (Instr.lookup T (.map (some m)) (.int .i64 n) c).run P W = .ok (if c then .tuple #[(mapLook (objAt W m) n).getD z, .bool (mapLook (objAt W m) n).isSome] else (mapLook (objAt W m) n).getD z) W := by
  obtain ⟨es, clock, ho, hks⟩ := h
  have hb : W.heap[m]? = some (.map es clock) := ho
  have hf := findNow_int hks n 0
  rw [ho]
  cases hh : Instr.findNow (.int .i64) (.int .i64 n) es.toList 0 with
  | none => rw [hh] at hf; cases hf
  | some r =>
    rw [hh] at hf
    have hl : mapLook (some (.map es clock)) n = r.map (·.2) := by simpa [mapLook] using hf.symm
    rw [hl]
    have hc := checkKey_int (P := P) es.isEmpty 9999 hk n W
    cases r with
    | none => simp [Instr.lookup, run_underlying hT, MapKept.run_getObj_map hb, hc, Instr.findKey, run_underlying hk, hh, hz, Result.andThen]; try (cases c <;> rfl)
    | some x => simp [Instr.lookup, run_underlying hT, MapKept.run_getObj_map hb, hc, Instr.findKey, run_underlying hk, hh, Result.andThen]; try (cases c <;> rfl)

theorem checkStays (n : Int) : Instr.sameBits 10000 (.int .i64 n) (.int .i64 n) = true := by simp [Instr.sameBits]
theorem findNow_at {es : List MapEntry} (h : ∀ e ∈ es, ∃ n, e.key = .int .i64 n) (n : Int) : ∀ i, (es.any (keyIs n) = false ∧ Instr.findNow (.int .i64) (.int .i64 n) es i = some none) ∨ ∃ j e, es[j]? = some e ∧ keyIs n e = true ∧ (∀ j' < j, ∀ e', es[j']? = some e' → keyIs n e' = false) ∧ Instr.findNow (.int .i64) (.int .i64 n) es i = some (some (i + j, e.val)) := by
  induction es with
  | nil => intro i; exact .inl ⟨rfl, rfl⟩
  | cons e es ih =>
    intro i
    obtain ⟨k, hk⟩ := h e (by simp)
    by_cases hn : n = k
    · subst hn
      refine .inr ⟨0, e, rfl, by simp [keyIs, hk], fun j' hj' => by omega, ?_⟩
      simp [Instr.findNow, hk, Instr.sameNow]
    · have h1 : (n == k) = false := by simp [hn]
      have h2 : keyIs n e = false := by simp [keyIs, hk]; omega
      rcases ih (fun e he => h e (by simp [he])) (i + 1) with ⟨h3, h4⟩ | ⟨j, e', h3, h4, h5, h6⟩
      · exact .inl ⟨by simp [h2, h3], by simp [Instr.findNow, hk, Instr.sameNow, h1, h4]⟩
      · refine .inr ⟨j + 1, e', h3, h4, ?_, by simp [Instr.findNow, hk, Instr.sameNow, h1, h6]; omega⟩
        intro j' hj' e'' he''
        cases j' with
        | zero => cases he''; exact h2
        | succ j' => exact h5 j' (by omega) e'' he''

/-- The keys are apart, and the entries' stamps in order. -/
def KeysApart (o : Option Obj) : Prop := ∀ es clock, o = some (.map es clock) → MapKept.Stamped es clock
theorem KeysApart.pair {o : Option Obj} (h : KeysApart o) {es : Array MapEntry} {clock : Nat} (e : o = some (.map es clock)) : es.toList.Pairwise (fun x y => x.key ≠ y.key) := by
  have := (h es clock e).2.2
  unfold List.Nodup at this
  exact List.pairwise_map.1 this
theorem modify_map {es : List MapEntry} (hp : es.Pairwise (fun x y => x.key ≠ y.key)) (h : ∀ e ∈ es, ∃ n, e.key = .int .i64 n) (n : Int) (v : Value) (f : MapEntry → MapEntry) (hf : ∀ e, keyIs n e = true → f e = { e with key := .int .i64 n, val := v }) : ∀ j e, es[j]? = some e → keyIs n e = true → es.modify j f = es.map (fun e => if keyIs n e then { e with key := .int .i64 n, val := v } else e) := by
  induction es with
  | nil => intro j e he; simp at he
  | cons x xs ih =>
    intro j e he hk
    have hkey : ∀ e, keyIs n e = true → e.key = .int .i64 n := by
      intro e he
      unfold keyIs at he
      split at he
      · rename_i k hk; rw [hk]; simp at he; rw [he]
      · cases he
    cases j with
    | zero =>
      cases he
      have : ∀ y ∈ xs, keyIs n y = false := by
        intro y hy
        cases hh : keyIs n y with
        | false => rfl
        | true => exact absurd ((hkey x hk).trans (hkey y hh).symm) ((List.pairwise_cons.1 hp).1 y hy)
      simp only [List.modify_zero_cons, List.map_cons, hk, if_true, hf x hk]
      congr 1
      conv => lhs; rw [← List.map_id xs]
      exact List.map_congr_left fun y hy => by simp [this y hy]
    | succ j =>
      simp only [List.getElem?_cons_succ] at he
      have hx : keyIs n x = false := by
        cases hh : keyIs n x with
        | false => rfl
        | true => exact absurd ((hkey x hh).trans (hkey e hk).symm) ((List.pairwise_cons.1 hp).1 e (List.mem_of_getElem? he))
      simp only [List.modify_succ_cons, List.map_cons, hx, Bool.false_eq_true, if_false]
      congr 1
      exact ih (List.pairwise_cons.1 hp).2 (fun e he => h e (by simp [he])) j e he hk

theorem run_update_int {P : Program} {T k e : TypeId} (hT : P.underlying T = some (.map k e)) (hk : P.underlying k = some (.int .i64)) {W : World} {m : Nat} (h : IntMap (objAt W m)) (ha : KeysApart (objAt W m)) (n : Int) (v : Value) :
    (Instr.mapUpdate T (.map (some m)) (.int .i64 n) v).run P W = .ok () (putMap W m n v) := by
  obtain ⟨es, clock, ho, hks⟩ := h
  have hb : W.heap[m]? = some (.map es clock) := ho
  have hap := ha.pair ho
  have hc := checkKey_int (P := P) false 9999 hk n W
  rcases findNow_at hks n 0 with ⟨h1, h2⟩ | ⟨j, e, h1, h2, h3, h4⟩
  · have h1' : es.any (keyIs n) = false := by simpa using h1
    have h1a : (es.toList.any (keyIs n)) = false := h1
    simp [Instr.mapUpdate, run_underlying hT, MapKept.run_getObj_map hb, hc, Instr.findKey, run_underlying hk, h2, MapKept.run_setObj_map _ hb, Result.andThen, putMap, mapPut, ho, h1', h1a, World.putObj]
  · have h1a : (es.toList.any (keyIs n)) = true := List.any_eq_true.2 ⟨e, List.mem_of_getElem? h1, h2⟩
    have h1' : es.any (keyIs n) = true := by simpa using h1a
    have hkey : e.key = .int .i64 n := by
      unfold keyIs at h2
      split at h2
      · rename_i k hk; rw [hk]; simp at h2; rw [h2]
      · cases h2
    have he : es[j]? = some e := by simpa using h1
    have hm := modify_map hap hks n v (fun e' => { e' with key := .int .i64 n, val := v }) (fun _ _ => rfl) j e h1 h2
    have hm' : es.modify j (fun e' => { e' with key := .int .i64 n, val := v }) = (es.toList.map (fun e => if keyIs n e then { e with key := .int .i64 n, val := v } else e)).toArray := by
      apply Array.ext'
      rw [Array.toList_modify, hm]
    have hks' : (Instr.keyThatStays (.int .i64 n) (.int .i64 n)).run P W = .ok (.int .i64 n) W := by
      unfold Instr.keyThatStays
      rw [checkStays]; rfl
    simp only [Nat.zero_add] at h4
    simp only [Instr.mapUpdate]
    simp [run_underlying hT, MapKept.run_getObj_map hb, hc, Instr.findKey, run_underlying hk, h4, he, hkey, hks', MapKept.run_setObj_map _ hb, Result.andThen, putMap, mapPut, ho, h1', h1a, World.putObj, hm']

theorem IntMap.put {o : Option Obj} (h : IntMap o) (n : Int) (v : Value) : IntMap (some (mapPut o n v)) := by
  obtain ⟨es, clock, rfl, hk⟩ := h
  unfold mapPut
  dsimp only
  split
  · refine ⟨_, _, rfl, fun e he => ?_⟩
    simp only [List.mem_map] at he
    obtain ⟨e', he', rfl⟩ := he
    split
    · exact ⟨n, rfl⟩
    · exact hk e' he'
  · refine ⟨_, _, rfl, fun e he => ?_⟩
    simp only [Array.toList_push, List.mem_append, List.mem_singleton] at he
    rcases he with he | rfl
    · exact hk e he
    · exact ⟨n, rfl⟩
theorem keyIs_of {n : Int} {e : MapEntry} (h : e.key = .int .i64 n) : keyIs n e = true := by simp [keyIs, h]
theorem keyIs_eq {n : Int} {e : MapEntry} (h : keyIs n e = true) : e.key = .int .i64 n := by
  unfold keyIs at h
  split at h
  · rename_i k hk; rw [hk]; simp at h; rw [h]
  · cases h
theorem KeysApart.put {o : Option Obj} (h : IntMap o) (ha : KeysApart o) (n : Int) (v : Value) : KeysApart (some (mapPut o n v)) := by
  obtain ⟨es, clock, rfl, hk⟩ := h
  obtain ⟨h1, h2, h3⟩ := ha es clock rfl
  intro es' clock' e
  unfold mapPut at e
  dsimp only at e
  split at e
  · cases e
    have e1 : ∀ x : MapEntry, (if keyIs n x then ({ x with key := .int .i64 n, val := v } : MapEntry) else x).key = x.key := by
      intro x
      split
      · exact (keyIs_eq ‹_›).symm
      · rfl
    have e2 : ∀ x : MapEntry, (if keyIs n x then ({ x with key := .int .i64 n, val := v } : MapEntry) else x).born = x.born := by
      intro x
      split <;> rfl
    refine ⟨?_, ?_, ?_⟩
    · intro x hx
      simp only [List.mem_map] at hx
      obtain ⟨y, hy, rfl⟩ := hx
      rw [e2]; exact h1 y hy
    · simp only [List.map_map]
      rw [show ((fun x : MapEntry => x.born) ∘ fun e => if keyIs n e then ({ e with key := .int .i64 n, val := v } : MapEntry) else e) = (fun x => x.born) from funext e2]
      exact h2
    · simp only [List.map_map]
      rw [show ((fun x : MapEntry => x.key) ∘ fun e => if keyIs n e then ({ e with key := .int .i64 n, val := v } : MapEntry) else e) = (fun x => x.key) from funext e1]
      exact h3
  · rename_i hn
    cases e
    exact MapKept.stamped_push ⟨h1, h2, h3⟩ (fun x hx e => hn (List.any_eq_true.2 ⟨x, hx, keyIs_of e⟩))
theorem lookIn_eq (es : List MapEntry) (n : Int) : lookIn es n = (es.find? (keyIs n)).map (·.val) := rfl
theorem mapLook_put {o : Option Obj} (h : IntMap o) (n : Int) (v : Value) (k : Int) : mapLook (some (mapPut o n v)) k = if k = n then some v else mapLook o k := by
  obtain ⟨es, clock, rfl, hk⟩ := h
  unfold mapPut
  dsimp only
  split
  · rename_i hn
    simp only [mapLook, lookIn_eq, List.find?_map, Option.map_map]
    have hcomp : (keyIs k ∘ fun e => if keyIs n e then ({ e with key := .int .i64 n, val := v } : MapEntry) else e) = keyIs k := by
      funext e
      simp only [Function.comp]
      split
      · rename_i h1
        have := keyIs_eq h1
        simp [keyIs, this]
      · rfl
    rw [hcomp]
    split
    · rename_i e; subst e
      obtain ⟨x, hx, hx'⟩ := List.any_eq_true.1 hn
      cases hf : es.toList.find? (keyIs k) with
      | none => exact absurd hx' (by simpa using List.find?_eq_none.1 hf x hx)
      | some y => simp [List.find?_some hf]
    · rename_i hne
      cases hf : es.toList.find? (keyIs k) with
      | none => rfl
      | some y =>
        have h1 := keyIs_eq (List.find?_some hf)
        have : keyIs n y = false := by simp [keyIs, h1, hne]
        simp [this]
  · rename_i hn
    simp only [mapLook, lookIn_eq, Array.toList_push, List.find?_append]
    split
    · rename_i e; subst e
      have : es.toList.find? (keyIs k) = none := by
        rw [List.find?_eq_none]
        intro x hx hx'
        exact hn (List.any_eq_true.2 ⟨x, hx, hx'⟩)
      rw [this]
      simp [keyIs]
    · rename_i hne
      have : (({ key := .int .i64 n, val := v, born := clock } : MapEntry) :: []).find? (keyIs k) = none := by
        simp [keyIs]; omega
      rw [this, Option.or_none]
/-- The keys, in the order of the entries. -/
def mapKeys (o : Option Obj) : List Int := match o with | some (.map es _) => es.toList.filterMap (fun e => match e.key with | .int .i64 k => some k | _ => none) | _ => []
theorem mem_mapKeys {o : Option Obj} (h : IntMap o) (n : Int) : n ∈ mapKeys o ↔ (mapLook o n).isSome = true := by
  obtain ⟨es, clock, rfl, hk⟩ := h
  simp only [mapKeys, mapLook, lookIn_eq, Option.isSome_map, List.find?_isSome, List.mem_filterMap]
  constructor
  · rintro ⟨e, he, h1⟩
    refine ⟨e, he, keyIs_of ?_⟩
    split at h1
    · rename_i k hk; cases h1; exact hk
    · cases h1
  · rintro ⟨e, he, h1⟩
    exact ⟨e, he, by rw [keyIs_eq h1]⟩
theorem nodup_mapKeys {o : Option Obj} (h : IntMap o) (ha : KeysApart o) : (mapKeys o).Nodup := by
  obtain ⟨es, clock, rfl, hk⟩ := h
  have hp := ha.pair rfl
  simp only [mapKeys]
  unfold List.Nodup
  rw [List.pairwise_filterMap]
  refine hp.imp ?_
  intro x y hxy a ha b hb e
  subst e
  apply hxy
  split at ha
  · split at hb
    · rename_i k1 h1 _ k2 h2
      cases ha; cases hb; rw [h1, h2]
    · cases hb
  · cases ha
theorem intMap_empty : IntMap (some (.map #[] 0)) := ⟨_, _, rfl, by simp⟩
theorem keysApart_empty : KeysApart (some (.map #[] 0)) := fun _ _ e => by cases e; exact ⟨by simp, by simp, by simp⟩
theorem mapLook_empty (n : Int) : mapLook (some (.map #[] 0)) n = none := rfl
end Go.Proofs.YtmoebgkfmkdkpaaDoor
