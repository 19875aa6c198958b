/- The document's answer, layer 10: Same, at. -/
import Derived.Test.YtmoebgkfmkdkpaaDoorRefB
namespace Go.Proofs.YtmoebgkfmkdkpaaDoor
open Go.RowKit Go.Proofs
set_option linter.unusedSimpArgs false
set_option linter.unusedVariables false

/-- The cells of file i. -/
theorem named_cells {w : World} {F : Nat → Prop} {a : Option Addr} {n c : Nat} {xs : List (Int × File)} (h : Sl namedK w F (.slice a n c) xs) {i : Nat} (hi : i < n) : ∃ b o x v, a = some ⟨b, o, none⟩ ∧ F b ∧ b < w.heap.size ∧ xs[i]? = some x ∧
    w.cell? ⟨b, o + i * 3, none⟩ = some (.int .i64 x.1) ∧ w.cell? ⟨b, o + i * 3 + 1, none⟩ = some (.int .i64 x.2.perm) ∧ w.cell? ⟨b, o + i * 3 + 2, none⟩ = some v ∧ Sl recK w F v x.2.recs := by
  obtain ⟨b, o, cs, x, rfl, h1, h2, h3, ⟨v, rfl, hv⟩, h5⟩ := h.get hi
  exact ⟨b, o, x, v, rfl, h1, h2, h3, h5 0 _ rfl, by rw [Nat.add_assoc]; exact h5 1 _ rfl, by rw [Nat.add_assoc]; exact h5 2 _ rfl, hv⟩

/-- Are lists of files one? -/
def sameN (x y : Int × File) : Bool := x.1 == y.1 && sameF x.2 y.2
theorem sameN_iff (x y : Int × File) : sameN x y = true ↔ x = y := by
  obtain ⟨n, f⟩ := x; obtain ⟨m, g⟩ := y
  simp [sameN, sameF_iff]
def sameL : List (Int × File) → List (Int × File) → Bool
  | [], [] => true
  | x :: xs, y :: ys => sameN x y && sameL xs ys
  | _, _ => false
theorem sameL_iff : ∀ xs ys : List (Int × File), sameL xs ys = true ↔ xs = ys
  | [], [] => by simp [sameL]
  | [], _ :: _ => by simp [sameL]
  | _ :: _, [] => by simp [sameL]
  | x :: xs, y :: ys => by simp [sameL, sameN_iff, sameL_iff xs ys]
theorem sameL_self (xs : List (Int × File)) : sameL xs xs = true := (sameL_iff _ _).2 rfl

set_option maxHeartbeats 1600000 in
theorem ref10_Same (xs ys : List (Int × File)) (u v : Value) (w : World) (hu : SlO namedK w u xs) (hv : SlO namedK w v ys) :
    Calls Tryd.prog 16 #[u, v] w fun e w' => e = .returned (.bool (sameL xs ys)) ∧ Below w.heap.size w w' := by
  obtain ⟨a, c, rfl, hc, hn, hm, hb0⟩ := hu.open'
  obtain ⟨a', c', rfl, hc', hn', hm', hb0'⟩ := hv.open'
  clear hb0 hb0'
  cases g1 : ((xs.length : Int) != ys.length) with
  | true =>
    have hf := Lib.hid (show sameL xs ys = false by
      simp at g1; rw [Bool.eq_false_iff]; intro e; rw [sameL_iff] at e; rw [e] at g1; exact absurd rfl g1)
    clear hu hv
    go_enter Tryd.func16, Tryd.ntmps16
    go_wp2
    go_returns
    exact ⟨by rw [hf.out]; rfl, by (repeat' (first | (with_reducible exact Below.refl _ _) | (with_reducible refine below_ext ?_ ?_ _) | (with_reducible refine below_al ?_ ?_ _) | (with_reducible refine Below.drew ?_) | (with_reducible refine below_drewN ?_ _) | (with_reducible refine Below.setCell ?_ ?_ _) | (with_reducible assumption) | (first | (with_reducible exact Nat.le_refl _) | omega | (simp only [World.size_alloc, World.size_setCell, World.size_drew] at *; omega) | (simp at *; omega) | (simp; done))))⟩
  | false =>
    have hl : ys.length = xs.length := by simp at g1; omega
    rw [hl] at hc' hn' hv ⊢
    clear g1 hn'
    have HU := Lib.hid hu
    have HV := Lib.hid hv
    have HL := Lib.hid hl
    clear hu hv hl
    go_enter Tryd.func16, Tryd.ntmps16
    go_wp2
    go_loopw [5] (fun i wr => ∃ k : Nat, k ≤ xs.length ∧ i = .int .i64 k ∧ xs.take k = ys.take k ∧ Below w.heap.size w wr) (fun i _ => xs.length - (intOf i).toNat)
    case atStart => exact ⟨0, Nat.zero_le _, rfl, rfl, Below.refl _ _⟩
    case round =>
      obtain ⟨k, hk, rfl, ht, hB⟩ := hrel
      have hsz := hB.size
      have HT := Lib.hid ht
      clear ht
      by_cases hlt : k < xs.length
      · obtain ⟨b, o, x, s, rfl, -, hb, hr, c0, c1, c2, hs⟩ := named_cells (HU.out.up hB) hlt
        obtain ⟨b', o', x', s', rfl, -, hb', hr', d0, d1, d2, hs'⟩ := named_cells (i := k) (HV.out.up hB) hlt
        obtain ⟨n, f⟩ := x
        obtain ⟨n', f'⟩ := x'
        dsimp only at c0 c1 c2 hs d0 d1 d2 hs'
        have HR := Lib.hid hr
        have HR' := Lib.hid hr'
        have HC := Lib.hid (fun (W : World) (hb : Below wr.heap.size wr W) => ref09_Same f f' s s' W (SlO.up hs hb) (SlO.up hs' hb))
        obtain ⟨a1, c1', rfl, _⟩ := hs.open'
        obtain ⟨a2, c2', rfl, _⟩ := hs'.open'
        have hn1 : (0 : Int) ≤ (k : Int) := by omega
        have hn2 : (k : Int) < (xs.length : Int) := by omega
        clear hr hr' hs hs'
        cases g2 : (n != n') with
        | true =>
          go_wp2
          refine wp_region_ext (by kernel_rfl) (by kernel_rfl) ?_; (repeat (go_big_quiet_step ((go_at_call 33; exact Calls.ext_of (HC.out _ (by (repeat' (first | (with_reducible exact Below.refl _ _) | (with_reducible refine below_ext ?_ ?_ _) | (with_reducible refine below_al ?_ ?_ _) | (with_reducible refine Below.drew ?_) | (with_reducible refine below_drewN ?_ _) | (with_reducible refine Below.setCell ?_ ?_ _) | (with_reducible assumption) | (first | (with_reducible exact Nat.le_refl _) | omega | (simp only [World.size_alloc, World.size_setCell, World.size_drew] at *; omega) | (simp at *; omega) | (simp; done)))))))))); refine wpQuiet_nil ?_; rintro _ ⟨nq, rfl⟩; have hq := size_grownTo _ nq
          go_wp2
          go_returns
          refine ⟨?_, by (repeat' (first | (with_reducible exact Below.refl _ _) | (with_reducible refine below_ext ?_ ?_ _) | (with_reducible refine below_al ?_ ?_ _) | (with_reducible refine Below.drew ?_) | (with_reducible refine below_drewN ?_ _) | (with_reducible refine Below.setCell ?_ ?_ _) | (with_reducible assumption) | (first | (with_reducible exact Nat.le_refl _) | omega | (simp only [World.size_alloc, World.size_setCell, World.size_drew] at *; omega) | (simp at *; omega) | (simp; done))))⟩
          rw [show sameL xs ys = false by
            rw [Bool.eq_false_iff]; intro e; rw [sameL_iff] at e; subst e
            have := HR.out.symm.trans HR'.out
            simp at this g2
            exact g2 this.1]
          rfl
        | false =>
          cases g3 : sameF f f' with
          | true =>
            rw [g3] at HC
            have HE := Lib.hid (show n = n' ∧ f = f' from ⟨by simpa using g2, (sameF_iff _ _).1 g3⟩)
            clear g3
            go_wp2
            refine wp_region_ext (by kernel_rfl) (by kernel_rfl) ?_; (repeat (go_big_quiet_step ((go_at_call 33; exact Calls.ext_of (HC.out _ (by (repeat' (first | (with_reducible exact Below.refl _ _) | (with_reducible refine below_ext ?_ ?_ _) | (with_reducible refine below_al ?_ ?_ _) | (with_reducible refine Below.drew ?_) | (with_reducible refine below_drewN ?_ _) | (with_reducible refine Below.setCell ?_ ?_ _) | (with_reducible assumption) | (first | (with_reducible exact Nat.le_refl _) | omega | (simp only [World.size_alloc, World.size_setCell, World.size_drew] at *; omega) | (simp at *; omega) | (simp; done)))))))))); refine wpQuiet_nil ?_; rintro _ ⟨nq, rfl⟩; have hq := size_grownTo _ nq
            go_wp2
            go_roundw
            case rel => exact ⟨k + 1, by omega, by simp, by rw [List.take_add_one, List.take_add_one, HT.out, HR.out, HR'.out, HE.out.1, HE.out.2], by (repeat' (first | (with_reducible exact Below.refl _ _) | (with_reducible refine below_ext ?_ ?_ _) | (with_reducible refine below_al ?_ ?_ _) | (with_reducible refine Below.drew ?_) | (with_reducible refine below_drewN ?_ _) | (with_reducible refine Below.setCell ?_ ?_ _) | (with_reducible assumption) | (first | (with_reducible exact Nat.le_refl _) | omega | (simp only [World.size_alloc, World.size_setCell, World.size_drew] at *; omega) | (simp at *; omega) | (simp; done))))⟩
            case measure => simp [intOf]; omega
          | false =>
            rw [g3] at HC
            have HE := Lib.hid g3
            clear g3
            go_wp2
            refine wp_region_ext (by kernel_rfl) (by kernel_rfl) ?_; (repeat (go_big_quiet_step ((go_at_call 33; exact Calls.ext_of (HC.out _ (by (repeat' (first | (with_reducible exact Below.refl _ _) | (with_reducible refine below_ext ?_ ?_ _) | (with_reducible refine below_al ?_ ?_ _) | (with_reducible refine Below.drew ?_) | (with_reducible refine below_drewN ?_ _) | (with_reducible refine Below.setCell ?_ ?_ _) | (with_reducible assumption) | (first | (with_reducible exact Nat.le_refl _) | omega | (simp only [World.size_alloc, World.size_setCell, World.size_drew] at *; omega) | (simp at *; omega) | (simp; done)))))))))); refine wpQuiet_nil ?_; rintro _ ⟨nq, rfl⟩; have hq := size_grownTo _ nq
            go_wp2
            go_returns
            refine ⟨?_, by (repeat' (first | (with_reducible exact Below.refl _ _) | (with_reducible refine below_ext ?_ ?_ _) | (with_reducible refine below_al ?_ ?_ _) | (with_reducible refine Below.drew ?_) | (with_reducible refine below_drewN ?_ _) | (with_reducible refine Below.setCell ?_ ?_ _) | (with_reducible assumption) | (first | (with_reducible exact Nat.le_refl _) | omega | (simp only [World.size_alloc, World.size_setCell, World.size_drew] at *; omega) | (simp at *; omega) | (simp; done))))⟩
            rw [show sameL xs ys = false by
              rw [Bool.eq_false_iff]; intro e; rw [sameL_iff] at e; subst e
              have := HR.out.symm.trans HR'.out
              simp at this
              have h2 := (sameF_iff f f').2 this.2
              rw [HE.out] at h2; cases h2]
            rfl
      · obtain rfl : k = xs.length := by omega
        go_wp2
        go_returns
        refine ⟨?_, by (repeat' (first | (with_reducible exact Below.refl _ _) | (with_reducible refine below_ext ?_ ?_ _) | (with_reducible refine below_al ?_ ?_ _) | (with_reducible refine Below.drew ?_) | (with_reducible refine below_drewN ?_ _) | (with_reducible refine Below.setCell ?_ ?_ _) | (with_reducible assumption) | (first | (with_reducible exact Nat.le_refl _) | omega | (simp only [World.size_alloc, World.size_setCell, World.size_drew] at *; omega) | (simp at *; omega) | (simp; done))))⟩
        rw [show sameL xs ys = true by
          rw [sameL_iff]
          have := HT.out
          rw [List.take_length, List.take_of_length_le (by rw [HL.out]; exact Nat.le_refl _)] at this
          exact this]
        rfl

/-- The document's store s lies at block p; its list leads to blocks of F. -/
structure RefAt (w : World) (F : Nat → Prop) (p : Nat) (s : St) : Prop where
  cs : ∃ v, w.cell? ⟨p, 0, none⟩ = some v ∧ Sl namedK w F v s.files
  c1 : w.cell? ⟨p, 1, none⟩ = some (.int .i64 s.denied)
  fr : ∀ o, w.frozen? ⟨p, o, none⟩ = false
  lt : p < w.heap.size
  np : ¬ F p
  flt : ∀ b, F b → b < w.heap.size
  ok : s.Ok
theorem RefAt.keep {w w' : World} {F : Nat → Prop} {p : Nat} {s : St} (h : RefAt w F p s) (hk : ∀ b, F b ∨ b = p → w'.heap[b]? = w.heap[b]?) : RefAt w' F p s where
  cs := by
    obtain ⟨v, h1, h2⟩ := h.cs
    exact ⟨v, (World.cell?_of_block (w := w) (a := ⟨p, 0, none⟩) (hk p (.inr rfl))).trans h1, h2.keep fun b hb => hk b (.inl hb)⟩
  c1 := (World.cell?_of_block (w := w) (a := ⟨p, 1, none⟩) (hk p (.inr rfl))).trans h.c1
  fr := fun o => (World.frozen?_of_block (w := w) (a := ⟨p, o, none⟩) (hk p (.inr rfl))).trans (h.fr o)
  lt := by
    have e := hk p (.inr rfl)
    rw [Array.getElem?_eq_getElem h.lt] at e
    exact (Array.getElem?_eq_some_iff.1 e).1
  np := h.np
  flt := fun b hb => by
    have e := hk b (.inl hb)
    rw [Array.getElem?_eq_getElem (h.flt b hb)] at e
    exact (Array.getElem?_eq_some_iff.1 e).1
  ok := h.ok
theorem RefAt.mono {w : World} {F G : Nat → Prop} {p : Nat} {s : St} (h : RefAt w F p s) (hFG : ∀ b, F b → G b) (hp : ¬ G p) (hG : ∀ b, G b → b < w.heap.size) : RefAt w G p s where
  cs := by
    obtain ⟨v, h1, h2⟩ := h.cs
    exact ⟨v, h1, h2.mono hFG⟩
  c1 := h.c1
  fr := h.fr
  lt := h.lt
  np := hp
  flt := hG
  ok := h.ok
theorem RefAt.up {w w' : World} {F : Nat → Prop} {p : Nat} {s : St} (h : RefAt w F p s) (hb : Below w.heap.size w w') : RefAt w' F p s :=
  h.keep fun b hk => by
    rcases hk with hk | rfl
    · exact hb.block b (h.flt b hk)
    · exact hb.block _ h.lt
/-- The blocks that a store may lead to: F, and what was made since w, but for p. -/
def Since (F : Nat → Prop) (w w' : World) (p : Nat) (b : Nat) : Prop := (F b ∨ New w w' b) ∧ b ≠ p

/-- The place of a number. -/
def placeF : List (Int × File) → Int → Int
  | [], _ => -1
  | x :: r, n => if x.1 = n then 0 else if placeF r n < 0 then -1 else placeF r n + 1
theorem placeF_some {l : List (Int × File)} {n : Int} {i : Nat} {x : Int × File} (hi : l[i]? = some x) (hx : x.1 = n) (hb : ∀ j < i, ∀ y, l[j]? = some y → y.1 ≠ n) : placeF l n = i := by
  induction l generalizing i with
  | nil => simp at hi
  | cons y r ih =>
    cases i with
    | zero => simp at hi; subst hi; simp [placeF, hx]
    | succ i =>
      have hy : y.1 ≠ n := hb 0 (by omega) y rfl
      simp only [List.getElem?_cons_succ] at hi
      have := ih hi (fun j hj z hz => hb (j + 1) (by omega) z (by simpa using hz))
      simp only [placeF, if_neg hy, this]
      rw [if_neg (by omega)]
      omega
theorem placeF_none {l : List (Int × File)} {n : Int} (hb : ∀ (j : Nat) y, l[j]? = some y → y.1 ≠ n) : placeF l n = -1 := by
  induction l with
  | nil => rfl
  | cons y r ih =>
    have hy : y.1 ≠ n := hb 0 y rfl
    have := ih (fun j z hz => hb (j + 1) z (by simpa using hz))
    simp only [placeF, if_neg hy, this]
    rfl
theorem lookF_none_of {l : List (Int × File)} {n : Int} (hb : ∀ (j : Nat) y, l[j]? = some y → y.1 ≠ n) : lookF l n = none := by
  induction l with
  | nil => rfl
  | cons y r ih =>
    have hy : y.1 ≠ n := hb 0 y rfl
    obtain ⟨k, g⟩ := y
    simp only [lookF, if_neg hy]
    exact ih (fun j z hz => hb (j + 1) z (by simpa using hz))
theorem lookF_some_of {l : List (Int × File)} {n : Int} {i : Nat} {x : Int × File} (hi : l[i]? = some x) (hx : x.1 = n) (hb : ∀ j < i, ∀ y, l[j]? = some y → y.1 ≠ n) : lookF l n = some x.2 := by
  induction l generalizing i with
  | nil => simp at hi
  | cons y r ih =>
    cases i with
    | zero => simp at hi; subst hi; simp [lookF, hx]
    | succ i =>
      have hy : y.1 ≠ n := hb 0 (by omega) y rfl
      simp only [List.getElem?_cons_succ] at hi
      obtain ⟨k, g⟩ := y
      simp only [lookF, if_neg hy]
      exact ih hi (fun j hj z hz => hb (j + 1) (by omega) z (by simpa using hz))

/-- Where a file is, if it is. -/
def AtPlace (l : List (Int × File)) (n r : Int) : Prop := (r = -1 ∧ lookF l n = none) ∨ ∃ (i : Nat) (f : File), r = i ∧ l[i]? = some (n, f) ∧ lookF l n = some f

set_option maxHeartbeats 1600000 in
theorem ref10_at {w : World} {F : Nat → Prop} {p : Nat} {s : St} (h : RefAt w F p s) (n : Int) :
    Calls Tryd.prog 60 #[.pointer (some ⟨p, 0, none⟩), .int .i64 n] w fun e w' => e = .returned (.int .i64 (placeF s.files n)) ∧ w = w' := by
  obtain ⟨v, c0, hs⟩ := h.cs
  have hpl := h.lt
  obtain ⟨a, c, rfl, hc, hn, hm, hb0⟩ := hs.open'
  have HS := Lib.hid hs
  clear hb0 hs h
  go_enter Tryd.func60, Tryd.ntmps60
  go_wp2
  go_loop [5] (fun i => ∃ k : Nat, k ≤ s.files.length ∧ i = .int .i64 k ∧ ∀ j < k, ∀ y, s.files[j]? = some y → y.1 ≠ n) (fun i => s.files.length - (intOf i).toNat)
  case atStart => exact ⟨0, Nat.zero_le _, rfl, fun j hj => by omega⟩
  case round =>
    obtain ⟨k, hk, rfl, hall⟩ := hrel
    have HA := Lib.hid hall
    clear hall
    by_cases hlt : k < s.files.length
    · obtain ⟨b, o, x, u, rfl, -, hb, hr, d0, d1, d2, hu⟩ := named_cells HS.out hlt
      have HR := Lib.hid hr
      clear hr hu
      cases g : (x.1 == n) with
      | true =>
        have HE := Lib.hid (show x.1 = n by simpa using g)
        go_wp2
        go_ret
        refine ⟨?_, rfl⟩
        rw [placeF_some HR.out HE.out HA.out]; rfl
      | false =>
        have HE := Lib.hid (show x.1 ≠ n by simpa using g)
        go_wp2
        go_round
        case rel =>
          refine ⟨k + 1, by omega, by simp, fun j hj y hy => ?_⟩
          rcases (show j < k ∨ j = k by omega) with h | h
          · exact HA.out j h y hy
          · subst h
            have := HR.out.symm.trans hy
            cases this
            exact HE.out
        case measure => simp [intOf]; omega
    · obtain rfl : k = s.files.length := by omega
      go_wp2
      go_ret
      refine ⟨?_, rfl⟩
      rw [placeF_none (fun j y hy => HA.out j ((List.getElem?_eq_some_iff.1 hy).1) y hy)]; rfl
theorem atPlace (l : List (Int × File)) (n : Int) : AtPlace l n (placeF l n) := by
  induction l with
  | nil => exact .inl ⟨rfl, rfl⟩
  | cons x r ih =>
    obtain ⟨k, g⟩ := x
    by_cases hk : k = n
    · subst hk
      exact .inr ⟨0, g, by simp [placeF], rfl, by simp [lookF]⟩
    · simp only [placeF, if_neg hk]
      rcases ih with ⟨h1, h2⟩ | ⟨i, f, h1, h2, h3⟩
      · rw [h1]
        exact .inl ⟨rfl, by simp only [lookF, if_neg hk, h2]⟩
      · rw [h1, if_neg (by omega)]
        exact .inr ⟨i + 1, f, by omega, h2, by simp only [lookF, if_neg hk, h3]⟩
end Go.Proofs.YtmoebgkfmkdkpaaDoor
