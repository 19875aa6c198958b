/- Kinds: how a datum lies in cells; slices that read as lists. -/
import Derived.Test.YtmoebgkfmkdkpaaDoorBase
namespace Go.Proofs.YtmoebgkfmkdkpaaDoor
open Go.RowKit

/-! ### kinds: how a datum lies in cells; F: the blocks to which it leads -/
structure Kd (α : Type) where
  sz : Nat
  /-- bytes of one -/
  bytes : Nat
  pos : 0 < bytes
  R : World → (Nat → Prop) → α → List Value → Prop
  len : ∀ {w F x cs}, R w F x cs → cs.length = sz
  keep : ∀ {w w' F x cs}, R w F x cs → (∀ b, F b → w'.heap[b]? = w.heap[b]?) → R w' F x cs
  mono : ∀ {w F G x cs}, R w F x cs → (∀ b, F b → G b) → R w G x cs

def Kd.flat {α : Type} (n b : Nat) (hb : 0 < b) (enc : α → List Value) (h : ∀ x, (enc x).length = n) : Kd α where
  sz := n
  bytes := b
  pos := hb
  R := fun _ _ x cs => cs = enc x
  len := fun e => by rw [e]; exact h _
  keep := fun e _ => e
  mono := fun e _ => e

/-- The cells of a list of data, one behind the other. -/
def Kd.L {α : Type} (k : Kd α) (w : World) (F : Nat → Prop) : List α → List Value → Prop
  | [], cs => cs = []
  | x :: xs, cs => ∃ c0 c1, cs = c0 ++ c1 ∧ k.R w F x c0 ∧ Kd.L k w F xs c1

namespace Kd
variable {α β : Type} {k : Kd α} {w w' : World} {F G : Nat → Prop}
theorem L_len : ∀ {xs : List α} {cs : List Value}, k.L w F xs cs → cs.length = xs.length * k.sz
  | [], cs, h => by simp [show cs = [] from h]
  | x :: xs, cs, ⟨c0, c1, e, h0, h1⟩ => by subst e; simp [k.len h0, L_len h1, Nat.add_mul]; omega
theorem L_keep : ∀ {xs : List α} {cs : List Value}, k.L w F xs cs → (∀ b, F b → w'.heap[b]? = w.heap[b]?) → k.L w' F xs cs
  | [], _, h, _ => h
  | _ :: _, _, ⟨c0, c1, e, h0, h1⟩, hk => ⟨c0, c1, e, k.keep h0 hk, L_keep h1 hk⟩
theorem L_mono : ∀ {xs : List α} {cs : List Value}, k.L w F xs cs → (∀ b, F b → G b) → k.L w G xs cs
  | [], _, h, _ => h
  | _ :: _, _, ⟨c0, c1, e, h0, h1⟩, hk => ⟨c0, c1, e, k.mono h0 hk, L_mono h1 hk⟩
theorem L_get : ∀ {xs : List α} {cs : List Value}, k.L w F xs cs → ∀ {i : Nat} {x : α}, xs[i]? = some x → ∃ c, k.R w F x c ∧ ∀ j u, c[j]? = some u → cs[i * k.sz + j]? = some u
  | [], _, _, i, x, hx => by simp at hx
  | y :: ys, _, ⟨c0, c1, e, h0, h1⟩, 0, x, hx => by
    simp at hx
    subst hx e
    refine ⟨c0, h0, fun j u hu => ?_⟩
    have := (List.getElem?_eq_some_iff.1 hu).1
    rw [Nat.zero_mul, Nat.zero_add, List.getElem?_append_left this]
    exact hu
  | y :: ys, _, ⟨c0, c1, e, h0, h1⟩, i + 1, x, hx => by
    simp only [List.getElem?_cons_succ] at hx
    obtain ⟨c, hc, hcs⟩ := L_get h1 hx
    subst e
    refine ⟨c, hc, fun j u hu => ?_⟩
    have hl := k.len h0
    rw [List.getElem?_append_right (by rw [hl, Nat.add_mul]; omega), hl, show (i + 1) * k.sz + j - k.sz = i * k.sz + j by rw [Nat.add_mul]; omega]
    exact hcs j u hu
theorem L_append : ∀ {xs ys : List α} {cs ds : List Value}, k.L w F xs cs → k.L w F ys ds → k.L w F (xs ++ ys) (cs ++ ds)
  | [], _, cs, _, h, h' => by simpa [show cs = [] from h] using h'
  | x :: xs, _, _, _, ⟨c0, c1, e, h0, h1⟩, h' => ⟨c0, c1 ++ _, by simp [e], h0, L_append h1 h'⟩
theorem L_one {x : α} {cs : List Value} (h : k.R w F x cs) : k.L w F [x] cs := ⟨cs, [], by simp, h, rfl⟩
theorem L_snoc {xs : List α} {x : α} {cs ds : List Value} (h : k.L w F xs cs) (h' : k.R w F x ds) : k.L w F (xs ++ [x]) (cs ++ ds) := L_append h (L_one h')
theorem L_flat {n b : Nat} {hb : 0 < b} {enc : α → List Value} {h : ∀ x, (enc x).length = n} : ∀ {xs : List α} {cs : List Value}, (Kd.flat n b hb enc h).L w F xs cs ↔ cs = xs.flatMap enc
  | [], cs => by simp [Kd.L]
  | x :: xs, cs => by
    constructor
    · rintro ⟨c0, c1, e, h0, h1⟩
      rw [e, show c0 = enc x from h0, L_flat.1 h1]; rfl
    · intro e
      exact ⟨enc x, xs.flatMap enc, e, rfl, L_flat.2 rfl⟩
theorem L_split : ∀ {xs ys : List α} {cs : List Value}, k.L w F (xs ++ ys) cs → ∃ c d, cs = c ++ d ∧ k.L w F xs c ∧ k.L w F ys d
  | [], _, cs, h => ⟨[], cs, rfl, rfl, h⟩
  | x :: xs, ys, cs, ⟨c0, c1, e, h0, h1⟩ => by
    obtain ⟨c, d, e', h2, h3⟩ := L_split (xs := xs) h1
    exact ⟨c0 ++ c, d, by simp [e, e'], ⟨c0, c, rfl, h0, h2⟩, h3⟩
end Kd

/-- No slice that comes in or is made is longer than this. -/
def big : Nat := 140737488355328

/-- v is a slice that reads as xs; all that it leads to lies in blocks of F. -/
def Sl {α : Type} (k : Kd α) (w : World) (F : Nat → Prop) (v : Value) (xs : List α) : Prop :=
  ∃ a c cs, v = .slice a xs.length c ∧ xs.length ≤ c ∧ (xs.length * k.bytes ≤ big ∧ c ≤ maxLen) ∧ k.L w F xs cs ∧ (0 < c → ∃ b o, a = some ⟨b, o, none⟩ ∧ F b ∧ b < w.heap.size ∧ ∀ j u, cs[j]? = some u → w.cell? ⟨b, o + j, none⟩ = some u)

namespace Sl
variable {α β : Type} {k : Kd α} {w w' : World} {F G : Nat → Prop} {v : Value} {xs : List α}
theorem keep (h : Sl k w F v xs) (hk : ∀ b, F b → w'.heap[b]? = w.heap[b]?) : Sl k w' F v xs := by
  obtain ⟨a, c, cs, rfl, h1, h2, h3, h4⟩ := h
  refine ⟨a, c, cs, rfl, h1, h2, Kd.L_keep h3 hk, fun hc => ?_⟩
  obtain ⟨b, o, rfl, hF, hlt, hcs⟩ := h4 hc
  refine ⟨b, o, rfl, hF, ?_, fun j u hu => ?_⟩
  · have := hk b hF
    rw [Array.getElem?_eq_getElem hlt] at this
    exact (Array.getElem?_eq_some_iff.1 this).1
  · rw [World.cell?_of_block (w := w) (a := ⟨b, o + j, none⟩) (hk b hF)]
    exact hcs j u hu
theorem mono (h : Sl k w F v xs) (hk : ∀ b, F b → G b) : Sl k w G v xs := by
  obtain ⟨a, c, cs, rfl, h1, h2, h3, h4⟩ := h
  refine ⟨a, c, cs, rfl, h1, h2, Kd.L_mono h3 hk, fun hc => ?_⟩
  obtain ⟨b, o, rfl, hF, hlt, hcs⟩ := h4 hc
  exact ⟨b, o, rfl, hk _ hF, hlt, hcs⟩
theorem nil : Sl k w F (.slice none 0 0) [] := ⟨none, 0, [], rfl, by simp, by simp [big, maxLen], rfl, fun h => by omega⟩
/-- The value itself. -/
theorem open' (h : Sl k w F v xs) : ∃ a c, v = .slice a xs.length c ∧ xs.length ≤ c ∧ xs.length ≤ 140737488355328 ∧ c ≤ 9223372036854775807 ∧ xs.length * k.bytes ≤ 140737488355328 := by
  obtain ⟨a, c, cs, rfl, h1, h2, _⟩ := h
  exact ⟨a, c, rfl, h1, Nat.le_trans (Nat.le_mul_of_pos_right _ k.pos) h2.1, h2.2, h2.1⟩
theorem get {a : Option Addr} {n c : Nat} (h : Sl k w F (.slice a n c) xs) {i : Nat} (hi : i < n) : ∃ b o cs x, a = some ⟨b, o, none⟩ ∧ F b ∧ b < w.heap.size ∧ xs[i]? = some x ∧ k.R w F x cs ∧ ∀ j u, cs[j]? = some u → w.cell? ⟨b, o + (i * k.sz + j), none⟩ = some u := by
  obtain ⟨a', c', cs, e, h1, h2, h3, h4⟩ := h
  cases e
  obtain ⟨b, o, rfl, hF, hlt, hcs⟩ := h4 (by omega)
  obtain ⟨d, hd, hdc⟩ := Kd.L_get h3 (List.getElem?_eq_getElem hi)
  exact ⟨b, o, d, _, rfl, hF, hlt, List.getElem?_eq_getElem hi, hd, fun j u hu => hcs _ _ (hdc j u hu)⟩
theorem cells {ad : Addr} {n c : Nat} (h : Sl k w F (.slice (some ad) n c) xs) : ∃ cs, k.L w F xs cs ∧ cs.length = n * k.sz ∧ ∀ j u, cs[j]? = some u → w.cell? (ad.add j) = some u := by
  obtain ⟨a', c', cs, e, h1, h2, h3, h4⟩ := h
  cases e
  refine ⟨cs, h3, Kd.L_len h3, fun j u hu => ?_⟩
  have hj := (List.getElem?_eq_some_iff.1 hu).1
  rw [Kd.L_len h3] at hj
  have hp : 0 < c := by
    rcases Nat.eq_zero_or_pos xs.length with h0 | h0
    · simp [h0] at hj
    · omega
  obtain ⟨b, o, e2, _, _, hcs⟩ := h4 hp
  cases e2
  rw [Addr.add_lit]
  exact hcs j u hu
/-- A row that the call itself has made, as what it reads as. -/
theorem of_owns {base : Nat} {e : TypeId} {n : Nat} {cs : List Value} (h : w.ownsRow base e k.sz v n cs) (hL : k.L w F xs cs) (hn : n = xs.length) (hb : n * k.bytes ≤ big) (hF : ∀ b, v.ownBlock = some b → F b) : Sl k w F v xs := by
  subst hn
  obtain ⟨h1, ⟨rfl, h2⟩ | ⟨g, cap, cur, rfl, h3, h4, h5, h6, h7, h8⟩⟩ := h
  · exact ⟨none, 0, cs, by simp [h2], by omega, ⟨hb, by simp [maxLen]⟩, hL, fun h => by omega⟩
  · refine ⟨some ⟨g, 0, none⟩, cap, cs, rfl, h5, ⟨hb, h6⟩, hL, fun _ => ⟨g, 0, rfl, hF g rfl, (Array.getElem?_eq_some_iff.1 h4).1, fun j u hu => ?_⟩⟩
    rw [Nat.zero_add, cell_of_row w g j cur e (0, 0) h4]
    rw [← h8, List.getElem?_take] at hu
    split at hu
    · simpa using hu
    · cases hu
end Sl

/-- A slice that reads as xs in w, whatever it leads to. -/
abbrev SlO {α : Type} (k : Kd α) (w : World) (v : Value) (xs : List α) : Prop := Sl k w (fun b => b < w.heap.size) v xs
/-- The blocks that are new in w'. -/
def New (w w' : World) (b : Nat) : Prop := w.heap.size ≤ b ∧ b < w'.heap.size
theorem New.of_owns {w w' : World} {e : TypeId} {size n : Nat} {v : Value} {cs : List Value} (h : w'.ownsRow w.heap.size e size v n cs) : ∀ b, v.ownBlock = some b → New w w' b := fun b hb => h.lt b hb
theorem SlO.up {α : Type} {k : Kd α} {w w' : World} {v : Value} {xs : List α} (h : SlO k w v xs) (hb : Below w.heap.size w w') : SlO k w' v xs :=
  (Sl.keep h fun b hb' => hb.block b hb').mono fun _ hb' => Nat.lt_of_lt_of_le hb' hb.size
theorem Sl.upN {α : Type} {k : Kd α} {w0 w w' : World} {v : Value} {xs : List α} (h : Sl k w (New w0 w) v xs) (hb : Below w.heap.size w w') : Sl k w' (New w0 w') v xs :=
  (Sl.keep h fun b hb' => hb.block b hb'.2).mono fun _ hb' => ⟨hb'.1, Nat.lt_of_lt_of_le hb'.2 hb.size⟩
theorem Sl.old {α : Type} {k : Kd α} {w0 w : World} {v : Value} {xs : List α} (h : Sl k w (New w0 w) v xs) : SlO k w v xs := h.mono fun _ hb' => hb'.2

/-- A slice as a part of a datum: one cell. -/
def Kd.slice {α : Type} (k : Kd α) : Kd (List α) where
  sz := 1
  bytes := 24
  pos := by decide
  R := fun w F xs cs => ∃ v, cs = [v] ∧ Sl k w F v xs
  len := fun ⟨_, e, _⟩ => by simp [e]
  keep := fun ⟨v, e, h⟩ hk => ⟨v, e, h.keep hk⟩
  mono := fun ⟨v, e, h⟩ hk => ⟨v, e, h.mono hk⟩

def Kd.int (q : IntKind) : Kd Int := Kd.flat 1 (q.bits / 8) (by cases q <;> decide) (fun x => [.int q x]) (fun _ => rfl)
def Kd.bool : Kd Bool := Kd.flat 1 1 (by decide) (fun x => [.bool x]) (fun _ => rfl)

end Go.Proofs.YtmoebgkfmkdkpaaDoor
