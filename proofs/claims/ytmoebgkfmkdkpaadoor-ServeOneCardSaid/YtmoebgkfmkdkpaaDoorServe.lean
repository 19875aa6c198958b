/- serve: checked, wrap; addr.Put. -/
import Derived.Test.YtmoebgkfmkdkpaaDoorRef
import Derived.Test.YtmoebgkfmkdkpaaDoorSpecB
namespace Go.Proofs.YtmoebgkfmkdkpaaDoor
open Go.RowKit Go.Proofs
set_option linter.unusedSimpArgs false
set_option linter.unusedVariables false

theorem u8_cell {w : World} {F : Nat → Prop} {a : Option Addr} {n c : Nat} {xs : List Int} (h : Sl (Kd.int .u8) w F (.slice a n c) xs) {i : Nat} (hi : i < n) : ∃ b o x, a = some ⟨b, o, none⟩ ∧ F b ∧ b < w.heap.size ∧ xs[i]? = some x ∧ w.cell? ⟨b, o + i, none⟩ = some (.int .u8 x) := by
  obtain ⟨b, o, cs, x, rfl, h1, h2, h3, h4, h5⟩ := h.get hi
  cases (show cs = [.int .u8 x] from h4)
  exact ⟨b, o, x, rfl, h1, h2, h3, by simpa [Kd.int, Kd.flat] using h5 0 _ rfl⟩

set_option maxHeartbeats 1000000 in
theorem serve_checked (v : Value) (xs : List Int) (w : World) (h : SlO (Kd.int .u8) w v xs) :
    Calls Tryd.prog 49 #[v] w fun e w' => e = .returned (.int .u8 (checkOf xs)) ∧ w = w' := by
  obtain ⟨a, c, rfl, hc, hn, hm, hb0⟩ := h.open'
  have HS := Lib.hid h
  clear h hb0
  go_enter Tryd.func49, Tryd.ntmps49
  go_wp2
  go_loop [3, 8] (fun t i => ∃ k : Nat, k ≤ xs.length ∧ i = .int .i64 k ∧ t = .int .u8 (checkOf (xs.take k))) (fun _ i => xs.length - (intOf i).toNat)
  case atStart => exact ⟨0, Nat.zero_le _, rfl, rfl⟩
  case round =>
    obtain ⟨k, hk, rfl, rfl⟩ := hrel
    by_cases hlt : k < xs.length
    · obtain ⟨b, o, x, rfl, _, hbl, hx, hcell⟩ := u8_cell HS.out hlt
      have hX := Lib.hid hx
      clear hx
      go_wp2
      go_round
      case rel => exact ⟨k + 1, by omega, by simp, by rw [List.take_add_one, hX.out]; simp [checkOf, x8]⟩
      case measure => simp [intOf]; omega
    · obtain rfl : k = xs.length := by omega
      go_wp2
      go_ret
      exact ⟨by simp, rfl⟩

/-- An error, if it is one. -/
def silentV (e : Int) : Value := if e = 0 then .nilIface else .iface 109 (.agg #[errV e])
theorem serve_wrap (e : Int) (w : World) : Calls Tryd.prog 62 #[.int .i64 e] w fun ev w' => ev = .returned (silentV e) ∧ w = w' := by
  by_cases h : e = 0
  · subst h
    go_enter Tryd.func62, Tryd.ntmps62
    go_wp2
    go_ret
    exact ⟨rfl, rfl⟩
  · have h1 : (e == 0) = false := by simpa using h
    go_enter Tryd.func62, Tryd.ntmps62
    go_wp2
    go_ret
    exact ⟨by simp [silentV, h], rfl⟩

theorem addr_Put_no (op file rec : Int) (w : World) (hg : addrGood op file rec = false) : Calls Tryd.prog 48 #[addrV op file rec] w fun e w' => e = .returned (.tuple #[.agg #[.int .u8 0, .int .u8 0], .int .i64 1]) ∧ Below w.heap.size w w' := by
  have H := Lib.hid (fun (W : World) => hg ▸ addr_Good op file rec W)
  clear hg
  go_enter Tryd.func48, Tryd.ntmps48
  go_wp2_with (go_at_call 34; refine (H.out _).mono ?_; rintro e w' ⟨rfl, hb⟩; obtain ⟨x, rfl, hx⟩ := ext_intro hb; clear hb)
  go_returns
  exact ⟨rfl, by (repeat' (first | (with_reducible exact Below.refl _ _) | (with_reducible refine below_ext ?_ ?_ _) | (with_reducible refine below_al ?_ ?_ _) | (with_reducible refine Below.drew ?_) | (with_reducible refine Below.setCell ?_ ?_ _) | (with_reducible assumption) | (first | (with_reducible exact Nat.le_refl _) | omega | (simp only [World.size_alloc, World.size_setCell, World.size_drew] at *; omega) | (simp at *; omega) | (simp; done))))⟩
theorem or_file0 : ∀ k < 64, bits BinOp.or IntKind.i64 0 (k : Nat) = 0 + (k : Int) := by decide +kernel
theorem or_file1 : ∀ k < 64, bits BinOp.or IntKind.i64 64 (k : Nat) = 64 + (k : Int) := by decide +kernel
theorem or_file2 : ∀ k < 64, bits BinOp.or IntKind.i64 128 (k : Nat) = 128 + (k : Int) := by decide +kernel
theorem addr_Put_ok (op file rec : Int) (w : World) (hg : addrGood op file rec = true) : Calls Tryd.prog 48 #[addrV op file rec] w fun e w' => e = .returned (.tuple #[.agg #[.int .u8 (op * 64 + file), .int .u8 rec], .int .i64 0]) ∧ Below w.heap.size w w' := by
  have H := Lib.hid (fun (W : World) => hg ▸ addr_Good op file rec W)
  simp [addrGood] at hg
  obtain ⟨⟨⟨⟨⟨h1, h2⟩, h3⟩, h4⟩, h5⟩, h6⟩ := hg
  have hf := Lib.hid h4
  have hf0 := Lib.hid h3
  have hr := Lib.hid h5
  have hr1 := Lib.hid h6
  clear h3 h4 h5 h6
  rcases (show op = 0 ∨ op = 1 ∨ op = 2 by omega) with rfl | rfl | rfl
  all_goals
    clear h1 h2
    go_enter Tryd.func48, Tryd.ntmps48
    go_wp2_with (go_at_call 34; refine (H.out _).mono ?_; rintro e w' ⟨rfl, hb⟩; obtain ⟨x, rfl, hx⟩ := ext_intro hb; clear hb)
    go_returns
    refine ⟨?_, by (repeat' (first | (with_reducible exact Below.refl _ _) | (with_reducible refine below_ext ?_ ?_ _) | (with_reducible refine below_al ?_ ?_ _) | (with_reducible refine Below.drew ?_) | (with_reducible refine Below.setCell ?_ ?_ _) | (with_reducible assumption) | (first | (with_reducible exact Nat.le_refl _) | omega | (simp only [World.size_alloc, World.size_setCell, World.size_drew] at *; omega) | (simp at *; omega) | (simp; done))))⟩
    have q1 := hf.out
    have q2 := hf0.out
    have q3 := hr.out
    have q4 := hr1.out
    obtain ⟨k, rfl⟩ : ∃ k : Nat, file = k := ⟨file.toNat, by omega⟩
    first | rw [or_file0 k (by omega)] | rw [or_file1 k (by omega)] | rw [or_file2 k (by omega)]
    rw [show rec % 256 = rec by omega]
    congr 4
    simp
    omega

theorem and_63 : ∀ k < 256, bits BinOp.and IntKind.u8 (k : Nat) 63 = (k : Int) % 64 := by decide +kernel
set_option maxRecDepth 100000 in
theorem addr_Take (b0 b1 : Int) (w : World) (h0 : 0 ≤ b0 ∧ b0 < 256) (h1 : 0 ≤ b1 ∧ b1 < 256) : Calls Tryd.prog 61 #[.agg #[.int .u8 b0, .int .u8 b1]] w fun e w' => e = .returned (if b0 < 192 then .tuple #[addrV (b0 / 64) (b0 % 64) b1, .int .i64 0] else .tuple #[addrV 0 0 0, .int .i64 2]) ∧ Below w.heap.size w w' := by
  obtain ⟨k, rfl⟩ : ∃ k : Nat, b0 = k := ⟨b0.toNat, by omega⟩
  have ha := and_63 k (by omega)
  have hgd : addrGood ((k : Int) / 64) ((k : Int) % 64) b1 = decide ((k : Int) < 192) := by
    rw [Bool.eq_iff_iff]
    simp [addrGood]
    omega
  have w1 : wrap64 ((k : Int) / 64) = (k : Int) / 64 := by unfold wrap64; omega
  have w2 : wrap64 b1 = b1 := by unfold wrap64; omega
  have H := Lib.hid (fun (W : World) => (show Calls Tryd.prog 34 #[.agg #[.int .i64 (wrap64 ((k : Int) / 64)), .int .i64 ((k : Int) % 64), .int .i64 (wrap64 b1)]] W fun e w' => e = .returned (.bool (decide ((k : Int) < 192))) ∧ Below W.heap.size W w' by rw [w1, w2]; exact hgd ▸ addr_Good ((k : Int) / 64) ((k : Int) % 64) b1 W))
  have W1 := Lib.hid w1
  have W2 := Lib.hid w2
  clear w1 w2
  have H0 := Lib.hid h0
  have H1 := Lib.hid h1
  clear h0 h1 hgd
  go_enter Tryd.func61, Tryd.ntmps61
  by_cases hk : (k : Int) < 192
  · simp only [if_pos hk]
    have e : decide ((k : Int) < 192) = true := by simpa using hk
    rw [e] at H
    clear e
    have HK := Lib.hid hk
    clear hk
    go_wp2_with (go_at_call 34; refine (H.out _).mono ?_; rintro e w' ⟨rfl, hb⟩; obtain ⟨x, rfl, hx⟩ := ext_intro hb; clear hb)
    go_returns
    exact ⟨by simp [HK.out, W1.out, W2.out], by (repeat' (first | (with_reducible exact Below.refl _ _) | (with_reducible refine below_ext ?_ ?_ _) | (with_reducible refine below_al ?_ ?_ _) | (with_reducible refine Below.drew ?_) | (with_reducible refine Below.setCell ?_ ?_ _) | (with_reducible assumption) | (first | (with_reducible exact Nat.le_refl _) | omega | (simp only [World.size_alloc, World.size_setCell, World.size_drew] at *; omega) | (simp at *; omega) | (simp; done))))⟩
  · simp only [if_neg hk]
    have e : decide ((k : Int) < 192) = false := by simpa using hk
    rw [e] at H
    clear e
    have HK := Lib.hid hk
    clear hk
    go_wp2_with (go_at_call 34; refine (H.out _).mono ?_; rintro e w' ⟨rfl, hb⟩; obtain ⟨x, rfl, hx⟩ := ext_intro hb; clear hb)
    go_returns
    exact ⟨by simp [HK.out, W1.out, W2.out], by (repeat' (first | (with_reducible exact Below.refl _ _) | (with_reducible refine below_ext ?_ ?_ _) | (with_reducible refine below_al ?_ ?_ _) | (with_reducible refine Below.drew ?_) | (with_reducible refine Below.setCell ?_ ?_ _) | (with_reducible assumption) | (first | (with_reducible exact Nat.le_refl _) | omega | (simp only [World.size_alloc, World.size_setCell, World.size_drew] at *; omega) | (simp at *; omega) | (simp; done))))⟩

/-- Cells in a block, one behind the other, as a slice of bytes. -/
theorem u8_sl {w : World} {F : Nat → Prop} {b o c : Nat} {xs : List Int} (hF : F b) (hb : b < w.heap.size) (hc : xs.length ≤ c) (hm : c ≤ maxLen) (hl : xs.length ≤ big) (h : ∀ j x, xs[j]? = some x → w.cell? ⟨b, o + j, none⟩ = some (.int .u8 x)) : Sl (Kd.int .u8) w F (.slice (some ⟨b, o, none⟩) xs.length c) xs := by
  refine ⟨_, c, xs.flatMap (fun x => [.int .u8 x]), rfl, hc, ⟨by show _ * 1 ≤ _; omega, hm⟩, Kd.L_flat.2 rfl, fun _ => ⟨b, o, rfl, hF, hb, fun j u hu => ?_⟩⟩
  have e : (xs.flatMap (fun x => [Value.int .u8 x])) = xs.map (Value.int .u8) := by
    clear h hc hl hu
    induction xs with
    | nil => rfl
    | cons x xs ih => rw [List.flatMap_cons, ih]; rfl
  rw [e, List.getElem?_map] at hu
  obtain ⟨x, hx, rfl⟩ := Option.map_eq_some_iff.1 hu
  exact h j x hx
end Go.Proofs.YtmoebgkfmkdkpaaDoor
